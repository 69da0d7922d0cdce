import Derived.Test.YtfkjokencmdiiaaDoorQ4
namespace Go.Proofs.YtfkjokencmdiiaaDoor
open Go.RowKit Go.Shelf

theorem numOf_val32 {s : ByteArray} {v : Nat} (h : numOf s 32 = some v) : v ≤ 32 ∧ dig v = s.data.toList := by
  have h1 := numOf_le32 h
  refine ⟨h1, ?_⟩
  unfold numOf at h
  split at h
  · rename_i n hn
    split at h
    · rename_i hc
      cases h
      rw [← ByteArray.toList_eq, ← hc.2.2, ← itoa_dig (by omega), Int.toNat_of_nonneg hc.1]
    · cases h
  · cases h
theorem slash_parts {s : ByteArray} (h : hasSlash s = true) : s.data.toList = (headOf s).data.toList ++ 47 :: (tailOf s).data.toList := by
  unfold hasSlash at h
  unfold headOf tailOf
  by_cases hi : Lib.index s.data.toList [47] = -1
  · unfold Lib.cut at h
    rw [if_neg (by omega)] at h
    cases h
  · obtain ⟨p, r, hl, hp⟩ := index_parts hi
    rw [hl, cut_at r hp]
/-- A net that is read is the net that is written. -/
theorem net_inv {s : ByteArray} {x k : Nat} (h : netOf s = some (x, k)) : s.data.toList = netText x k ∧ k ≤ 32 ∧ x < 4294967296 ∧ x % 2 ^ (32 - k) = 0 := by
  unfold netOf at h
  split at h
  · rename_i y l h1 h2 h3
    split at h
    · rename_i h4
      cases h
      obtain ⟨k1, k2⟩ := numOf_val32 h3
      refine ⟨?_, k1, parseOf_lt h2, h4⟩
      rw [slash_parts h1, ← text_parse h2, ← k2]
      rfl
    · cases h
  · cases h

/-- How a net's text ends. -/
def endOf (j : Nat) : ByteArray := ⟨(47 :: dig j).toArray⟩
theorem endOf_size {j : Nat} (h : j ≤ 32) : (endOf j).size = (dig j).length + 1 ∧ 2 ≤ (endOf j).size ∧ (endOf j).size ≤ 4 := by
  have := (dig_facts (show j < 256 by omega)).2.1
  unfold endOf
  rw [size_of_list]
  have e : (47 :: dig j).length = (dig j).length + 1 := rfl
  rw [e]
  exact ⟨rfl, by omega, by omega⟩
theorem ext_front (s : ByteArray) (e : Nat) (p q : List UInt8) (h : s.data.toList = p ++ q) (hq : q.length = e) : s.size - e = p.length ∧ (s.extract 0 (s.size - e)).data.toList = p ∧ (s.extract (s.size - e) s.size).data.toList = q := by
  have hs : s.size = p.length + q.length := by
    have : s.size = s.data.toList.length := by simp
    rw [this, h, List.length_append]
  have h1 : s.size - e = p.length := by omega
  refine ⟨h1, ?_, ?_⟩
  · rw [ByteArray.data_extract, Array.toList_extract, h1, h]
    simp [List.extract]
  · rw [ByteArray.data_extract, Array.toList_extract, h1, h, hs]
    simp [List.extract]
theorem net_end {s : ByteArray} {x j : Nat} (h : netOf s = some (x, j)) : (endOf j).size ≤ s.size ∧ s.extract (s.size - (endOf j).size) s.size = endOf j ∧ parseOf (s.extract 0 (s.size - (endOf j).size)) = some x ∧ rightI x (j : Int) = true := by
  obtain ⟨h1, h2, h3, h4⟩ := net_inv h
  have he : (47 :: dig j).length = (endOf j).size := by unfold endOf; rw [size_of_list]
  obtain ⟨k1, k2, k3⟩ := ext_front s (endOf j).size (textOf x) (47 :: dig j) h1 he
  refine ⟨?_, Go.WideShapes.bytes_inj (by rw [k3]; rfl), ?_, ?_⟩
  · have : s.size = s.data.toList.length := by simp
    rw [this, h1, ← he]
    unfold netText
    simp only [List.length_append]
    omega
  · rw [show s.extract 0 (s.size - (endOf j).size) = ⟨(textOf x).toArray⟩ from Go.WideShapes.bytes_inj (by rw [k2])]
    exact parse_text x h3
  · unfold rightI
    simp only [Int.toNat_natCast]
    exact decide_eq_true ⟨by omega, by omega, h4⟩
theorem end_net {s : ByteArray} {x j : Nat} (hj : j ≤ 32) (h0 : (endOf j).size ≤ s.size) (h1 : s.extract (s.size - (endOf j).size) s.size = endOf j) (h2 : parseOf (s.extract 0 (s.size - (endOf j).size)) = some x) (h3 : rightI x (j : Int) = true) : netOf s = some (x, j) := by
  have k1 := text_parse h2
  obtain ⟨k, hk, hk2, hk3⟩ := rightI_nat h3
  obtain rfl : j = k := by omega
  have hs : s.data.toList = netText x j := by
    have e1 : s.data.toList = (s.extract 0 (s.size - (endOf j).size)).data.toList ++ (s.extract (s.size - (endOf j).size) s.size).data.toList := by
      rw [ByteArray.data_extract, Array.toList_extract, ByteArray.data_extract, Array.toList_extract]
      simp only [List.extract, Nat.sub_zero, List.drop_zero]
      have e2 : List.take (s.size - (s.size - (endOf j).size)) (List.drop (s.size - (endOf j).size) s.data.toList) = List.drop (s.size - (endOf j).size) s.data.toList := by
        apply List.take_of_length_le
        rw [List.length_drop]
        simp
      rw [e2, List.take_append_drop]
    rw [e1, h1, ← k1]
    rfl
  rw [show s = ⟨(netText x j).toArray⟩ from Go.WideShapes.bytes_inj (by rw [hs])]
  exact net_back (parseOf_lt h2) hj hk3
end Go.Proofs.YtfkjokencmdiiaaDoor
