import Derived.Test.YtfkjokencmdiiaaDoorP1
namespace Go.Proofs.YtfkjokencmdiiaaDoor
open Go.RowKit Go.Shelf

theorem numOf_val {s : ByteArray} {v : Nat} (h : numOf s 255 = some v) : v < 256 ∧ dig v = s.data.toList := by
  have h1 := numOf_le h
  refine ⟨h1, ?_⟩
  unfold numOf at h
  split at h
  · rename_i n hn
    split at h
    · rename_i hc
      cases h
      rw [← ByteArray.toList_eq, ← hc.2.2, ← itoa_dig (by omega), Int.toNat_of_nonneg hc.1]
    · cases h
  · cases h
theorem lead_none {d : List UInt8} (hd : d ≠ []) : numOf ⟨(48 :: d).toArray⟩ 255 = none := by
  cases h : numOf ⟨(48 :: d).toArray⟩ 255 with
  | none => rfl
  | some v =>
    obtain ⟨h1, h2⟩ := numOf_val h
    simp only [List.toList_toArray] at h2
    have := (dig_facts h1).2.2.2 (by rw [h2]; rfl)
    subst this
    have e : dig 0 = [48] := rfl
    rw [e] at h2
    simp at h2
    exact absurd h2.symm (by simpa using hd)

structure TextFacts (a : Nat) (S : ByteArray) : Prop where
  data : S.data.toList = textOf a
  len : 7 ≤ S.size ∧ S.size ≤ 15
  bytes : ∀ c ∈ S.data.toList, c = 46 ∨ (48 ≤ c.toNat ∧ c.toNat ≤ 57)
  points : S.data.toList.count 46 = 3
  more : ∀ t : ByteArray, t.data.toList = S.data.toList ++ [46, 48] → parseOf t = none
  zero : ∀ t : ByteArray, t.data.toList = 48 :: S.data.toList → parseOf t = none

theorem text_facts (a : Nat) (S : ByteArray) (hS : S.data.toList = textOf a) : TextFacts a S := by
  have m0 : a / 16777216 % 256 < 256 := Nat.mod_lt _ (by omega)
  have m1 : a / 65536 % 256 < 256 := Nat.mod_lt _ (by omega)
  have m2 : a / 256 % 256 < 256 := Nat.mod_lt _ (by omega)
  have m3 : a % 256 < 256 := Nat.mod_lt _ (by omega)
  have hd := hS.trans (text_dots a)
  generalize a / 16777216 % 256 = n0 at *
  generalize a / 65536 % 256 = n1 at *
  generalize a / 256 % 256 = n2 at *
  generalize a % 256 = n3 at *
  have hsz : S.size = (dots (dig n0) (dig n1) (dig n2) (dig n3)).length := by rw [← hd]; simp
  have hc : (dots (dig n0) (dig n1) (dig n2) (dig n3)).count 46 = 3 := by
    simp [dots, List.count_append, count_no (dig_nodot m0), count_no (dig_nodot m1), count_no (dig_nodot m2), count_no (dig_nodot m3)]
  have l0 := (dig_facts m0).2.1
  have l1 := (dig_facts m1).2.1
  have l2 := (dig_facts m2).2.1
  have l3 := (dig_facts m3).2.1
  refine ⟨hS, ?_, ?_, by rw [hd]; exact hc, fun t ht => ?_, fun t ht => ?_⟩
  · rw [hsz]
    simp only [dots, List.length_append, List.length_cons]
    omega
  · rw [hd]
    intro c hcm
    simp only [dots, List.mem_append, List.mem_cons] at hcm
    rcases hcm with h | rfl | h | rfl | h | rfl | h
    · exact .inr ((dig_facts m0).1 c h)
    · exact .inl rfl
    · exact .inr ((dig_facts m1).1 c h)
    · exact .inl rfl
    · exact .inr ((dig_facts m2).1 c h)
    · exact .inl rfl
    · exact .inr ((dig_facts m3).1 c h)
  · unfold parseOf
    rw [if_neg]
    rw [pieces_length]
    have e : Lib.countB t dot = 4 := by
      show Lib.count t.data.toList [46] = 4
      rw [Lib.count_one, ht, hd, List.count_append, hc]
      rfl
    omega
  · have ht2 : t = ⟨(dots (48 :: dig n0) (dig n1) (dig n2) (dig n3)).toArray⟩ := by
      apply Go.WideShapes.bytes_inj
      rw [ht, hd]
      simp [dots]
    have h48 : (46 : UInt8) ∉ 48 :: dig n0 := by
      simp only [List.mem_cons, not_or]
      exact ⟨by decide, dig_nodot m0⟩
    unfold parseOf
    rw [ht2, dots_pieces h48 (dig_nodot m1) (dig_nodot m2) (dig_nodot m3)]
    have hne : dig n0 ≠ [] := fun e => by rw [e] at l0; simp at l0
    simp only [List.length_cons, List.length_nil, foldNum, lead_none hne]
    rfl
end Go.Proofs.YtfkjokencmdiiaaDoor
