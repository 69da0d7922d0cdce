import Derived.Test.YtfkjokencmdiiaaDoorP2
import Derived.Test.YtfkjokencmdiiaaDoorL2
namespace Go.Proofs.YtfkjokencmdiiaaDoor
open Go.RowKit Go.Shelf

/-- Where an index tells: what stands ahead of it, the byte itself, what stands behind. -/
theorem index_parts {c : UInt8} : ∀ {l : List UInt8}, Lib.index l [c] ≠ -1 → ∃ p r, l = p ++ c :: r ∧ c ∉ p
  | [], h => absurd rfl h
  | b :: l, h => by
    by_cases e : b = c
    · subst e
      exact ⟨[], l, rfl, by simp⟩
    · have h2 : Lib.index l [c] ≠ -1 := by
        intro h3
        apply h
        unfold Lib.index
        rw [if_neg (by simp [List.isPrefixOf]; exact fun e2 => e e2.symm), h3]
        rfl
      obtain ⟨p, r, hl, hp⟩ := index_parts h2
      refine ⟨b :: p, r, by rw [hl]; rfl, ?_⟩
      simp only [List.mem_cons, not_or]
      exact ⟨fun e2 => e e2.symm, hp⟩
theorem join_more (c : UInt8) (x : List UInt8) {r : List (List UInt8)} (h : r ≠ []) : Lib.join (x :: r) [c] = x ++ c :: Lib.join r [c] := by
  cases r with
  | nil => exact absurd rfl h
  | cons y r => simp [Lib.join, List.intercalate]
theorem splitK_ne (c : UInt8) (k : Nat) (l : List UInt8) : Lib.splitK [c] 0 k l ≠ [] := by
  cases k with
  | zero => simp [Lib.splitK]
  | succ k => rw [Lib.splitK.eq_2]; split <;> simp
/-- What is split is joined again. -/
theorem join_splitK (c : UInt8) : ∀ (k : Nat) (l : List UInt8), Lib.join (Lib.splitK [c] 0 k l) [c] = l
  | 0, l => by simp [Lib.splitK, Lib.join, List.intercalate]
  | k + 1, l => by
    by_cases h : Lib.index l [c] = -1
    · rw [Lib.splitK.eq_2, if_pos (by simp [h])]
      simp [Lib.join, List.intercalate]
    · obtain ⟨p, r, hl, hp⟩ := index_parts h
      subst hl
      rw [splitK_cons r k hp, join_more c p (splitK_ne c k r), join_splitK c k r]

/-- What is read is written as it stood. -/
theorem text_parse {s : ByteArray} {c : Nat} (h : parseOf s = some c) : textOf c = s.data.toList := by
  have hj : Lib.join ((pieces s).map (·.data.toList)) [46] = s.data.toList := by rw [pieces_data]; exact join_splitK 46 _ _
  unfold parseOf at h
  split at h
  · rename_i h4
    obtain ⟨p0, p1, p2, p3, hp⟩ : ∃ p0 p1 p2 p3, pieces s = [p0, p1, p2, p3] := by
      match hps : pieces s, h4 with
      | [p0, p1, p2, p3], _ => exact ⟨p0, p1, p2, p3, rfl⟩
    rw [hp] at h hj
    simp only [foldNum] at h
    cases h0 : numOf p0 255 with
    | none => rw [h0] at h; cases h
    | some n0 =>
      rw [h0] at h
      simp only at h
      cases h1 : numOf p1 255 with
      | none => rw [h1] at h; cases h
      | some n1 =>
        rw [h1] at h
        simp only at h
        cases h2 : numOf p2 255 with
        | none => rw [h2] at h; cases h
        | some n2 =>
          rw [h2] at h
          simp only at h
          cases h3 : numOf p3 255 with
          | none => rw [h3] at h; cases h
          | some n3 =>
            rw [h3] at h
            obtain ⟨b0, d0⟩ := numOf_val h0
            obtain ⟨b1, d1⟩ := numOf_val h1
            obtain ⟨b2, d2⟩ := numOf_val h2
            obtain ⟨b3, d3⟩ := numOf_val h3
            have hc : c = n0 * 16777216 + n1 * 65536 + n2 * 256 + n3 := by
              have := Option.some.inj h
              omega
            rw [text_dots, show c / 16777216 % 256 = n0 by omega, show c / 65536 % 256 = n1 by omega, show c / 256 % 256 = n2 by omega, show c % 256 = n3 by omega, ← hj, d0, d1, d2, d3]
            simp [Lib.join, List.intercalate, dots]
  · cases h

/-- The text of a net. -/
def netText (a k : Nat) : List UInt8 := textOf a ++ 47 :: dig k
theorem num_dig32 {k : Nat} (h : k ≤ 32) : numOf ⟨(dig k).toArray⟩ 32 = some k :=
  num_is (v := k) (l := dig k) (by simpa using (dig_facts (show k < 256 by omega)).2.2.1) (itoa_dig (by omega)) (by rw [ByteArray.toList_eq]) (by omega)
theorem text_noslash (a : Nat) : (47 : UInt8) ∉ textOf a := by
  intro h
  have F := text_facts a ⟨(textOf a).toArray⟩ (by simp)
  rcases F.bytes 47 (by simpa using h) with e | e
  · exact absurd e (by decide)
  · revert e; decide
theorem cut_at {c : UInt8} {l : List UInt8} (r : List UInt8) (h : c ∉ l) : Lib.cut (l ++ c :: r) [c] = (l, r, true) := by
  unfold Lib.cut
  rw [index_at r h, if_pos (by omega)]
  simp
theorem net_back {a k : Nat} (ha : a < 4294967296) (hk : k ≤ 32) (h0 : a % 2 ^ (32 - k) = 0) : netOf ⟨(netText a k).toArray⟩ = some (a, k) := by
  have hc : Lib.cut (netText a k) [47] = (textOf a, dig k, true) := cut_at (dig k) (text_noslash a)
  have h1 : hasSlash ⟨(netText a k).toArray⟩ = true := by unfold hasSlash; rw [List.toList_toArray, hc]
  have h2 : headOf ⟨(netText a k).toArray⟩ = ⟨(textOf a).toArray⟩ := by unfold headOf; rw [List.toList_toArray, hc]
  have h3 : tailOf ⟨(netText a k).toArray⟩ = ⟨(dig k).toArray⟩ := by unfold tailOf; rw [List.toList_toArray, hc]
  unfold netOf
  rw [h1, h2, h3, parse_text a ha, num_dig32 hk]
  simp [h0]
end Go.Proofs.YtfkjokencmdiiaaDoor
