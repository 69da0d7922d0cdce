import Derived.Test.YtbahcpejippcjaaDoorS8
import Derived.Laws.IdiomStrings
namespace Go.Proofs.YtbahcpejippcjaaDoor
open Go.RowKit Go.Shelf

theorem numOf_val {s : ByteArray} {v : Nat} (h : numOf s 255 = some v) : v < 256 ∧ dig v = s.data.toList := by
  have h1 := numOf_le h
  refine ⟨h1, ?_⟩
  unfold numOf at h
  split at h
  · rename_i n hn
    split at h
    · rename_i hc
      cases h
      rw [← ByteArray.toList_eq, ← hc.2.2, ← itoa_dig (by omega), Int.toNat_of_nonneg hc.1]
    · cases h
  · cases h
/-- Where an index tells: what stands ahead of it, the byte itself, what stands behind. -/
theorem index_parts {c : UInt8} : ∀ {l : List UInt8}, Lib.index l [c] ≠ -1 → ∃ p r, l = p ++ c :: r ∧ c ∉ p
  | [], h => absurd rfl h
  | b :: l, h => by
    by_cases e : b = c
    · subst e
      exact ⟨[], l, rfl, by simp⟩
    · have h2 : Lib.index l [c] ≠ -1 := by
        intro h3
        apply h
        unfold Lib.index
        rw [if_neg (by simp [List.isPrefixOf]; exact fun e2 => e e2.symm), h3]
        rfl
      obtain ⟨p, r, hl, hp⟩ := index_parts h2
      refine ⟨b :: p, r, by rw [hl]; rfl, ?_⟩
      simp only [List.mem_cons, not_or]
      exact ⟨fun e2 => e e2.symm, hp⟩
theorem join_more (c : UInt8) (x : List UInt8) {r : List (List UInt8)} (h : r ≠ []) : Lib.join (x :: r) [c] = x ++ c :: Lib.join r [c] := by
  cases r with
  | nil => exact absurd rfl h
  | cons y r => simp [Lib.join, List.intercalate]
theorem splitK_ne (c : UInt8) (k : Nat) (l : List UInt8) : Lib.splitK [c] 0 k l ≠ [] := by
  cases k with
  | zero => simp [Lib.splitK]
  | succ k => rw [Lib.splitK.eq_2]; split <;> simp
/-- What is split is joined again. -/
theorem join_splitK (c : UInt8) : ∀ (k : Nat) (l : List UInt8), Lib.join (Lib.splitK [c] 0 k l) [c] = l
  | 0, l => by simp [Lib.splitK, Lib.join, List.intercalate]
  | k + 1, l => by
    by_cases h : Lib.index l [c] = -1
    · rw [Lib.splitK.eq_2, if_pos (by simp [h])]
      simp [Lib.join, List.intercalate]
    · obtain ⟨p, r, hl, hp⟩ := index_parts h
      subst hl
      rw [splitK_cons r k hp, join_more c p (splitK_ne c k r), join_splitK c k r]

/-- What is read is written as it stood. -/
theorem text_parse {s : ByteArray} {c : Nat} (h : parseOf s = some c) : textOf c = s.data.toList := by
  have hj : Lib.join ((pieces s).map (·.data.toList)) [46] = s.data.toList := by rw [pieces_data]; exact join_splitK 46 _ _
  unfold parseOf at h
  split at h
  · rename_i h4
    obtain ⟨p0, p1, p2, p3, hp⟩ : ∃ p0 p1 p2 p3, pieces s = [p0, p1, p2, p3] := by
      match hps : pieces s, h4 with
      | [p0, p1, p2, p3], _ => exact ⟨p0, p1, p2, p3, rfl⟩
    rw [hp] at h hj
    simp only [foldNum] at h
    cases h0 : numOf p0 255 with
    | none => rw [h0] at h; cases h
    | some n0 =>
      rw [h0] at h
      simp only at h
      cases h1 : numOf p1 255 with
      | none => rw [h1] at h; cases h
      | some n1 =>
        rw [h1] at h
        simp only at h
        cases h2 : numOf p2 255 with
        | none => rw [h2] at h; cases h
        | some n2 =>
          rw [h2] at h
          simp only at h
          cases h3 : numOf p3 255 with
          | none => rw [h3] at h; cases h
          | some n3 =>
            rw [h3] at h
            obtain ⟨b0, d0⟩ := numOf_val h0
            obtain ⟨b1, d1⟩ := numOf_val h1
            obtain ⟨b2, d2⟩ := numOf_val h2
            obtain ⟨b3, d3⟩ := numOf_val h3
            have hc : c = n0 * 16777216 + n1 * 65536 + n2 * 256 + n3 := by
              have := Option.some.inj h
              omega
            rw [text_dots, show c / 16777216 % 256 = n0 by omega, show c / 65536 % 256 = n1 by omega, show c / 256 % 256 = n2 by omega, show c % 256 = n3 by omega, ← hj, d0, d1, d2, d3]
            simp [Lib.join, List.intercalate, dots]
  · cases h

/-- One digit as a text. -/
def digS (d : Nat) : ByteArray := ⟨#[UInt8.ofNat (48 + d)]⟩
theorem cell1q {W : World} {B : Nat} {v : Value} {t : TypeId} (h : W.heap[B]? = some (.cells #[v] t (0, 0))) : W.cell? ⟨B, 0, none⟩ = some v := by simp [World.cell?, h]
theorem conv_digit (w : World) (d : Nat) (hd : d < 10) :
    (convert 89 9 (.slice (some ⟨w.heap.size, 0, none⟩) 1 1)).run Tryd.prog (w.alloc (.cells #[.int .u8 (48 + (d : Int))] 5)) = .ok (.string (digS d)) (w.alloc (.cells #[.int .u8 (48 + (d : Int))] 5)) := by
  refine run_convert_bytes_back (P := Tryd.prog) (w.alloc (.cells #[.int .u8 (48 + (d : Int))] 5)) 89 9 5 ⟨w.heap.size, 0, none⟩ 1 [UInt8.ofNat (48 + d)] Tryd.underlying89 Tryd.underlying5 Tryd.underlying9 (fun j hj => ?_)
  have h0 : j = 0 := by simpa using hj
  subst h0
  have h : (w.alloc (.cells #[.int .u8 (48 + (d : Int))] 5)).heap[w.heap.size]? = some (.cells #[.int .u8 (48 + (d : Int))] 5 (0, 0)) := World.alloc_heap_new w _
  have e : (UInt8.ofNat (48 + d)).toNat = 48 + d := by
    rw [UInt8.toNat_ofNat']
    omega
  have e2 : (([UInt8.ofNat (48 + d)][0]'(by simp)).toNat : Int) = 48 + (d : Int) := by
    simp only [List.getElem_cons_zero, e]
    omega
  rw [e2]
  exact cell1q h


/-- The digits of a number, one more. -/
def restD (k : Nat) : List UInt8 := if k < 10 then [] else Lib.decDigits (k / 10)
theorem rest_step {k : Nat} (h : ¬ k < 10) : restD k = restD (k / 10) ++ [UInt8.ofNat (48 + k / 10 % 10)] := by
  unfold restD
  rw [if_neg h]
  by_cases h2 : k / 10 < 10
  · rw [if_pos h2, Lib.decDigits, dif_pos h2, Nat.mod_eq_of_lt h2]; rfl
  · rw [if_neg h2, Lib.decDigits, dif_neg h2]
theorem rest_start (n : Nat) : Lib.decDigits n = restD n ++ [UInt8.ofNat (48 + n % 10)] := by
  unfold restD
  by_cases h : n < 10
  · rw [if_pos h, Lib.decDigits, dif_pos h, Nat.mod_eq_of_lt h]; rfl
  · rw [if_neg h, Lib.decDigits, dif_neg h]
theorem digits_len {n : Nat} (h : n < 9223372036854775808) : (Lib.decDigits n).length ≤ 21 := by
  have := Lib.itoa_length_le (n : Int) (by omega) (by omega)
  unfold Lib.itoa at this
  rwa [if_neg (by omega), Int.toNat_natCast] at this

set_option maxRecDepth 100000 in
set_option maxHeartbeats 1000000 in
/-- The reference's digits (function 45). -/
theorem digits_calls45 (n : Nat) (hn : n < 9223372036854775808) (w : World) :
    Calls Tryd.prog 45 #[.int .i64 (n : Int)] w fun e w' => e = .returned (.string ⟨(Lib.decDigits n).toArray⟩) ∧ Below w.heap.size w w' := by
  obtain ⟨d0, e0⟩ : ∃ d0, n % 10 = d0 := ⟨_, rfl⟩
  have r0 : (n : Int) % 10 = (d0 : Int) := by omega
  have k0 := fun w => conv_digit w d0 (by omega)
  have b0 : (d0 : Int) < 10 := by omega
  have HL := Lib.hid (digits_len hn)
  have h0 := rest_start n
  rw [e0] at h0
  have H0 := Lib.hid h0
  clear e0 h0
  go_enter Tryd.func45, Tryd.ntmps45
  go_wp2_with fail
  go_loopw [0, 3] (fun m s wr => (∃ (k : Nat) (S : ByteArray), m = .int .i64 (k : Int) ∧ s = .string S ∧ k ≤ n ∧ Lib.decDigits n = restD k ++ S.data.toList) ∧ Below w.heap.size w wr) (fun m _ _ => (intOf m).toNat)
  case atStart => exact ⟨⟨n, digS d0, rfl, rfl, Nat.le_refl _, H0.out⟩, (Below.refl _ _).alloc (Nat.le_refl _) _⟩
  case round =>
    obtain ⟨⟨k, S, rfl, rfl, hk, hS⟩, hB⟩ := hrel
    have HB := Lib.hid hB
    have hs1 : S.size ≤ 21 := by
      have h1 := HL.out
      rw [hS, List.length_append] at h1
      have h2 : S.data.toList.length = S.size := rfl
      omega
    have HS := Lib.hid hS
    clear hB hS k0 b0 r0 H0
    by_cases hm : k < 10
    · have hm' : ¬ (9 : Int) < (k : Int) := by omega
      go_wp2_with fail
      go_ret
      refine ⟨?_, HB.out⟩
      have h3 := HS.out
      unfold restD at h3
      rw [if_pos hm, List.nil_append] at h3
      rw [h3]; rfl
    · have hm' : (9 : Int) < (k : Int) := by omega
      obtain ⟨k1, e1⟩ : ∃ k1, k / 10 = k1 := ⟨_, rfl⟩
      obtain ⟨d1, e2⟩ : ∃ d1, k1 % 10 = d1 := ⟨_, rfl⟩
      have q1 : (k : Int) / 10 = (k1 : Int) := by omega
      have r1 : (k1 : Int) % 10 = (d1 : Int) := by omega
      have k1' := fun w => conv_digit w d1 (by omega)
      have b1 : (d1 : Int) < 10 := by omega
      have hz1 : (digS d1).size = 1 := rfl
      have h4 : Lib.decDigits n = restD k1 ++ (digS d1 ++ S).data.toList := by
        rw [HS.out, rest_step hm, e1, e2, ByteArray.data_append, Array.toList_append, List.append_assoc]
        rfl
      have H4 := Lib.hid h4
      have HK := Lib.hid (show k1 < k ∧ 9 < k from by omega)
      clear h4 e1 e2 HS HL
      go_wp2_with fail
      have := HK.out
      exact ⟨⟨⟨k1, _, rfl, rfl, by omega, H4.out⟩, HB.out.alloc HB.out.size _⟩, by simp [intOf]; omega⟩

set_option maxRecDepth 100000 in
set_option maxHeartbeats 1000000 in
/-- The reference's digits (function 31). -/
theorem digits_calls31 (n : Nat) (hn : n < 9223372036854775808) (w : World) :
    Calls Tryd.prog 31 #[.int .i64 (n : Int)] w fun e w' => e = .returned (.string ⟨(Lib.decDigits n).toArray⟩) ∧ Below w.heap.size w w' := by
  obtain ⟨d0, e0⟩ : ∃ d0, n % 10 = d0 := ⟨_, rfl⟩
  have r0 : (n : Int) % 10 = (d0 : Int) := by omega
  have k0 := fun w => conv_digit w d0 (by omega)
  have b0 : (d0 : Int) < 10 := by omega
  have HL := Lib.hid (digits_len hn)
  have h0 := rest_start n
  rw [e0] at h0
  have H0 := Lib.hid h0
  clear e0 h0
  go_enter Tryd.func31, Tryd.ntmps31
  go_wp2_with fail
  go_loopw [0, 3] (fun m s wr => (∃ (k : Nat) (S : ByteArray), m = .int .i64 (k : Int) ∧ s = .string S ∧ k ≤ n ∧ Lib.decDigits n = restD k ++ S.data.toList) ∧ Below w.heap.size w wr) (fun m _ _ => (intOf m).toNat)
  case atStart => exact ⟨⟨n, digS d0, rfl, rfl, Nat.le_refl _, H0.out⟩, (Below.refl _ _).alloc (Nat.le_refl _) _⟩
  case round =>
    obtain ⟨⟨k, S, rfl, rfl, hk, hS⟩, hB⟩ := hrel
    have HB := Lib.hid hB
    have hs1 : S.size ≤ 21 := by
      have h1 := HL.out
      rw [hS, List.length_append] at h1
      have h2 : S.data.toList.length = S.size := rfl
      omega
    have HS := Lib.hid hS
    clear hB hS k0 b0 r0 H0
    by_cases hm : k < 10
    · have hm' : ¬ (9 : Int) < (k : Int) := by omega
      go_wp2_with fail
      go_ret
      refine ⟨?_, HB.out⟩
      have h3 := HS.out
      unfold restD at h3
      rw [if_pos hm, List.nil_append] at h3
      rw [h3]; rfl
    · have hm' : (9 : Int) < (k : Int) := by omega
      obtain ⟨k1, e1⟩ : ∃ k1, k / 10 = k1 := ⟨_, rfl⟩
      obtain ⟨d1, e2⟩ : ∃ d1, k1 % 10 = d1 := ⟨_, rfl⟩
      have q1 : (k : Int) / 10 = (k1 : Int) := by omega
      have r1 : (k1 : Int) % 10 = (d1 : Int) := by omega
      have k1' := fun w => conv_digit w d1 (by omega)
      have b1 : (d1 : Int) < 10 := by omega
      have hz1 : (digS d1).size = 1 := rfl
      have h4 : Lib.decDigits n = restD k1 ++ (digS d1 ++ S).data.toList := by
        rw [HS.out, rest_step hm, e1, e2, ByteArray.data_append, Array.toList_append, List.append_assoc]
        rfl
      have H4 := Lib.hid h4
      have HK := Lib.hid (show k1 < k ∧ 9 < k from by omega)
      clear h4 e1 e2 HS HL
      go_wp2_with fail
      have := HK.out
      exact ⟨⟨⟨k1, _, rfl, rfl, by omega, H4.out⟩, HB.out.alloc HB.out.size _⟩, by simp [intOf]; omega⟩

theorem digits_calls (n : Nat) (hn : n < 1000) (w : World) :
    Calls Tryd.prog 45 #[.int .i64 (n : Int)] w fun e w' => e = .returned (.string ⟨(dig n).toArray⟩) ∧ Below w.heap.size w w' := by
  have h := digits_calls45 n (by omega) w
  have e : Lib.decDigits n = dig n := by
    rw [← itoa_dig hn]
    unfold Lib.itoa
    rw [if_neg (by omega), Int.toNat_natCast]
  rw [e] at h
  exact h
theorem refText_sum (d0 d1 d2 d3 : List UInt8) : (((((((⟨d0.toArray⟩ : ByteArray) ++ ⟨#[46]⟩) ++ ⟨d1.toArray⟩) ++ ⟨#[46]⟩) ++ ⟨d2.toArray⟩) ++ ⟨#[46]⟩) ++ ⟨d3.toArray⟩) = ⟨(dots d0 d1 d2 d3).toArray⟩ := by
  apply Go.WideShapes.bytes_inj
  simp [dots]

set_option maxRecDepth 100000 in
set_option maxHeartbeats 1000000 in
/-- The reference's text of an address is the same. -/
theorem refText_calls (a : Nat) (ha : a < 4294967296) (w : World) :
    Calls Tryd.prog 30 #[.int .u32 (a : Int)] w fun e w' => e = .returned (.string ⟨(textOf a).toArray⟩) ∧ Below w.heap.size w w' := by
  obtain ⟨n0, h0⟩ : ∃ n0, a / 16777216 = n0 := ⟨_, rfl⟩
  obtain ⟨n1, h1⟩ : ∃ n1, a / 65536 % 256 = n1 := ⟨_, rfl⟩
  obtain ⟨n2, h2⟩ : ∃ n2, a / 256 % 256 = n2 := ⟨_, rfl⟩
  obtain ⟨n3, h3⟩ : ∃ n3, a % 256 = n3 := ⟨_, rfl⟩
  have l0 : n0 < 256 := by omega
  have l1 : n1 < 256 := by omega
  have l2 : n2 < 256 := by omega
  have l3 : n3 < 256 := by omega
  have q0 : (a : Int) / 16777216 = (n0 : Int) := by omega
  have q1 : bits .and .u32 ((a : Int) / 65536) 255 = (n1 : Int) := by
    rw [show (a : Int) / 65536 = ((a / 65536 : Nat) : Int) by omega, and255 _ (by omega), h1]
  have q2 : bits .and .u32 ((a : Int) / 256) 255 = (n2 : Int) := by
    rw [show (a : Int) / 256 = ((a / 256 : Nat) : Int) by omega, and255 _ (by omega), h2]
  have q3 : bits .and .u32 (a : Int) 255 = (n3 : Int) := by rw [and255 _ ha, h3]
  have HT := Lib.hid (show (⟨(textOf a).toArray⟩ : ByteArray) = (((((((⟨(dig n0).toArray⟩ : ByteArray) ++ ⟨#[46]⟩) ++ ⟨(dig n1).toArray⟩) ++ ⟨#[46]⟩) ++ ⟨(dig n2).toArray⟩) ++ ⟨#[46]⟩) ++ ⟨(dig n3).toArray⟩) from by
    rw [refText_sum, text_dots, show a / 16777216 % 256 = n0 by omega, h1, h2, h3])
  obtain ⟨R, hR⟩ : ∃ R, (⟨(textOf a).toArray⟩ : ByteArray) = R := ⟨_, rfl⟩
  rw [hR] at HT ⊢
  have D0 := Lib.hid (digits_calls n0 (by omega))
  have D1 := Lib.hid (digits_calls n1 (by omega))
  have D2 := Lib.hid (digits_calls n2 (by omega))
  have D3 := Lib.hid (digits_calls n3 (by omega))
  have s0 : (⟨(dig n0).toArray⟩ : ByteArray).size ≤ 3 := by rw [size_of_list]; exact (dig_facts l0).2.1.2
  have s1 : (⟨(dig n1).toArray⟩ : ByteArray).size ≤ 3 := by rw [size_of_list]; exact (dig_facts l1).2.1.2
  have s2 : (⟨(dig n2).toArray⟩ : ByteArray).size ≤ 3 := by rw [size_of_list]; exact (dig_facts l2).2.1.2
  have s3 : (⟨(dig n3).toArray⟩ : ByteArray).size ≤ 3 := by rw [size_of_list]; exact (dig_facts l3).2.1.2
  have HB := Lib.hid (Below.refl w.heap.size w)
  have S1 : Stage 1 := Stage.mk 1
  have S2 : Stage 2 := Stage.mk 2
  have S3 : Stage 3 := Stage.mk 3
  generalize (⟨(dig n0).toArray⟩ : ByteArray) = B0 at *
  generalize (⟨(dig n1).toArray⟩ : ByteArray) = B1 at *
  generalize (⟨(dig n2).toArray⟩ : ByteArray) = B2 at *
  generalize (⟨(dig n3).toArray⟩ : ByteArray) = B3 at *
  clear h0 h1 h2 h3 hR
  go_enter Tryd.func30, Tryd.ntmps30
  go_wp2_with (first
    | (go_at_call 45; clear S1; refine (D0.out _).mono ?_; rintro e wx ⟨rfl, hB⟩; replace HB := Lib.hid (below_step HB.out hB); clear hB)
    | (go_at_call 45; clear S2; refine (D1.out _).mono ?_; rintro e wx ⟨rfl, hB⟩; replace HB := Lib.hid (below_step HB.out hB); clear hB)
    | (go_at_call 45; clear S3; refine (D2.out _).mono ?_; rintro e wx ⟨rfl, hB⟩; replace HB := Lib.hid (below_step HB.out hB); clear hB)
    | (go_at_call 45; refine (D3.out _).mono ?_; rintro e wx ⟨rfl, hB⟩; replace HB := Lib.hid (below_step HB.out hB); clear hB))
  go_ret
  exact ⟨by rw [HT.out]; rfl, HB.out⟩
end Go.Proofs.YtbahcpejippcjaaDoor
