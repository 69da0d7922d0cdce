import Derived.Test.YtfkjokencmdiiaaDoorP3
import Derived.Laws.IdiomStrings
namespace Go.Proofs.YtfkjokencmdiiaaDoor
open Go.RowKit Go.Shelf

/-- One digit as a text. -/
def digS (d : Nat) : ByteArray := ⟨#[UInt8.ofNat (48 + d)]⟩
theorem cell1 {W : World} {B : Nat} {v : Value} {t : TypeId} (h : W.heap[B]? = some (.cells #[v] t (0, 0))) : W.cell? ⟨B, 0, none⟩ = some v := by simp [World.cell?, h]
theorem conv_digit (w : World) (d : Nat) (hd : d < 10) :
    (convert 62 9 (.slice (some ⟨w.heap.size, 0, none⟩) 1 1)).run Tryd.prog (w.alloc (.cells #[.int .u8 (48 + (d : Int))] 5)) = .ok (.string (digS d)) (w.alloc (.cells #[.int .u8 (48 + (d : Int))] 5)) := by
  refine run_convert_bytes_back (P := Tryd.prog) (w.alloc (.cells #[.int .u8 (48 + (d : Int))] 5)) 62 9 5 ⟨w.heap.size, 0, none⟩ 1 [UInt8.ofNat (48 + d)] Tryd.underlying62 Tryd.underlying5 Tryd.underlying9 (fun j hj => ?_)
  have h0 : j = 0 := by simpa using hj
  subst h0
  have h : (w.alloc (.cells #[.int .u8 (48 + (d : Int))] 5)).heap[w.heap.size]? = some (.cells #[.int .u8 (48 + (d : Int))] 5 (0, 0)) := World.alloc_heap_new w _
  have e : (UInt8.ofNat (48 + d)).toNat = 48 + d := by
    rw [UInt8.toNat_ofNat']
    omega
  have e2 : (([UInt8.ofNat (48 + d)][0]'(by simp)).toNat : Int) = 48 + (d : Int) := by
    simp only [List.getElem_cons_zero, e]
    omega
  rw [e2]
  exact cell1 h

set_option maxRecDepth 100000 in
set_option maxHeartbeats 1000000 in
/-- The reference's digits. -/
theorem digits_calls (n : Nat) (hn : n < 1000) (w : World) :
    Calls Tryd.prog 27 #[.int .i64 (n : Int)] w fun e w' => e = .returned (.string ⟨(dig n).toArray⟩) ∧ Below w.heap.size w w' := by
  obtain ⟨n1, h1⟩ : ∃ n1, n / 10 = n1 := ⟨_, rfl⟩
  obtain ⟨n2, h2⟩ : ∃ n2, n1 / 10 = n2 := ⟨_, rfl⟩
  obtain ⟨d0, e0⟩ : ∃ d0, n % 10 = d0 := ⟨_, rfl⟩
  obtain ⟨d1, e1⟩ : ∃ d1, n1 % 10 = d1 := ⟨_, rfl⟩
  obtain ⟨d2, e2⟩ : ∃ d2, n2 % 10 = d2 := ⟨_, rfl⟩
  have q1 : (n : Int) / 10 = (n1 : Int) := by omega
  have q2 : (n1 : Int) / 10 = (n2 : Int) := by omega
  have r0 : (n : Int) % 10 = (d0 : Int) := by omega
  have r1 : (n1 : Int) % 10 = (d1 : Int) := by omega
  have r2 : (n2 : Int) % 10 = (d2 : Int) := by omega
  have k0 := fun w => conv_digit w d0 (by omega)
  have k1 := fun w => conv_digit w d1 (by omega)
  have k2 := fun w => conv_digit w d2 (by omega)
  have b0 : (d0 : Int) < 10 := by omega
  have b1 : (d1 : Int) < 10 := by omega
  have b2 : (d2 : Int) < 10 := by omega
  have hd : dig n = if n < 10 then [UInt8.ofNat (48 + d0)] else if n < 100 then [UInt8.ofNat (48 + d1), UInt8.ofNat (48 + d0)] else [UInt8.ofNat (48 + d2), UInt8.ofNat (48 + d1), UInt8.ofNat (48 + d0)] := by
    unfold dig
    by_cases h : n < 10
    · rw [if_pos h, if_pos h, show n = d0 by omega]
    · rw [if_neg h, if_neg h]
      by_cases h' : n < 100
      · rw [if_pos h', if_pos h', show n / 10 = d1 by omega, show n % 10 = d0 by omega]
      · rw [if_neg h', if_neg h', show n / 100 = d2 by omega, show n / 10 % 10 = d1 by omega, show n % 10 = d0 by omega]
  have HD := Lib.hid hd
  have hsz0 : ((digS d0).size : Int) = 1 := rfl
  have hsz1 : ((digS d1).size : Int) = 1 := rfl
  have hsz2 : ((digS d2).size : Int) = 1 := rfl
  have hz0 : (digS d0).size = 1 := rfl
  have hz1 : (digS d1).size = 1 := rfl
  have hz2 : (digS d2).size = 1 := rfl
  have hz3 : (digS d1 ++ digS d0).size = 2 := rfl
  have HN := Lib.hid (show n1 = n / 10 ∧ n2 = n / 100 ∧ n < 1000 from by omega)
  clear hd h1 h2 e0 e1 e2
  go_enter Tryd.func27, Tryd.ntmps27
  go_wp2_with fail
  go_loopw [0, 3] (fun m s wr => ((m = .int .i64 (n : Int) ∧ s = .string (digS d0)) ∨ (9 < n ∧ m = .int .i64 (n1 : Int) ∧ s = .string (digS d1 ++ digS d0)) ∨ (99 < n ∧ m = .int .i64 (n2 : Int) ∧ s = .string (digS d2 ++ (digS d1 ++ digS d0)))) ∧ Below w.heap.size w wr) (fun m _ _ => (intOf m).toNat)
  case atStart => exact ⟨.inl ⟨rfl, rfl⟩, (Below.refl _ _).alloc (Nat.le_refl _) _⟩
  case round =>
    obtain ⟨hc, hB⟩ := hrel
    have HB := Lib.hid hB
    clear hB
    rcases hc with ⟨rfl, rfl⟩ | ⟨h9, rfl, rfl⟩ | ⟨h99, rfl, rfl⟩
    · by_cases hm : n < 10
      · have hm' : ¬ (9 : Int) < (n : Int) := by omega
        go_wp2_with fail
        go_ret
        exact ⟨by rw [HD.out, if_pos hm]; rfl, HB.out⟩
      · have hm' : (9 : Int) < (n : Int) := by omega
        go_wp2_with fail
        obtain ⟨g1, g2, g3⟩ := HN.out
        exact ⟨⟨.inr (.inl ⟨by omega, rfl, rfl⟩), HB.out.alloc HB.out.size _⟩, by simp [intOf]; omega⟩
    · by_cases hm : n < 100
      · have hm' : ¬ (9 : Int) < (n1 : Int) := by have := HN.out; omega
        go_wp2_with fail
        go_ret
        exact ⟨by rw [HD.out, if_neg (by omega), if_pos hm]; rfl, HB.out⟩
      · have hm' : (9 : Int) < (n1 : Int) := by have := HN.out; omega
        go_wp2_with fail
        obtain ⟨g1, g2, g3⟩ := HN.out
        exact ⟨⟨.inr (.inr ⟨by omega, rfl, rfl⟩), HB.out.alloc HB.out.size _⟩, by simp [intOf]; omega⟩
    · have hm' : ¬ (9 : Int) < (n2 : Int) := by have := HN.out; omega
      go_wp2_with fail
      go_ret
      exact ⟨by rw [HD.out, if_neg (by omega), if_neg (by omega)]; rfl, HB.out⟩

theorem refText_sum (d0 d1 d2 d3 : List UInt8) : (((((((⟨d0.toArray⟩ : ByteArray) ++ ⟨#[46]⟩) ++ ⟨d1.toArray⟩) ++ ⟨#[46]⟩) ++ ⟨d2.toArray⟩) ++ ⟨#[46]⟩) ++ ⟨d3.toArray⟩) = ⟨(dots d0 d1 d2 d3).toArray⟩ := by
  apply Go.WideShapes.bytes_inj
  simp [dots]

set_option maxRecDepth 100000 in
set_option maxHeartbeats 1000000 in
/-- The reference's text of an address is the same. -/
theorem refText_calls (a : Nat) (ha : a < 4294967296) (w : World) :
    Calls Tryd.prog 14 #[.int .u32 (a : Int)] w fun e w' => e = .returned (.string ⟨(textOf a).toArray⟩) ∧ Below w.heap.size w w' := by
  obtain ⟨n0, h0⟩ : ∃ n0, a / 16777216 = n0 := ⟨_, rfl⟩
  obtain ⟨n1, h1⟩ : ∃ n1, a / 65536 % 256 = n1 := ⟨_, rfl⟩
  obtain ⟨n2, h2⟩ : ∃ n2, a / 256 % 256 = n2 := ⟨_, rfl⟩
  obtain ⟨n3, h3⟩ : ∃ n3, a % 256 = n3 := ⟨_, rfl⟩
  have l0 : n0 < 256 := by omega
  have l1 : n1 < 256 := by omega
  have l2 : n2 < 256 := by omega
  have l3 : n3 < 256 := by omega
  have q0 : (a : Int) / 16777216 = (n0 : Int) := by omega
  have q1 : bits .and .u32 ((a : Int) / 65536) 255 = (n1 : Int) := by
    rw [show (a : Int) / 65536 = ((a / 65536 : Nat) : Int) by omega, and255 _ (by omega), h1]
  have q2 : bits .and .u32 ((a : Int) / 256) 255 = (n2 : Int) := by
    rw [show (a : Int) / 256 = ((a / 256 : Nat) : Int) by omega, and255 _ (by omega), h2]
  have q3 : bits .and .u32 (a : Int) 255 = (n3 : Int) := by rw [and255 _ ha, h3]
  have HT := Lib.hid (show (⟨(textOf a).toArray⟩ : ByteArray) = (((((((⟨(dig n0).toArray⟩ : ByteArray) ++ ⟨#[46]⟩) ++ ⟨(dig n1).toArray⟩) ++ ⟨#[46]⟩) ++ ⟨(dig n2).toArray⟩) ++ ⟨#[46]⟩) ++ ⟨(dig n3).toArray⟩) from by
    rw [refText_sum, text_dots, show a / 16777216 % 256 = n0 by omega, h1, h2, h3])
  obtain ⟨R, hR⟩ : ∃ R, (⟨(textOf a).toArray⟩ : ByteArray) = R := ⟨_, rfl⟩
  rw [hR] at HT ⊢
  have D0 := Lib.hid (digits_calls n0 (by omega))
  have D1 := Lib.hid (digits_calls n1 (by omega))
  have D2 := Lib.hid (digits_calls n2 (by omega))
  have D3 := Lib.hid (digits_calls n3 (by omega))
  have s0 : (⟨(dig n0).toArray⟩ : ByteArray).size ≤ 3 := by rw [size_of_list]; exact (dig_facts l0).2.1.2
  have s1 : (⟨(dig n1).toArray⟩ : ByteArray).size ≤ 3 := by rw [size_of_list]; exact (dig_facts l1).2.1.2
  have s2 : (⟨(dig n2).toArray⟩ : ByteArray).size ≤ 3 := by rw [size_of_list]; exact (dig_facts l2).2.1.2
  have s3 : (⟨(dig n3).toArray⟩ : ByteArray).size ≤ 3 := by rw [size_of_list]; exact (dig_facts l3).2.1.2
  have HB := Lib.hid (Below.refl w.heap.size w)
  have S1 : Stage 1 := Stage.mk 1
  have S2 : Stage 2 := Stage.mk 2
  have S3 : Stage 3 := Stage.mk 3
  generalize (⟨(dig n0).toArray⟩ : ByteArray) = B0 at *
  generalize (⟨(dig n1).toArray⟩ : ByteArray) = B1 at *
  generalize (⟨(dig n2).toArray⟩ : ByteArray) = B2 at *
  generalize (⟨(dig n3).toArray⟩ : ByteArray) = B3 at *
  clear h0 h1 h2 h3 hR
  go_enter Tryd.func14, Tryd.ntmps14
  go_wp2_with (first
    | (go_at_call 27; clear S1; refine (D0.out _).mono ?_; rintro e wx ⟨rfl, hB⟩; replace HB := Lib.hid (below_step HB.out hB); clear hB)
    | (go_at_call 27; clear S2; refine (D1.out _).mono ?_; rintro e wx ⟨rfl, hB⟩; replace HB := Lib.hid (below_step HB.out hB); clear hB)
    | (go_at_call 27; clear S3; refine (D2.out _).mono ?_; rintro e wx ⟨rfl, hB⟩; replace HB := Lib.hid (below_step HB.out hB); clear hB)
    | (go_at_call 27; refine (D3.out _).mono ?_; rintro e wx ⟨rfl, hB⟩; replace HB := Lib.hid (below_step HB.out hB); clear hB))
  go_ret
  exact ⟨by rw [HT.out]; rfl, HB.out⟩
end Go.Proofs.YtfkjokencmdiiaaDoor
