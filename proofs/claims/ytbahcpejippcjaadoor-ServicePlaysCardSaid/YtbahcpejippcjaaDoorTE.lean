import Derived.Test.YtbahcpejippcjaaDoorTD
namespace Go.Proofs.YtbahcpejippcjaaDoor
open Go.RowKit Go.Shelf

set_option maxRecDepth 100000 in
theorem right16_calls (s : Svc) (w : World) : Calls Tryd.prog 16 #[s.val] w fun e w' => e = .returned (.bool (rightB s)) ∧ Below w.heap.size w w' := by
  unfold Svc.val
  go_enter Tryd.func16, Tryd.ntmps16
  go_wp2_with fail
  all_goals
    go_ret
    refine ⟨?_, (Below.refl _ w).alloc (Nat.le_refl _) _⟩
    simp_all [rightB, nat_zero]
    try omega
    try (have hv : ((s.vip : Int) != 0) = true := by simp; omega
         rw [hv, Bool.true_and]
         cases s.dsr <;> cases decide (s.nat = 0) <;> rfl)
set_option maxRecDepth 100000 in
theorem ref11_calls (s : Svc) (w : World) : Calls Tryd.prog 11 #[s.val] w fun e w' => e = .returned s.val ∧ Below w.heap.size w w' := by
  unfold Svc.val
  go_enter Tryd.func11, Tryd.ntmps11
  go_wp2_with fail
  exact bodyPost_ret (v := .agg #[_, _, _, _, _]) (by simp [results, Tryd.f11, go_sem]; try rfl) rfl ⟨rfl, (((Below.refl _ w).alloc (Nat.le_refl _) _).alloc (by simp) _)⟩
theorem text12_no (s : Svc) (h : rightB s = false) (w : World) : Calls Tryd.prog 12 #[s.val] w fun e w' => e = .returned (.tuple #[.string ⟨#[]⟩, .bool false]) ∧ Below w.heap.size w w' := by
  have HR := Lib.hid (right16_calls s)
  rw [h] at HR
  have HB := Lib.hid (Below.refl w.heap.size w)
  unfold Svc.val at *
  go_enter Tryd.func12, Tryd.ntmps12
  go_wp2_with (go_at_call 16; refine (HR.out _).mono ?_; rintro e wx ⟨rfl, hB⟩; replace HB := Lib.hid (below_step (HB.out.alloc HB.out.size _) hB); clear hB)
  go_ret2
  exact ⟨rfl, HB.out⟩
theorem itoa_nat (q : Nat) : Lib.itoa (q : Int) = Lib.decDigits q := by
  unfold Lib.itoa
  rw [if_neg (by omega), Int.toNat_natCast]
theorem held28 {W0 W : World} {b : Nat} {p : Int} {v : Nat} {q : Nat} {d : Bool} {n : Nat} (h : W0.heap[b]? = some (.cells #[.int .i64 p, .int .u32 (v : Int), .int .i64 (q : Int), .bool d, .int .u32 (n : Int)] 28 (0, 0))) (hb : Below W0.heap.size W0 W) : W.cell? ⟨b, 1, none⟩ = some (.int .u32 (v : Int)) ∧ W.cell? ⟨b, 2, none⟩ = some (.int .i64 (q : Int)) := by
  obtain ⟨⟨d0, d1, d2, d3, d4⟩, _⟩ := cells5 (box_go h hb)
  exact ⟨d1, d2⟩
theorem held28n {W0 W : World} {b : Nat} {p : Int} {v : Nat} {q : Nat} {d : Bool} {n : Nat} (h : W0.heap[b]? = some (.cells #[.int .i64 p, .int .u32 (v : Int), .int .i64 (q : Int), .bool d, .int .u32 (n : Int)] 28 (0, 0))) (hb : Below W0.heap.size W0 W) : W.cell? ⟨b, 4, none⟩ = some (.int .u32 (n : Int)) := by
  obtain ⟨⟨d0, d1, d2, d3, d4⟩, _⟩ := cells5 (box_go h hb)
  exact d4

set_option maxRecDepth 100000 in
set_option maxHeartbeats 1000000 in
theorem text12_yes (s : Svc) (h : rightB s = true) (ho : s.ok) (w : World) : Calls Tryd.prog 12 #[s.val] w fun e w' => e = .returned (.tuple #[.string ⟨(svcL s).toArray⟩, .bool true]) ∧ Below w.heap.size w w' := by
  have HR := Lib.hid (right16_calls s)
  rw [h] at HR
  have HB := Lib.hid (Below.refl w.heap.size w)
  obtain ⟨hpr, hp1, hp2, hrest⟩ := right_facts h
  clear hrest
  obtain ⟨p, v, q0, d, n⟩ := s
  obtain ⟨q, rfl⟩ : ∃ q : Nat, q0 = (q : Int) := ⟨q0.toNat, by dsimp only at hp1; omega⟩
  dsimp only at hpr hp1 hp2
  have HT := Lib.hid (refText_calls v ho.1)
  have HN := Lib.hid (refText_calls n ho.2)
  have HD := Lib.hid (digits_calls31 q (by omega))
  have s1 : (⟨(textOf v).toArray⟩ : ByteArray).size ≤ 100 := by rw [size_of_list]; exact text_le v
  have s2 : (⟨(textOf n).toArray⟩ : ByteArray).size ≤ 100 := by rw [size_of_list]; exact text_le n
  have s3 : (⟨(Lib.decDigits q).toArray⟩ : ByteArray).size ≤ 21 := by rw [size_of_list]; exact digits_len (by omega)
  obtain ⟨T, hT⟩ : ∃ T, (⟨(textOf v).toArray⟩ : ByteArray) = T := ⟨_, rfl⟩
  obtain ⟨N, hN⟩ : ∃ N, (⟨(textOf n).toArray⟩ : ByteArray) = N := ⟨_, rfl⟩
  obtain ⟨D, hD⟩ : ∃ D, (⟨(Lib.decDigits q).toArray⟩ : ByteArray) = D := ⟨_, rfl⟩
  have hTd : T.data.toList = textOf v := by rw [← hT]
  have hNd : N.data.toList = textOf n := by rw [← hN]
  have hDd : D.data.toList = Lib.decDigits q := by rw [← hD]
  have hres : ∀ X : ByteArray, X.data.toList = svcL ⟨p, v, (q : Int), d, n⟩ → X = ⟨(svcL ⟨p, v, (q : Int), d, n⟩).toArray⟩ := fun X hX => Go.WideShapes.bytes_inj (by rw [hX])
  obtain ⟨R, hR⟩ : ∃ R, (⟨(svcL ⟨p, v, (q : Int), d, n⟩).toArray⟩ : ByteArray) = R := ⟨_, rfl⟩
  rw [hR] at hres ⊢
  have HRES := Lib.hid hres
  have HEQ := Lib.hid (And.intro hTd (And.intro hNd hDd))
  rw [hT] at HT s1
  rw [hN] at HN s2
  rw [hD] at HD s3
  have t1 : (T.size : Int) ≤ 100 := by omega
  have t2 : (N.size : Int) ≤ 100 := by omega
  have t3 : (D.size : Int) ≤ 21 := by omega
  unfold Svc.val at *
  have hp6 : p = 6 ∨ p = 17 := hpr
  clear hT hN hD h ho hp1 hp2 hpr hTd hNd hDd hres hR
  rcases hp6 with rfl | rfl <;> cases d
  all_goals
    go_enter Tryd.func12, Tryd.ntmps12
    go_upto_region 7 with (go_at_call 16; refine (HR.out _).mono ?_; rintro e wx ⟨rfl, hB⟩; have hb5 := box_on hB; obtain ⟨⟨d0, d1, d2, d3, d4⟩, _⟩ := cells5 hb5; have HX := Lib.hid hb5; replace HB := Lib.hid (below_step (HB.out.alloc HB.out.size _) hB); clear hB hb5)
    clear d0 d1 d2 d3 d4
    have n0 : ¬ 9223372036854775807 < 4 + T.size := by omega
    have n1 : ¬ 9223372036854775807 < 4 + T.size + 1 := by omega
    have n2 : ¬ 9223372036854775807 ≤ 4 + T.size := by omega
    have n3 : ¬ 9223372036854775807 < 4 + T.size + 1 + D.size := by omega
    go_region_held3 (fun W : World => (W.cell? ⟨w.heap.size, 1, none⟩ = some (.int .u32 (v : Int)) ∧ W.cell? ⟨w.heap.size, 2, none⟩ = some (.int .i64 (q : Int)))) (first | exact held28 HX.out (Below.refl _ _) | exact held28 HX.out (Below.refl _ _).drew | exact held28 HX.out ((Below.refl _ _).alloc (Nat.le_refl _) _)) (first
      | (go_at_call 30; refine (HT.out _).mono ?_; rintro e wx ⟨rfl, hB⟩; replace HX := Lib.hid (box_go (w := World.drew _) HX.out hB); replace HB := Lib.hid (below_step HB.out.drew hB); clear hB)
      | (go_at_call 31; refine (HD.out _).mono ?_; rintro e wx ⟨rfl, hB⟩; replace HX := Lib.hid (box_go HX.out hB); replace HB := Lib.hid (below_step HB.out hB); clear hB))
  all_goals
    obtain ⟨⟨d0, d1, d2, d3, d4⟩, _⟩ := cells5 HX.out
    go_wp2_with (go_at_call 30; refine (HN.out _).mono ?_; rintro e wx ⟨rfl, hB⟩; replace HB := Lib.hid (below_step HB.out hB); clear hB)
    go_ret2
    refine ⟨congrArg (fun x => Ending.returned (.tuple #[.string x, .bool true])) (HRES.out _ ?_), HB.out⟩
    obtain ⟨q1, q2, q3⟩ := HEQ.out
    simp [svcL, protoL, atL, howL, natL, q1, q2, q3, itoa_nat, ByteArray.data_append]
end Go.Proofs.YtbahcpejippcjaaDoor
