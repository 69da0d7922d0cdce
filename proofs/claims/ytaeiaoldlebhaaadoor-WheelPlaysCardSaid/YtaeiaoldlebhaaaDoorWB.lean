import Derived.Test.YtaeiaoldlebhaaaDoorWA
namespace Go.Proofs.YtaeiaoldlebhaaaDoor
open Go.RowKit Go.Maps Go.Lib Go.Sort

instance : Inhabited Ent := ⟨⟨0, 0, 0⟩⟩
/-- How two stand to one another. -/
def cfE (x y : Ent) : Int := if Lib.compareInt (x.due : Int) (y.due : Int) = 0 then Lib.compareInt (x.ord : Int) (y.ord : Int) else Lib.compareInt (x.due : Int) (y.due : Int)
theorem lt_cfE (x y : Ent) : ltOf cfE x y = true ↔ x.lt y := by
  unfold ltOf cfE Lib.compareInt Ent.lt
  simp only [decide_eq_true_iff]
  repeat' split
  all_goals omega
theorem lt_cfE_false (x y : Ent) : ltOf cfE x y = false ↔ ¬ x.lt y := by
  rw [← lt_cfE]; simp
theorem swoE : SWO (ltOf cfE) where
  irrefl x := by rw [lt_cfE_false]; unfold Ent.lt; omega
  trans x y z h1 h2 := by rw [lt_cfE] at *; exact Ent.lt_trans h1 h2
  ntrans x y z h1 h2 := by rw [lt_cfE_false] at *; unfold Ent.lt at *; omega

set_option maxHeartbeats 1000000 in
theorem or_ok (r1 r2 : Int) (b : Nat) (w : World) (h0 : w.cell? ⟨b, 0, none⟩ = some (.int .i64 r1)) (h1 : w.cell? ⟨b, 1, none⟩ = some (.int .i64 r2)) :
    Calls Tryd.prog 92 #[.slice (some ⟨b, 0, none⟩) 2 2] w fun e w' => e = .returned (.int .i64 (if r1 = 0 then r2 else r1)) ∧ w' = w := by
  by_cases e1 : r1 = 0
  · subst e1
    by_cases e2 : r2 = 0
    · subst e2
      go_enter Tryd.func92, Tryd.ntmps92
      go_wp2
      refine wp_loop_rounds 3 ?_
      rw [rounds_succ]
      go_wp2
      rw [rounds_succ]
      go_wp2
      rw [rounds_succ]
      go_wp2
      go_ret
      exact ⟨rfl, rfl⟩
    · have hne : (r2 != 0) = true := by rw [bne_iff_ne]; exact e2
      go_enter Tryd.func92, Tryd.ntmps92
      go_wp2
      refine wp_loop_rounds 3 ?_
      rw [rounds_succ]
      go_wp2
      rw [rounds_succ]
      go_wp2
      go_ret
      exact ⟨rfl, rfl⟩
  · have hne : (r1 != 0) = true := by rw [bne_iff_ne]; exact e1
    rw [if_neg e1]
    go_enter Tryd.func92, Tryd.ntmps92
    go_wp2
    refine wp_loop_rounds 1 ?_
    rw [rounds_succ]
    go_wp2
    go_ret
    exact ⟨rfl, rfl⟩

/-- Draws and new blocks. -/
def Grown (W w' : World) : Prop := ∃ q os, w' = grow (W.drewN q) os
theorem Grown.refl (W : World) : Grown W W := ⟨0, #[], by simp; rfl⟩
theorem Grown.alloc {W w : World} (h : Grown W w) (o : Obj) : Grown W (w.alloc o) := by
  obtain ⟨q, os, rfl⟩ := h
  exact ⟨q, os ++ #[o], by rw [alloc_eq_grow, grow_grow]⟩
theorem Grown.drew {W w : World} (h : Grown W w) : Grown W w.drew := by
  obtain ⟨q, os, rfl⟩ := h
  exact ⟨q + 1, os, rfl⟩
theorem Grown.drewN {W w : World} (h : Grown W w) (n : Nat) : Grown W (w.drewN n) := by
  obtain ⟨q, os, rfl⟩ := h
  refine ⟨q + n, os, ?_⟩
  show grow ((W.drewN q).drewN n) os = _
  congr 1
  simp [World.drewN, Nat.add_assoc]
set_option maxHeartbeats 1000000 in
set_option maxRecDepth 100000 in
theorem before_ok (x y : Ent) (W : World) : Calls Tryd.prog 48 #[.agg #[.int .i64 x.key, .int .i64 (x.due : Int), .int .i64 (x.ord : Int)], .agg #[.int .i64 y.key, .int .i64 (y.due : Int), .int .i64 (y.ord : Int)]] W fun e w' => e = .returned (.int .i64 (cfE x y)) ∧ Grown W w' := by
  have HG := Lib.hid (Grown.refl W)
  obtain ⟨k, t, d⟩ := x
  obtain ⟨k', t', d'⟩ := y
  dsimp only
  obtain ⟨r, hr⟩ : ∃ r, cfE ⟨k, t, d⟩ ⟨k', t', d'⟩ = r := ⟨_, rfl⟩
  rw [hr]
  have HRR := Lib.hid (show (if Lib.compareInt (t : Int) (t' : Int) = 0 then Lib.compareInt (d : Int) (d' : Int) else Lib.compareInt (t : Int) (t' : Int)) = r from hr)
  clear hr
  go_enter Tryd.func48, Tryd.ntmps48
  go_wp2_with fail
  obtain ⟨w0, hw0⟩ : ∃ w0, (W.alloc (.cells #[.int .i64 k, .int .i64 (t : Int), .int .i64 (d : Int)] 109)).alloc (.cells #[.int .i64 k', .int .i64 (t' : Int), .int .i64 (d' : Int)] 109) = w0 := ⟨_, rfl⟩
  have hb1 : w0.heap[W.heap.size]? = some (.cells #[.int .i64 k, .int .i64 (t : Int), .int .i64 (d : Int)] 109 (0, 0)) := by rw [← hw0]; exact (Below.heap_alloc _ _ _ (by simp)).trans (heap_alloc_new W _)
  have hb2 : w0.heap[W.heap.size + 1]? = some (.cells #[.int .i64 k', .int .i64 (t' : Int), .int .i64 (d' : Int)] 109 (0, 0)) := by
    rw [← hw0]
    have h := heap_alloc_new (W.alloc (.cells #[.int .i64 k, .int .i64 (t : Int), .int .i64 (d : Int)] 109)) (.cells #[.int .i64 k', .int .i64 (t' : Int), .int .i64 (d' : Int)] 109)
    simpa using h
  have hG0 : Grown W w0 := by rw [← hw0]; exact ((Grown.refl W).alloc _).alloc _
  have hs0 : w0.heap.size = W.heap.size + 2 := by rw [← hw0]; simp
  rw [hw0]
  have HGW := Lib.hid hG0
  have HH := Lib.hid (fun (w' : World) (hb : Below w0.heap.size w0 w') => show w'.cell? ⟨W.heap.size, 1, none⟩ = some (.int .i64 (t : Int)) ∧ w'.cell? ⟨W.heap.size, 2, none⟩ = some (.int .i64 (d : Int)) ∧ w'.cell? ⟨W.heap.size + 1, 1, none⟩ = some (.int .i64 (t' : Int)) ∧ w'.cell? ⟨W.heap.size + 1, 2, none⟩ = some (.int .i64 (d' : Int)) from by
    obtain ⟨⟨_, a1, a2⟩, _⟩ := cells3 ((hb.block _ (by omega)).trans hb1)
    obtain ⟨⟨_, b1, b2⟩, _⟩ := cells3 ((hb.block _ (by omega)).trans hb2)
    exact ⟨a1, a2, b1, b2⟩)
  clear hw0 hb1 hb2 hG0 HG hs0
  have HO := Lib.hid (fun (w : World) (b : Nat) h0 h1 => or_ok (Lib.compareInt (t : Int) (t' : Int)) (Lib.compareInt (d : Int) (d' : Int)) b w h0 h1)
  rw [HRR.out] at HO
  go_region_held3 (fun W' : World => (W'.cell? ⟨W.heap.size, 1, none⟩ = some (.int .i64 (t : Int)) ∧ W'.cell? ⟨W.heap.size, 2, none⟩ = some (.int .i64 (d : Int)) ∧ W'.cell? ⟨W.heap.size + 1, 1, none⟩ = some (.int .i64 (t' : Int)) ∧ W'.cell? ⟨W.heap.size + 1, 2, none⟩ = some (.int .i64 (d' : Int)))) (first | exact HH.out _ (Below.refl _ _) | exact HH.out _ (Below.refl _ _).drew | exact HH.out _ ((Below.refl _ _).alloc (Nat.le_refl _) _).drew | exact HH.out _ ((Below.refl _ _).drew.alloc (Nat.le_refl _) _))
    (first
      | (go_at_call 93; refine (Tryd.cmp_Compare_int _ _ _).mono ?_; rintro e wx ⟨rfl, rfl⟩)
      | (go_at_call 92; refine (HO.out _ _ (by simp) (by simp)).mono ?_; rintro e wx ⟨rfl, rfl⟩))
  all_goals
    go_wp2
    go_ret
    exact ⟨rfl, (HGW.out.alloc _).drew⟩
end Go.Proofs.YtaeiaoldlebhaaaDoor
