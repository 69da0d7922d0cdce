import Derived.Test.YtladjipicifplaaG2
import Derived.Deep.CutRange
import Derived.Deep.RegionWith
namespace Go.Proofs.Ytladjipicifplaa
open Go.RowKit Go.Shelf
attribute [local go_sem] Oper.semAt_some

theorem plays_fin {s : Nat} {wb : World} (h1 : wb.heap[s + 1]? = some (.cells #[.bool false] 4 (0, 0))) (o : Obj) : ((wb.setCell ⟨s + 1, 0, none⟩ (.bool true)).alloc o).cell? ⟨s + 1, 0, none⟩ = some (.bool true) :=
  (box_cell5 ((Below.heap_alloc _ _ _ (by have := (Array.getElem?_eq_some_iff.1 h1).1; simp [World.setCell]; omega)).trans (box_set5 h1 _))).1
theorem plays_adj {s : Nat} {wb : World} (h1 : wb.heap[s + 1]? = some (.cells #[.bool false] 4 (0, 0))) (v : Value) : (wb.setCell ⟨s, 0, none⟩ v).heap[s + 1]? = some (.cells #[.bool false] 4 (0, 0)) := (Below.heap_setCell _ _ _ _ (by simp)).trans h1

/-- What is known behind the examples: both boxes, and the frame. -/
theorem plays_start {w we : World} {v : Value} (hB : Below ((w.alloc (.cells #[v] 3)).alloc (.cells #[.bool false] 4)).heap.size ((w.alloc (.cells #[v] 3)).alloc (.cells #[.bool false] 4)) we) :
    (we.heap[w.heap.size]? = some (.cells #[v] 3 (0, 0)) ∧ we.heap[w.heap.size + 1]? = some (.cells #[.bool false] 4 (0, 0))) ∧ Below w.heap.size w we ∧ w.heap.size + 2 ≤ we.heap.size := by
  have hs := hB.size
  simp only [World.size_alloc] at hs hB
  refine ⟨⟨?_, ?_⟩, (((Below.refl _ w).alloc (Nat.le_refl _) _).alloc (by simp) _).trans (hB.mono (by omega)), hs⟩
  · exact (hB.block _ (by omega)).trans ((Below.heap_alloc _ _ _ (by simp)).trans (World.alloc_heap_new w _))
  · have := World.alloc_heap_new (w.alloc (.cells #[v] 3)) (.cells #[.bool false] 4)
    rw [World.size_alloc] at this
    exact (hB.block _ (by omega)).trans this

set_option maxRecDepth 100000 in
set_option maxHeartbeats 1500000 in
theorem plays_bad (a0 : Int) (a1 : Int) (a2 : Option Addr) (len2 cap2 : Nat) (w : World) (R : Int) (hR : (if 60 < a0 ∧ a0 ≤ 65536 then a0.tmod 61 else a0) = R) (hbad : R < 1 ∨ 65536 < R ∨ a1 < 1 ∨ R < a1) :
    Calls Try.prog 8 #[.int .i64 a0, .int .i64 a1, .slice a2 len2 cap2] w fun e w' => e = .returned (.bool true) ∧ Below w.heap.size w w' := by
  have HBAD := Lib.hid hbad
  clear hbad
  refine (callsIn_wide (n := 9)).1 ?_
  by_cases h5 : 60 < a0 ∧ a0 ≤ 65536
  case' pos =>
    rw [if_pos h5] at hR
    obtain ⟨h51, h52⟩ := h5
  case' neg =>
    rw [if_neg h5] at hR
    subst hR
    have h51 : 60 < a0 → 65536 < a0 := by omega
  all_goals
    refine callsIn_of_wp_marks Try.func8 rfl trivial ?_ rfl
    simp only [Try.ntmps8, List.size_toArray, List.length_cons, List.length_nil, Nat.reduceAdd, Nat.reduceSub, Array.replicate_succ, Array.replicate_zero, List.push_toArray, List.append_toArray, List.nil_append, List.cons_append]
    refine wpIn_wide.2 ?_
    go_wp2_with (first
      | (go_at_call 20; (refine (examples12 _).mono ?_; rintro e we ⟨rfl, hB⟩; obtain ⟨⟨q1, q2⟩, q3, q4⟩ := plays_start hB; have H0 := Lib.hid q1; have H1 := Lib.hid q2; have HB := Lib.hid q3; obtain ⟨c0, f0⟩ := box_cell5 q1; obtain ⟨c1, f1⟩ := box_cell5 q2; have k0 : w.heap.size < we.heap.size := Nat.lt_of_succ_lt q4; have k1 : w.heap.size + 1 < we.heap.size := q4; clear q1 q2 q3 q4 hB))
      | (go_at_call 21; refine (new_bad _ _ _ HBAD.out).mono ?_; rintro e wx ⟨rfl, rfl⟩)
      | (go_at_call 22; refine (refNew_bad _ _ _ HBAD.out).mono ?_; rintro e wx ⟨rfl, rfl⟩))
  all_goals first
    | (have d4 := plays_fin H1.out (.cells #[.pointer none] 39)
       refine ⟨.bool true, by simp [results, Try.f8, go_sem, d4], rfl, ?_⟩
       exact (HB.out.setCell (p := ⟨w.heap.size + 1, 0, none⟩) (by simp) _).alloc (by have := HB.out.size; simp [World.setCell]; omega) _)
    | (have d4 := plays_fin (plays_adj H1.out (.int .i64 R)) (.cells #[.pointer none] 39)
       refine ⟨.bool true, by simp [results, Try.f8, go_sem, d4], rfl, ?_⟩
       exact ((HB.out.setCell (p := ⟨w.heap.size, 0, none⟩) (by simp) _).setCell (p := ⟨w.heap.size + 1, 0, none⟩) (by simp) _).alloc (by have := HB.out.size; simp [World.setCell]; omega) _)
end Go.Proofs.Ytladjipicifplaa
