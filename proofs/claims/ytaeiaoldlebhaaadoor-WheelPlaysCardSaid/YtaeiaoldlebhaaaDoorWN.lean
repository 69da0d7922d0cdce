import Derived.Test.YtaeiaoldlebhaaaDoorWM
namespace Go.Proofs.YtaeiaoldlebhaaaDoor
open Go.RowKit Go.Maps Go.Lib

theorem tab_below {w w' : World} (h : TabAt 0 Lib.deBruijn64tab w) (h0 : 0 < w.heap.size) (hb : Below w.heap.size w w') : TabAt 0 Lib.deBruijn64tab w' := TabAt.kept h (hb.block 0 h0)
def exL : List Ent := [⟨7, 5, 1⟩, ⟨9, 5, 2⟩]
theorem exL_is : armL 9 5 2 (armL 7 5 1 []) = exL := rfl
set_option maxRecDepth 100000 in
set_option maxHeartbeats 2000000 in
theorem examples16 (w : World) (hT : TabAt 0 Lib.deBruijn64tab w) (h0 : 0 < w.heap.size) : Calls Tryd.prog 15 #[] w fun e w' => e = .returned (.bool true) ∧ Below w.heap.size w w' := by
  have HT := Lib.hid hT
  clear hT
  have HB := Lib.hid (Below.refl w.heap.size w)
  go_enter Tryd.func15, Tryd.ntmps15
  go_wp2_with fail
  refine (one_new w.heap.size w (Nat.le_refl _)).mono ?_
  rintro e w1 ⟨W, rfl, hA, hb⟩
  have HA := Lib.hid hA
  replace HB := Lib.hid hb
  clear hA hb
  go_wp2_with fail
  refine (one_arm HA.out (k := 7) (by omega) 5 (by omega) (by omega) (by omega)).mono ?_
  rintro e w2 ⟨rfl, hA, hb, _⟩
  replace HA := Lib.hid hA
  replace HB := Lib.hid (HB.out.trans hb)
  clear hA hb
  go_wp2_with fail
  refine (one_bad HA.out 8 0 (by omega)).mono ?_
  rintro e w3 ⟨rfl, rfl⟩
  go_wp2_with fail
  refine (one_arm HA.out (k := 9) (by omega) 5 (by omega) (by omega) (by omega)).mono ?_
  rintro e w4 ⟨rfl, hA, hb, _⟩
  rw [exL_is] at hA
  replace HA := Lib.hid hA
  replace HB := Lib.hid (HB.out.trans hb)
  clear hA hb
  go_wp2_with fail
  refine (one_adv HA.out (tab_below HT.out h0 HB.out) h0 4 (by omega) 4 (by decide) 0 rfl).mono ?_
  rintro e w5 ⟨p5, c5, rfl, hA, hb, _, hr⟩
  replace HA := Lib.hid (show OneW w.heap.size W 4 2 exL [] w5 from hA)
  replace HB := Lib.hid (HB.out.trans hb)
  clear hA hb hr
  go_wp2_with fail
  refine (one_adv HA.out (tab_below HT.out h0 HB.out) h0 5 (by omega) 5 (by decide) 2 rfl).mono ?_
  rintro e w6 ⟨p6, c6, rfl, hA, hb, _, hr⟩
  replace HA := Lib.hid (show OneW w.heap.size W 5 2 [] [] w6 from hA)
  replace HB := Lib.hid (HB.out.trans hb)
  have HR := Lib.hid hr
  clear hA hb hr
  go_wp2_with fail
  have hb7 : Below w6.heap.size w6 (w6.alloc (.cells #[.int .i64 7, .int .i64 9] 3)) := (Below.refl _ _).alloc (Nat.le_refl _) _
  have hr6 := ownsRow_kept HR.out (fun g hg => hb7.block g (HR.out.lt g hg).2)
  have hr7 : (w6.alloc (.cells #[.int .i64 7, .int .i64 9] 3)).ownsRow 0 3 1 (.slice (some ⟨w6.heap.size, 0, none⟩) 2 2) 2 [.int .i64 7, .int .i64 9] := ⟨rfl, .inr ⟨w6.heap.size, 2, #[.int .i64 7, .int .i64 9], rfl, Nat.zero_le _, heap_alloc_new w6 _, Nat.le_refl _, by unfold maxLen; omega, rfl, rfl⟩⟩
  refine (numbers_same (xs := [7, 9]) hr6 hr7 rfl (by omega)).mono ?_
  rintro e w7 ⟨rfl, q7, hq7⟩
  have hb8 : Below w6.heap.size w6 w7 := by rw [hq7]; exact below_drewN hb7 q7
  replace HA := Lib.hid (HA.out.below hb8)
  replace HB := Lib.hid (HB.out.trans (hb8.mono HB.out.size))
  clear hb7 hr6 hr7 hb8 hq7
  go_wp2_with (first
    | (go_at_call 21; refine (one_now HA.out).mono ?_; rintro e wx ⟨rfl, rfl⟩)
    | (go_at_call 19; refine (one_len HA.out 0 rfl).mono ?_; rintro e wx ⟨rfl, rfl⟩))
  go_ret
  exact ⟨rfl, HB.out⟩
end Go.Proofs.YtaeiaoldlebhaaaDoor
