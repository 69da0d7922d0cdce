import Derived.Test.YtlipkffnllmkgaaF1
namespace Go.Proofs.Ytlipkffnllmkgaa
open Go.RowKit

/-- The reference's anchor has become a'. -/
def RMid (X gA gW gL gK base cW cL cK : Nat) (sv sv' : Value) (a' : Anc) (w w' : World) : Prop := RefAt X gA gW gL gK base cW cL cK sv' a' w' ∧ MovesR [X, gA, gW, gL, gK] sv.ownBlock w w'

set_option maxRecDepth 100000 in
set_option maxHeartbeats 1000000 in
theorem refRemove_ok (X gA gW gL gK base cW cL cK : Nat) (sv : Value) (a : Anc) (w : World) (b : Nat) (h : RefAt X gA gW gL gK base cW cL cK sv a w) (I : Inv a) (hb : b < a.room) (hr2 : a.room ≤ 65536) (hg : a.gone b = 0) (m : Nat) (hn : a.n = m + 1) (hm : 1 ≤ m) :
    Calls Try.prog 52 #[.pointer (some ⟨X, 0, none⟩), .int .i64 (b : Int)] w fun e w' => e = .returned (.int .i64 0) ∧ ∃ sv', RMid X gA gW gL gK base cW cL cK sv sv' (rem a b) w w' ∧ (sv'.ownBlock = sv.ownBlock ∨ sv'.ownBlock = some (w.heap.size + 1)) := by
  obtain ⟨i0, hi, hz0, hz1, hz2⟩ := info_parts info3
  have hl : a.stack.length ≤ 65536 := by have := I.cnt; omega
  have HI := Lib.hid I
  have H1 := Lib.hid (h.alloc (.cells #[.int .i64 (b : Int)] 3))
  have HH := Lib.hid h
  have hx0 := h.f0
  have hx4 := h.f4
  have hx5 : w.cell? ⟨X, 5, none⟩ = some (.int .i64 ((m : Int) + 1)) := by rw [h.f5, hn]; rfl
  obtain ⟨z4, z5⟩ := h.z
  have hm2 : (m : Int) ≤ 65536 := by have := I.le; omega
  obtain ⟨p0, _⟩ := h.cA b hb
  rw [hg] at p0
  have hn2 : (((m : Int) + 1) == 1) = false := by simp; omega
  have hm1 : (1 : Int) ≤ (m : Int) := by omega
  have HG := Lib.hid hg
  have HN := Lib.hid hn
  have HS0 : Hid (w.heap.size + 1 = (w.alloc (.cells #[.int .i64 (b : Int)] 3)).heap.size) := Lib.hid (by simp)
  have HI3 := Lib.hid (And.intro hi (And.intro hz0 (And.intro hz1 hz2)))
  clear h I hi hz0 hz1 hz2 hg hn
  go_enter Try.func52, Try.ntmps52
  go_wp2_with (at_builtin; go_must (refine wpList_append_own_at _ rfl _ _ 44 rfl base 3 i0 (.int .i64 0) 1 8 Try.underlying44 HI3.out.1 HI3.out.2.1 HI3.out.2.2.1 HI3.out.2.2.2 rfl (by decide) sv a.stack.length (ints a.stack.reverse) rfl H1.out.own ⟨w.heap.size, 0, none⟩ 1 1 [.int .i64 (b : Int)] rfl rfl (new_cell _ _ _) (by simp [Value.oneCell']) (by unfold maxLen; omega) (by omega) H1.out.hb ?_); intro v' w1 hown' hgrow _ hblk; obtain ⟨g', cap', rfl⟩ := ownsRow_succ hown'; have HB1 := Lib.hid hblk; have HO2 := Lib.hid hown'; have HGR := Lib.hid hgrow; have hbX := hgrow.block X (by have := H1.out.hb; have := H1.out.low.1; omega) (fun e => (by have := (H1.out.own.lt X e.symm).1; have := H1.out.low.1; omega : False)); have d4 := (World.cell?_of_block (a := ⟨X, 4, none⟩) hbX).trans H1.out.f4; have d5 := (World.cell?_of_block (a := ⟨X, 5, none⟩) hbX).trans (H1.out.f5.trans (by rw [HN.out]; rfl : _ = some (Value.int .i64 ((m : Int) + 1)))); have y4 := (World.frozen?_of_block (a := ⟨X, 4, none⟩) hbX).trans H1.out.z.1; have y5 := (World.frozen?_of_block (a := ⟨X, 5, none⟩) hbX).trans H1.out.z.2; clear hown' hgrow hbX hblk)
  have hA1 : RefAt X gA gW gL gK base cW cL cK (.slice (some ⟨g', 0, none⟩) (a.stack.length + 1) cap') { a with stack := b :: a.stack } (w1.setCell ⟨X, 4, none⟩ (.slice (some ⟨g', 0, none⟩) (a.stack.length + 1) cap')) :=
    H1.out.grown HGR.out (by simpa [ints] using HO2.out)
  have hA2 := hA1.setN m
  have hM2 : MovesR [X, gA, gW, gL, gK] sv.ownBlock w ((w1.setCell ⟨X, 4, none⟩ (.slice (some ⟨g', 0, none⟩) (a.stack.length + 1) cap')).setCell ⟨X, 5, none⟩ (.int .i64 (m : Int))) :=
    ((((MovesR.refl _ _ w).alloc _).grown HGR.out).setCell (p := ⟨X, 4, none⟩) (by simp) _).setCell (p := ⟨X, 5, none⟩) (by simp) _
  have HB2 : Hid ((Value.slice (some ⟨g', 0, none⟩) (a.stack.length + 1) cap').ownBlock = sv.ownBlock ∨ (Value.slice (some ⟨g', 0, none⟩) (a.stack.length + 1) cap').ownBlock = some (w.heap.size + 1)) := Lib.hid (by rw [HS0.out]; exact HB1.out)
  generalize Value.slice (some ⟨g', 0, none⟩) (a.stack.length + 1) cap' = sv' at *
  have HM := Lib.hid (show RMid X gA gW gL gK base cW cL cK sv sv' { a with n := m, stack := b :: a.stack } w _ from ⟨hA2, hM2⟩)
  clear hA1 hA2 hM2 H1 HGR HO2 HB1 d4 d5 y4 y5 hx0 hx4 hx5 z4 z5 p0 HS0 HI3 HH
  generalize (w1.setCell ⟨X, 4, none⟩ sv').setCell ⟨X, 5, none⟩ (.int .i64 (m : Int)) = w2 at *
  obtain ⟨last, hlast⟩ : ∃ l, l = a.works m := ⟨_, rfl⟩
  obtain ⟨l1, l2, l3⟩ := HI.out.last
  have hmr : m < a.room := by have := HI.out.le; have := HN.out; omega
  rw [HN.out, Nat.add_sub_cancel, ← hlast] at l1 l2 l3
  have hpr := (HI.out.nx b hb).2
  have HLAST := Lib.hid hlast
  clear hlast l2 l3
  have x0 := HM.out.1.f0
  have x5 := HM.out.1.f5
  obtain ⟨p0, r0⟩ := HM.out.1.cA b hb
  go_cut [] from 6 to 101 (fun w' => RMid X gA gW gL gK base cW cL cK sv sv' { a with n := m, stack := b :: a.stack, gone := upd a.gone b m } w w')
  case first =>
    refine wp_tail 10 (by kernel_rfl) (by kernel_rfl) ?_
    simp only [List.take_succ_cons, List.take_zero, List.drop_succ_cons, List.drop_zero]
    repeat still_step
    refine wpStill_nil ?_
    go_wp2_with fail
    go_meet
    case rel => exact ⟨(HM.out.1.setA b hb m).drew, (HM.out.2.setCell (p := ⟨gA, b, none⟩) (by simp) _).drew⟩
  clear HM x0 x5 p0 r0
  have HM := Lib.hid hcut
  have x1 := hcut.1.f1
  have x5 := hcut.1.f5
  have cw := hcut.1.caps.1
  have cw1 : a.room ≤ cW := cw.1
  have cw2 : cW ≤ 9223372036854775807 := cw.2
  have q1 : wc.cell? ⟨gW, m, none⟩ = some (.int .i64 (last : Int)) := by rw [HLAST.out]; exact (hcut.1.cW' m hmr).1
  clear hcut cw
  go_wp2_with fail
  go_quiet (fail)
  go_wp2_with fail
  have HM2 : Hid (RMid X gA gW gL gK base cW cL cK sv sv' { a with n := m, stack := b :: a.stack, gone := upd a.gone b m } w (wc.drewN nq)) := Lib.hid ⟨HM.out.1.drewN _, HM.out.2.drewN _⟩
  clear x1 x5 q1 HM
  generalize wc.drewN nq = w3 at *
  have x1 := HM2.out.1.f1
  have x2 := HM2.out.1.f2
  have cl1 : a.room ≤ cL := HM2.out.1.caps.2.1.1
  have cl2 : cL ≤ 9223372036854775807 := HM2.out.1.caps.2.1.2
  have ck1 : a.room ≤ cK := HM2.out.1.caps.2.2.1
  have ck2 : cK ≤ 9223372036854775807 := HM2.out.1.caps.2.2.2
  have t0 := (HM2.out.1.cL' b hb).1
  obtain ⟨t1, t2⟩ := HM2.out.1.cW' (a.at_ b) hpr
  go_cut [] from 6 to 101 (fun w' => RMid X gA gW gL gK base cW cL cK sv sv' { a with n := m, stack := b :: a.stack, gone := upd a.gone b m, works := upd a.works (a.at_ b) last } w w')
  case first =>
    refine wp_tail 13 (by kernel_rfl) (by kernel_rfl) ?_
    simp only [List.take_succ_cons, List.take_zero, List.drop_succ_cons, List.drop_zero]
    repeat still_step
    refine wpStill_nil ?_
    go_wp2_with fail
    go_meet
    case rel => exact ⟨(HM2.out.1.setW (a.at_ b) hpr last).drew, (HM2.out.2.setCell (p := ⟨gW, a.at_ b, none⟩) (by simp) _).drew⟩
  clear HM2 x1 x2 t0 t1 t2
  have HM := Lib.hid hcut
  have x3 := hcut.1.f3
  obtain ⟨u1, u2⟩ := hcut.1.cK' b hb
  have x2 := hcut.1.f2
  have hKX := hcut.1.apart.2.2.2.1
  clear hcut
  go_wp2_with fail
  have HM3 : Hid (RMid X gA gW gL gK base cW cL cK sv sv' { a with n := m, stack := b :: a.stack, gone := upd a.gone b m, works := upd a.works (a.at_ b) last, next := upd a.next b last } w (wc.setCell ⟨gK, b, none⟩ (.int .i64 (last : Int)))) := Lib.hid ⟨HM.out.1.setK b hb last, HM.out.2.setCell (p := ⟨gK, b, none⟩) (by simp) _⟩
  clear HM x2 x3 u1 u2
  generalize wc.setCell ⟨gK, b, none⟩ (.int .i64 (last : Int)) = w4 at *
  have x2 := HM3.out.1.f2
  have t0 := (HM3.out.1.cL' b hb).1
  obtain ⟨t1, t2⟩ := HM3.out.1.cL' last l1
  go_cut [] from 6 to 101 (fun w' => RMid X gA gW gL gK base cW cL cK sv sv' { a with n := m, stack := b :: a.stack, gone := upd a.gone b m, works := upd a.works (a.at_ b) last, next := upd a.next b last, at_ := upd a.at_ last (a.at_ b) } w w')
  case first =>
    refine wp_tail 13 (by kernel_rfl) (by kernel_rfl) ?_
    simp only [List.take_succ_cons, List.take_zero, List.drop_succ_cons, List.drop_zero]
    repeat still_step
    refine wpStill_nil ?_
    go_wp2_with fail
    go_meet
    case rel => exact ⟨(HM3.out.1.setL last l1 (a.at_ b)).drew, (HM3.out.2.setCell (p := ⟨gL, last, none⟩) (by simp) _).drew⟩
  go_wp2_with fail
  go_ret
  have e : rem a b = { a with n := m, stack := b :: a.stack, gone := upd a.gone b m, works := upd a.works (a.at_ b) last, next := upd a.next b last, at_ := upd a.at_ last (a.at_ b) } := by
    unfold rem
    rw [HN.out, Nat.add_sub_cancel, HLAST.out]
  rw [e]
  exact ⟨rfl, sv', hcut, HB2.out⟩
end Go.Proofs.Ytlipkffnllmkgaa
