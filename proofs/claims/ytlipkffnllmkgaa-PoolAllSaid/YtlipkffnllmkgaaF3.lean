import Derived.Test.YtlipkffnllmkgaaF2
namespace Go.Proofs.Ytlipkffnllmkgaa
open Go.RowKit

theorem refAdd_full (X gA gW gL gK base cW cL cK : Nat) (sv : Value) (a : Anc) (w : World) (h : RefAt X gA gW gL gK base cW cL cK sv a w) (hs : a.stack = []) :
    Calls Try.prog 36 #[.pointer (some ⟨X, 0, none⟩)] w fun e w' => e = .returned (.tuple #[.int .i64 0, .int .i64 16]) ∧ w' = w := by
  have hx4 := h.f4
  have hown := h.own
  rw [hs] at hown
  obtain ⟨p, c, rfl⟩ : ∃ p c, sv = .slice p 0 c := by
    rcases hown.2 with ⟨h, _⟩ | ⟨g, cap, _, h, _⟩
    · exact ⟨none, 0, h⟩
    · exact ⟨some ⟨g, 0, none⟩, cap, h⟩
  clear hown hs h
  go_enter Try.func36, Try.ntmps36
  go_wp2_with fail
  go_ret2
  exact ⟨rfl, rfl⟩

set_option maxRecDepth 100000 in
set_option maxHeartbeats 1000000 in
theorem refAdd_ok (X gA gW gL gK base cW cL cK : Nat) (sv : Value) (a : Anc) (w : World) (b : Nat) (st : List Nat) (h : RefAt X gA gW gL gK base cW cL cK sv a w) (I : Inv a) (hr2 : a.room ≤ 65536) (hs : a.stack = b :: st) (hb : b < a.room) :
    Calls Try.prog 36 #[.pointer (some ⟨X, 0, none⟩)] w fun e w' => e = .returned (.tuple #[.int .i64 (b : Int), .int .i64 0]) ∧ ∃ sv', RMid X gA gW gL gK base cW cL cK sv sv' (back a b) w w' ∧ sv'.ownBlock = sv.ownBlock := by
  have HS := Lib.hid hs
  have HI := Lib.hid I
  have HH := Lib.hid h
  have hnr : a.n < a.room := by have := I.cnt; rw [hs] at this; simp at this; omega
  have hwn := I.wx a.n hnr
  have hl : st.length ≤ 65536 := by have := I.cnt; rw [hs] at this; simp at this; omega
  have hown := h.own
  rw [hs] at hown
  obtain ⟨g, cap, rfl⟩ := ownsRow_succ hown
  have hcap : st.length + 1 ≤ cap ∧ cap ≤ maxLen := by
    rcases hown.2 with ⟨h, _⟩ | ⟨g', cap', cur, h, _, _, h1, h2, _⟩
    · cases h
    · cases h; exact ⟨h1, h2⟩
  have hpop : w.ownsRow base 3 1 (.slice (some ⟨g, 0, none⟩) st.length cap) st.length (ints st.reverse) :=
    ownsRow_pop (xs := ints st.reverse) (last := [.int .i64 (b : Int)]) (by simp [ints]) (by simpa [ints] using hown)
  have hlast : w.cell? ⟨g, st.length, none⟩ = some (.int .i64 (b : Int)) := by
    have := hown.cells (g := g) rfl st.length (.int .i64 (b : Int)) (by simp [ints])
    rwa [addr_add] at this
  have hgb := (hown.lt g rfl).1
  have hcapi : (st.length : Int) ≤ (cap : Int) := by omega
  have hcap1 : st.length + 1 ≤ cap := hcap.1
  have hwr : IntKind.i64.wrap (st.length : Int) = (st.length : Int) := IntWalk.i64_in _ (by omega)
  have hcapm : cap ≤ 9223372036854775807 := hcap.2
  have hx4 := h.f4
  have z4 := h.z.1
  have HPOP := Lib.hid hpop
  clear hs I hown hpop hcap h
  go_enter Try.func36, Try.ntmps36
  go_wp2_with fail
  go_quiet (fail)
  go_wp2_with fail
  go_cut [] from 5 to 89 (fun w' => RMid X gA gW gL gK base cW cL cK (.slice (some ⟨g, 0, none⟩) (st.length + 1) cap) (.slice (some ⟨g, 0, none⟩) st.length cap) { a with stack := st } w w')
  case first =>
    refine wp_tail 14 (by kernel_rfl) (by kernel_rfl) ?_
    simp only [List.take_succ_cons, List.take_zero, List.drop_succ_cons, List.drop_zero]
    repeat still_step
    refine wpStill_nil ?_
    go_wp2_with fail
    go_meet
    case rel =>
      exact ⟨(HH.out.setS _ st HPOP.out).drewN _, ((MovesR.refl _ _ w).setCell (p := ⟨X, 4, none⟩) (by simp) _).drewN _⟩
  clear hx4 z4 HPOP HH hlast
  have HM := Lib.hid hcut
  have x0 := hcut.1.f0
  obtain ⟨p0, p1⟩ := hcut.1.cA b hb
  have cw1 : a.room ≤ cW := hcut.1.caps.1.1
  have cw2 : cW ≤ 9223372036854775807 := hcut.1.caps.1.2
  have cl1 : a.room ≤ cL := hcut.1.caps.2.1.1
  have cl2 : cL ≤ 9223372036854775807 := hcut.1.caps.2.1.2
  have ck1 : a.room ≤ cK := hcut.1.caps.2.2.1
  have ck2 : cK ≤ 9223372036854775807 := hcut.1.caps.2.2.2
  clear hcut
  go_wp2_with fail
  have HM2 : Hid (RMid X gA gW gL gK base cW cL cK (.slice (some ⟨g, 0, none⟩) (st.length + 1) cap) (.slice (some ⟨g, 0, none⟩) st.length cap) { a with stack := st, gone := upd a.gone b 0 } w (wc.setCell ⟨gA, b, none⟩ (.int .i64 0))) := Lib.hid ⟨HM.out.1.setA b hb 0, HM.out.2.setCell (p := ⟨gA, b, none⟩) (by simp) _⟩
  clear HM x0 p0 p1
  generalize wc.setCell ⟨gA, b, none⟩ (.int .i64 0) = w2 at *
  have HM := HM2
  clear HM2
  obtain ⟨nw, hnw⟩ : ∃ nw, nw = a.works a.n := ⟨_, rfl⟩
  rw [← hnw] at hwn
  have x1 := HM.out.1.f1
  have x2 := HM.out.1.f2
  have x5 := HM.out.1.f5
  have q1 : w2.cell? ⟨gW, a.n, none⟩ = some (.int .i64 (nw : Int)) := by rw [hnw]; exact (HM.out.1.cW' a.n hnr).1
  obtain ⟨t1, t2⟩ := HM.out.1.cL' nw hwn
  have HNW := Lib.hid hnw
  clear hnw
  go_cut [] from 5 to 89 (fun w' => RMid X gA gW gL gK base cW cL cK (.slice (some ⟨g, 0, none⟩) (st.length + 1) cap) (.slice (some ⟨g, 0, none⟩) st.length cap) { a with stack := st, gone := upd a.gone b 0, at_ := upd a.at_ nw a.n } w w')
  case first =>
    refine wp_tail 19 (by kernel_rfl) (by kernel_rfl) ?_
    simp only [List.take_succ_cons, List.take_zero, List.drop_succ_cons, List.drop_zero]
    repeat still_step
    refine wpStill_nil ?_
    go_wp2_with fail
    go_meet
    case rel => exact ⟨(HM.out.1.setL nw hwn a.n).drew, (HM.out.2.setCell (p := ⟨gL, nw, none⟩) (by simp) _).drew⟩
  clear HM x1 x2 x5 q1 t1 t2
  have HM := Lib.hid hcut
  obtain ⟨q, hq⟩ : ∃ q, q = upd a.at_ nw a.n b := ⟨_, rfl⟩
  have hqr : q < a.room := by
    rw [hq]
    unfold upd
    split
    · exact hnr
    · exact (HI.out.nx b hb).2
  have x1 := hcut.1.f1
  have x2 := hcut.1.f2
  have t1 : wc.cell? ⟨gL, b, none⟩ = some (.int .i64 (q : Int)) := by rw [hq]; exact (hcut.1.cL' b hb).1
  obtain ⟨t2, t3⟩ := hcut.1.cW' q hqr
  have HQ := Lib.hid hq
  clear hcut hq
  go_wp2_with fail
  go_cut [] from 5 to 89 (fun w' => RMid X gA gW gL gK base cW cL cK (.slice (some ⟨g, 0, none⟩) (st.length + 1) cap) (.slice (some ⟨g, 0, none⟩) st.length cap) { a with stack := st, gone := upd a.gone b 0, at_ := upd a.at_ nw a.n, works := upd a.works q b } w w')
  case first =>
    refine wp_tail 13 (by kernel_rfl) (by kernel_rfl) ?_
    simp only [List.take_succ_cons, List.take_zero, List.drop_succ_cons, List.drop_zero]
    repeat still_step
    refine wpStill_nil ?_
    go_wp2_with fail
    go_meet
    case rel => exact ⟨(HM.out.1.setW q hqr b).drew, (HM.out.2.setCell (p := ⟨gW, q, none⟩) (by simp) _).drew⟩
  clear HM x1 x2 t1 t2 t3
  have HM := Lib.hid hcut
  have x3 := hcut.1.f3
  have x5 := hcut.1.f5
  have z5 := hcut.1.z.2
  obtain ⟨u1, u2⟩ := hcut.1.cK' b hb
  have hKX := hcut.1.apart.2.2.2.1
  clear hcut
  go_wp2_with fail
  go_ret2
  have e : back a b = { a with stack := st, gone := upd a.gone b 0, at_ := upd a.at_ nw a.n, works := upd a.works q b, next := upd a.next b b, n := a.n + 1 } := by
    unfold back
    rw [HQ.out, HNW.out, HS.out]
    rfl
  rw [e]
  refine ⟨rfl, _, ⟨(HM.out.1.setK b hb b).setN (a.n + 1), ((HM.out.2.setCell (p := ⟨gK, b, none⟩) (by simp) _).setCell (p := ⟨X, 5, none⟩) (by simp) _)⟩, rfl⟩
end Go.Proofs.Ytlipkffnllmkgaa
