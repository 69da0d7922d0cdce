import Derived.Test.YtlipkffnllmkgaaD2
namespace Go.Proofs.Ytlipkffnllmkgaa
open Go.RowKit

theorem addr_add (b j : Nat) : (⟨b, 0, none⟩ : Addr).add j = ⟨b, j, none⟩ := by unfold Addr.add; split <;> simp_all
theorem add_full (X L base : Nat) (sv : Value) (a : Anc) (w : World) (h : AncAt X L base sv a w) (hs : a.stack = []) :
    Calls Try.prog 29 #[.pointer (some ⟨X, 0, none⟩)] w fun e w' => e = .returned (.tuple #[.int .i64 0, .int .i64 16]) ∧ w' = w := by
  obtain ⟨⟨c0, c1, c2, f0, f1, f2⟩, _, hown, _, _, _, _⟩ := h
  rw [hs] at hown
  obtain ⟨p, c, rfl⟩ : ∃ p c, sv = .slice p 0 c := by
    rcases hown.2 with ⟨h, _⟩ | ⟨g, cap, _, h, _⟩
    · exact ⟨none, 0, h⟩
    · exact ⟨some ⟨g, 0, none⟩, cap, h⟩
  clear hown hs
  go_enter Try.func29, Try.ntmps29
  go_wp2
  go_ret2
  exact ⟨rfl, rfl⟩

set_option maxRecDepth 100000 in
set_option maxHeartbeats 4000000 in
theorem add_ok (X L base : Nat) (sv : Value) (a : Anc) (w : World) (b : Nat) (st : List Nat) (h : AncAt X L base sv a w) (I : Inv a) (hr2 : a.room ≤ 65536) (hs : a.stack = b :: st) (hb : b < a.room) :
    Calls Try.prog 29 #[.pointer (some ⟨X, 0, none⟩)] w fun e w' => e = .returned (.tuple #[.int .i64 (b : Int), .int .i64 0]) ∧ ∃ sv', AncAt X L base sv' (back a b) w' ∧ Moves X L none w w' ∧ sv'.ownBlock = sv.ownBlock := by
  have hA0 := Lib.hid h
  have HS := Lib.hid hs
  have HI := Lib.hid I
  have hnr : a.n < a.room := by have := I.cnt; rw [hs] at this; simp at this; omega
  have hwn := I.wx a.n hnr
  have hl : st.length ≤ 65536 := by have := I.cnt; rw [hs] at this; simp at this; omega
  obtain ⟨⟨c0, c1, c2, f0, f1, f2⟩, hpl, hown, hX, hL, hXL, hbs⟩ := h
  rw [hs] at hown
  obtain ⟨g, cap, rfl⟩ := ownsRow_succ hown
  have hcap : st.length + 1 ≤ cap ∧ cap ≤ maxLen := by
    rcases hown.2 with ⟨h, _⟩ | ⟨g', cap', cur, h, _, _, h1, h2, _⟩
    · cases h
    · cases h; exact ⟨h1, h2⟩
  have hpop : w.ownsRow base 3 1 (.slice (some ⟨g, 0, none⟩) st.length cap) st.length (ints st.reverse) :=
    ownsRow_pop (xs := ints st.reverse) (last := [.int .i64 (b : Int)]) (by simp [ints]) (by simpa [ints] using hown)
  have hlast : w.cell? ⟨g, st.length, none⟩ = some (.int .i64 (b : Int)) := by
    have := hown.cells (g := g) rfl st.length (.int .i64 (b : Int)) (by simp [ints])
    rwa [addr_add] at this
  have hgX : X ≠ g := by have := (hown.lt g rfl).1; omega
  have hgL : L ≠ g := by have := (hown.lt g rfl).1; omega
  have hcapi : (st.length : Int) ≤ (cap : Int) := by omega
  have hwr : IntKind.i64.wrap (st.length : Int) = (st.length : Int) := IntWalk.i64_in _ (by omega)
  have hcapm := hcap.2
  unfold maxLen at hcapm
  have HP := Lib.hid hpl
  have HPOP := Lib.hid hpop
  clear hs I hpl hown hpop hcap
  go_enter Try.func29, Try.ntmps29
  go_wp2_with fail
  go_quiet (fail)
  go_wp2_with fail
  go_cut [] from 5 to 95 (fun w' => AncAt X L base (.slice (some ⟨g, 0, none⟩) st.length cap) { a with stack := st } w' ∧ Moves X L none w w')
  case first =>
    refine wp_tail 14 (by kernel_rfl) (by kernel_rfl) ?_
    simp only [List.take_succ_cons, List.take_zero, List.drop_succ_cons, List.drop_zero]
    repeat still_step
    refine wpStill_nil ?_
    go_wp2_with fail
    go_meet
    case rel =>
      refine ⟨⟨⟨cell_set_ne c0 (by omega), cell_set_eq c1, cell_set_ne c2 (by omega), by rw [World.frozen?_setCell]; exact f0, by rw [World.frozen?_setCell]; exact f1, by rw [World.frozen?_setCell]; exact f2⟩, HP.out.block (Below.heap_setCell w ⟨X, 1, none⟩ _ L (fun e => hXL e.symm)), ?_, hX, hL, hXL, by simpa [World.setCell] using hbs⟩, ((Moves.refl X L none w).setCell (p := ⟨X, 1, none⟩) (.inl rfl) _).drewN _⟩
      exact ownsRow_setCell_below HPOP.out (a := ⟨X, 1, none⟩) hX _
  clear hA0 HP HPOP c0 c1 c2 f0 f1 f2 hlast
  have HM := Lib.hid hcut
  obtain ⟨⟨⟨c0, c1, c2, f0, f1, f2⟩, hpl, _, _, _, _, _⟩, _⟩ := hcut
  obtain ⟨⟨_, p1, _, _⟩, _⟩ := hpl a.n hnr
  obtain ⟨⟨_, _, p2, _⟩, _, _, r2, _⟩ := hpl (a.works a.n) hwn
  clear hpl
  go_wp2_with fail
  go_cut [] from 5 to 95 (fun w' => AncAt X L base (.slice (some ⟨g, 0, none⟩) st.length cap) { a with stack := st, at_ := upd a.at_ (a.works a.n) a.n } w' ∧ Moves X L none w w')
  case first =>
    refine wp_tail 21 (by kernel_rfl) (by kernel_rfl) ?_
    simp only [List.take_succ_cons, List.take_zero, List.drop_succ_cons, List.drop_zero]
    repeat still_step
    refine wpStill_nil ?_
    go_wp2_with fail
    go_meet
    case rel => exact ⟨(HM.out.1.set2 (a.works a.n) hwn a.n).drew, (HM.out.2.setCell (p := ⟨L, a.works a.n * 4 + 2, none⟩) (.inr rfl) _).drew⟩
  clear HM c0 c1 c2 f0 f1 f2 p1 p2 r2
  have HM := Lib.hid hcut
  obtain ⟨q, hq⟩ : ∃ q, q = upd a.at_ (a.works a.n) a.n b := ⟨_, rfl⟩
  have hqr : q < a.room := by
    rw [hq]
    unfold upd
    split
    · exact hnr
    · exact (HI.out.nx b hb).2
  obtain ⟨⟨⟨c0, c1, c2, f0, f1, f2⟩, hpl, _, _, _, _, _⟩, _⟩ := hcut
  have p2 : wc.cell? ⟨L, b * 4 + 2, none⟩ = some (.int .i64 (q : Int)) := by rw [hq]; exact (hpl b hb).1.2.2.1
  obtain ⟨⟨_, t1, _, _⟩, _, r1, _, _⟩ := hpl q hqr
  have HQ := Lib.hid hq
  clear hpl hq
  go_wp2_with fail
  go_cut [] from 5 to 95 (fun w' => AncAt X L base (.slice (some ⟨g, 0, none⟩) st.length cap) { a with stack := st, at_ := upd a.at_ (a.works a.n) a.n, works := upd a.works (upd a.at_ (a.works a.n) a.n b) b } w' ∧ Moves X L none w w')
  case first =>
    refine wp_tail 15 (by kernel_rfl) (by kernel_rfl) ?_
    simp only [List.take_succ_cons, List.take_zero, List.drop_succ_cons, List.drop_zero]
    repeat still_step
    refine wpStill_nil ?_
    go_wp2_with fail
    go_meet
    case rel =>
      rw [← HQ.out]
      exact ⟨(HM.out.1.set1 q hqr b).drew, (HM.out.2.setCell (p := ⟨L, q * 4 + 1, none⟩) (.inr rfl) _).drew⟩
  clear HM c0 c1 c2 f0 f1 f2 p2 t1 r1
  have HM := Lib.hid hcut
  obtain ⟨⟨⟨c0, c1, c2, f0, f1, f2⟩, hpl, _, _, _, _, _⟩, _⟩ := hcut
  obtain ⟨⟨p0, _, _, p3⟩, r0, _, _, r3⟩ := hpl b hb
  clear hpl
  go_wp2_with fail
  go_cut [] from 5 to 95 (fun w' => AncAt X L base (.slice (some ⟨g, 0, none⟩) st.length cap) { a with stack := st, at_ := upd a.at_ (a.works a.n) a.n, works := upd a.works (upd a.at_ (a.works a.n) a.n b) b, gone := upd a.gone b 0, next := upd a.next b b } w' ∧ Moves X L none w w')
  case first =>
    go_region
    all_goals
      go_wp2_with fail
      go_meet
      case rel => exact ⟨((HM.out.1.set0 b hb 0).set3 b hb b).drew, ((HM.out.2.setCell (p := ⟨L, b * 4, none⟩) (.inr rfl) _).setCell (p := ⟨L, b * 4 + 3, none⟩) (.inr rfl) _).drew⟩
  clear HM c0 c1 c2 f0 f1 f2 p0 p3 r0 r3
  have HM := Lib.hid hcut
  obtain ⟨⟨⟨c0, c1, c2, f0, f1, f2⟩, hpl, _, _, _, _, _⟩, _⟩ := hcut
  have HPL := Lib.hid hpl
  clear hpl
  go_wp2_with fail
  go_ret2
  refine ⟨rfl, _, ⟨⟨cell_set_ne c0 (by omega), cell_set_ne c1 (by omega), cell_set_eq c2, by rw [World.frozen?_setCell]; exact f0, by rw [World.frozen?_setCell]; exact f1, by rw [World.frozen?_setCell]; exact f2⟩, HPL.out.block (Below.heap_setCell wc ⟨X, 2, none⟩ _ L (fun e => hXL e.symm)), ?_, hX, hL, hXL, by have := HM.out.1.hb; simpa [World.setCell] using this⟩, HM.out.2.setCell (p := ⟨X, 2, none⟩) (.inl rfl) _, rfl⟩
  have := ownsRow_setCell_below HM.out.1.own (a := ⟨X, 2, none⟩) hX (.int .i64 ((a.n : Int) + 1))
  show World.ownsRow _ _ _ _ _ (back a b).stack.length (ints (back a b).stack.reverse)
  rw [show (back a b).stack = st from by show a.stack.tail = st; rw [HS.out]; rfl]
  exact this
end Go.Proofs.Ytlipkffnllmkgaa
