import Derived.Test.YtlipkffnllmkgaaF5
namespace Go.Proofs.Ytlipkffnllmkgaa
open Go.RowKit

set_option maxRecDepth 100000 in
set_option maxHeartbeats 4000000 in
theorem remove_at (X L base : Nat) (sv : Value) (a : Anc) (w : World) (b : Nat) (h : AncAt X L base sv a w) (I : Inv a) (hb : b < a.room) (hr2 : a.room ≤ 65536) (hg : a.gone b = 0) (m : Nat) (hn : a.n = m + 1) (hm : 1 ≤ m) :
    Calls Try.prog 45 #[.pointer (some ⟨X, 0, none⟩), .int .i64 (b : Int)] w fun e w' => e = .returned (.int .i64 0) ∧ ∃ sv', AncAt X L base sv' (rem a b) w' ∧ Moves X L sv.ownBlock w w' ∧ (sv'.ownBlock = sv.ownBlock ∨ sv'.ownBlock = some (w.heap.size + 1)) := by
  obtain ⟨i0, hi, hz0, hz1, hz2⟩ := info_parts info3
  obtain ⟨⟨c0, c1, c2, f0, f1, f2⟩, hp, hown, hX, hL, hXL, hbs⟩ := h
  obtain ⟨⟨p0, p1, p2, p3⟩, _⟩ := hp b hb
  rw [hn] at c2
  have hn1 : ((m : Int) + 1 == 1) = false := by simp; omega
  have hn2 : (((m + 1 : Nat) : Int) == 1) = false := by simp; omega
  have hstk : a.stack.length ≤ 65536 := by have := I.cnt; omega
  have hle := I.le
  rw [hg] at p0
  have HP := Lib.hid hp
  have HI := Lib.hid I
  have HG := Lib.hid hg
  clear hp I hg
  have hF1 : Fields X L a.room m sv ((w.setCell ⟨X, 2, none⟩ (.int .i64 (m : Int))).alloc (.cells #[.int .i64 (b : Int)] 3)) := by
    have e : ((m + 1 : Nat) : Int) = (m : Int) + 1 := by omega
    have hF0 : Fields X L a.room m sv (w.setCell ⟨X, 2, none⟩ (.int .i64 (m : Int))) :=
      ⟨cell_set_ne c0 (by omega), cell_set_ne c1 (by omega), cell_set_eq c2, by rw [World.frozen?_setCell]; exact f0, by rw [World.frozen?_setCell]; exact f1, by rw [World.frozen?_setCell]; exact f2⟩
    exact hF0.block (Below.heap_alloc _ _ _ (by simp [World.setCell]; omega))
  have hP1 : Places L a ((w.setCell ⟨X, 2, none⟩ (.int .i64 (m : Int))).alloc (.cells #[.int .i64 (b : Int)] 3)) :=
    (HP.out.block (Below.heap_setCell w ⟨X, 2, none⟩ _ L (by simp; omega))).block (Below.heap_alloc _ _ _ (by simp [World.setCell]; omega))
  have hO1 : ((w.setCell ⟨X, 2, none⟩ (.int .i64 (m : Int))).alloc (.cells #[.int .i64 (b : Int)] 3)).ownsRow base 3 1 sv a.stack.length (ints a.stack.reverse) :=
    (ownsRow_setCell_below hown (a := ⟨X, 2, none⟩) hX _).alloc _
  have hM1 : Moves X L sv.ownBlock w ((w.setCell ⟨X, 2, none⟩ (.int .i64 (m : Int))).alloc (.cells #[.int .i64 (b : Int)] 3)) :=
    ((Moves.refl X L sv.ownBlock w).setCell (p := ⟨X, 2, none⟩) (.inl rfl) _).alloc _
  have hN1 : ∀ (j : Nat) (u : Value), [Value.int .i64 (b : Int)][j]? = some u → ((w.setCell ⟨X, 2, none⟩ (.int .i64 (m : Int))).alloc (.cells #[.int .i64 (b : Int)] 3)).cell? ((⟨w.heap.size, 0, none⟩ : Addr).add j) = some u := by
    intro j u hj
    rcases j with _ | j
    · simp at hj
      subst hj
      simp [Addr.add, go_sem, World.setCell]
    · simp at hj
  have hS1 : base ≤ ((w.setCell ⟨X, 2, none⟩ (.int .i64 (m : Int))).alloc (.cells #[.int .i64 (b : Int)] 3)).heap.size := by simp [World.setCell]; omega
  have HF1 := Lib.hid hF1
  have HP1 := Lib.hid hP1
  have HO1 := Lib.hid hO1
  have HM1 := Lib.hid hM1
  have HN1 := Lib.hid hN1
  have HS1 := Lib.hid hS1
  have HROW := Lib.hid hown.lt
  clear hF1 hP1 hO1 hM1 hN1 hS1 hown HP
  go_enter Try.func45, Try.ntmps45
  go_wp2_with (at_builtin; go_must (refine wpList_append_own_at _ rfl _ _ 44 rfl base 3 i0 (.int .i64 0) 1 8 Try.underlying44 hi hz0 hz1 hz2 rfl (by decide) sv a.stack.length (ints a.stack.reverse) rfl HO1.out ⟨w.heap.size, 0, none⟩ 1 1 [.int .i64 (b : Int)] rfl rfl HN1.out (by simp [Value.oneCell']) (by unfold maxLen; omega) (by omega) HS1.out ?_); intro v' w1 hown' hgrow _ hblk; obtain ⟨g', cap', rfl⟩ := ownsRow_succ hown'; have HBLK := Lib.hid hblk; have HO2 := Lib.hid hown'; have HM2 := Lib.hid (HM1.out.grown hgrow); have hX1 := fun e => (by have := (HROW.out X e).1; omega : False); have hF2 := HF1.out.block (hgrow.block X (by have := HS1.out; omega) (fun e => (by have := (HROW.out X e.symm).1; omega : False))); have HP2 := Lib.hid (HP1.out.block (hgrow.block L (by have := HS1.out; omega) (fun e => (by have := (HROW.out L e.symm).1; omega : False)))); have HF2 := Lib.hid hF2; obtain ⟨d0, d1, d2, g0, g1, g2⟩ := hF2; clear hown' hgrow hX1 hblk)
  have hA1 : AncAt X L base (.slice (some ⟨g', 0, none⟩) (a.stack.length + 1) cap') { a with n := m, stack := b :: a.stack } (w1.setCell ⟨X, 1, none⟩ (.slice (some ⟨g', 0, none⟩) (a.stack.length + 1) cap')) := by
    refine ⟨⟨cell_set_ne d0 (by omega), cell_set_eq d1, cell_set_ne d2 (by omega), by rw [World.frozen?_setCell]; exact g0, by rw [World.frozen?_setCell]; exact g1, by rw [World.frozen?_setCell]; exact g2⟩, HP2.out.block (Below.heap_setCell w1 ⟨X, 1, none⟩ _ L (fun e => hXL e.symm)), ?_, hX, hL, hXL, ?_⟩
    · have := ownsRow_setCell_below HO2.out (a := ⟨X, 1, none⟩) hX (.slice (some ⟨g', 0, none⟩) (a.stack.length + 1) cap')
      simpa [ints] using this
    · have h1 := HM2.out.size
      simpa [World.setCell] using Nat.le_trans hbs h1
  have hM3 := HM2.out.setCell (p := ⟨X, 1, none⟩) (.inl rfl) (.slice (some ⟨g', 0, none⟩) (a.stack.length + 1) cap')
  have HB2 : Hid ((Value.slice (some ⟨g', 0, none⟩) (a.stack.length + 1) cap').ownBlock = sv.ownBlock ∨ (Value.slice (some ⟨g', 0, none⟩) (a.stack.length + 1) cap').ownBlock = some (w.heap.size + 1)) := Lib.hid (by have := HBLK.out; simpa [World.setCell] using this)
  clear HBLK
  generalize Value.slice (some ⟨g', 0, none⟩) (a.stack.length + 1) cap' = sv' at *
  have hM1' : Mid X L base sv sv' { a with n := m, stack := b :: a.stack } w (w1.setCell ⟨X, 1, none⟩ sv') := ⟨hA1, hM3⟩
  clear hA1 hM3 HF1 HP1 HO1 HM1 HN1 HS1 HROW HO2 HM2 HP2 HF2 d0 d1 d2 g0 g1 g2 c0 c1 c2 f0 f1 f2 p0 p1 p2 p3 hn2
  generalize w1.setCell ⟨X, 1, none⟩ sv' = w2 at *
  obtain ⟨last, hlast⟩ : ∃ l, l = a.works m := ⟨_, rfl⟩
  obtain ⟨l1, l2, l3⟩ := HI.out.last
  have hmr : m < a.room := by omega
  rw [hn, Nat.add_sub_cancel, ← hlast] at l1 l2 l3
  have hpr := (HI.out.nx b hb).2
  have hA := hM1'.1
  obtain ⟨⟨c0, c1, c2, f0, f1, f2⟩, hpl, _, _, _, _, _⟩ := hA
  obtain ⟨⟨_, q1, _, _⟩, _⟩ := hpl m hmr
  have q1 : w2.cell? ⟨L, m * 4 + 1, none⟩ = some (.int .i64 (last : Int)) := by rw [hlast]; exact q1
  have HLAST := Lib.hid hlast
  have HL2 := Lib.hid l2
  have HL3 := Lib.hid l3
  have HM := Lib.hid hM1'
  clear hpl hlast l2 l3 hM1'
  go_wp2_with fail
  go_quiet (fail)
  go_wp2_with fail
  go_cut [] from 6 to 111 (fun w' => Mid X L base sv sv' { a with n := m, stack := b :: a.stack, gone := upd a.gone b m, next := upd a.next b last } w w')
  case first =>
    obtain ⟨⟨p0, p1, p2, p3⟩, r0, r1, r2, r3⟩ := HM.out.1.places b hb
    clear q1
    go_region
    all_goals
      go_wp2_with fail
      go_meet
      case rel =>
        rw [HLAST.out]
        exact ⟨((HM.out.1.drewN _).set0 b hb m).set3 b hb _, ((HM.out.2.drewN _).setCell (p := ⟨L, b * 4, none⟩) (.inr rfl) _).setCell (p := ⟨L, b * 4 + 3, none⟩) (.inr rfl) _⟩
  clear HM c0 c1 c2 f0 f1 f2 q1
  rw [← HLAST.out]
  have hA := hcut.1
  obtain ⟨⟨c0, c1, c2, f0, f1, f2⟩, hpl, _, _, _, _, _⟩ := hA
  obtain ⟨⟨_, _, p2, _⟩, _⟩ := hpl b hb
  obtain ⟨⟨_, t1, _, _⟩, _, r1, _, _⟩ := hpl (a.at_ b) hpr
  have HM := Lib.hid hcut
  clear hpl hcut
  go_wp2_with fail
  go_cut [] from 6 to 111 (fun w' => Mid X L base sv sv' { a with n := m, stack := b :: a.stack, gone := upd a.gone b m, next := upd a.next b last, works := upd a.works (a.at_ b) last } w w')
  case first =>
    refine wp_tail 15 (by kernel_rfl) (by kernel_rfl) ?_
    simp only [List.take_succ_cons, List.take_zero, List.drop_succ_cons, List.drop_zero]
    repeat still_step
    refine wpStill_nil ?_
    go_wp2_with fail
    go_meet
    case rel => exact ⟨(HM.out.1.set1 (a.at_ b) hpr last).drew, (HM.out.2.setCell (p := ⟨L, a.at_ b * 4 + 1, none⟩) (.inr rfl) _).drew⟩
  clear HM c0 c1 c2 f0 f1 f2 p2 t1 r1
  have hA := hcut.1
  obtain ⟨⟨c0, c1, c2, f0, f1, f2⟩, hpl, _, _, _, _, _⟩ := hA
  obtain ⟨⟨_, _, p2, _⟩, _⟩ := hpl b hb
  obtain ⟨⟨_, _, t2, _⟩, _, _, r2, _⟩ := hpl last l1
  have HM := Lib.hid hcut
  clear hpl hcut
  go_wp2_with fail
  refine wp_tail 15 (by kernel_rfl) (by kernel_rfl) ?_
  simp only [List.take_succ_cons, List.take_zero, List.drop_succ_cons, List.drop_zero]
  repeat still_step
  refine wpStill_nil ?_
  go_wp2_with fail
  go_ret
  refine ⟨rfl, sv', ?_, (HM.out.2.setCell (p := ⟨L, last * 4 + 2, none⟩) (.inr rfl) _).drew, HB2.out⟩
  have hfin := (HM.out.1.set2 last l1 (a.at_ b)).drew
  have e : rem a b = { a with n := m, stack := b :: a.stack, gone := upd a.gone b m, next := upd a.next b last, works := upd a.works (a.at_ b) last, at_ := upd a.at_ last (a.at_ b) } := by
    unfold rem
    rw [hn, Nat.add_sub_cancel, ← HLAST.out]
  rw [e]
  exact hfin
end Go.Proofs.Ytlipkffnllmkgaa
