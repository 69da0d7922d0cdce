import Derived.Test.YtlipkffnllmkgaaF4
import Derived.Test.YtlipkffnllmkgaaD6
namespace Go.Proofs.Ytlipkffnllmkgaa
open Go.RowKit

theorem new_cell_at (w : World) (v : Value) (t : TypeId) (n : Nat) (h : n = w.heap.size) : ∀ (j : Nat) (u : Value), [v][j]? = some u → (w.alloc (.cells #[v] t)).cell? ((⟨n, 0, none⟩ : Addr).add j) = some u := by
  subst h
  exact new_cell w v t

theorem col_of_own {w : World} {base r : Nat} {sv : Value} (hr : 1 ≤ r) (h : w.ownsRow base 3 1 sv r (ints (List.range r))) :
    ∃ g cap, sv = .slice (some ⟨g, 0, none⟩) r cap ∧ base ≤ g ∧ g < w.heap.size ∧ (r ≤ cap ∧ cap ≤ maxLen) ∧ Col g r (fun i => i) w := by
  have hl := h
  rcases h.2 with ⟨_, h0⟩ | ⟨g, cap, cur, hv, hb, hg, h1, h2, _⟩
  · omega
  · refine ⟨g, cap, hv, hb, (Array.getElem?_eq_some_iff.1 hg).1, ⟨h1, h2⟩, fun i hi => ⟨?_, by simp [World.frozen?, hg]⟩⟩
    have := hl.cells (g := g) (by rw [hv]; rfl) i (.int .i64 (i : Int)) (by simp [ints, hi])
    rwa [addr_add] at this

set_option maxRecDepth 100000 in
set_option maxHeartbeats 1000000 in
theorem refNew_ok (r k : Nat) (w : World) (h1 : 1 ≤ k) (h2 : k ≤ r) (h3 : r ≤ 65536) :
    Calls Try.prog 19 #[.int .i64 (r : Int), .int .i64 (k : Int)] w fun e w' => ∃ X gA gW gL gK base cW cL cK sv, e = .returned (.pointer (some ⟨X, 0, none⟩)) ∧ RefAt X gA gW gL gK base cW cL cK sv (newAnc r (r - k)) w' ∧ Below w.heap.size w w' ∧ (w.heap.size ≤ X ∧ w.heap.size ≤ gA ∧ w.heap.size ≤ gW ∧ w.heap.size ≤ gL ∧ w.heap.size ≤ gK ∧ w.heap.size ≤ base) := by
  obtain ⟨i0, hi, hz0, hz1, hz2⟩ := info_parts info3
  have hmk := run_makeSlice (P := Try.prog) w 44 3 i0 (.int .i64 0) Try.underlying44 hi hz0 .i64 .i64 r r (by omega) (by omega) (by rw [hz1]; omega) (by rw [hz2]; omega) (by omega)
  rw [Int.toNat_natCast, hz1] at hmk
  have HI3 := Lib.hid (And.intro hi (And.intro hz0 (And.intro hz1 hz2)))
  have g1 : ¬ (r : Int) < 1 := by omega
  have g2 : ¬ 65536 < (r : Int) := by omega
  have g3 : ¬ (k : Int) < 1 := by omega
  have g4 : ¬ (r : Int) < (k : Int) := by omega
  go_enter Try.func19, Try.ntmps19
  go_wp2_with fail
  clear hmk hi hz0 hz1 hz2
  have hG : ∃ W0, ((w.alloc (.cells (madeCells #[.int .i64 0] r) 3)).alloc (.cells #[.slice (some ⟨w.heap.size, 0, none⟩) r r, .slice none 0 0, .slice none 0 0, .slice none 0 0, .slice none 0 0, .int .i64 (k : Int)] 96)) = W0 ∧ Grow (w.heap.size + 1) w.heap.size (w.heap.size + 2) r k 0 0 0 (.slice none 0 0) (.slice none 0 0) (.slice none 0 0) W0 ∧ Below w.heap.size w W0 := by
    have hBl : Below w.heap.size w ((w.alloc (.cells (madeCells #[.int .i64 0] r) 3)).alloc (.cells #[.slice (some ⟨w.heap.size, 0, none⟩) r r, .slice none 0 0, .slice none 0 0, .slice none 0 0, .slice none 0 0, .int .i64 (k : Int)] 96)) := ((Below.refl _ w).alloc (Nat.le_refl _) _).alloc (by simp) _
    have hsz : ((w.alloc (.cells (madeCells #[.int .i64 0] r) 3)).alloc (.cells #[.slice (some ⟨w.heap.size, 0, none⟩) r r, .slice none 0 0, .slice none 0 0, .slice none 0 0, .slice none 0 0, .int .i64 (k : Int)] 96)).heap.size = w.heap.size + 2 := by simp
    have hX := World.alloc_heap_new (w.alloc (.cells (madeCells #[.int .i64 0] r) 3)) (.cells #[.slice (some ⟨w.heap.size, 0, none⟩) r r, .slice none 0 0, .slice none 0 0, .slice none 0 0, .slice none 0 0, .int .i64 (k : Int)] 96)
    rw [World.size_alloc] at hX
    have hA := (Below.heap_alloc (w.alloc (.cells (madeCells #[.int .i64 0] r) 3)) (.cells #[.slice (some ⟨w.heap.size, 0, none⟩) r r, .slice none 0 0, .slice none 0 0, .slice none 0 0, .slice none 0 0, .int .i64 (k : Int)] 96) w.heap.size (by simp)).trans (World.alloc_heap_new w (.cells (madeCells #[.int .i64 0] r) 3))
    generalize (w.alloc (.cells (madeCells #[.int .i64 0] r) 3)).alloc (.cells #[.slice (some ⟨w.heap.size, 0, none⟩) r r, .slice none 0 0, .slice none 0 0, .slice none 0 0, .slice none 0 0, .int .i64 (k : Int)] 96) = W0 at *
    refine ⟨W0, rfl, ?_, hBl⟩
    refine ⟨by simp [World.cell?, hX], by simp [World.cell?, hX], by simp [World.cell?, hX], by simp [World.cell?, hX], by simp [World.cell?, hX], by simp [World.cell?, hX], fun i => by simp [World.frozen?, hX], fun i hi => ⟨?_, by simp [World.frozen?, hA]⟩, World.ownsRow_nil _ _ _ _, World.ownsRow_nil _ _ _ _, World.ownsRow_nil _ _ _ _, ?_, ?_, ?_, ⟨by omega, by omega, by omega⟩, by omega⟩
    · unfold World.cell?
      dsimp only
      rw [hA]
      unfold madeCells
      simp [hi, Nat.mod_one]
    all_goals (intro g e; cases e)
  obtain ⟨W0, hW0, hG, hB⟩ := hG
  rw [hW0]
  have HG := Lib.hid hG
  have HB := Lib.hid hB
  clear hW0 hG hB
  go_loopw [6] (fun i wr => ∃ (j : Nat) (sW sL sK : Value), j ≤ r ∧ i = .int .i64 (j : Int) ∧ Grow (w.heap.size + 1) w.heap.size (w.heap.size + 2) r k j j j sW sL sK wr ∧ Below w.heap.size w wr) (fun i _ => r - (intOf i).toNat)
  case atStart => exact ⟨0, _, _, _, Nat.zero_le _, rfl, HG.out, HB.out⟩
  case round =>
    obtain ⟨j, sW, sL, sK, hj, rfl, hG, hB⟩ := hrel
    have c1 := hG.f1
    have c2 := hG.f2
    have c3 := hG.f3
    have HG := Lib.hid hG
    have HB := Lib.hid hB
    have ST := Stage.mk 0
    clear hG hB
    by_cases hlt : j < r
    · go_wp2_with (first
        | (at_builtin; have := (ST : Stage 0); clear this; replace ST := Stage.mk 1; go_must (refine wpList_append_own_at _ rfl _ _ 44 rfl (w.heap.size + 2) 3 i0 (.int .i64 0) 1 8 Try.underlying44 HI3.out.1 HI3.out.2.1 HI3.out.2.2.1 HI3.out.2.2.2 rfl (by decide) _ _ _ rfl (HG.out.alloc _).oW _ 1 1 [.int .i64 (j : Int)] rfl rfl (new_cell_at _ _ _ _ (by rfl)) (by simp [Value.oneCell']) (by unfold maxLen; omega) (by omega) (HG.out.alloc _).hb ?_); intro v' w1 hown' hgrow _ hblk; have hbX := hgrow.block (w.heap.size + 1) (by have := (HG.out.alloc (.cells #[.int .i64 (j : Int)] 3)).hb; omega) (fun e => (by have := (((HG.out.alloc (.cells #[.int .i64 (j : Int)] 3)).oW).lt _ e.symm).1; omega : False)); have cx := fun i => World.cell?_of_block (a := ⟨w.heap.size + 1, i, none⟩) hbX; have zx := fun i => World.frozen?_of_block (a := ⟨w.heap.size + 1, i, none⟩) hbX; have c1 := (cx 1).trans (HG.out.alloc _).f1; have c2 := (cx 2).trans (HG.out.alloc _).f2; have c3 := (cx 3).trans (HG.out.alloc _).f3; have y1 := (zx 1).trans ((HG.out.alloc _).z 1); have y2 := (zx 2).trans ((HG.out.alloc _).z 2); have y3 := (zx 3).trans ((HG.out.alloc _).z 3); have hnew := (HG.out.alloc _).growW hgrow hown' hblk; replace HB := Lib.hid ((Below.grown (HB.out.trans ((Below.refl _ _).alloc HB.out.size _)) hgrow (by have := HB.out.size; simp at this ⊢; omega) (fun g hg => (by have := ((HG.out.alloc (.cells #[.int .i64 (j : Int)] 3)).oW.lt g hg).1; omega))).setCell (p := ⟨w.heap.size + 1, 1, none⟩) (by simp) v'); replace HG := Lib.hid hnew; obtain ⟨g', cap', rfl⟩ := ownsRow_succ hown'; clear hown' hgrow hblk hbX cx zx hnew)
        | (at_builtin; have := (ST : Stage 1); clear this; replace ST := Stage.mk 2; go_must (refine wpList_append_own_at _ rfl _ _ 44 rfl (w.heap.size + 2) 3 i0 (.int .i64 0) 1 8 Try.underlying44 HI3.out.1 HI3.out.2.1 HI3.out.2.2.1 HI3.out.2.2.2 rfl (by decide) _ _ _ rfl (HG.out.alloc _).oL _ 1 1 [.int .i64 (j : Int)] rfl rfl (new_cell_at _ _ _ _ (by simp [World.setCell])) (by simp [Value.oneCell']) (by unfold maxLen; omega) (by omega) (HG.out.alloc _).hb ?_); intro v' w1 hown' hgrow _ hblk; have hbX := hgrow.block (w.heap.size + 1) (by have := (HG.out.alloc (.cells #[.int .i64 (j : Int)] 3)).hb; omega) (fun e => (by have := (((HG.out.alloc (.cells #[.int .i64 (j : Int)] 3)).oL).lt _ e.symm).1; omega : False)); have cx := fun i => World.cell?_of_block (a := ⟨w.heap.size + 1, i, none⟩) hbX; have zx := fun i => World.frozen?_of_block (a := ⟨w.heap.size + 1, i, none⟩) hbX; have c1 := (cx 1).trans (HG.out.alloc _).f1; have c2 := (cx 2).trans (HG.out.alloc _).f2; have c3 := (cx 3).trans (HG.out.alloc _).f3; have y1 := (zx 1).trans ((HG.out.alloc _).z 1); have y2 := (zx 2).trans ((HG.out.alloc _).z 2); have y3 := (zx 3).trans ((HG.out.alloc _).z 3); have hnew := (HG.out.alloc _).growL hgrow hown' hblk; replace HB := Lib.hid ((Below.grown (HB.out.trans ((Below.refl _ _).alloc HB.out.size _)) hgrow (by have := HB.out.size; simp [World.setCell] at this ⊢; omega) (fun g hg => (by have := ((HG.out.alloc (.cells #[.int .i64 (j : Int)] 3)).oL.lt g hg).1; omega))).setCell (p := ⟨w.heap.size + 1, 2, none⟩) (by simp) v'); replace HG := Lib.hid hnew; obtain ⟨g', cap', rfl⟩ := ownsRow_succ hown'; clear hown' hgrow hblk hbX cx zx hnew)
        | (at_builtin; have := (ST : Stage 2); clear this; replace ST := Stage.mk 3; go_must (refine wpList_append_own_at _ rfl _ _ 44 rfl (w.heap.size + 2) 3 i0 (.int .i64 0) 1 8 Try.underlying44 HI3.out.1 HI3.out.2.1 HI3.out.2.2.1 HI3.out.2.2.2 rfl (by decide) _ _ _ rfl (HG.out.alloc _).oK _ 1 1 [.int .i64 (j : Int)] rfl rfl (new_cell_at _ _ _ _ (by simp [World.setCell])) (by simp [Value.oneCell']) (by unfold maxLen; omega) (by omega) (HG.out.alloc _).hb ?_); intro v' w1 hown' hgrow _ hblk; have hbX := hgrow.block (w.heap.size + 1) (by have := (HG.out.alloc (.cells #[.int .i64 (j : Int)] 3)).hb; omega) (fun e => (by have := (((HG.out.alloc (.cells #[.int .i64 (j : Int)] 3)).oK).lt _ e.symm).1; omega : False)); have cx := fun i => World.cell?_of_block (a := ⟨w.heap.size + 1, i, none⟩) hbX; have zx := fun i => World.frozen?_of_block (a := ⟨w.heap.size + 1, i, none⟩) hbX; have c1 := (cx 1).trans (HG.out.alloc _).f1; have c2 := (cx 2).trans (HG.out.alloc _).f2; have c3 := (cx 3).trans (HG.out.alloc _).f3; have y1 := (zx 1).trans ((HG.out.alloc _).z 1); have y2 := (zx 2).trans ((HG.out.alloc _).z 2); have y3 := (zx 3).trans ((HG.out.alloc _).z 3); have hnew := (HG.out.alloc _).growK hgrow hown' hblk; replace HB := Lib.hid ((Below.grown (HB.out.trans ((Below.refl _ _).alloc HB.out.size _)) hgrow (by have := HB.out.size; simp [World.setCell] at this ⊢; omega) (fun g hg => (by have := ((HG.out.alloc (.cells #[.int .i64 (j : Int)] 3)).oK.lt g hg).1; omega))).setCell (p := ⟨w.heap.size + 1, 3, none⟩) (by simp) v'); replace HG := Lib.hid hnew; obtain ⟨g', cap', rfl⟩ := ownsRow_succ hown'; clear hown' hgrow hblk hbX cx zx hnew))
      exact ⟨⟨j + 1, _, _, _, by omega, by go_num, HG.out, HB.out⟩, by simp [intOf]; omega⟩
    · obtain rfl : j = r := by omega
      obtain ⟨gW, cW, rfl, w1, w2, w3, w4⟩ := col_of_own (by omega) HG.out.oW
      obtain ⟨gL, cL, rfl, l1, l2, l3, l4⟩ := col_of_own (by omega) HG.out.oL
      obtain ⟨gK, cK, rfl, k1, k2, k3, k4⟩ := col_of_own (by omega) HG.out.oK
      have hA : RefAt (w.heap.size + 1) w.heap.size gW gL gK wr.heap.size cW cL cK (.slice none 0 0) (midAnc j k []) wr := by
        have h := HG.out
        have hb := h.hb
        have a1 : gW ≠ gL := fun e => h.dWL gW rfl (by rw [e]; rfl)
        have a2 : gW ≠ gK := fun e => h.dWK gW rfl (by rw [e]; rfl)
        have a3 : gL ≠ gK := fun e => h.dLK gL rfl (by rw [e]; rfl)
        refine ⟨h.f0, h.f1, h.f2, h.f3, h.f4, h.f5, ⟨h.z 4, h.z 5⟩, ⟨w3, l3, k3⟩, ?_, w4, l4, k4, ⟨rfl, .inl ⟨rfl, rfl⟩⟩, ⟨by omega, by omega, w2, l2, k2⟩, ⟨by omega, by omega, by omega, by omega, by omega, by omega, by omega, a1, a2, a3⟩, Nat.le_refl _⟩
        intro i hi
        simpa [midAnc] using h.cA i hi
      have HA := Lib.hid hA
      have hB0 : Hid (w.heap.size + 2 ≤ wr.heap.size) := Lib.hid HG.out.hb
      generalize wr.heap.size = base at *
      have HB2 := HB
      have HW := Lib.hid w1
      have HL := Lib.hid l1
      have HK := Lib.hid k1
      clear hA c1 c2 c3 HG HB w1 w2 w3 w4 l1 l2 l3 l4 k1 k2 k3 k4
      have hj1 : (1 : Int) ≤ (j : Int) := by omega
      have hjc : (j : Int) - 1 = ((j - 1 : Nat) : Int) := by omega
      go_wp2_with fail
      go_loopw [7] (fun i wr => ∃ (p c : Nat) (sv : Value), c + p = j - 1 ∧ p ≤ j - k ∧ i = .int .i64 (c : Int) ∧ RefAt (w.heap.size + 1) w.heap.size gW gL gK base cW cL cK sv (midAnc j k ((fallList j k).take p)) wr ∧ Below w.heap.size w wr) (fun i _ => (intOf i).toNat)
      case atStart => exact ⟨0, j - 1, _, by omega, by omega, rfl, by simpa using HA.out, HB2.out⟩
      case round =>
        obtain ⟨p, c, sv, hpc, hp, rfl, hR, hB⟩ := hrel
        have HP := Lib.hid hpc
        have HR := Lib.hid hR
        have HB := Lib.hid hB
        clear hR hB hpc
        by_cases hlt2 : k ≤ c
        · have hkc : (k : Int) ≤ (c : Int) := by omega
          have hcj : c < j := by have := HP.out; omega
          have hc1 : (1 : Int) ≤ (c : Int) := by omega
          have x0 := HR.out.f0
          have x4 := HR.out.f4
          have z4 := HR.out.z.1
          obtain ⟨p0, p1⟩ := HR.out.cA c hcj
          have hl : ((fallList j k).take p).reverse.length ≤ 65536 := by simp [fallList]; omega
          have hl2 : (midAnc j k ((fallList j k).take p)).stack.length ≤ 65536 := hl
          clear hl
          have HRA : Hid (RefAt (w.heap.size + 1) w.heap.size gW gL gK base cW cL cK sv { midAnc j k ((fallList j k).take p) with gone := upd (midAnc j k ((fallList j k).take p)).gone c c } (wr.setCell ⟨w.heap.size, c, none⟩ (.int .i64 (c : Int)))) := Lib.hid (HR.out.setA c hcj c)
          have hsl : (midAnc j k ((fallList j k).take p)).stack.length + 1 ≤ 65537 := by omega
          go_wp2_with (at_builtin; go_must (refine wpList_append_own_at _ rfl _ _ 44 rfl base 3 i0 (.int .i64 0) 1 8 Try.underlying44 HI3.out.1 HI3.out.2.1 HI3.out.2.2.1 HI3.out.2.2.2 rfl (by decide) _ _ _ rfl (HRA.out.alloc _).own _ 1 1 [.int .i64 (c : Int)] rfl rfl (new_cell_at _ _ _ _ (by simp [World.setCell])) (by simp [Value.oneCell']) (by unfold maxLen; exact Nat.le_trans hsl (by decide)) (by have := hsl; exact Nat.le_trans (Nat.mul_le_mul_right 8 this) (by decide)) (HRA.out.alloc _).hb ?_); intro v' w1 hown' hgrow _ hblk; have hbX := hgrow.block (w.heap.size + 1) (by have := (HRA.out.alloc (.cells #[.int .i64 (c : Int)] 3)).hb; have := HRA.out.low.1; omega) (fun e => (by have := (((HRA.out.alloc (.cells #[.int .i64 (c : Int)] 3)).own).lt _ e.symm).1; have := HRA.out.low.1; omega : False)); have d4 := (World.cell?_of_block (a := ⟨w.heap.size + 1, 4, none⟩) hbX).trans (HRA.out.alloc _).f4; have y4 := (World.frozen?_of_block (a := ⟨w.heap.size + 1, 4, none⟩) hbX).trans (HRA.out.alloc _).z.1; have hnew := (HRA.out.alloc _).grown hgrow (sv' := v') (st := c :: (midAnc j k ((fallList j k).take p)).stack) (by simpa [ints] using hown'); replace HB := Lib.hid ((Below.grown ((HB.out.setCell (p := ⟨w.heap.size, c, none⟩) (Nat.le_refl _) _).trans ((Below.refl _ _).alloc (HB.out.setCell (p := ⟨w.heap.size, c, none⟩) (Nat.le_refl _) (.int .i64 (c : Int))).size _)) hgrow (by have := HB.out.size; simp [World.setCell] at this ⊢; omega) (fun g hg => (by have := ((HRA.out.alloc (.cells #[.int .i64 (c : Int)] 3)).own.lt g hg).1; have := HRA.out.low.1; omega))).setCell (p := ⟨w.heap.size + 1, 4, none⟩) (by simp) v'); have HNEW := Lib.hid hnew; obtain ⟨g', cap', rfl⟩ := ownsRow_succ hown'; clear hown' hgrow hblk hbX hnew)
          have hpj : p < j - k := by have := HP.out; omega
          have e1 : midAnc j k ((fallList j k).take (p + 1)) = { midAnc j k ((fallList j k).take p) with gone := upd (midAnc j k ((fallList j k).take p)).gone c c, stack := c :: (midAnc j k ((fallList j k).take p)).stack } := by
            rw [fallList_take j k p hpj, show j - 1 - p = c from by have := HP.out; omega, midAnc_gone]
            unfold midAnc
            simp
          refine ⟨⟨p + 1, c - 1, _, by have := HP.out; omega, by omega, ?_, by rw [e1]; exact HNEW.out, HB.out⟩, by simp [intOf]; omega⟩
          congr 1
          omega
        · go_wp2_with fail
          go_ret
          have hpe : p = j - k := by have := HP.out; omega
          have hR := HR.out
          rw [hpe, show (fallList j k).take (j - k) = fallList j k from List.take_of_length_le (by simp [fallList]), midAnc_all j k h1 h2] at hR
          refine ⟨_, _, _, _, _, _, _, _, _, _, rfl, hR, HB.out, by omega, Nat.le_refl _, ?_, ?_, ?_, ?_⟩
          · have := HW.out; omega
          · have := HL.out; omega
          · have := HK.out; omega
          · have := hB0.out; omega
end Go.Proofs.Ytlipkffnllmkgaa
