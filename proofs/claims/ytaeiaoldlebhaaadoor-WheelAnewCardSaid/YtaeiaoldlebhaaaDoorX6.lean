import Derived.Test.YtaeiaoldlebhaaaDoorX1
import Derived.Test.YtaeiaoldlebhaaaDoorZM
namespace Go.Proofs.YtaeiaoldlebhaaaDoor.S
open Go.RowKit Go.Maps Go.Lib

theorem without_perm {k : Int} {l m : List Ent} (h : l.Perm m) : (without k l).Perm (without k m) := h.filter _
/-- Who is armed behind the law's deeds. -/
theorem anew_list {a b c : Nat} (h1 : Up (armL 0 a 1 [])) (h2 : Up (armL 1 b 2 (armL 0 a 1 []))) (h3 : Up (armL 2 c 3 (armL 1 b 2 (armL 0 a 1 [])))) (h4 : Up (armL 0 b 4 (armL 2 c 3 (armL 1 b 2 (armL 0 a 1 []))))) (k4 : ((armL 0 b 4 (armL 2 c 3 (armL 1 b 2 (armL 0 a 1 [])))).map Ent.key).Nodup) :
    hasKey 2 (armL 0 b 4 (armL 2 c 3 (armL 1 b 2 (armL 0 a 1 [])))) = some ⟨2, c, 3⟩ ∧ without 2 (armL 0 b 4 (armL 2 c 3 (armL 1 b 2 (armL 0 a 1 [])))) = [⟨1, b, 2⟩, ⟨0, b, 4⟩] := by
  have p1 : (armL 0 a 1 []).Perm [⟨0, a, 1⟩] := armL_perm (by exact List.Pairwise.nil)
  have p2 : (armL 1 b 2 (armL 0 a 1 [])).Perm [⟨1, b, 2⟩, ⟨0, a, 1⟩] := (armL_perm h1).trans ((List.perm_cons _).2 (without_perm (k := 1) p1))
  have p3 : (armL 2 c 3 (armL 1 b 2 (armL 0 a 1 []))).Perm [⟨2, c, 3⟩, ⟨1, b, 2⟩, ⟨0, a, 1⟩] := (armL_perm h2).trans ((List.perm_cons _).2 (without_perm (k := 2) p2))
  have p4 : (armL 0 b 4 (armL 2 c 3 (armL 1 b 2 (armL 0 a 1 [])))).Perm [⟨0, b, 4⟩, ⟨2, c, 3⟩, ⟨1, b, 2⟩] := (armL_perm h3).trans ((List.perm_cons _).2 (without_perm (k := 0) p3))
  refine ⟨hasKey_of k4 (p4.symm.subset (by simp)) rfl, up_one (h4.filter _) ?_ ((without_perm (k := 2) p4).trans (List.Perm.swap _ _ _))⟩
  unfold Up
  simp [Ent.lt]
theorem kb_x : kb 0 = ⟨#[120]⟩ := by decide
theorem kb_y : kb 1 = ⟨#[121]⟩ := by decide
theorem kb_z : kb 2 = ⟨#[122]⟩ := by decide
/-- Advance, where somebody is told: the row that is handed back is none of the wheel's blocks. -/
theorem one_tell {B W now o : Nat} {L : List Ent} {w : World} (h : OneW B W now o L [] w) (hT : TabAt 0 Lib.deBruijn64tab w) (hB : 0 < B) (a : Int) (ha : ¬ a < (now : Int)) (te : Nat) (hte : min a 1099511627776 = (te : Int)) (n : Nat) (hn : (upTil te L).length = n) (h0 : 0 < n) :
    Calls Tryd.prog 25 #[.pointer (some ⟨W, 0, none⟩), .int .i64 a] w fun e w' => ∃ g cap, e = .returned (.slice (some ⟨g, 0, none⟩) n cap) ∧ OneW B W te o (past te L) [g] w' ∧ Below B w w' ∧ w'.ownsRow w.heap.size 9 1 (.slice (some ⟨g, 0, none⟩) n cap) n (keysC (upTil te L)) := by
  have hs := h.size.1
  obtain ⟨S, k1, k2, k3⟩ := h
  refine (advance_whl k1 hT ⟨fun hS => by have := k2 0 hS; omega, by omega⟩ a ha te hte).mono ?_
  rintro e w' ⟨v, S', he, g1, g2, g3, g4⟩
  have ht := OneW.trn k2 k3 hs ⟨S', g1, g2, g3⟩
  have h4 := g4.1
  rw [hn] at h4
  obtain ⟨g, cap, rfl, _, hg⟩ := h4.form h0
  refine ⟨g, cap, he, ⟨S', g1, fun i hi => ?_, fun i hi => ?_⟩, ht.2.1, h4⟩
  · rcases g3 i hi with e | e
    · exact k2 i e
    · omega
  · simp at hi
    subst hi
    exact ⟨g4.2 _ rfl, hg⟩
set_option maxRecDepth 100000 in
set_option maxHeartbeats 4000000 in
theorem walk_WheelAnew (a0 a1 a2 : Int) (w : World) (w0 : (Lit.int .u32 a0).wf = true) (w1 : (Lit.int .u32 a1).wf = true) (w2 : (Lit.int .u32 a2).wf = true) (hE : TabAt 0 Lib.deBruijn64tab w ∧ 0 < w.heap.size) :
    Calls Tryd.prog 5 #[.int .u32 a0, .int .u32 a1, .int .u32 a2] w fun e w' => e = .returned (.bool true) ∧ Below w.heap.size w w' := by
  obtain ⟨m0, rfl, hm0⟩ := u32_nat w0
  obtain ⟨m1, rfl, hm1⟩ := u32_nat w1
  obtain ⟨m2, rfl, hm2⟩ := u32_nat w2
  obtain ⟨a, ha⟩ : ∃ n, 1 + m0 % 1048576 = n := ⟨_, rfl⟩
  obtain ⟨b, hb⟩ : ∃ n, 1 + m1 % 1048576 = n := ⟨_, rfl⟩
  obtain ⟨c, hc⟩ : ∃ n, 1 + m2 % 1048576 = n := ⟨_, rfl⟩
  have ha2 : (1 : Int) + (m0 : Int) % 1048576 = (a : Int) := by omega
  have hb2 : (1 : Int) + (m1 : Int) % 1048576 = (b : Int) := by omega
  have hc2 : (1 : Int) + (m2 : Int) % 1048576 = (c : Int) := by omega
  have hal : 1 ≤ a ∧ a ≤ 1048576 := by omega
  have hbl : 1 ≤ b ∧ b ≤ 1048576 := by omega
  have hcl : 1 ≤ c ∧ c ≤ 1048576 := by omega
  clear w0 w1 w2 ha hb hc
  obtain ⟨hT, h0⟩ := hE
  have HT := Lib.hid hT
  clear hT
  have HB := Lib.hid (Below.refl w.heap.size w)
  go_enter Tryd.func5, Tryd.ntmps5
  go_wp2_with fail
  refine (examples16 w HT.out h0).mono ?_
  rintro e wx ⟨rfl, hb⟩
  replace HB := Lib.hid hb
  clear hb
  go_wp2_with fail
  refine (one_new w.heap.size wx HB.out.size).mono ?_
  rintro e wa ⟨W, rfl, hA, hb⟩
  have HA := Lib.hid hA
  replace HB := Lib.hid (HB.out.trans (hb.mono HB.out.size))
  clear hA hb
  go_wp2_with fail
  have hq := one_arm HA.out (k := 0) (by omega) a (by omega) (by omega) (by omega)
  rw [kb_x] at hq
  refine hq.mono ?_
  rintro e w1 ⟨rfl, hA, hb, _⟩
  replace HA := Lib.hid (show OneW w.heap.size W 0 1 (armL 0 a 1 []) [] w1 from hA)
  replace HB := Lib.hid (HB.out.trans hb)
  clear hA hb hq
  go_wp2_with fail
  have U1 := HA.out.size.2.2.up
  have hq := one_arm HA.out (k := 1) (by omega) b (by omega) (by omega) (by omega)
  rw [kb_y] at hq
  refine hq.mono ?_
  rintro e w2 ⟨rfl, hA, hb, _⟩
  replace HA := Lib.hid (show OneW w.heap.size W 0 2 (armL 1 b 2 (armL 0 a 1 [])) [] w2 from hA)
  replace HB := Lib.hid (HB.out.trans hb)
  clear hA hb hq
  go_wp2_with fail
  have U2 := HA.out.size.2.2.up
  have hq := one_arm HA.out (k := 2) (by omega) c (by omega) (by omega) (by omega)
  rw [kb_z] at hq
  refine hq.mono ?_
  rintro e w3 ⟨rfl, hA, hb, _⟩
  replace HA := Lib.hid (show OneW w.heap.size W 0 3 (armL 2 c 3 (armL 1 b 2 (armL 0 a 1 []))) [] w3 from hA)
  replace HB := Lib.hid (HB.out.trans hb)
  clear hA hb hq
  go_wp2_with fail
  have U3 := HA.out.size.2.2.up
  have hq := one_arm HA.out (k := 0) (by omega) b (by omega) (by omega) (by omega)
  rw [kb_x] at hq
  refine hq.mono ?_
  rintro e w4 ⟨rfl, hA, hb, _⟩
  replace HA := Lib.hid (show OneW w.heap.size W 0 4 (armL 0 b 4 (armL 2 c 3 (armL 1 b 2 (armL 0 a 1 [])))) [] w4 from hA)
  replace HB := Lib.hid (HB.out.trans hb)
  clear hA hb hq
  go_wp2_with fail
  obtain ⟨hk, hl⟩ := anew_list U1 U2 U3 HA.out.size.2.2.up HA.out.size.2.2.keys
  have hq := one_cancel HA.out (k := 2) (by decide)
  rw [kb_z, hk, hl] at hq
  refine hq.mono ?_
  rintro e w5 ⟨rfl, hA, hb, _⟩
  replace HA := Lib.hid hA
  replace HB := Lib.hid (HB.out.trans hb)
  clear hA hb hq hk hl U1 U2 U3
  dsimp only [Option.isSome]
  go_wp2_with fail
  have hq := one_cancel HA.out (k := 2) (by decide)
  have hk : hasKey 2 [⟨1, b, 2⟩, ⟨0, b, 4⟩] = none := rfl
  have hl : without 2 [⟨1, b, 2⟩, ⟨0, b, 4⟩] = [⟨1, b, 2⟩, ⟨0, b, 4⟩] := rfl
  rw [kb_z, hk, hl] at hq
  refine hq.mono ?_
  rintro e w6 ⟨rfl, hA, hb, _⟩
  replace HA := Lib.hid hA
  replace HB := Lib.hid (HB.out.trans hb)
  clear hA hb hq hk hl
  dsimp only [Option.isSome]
  go_wp2_with fail
  have n0 : upTil (b - 1) [⟨1, b, 2⟩, ⟨0, b, 4⟩] = [] := upTil_none (fun x hx => by simp at hx; rcases hx with rfl | rfl <;> (dsimp only; omega))
  have n1 : past (b - 1) [⟨1, b, 2⟩, ⟨0, b, 4⟩] = [⟨1, b, 2⟩, ⟨0, b, 4⟩] := past_all (fun x hx => by simp at hx; rcases hx with rfl | rfl <;> (dsimp only; omega))
  have n2 : upTil b [⟨1, b, 2⟩, ⟨0, b, 4⟩] = [⟨1, b, 2⟩, ⟨0, b, 4⟩] := upTil_all (fun x hx => by simp at hx; rcases hx with rfl | rfl <;> exact Nat.le_refl _)
  have n3 : past b [⟨1, b, 2⟩, ⟨0, b, 4⟩] = [] := past_none (fun x hx => by simp at hx; rcases hx with rfl | rfl <;> exact Nat.le_refl _)
  refine (one_adv HA.out (tab_below HT.out h0 HB.out) h0 ((b : Int) - 1) (by omega) (b - 1) (by omega) 0 (by rw [n0]; rfl)).mono ?_
  rintro e w7 ⟨p7, c7, rfl, hA, hb, _, _⟩
  rw [n1] at hA
  replace HA := Lib.hid hA
  replace HB := Lib.hid (HB.out.trans hb)
  clear hA hb n0 n1
  go_wp2_with fail
  refine (one_tell HA.out (tab_below HT.out h0 HB.out) h0 (b : Int) (by omega) b (by omega) 2 (by rw [n2]; rfl) (by omega)).mono ?_
  rintro e w8 ⟨g8, c8, rfl, hA, hb, hr⟩
  rw [n3] at hA
  rw [n2] at hr
  replace HA := Lib.hid hA
  replace HB := Lib.hid (HB.out.trans hb)
  have HR8 := Lib.hid hr
  clear hA hb n2 n3 hr
  go_wp2_with fail
  refine (one_adv HA.out (tab_below HT.out h0 HB.out) h0 2097152 (by omega) 2097152 (by omega) 0 rfl).mono ?_
  rintro e w9 ⟨p9, c9, rfl, hA, hb, hG, hr⟩
  have hk := hG g8 (by simp)
  have hr9 := ownsRow_kept HR8.out (w' := w9) (fun g e => by cases e; exact hk)
  have r0 := hr9.cellAt 0 (by omega)
  have r1 := hr9.cellAt 1 (by omega)
  replace r0 : w9.cell? ⟨g8, 0, none⟩ = some (.string (kb 1)) := r0
  replace r1 : w9.cell? ⟨g8, 1, none⟩ = some (.string (kb 0)) := r1
  rw [kb_y] at r0
  rw [kb_x] at r1
  have HB2 := Lib.hid (HB.out.trans hb)
  have hcap : 2 ≤ c8 := by
    rcases HR8.out.2 with ⟨hv, _⟩ | ⟨g', cap', cur, hv, _, _, hle, _⟩
    · cases hv
    · cases hv; exact hle
  clear hA hb hG hr hk hr9
  go_wp2_with fail
  go_ret
  exact ⟨rfl, HB2.out⟩
end Go.Proofs.YtaeiaoldlebhaaaDoor.S
namespace Go.Proofs.YtaeiaoldlebhaaaDoor
theorem walk_WheelAnew (a0 a1 a2 : Int) (w : World) (w0 : (Lit.int .u32 a0).wf = true) (w1 : (Lit.int .u32 a1).wf = true) (w2 : (Lit.int .u32 a2).wf = true) (hE : TabAt 0 Lib.deBruijn64tab w ∧ 0 < w.heap.size) :
    Calls Tryd.prog 5 #[.int .u32 a0, .int .u32 a1, .int .u32 a2] w fun e w' => e = .returned (.bool true) ∧ RowKit.Below w.heap.size w w' := S.walk_WheelAnew a0 a1 a2 w w0 w1 w2 hE
end Go.Proofs.YtaeiaoldlebhaaaDoor
