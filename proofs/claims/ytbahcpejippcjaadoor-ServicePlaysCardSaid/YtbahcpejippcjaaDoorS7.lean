import Derived.Test.YtbahcpejippcjaaDoorS6
namespace Go.Proofs.YtbahcpejippcjaaDoor
open Go.RowKit Go.Shelf

theorem second_box {wx wy : World} {o : Obj} {c0 c1 c2 c3 c4 : Value} (hB : Below ((wx.alloc o).alloc (.cells #[c0, c1, c2, c3, c4] 24 (0, 0))).heap.size ((wx.alloc o).alloc (.cells #[c0, c1, c2, c3, c4] 24 (0, 0))) wy) :
    wy.cell? ⟨wx.heap.size + 1, 0, none⟩ = some c0 ∧ wy.cell? ⟨wx.heap.size + 1, 1, none⟩ = some c1 ∧ wy.cell? ⟨wx.heap.size + 1, 2, none⟩ = some c2 ∧ wy.cell? ⟨wx.heap.size + 1, 3, none⟩ = some c3 ∧ wy.cell? ⟨wx.heap.size + 1, 4, none⟩ = some c4 := by
  have h := (cells5 (box_on hB)).1
  rwa [show (wx.alloc o).heap.size = wx.heap.size + 1 by simp] at h
theorem facts_or (a0 a2 : Int) (v n : Nat) :
    (a0 = 6 ∨ a0 = 17) ∧ v ≠ 0 ∧ 1 ≤ a2 ∧ a2 ≤ 65535 ∧ rightB ⟨a0, v, a2, false, n⟩ = decide (n ≠ 0) ∧ rightB ⟨a0, v, a2, true, n⟩ = decide (n = 0) ∨
    (a0 ≠ 6 ∧ a0 ≠ 17 ∨ v = 0 ∨ a2 < 1 ∨ 65535 < a2) ∧ rightB ⟨a0, v, a2, false, n⟩ = false ∧ rightB ⟨a0, v, a2, true, n⟩ = false := by
  unfold rightB
  by_cases h : (a0 = 6 ∨ a0 = 17) ∧ v ≠ 0 ∧ 1 ≤ a2 ∧ a2 ≤ 65535
  · left
    obtain ⟨h1, h2, h3, h4⟩ := h
    refine ⟨h1, h2, h3, h4, ?_, ?_⟩ <;> rcases h1 with rfl | rfl <;> by_cases hn : n = 0 <;> simp [h2, h3, h4, hn]
  · right
    have h' : a0 ≠ 6 ∧ a0 ≠ 17 ∨ v = 0 ∨ a2 < 1 ∨ 65535 < a2 := by omega
    refine ⟨h', ?_, ?_⟩ <;> rcases h' with ⟨h1, h2⟩ | h1 | h1 | h1 <;> simp [*] <;> omega

set_option maxRecDepth 100000 in
set_option maxHeartbeats 6400000 in
theorem walk_ServiceRight (a0 a1 a2 a3 : Int) (w : World) (_w0 : (Lit.int .i64 a0).wf = true) (w1 : (Lit.int .u32 a1).wf = true) (_w2 : (Lit.int .i64 a2).wf = true) (w3 : (Lit.int .u32 a3).wf = true) (hE : Env w) :
    Calls Tryd.prog 5 #[.int .i64 a0, .int .u32 a1, .int .i64 a2, .int .u32 a3] w fun e w' => e = .returned (.bool true) ∧ Below w.heap.size w w' := by
  obtain ⟨v, rfl⟩ : ∃ v : Nat, a1 = (v : Int) := by
    simp [Lit.wf, IntKind.min, IntKind.max, IntKind.signed, IntKind.bits] at w1
    exact ⟨a1.toNat, by omega⟩
  obtain ⟨n, rfl⟩ : ∃ n : Nat, a3 = (n : Int) := by
    simp [Lit.wf, IntKind.min, IntKind.max, IntKind.signed, IntKind.bits] at w3
    exact ⟨a3.toNat, by omega⟩
  have H1 := Lib.hid (right_calls ⟨a0, v, a2, false, n⟩)
  have H2 := Lib.hid (right_calls ⟨a0, v, a2, true, n⟩)
  unfold Svc.val at H1 H2
  have HE := Lib.hid hE
  have HB := Lib.hid (Below.refl w.heap.size w)
  have S1 := Stage.mk 1
  have hFF := facts_or a0 a2 v n
  clear w1 w3 hE
  obtain ⟨bn, hbn⟩ : ∃ bn, decide (n = 0) = bn := ⟨_, rfl⟩
  have hbn1 : decide (n ≠ 0) = !bn := by rw [← hbn]; by_cases h : n = 0 <;> simp [h]
  have hn1 : ((n : Int) == 0) = bn := by rw [← hbn]; exact nat_zero n
  have hn2 : ((n : Int) != 0) = !bn := by rw [← hn1]; rfl
  rw [hbn, hbn1] at hFF
  clear hbn hbn1
  rcases hFF with ⟨h1, hv, h3, h4, hp, hq⟩ | ⟨h1, hp, hq⟩
  · rw [hp] at H1
    rw [hq] at H2
    clear hp hq
    have hv' : ¬ (v : Int) = 0 := by omega
    have hv2 : ((v : Int) != 0) = true := by simp [hv]
    cases bn
    all_goals
      rcases h1 with rfl | rfl
      all_goals
        go_enter Tryd.func5, Tryd.ntmps5
        go_wp2_with (first
          | (go_at_call 9; refine (examples19 _ (HE.out.below HB.out)).mono ?_; rintro e wx ⟨rfl, hB⟩; replace HB := Lib.hid (below_step HB.out hB); clear hB)
          | (clear S1; go_at_call 15; refine (H1.out _).mono ?_; rintro e wy ⟨rfl, hB⟩; obtain ⟨x0, x1, x2, x3, x4⟩ := second_box hB; replace HB := Lib.hid (below_step ((HB.out.alloc HB.out.size _).alloc (Nat.le_trans HB.out.size (by simp)) _) hB); clear hB)
          | (go_at_call 15; refine (H2.out _).mono ?_; rintro e wz ⟨rfl, hB⟩; replace HB := Lib.hid (below_step HB.out hB); clear hB))
        all_goals
          go_ret
          exact ⟨rfl, HB.out⟩
  · rw [hp] at H1
    rw [hq] at H2
    clear hp hq
    cases bn
    all_goals
      rcases h1 with ⟨h1, h2⟩ | hz | h1 | h1
      all_goals
        obtain ⟨b6, h6⟩ : ∃ b, (a0 == 6) = b := ⟨_, rfl⟩
        obtain ⟨b17, h17⟩ : ∃ b, (a0 == 17) = b := ⟨_, rfl⟩
        obtain ⟨bv, hv⟩ : ∃ b, ((v : Int) != 0) = b := ⟨_, rfl⟩
        try (have h1' : b6 = false := by rw [← h6]; simp [h1])
        try (have h2' : b17 = false := by rw [← h17]; simp [h2])
        try (have hz' : bv = false := by rw [← hv]; simp [hz])
        try clear h2
        try clear hz
        try (subst h1' h2')
        try (subst hz')
        go_enter Tryd.func5, Tryd.ntmps5
        go_wp2_with (first
          | (go_at_call 9; refine (examples19 _ (HE.out.below HB.out)).mono ?_; rintro e wx ⟨rfl, hB⟩; replace HB := Lib.hid (below_step HB.out hB); clear hB)
          | (clear S1; go_at_call 15; refine (H1.out _).mono ?_; rintro e wy ⟨rfl, hB⟩; obtain ⟨x0, x1, x2, x3, x4⟩ := second_box hB; replace HB := Lib.hid (below_step ((HB.out.alloc HB.out.size _).alloc (Nat.le_trans HB.out.size (by simp)) _) hB); clear hB)
          | (go_at_call 15; refine (H2.out _).mono ?_; rintro e wz ⟨rfl, hB⟩; replace HB := Lib.hid (below_step HB.out hB); clear hB))
        all_goals
          go_ret
          exact ⟨rfl, HB.out⟩
end Go.Proofs.YtbahcpejippcjaaDoor
