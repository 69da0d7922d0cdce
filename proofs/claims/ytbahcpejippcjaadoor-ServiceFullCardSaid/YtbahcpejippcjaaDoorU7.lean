import Derived.Test.YtbahcpejippcjaaDoorU6
namespace Go.Proofs.YtbahcpejippcjaaDoor
open Go.RowKit Go.Shelf Go.Maps

theorem SvcTab.start2 {T M : Nat} {W : World} (h1 : TabM T M (fun _ => zeroS) W) (h2 : MapE M 0 (fun _ => none) W) (hne : T ≠ M) : SvcTab 0 T M (fillF 0) W := by
  rw [fillF_zero]
  exact ⟨h1, hne, ⟨0, _, Nat.le_refl _, h2, ⟨fun k kl _ _ h => absurd rfl h, fun _ _ _ _ _ _ h => by cases h⟩⟩, fun k _ _ h => absurd rfl h⟩
/-- A table above the old heap. -/
structure Full (w : World) (N : Nat) (f : Nat → Svc) (T M : Nat) (W : World) : Prop where
  tab : SvcTab N T M f W
  below : Below w.heap.size w W
  hT : w.heap.size ≤ T
  hM : w.heap.size ≤ M
theorem Full.go {w W W' : World} {N T M : Nat} {f : Nat → Svc} (h : Full w N f T M W) (hb : Below W.heap.size W W') : Full w N f T M W' := ⟨h.tab.below hb, below_step h.below hb, h.hT, h.hM⟩
theorem Full.turn {w W W' : World} {N N' T M : Nat} {f f' : Nat → Svc} (h : Full w N f T M W) (ht : SvcTab N' T M f' W') (h2 : Two T M W W') : Full w N' f' T M W' :=
  ⟨ht, h.below.trans (h2.below h.hT h.hM h.below.size), h.hT, h.hM⟩
theorem next_add2 {w W : World} {N T M i : Nat} (h : Full w N (fillF (i - 1)) T M W) (hN : N < 1000000) (h1 : 1 ≤ i) (h2 : i ≤ 64) :
    Calls Tryd.prog 18 #[.pointer (some ⟨T, 0, none⟩), .agg #[.int .i64 6, .int .u32 9, .int .i64 (i : Int), .bool true, .int .u32 0]] W fun e w' => e = .returned (.tuple #[.int .i64 (i : Int), .int .i64 0]) ∧ Full w (N + 1) (fillF i) T M w' := by
  obtain ⟨j, rfl⟩ : ∃ j, i = j + 1 := ⟨i - 1, by omega⟩
  rw [Nat.add_sub_cancel] at h
  refine (next_add h.tab hN h2).mono ?_
  rintro e w' ⟨he, h3, h4⟩
  exact ⟨he, h.turn h3 h4⟩

set_option maxRecDepth 100000 in
set_option maxHeartbeats 3200000 in
theorem walk_ServiceFull (a0 a1 : Int) (w : World) (w0 : (Lit.int .u8 a0).wf = true) (w1 : (Lit.int .u8 a1).wf = true) (hE : Env w) :
    Calls Tryd.prog 7 #[.int .u8 a0, .int .u8 a1] w fun e w' => e = .returned (.bool true) ∧ Below w.heap.size w w' := by
  obtain ⟨A, rfl, hA⟩ : ∃ A : Nat, a0 = (A : Int) ∧ A < 256 := by
    simp [Lit.wf, IntKind.min, IntKind.max, IntKind.signed, IntKind.bits] at w0
    exact ⟨a0.toNat, by omega, by omega⟩
  obtain ⟨B, rfl, hB⟩ : ∃ B : Nat, a1 = (B : Int) ∧ B < 256 := by
    simp [Lit.wf, IntKind.min, IntKind.max, IntKind.signed, IntKind.bits] at w1
    exact ⟨a1.toNat, by omega, by omega⟩
  obtain ⟨m, hm, hm4⟩ : ∃ m : Nat, (A : Int) % 5 = (m : Int) ∧ m ≤ 4 := ⟨A % 5, by omega, by omega⟩
  obtain ⟨r, hr, hr63⟩ : ∃ r : Nat, (B : Int) % 64 = (r : Int) ∧ r ≤ 63 := ⟨B % 64, by omega, by omega⟩
  obtain ⟨k, hk, hk1, hk2⟩ : ∃ k : Nat, 1 + (r : Int) = (k : Int) ∧ 1 ≤ k ∧ k ≤ 64 := ⟨r + 1, by omega, by omega, by omega⟩
  have HE := Lib.hid hE
  have HB := Lib.hid (Below.refl w.heap.size w)
  clear w0 w1 hE
  go_enter Tryd.func7, Tryd.ntmps7
  go_wp2_with (first
    | (go_at_call 9; refine (examples19 _ (HE.out.below HB.out)).mono ?_; rintro e wx ⟨rfl, hB⟩; replace HB := Lib.hid (below_step HB.out hB); clear hB)
    | (go_at_call 17; refine (new_calls _).mono ?_; rintro e wy ⟨rfl, hT, hM, hB⟩; have HF := Lib.hid (Full.mk (w := w) (SvcTab.start2 hT (new_map hM) (by omega)) (below_step HB.out hB) (by have := HB.out.size; omega) HB.out.size); clear hB hT hM))
  obtain ⟨T, hT⟩ : ∃ T, wx.heap.size + 1 = T := ⟨_, rfl⟩
  rw [hT] at HF ⊢
  obtain ⟨M, hM⟩ : ∃ M, wx.heap.size = M := ⟨_, rfl⟩
  rw [hM] at HF
  clear hT hM HB HE
  go_loopw [7] (fun vi wr => ∃ i : Nat, vi = .int .i64 (i : Int) ∧ 1 ≤ i ∧ i ≤ 65 + m ∧ Full w (i - 1) (fillF (if i ≤ 65 then i - 1 else 64)) T M wr) (fun vi _ => 100 - (intOf vi).toNat)
  case atStart => exact ⟨1, rfl, by omega, by omega, HF.out⟩
  case round =>
    obtain ⟨i, rfl, hi1, hi2, hF⟩ := hrel
    clear HF
    by_cases hlt : i ≤ 64
    · have g1 : (i : Int) ≤ 64 := by omega
      have g2 : (i : Int) ≤ 64 + (m : Int) := by omega
      rw [if_pos (by omega)] at hF
      have HF := Lib.hid hF
      have HI := Lib.hid hi2
      clear hF hi2
      go_wp2_with (go_at_call 18; refine (next_add2 HF.out (by omega) hi1 hlt).mono ?_; rintro e wz ⟨rfl, hG⟩; have HG := Lib.hid hG; clear hG)
      go_roundw
      case rel => exact ⟨i + 1, by go_num, by omega, by have := HI.out; omega, by rw [if_pos (by omega), show i + 1 - 1 = i by omega]; have h := HG.out; rw [show i - 1 + 1 = i by omega] at h; exact h⟩
      case measure => simp [intOf]; omega
    · by_cases hlt2 : i ≤ 64 + m
      · have g1 : ¬ (i : Int) ≤ 64 := by omega
        have g1' : (64 : Int) < (i : Int) := by omega
        have g2 : (i : Int) ≤ 64 + (m : Int) := by omega
        have hF2 : Full w (i - 1) (fillF 64) T M wr := by
          by_cases h : i ≤ 65
          · rw [if_pos h, show i - 1 = 64 by omega] at hF; rw [show i - 1 = 64 by omega]; exact hF
          · rw [if_neg h] at hF; exact hF
        have HF := Lib.hid hF2
        clear hF hF2
        go_wp2_with (go_at_call 18; refine (full_add HF.out.tab (by omega) (by omega)).mono ?_; rintro e wz ⟨rfl, hB⟩; have HG := Lib.hid (HF.out.go hB); clear hB)
        go_roundw
        case rel => exact ⟨i + 1, by go_num, by omega, by omega, by rw [if_neg (by omega)]; exact ⟨⟨HG.out.tab.tab, HG.out.tab.ne, (by obtain ⟨n, g, x1, x2, x3⟩ := HG.out.tab.map; exact ⟨n, g, by omega, x2, x3⟩), HG.out.tab.good⟩, HG.out.below, HG.out.hT, HG.out.hM⟩⟩
        case measure => simp [intOf]; omega
      · have g2 : ¬ (i : Int) ≤ 64 + (m : Int) := by omega
        have hF2 : Full w (i - 1) (fillF 64) T M wr := by
          by_cases h : i ≤ 65
          · rw [if_pos h, show i - 1 = 64 by omega] at hF; rw [show i - 1 = 64 by omega]; exact hF
          · rw [if_neg h] at hF; exact hF
        have HF := Lib.hid hF2
        have hiN : i - 1 < 100 := by omega
        obtain ⟨N, hN⟩ : ∃ N, i - 1 = N := ⟨_, rfl⟩
        rw [hN] at HF hiN
        have S1 := Stage.mk 1
        have S2 := Stage.mk 2
        have S3 := Stage.mk 3
        have S4 := Stage.mk 4
        have S5 := Stage.mk 5
        have S6 := Stage.mk 6
        have S7 := Stage.mk 7
        have wf6 : (Lit.int .i64 6).wf = true := by decide
        have wf17 : (Lit.int .i64 17).wf = true := by decide
        have wf9 : (Lit.int .u32 ((9 : Nat) : Int)).wf = true := by decide
        have wf8 : (Lit.int .u32 ((8 : Nat) : Int)).wf = true := by decide
        have wfk : (Lit.int .i64 (k : Int)).wf = true := wf_i64 (by omega) (by omega)
        have W6 := Lib.hid (And.intro wf6 (And.intro wf17 (And.intro wf9 (And.intro wf8 wfk))))
        clear hF hF2 hN wf6 wf17 wf9 wf8 wfk
        go_wp2_with (first
          | (go_at_call 18; clear S1; refine (again_add HF.out.tab hk1 hk2).mono ?_; rintro e wz ⟨rfl, hB⟩; replace HF := Lib.hid (HF.out.go hB); clear hB)
          | (go_at_call 19; clear S2; refine (find_yes (v := 9) HF.out.tab (fill_is hk1 hk2 hk2) W6.out.1 W6.out.2.2.2.2 W6.out.2.2.1).mono ?_; rintro e wz ⟨rfl, hB⟩; replace HF := Lib.hid (HF.out.go hB); clear hB)
          | (go_at_call 19; clear S3; refine (find_no (v := 9) HF.out.tab (fun j hj => by have := fill_has hj; omega) W6.out.2.1 W6.out.2.2.2.2 W6.out.2.2.1).mono ?_; rintro e wz ⟨rfl, hB⟩; replace HF := Lib.hid (HF.out.go hB); clear hB)
          | (go_at_call 19; clear S4; refine (find_no (v := 8) HF.out.tab (fun j hj => by have := fill_has hj; omega) W6.out.1 W6.out.2.2.2.2 W6.out.2.2.2.1).mono ?_; rintro e wz ⟨rfl, hB⟩; replace HF := Lib.hid (HF.out.go hB); clear hB)
          | (go_at_call 20; clear S5; refine (trem_yes HF.out.tab hk1 hk2 (by rw [fillF_in hk1 hk2]; simp [svcD])).mono ?_; rintro e wz ⟨rfl, hG, h2⟩; replace HF := Lib.hid (HF.out.turn hG h2); clear hG h2)
          | (go_at_call 19; clear S6; refine (find_no (v := 9) HF.out.tab (fun j hj => by have := rem_has hj; omega) W6.out.1 W6.out.2.2.2.2 W6.out.2.2.1).mono ?_; rintro e wz ⟨rfl, hB⟩; replace HF := Lib.hid (HF.out.go hB); clear hB)
          | (go_at_call 18; clear S7; refine (udp_add HF.out.tab (by omega) hk1 hk2).mono ?_; rintro e wz ⟨rfl, hG, h2⟩; replace HF := Lib.hid (HF.out.turn hG h2); clear hG h2)
          | (go_at_call 20; refine (remove_no HF.out.tab.tab (by unfold there; omega)).mono ?_; rintro e wz ⟨rfl, hB⟩; replace HF := Lib.hid (HF.out.go hB); clear hB))
        go_ret
        exact ⟨rfl, HF.out.below⟩
end Go.Proofs.YtbahcpejippcjaaDoor
