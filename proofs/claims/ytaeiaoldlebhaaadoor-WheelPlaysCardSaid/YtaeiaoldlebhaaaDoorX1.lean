import Derived.Test.YtaeiaoldlebhaaaDoorWN
namespace Go.Proofs.YtaeiaoldlebhaaaDoor
open Go.RowKit Go.Maps Go.Lib

theorem u32_nat {a : Int} (h : (Lit.int .u32 a).wf = true) : ∃ n : Nat, a = (n : Int) ∧ n < 4294967296 := by
  simp [Lit.wf, IntKind.min, IntKind.max, IntKind.signed, IntKind.bits] at h
  exact ⟨a.toNat, by omega, by omega⟩
theorem i64_bounds {a : Int} (h : (Lit.int .i64 a).wf = true) : -9223372036854775808 ≤ a ∧ a ≤ 9223372036854775807 := by
  simp [Lit.wf, IntKind.min, IntKind.max, IntKind.signed, IntKind.bits] at h
  omega
/-- What the last step of WheelRefuses does: who alone is armed is told just when its time is reached. -/
def Tells1 (n W want o : Nat) (B : Nat) (w : World) (a2 : Int) : Prop := ∃ (th len : Nat), (if a2 < (n : Int) then th = n else min a2 1099511627776 = (th : Int)) ∧ ((len = 1 ∧ want ≤ th) ∨ (len = 0 ∧ th < want)) ∧
  Calls Tryd.prog 18 #[.pointer (some ⟨W, 0, none⟩), .int .i64 a2] w fun e w' => ∃ p cap L', e = .returned (.slice p len cap) ∧ OneW B W th o L' [] w' ∧ Below B w w'
theorem tells1 {n W want o B : Nat} {w : World} (h : OneW B W n o [⟨1, want, o⟩] [] w) (hT : TabAt 0 Lib.deBruijn64tab w) (hB : 0 < B) (hw : n < want) (a2 : Int) : Tells1 n W want o B w a2 := by
  by_cases h1 : a2 < (n : Int)
  · refine ⟨n, 0, by rw [if_pos h1], .inr ⟨rfl, hw⟩, (one_back h a2 h1).mono ?_⟩
    rintro e w' ⟨he, rfl⟩
    exact ⟨none, 0, _, he, h, Below.refl _ _⟩
  · obtain ⟨th, hth⟩ : ∃ th : Nat, min a2 1099511627776 = (th : Int) := ⟨(min a2 1099511627776).toNat, by omega⟩
    by_cases h2 : want ≤ th
    · refine ⟨th, 1, by rw [if_neg h1]; exact hth, .inl ⟨rfl, h2⟩, (one_adv h hT hB a2 h1 th hth 1 (by rw [upTil_all (fun x hx => by simp at hx; subst hx; exact h2)]; rfl)).mono ?_⟩
      rintro e w' ⟨p, cap, he, hA, hb, _, _⟩
      exact ⟨p, cap, _, he, hA, hb⟩
    · refine ⟨th, 0, by rw [if_neg h1]; exact hth, .inr ⟨rfl, by omega⟩, (one_adv h hT hB a2 h1 th hth 0 (by rw [upTil_none (fun x hx => by simp at hx; subst hx; show th < want; omega)]; rfl)).mono ?_⟩
      rintro e w' ⟨p, cap, he, hA, hb, _, _⟩
      exact ⟨p, cap, _, he, hA, hb⟩
set_option maxRecDepth 100000 in
set_option maxHeartbeats 4000000 in
theorem walk_WheelRefuses (a0 a1 a2 : Int) (w : World) (w0 : (Lit.int .u32 a0).wf = true) (w1 : (Lit.int .i64 a1).wf = true) (w2 : (Lit.int .i64 a2).wf = true) (hE : TabAt 0 Lib.deBruijn64tab w ∧ 0 < w.heap.size) :
    Calls Tryd.prog 6 #[.int .u32 a0, .int .i64 a1, .int .i64 a2] w fun e w' => e = .returned (.bool true) ∧ Below w.heap.size w w' := by
  obtain ⟨m0, rfl, hm0⟩ := u32_nat w0
  obtain ⟨n, hn2⟩ : ∃ n, m0 % 1073741824 = n := ⟨_, rfl⟩
  have hn : (m0 : Int) % 1073741824 = (n : Int) := by omega
  have hnl : n < 1073741824 := by omega
  have hb1 := i64_bounds w1
  have hb2 := i64_bounds w2
  clear w0 w1 w2 hn2
  obtain ⟨hT, h0⟩ := hE
  have HT := Lib.hid hT
  clear hT
  have HB := Lib.hid (Below.refl w.heap.size w)
  go_enter Tryd.func6, Tryd.ntmps6
  go_wp2_with fail
  refine (examples16 w HT.out h0).mono ?_
  rintro e wx ⟨rfl, hb⟩
  replace HB := Lib.hid hb
  clear hb
  go_wp2_with fail
  refine (one_new w.heap.size wx HB.out.size).mono ?_
  rintro e wa ⟨W, rfl, hA, hb⟩
  have HA := Lib.hid hA
  replace HB := Lib.hid (HB.out.trans (hb.mono HB.out.size))
  clear hA hb
  go_wp2_with fail
  refine (one_adv HA.out (tab_below HT.out h0 HB.out) h0 (n : Int) (by omega) n (by omega) 0 rfl).mono ?_
  rintro e wb ⟨pb, cb, rfl, hA, hb, _, hr⟩
  replace HA := Lib.hid (show OneW w.heap.size W n 0 [] [] wb from hA)
  replace HB := Lib.hid (HB.out.trans hb)
  clear hA hb hr
  go_wp2_with fail
  have e7 : ((n : Int) + 7) = ((n + 7 : Nat) : Int) := by omega
  rw [e7]
  refine (one_arm HA.out (k := 1) (by omega) (n + 7) (by omega) (by omega) (by omega)).mono ?_
  rintro e wc ⟨rfl, hA, hb, _⟩
  replace HA := Lib.hid (show OneW w.heap.size W n 1 [⟨1, n + 7, 1⟩] [] wc from hA)
  replace HB := Lib.hid (HB.out.trans hb)
  clear hA hb e7
  go_wp2_with fail
  by_cases hf : (n : Int) < a1 ∧ a1 ≤ 1099511627776
  · obtain ⟨t, rfl⟩ : ∃ t : Nat, a1 = (t : Int) := ⟨a1.toNat, by omega⟩
    obtain ⟨hf1, hf2⟩ := hf
    refine (one_arm HA.out (k := 1) (by omega) t (by omega) (by omega) (by omega)).mono ?_
    rintro e wc2 ⟨rfl, hA, hb, _⟩
    replace HA := Lib.hid (show OneW w.heap.size W n 2 [⟨1, t, 2⟩] [] wc2 from hA)
    replace HB := Lib.hid (HB.out.trans hb)
    clear hA hb
    go_wp2_with fail
    refine (one_due HA.out (k := 1) (i64_wf' (by omega) (by omega))).mono ?_
    rintro e wd ⟨rfl, hb⟩
    replace HA := Lib.hid (HA.out.below hb)
    replace HB := Lib.hid (HB.out.trans (hb.mono HB.out.size))
    clear hb
    rw [show dueV 1 [⟨1, t, 2⟩] = .tuple #[.int .i64 ((t : Nat) : Int), .bool true] from rfl]
    skip
    go_wp2_with fail
    obtain ⟨th, len, hth, hlw, hcall⟩ := tells1 HA.out (tab_below HT.out h0 HB.out) h0 (by omega) a2
    by_cases h1 : a2 < (n : Int)
    · rw [if_pos h1] at hth
      have hth2 : n = th := hth.symm
      subst hth2
      have hlw : len = 0 ∧ n < t := by omega
      obtain ⟨rfl, hlw⟩ := hlw
      have hd1 : decide (t ≤ n) = false := decide_eq_false (by omega)
      have hd2 : decide ((t : Int) ≤ (n : Int)) = false := decide_eq_false (by omega)
      refine hcall.mono ?_
      rintro e we ⟨pe, ce, L', rfl, hA, hb⟩
      have HA2 := Lib.hid hA
      have HB2 := Lib.hid (HB.out.trans hb)
      clear hA hb
      go_wp2_with (go_at_call 21; refine (one_now HA2.out).mono ?_; rintro e wx ⟨rfl, rfl⟩)
      go_ret
      exact ⟨rfl, HB2.out⟩
    · rw [if_neg h1] at hth
      have HTT := Lib.hid hth
      clear hth
      rcases hlw with ⟨rfl, hlw⟩ | ⟨rfl, hlw⟩
      · have hd1 : decide (t ≤ th) = true := decide_eq_true (by omega)
        have hd2 : decide ((t : Int) ≤ (th : Int)) = true := decide_eq_true (by omega)
        refine hcall.mono ?_
        rintro e we ⟨pe, ce, L', rfl, hA, hb⟩
        have HA2 := Lib.hid hA
        have HB2 := Lib.hid (HB.out.trans hb)
        clear hA hb
        go_upto_region 22 with (fail)
        rw [HTT.out]
        go_wp2_with (go_at_call 21; refine (one_now HA2.out).mono ?_; rintro e wx ⟨rfl, rfl⟩)
        go_ret
        exact ⟨rfl, HB2.out⟩
      · have hd1 : decide (t ≤ th) = false := decide_eq_false (by omega)
        have hd2 : decide ((t : Int) ≤ (th : Int)) = false := decide_eq_false (by omega)
        refine hcall.mono ?_
        rintro e we ⟨pe, ce, L', rfl, hA, hb⟩
        have HA2 := Lib.hid hA
        have HB2 := Lib.hid (HB.out.trans hb)
        clear hA hb
        go_upto_region 22 with (fail)
        rw [HTT.out]
        go_wp2_with (go_at_call 21; refine (one_now HA2.out).mono ?_; rintro e wx ⟨rfl, rfl⟩)
        go_ret
        exact ⟨rfl, HB2.out⟩
  · have hbad : a1 ≤ (n : Int) ∨ 1099511627776 < a1 := by omega
    refine (one_bad HA.out 1 a1 hbad).mono ?_
    rintro e wc2 ⟨rfl, rfl⟩
    by_cases hf1 : a1 ≤ (n : Int)
    · clear hbad hf
      go_wp2_with fail
      refine (one_due HA.out (k := 1) (i64_wf' (by omega) (by omega))).mono ?_
      rintro e wd ⟨rfl, hb⟩
      replace HA := Lib.hid (HA.out.below hb)
      replace HB := Lib.hid (HB.out.trans (hb.mono HB.out.size))
      clear hb
      rw [show dueV 1 [⟨1, n + 7, 1⟩] = .tuple #[.int .i64 ((n + 7 : Nat) : Int), .bool true] from rfl]
      have e7 : (((n + 7 : Nat)) : Int) = (n : Int) + 7 := by omega
      rw [e7]
      clear e7
      go_wp2_with fail
      obtain ⟨th, len, hth, hlw, hcall⟩ := tells1 HA.out (tab_below HT.out h0 HB.out) h0 (by omega) a2
      by_cases h1 : a2 < (n : Int)
      · rw [if_pos h1] at hth
        have hth2 : n = th := hth.symm
        subst hth2
        have hlw : len = 0 ∧ n < n + 7 := by omega
        obtain ⟨rfl, hlw⟩ := hlw
        have hd1 : decide (n + 7 ≤ n) = false := decide_eq_false (by omega)
        have hd2 : decide (((n : Int) + 7) ≤ (n : Int)) = false := decide_eq_false (by omega)
        refine hcall.mono ?_
        rintro e we ⟨pe, ce, L', rfl, hA, hb⟩
        have HA2 := Lib.hid hA
        have HB2 := Lib.hid (HB.out.trans hb)
        clear hA hb
        go_wp2_with (go_at_call 21; refine (one_now HA2.out).mono ?_; rintro e wx ⟨rfl, rfl⟩)
        go_ret
        exact ⟨rfl, HB2.out⟩
      · rw [if_neg h1] at hth
        have HTT := Lib.hid hth
        clear hth
        rcases hlw with ⟨rfl, hlw⟩ | ⟨rfl, hlw⟩
        · have hd1 : decide (n + 7 ≤ th) = true := decide_eq_true (by omega)
          have hd2 : decide (((n : Int) + 7) ≤ (th : Int)) = true := decide_eq_true (by omega)
          refine hcall.mono ?_
          rintro e we ⟨pe, ce, L', rfl, hA, hb⟩
          have HA2 := Lib.hid hA
          have HB2 := Lib.hid (HB.out.trans hb)
          clear hA hb
          go_upto_region 22 with (fail)
          rw [HTT.out]
          go_wp2_with (go_at_call 21; refine (one_now HA2.out).mono ?_; rintro e wx ⟨rfl, rfl⟩)
          go_ret
          exact ⟨rfl, HB2.out⟩
        · have hd1 : decide (n + 7 ≤ th) = false := decide_eq_false (by omega)
          have hd2 : decide (((n : Int) + 7) ≤ (th : Int)) = false := decide_eq_false (by omega)
          refine hcall.mono ?_
          rintro e we ⟨pe, ce, L', rfl, hA, hb⟩
          have HA2 := Lib.hid hA
          have HB2 := Lib.hid (HB.out.trans hb)
          clear hA hb
          go_upto_region 22 with (fail)
          rw [HTT.out]
          go_wp2_with (go_at_call 21; refine (one_now HA2.out).mono ?_; rintro e wx ⟨rfl, rfl⟩)
          go_ret
          exact ⟨rfl, HB2.out⟩
    · have hf2 : (n : Int) < a1 := by omega
      have hf3 : decide (a1 ≤ 1099511627776) = false := decide_eq_false (by omega)
      clear hbad hf
      go_wp2_with fail
      refine (one_due HA.out (k := 1) (i64_wf' (by omega) (by omega))).mono ?_
      rintro e wd ⟨rfl, hb⟩
      replace HA := Lib.hid (HA.out.below hb)
      replace HB := Lib.hid (HB.out.trans (hb.mono HB.out.size))
      clear hb
      rw [show dueV 1 [⟨1, n + 7, 1⟩] = .tuple #[.int .i64 ((n + 7 : Nat) : Int), .bool true] from rfl]
      have e7 : (((n + 7 : Nat)) : Int) = (n : Int) + 7 := by omega
      rw [e7]
      clear e7
      go_wp2_with fail
      obtain ⟨th, len, hth, hlw, hcall⟩ := tells1 HA.out (tab_below HT.out h0 HB.out) h0 (by omega) a2
      by_cases h1 : a2 < (n : Int)
      · rw [if_pos h1] at hth
        have hth2 : n = th := hth.symm
        subst hth2
        have hlw : len = 0 ∧ n < n + 7 := by omega
        obtain ⟨rfl, hlw⟩ := hlw
        have hd1 : decide (n + 7 ≤ n) = false := decide_eq_false (by omega)
        have hd2 : decide (((n : Int) + 7) ≤ (n : Int)) = false := decide_eq_false (by omega)
        refine hcall.mono ?_
        rintro e we ⟨pe, ce, L', rfl, hA, hb⟩
        have HA2 := Lib.hid hA
        have HB2 := Lib.hid (HB.out.trans hb)
        clear hA hb
        go_wp2_with (go_at_call 21; refine (one_now HA2.out).mono ?_; rintro e wx ⟨rfl, rfl⟩)
        go_ret
        exact ⟨rfl, HB2.out⟩
      · rw [if_neg h1] at hth
        have HTT := Lib.hid hth
        clear hth
        rcases hlw with ⟨rfl, hlw⟩ | ⟨rfl, hlw⟩
        · have hd1 : decide (n + 7 ≤ th) = true := decide_eq_true (by omega)
          have hd2 : decide (((n : Int) + 7) ≤ (th : Int)) = true := decide_eq_true (by omega)
          refine hcall.mono ?_
          rintro e we ⟨pe, ce, L', rfl, hA, hb⟩
          have HA2 := Lib.hid hA
          have HB2 := Lib.hid (HB.out.trans hb)
          clear hA hb
          go_upto_region 22 with (fail)
          rw [HTT.out]
          go_wp2_with (go_at_call 21; refine (one_now HA2.out).mono ?_; rintro e wx ⟨rfl, rfl⟩)
          go_ret
          exact ⟨rfl, HB2.out⟩
        · have hd1 : decide (n + 7 ≤ th) = false := decide_eq_false (by omega)
          have hd2 : decide (((n : Int) + 7) ≤ (th : Int)) = false := decide_eq_false (by omega)
          refine hcall.mono ?_
          rintro e we ⟨pe, ce, L', rfl, hA, hb⟩
          have HA2 := Lib.hid hA
          have HB2 := Lib.hid (HB.out.trans hb)
          clear hA hb
          go_upto_region 22 with (fail)
          rw [HTT.out]
          go_wp2_with (go_at_call 21; refine (one_now HA2.out).mono ?_; rintro e wx ⟨rfl, rfl⟩)
          go_ret
          exact ⟨rfl, HB2.out⟩
end Go.Proofs.YtaeiaoldlebhaaaDoor
