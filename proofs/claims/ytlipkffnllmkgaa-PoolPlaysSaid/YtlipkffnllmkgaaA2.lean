import Derived.Test.YtlipkffnllmkgaaA1
namespace Go.Proofs.Ytlipkffnllmkgaa
open Go.RowKit

set_option maxRecDepth 100000 in
set_option maxHeartbeats 4000000 in
theorem rounds_calls (b : Nat) (v : S4) (w : World) (h : AtS b v w) (n : Int) (hn : 0 ≤ n) (hn2 : n ≤ 100) : Calls Try.prog 49 #[.pointer (some ⟨b, 0, none⟩), .int .i64 n] w fun e w' => e = .returned (.tuple #[]) ∧ AtS b (Nat.repeat rnd n.toNat v) w'  ∧ w.grownBy w' (some b) := by
  go_enter Try.func49, Try.ntmps49
  go_wp2_with fail
  go_loopw [5] (fun i wr => ∃ k : Nat, (k : Int) ≤ n ∧ i = .int .i64 k ∧ AtS b (Nat.repeat rnd k v) wr ∧ w.grownBy wr (some b)) (fun i _ => (n - intOf i).toNat)
  case atStart => exact ⟨0, hn, rfl, h, grown_refl _ _⟩
  case round =>
    obtain ⟨k, hk, rfl, h4, hg⟩ := hrel
    obtain ⟨u, hu⟩ : ∃ u, u = Nat.repeat rnd k v := ⟨_, rfl⟩
    have HU := Lib.hid hu
    rw [← hu] at h4
    have h4 : At4 b u.p u.q u.r u.s wr := h4
    have HG := Lib.hid hg
    clear hu hg h
    by_cases hlt : (k : Int) < n
    · go_wp2_with fail
      obtain ⟨p1, hp1⟩ : ∃ x, x = ua u.p u.q := ⟨_, rfl⟩
      obtain ⟨r1, hr1⟩ : ∃ x, x = ua u.r u.s := ⟨_, rfl⟩
      obtain ⟨q1, hq1⟩ : ∃ x, x = ux (rotl 8192 2251799813685248 u.q) p1 := ⟨_, rfl⟩
      obtain ⟨s1, hs1⟩ : ∃ x, x = ux (rotl 65536 281474976710656 u.s) r1 := ⟨_, rfl⟩
      obtain ⟨p2, hp2⟩ : ∃ x, x = rotl 4294967296 4294967296 p1 := ⟨_, rfl⟩
      obtain ⟨r2, hr2⟩ : ∃ x, x = ua r1 q1 := ⟨_, rfl⟩
      obtain ⟨p3, hp3⟩ : ∃ x, x = ua p2 s1 := ⟨_, rfl⟩
      obtain ⟨q2, hq2⟩ : ∃ x, x = ux (rotl 131072 140737488355328 q1) r2 := ⟨_, rfl⟩
      obtain ⟨s2, hs2⟩ : ∃ x, x = ux (rotl 2097152 8796093022208 s1) p3 := ⟨_, rfl⟩
      obtain ⟨r3, hr3⟩ : ∃ x, x = rotl 4294967296 4294967296 r2 := ⟨_, rfl⟩
      have hend : rnd u = ⟨p3, q2, r3, s2⟩ := by subst hp1 hr1 hq1 hs1 hp2 hr2 hp3 hq2 hs2 hr3; rfl
      have Hend := Lib.hid hend
      have Hp1 := Lib.hid hp1
      have Hr1 := Lib.hid hr1
      have Hq1 := Lib.hid hq1
      have Hs1 := Lib.hid hs1
      have Hp2 := Lib.hid hp2
      have Hr2 := Lib.hid hr2
      have Hp3 := Lib.hid hp3
      have Hq2 := Lib.hid hq2
      have Hs2 := Lib.hid hs2
      have Hr3 := Lib.hid hr3
      clear hend hp1 hr1 hq1 hs1 hp2 hr2 hp3 hq2 hs2 hr3
      go_wp2_with fail
      go_cut [] from 7 to 119 (fun w' => At4 b p1 u.q u.r u.s w' ∧ w.grownBy w' (some b))
      case first =>
        obtain ⟨c0, c1, c2, c3, f0, f1, f2, f3⟩ := h4
        refine wp_tail 11 (by kernel_rfl) (by kernel_rfl) ?_
        simp only [List.take_succ_cons, List.take_zero, List.drop_succ_cons, List.drop_zero]
        repeat still_step
        refine wpStill_nil ?_
        go_wp2_with fail
        go_meet
        case rel => rw [Hp1.out]; exact ⟨At4.set0 ⟨c0, c1, c2, c3, f0, f1, f2, f3⟩ _, grown_set HG.out _⟩
      obtain ⟨h4, hg⟩ := hcut
      clear HG
      have HG := Lib.hid hg
      clear hg
      go_wp2_with fail
      go_cut [] from 7 to 119 (fun w' => At4 b p1 u.q r1 u.s w' ∧ w.grownBy w' (some b))
      case first =>
        obtain ⟨c0, c1, c2, c3, f0, f1, f2, f3⟩ := h4
        refine wp_tail 11 (by kernel_rfl) (by kernel_rfl) ?_
        simp only [List.take_succ_cons, List.take_zero, List.drop_succ_cons, List.drop_zero]
        repeat still_step
        refine wpStill_nil ?_
        go_wp2_with fail
        go_meet
        case rel => rw [Hr1.out]; exact ⟨At4.set2 ⟨c0, c1, c2, c3, f0, f1, f2, f3⟩ _, grown_set HG.out _⟩
      obtain ⟨h4, hg⟩ := hcut
      clear HG
      have HG := Lib.hid hg
      clear hg
      go_wp2_with fail
      go_cut [] from 7 to 119 (fun w' => At4 b p1 q1 r1 u.s w' ∧ w.grownBy w' (some b))
      case first =>
        obtain ⟨c0, c1, c2, c3, f0, f1, f2, f3⟩ := h4
        refine wp_tail 13 (by kernel_rfl) (by kernel_rfl) ?_
        simp only [List.take_succ_cons, List.take_zero, List.drop_succ_cons, List.drop_zero]
        repeat (first | still_step | still_call (rot13 _ _))
        refine wpStill_nil ?_
        go_wp2_with fail
        go_meet
        case rel => rw [Hq1.out]; exact ⟨At4.set1 ⟨c0, c1, c2, c3, f0, f1, f2, f3⟩ _, grown_set HG.out _⟩
      obtain ⟨h4, hg⟩ := hcut
      clear HG
      have HG := Lib.hid hg
      clear hg
      go_wp2_with fail
      go_cut [] from 7 to 119 (fun w' => At4 b p1 q1 r1 s1 w' ∧ w.grownBy w' (some b))
      case first =>
        obtain ⟨c0, c1, c2, c3, f0, f1, f2, f3⟩ := h4
        refine wp_tail 13 (by kernel_rfl) (by kernel_rfl) ?_
        simp only [List.take_succ_cons, List.take_zero, List.drop_succ_cons, List.drop_zero]
        repeat (first | still_step | still_call (rot16 _ _))
        refine wpStill_nil ?_
        go_wp2_with fail
        go_meet
        case rel => rw [Hs1.out]; exact ⟨At4.set3 ⟨c0, c1, c2, c3, f0, f1, f2, f3⟩ _, grown_set HG.out _⟩
      obtain ⟨h4, hg⟩ := hcut
      clear HG
      have HG := Lib.hid hg
      clear hg
      go_wp2_with fail
      go_cut [] from 7 to 119 (fun w' => At4 b p2 q1 r1 s1 w' ∧ w.grownBy w' (some b))
      case first =>
        obtain ⟨c0, c1, c2, c3, f0, f1, f2, f3⟩ := h4
        refine wp_tail 8 (by kernel_rfl) (by kernel_rfl) ?_
        simp only [List.take_succ_cons, List.take_zero, List.drop_succ_cons, List.drop_zero]
        repeat (first | still_step | still_call (rot32 _ _))
        refine wpStill_nil ?_
        go_wp2_with fail
        go_meet
        case rel => rw [Hp2.out]; exact ⟨At4.set0 ⟨c0, c1, c2, c3, f0, f1, f2, f3⟩ _, grown_set HG.out _⟩
      obtain ⟨h4, hg⟩ := hcut
      clear HG
      have HG := Lib.hid hg
      clear hg
      go_wp2_with fail
      go_cut [] from 7 to 119 (fun w' => At4 b p2 q1 r2 s1 w' ∧ w.grownBy w' (some b))
      case first =>
        obtain ⟨c0, c1, c2, c3, f0, f1, f2, f3⟩ := h4
        refine wp_tail 11 (by kernel_rfl) (by kernel_rfl) ?_
        simp only [List.take_succ_cons, List.take_zero, List.drop_succ_cons, List.drop_zero]
        repeat still_step
        refine wpStill_nil ?_
        go_wp2_with fail
        go_meet
        case rel => rw [Hr2.out]; exact ⟨At4.set2 ⟨c0, c1, c2, c3, f0, f1, f2, f3⟩ _, grown_set HG.out _⟩
      obtain ⟨h4, hg⟩ := hcut
      clear HG
      have HG := Lib.hid hg
      clear hg
      go_wp2_with fail
      go_cut [] from 7 to 119 (fun w' => At4 b p3 q1 r2 s1 w' ∧ w.grownBy w' (some b))
      case first =>
        obtain ⟨c0, c1, c2, c3, f0, f1, f2, f3⟩ := h4
        refine wp_tail 11 (by kernel_rfl) (by kernel_rfl) ?_
        simp only [List.take_succ_cons, List.take_zero, List.drop_succ_cons, List.drop_zero]
        repeat still_step
        refine wpStill_nil ?_
        go_wp2_with fail
        go_meet
        case rel => rw [Hp3.out]; exact ⟨At4.set0 ⟨c0, c1, c2, c3, f0, f1, f2, f3⟩ _, grown_set HG.out _⟩
      obtain ⟨h4, hg⟩ := hcut
      clear HG
      have HG := Lib.hid hg
      clear hg
      go_wp2_with fail
      go_cut [] from 7 to 119 (fun w' => At4 b p3 q2 r2 s1 w' ∧ w.grownBy w' (some b))
      case first =>
        obtain ⟨c0, c1, c2, c3, f0, f1, f2, f3⟩ := h4
        refine wp_tail 13 (by kernel_rfl) (by kernel_rfl) ?_
        simp only [List.take_succ_cons, List.take_zero, List.drop_succ_cons, List.drop_zero]
        repeat (first | still_step | still_call (rot17 _ _))
        refine wpStill_nil ?_
        go_wp2_with fail
        go_meet
        case rel => rw [Hq2.out]; exact ⟨At4.set1 ⟨c0, c1, c2, c3, f0, f1, f2, f3⟩ _, grown_set HG.out _⟩
      obtain ⟨h4, hg⟩ := hcut
      clear HG
      have HG := Lib.hid hg
      clear hg
      go_wp2_with fail
      go_cut [] from 7 to 119 (fun w' => At4 b p3 q2 r2 s2 w' ∧ w.grownBy w' (some b))
      case first =>
        obtain ⟨c0, c1, c2, c3, f0, f1, f2, f3⟩ := h4
        refine wp_tail 13 (by kernel_rfl) (by kernel_rfl) ?_
        simp only [List.take_succ_cons, List.take_zero, List.drop_succ_cons, List.drop_zero]
        repeat (first | still_step | still_call (rot21 _ _))
        refine wpStill_nil ?_
        go_wp2_with fail
        go_meet
        case rel => rw [Hs2.out]; exact ⟨At4.set3 ⟨c0, c1, c2, c3, f0, f1, f2, f3⟩ _, grown_set HG.out _⟩
      obtain ⟨h4, hg⟩ := hcut
      clear HG
      have HG := Lib.hid hg
      clear hg
      go_wp2_with fail
      obtain ⟨c0, c1, c2, c3, f0, f1, f2, f3⟩ := h4
      refine wp_tail 8 (by kernel_rfl) (by kernel_rfl) ?_
      simp only [List.take_succ_cons, List.take_zero, List.drop_succ_cons, List.drop_zero]
      repeat (first | still_step | still_call (rot32 _ _))
      refine wpStill_nil ?_
      go_wp2_with fail
      go_roundw
      case rel =>
        have hfin : At4 b (rnd u).p (rnd u).q (rnd u).r (rnd u).s ((wc.setCell ⟨b, 2, none⟩ (.int .u64 (rotl 4294967296 4294967296 r2))).drew) := by
          rw [Hend.out, Hr3.out]; exact At4.set2 ⟨c0, c1, c2, c3, f0, f1, f2, f3⟩ _

        exact ⟨k + 1, by omega, by go_num, by rw [show Nat.repeat rnd (k + 1) v = rnd u from by rw [HU.out]; rfl]; exact hfin, grown_set HG.out _⟩
      case measure => simp [intOf]; omega
    · go_wp2
      go_end0
      exact ⟨rfl, by rw [show n.toNat = k from by omega, ← HU.out]; exact h4, HG.out⟩
end Go.Proofs.Ytlipkffnllmkgaa
