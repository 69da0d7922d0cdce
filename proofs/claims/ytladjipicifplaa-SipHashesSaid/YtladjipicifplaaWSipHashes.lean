import Derived.Test.YtladjipicifplaaC3
namespace Go.Proofs.Ytladjipicifplaa
open Go.RowKit

theorem hash_both (key s : ByteArray) (hs : s.size ≤ 300) : ∃ (n : Int) (b : Bool),
    (∀ w, Calls Try.prog 15 #[.string key, .string s] w fun e w' => e = .returned (.tuple #[.int .u64 n, .bool b]) ∧ Below w.heap.size w w') ∧
    (∀ w, Calls Try.prog 17 #[.string key, .string s] w fun e w' => e = .returned (.tuple #[.int .u64 n, .bool b]) ∧ Below w.heap.size w w') := by
  by_cases h : key.size = 16
  · exact ⟨hashF key s, true, fun w => hash_good key s w h (by unfold maxLen; omega), fun w => hashR_good key s w h (by omega)⟩
  · refine ⟨0, false, fun w => (hash_bad key s w h).mono ?_, fun w => (hashR_bad key s w h).mono ?_⟩
    · rintro e w' ⟨rfl, rfl⟩; exact ⟨rfl, Below.refl _ _⟩
    · rintro e w' ⟨rfl, rfl⟩; exact ⟨rfl, Below.refl _ _⟩

set_option maxRecDepth 100000 in
set_option maxHeartbeats 2000000 in
theorem walk_SipHashes (a0 : ByteArray) (a1 : Bool) (a2 : ByteArray) (a3 : Int) (a4 : Int) (w : World) (w0 : a0.size ≤ maxLen) (w2 : a2.size ≤ maxLen) (_w3 : (Lit.int .u64 a3).wf = true) (_w4 : (Lit.int .u64 a4).wf = true) :
    Calls Try.prog 6 #[.string a0, .bool a1, .string a2, .int .u64 a3, .int .u64 a4] w fun e w' => e = .returned (.bool true) ∧ Below w.heap.size w w' := by
  clear _w3 _w4
  have W0 := Lib.hid w0
  unfold maxLen at w2
  clear w0
  have HB := Lib.hid (Below.refl w.heap.size w)
  have hm : mixR a3 a4 = mixI a3 a4 := mixR_eq a3 a4
  obtain ⟨key, hkey⟩ : ∃ key, key = (if a1 then a0 else six a0) := ⟨_, rfl⟩
  by_cases h300 : a2.size ≤ 300
  · obtain ⟨n, b, H1, H2⟩ := hash_both key a2 h300
    have HH1 := Lib.hid H1
    have HH2 := Lib.hid H2
    clear H1 H2
    cases a1
    · simp at hkey
      subst hkey
      cases b <;>
      · go_enter Try.func6, Try.ntmps6
        go_wp2_with (first
          | (go_at_call 14; refine (examples_calls _).mono ?_; rintro e wx ⟨rfl, hb1⟩; replace HB := Lib.hid (below_step HB.out hb1); clear hb1)
          | (go_at_call 16; refine (sixteen_calls a0 _ W0.out).mono ?_; rintro e wx ⟨rfl, hb1⟩; replace HB := Lib.hid (below_step HB.out hb1); clear hb1)
          | (go_at_call 15; refine (HH1.out _).mono ?_; rintro e wx ⟨rfl, hb1⟩; replace HB := Lib.hid (below_step HB.out hb1); clear hb1)
          | (go_at_call 17; refine (HH2.out _).mono ?_; rintro e wx ⟨rfl, hb1⟩; replace HB := Lib.hid (below_step HB.out hb1); clear hb1)
          | (go_at_call 18; refine (mix_calls _ _ _).mono ?_; rintro e wx ⟨rfl, rfl⟩)
          | (go_at_call 19; refine (mixR_calls _ _ _).mono ?_; rintro e wx ⟨rfl, rfl⟩))
        go_ret
        exact ⟨rfl, HB.out⟩
    · simp at hkey
      subst hkey
      cases b <;>
      · go_enter Try.func6, Try.ntmps6
        go_wp2_with (first
          | (go_at_call 14; refine (examples_calls _).mono ?_; rintro e wx ⟨rfl, hb1⟩; replace HB := Lib.hid (below_step HB.out hb1); clear hb1)
          | (go_at_call 15; refine (HH1.out _).mono ?_; rintro e wx ⟨rfl, hb1⟩; replace HB := Lib.hid (below_step HB.out hb1); clear hb1)
          | (go_at_call 17; refine (HH2.out _).mono ?_; rintro e wx ⟨rfl, hb1⟩; replace HB := Lib.hid (below_step HB.out hb1); clear hb1)
          | (go_at_call 18; refine (mix_calls _ _ _).mono ?_; rintro e wx ⟨rfl, rfl⟩)
          | (go_at_call 19; refine (mixR_calls _ _ _).mono ?_; rintro e wx ⟨rfl, rfl⟩))
        go_ret
        exact ⟨rfl, HB.out⟩
  · obtain ⟨n, b, H1, H2⟩ := hash_both key (a2.extract 0 300) (by simp; omega)
    have HH1 := Lib.hid H1
    have HH2 := Lib.hid H2
    clear H1 H2
    cases a1
    · simp at hkey
      subst hkey
      cases b <;>
      · go_enter Try.func6, Try.ntmps6
        go_wp2_with (first
          | (go_at_call 14; refine (examples_calls _).mono ?_; rintro e wx ⟨rfl, hb1⟩; replace HB := Lib.hid (below_step HB.out hb1); clear hb1)
          | (go_at_call 16; refine (sixteen_calls a0 _ W0.out).mono ?_; rintro e wx ⟨rfl, hb1⟩; replace HB := Lib.hid (below_step HB.out hb1); clear hb1)
          | (go_at_call 15; refine (HH1.out _).mono ?_; rintro e wx ⟨rfl, hb1⟩; replace HB := Lib.hid (below_step HB.out hb1); clear hb1)
          | (go_at_call 17; refine (HH2.out _).mono ?_; rintro e wx ⟨rfl, hb1⟩; replace HB := Lib.hid (below_step HB.out hb1); clear hb1)
          | (go_at_call 18; refine (mix_calls _ _ _).mono ?_; rintro e wx ⟨rfl, rfl⟩)
          | (go_at_call 19; refine (mixR_calls _ _ _).mono ?_; rintro e wx ⟨rfl, rfl⟩))
        go_ret
        exact ⟨rfl, HB.out⟩
    · simp at hkey
      subst hkey
      cases b <;>
      · go_enter Try.func6, Try.ntmps6
        go_wp2_with (first
          | (go_at_call 14; refine (examples_calls _).mono ?_; rintro e wx ⟨rfl, hb1⟩; replace HB := Lib.hid (below_step HB.out hb1); clear hb1)
          | (go_at_call 15; refine (HH1.out _).mono ?_; rintro e wx ⟨rfl, hb1⟩; replace HB := Lib.hid (below_step HB.out hb1); clear hb1)
          | (go_at_call 17; refine (HH2.out _).mono ?_; rintro e wx ⟨rfl, hb1⟩; replace HB := Lib.hid (below_step HB.out hb1); clear hb1)
          | (go_at_call 18; refine (mix_calls _ _ _).mono ?_; rintro e wx ⟨rfl, rfl⟩)
          | (go_at_call 19; refine (mixR_calls _ _ _).mono ?_; rintro e wx ⟨rfl, rfl⟩))
        go_ret
        exact ⟨rfl, HB.out⟩
end Go.Proofs.Ytladjipicifplaa
