import Derived.Test.YtladjipicifplaaWSipSame
import Derived.Test.YtladjipicifplaaB1
namespace Go.Proofs.Ytladjipicifplaa
open Go.RowKit

theorem u64_bounds {x : Int} (h : (Lit.int .u64 x).wf = true) : 0 ≤ x ∧ x < 18446744073709551616 := by
  simp [Lit.wf, IntKind.min, IntKind.max, IntKind.signed, IntKind.bits] at h
  exact ⟨by omega, by omega⟩

theorem mix_left (k l b : Int) (hk : (Lit.int .u64 k).wf = true) (hl : (Lit.int .u64 l).wf = true) (hb : (Lit.int .u64 b).wf = true) : (mixI k b == mixI l b) = (k == l) := by
  obtain ⟨k0, k1⟩ := u64_bounds hk
  obtain ⟨l0, l1⟩ := u64_bounds hl
  obtain ⟨b0, b1⟩ := u64_bounds hb
  obtain ⟨k, rfl⟩ := Int.eq_ofNat_of_zero_le k0
  obtain ⟨l, rfl⟩ := Int.eq_ofNat_of_zero_le l0
  obtain ⟨b, rfl⟩ := Int.eq_ofNat_of_zero_le b0
  rw [mixI_eq, mixI_eq, Bool.eq_iff_iff]
  simp only [beq_iff_eq, Int.natCast_inj]
  exact ⟨fun h => mixN_left k l b (by omega) (by omega) h, fun h => by rw [h]⟩
theorem mix_right (k b c : Int) (hk : (Lit.int .u64 k).wf = true) (hb : (Lit.int .u64 b).wf = true) (hc : (Lit.int .u64 c).wf = true) : (mixI k b == mixI k c) = (b == c) := by
  obtain ⟨k0, k1⟩ := u64_bounds hk
  obtain ⟨c0, c1⟩ := u64_bounds hc
  obtain ⟨b0, b1⟩ := u64_bounds hb
  obtain ⟨k, rfl⟩ := Int.eq_ofNat_of_zero_le k0
  obtain ⟨c, rfl⟩ := Int.eq_ofNat_of_zero_le c0
  obtain ⟨b, rfl⟩ := Int.eq_ofNat_of_zero_le b0
  rw [mixI_eq, mixI_eq, Bool.eq_iff_iff]
  simp only [beq_iff_eq, Int.natCast_inj]
  exact ⟨fun h => mixN_right k b c (by omega) (by omega) h, fun h => by rw [h]⟩

set_option maxRecDepth 100000 in
set_option maxHeartbeats 1000000 in
theorem walk_SipMixes (a0 : Int) (a1 : Int) (a2 : Int) (a3 : Int) (w : World) (w0 : (Lit.int .u64 a0).wf = true) (w1 : (Lit.int .u64 a1).wf = true) (w2 : (Lit.int .u64 a2).wf = true) (w3 : (Lit.int .u64 a3).wf = true) :
    Calls Try.prog 7 #[.int .u64 a0, .int .u64 a1, .int .u64 a2, .int .u64 a3] w fun e w' => e = .returned (.bool true) ∧ Below w.heap.size w w' := by
  have HB := Lib.hid (Below.refl w.heap.size w)
  have e1 := mix_left a0 a1 a2 w0 w1 w2
  have e2 := mix_right a0 a2 a3 w0 w2 w3
  clear w0 w1 w2 w3
  go_enter Try.func7, Try.ntmps7
  go_wp2_with (first
    | (go_at_call 14; refine (examples_calls _).mono ?_; rintro e wx ⟨rfl, hb1⟩; replace HB := Lib.hid (below_step HB.out hb1); clear hb1)
    | (go_at_call 18; refine (mix_calls _ _ _).mono ?_; rintro e wx ⟨rfl, rfl⟩))
  go_ret
  exact ⟨rfl, HB.out⟩
end Go.Proofs.Ytladjipicifplaa
