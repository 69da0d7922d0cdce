import Derived.Test.YtlipkffnllmkgaaWSipSame
import Derived.Test.YtlipkffnllmkgaaB1
namespace Go.Proofs.Ytlipkffnllmkgaa
open Go.RowKit

theorem u64_bounds {x : Int} (h : (Lit.int .u64 x).wf = true) : 0 ≤ x ∧ x < 18446744073709551616 := by
  simp [Lit.wf, IntKind.min, IntKind.max, IntKind.signed, IntKind.bits] at h
  exact ⟨by omega, by omega⟩

theorem mix_left (k l b : Int) (hk : (Lit.int .u64 k).wf = true) (hl : (Lit.int .u64 l).wf = true) (hb : (Lit.int .u64 b).wf = true) : (mixI k b == mixI l b) = (k == l) := by
  obtain ⟨k0, k1⟩ := u64_bounds hk
  obtain ⟨l0, l1⟩ := u64_bounds hl
  obtain ⟨b0, b1⟩ := u64_bounds hb
  obtain ⟨k, rfl⟩ := Int.eq_ofNat_of_zero_le k0
  obtain ⟨l, rfl⟩ := Int.eq_ofNat_of_zero_le l0
  obtain ⟨b, rfl⟩ := Int.eq_ofNat_of_zero_le b0
  rw [mixI_eq, mixI_eq, Bool.eq_iff_iff]
  simp only [beq_iff_eq, Int.natCast_inj]
  exact ⟨fun h => mixN_left k l b (by omega) (by omega) h, fun h => by rw [h]⟩
theorem mix_right (k b c : Int) (hk : (Lit.int .u64 k).wf = true) (hb : (Lit.int .u64 b).wf = true) (hc : (Lit.int .u64 c).wf = true) : (mixI k b == mixI k c) = (b == c) := by
  obtain ⟨k0, k1⟩ := u64_bounds hk
  obtain ⟨c0, c1⟩ := u64_bounds hc
  obtain ⟨b0, b1⟩ := u64_bounds hb
  obtain ⟨k, rfl⟩ := Int.eq_ofNat_of_zero_le k0
  obtain ⟨c, rfl⟩ := Int.eq_ofNat_of_zero_le c0
  obtain ⟨b, rfl⟩ := Int.eq_ofNat_of_zero_le b0
  rw [mixI_eq, mixI_eq, Bool.eq_iff_iff]
  simp only [beq_iff_eq, Int.natCast_inj]
  exact ⟨fun h => mixN_right k b c (by omega) (by omega) h, fun h => by rw [h]⟩

end Go.Proofs.Ytlipkffnllmkgaa
