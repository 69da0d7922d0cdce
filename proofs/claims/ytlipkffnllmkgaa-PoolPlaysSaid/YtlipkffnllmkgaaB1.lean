import Derived.Test.YtlipkffnllmkgaaA1
import Derived.Laws.Bits64
namespace Go.Proofs.Ytlipkffnllmkgaa
open Go.RowKit
theorem xor_zero_eq {x y : Nat} (h : x ^^^ y = 0) : x = y := by
  have : (x ^^^ y) ^^^ y = 0 ^^^ y := by rw [h]
  rwa [Nat.xor_assoc, Nat.xor_self, Nat.xor_zero, Nat.zero_xor] at this
theorem xs_inj (s : Nat) (h0 : 0 < s) (x y : Nat) (h : x ^^^ x / 2 ^ s = y ^^^ y / 2 ^ s) : x = y := by
  have e : (x ^^^ y) = (x ^^^ y) / 2 ^ s := by
    have h1 : x ^^^ y = (x / 2 ^ s) ^^^ (y / 2 ^ s) := by
      have : (x ^^^ x / 2 ^ s) ^^^ (y ^^^ y / 2 ^ s) = 0 := by rw [h, Nat.xor_self]
      have e2 : (x ^^^ x / 2 ^ s) ^^^ (y ^^^ y / 2 ^ s) = (x ^^^ y) ^^^ ((x / 2 ^ s) ^^^ (y / 2 ^ s)) := by ac_rfl
      rw [e2] at this
      exact xor_zero_eq this
    have h2 : (x ^^^ y) / 2 ^ s = (x / 2 ^ s) ^^^ (y / 2 ^ s) := by
      have h3 := @Nat.shiftRight_xor_distrib s x y
      simpa [Nat.shiftRight_eq_div_pow] using h3
    rw [h2]; exact h1
  have h0' : x ^^^ y = 0 := by
    rcases Nat.eq_zero_or_pos (x ^^^ y) with hz | hp
    · exact hz
    · have := Nat.div_lt_self hp (show 1 < 2 ^ s from Nat.one_lt_two_pow (by omega))
      omega
  exact xor_zero_eq h0'
theorem mul_inj (c d M x y : Nat) (hcd : c * d % M = 1) (hx : x < M) (hy : y < M) (h : x * c % M = y * c % M) : x = y := by
  have key : ∀ z, z < M → (z * c % M) * d % M = z := fun z hz => by
    rw [Nat.mod_mul_mod, Nat.mul_assoc, Nat.mul_mod, hcd, Nat.mul_one, Nat.mod_mod, Nat.mod_eq_of_lt hz]
  rw [← key x hx, ← key y hy, h]

def f30 (x : Nat) : Nat := x ^^^ x / 1073741824
def f27 (x : Nat) : Nat := x ^^^ x / 134217728
def f31 (x : Nat) : Nat := x ^^^ x / 2147483648
def m1 (x : Nat) : Nat := x * 13787848793156543929 % 18446744073709551616
def m2 (x : Nat) : Nat := x * 10723151780598845931 % 18446744073709551616
def base (k b : Nat) : Nat := (k + 11400714819323198485 + 11400714819323198485 * b) % 18446744073709551616
def mixN (k b : Nat) : Nat := f31 (m2 (f27 (m1 (f30 (base k b)))))
theorem f30_inj {x y : Nat} (h : f30 x = f30 y) : x = y := xs_inj 30 (by omega) x y h
theorem f27_inj {x y : Nat} (h : f27 x = f27 y) : x = y := xs_inj 27 (by omega) x y h
theorem f31_inj {x y : Nat} (h : f31 x = f31 y) : x = y := xs_inj 31 (by omega) x y h
theorem m1_inj {x y : Nat} (hx : x < 18446744073709551616) (hy : y < 18446744073709551616) (h : m1 x = m1 y) : x = y := mul_inj 13787848793156543929 10871156337175269513 18446744073709551616 x y (by decide +kernel) hx hy h
theorem m2_inj {x y : Nat} (hx : x < 18446744073709551616) (hy : y < 18446744073709551616) (h : m2 x = m2 y) : x = y := mul_inj 10723151780598845931 3573116690164977347 18446744073709551616 x y (by decide +kernel) hx hy h
theorem odd_inj {x y : Nat} (hx : x < 18446744073709551616) (hy : y < 18446744073709551616) (h : x * 11400714819323198485 % 18446744073709551616 = y * 11400714819323198485 % 18446744073709551616) : x = y := mul_inj 11400714819323198485 17428512612931826493 18446744073709551616 x y (by decide +kernel) hx hy h
theorem shx_lt (x s : Nat) (h : x < 18446744073709551616) : x ^^^ x / s < 18446744073709551616 := by
  have : x ^^^ x / s < 2 ^ 64 := Nat.xor_lt_two_pow (by omega) (Nat.lt_of_le_of_lt (Nat.div_le_self _ _) (by omega))
  omega
theorem f30_lt {x : Nat} (h : x < 18446744073709551616) : f30 x < 18446744073709551616 := shx_lt x _ h
theorem f27_lt {x : Nat} (h : x < 18446744073709551616) : f27 x < 18446744073709551616 := shx_lt x _ h
theorem f31_lt {x : Nat} (h : x < 18446744073709551616) : f31 x < 18446744073709551616 := shx_lt x _ h
theorem m1_lt (x : Nat) : m1 x < 18446744073709551616 := Nat.mod_lt _ (by decide)
theorem m2_lt (x : Nat) : m2 x < 18446744073709551616 := Nat.mod_lt _ (by decide)
theorem base_lt (k b : Nat) : base k b < 18446744073709551616 := Nat.mod_lt _ (by decide)
theorem mixN_lt (k b : Nat) : mixN k b < 18446744073709551616 := f31_lt (m2_lt _)
theorem mixN_base (k b l c : Nat) (h : mixN k b = mixN l c) : base k b = base l c :=
  f30_inj (m1_inj (f30_lt (base_lt _ _)) (f30_lt (base_lt _ _)) (f27_inj (m2_inj (f27_lt (m1_lt _)) (f27_lt (m1_lt _)) (f31_inj h))))
theorem base_left (k l t : Nat) (hk : k < 18446744073709551616) (hl : l < 18446744073709551616) (h : (k + 11400714819323198485 + t) % 18446744073709551616 = (l + 11400714819323198485 + t) % 18446744073709551616) : k = l := by omega
theorem base_right (k t u : Nat) (h : (k + 11400714819323198485 + t) % 18446744073709551616 = (k + 11400714819323198485 + u) % 18446744073709551616) : t % 18446744073709551616 = u % 18446744073709551616 := by omega
theorem mixN_left (k l b : Nat) (hk : k < 18446744073709551616) (hl : l < 18446744073709551616) (h : mixN k b = mixN l b) : k = l :=
  base_left k l _ hk hl (mixN_base _ _ _ _ h)
theorem mixN_right (k b c : Nat) (hb : b < 18446744073709551616) (hc : c < 18446744073709551616) (h : mixN k b = mixN k c) : b = c := by
  have h2 := base_right k _ _ (mixN_base _ _ _ _ h)
  rw [Nat.mul_comm _ b, Nat.mul_comm _ c] at h2
  exact odd_inj hb hc h2

/-- What sip.Mix computes. -/
def mixI (k b : Int) : Int :=
  let x0 := IntKind.u64.wrap (IntKind.u64.wrap (k + 11400714819323198485) + IntKind.u64.wrap (11400714819323198485 * b))
  let x1 := IntKind.u64.wrap (bits .xor .u64 x0 (x0 / 1073741824) * 13787848793156543929)
  let x2 := IntKind.u64.wrap (bits .xor .u64 x1 (x1 / 134217728) * 10723151780598845931)
  bits .xor .u64 x2 (x2 / 2147483648)
theorem f30_int (X : Nat) (h : X < 18446744073709551616) : bits .xor .u64 (X : Int) ((X : Int) / 1073741824) = (f30 X : Nat) := by
  have := xorShift_u64 X 1073741824 h
  rwa [Int.cast_ofNat_Int] at this
theorem f27_int (X : Nat) (h : X < 18446744073709551616) : bits .xor .u64 (X : Int) ((X : Int) / 134217728) = (f27 X : Nat) := by
  have := xorShift_u64 X 134217728 h
  rwa [Int.cast_ofNat_Int] at this
theorem f31_int (X : Nat) (h : X < 18446744073709551616) : bits .xor .u64 (X : Int) ((X : Int) / 2147483648) = (f31 X : Nat) := by
  have := xorShift_u64 X 2147483648 h
  rwa [Int.cast_ofNat_Int] at this
theorem m1_int (X : Nat) : IntKind.u64.wrap ((X : Int) * 13787848793156543929) = (m1 X : Nat) := by
  rw [IntKind.wrap_u64]; unfold m1; omega
theorem m2_int (X : Nat) : IntKind.u64.wrap ((X : Int) * 10723151780598845931) = (m2 X : Nat) := by
  rw [IntKind.wrap_u64]; unfold m2; omega
theorem base_int (k b : Nat) : IntKind.u64.wrap (IntKind.u64.wrap ((k : Int) + 11400714819323198485) + IntKind.u64.wrap (11400714819323198485 * (b : Int))) = (base k b : Nat) := by
  simp only [IntKind.wrap_u64]; unfold base; omega
theorem mixI_eq (k b : Nat) : mixI k b = (mixN k b : Nat) := by
  unfold mixI
  dsimp only
  rw [base_int, f30_int _ (base_lt k b), m1_int, f27_int _ (m1_lt _), m2_int, f31_int _ (m2_lt _)]
  rfl

theorem mix_calls (k b : Int) (w : World) : Calls Try.prog 62 #[.int .u64 k, .int .u64 b] w fun e w' => e = .returned (.int .u64 (mixI k b)) ∧ w' = w := by
  go_enter Try.func62, Try.ntmps62
  go_wp2
  go_ret
  exact ⟨rfl, rfl⟩
end Go.Proofs.Ytlipkffnllmkgaa
