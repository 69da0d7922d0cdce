import Derived.Test.YtlipkffnllmkgaaC1
import Derived.Laws.Bits64
namespace Go.Proofs.Ytlipkffnllmkgaa
open Go.RowKit

theorem bits_or_u64_nat (a b : Nat) (ha : a < 18446744073709551616) (hb : b < 18446744073709551616) : bits .or .u64 (a : Int) (b : Int) = ((a ||| b : Nat) : Int) := by
  have hx : a ||| b < 2 ^ 64 := Nat.or_lt_two_pow (by omega) (by omega)
  have h1 : (BitVec.ofInt 64 (a : Int)).toNat = a := by
    rw [BitVec.ofInt_natCast, BitVec.toNat_ofNat]; exact Nat.mod_eq_of_lt (by omega)
  have h2 : (BitVec.ofInt 64 (b : Int)).toNat = b := by
    rw [BitVec.ofInt_natCast, BitVec.toNat_ofNat]; exact Nat.mod_eq_of_lt (by omega)
  show IntKind.u64.wrap ((BitVec.ofInt 64 (a : Int) ||| BitVec.ofInt 64 (b : Int)).toNat : Int) = _
  rw [BitVec.toNat_or, h1, h2, IntKind.wrap_u64]
  omega
theorem xor_comm (a b : Int) : bits .xor .u64 a b = bits .xor .u64 b a := by
  unfold bits
  dsimp only
  rw [BitVec.xor_comm]

/-- The plain number of k bytes, the lowest first. -/
def val (f : Nat → Nat) : Nat → Nat
  | 0 => 0
  | k + 1 => val f k + f k * 2 ^ (8 * k)
theorem val_lt (f : Nat → Nat) (hf : ∀ j, f j < 256) : ∀ k, val f k < 2 ^ (8 * k)
  | 0 => by simp [val]
  | k + 1 => by
    have h := val_lt f hf k
    have h2 := hf k
    have e : 2 ^ (8 * (k + 1)) = 256 * 2 ^ (8 * k) := by rw [Nat.mul_add, Nat.pow_add]; omega
    simp only [val]
    have h3 : f k * 2 ^ (8 * k) ≤ 255 * 2 ^ (8 * k) := Nat.mul_le_mul_right _ (by omega)
    omega
theorem or_add (a b i : Nat) (h : a < 2 ^ i) : a ||| b * 2 ^ i = a + b * 2 ^ i := by
  rw [Nat.mul_comm, Nat.or_comm, ← Nat.two_pow_add_eq_or_of_lt h, Nat.add_comm]
theorem wd_eq_val (f : Nat → Nat) (hf : ∀ j, f j < 256) : ∀ k, k ≤ 8 → wd (fun j => (f j : Int)) k = (val f k : Nat)
  | 0, _ => rfl
  | k + 1, hk => by
    have h1 := val_lt f hf k
    have h2 := hf k
    have h64 : (2 : Nat) ^ (8 * k) ≤ 2 ^ 56 := Nat.pow_le_pow_right (by decide) (by omega)
    have h3 : f k * 2 ^ (8 * k) ≤ 255 * 2 ^ (8 * k) := Nat.mul_le_mul_right _ (by omega)
    simp only [wd, val]
    rw [wd_eq_val f hf k (by omega)]
    have e1 : IntKind.u64.wrap (f k : Int) = (f k : Int) := by rw [IntKind.wrap_u64]; omega
    have e2 : IntKind.u64.wrap ((f k : Int) * 2 ^ (8 * k)) = ((f k * 2 ^ (8 * k) : Nat) : Int) := by
      rw [IntKind.wrap_u64, Int.natCast_mul, Int.natCast_pow]
      have : ((f k : Int) * ((2 : Nat) : Int) ^ (8 * k)) = ((f k * 2 ^ (8 * k) : Nat) : Int) := by rw [Int.natCast_mul, Int.natCast_pow]
      rw [show (2 : Int) = ((2 : Nat) : Int) from rfl, this]
      omega
    rw [e1, e2, bits_or_u64_nat _ _ (by omega) (by omega), or_add _ _ _ h1]
/-- The same, from the highest down. -/
def hv (f : Nat → Nat) : Nat → Nat
  | 0 => 0
  | m + 1 => hv f m * 256 + f (7 - m)
theorem hv_lt (f : Nat → Nat) (hf : ∀ j, f j < 256) (m : Nat) : hv f m < 256 ^ m := by
  induction m with
  | zero => simp [hv]
  | succ m ih =>
    have hb := hf (7 - m)
    simp only [hv]
    rw [Nat.pow_succ]
    omega
theorem horn_hv (f : Nat → Nat) (hf : ∀ j, f j < 256) (m : Nat) (hm : m ≤ 8) : horn (fun j => (f j : Int)) m = (hv f m : Nat) := by
  induction m with
  | zero => rfl
  | succ m ih =>
    have hb := hf (7 - m)
    have h1 := hv_lt f hf m
    have h56 : 256 ^ m ≤ 256 ^ 7 := Nat.pow_le_pow_right (by decide) (by omega)
    have e7 : (256 : Nat) ^ 7 = 72057594037927936 := by decide
    rw [e7] at h56
    generalize 256 ^ m = P at h1 h56
    simp only [horn, hv]
    rw [ih (by omega)]
    simp only [IntKind.wrap_u64]
    omega
theorem hv8 (f : Nat → Nat) : hv f 8 = val f 8 := by
  simp only [hv, val, Nat.reduceSub, Nat.reduceMul, Nat.reducePow]
  omega
theorem horn_wd (f : Nat → Nat) (hf : ∀ j, f j < 256) : horn (fun j => (f j : Int)) 8 = wd (fun j => (f j : Int)) 8 := by
  rw [horn_hv f hf 8 (Nat.le_refl _), hv8, wd_eq_val f hf 8 (Nat.le_refl _)]
end Go.Proofs.Ytlipkffnllmkgaa
