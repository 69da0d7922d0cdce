import Derived.Test.YtfkjokencmdiiaaDoorK6
namespace Go.Proofs.YtfkjokencmdiiaaDoor
open Go.RowKit Go.Shelf

theorem u8_nat {x : Int} (h : (Lit.int .u8 x).wf = true) : ∃ z : Nat, x = (z : Int) ∧ z < 256 := by
  simp [Lit.wf, IntKind.min, IntKind.max, IntKind.signed, IntKind.bits] at h
  exact ⟨x.toNat, by omega, by omega⟩
theorem u32_nat {x : Int} (h : (Lit.int .u32 x).wf = true) : ∃ z : Nat, x = (z : Int) ∧ z < 4294967296 := by
  simp [Lit.wf, IntKind.min, IntKind.max, IntKind.signed, IntKind.bits] at h
  exact ⟨x.toNat, by omega, by omega⟩
theorem i64_bounds {x : Int} (h : (Lit.int .i64 x).wf = true) : -9223372036854775808 ≤ x ∧ x ≤ 9223372036854775807 := by
  simp [Lit.wf, IntKind.min, IntKind.max, IntKind.signed, IntKind.bits] at h
  exact ⟨by omega, by omega⟩

theorem mask_inj {p q : Nat} (hp : p ≤ 32) (hq : q ≤ 32) (h : maskN p = maskN q) : p = q := by
  unfold maskN at h
  have h1 := pow_le32 (show 32 - p ≤ 32 by omega)
  have h2 := pow_le32 (show 32 - q ≤ 32 by omega)
  have h3 : 2 ^ (32 - p) = 2 ^ (32 - q) := by omega
  have := (Nat.pow_right_inj (a := 2) (by omega)).1 h3
  omega
theorem mask_sub {p q : Nat} (hpq : p ≤ q) (hq : q ≤ 32) : maskN p &&& maskN q = maskN p := by
  rw [and_mask _ _ (mask_lt p) hq]
  have : maskN p % 2 ^ (32 - q) = 0 := by
    rw [mask_mul p (by omega), show 32 - p = (32 - q) + (q - p) by omega, Nat.pow_add, ← Nat.mul_assoc, Nat.mul_comm _ (2 ^ (32 - q)), Nat.mul_assoc]
    exact Nat.mul_mod_right _ _
  omega

/-- The mask of any number of bits, or 0. -/
def maskI (b : Int) : Int := if 0 ≤ b ∧ b ≤ 32 then (maskN b.toNat : Int) else 0
def okB (b : Int) : Bool := decide (0 ≤ b ∧ b ≤ 32)
theorem maskI_nat {k : Nat} (h : k ≤ 32) : maskI (k : Int) = (maskN k : Int) := by
  unfold maskI
  rw [if_pos ⟨by omega, by omega⟩, Int.toNat_natCast]
theorem okB_nat {k : Nat} (h : k ≤ 32) : okB (k : Int) = true := by simp [okB]; omega
theorem mask_any (b : Int) (w : World) : Calls Tryd.prog 15 #[.int .i64 b] w fun e w' => e = .returned (.tuple #[.int .u32 (maskI b), .bool (okB b)]) ∧ w' = w := by
  by_cases h : 0 ≤ b ∧ b ≤ 32
  · obtain ⟨k, rfl⟩ : ∃ k : Nat, b = k := ⟨b.toNat, by omega⟩
    rw [maskI_nat (by omega), okB_nat (by omega)]
    exact mask_ok k (by omega) w
  · have e1 : maskI b = 0 := by unfold maskI; rw [if_neg h]
    have e2 : okB b = false := by simp [okB]; omega
    rw [e1, e2]
    exact mask_bad b (by omega) w

set_option maxRecDepth 100000 in
theorem walk_AddrMasks (a0 : Int) (a1 : Int) (a2 : Int) (w : World) (w0 : (Lit.int .u8 a0).wf = true) (w1 : (Lit.int .u8 a1).wf = true) (_w2 : (Lit.int .i64 a2).wf = true) (hE : Env w) :
    Calls Tryd.prog 5 #[.int .u8 a0, .int .u8 a1, .int .i64 a2] w fun e w' => e = .returned (.bool true) ∧ Below w.heap.size w w' := by
  obtain ⟨a, rfl, _⟩ := u8_nat w0
  obtain ⟨b, rfl, _⟩ := u8_nat w1
  have HE := Lib.hid hE
  have HB := Lib.hid (Below.refl w.heap.size w)
  obtain ⟨x, hx⟩ : ∃ x : Nat, a % 33 = x := ⟨_, rfl⟩
  obtain ⟨y, hy⟩ : ∃ y : Nat, b % 33 = y := ⟨_, rfl⟩
  have hxI : (a : Int) % 33 = (x : Int) := by omega
  have hyI : (b : Int) % 33 = (y : Int) := by omega
  have hx3 : x ≤ 32 := by omega
  have hy3 : y ≤ 32 := by omega
  clear w0 w1 hE hx hy
  obtain ⟨p, hp⟩ : ∃ p : Nat, min x y = p := ⟨_, rfl⟩
  obtain ⟨q, hq⟩ : ∃ q : Nat, max x y = q := ⟨_, rfl⟩
  have hmin : min (x : Int) (y : Int) = (p : Int) := by omega
  have hmax : max (x : Int) (y : Int) = (q : Int) := by omega
  have hpq : p ≤ q := by omega
  have hq3 : q ≤ 32 := by omega
  have hand : bits .and .u32 (maskN p : Int) (maskN q : Int) = (maskN p : Int) := by rw [u32_and_nat _ _ (mask_lt _) (mask_lt _), mask_sub hpq hq3]
  have m1 := maskI_nat (show p ≤ 32 by omega)
  have m2 := maskI_nat hq3
  have m3 : maskI 0 = 0 := by decide
  have m4 : maskI 32 = 4294967295 := by decide
  have o1 := okB_nat (show p ≤ 32 by omega)
  have o2 := okB_nat hq3
  by_cases hxy : x = y
  case' pos =>
    have e1 : ((x : Int) == (y : Int)) = true := by simp [hxy]
    have e2 : ((maskN p : Int) == (maskN q : Int)) = true := by
      have : p = q := by omega
      simp [this]
  case' neg =>
    have e1 : ((x : Int) == (y : Int)) = false := by simp; omega
    have e2 : ((maskN p : Int) == (maskN q : Int)) = false := by
      simp only [beq_eq_false_iff_ne]
      intro e
      have := mask_inj (show p ≤ 32 by omega) hq3 (by exact_mod_cast e)
      omega
  all_goals
    clear hp hq hpq hxy hx3 hy3
    by_cases h0 : 0 ≤ a2
    case' pos =>
      by_cases h1 : a2 ≤ 32
      case' pos =>
        have o3 : okB a2 = true := by simp [okB, h0, h1]
        have d1 : decide (a2 ≤ 32) = true := by simp [h1]
      case' neg =>
        have o3 : okB a2 = false := by simp [okB]; omega
        have d1 : decide (a2 ≤ 32) = false := by simp [h1]
    case' neg => have o3 : okB a2 = false := by simp [okB]; omega
  all_goals
    go_enter Tryd.func5, Tryd.ntmps5
    go_wp2_with (first
      | (go_at_call 10; refine (examples02 _ HE.out).mono ?_; rintro e wx ⟨rfl, hB⟩; replace HB := Lib.hid (below_step HB.out hB); clear hB)
      | (go_at_call 15; refine (mask_any _ _).mono ?_; rintro e wx ⟨rfl, rfl⟩))
    go_ret
    first | exact ⟨rfl, HB.out⟩ | (rw [show okB a2 = false from by simp [okB]; omega]; exact ⟨rfl, HB.out⟩)
end Go.Proofs.YtfkjokencmdiiaaDoor
