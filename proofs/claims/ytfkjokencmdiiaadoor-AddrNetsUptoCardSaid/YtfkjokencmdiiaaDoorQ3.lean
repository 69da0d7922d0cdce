import Derived.Test.YtfkjokencmdiiaaDoorQ2
import Derived.Test.YtfkjokencmdiiaaDoorL3
import Derived.Test.YtfkjokencmdiiaaDoorL5
namespace Go.Proofs.YtfkjokencmdiiaaDoor
open Go.RowKit Go.Shelf

theorem mask_next (i : Nat) (h : i ≤ 31) : maskN i ||| 2 ^ (31 - i) = maskN (i + 1) := by
  have h0 : maskN i % (2 * 2 ^ (31 - i)) = 0 := by
    rw [mask_mul i (by omega), show 32 - i = (31 - i) + 1 by omega, Nat.pow_succ, Nat.mul_comm (2 ^ (31 - i)) 2]
    exact Nat.mul_mod_left _ _
  rw [or_pow (31 - i) rfl h0]
  unfold maskN
  have h1 := pow_le32 (show 32 - i ≤ 32 by omega)
  rw [show 32 - i = (31 - i) + 1 by omega, Nat.pow_succ] at h1 ⊢
  rw [show 32 - (i + 1) = 31 - i by omega]
  omega

set_option maxRecDepth 100000 in
set_option maxHeartbeats 1000000 in
theorem refMask_any (b : Int) (w : World) : Calls Tryd.prog 17 #[.int .i64 b] w fun e w' => e = .returned (.tuple #[.int .u32 (maskI b), .bool (okB b)]) ∧ w' = w := by
  by_cases h : 0 ≤ b ∧ b ≤ 32
  · obtain ⟨k, rfl⟩ : ∃ k : Nat, b = k := ⟨b.toNat, by omega⟩
    have hk : k ≤ 32 := by omega
    rw [maskI_nat hk, okB_nat hk]
    have g1 : ¬ (k : Int) < 0 := by omega
    have g2 : ¬ 32 < (k : Int) := by omega
    go_enter Tryd.func17, Tryd.ntmps17
    go_wp2_with fail
    go_loop [4, 5] (fun vm vi => ∃ i : Nat, i ≤ k ∧ vi = .int .i64 (i : Int) ∧ vm = .int .u32 (maskN i : Int)) (fun _ vi => k - (intOf vi).toNat)
    case atStart => exact ⟨0, Nat.zero_le _, rfl, rfl⟩
    case round =>
      obtain ⟨i, hi, rfl, rfl⟩ := hrel
      by_cases hlt : i < k
      · have hil : (i : Int) < (k : Int) := by omega
        have hi31 : (i : Int) ≤ 31 := by omega
        have hp := Nat.two_pow_pos (31 - i)
        have hp31 : 2 ^ (31 - i) ≤ 2147483648 := by
          have := Nat.pow_le_pow_right (n := 2) (by omega) (show 31 - i ≤ 31 by omega)
          simpa using this
        have hsh : (2 : Int) ^ (31 - i) % 4294967296 = ((2 ^ (31 - i) : Nat) : Int) := by
          rw [show (2 : Int) ^ (31 - i) = ((2 ^ (31 - i) : Nat) : Int) by push_cast; rfl]
          omega
        have hor : bits .or .u32 (maskN i : Int) ((2 ^ (31 - i) : Nat) : Int) = (maskN (i + 1) : Int) := by
          rw [u32_or_nat _ _ (mask_lt i) (by omega), mask_next i (by omega)]
        have HOR := Lib.hid hor
        have HSH := Lib.hid hsh
        obtain ⟨p, hpp⟩ : ∃ p : Nat, 2 ^ (31 - i) = p := ⟨_, rfl⟩
        rw [hpp] at hsh hor
        clear HOR HSH hp hp31 hpp
        go_wp2_with fail
        exact ⟨⟨i + 1, by omega, by go_num, rfl⟩, by simp [intOf]; omega⟩
      · obtain rfl : i = k := by omega
        go_wp2_with fail
        go_ret2
        exact ⟨rfl, rfl⟩
  · have e1 : maskI b = 0 := by unfold maskI; rw [if_neg h]
    have e2 : okB b = false := by simp [okB]; omega
    rw [e1, e2]
    by_cases h0 : b < 0
    case' neg =>
      have h1 : 32 < b := by omega
    all_goals
      go_enter Tryd.func17, Tryd.ntmps17
      go_wp2_with fail
      go_ret2
      exact ⟨rfl, rfl⟩

def rightI (a : Nat) (b : Int) : Bool := decide (0 ≤ b ∧ b ≤ 32 ∧ a % 2 ^ (32 - b.toNat) = 0)
theorem refRight_calls (a : Nat) (ha : a < 4294967296) (b : Int) (w : World) :
    Calls Tryd.prog 29 #[.int .u32 (a : Int), .int .i64 b] w fun e w' => e = .returned (.bool (rightI a b)) ∧ w' = w := by
  by_cases h : 0 ≤ b ∧ b ≤ 32
  · obtain ⟨k, rfl⟩ : ∃ k : Nat, b = k := ⟨b.toNat, by omega⟩
    have hk : k ≤ 32 := by omega
    have m1 := maskI_nat hk
    have o1 := okB_nat hk
    have c1 := and_cut a k ha hk
    have hr : rightI a (k : Int) = ((cutN a k : Int) == (a : Int)) := by
      unfold rightI
      have hle := cutN_le a k
      have hml := Nat.mod_le a (2 ^ (32 - k))
      have hcd : cutN a k = a - a % 2 ^ (32 - k) := rfl
      by_cases h0 : a % 2 ^ (32 - k) = 0
      · have e1 : ((cutN a k : Int) == (a : Int)) = true := by simp; omega
        rw [e1]
        simp [h0]; omega
      · have e1 : ((cutN a k : Int) == (a : Int)) = false := by simp; omega
        rw [e1]
        simp [h0]
    rw [hr]
    generalize cutN a k = A at *
    clear hr
    cases hz : ((A : Int) == (a : Int))
    all_goals
      go_enter Tryd.func29, Tryd.ntmps29
      go_wp2_with (go_at_call 17; refine (refMask_any _ _).mono ?_; rintro e wx ⟨rfl, rfl⟩)
      go_ret
      exact ⟨rfl, rfl⟩
  · have e2 : okB b = false := by simp [okB]; omega
    have hr : rightI a b = false := by unfold rightI; simp only [decide_eq_false_iff_not]; exact fun h2 => h ⟨h2.1, h2.2.1⟩
    rw [hr]
    go_enter Tryd.func29, Tryd.ntmps29
    go_wp2_with (go_at_call 17; refine (refMask_any _ _).mono ?_; rintro e wx ⟨rfl, rfl⟩)
    go_ret
    exact ⟨rfl, rfl⟩
end Go.Proofs.YtfkjokencmdiiaaDoor
