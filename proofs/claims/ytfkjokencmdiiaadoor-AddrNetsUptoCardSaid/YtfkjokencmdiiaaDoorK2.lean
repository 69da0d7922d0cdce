import Derived.Test.YtfkjokencmdiiaaDoorK1
import Derived.Laws.BitsAllLaws
import Derived.RangeFuncRecord
namespace Go.Proofs.YtfkjokencmdiiaaDoor
open Go.RowKit Go.Shelf

/-- The mask of k bits. -/
def maskN (k : Nat) : Nat := 4294967296 - 2 ^ (32 - k)
theorem shl_mask : ∀ j : Fin 33, (4294967295 * 2 ^ j.val % 4294967296 : Int) = ((4294967296 - 2 ^ j.val : Nat) : Int) := by decide

theorem mask_ok (k : Nat) (hk : k ≤ 32) (w : World) :
    Calls Tryd.prog 15 #[.int .i64 (k : Int)] w fun e w' => e = .returned (.tuple #[.int .u32 (maskN k : Int), .bool true]) ∧ w' = w := by
  go_enter Tryd.func15, Tryd.ntmps15
  go_wp2
  go_ret2
  refine ⟨?_, rfl⟩
  have h := shl_mask ⟨32 - k, by omega⟩
  dsimp only at h
  unfold maskN
  rw [← h]
  rfl
theorem mask_bad (b : Int) (hb : b < 0 ∨ 32 < b) (w : World) :
    Calls Tryd.prog 15 #[.int .i64 b] w fun e w' => e = .returned (.tuple #[.int .u32 0, .bool false]) ∧ w' = w := by
  by_cases h0 : b < 0
  case' neg =>
    have h1 : 32 < b := by omega
  all_goals
    clear hb
    go_enter Tryd.func15, Tryd.ntmps15
    go_wp2
    go_ret2
    exact ⟨rfl, rfl⟩

theorem pow_le32 {j : Nat} (h : j ≤ 32) : 2 ^ j ≤ 4294967296 := by
  have := Nat.pow_le_pow_right (n := 2) (by omega) h
  simpa using this
theorem mask_lt (k : Nat) : maskN k < 4294967296 := by
  unfold maskN
  have := Nat.two_pow_pos (32 - k)
  omega
theorem mask_mul (k : Nat) (hk : k ≤ 32) : maskN k = (2 ^ k - 1) * 2 ^ (32 - k) := by
  unfold maskN
  rw [Nat.sub_mul, Nat.one_mul, ← Nat.pow_add, show k + (32 - k) = 32 from by omega]
/-- What is left of a number below a mask. -/
theorem and_mask (a k : Nat) (ha : a < 4294967296) (hk : k ≤ 32) : a &&& maskN k = a - a % 2 ^ (32 - k) := by
  have e : a - a % 2 ^ (32 - k) = a / 2 ^ (32 - k) * 2 ^ (32 - k) := by
    have := Nat.div_add_mod a (2 ^ (32 - k))
    rw [Nat.mul_comm] at this
    omega
  rw [e, mask_mul k hk]
  apply Nat.eq_of_testBit_eq
  intro i
  rw [Nat.testBit_and, Nat.testBit_mul_two_pow, Nat.testBit_mul_two_pow, Nat.testBit_two_pow_sub_one, Nat.testBit_div_two_pow]
  by_cases h1 : 32 - k ≤ i
  · rw [show i - (32 - k) + (32 - k) = i from by omega]
    by_cases h2 : i < 32
    · have : i - (32 - k) < k := by omega
      simp [h1, this]
    · have : a.testBit i = false := Nat.testBit_lt_two_pow (Nat.lt_of_lt_of_le ha (by have := Nat.pow_le_pow_right (n := 2) (by omega) (show 32 ≤ i by omega); simpa using this))
      simp [this]
  · simp [h1]
theorem andNot_mask (a k : Nat) (hk : k ≤ 32) : a &&& (4294967295 - maskN k) = a % 2 ^ (32 - k) := by
  have := pow_le32 (show 32 - k ≤ 32 by omega)
  have h0 := Nat.two_pow_pos (32 - k)
  rw [show 4294967295 - maskN k = 2 ^ (32 - k) - 1 from by unfold maskN; omega, Nat.and_two_pow_sub_one_eq_mod]

theorem right_calls (a k : Nat) (ha : a < 4294967296) (hk : k ≤ 32) (w : World) :
    Calls Tryd.prog 28 #[.agg #[.int .u32 (a : Int), .int .i64 (k : Int)]] w fun e w' => e = .returned (.bool (decide (a % 2 ^ (32 - k) = 0))) ∧ Below w.heap.size w w' := by
  have hb : bits .andNot .u32 (a : Int) (maskN k : Int) = ((a % 2 ^ (32 - k) : Nat) : Int) := by rw [u32_andNot_nat a _ ha (mask_lt k), andNot_mask a k hk]
  obtain ⟨m, hm⟩ : ∃ m, a % 2 ^ (32 - k) = m := ⟨_, rfl⟩
  rw [hm] at hb ⊢
  clear hm
  go_enter Tryd.func28, Tryd.ntmps28
  go_wp2_with (go_at_call 15; refine (mask_ok k hk _).mono ?_; rintro e wx ⟨rfl, rfl⟩)
  go_ret
  refine ⟨?_, (Below.refl _ _).alloc (Nat.le_refl _) _⟩
  by_cases h : m = 0
  · subst h; rfl
  · have h' : ((m : Int) == 0) = false := by simp [h]
    have h'' : decide (m = 0) = false := by simp [h]
    simp only [h'']
    exact congrArg Ending.returned (congrArg Value.bool h')
theorem right_bad (a : Int) (b : Int) (hb : b < 0 ∨ 32 < b) (w : World) :
    Calls Tryd.prog 28 #[.agg #[.int .u32 a, .int .i64 b]] w fun e w' => e = .returned (.bool false) ∧ Below w.heap.size w w' := by
  go_enter Tryd.func28, Tryd.ntmps28
  go_wp2_with (go_at_call 15; refine (mask_bad b hb _).mono ?_; rintro e wx ⟨rfl, rfl⟩)
  go_ret
  exact ⟨rfl, (Below.refl _ _).alloc (Nat.le_refl _) _⟩

theorem box2 {w wx : World} {u v : Value} {t : TypeId} (hB : Below (w.alloc (.cells #[u, v] t)).heap.size (w.alloc (.cells #[u, v] t)) wx) : (wx.cell? ⟨w.heap.size, 0, none⟩ = some u ∧ wx.cell? ⟨w.heap.size, 1, none⟩ = some v) ∧ Below w.heap.size w wx := by
  have h : wx.heap[w.heap.size]? = some (.cells #[u, v] t (0, 0)) := (hB.block w.heap.size (by simp)).trans (World.alloc_heap_new w _)
  refine ⟨⟨?_, ?_⟩, ((Below.refl _ w).alloc (Nat.le_refl _) _).trans (hB.mono (by simp))⟩ <;> simp [World.cell?, h]

theorem has_calls (a k x : Nat) (ha : a < 4294967296) (hk : k ≤ 32) (hx : x < 4294967296) (w : World) :
    Calls Tryd.prog 16 #[.agg #[.int .u32 (a : Int), .int .i64 (k : Int)], .int .u32 (x : Int)] w fun e w' => e = .returned (.bool (decide (a % 2 ^ (32 - k) = 0 ∧ x - x % 2 ^ (32 - k) = a))) ∧ Below w.heap.size w w' := by
  have hb : bits .and .u32 (x : Int) (maskN k : Int) = ((x - x % 2 ^ (32 - k) : Nat) : Int) := by rw [u32_and_nat x _ hx (mask_lt k), and_mask x k hx hk]
  have hR := Lib.hid (right_calls a k ha hk)
  obtain ⟨y, hy⟩ : ∃ y, x - x % 2 ^ (32 - k) = y := ⟨_, rfl⟩
  rw [hy] at hb ⊢
  clear hy
  by_cases h0 : a % 2 ^ (32 - k) = 0
  · have h1 : decide (a % 2 ^ (32 - k) = 0) = true := by simp [h0]
    rw [show decide (a % 2 ^ (32 - k) = 0 ∧ y = a) = decide (y = a) by simp [h0]]
    go_enter Tryd.func16, Tryd.ntmps16
    go_wp2_with (first
      | (go_at_call 15; refine (mask_ok k hk _).mono ?_; rintro e wx ⟨rfl, rfl⟩)
      | (go_at_call 28; refine (hR.out _).mono ?_; rintro e wx ⟨rfl, hB⟩; obtain ⟨⟨c0, c1⟩, hB2⟩ := box2 hB; rw [h1]; clear hB))
    go_ret
    refine ⟨?_, hB2⟩
    by_cases h : y = a
    · subst h; simp
    · have h' : ((y : Int) == (a : Int)) = false := by simp; omega
      have h'' : decide (y = a) = false := by simp [h]
      simp only [h'']
      exact congrArg Ending.returned (congrArg Value.bool h')
  · have h1 : decide (a % 2 ^ (32 - k) = 0) = false := by simp [h0]
    rw [show decide (a % 2 ^ (32 - k) = 0 ∧ y = a) = false by simp [h0]]
    go_enter Tryd.func16, Tryd.ntmps16
    go_wp2_with (first
      | (go_at_call 15; refine (mask_ok k hk _).mono ?_; rintro e wx ⟨rfl, rfl⟩)
      | (go_at_call 28; refine (hR.out _).mono ?_; rintro e wx ⟨rfl, hB⟩; obtain ⟨⟨c0, c1⟩, hB2⟩ := box2 hB; rw [h1]; clear hB))
    go_ret
    exact ⟨rfl, hB2⟩
theorem has_bad (a : Int) (b x : Int) (hb : b < 0 ∨ 32 < b) (w : World) :
    Calls Tryd.prog 16 #[.agg #[.int .u32 a, .int .i64 b], .int .u32 x] w fun e w' => e = .returned (.bool false) ∧ Below w.heap.size w w' := by
  go_enter Tryd.func16, Tryd.ntmps16
  go_wp2_with (first
    | (go_at_call 15; refine (mask_bad b hb _).mono ?_; rintro e wx ⟨rfl, rfl⟩)
    | (go_at_call 28; refine (right_bad a b hb _).mono ?_; rintro e wx ⟨rfl, hB⟩; obtain ⟨⟨c0, c1⟩, hB2⟩ := box2 hB; clear hB))
  go_ret
  exact ⟨rfl, hB2⟩
end Go.Proofs.YtfkjokencmdiiaaDoor
