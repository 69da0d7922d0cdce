import Derived.Test.YtfkjokencmdiiaaDoorL2
namespace Go.Proofs.YtfkjokencmdiiaaDoor
open Go.RowKit Go.Shelf

/-- The numbers of a net and its halves. -/
theorem halves {P A b B : Nat} (hP : 0 < P) (hA : A % (2 * P) = 0) (hB : B = b - b % (2 * P)) :
    (b - b % P = A ↔ B = A ∧ b % (2 * P) < P) ∧ (b - b % P = A + P ↔ B = A ∧ P ≤ b % (2 * P)) := by
  obtain ⟨q, hq⟩ : ∃ q, b / (2 * P) = q := ⟨_, rfl⟩
  obtain ⟨r, hr⟩ : ∃ r, b % (2 * P) = r := ⟨_, rfl⟩
  obtain ⟨s, hs⟩ : ∃ s, A / (2 * P) = s := ⟨_, rfl⟩
  have hrl : r < 2 * P := by rw [← hr]; exact Nat.mod_lt _ (by omega)
  have hb : b = 2 * P * q + r := by rw [← hq, ← hr]; exact (Nat.div_add_mod b (2 * P)).symm
  have ha : A = 2 * P * s := by
    have := Nat.div_add_mod A (2 * P)
    rw [hA, hs] at this
    omega
  have hBq : B = 2 * P * q := by rw [hB, hr, hb]; omega
  have hm : b % P = if r < P then r else r - P := by
    rw [hb, show 2 * P * q + r = r + P * (2 * q) by rw [Nat.mul_comm 2 P, Nat.mul_assoc]; omega, Nat.add_mul_mod_self_left]
    split
    · exact Nat.mod_eq_of_lt (by assumption)
    · rw [Nat.mod_eq_sub_mod (by omega), Nat.mod_eq_of_lt (by omega)]
  rw [hm, hr]
  have key : 2 * P * q = 2 * P * s ∨ 2 * P * q + 2 * P ≤ 2 * P * s ∨ 2 * P * s + 2 * P ≤ 2 * P * q := by
    rcases Nat.lt_trichotomy q s with h | h | h
    · right; left
      have := Nat.mul_le_mul_left (2 * P) (show q + 1 ≤ s from h)
      rw [Nat.mul_add, Nat.mul_one] at this
      exact this
    · left; rw [h]
    · right; right
      have := Nat.mul_le_mul_left (2 * P) (show s + 1 ≤ q from h)
      rw [Nat.mul_add, Nat.mul_one] at this
      exact this
  generalize 2 * P * q = Q at *
  generalize 2 * P * s = S at *
  subst hb ha hBq
  split <;> constructor <;> constructor <;> intro h <;> omega

theorem or_pow {A P : Nat} (i : Nat) (hP : P = 2 ^ i) (hA : A % (2 * P) = 0) : A ||| P = A + P := by
  have ha : A = 2 ^ (i + 1) * (A / (2 * P)) := by
    have := Nat.div_add_mod A (2 * P)
    rw [hA] at this
    rw [Nat.pow_succ, ← hP, Nat.mul_comm P 2]
    omega
  rw [ha]
  exact (Nat.two_pow_add_eq_or_of_lt (by rw [hP, Nat.pow_succ]; have := Nat.two_pow_pos i; omega) _).symm
theorem or_not_right (a i : Nat) : (a ||| 2 ^ i) % 2 ^ (i + 1) ≠ 0 := by
  rw [Nat.or_mod_two_pow, Nat.mod_eq_of_lt (show 2 ^ i < 2 ^ (i + 1) by rw [Nat.pow_succ]; have := Nat.two_pow_pos i; omega)]
  have h1 : 2 ^ i ≤ a % 2 ^ (i + 1) ||| 2 ^ i := Nat.right_le_or
  have := Nat.two_pow_pos i
  omega

theorem hasB_is {a k x : Nat} (hk : k ≤ 32) (ha : a % 2 ^ (32 - k) = 0) : hasB (a : Int) (k : Int) (x : Int) = decide (cutN x k = a) := by
  unfold hasB
  simp only [Int.toNat_natCast]
  exact decide_eq_decide.2 ⟨fun h => h.2.2.2, fun h => ⟨by omega, by omega, ha, h⟩⟩
theorem hasB_wrong {a k x : Nat} (ha : a % 2 ^ (32 - k) ≠ 0) : hasB (a : Int) (k : Int) (x : Int) = false := by
  unfold hasB
  simp only [Int.toNat_natCast, decide_eq_false_iff_not]
  exact fun h => ha h.2.2.1

set_option maxRecDepth 100000 in
set_option maxHeartbeats 3000000 in
theorem walk_AddrHolds (a0 : Int) (a1 : Int) (a2 : Int) (w : World) (w0 : (Lit.int .u32 a0).wf = true) (w1 : (Lit.int .u8 a1).wf = true) (w2 : (Lit.int .u32 a2).wf = true) (hE : Env w) :
    Calls Tryd.prog 4 #[.int .u32 a0, .int .u8 a1, .int .u32 a2] w fun e w' => e = .returned (.bool true) ∧ Below w.heap.size w w' := by
  obtain ⟨a, rfl, ha⟩ := u32_nat w0
  obtain ⟨bi, rfl, _⟩ := u8_nat w1
  obtain ⟨b, rfl, hb⟩ := u32_nat w2
  have HE := Lib.hid hE
  have HB := Lib.hid (Below.refl w.heap.size w)
  obtain ⟨k, hk⟩ : ∃ k : Nat, bi % 32 = k := ⟨_, rfl⟩
  have hkI : (bi : Int) % 32 = (k : Int) := by omega
  have hk3 : k ≤ 31 := by omega
  have hk31 : (k : Int) ≤ 31 := by omega
  clear w0 w1 w2 hE hk
  obtain ⟨k1, hk1⟩ : ∃ k1 : Nat, k + 1 = k1 := ⟨_, rfl⟩
  have hk1I : (k : Int) + 1 = (k1 : Int) := by omega
  have hk13 : k1 ≤ 32 := by omega
  obtain ⟨P, hP⟩ : ∃ P : Nat, 2 ^ (31 - k) = P := ⟨_, rfl⟩
  have hP0 : 0 < P := by rw [← hP]; exact Nat.two_pow_pos _
  have hP32 : P ≤ 2147483648 := by
    rw [← hP]
    have := Nat.pow_le_pow_right (n := 2) (by omega) (show 31 - k ≤ 31 by omega)
    simpa using this
  have h2P : 2 ^ (32 - k) = 2 * P := by rw [← hP, show 32 - k = (31 - k) + 1 by omega, Nat.pow_succ, Nat.mul_comm]
  have h1P : 2 ^ (32 - k1) = P := by rw [← hP, ← hk1, show 32 - (k + 1) = 31 - k by omega]
  have hsh : (2 : Int) ^ (31 - k) % 4294967296 = (P : Int) := by
    rw [show (2 : Int) ^ (31 - k) = ((2 ^ (31 - k) : Nat) : Int) by push_cast; rfl, hP]
    omega
  have m1 := maskI_nat (show k ≤ 32 by omega)
  have m2 := maskI_nat hk13
  have c1 := and_cut a k ha (by omega)
  have cb := and_cut b k hb (by omega)
  have cn : bits .and .u32 (maskN k1 : Int) (maskN k : Int) = (maskN k : Int) := by
    rw [u32_and_nat _ _ (mask_lt _) (mask_lt _), Nat.and_comm, mask_sub (by omega) hk13]
  have hA0 : cutN a k % (2 * P) = 0 := by rw [← h2P]; exact cutN_mod a k
  have hAle := cutN_le a k
  have hBle := cutN_le b k
  obtain ⟨g1, g2⟩ := halves (b := b) (B := cutN b k) hP0 hA0 (by unfold cutN; rw [h2P])
  have hor : cutN a k ||| P = cutN a k + P := or_pow (31 - k) hP.symm hA0
  have hHl : cutN a k + P < 4294967296 := by
    rw [← hor]
    exact Nat.or_lt_two_pow (n := 32) (by simpa using Nat.lt_of_le_of_lt hAle ha) (by simp; omega)
  have hGl : a ||| P < 4294967296 := Nat.or_lt_two_pow (n := 32) (by simpa using ha) (by simp; omega)
  have co : bits .or .u32 (cutN a k : Int) (P : Int) = ((cutN a k + P : Nat) : Int) := by rw [u32_or_nat _ _ (by omega) (by omega), hor]
  have cg : bits .or .u32 (a : Int) (P : Int) = ((a ||| P : Nat) : Int) := u32_or_nat _ _ ha (by omega)
  have p1 := @hasB_cut a k b (by omega)
  have p2 := @hasB_cut a k a (by omega)
  have hAP : cutN a k % P = 0 := by
    have := Nat.mod_mul_right_mod (cutN a k) P 2
    rw [Nat.mul_comm P 2, hA0] at this
    simpa using this.symm
  have p3 := @hasB_is (cutN a k) k1 b hk13 (by rw [h1P]; exact hAP)
  have p4 := @hasB_is (cutN a k + P) k1 b hk13 (by rw [h1P, Nat.add_mod_right]; exact hAP)
  have p5 := @hasB_wrong (a ||| P) k b (by rw [← hP, show 32 - k = (31 - k) + 1 by omega]; exact or_not_right a (31 - k))
  simp only [decide_true] at p2
  rw [show cutN b k1 = b - b % P by unfold cutN; rw [h1P]] at p3 p4
  have BB := Lib.hid (show (0 ≤ (cutN a k : Int) ∧ (cutN a k : Int) < 4294967296) ∧ (0 ≤ ((cutN a k + P : Nat) : Int) ∧ ((cutN a k + P : Nat) : Int) < 4294967296) ∧ (0 ≤ ((a ||| P : Nat) : Int) ∧ ((a ||| P : Nat) : Int) < 4294967296) ∧ (0 ≤ (b : Int) ∧ (b : Int) < 4294967296) ∧ (0 ≤ (a : Int) ∧ (a : Int) < 4294967296) by omega)
  clear ha hb hP h2P h1P hA0 hAle hBle hor hHl hGl hAP hP32
  obtain ⟨H, hH⟩ : ∃ H, cutN a k + P = H := ⟨_, rfl⟩
  rw [hH] at co p4 BB g2
  obtain ⟨G, hG⟩ : ∃ G, a ||| P = G := ⟨_, rfl⟩
  rw [hG] at cg p5 BB
  have S1 : Stage 1 := Stage.mk 1
  have d1 : decide (cutN b k = cutN a k) = ((cutN b k : Int) == (cutN a k : Int)) := by
    by_cases e : cutN b k = cutN a k
    · simp [e]
    · have : ((cutN b k : Int) == (cutN a k : Int)) = false := by simp; omega
      rw [this]; simp [e]
  have hcase : ∃ x y z : Bool, ((cutN b k : Int) == (cutN a k : Int)) = x ∧ decide (b - b % P = cutN a k) = y ∧ decide (b - b % P = H) = z ∧ ((x = true ∧ y = true ∧ z = false) ∨ (x = true ∧ y = false ∧ z = true) ∨ (x = false ∧ y = false ∧ z = false)) := by
    by_cases e1 : cutN b k = cutN a k
    · have hBA : ((cutN b k : Int) == (cutN a k : Int)) = true := by rw [e1]; simp
      by_cases e2 : b % (2 * P) < P
      · exact ⟨true, true, false, hBA, decide_eq_true (g1.2 ⟨e1, e2⟩), decide_eq_false (fun e => by have := (g2.1 e).2; omega), .inl ⟨rfl, rfl, rfl⟩⟩
      · exact ⟨true, false, true, hBA, decide_eq_false (fun e => by have := (g1.1 e).2; omega), decide_eq_true (g2.2 ⟨e1, by omega⟩), .inr (.inl ⟨rfl, rfl, rfl⟩)⟩
    · have hBA : ((cutN b k : Int) == (cutN a k : Int)) = false := by simp; omega
      exact ⟨false, false, false, hBA, decide_eq_false (fun e => e1 (g1.1 e).1), decide_eq_false (fun e => e1 (g2.1 e).1), .inr (.inr ⟨rfl, rfl, rfl⟩)⟩
  obtain ⟨x, y, z, hBA, l1, l2, hxyz⟩ := hcase
  rw [d1, hBA] at p1
  rw [l1] at p3
  rw [l2] at p4
  clear l1 l2 g1 g2 d1 hH hG
  generalize cutN a k = A at *
  generalize cutN b k = B at *
  rcases hxyz with ⟨rfl, rfl, rfl⟩ | ⟨rfl, rfl, rfl⟩ | ⟨rfl, rfl, rfl⟩
  all_goals
    go_enter Tryd.func4, Tryd.ntmps4
    go_wp2_with (first
      | (go_at_call 10; refine (examples02 _ HE.out).mono ?_; rintro e wx ⟨rfl, hB⟩; replace HB := Lib.hid (below_step HB.out hB); clear hB)
      | (go_at_call 15; refine (mask_any _ _).mono ?_; rintro e wx ⟨rfl, rfl⟩)
      | (go_at_call 16; clear S1; refine (has_any _ _ _ BB.out.1 BB.out.2.2.2.1 _).mono ?_; rintro e wy ⟨rfl, hB⟩; obtain ⟨n0, n1, n2, n3, n4, n5, hB2⟩ := box3 hB; replace HB := Lib.hid (below_step HB.out hB2); clear hB hB2)
      | (go_at_call 16; refine (has_any _ _ _ (by first | exact BB.out.1 | exact BB.out.2.1 | exact BB.out.2.2.1) (by first | exact BB.out.2.2.2.1 | exact BB.out.2.2.2.2) _).mono ?_; rintro e wz ⟨rfl, hB⟩; replace n0 := (hB.cell (World.block_lt_of_cell? _ _ n0)).trans n0; replace n1 := (hB.cell (World.block_lt_of_cell? _ _ n1)).trans n1; replace n2 := (hB.cell (World.block_lt_of_cell? _ _ n2)).trans n2; replace n3 := (hB.cell (World.block_lt_of_cell? _ _ n3)).trans n3; replace n4 := (hB.cell (World.block_lt_of_cell? _ _ n4)).trans n4; replace n5 := (hB.cell (World.block_lt_of_cell? _ _ n5)).trans n5; replace HB := Lib.hid (below_step HB.out hB); clear hB))
    go_ret
    exact ⟨rfl, HB.out⟩
end Go.Proofs.YtfkjokencmdiiaaDoor
