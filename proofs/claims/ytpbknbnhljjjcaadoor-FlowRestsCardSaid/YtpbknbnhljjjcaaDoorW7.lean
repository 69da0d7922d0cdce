import Derived.Test.YtpbknbnhljjjcaaDoorW2
import Derived.Laws.BitsLemmas
import Derived.Lib.ItoaNum
import Derived.Lib.TrailingZeros
namespace Go.Proofs.YtpbknbnhljjjcaaDoor
open Go.RowKit

theorem log2_len (x : Nat) (h : x < 2 ^ 64) : Lib.bitLen x - 1 = Nat.log2 x := by
  by_cases h0 : x = 0
  · subst h0; simp [Lib.bitLen, Lib.bitLenAux]
  · obtain ⟨h1, h2, h3⟩ := Lib.bitLenAux_bounds 64 x h h0
    have h4 : Nat.log2 x < Lib.bitLen x := (Nat.log2_lt h0).2 h3
    have h5 : Lib.bitLen x - 1 ≤ Nat.log2 x := (Nat.le_log2 h0).2 h2
    omega
theorem wrap_small (k : IntKind) (hk : k = .i64 ∨ k = .u64) (n : Int) (h0 : 0 ≤ n) (h1 : n < 9223372036854775808) : k.wrap n = n := by
  rcases hk with rfl | rfl <;> simp [IntKind.wrap, IntKind.bits, IntKind.signed] <;> omega
theorem xor_i64 (a b : Nat) (ha : a < 4398046511104) (hb : b < 4398046511104) : bits .xor .i64 (a : Int) (b : Int) = ((a ^^^ b : Nat) : Int) ∧ a ^^^ b < 4398046511104 := by
  have hx : a ^^^ b < 2 ^ 42 := Nat.xor_lt_two_pow (by omega) (by omega)
  have h1 : a % 2 ^ 64 = a := Nat.mod_eq_of_lt (by omega)
  have h2 : b % 2 ^ 64 = b := Nat.mod_eq_of_lt (by omega)
  refine ⟨?_, by omega⟩
  have e1 : (BitVec.ofInt 64 (a : Int)).toNat = a := by
    rw [BitVec.ofInt_natCast, BitVec.toNat_ofNat]; exact h1
  have e2 : (BitVec.ofInt 64 (b : Int)).toNat = b := by
    rw [BitVec.ofInt_natCast, BitVec.toNat_ofNat]; exact h2
  show IntKind.i64.wrap ((BitVec.ofInt 64 (a : Int) ^^^ BitVec.ofInt 64 (b : Int)).toNat : Int) = _
  rw [BitVec.toNat_xor, e1, e2]
  exact wrap_small .i64 (.inl rfl) _ (by omega) (by omega)
theorem and63 (x : Nat) (hx : x < 4398046511104) : bits .and .i64 (x : Int) 63 = ((x % 64 : Nat) : Int) := by
  have h := bits_mask .i64 42 (by decide) (fun n h0 h1 => wrap_small .i64 (.inl rfl) n h0 (by omega)) 6 (by decide) (x : Int) (by omega) (by omega)
  have e : ((2 : Int) ^ 6 - 1) = 63 := by decide
  rw [e] at h
  rw [h]
  omega
/-- The place, as the code reckons it. -/
theorem place_lv (a b : Nat) (ha : a < 4398046511104) (hb : b < 4398046511104) : (max 0 ((Lib.bitLen (a ^^^ b) : Int) - 1)) / 6 = (lvl a b : Int) := by
  have h := log2_len (a ^^^ b) (by have := (xor_i64 a b ha hb).2; omega)
  unfold lvl
  rw [← h]
  omega
theorem place_sl (now t : Nat) (ht : t < 4398046511104) : bits .and .i64 ((t : Int) / 2 ^ (6 * lvl t now)) 63 = (slt now t : Int) := by
  have e : ((t : Int) / 2 ^ (6 * lvl t now)) = ((t / 64 ^ lvl t now : Nat) : Int) := by
    rw [pow64]
    norm_cast
  rw [e, and63 _ (Nat.lt_of_le_of_lt (Nat.div_le_self _ _) ht)]
  rfl
theorem wrap_u64_nat (n : Nat) (h : n < 18446744073709551616) : IntKind.u64.wrap (n : Int) = (n : Int) := by
  simp [IntKind.wrap, IntKind.bits, IntKind.signed]; omega
theorem two_lt (s : Nat) (hs : s < 64) : 2 ^ s < 18446744073709551616 := by
  have : 2 ^ s < 2 ^ 64 := Nat.pow_lt_pow_right (by decide) hs
  omega
theorem wrap_two (s : Nat) (hs : s < 64) : IntKind.u64.wrap ((2 : Int) ^ s) = ((2 ^ s : Nat) : Int) := by
  have e : ((2 : Int) ^ s) = ((2 ^ s : Nat) : Int) := by norm_cast
  rw [e, wrap_u64_nat _ (two_lt s hs)]
/-- A bit is set. -/
theorem or_bit (a s : Nat) (ha : a < 18446744073709551616) (hs : s < 64) : ∃ n : Nat, bits .or .u64 (a : Int) (((2 ^ s : Nat)) : Int) = (n : Int) ∧ n < 18446744073709551616 ∧ ∀ i, i < 64 → (n.testBit i = true ↔ a.testBit i = true ∨ i = s) := by
  have hb := two_lt s hs
  refine ⟨a ||| 2 ^ s, ?_, Nat.or_lt_two_pow (n := 64) ha hb, fun i hi => ?_⟩
  · have e1 : (BitVec.ofInt 64 (a : Int)).toNat = a := by
      rw [BitVec.ofInt_natCast, BitVec.toNat_ofNat]; exact Nat.mod_eq_of_lt ha
    have e2 : (BitVec.ofInt 64 ((2 ^ s : Nat) : Int)).toNat = 2 ^ s := by
      rw [BitVec.ofInt_natCast, BitVec.toNat_ofNat]; exact Nat.mod_eq_of_lt hb
    show IntKind.u64.wrap ((BitVec.ofInt 64 (a : Int) ||| BitVec.ofInt 64 ((2 ^ s : Nat) : Int)).toNat : Int) = _
    rw [BitVec.toNat_or, e1, e2]
    exact wrap_u64_nat _ (Nat.or_lt_two_pow (n := 64) ha hb)
  · rw [Nat.testBit_or, Nat.testBit_two_pow]
    simp
    constructor
    · rintro (h | h)
      · exact .inl h
      · exact .inr h.symm
    · rintro (h | h)
      · exact .inl h
      · exact .inr h.symm
/-- A bit is taken away. -/
theorem andNot_bit (a s : Nat) (hs : s < 64) : ∃ n : Nat, bits .andNot .u64 (a : Int) (((2 ^ s : Nat)) : Int) = (n : Int) ∧ n < 18446744073709551616 ∧ ∀ i, i < 64 → (n.testBit i = true ↔ a.testBit i = true ∧ i ≠ s) := by
  have hb := two_lt s hs
  refine ⟨(BitVec.ofInt 64 (a : Int) &&& ~~~ BitVec.ofInt 64 ((2 ^ s : Nat) : Int)).toNat, ?_, BitVec.isLt _, fun i hi => ?_⟩
  · show IntKind.u64.wrap ((BitVec.ofInt 64 (a : Int) &&& ~~~ BitVec.ofInt 64 ((2 ^ s : Nat) : Int)).toNat : Int) = _
    exact wrap_u64_nat _ (BitVec.isLt _)
  · rw [BitVec.testBit_toNat, BitVec.getLsbD_and, BitVec.getLsbD_not, BitVec.ofInt_natCast, BitVec.ofInt_natCast, BitVec.getLsbD_ofNat, BitVec.getLsbD_ofNat, Nat.testBit_two_pow]
    simp [hi]
    exact fun _ => ⟨fun h e => h e.symm, fun h e => h e.symm⟩
theorem SomeOk.lay {sm : Nat → Nat} {rows : Nat → List Ent} (h : SomeOk sm rows) {lv s n : Nat} (hl : lv < 7) (hs : s < 64) (hn : n < 18446744073709551616) (hb : ∀ i, i < 64 → (n.testBit i = true ↔ (sm lv).testBit i = true ∨ i = s)) {xs : List Ent} (hx : xs ≠ []) :
    SomeOk (updF sm lv n) (updF rows (lv * 64 + s) xs) := fun l hl2 => by
  by_cases e : l = lv
  · subst e
    rw [updF_same]
    refine ⟨hn, fun i hi => ?_⟩
    rw [hb i hi, (h l hl2).2 i hi]
    by_cases e2 : i = s
    · subst e2; rw [updF_same]; simp [hx]
    · rw [updF_ne _ _ (by omega)]; simp [e2]
  · rw [updF_ne _ _ e]
    refine ⟨(h l hl2).1, fun i hi => ?_⟩
    rw [updF_ne _ _ (by omega)]
    exact (h l hl2).2 i hi
theorem SomeOk.clear {sm : Nat → Nat} {rows : Nat → List Ent} (h : SomeOk sm rows) {lv s n : Nat} (hl : lv < 7) (hs : s < 64) (hn : n < 18446744073709551616) (hb : ∀ i, i < 64 → (n.testBit i = true ↔ (sm lv).testBit i = true ∧ i ≠ s)) :
    SomeOk (updF sm lv n) (updF rows (lv * 64 + s) []) := fun l hl2 => by
  by_cases e : l = lv
  · subst e
    rw [updF_same]
    refine ⟨hn, fun i hi => ?_⟩
    rw [hb i hi, (h l hl2).2 i hi]
    by_cases e2 : i = s
    · subst e2; rw [updF_same]; simp
    · rw [updF_ne _ _ (by omega)]; simp [e2]
  · rw [updF_ne _ _ e]
    refine ⟨(h l hl2).1, fun i hi => ?_⟩
    rw [updF_ne _ _ (by omega)]
    exact (h l hl2).2 i hi
theorem SomeOk.stay {sm : Nat → Nat} {rows : Nat → List Ent} (h : SomeOk sm rows) {q : Nat} {xs : List Ent} (hx : xs ≠ []) (h0 : rows q ≠ []) : SomeOk sm (updF rows q xs) := fun l hl2 => by
  refine ⟨(h l hl2).1, fun i hi => ?_⟩
  rw [(h l hl2).2 i hi]
  by_cases e : l * 64 + i = q
  · rw [e, updF_same]; simp [hx, h0]
  · rw [updF_ne _ _ e]
theorem ctz_bits (x : Nat) (h0 : x ≠ 0) (hx : x < 18446744073709551616) : Lib.ctz 64 x < 64 ∧ x.testBit (Lib.ctz 64 x) = true ∧ ∀ i, i < Lib.ctz 64 x → x.testBit i = false := by
  obtain ⟨m, e, hlt⟩ := Lib.ctzFrom_spec 64 x (by omega) hx
  have hc : Lib.ctz 64 x = Lib.ctzFrom 64 x := by unfold Lib.ctz; rw [if_neg h0]
  rw [hc]
  obtain ⟨s, hs⟩ : ∃ s, Lib.ctzFrom 64 x = s := ⟨_, rfl⟩
  rw [hs] at e hlt ⊢
  refine ⟨hlt, ?_, fun i hi => ?_⟩
  · rw [e, Nat.testBit_two_pow_mul]
    simp
  · rw [e, Nat.testBit_two_pow_mul]
    simp
    intro h; omega
/-- The first time of a slot, as the code reckons it. -/
theorem from_code (now lv s : Nat) (hn : now < 4398046511104) (h7 : lv < 7) (hs : s < 64) :
    bits .or .i64 (IntKind.i64.wrap ((now : Int) / 2 ^ (6 * (lv + 1)) * 2 ^ (6 * (lv + 1)))) (IntKind.i64.wrap ((s : Int) * 2 ^ (6 * lv))) = (fromOf now lv s : Int) ∧ fromOf now lv s < 4398046511104 + 4398046511104 := by
  have hp : (64 : Nat) ^ lv ≤ 64 ^ 6 := Nat.pow_le_pow_right (by decide) (by omega)
  have h6 : (64 : Nat) ^ 6 = 68719476736 := by decide
  have e1 : ((now : Int) / 2 ^ (6 * (lv + 1)) * 2 ^ (6 * (lv + 1))) = ((now / 64 ^ (lv + 1) * 64 ^ (lv + 1) : Nat) : Int) := by
    rw [pow64]; norm_cast
  have e2 : ((s : Int) * 2 ^ (6 * lv)) = ((s * 64 ^ lv : Nat) : Int) := by
    rw [pow64]; norm_cast
  have b1 : now / 64 ^ (lv + 1) * 64 ^ (lv + 1) ≤ now := Nat.div_mul_le_self _ _
  have b2 : s * 64 ^ lv < 64 ^ (lv + 1) := by
    rw [Nat.pow_succ, Nat.mul_comm]
    exact Nat.mul_lt_mul_of_pos_left hs (Nat.pow_pos (by decide))
  have b3 : s * 64 ^ lv ≤ 63 * 68719476736 := Nat.mul_le_mul (by omega) (by omega)
  rw [e1, e2, wrap_small .i64 (.inl rfl) _ (by omega) (by omega), wrap_small .i64 (.inl rfl) _ (by omega) (by omega)]
  have hb := (bits_nat .i64 43 (by decide) (fun n h0 h1 => wrap_small .i64 (.inl rfl) n h0 (by omega)) (now / 64 ^ (lv + 1) * 64 ^ (lv + 1)) (s * 64 ^ lv) (by omega) (by omega)).2
  have ho : now / 64 ^ (lv + 1) * 64 ^ (lv + 1) ||| s * 64 ^ lv = fromOf now lv s := by
    unfold fromOf
    have h3 := Nat.shiftLeft_add_eq_or_of_lt (b := s * 64 ^ lv) (i := 6 * (lv + 1)) (by rw [← pow64]; exact b2) (now / 64 ^ (lv + 1))
    rw [Nat.shiftLeft_eq, ← pow64] at h3
    exact h3.symm
  rw [ho] at hb
  refine ⟨hb, ?_⟩
  unfold fromOf
  omega
theorem w64 (x : Int) : wrap64 x = IntKind.i64.wrap x := by rw [IntKind.wrap_i64]; rfl
theorem pow6 (k : Nat) : (2 : Nat) ^ (6 * k) = 64 ^ k := (pow64 k).symm
end Go.Proofs.YtpbknbnhljjjcaaDoor
