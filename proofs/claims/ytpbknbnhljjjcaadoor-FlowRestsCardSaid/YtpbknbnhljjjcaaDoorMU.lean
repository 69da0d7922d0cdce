/- Texts of this proof, put together: U1 U2 U4 U5. -/
import Derived.Test.YtpbknbnhljjjcaaDoorW7
import Derived.Below
import Derived.Test.YtpbknbnhljjjcaaDoorMA
import Derived.Test.YtpbknbnhljjjcaaDoorProg
import Derived.DeepKeys4
import Derived.Deep.MidRow
namespace Go.Proofs.YtpbknbnhljjjcaaDoor
open Go.RowKit

theorem not_bits (x : Nat) (hx : x < 18446744073709551616) : ∃ y : Nat, y = 18446744073709551615 - x ∧ y < 18446744073709551616 ∧ ∀ i, i < 64 → (y.testBit i = true ↔ x.testBit i = false) := by
  refine ⟨_, rfl, by omega, fun i hi => ?_⟩
  have h := Nat.testBit_two_pow_sub_succ (n := 64) (x := x) (by omega) i
  have e : 2 ^ 64 - (x + 1) = 18446744073709551615 - x := by omega
  rw [e] at h
  rw [h]
  simp [hi]
theorem and_u64 (a b : Nat) (ha : a < 18446744073709551616) (hb : b < 18446744073709551616) : bits .and .u64 (a : Int) (b : Int) = ((a &&& b : Nat) : Int) ∧ a &&& b < 18446744073709551616 := by
  have hx : a &&& b < 2 ^ 64 := Nat.and_lt_two_pow _ (by omega)
  refine ⟨?_, by omega⟩
  have e1 : (BitVec.ofInt 64 (a : Int)).toNat = a := by
    rw [BitVec.ofInt_natCast, BitVec.toNat_ofNat]; exact Nat.mod_eq_of_lt ha
  have e2 : (BitVec.ofInt 64 (b : Int)).toNat = b := by
    rw [BitVec.ofInt_natCast, BitVec.toNat_ofNat]; exact Nat.mod_eq_of_lt hb
  show IntKind.u64.wrap ((BitVec.ofInt 64 (a : Int) &&& BitVec.ofInt 64 (b : Int)).toNat : Int) = _
  rw [BitVec.toNat_and, e1, e2]
  exact wrap_u64_nat _ (by omega)
/-- All bits from some place on. -/
theorem ones_from (a : Nat) (ha : a < 64) : ∃ y : Nat, (y : Int) = IntKind.u64.wrap (18446744073709551615 * 2 ^ a) ∧ y < 18446744073709551616 ∧ ∀ i, i < 64 → (y.testBit i = true ↔ a ≤ i) := by
  refine ⟨18446744073709551616 - 2 ^ a, ?_, ?_, fun i hi => ?_⟩
  · have hp := two_lt a ha
    have h1 : 1 ≤ 2 ^ a := Nat.one_le_two_pow
    have e : (18446744073709551615 : Int) * 2 ^ a = ((18446744073709551615 * 2 ^ a : Nat) : Int) := by rw [Int.natCast_mul, Int.natCast_pow]; rfl
    rw [e]
    have e2 : 18446744073709551615 * 2 ^ a = (18446744073709551616 - 2 ^ a) + 18446744073709551616 * (2 ^ a - 1) := by omega
    rw [e2]
    simp only [IntKind.wrap, IntKind.bits, IntKind.signed]
    simp
    omega
  · have := Nat.one_le_two_pow (n := a); omega
  · have hp := two_lt a ha
    have h1 : 1 ≤ 2 ^ a := Nat.one_le_two_pow
    have h := Nat.testBit_two_pow_sub_succ (n := 64) (x := 2 ^ a - 1) (by omega) i
    have e : 2 ^ 64 - (2 ^ a - 1 + 1) = 18446744073709551616 - 2 ^ a := by omega
    rw [e] at h
    rw [h, Nat.testBit_two_pow_sub_one]
    simp [hi]
/-- All bits of a word turned. -/
theorem xor_max (x : Nat) (hx : x < 18446744073709551616) : bits .xor .u64 IntKind.u64.max (x : Int) = ((18446744073709551615 - x : Nat) : Int) := by
  have e0 : IntKind.u64.max = ((18446744073709551615 : Nat) : Int) := by decide
  rw [e0]
  have e1 : (BitVec.ofInt 64 ((18446744073709551615 : Nat) : Int)).toNat = 18446744073709551615 := by
    rw [BitVec.ofInt_natCast, BitVec.toNat_ofNat]
  have e2 : (BitVec.ofInt 64 (x : Int)).toNat = x := by
    rw [BitVec.ofInt_natCast, BitVec.toNat_ofNat]; exact Nat.mod_eq_of_lt hx
  show IntKind.u64.wrap ((BitVec.ofInt 64 ((18446744073709551615 : Nat) : Int) ^^^ BitVec.ofInt 64 (x : Int)).toNat : Int) = _
  rw [BitVec.toNat_xor, e1, e2]
  have e3 : 18446744073709551615 ^^^ x = 18446744073709551615 - x := by
    apply Nat.eq_of_testBit_eq
    intro i
    have h := Nat.testBit_two_pow_sub_succ (n := 64) (x := x) (by omega) i
    have e : 2 ^ 64 - (x + 1) = 18446744073709551615 - x := by omega
    rw [e] at h
    rw [h, Nat.testBit_xor]
    have h1 : (18446744073709551615 : Nat).testBit i = decide (i < 64) := Nat.testBit_two_pow_sub_one 64 i
    rw [h1]
    by_cases hi : i < 64
    · simp [hi]
    · have hxi : x.testBit i = false := Nat.testBit_lt_two_pow (Nat.lt_of_lt_of_le (show x < 2 ^ 64 by omega) (Nat.pow_le_pow_right (by decide) (by omega)))
      simp [hi, hxi]
  rw [e3]
  exact wrap_u64_nat _ (by omega)
end Go.Proofs.YtpbknbnhljjjcaaDoor

namespace Go.Proofs.YtpbknbnhljjjcaaDoor
theorem swap_perm {α : Type} [DecidableEq α] {l : List α} {i j : Nat} {x y : α} (hi : l[i]? = some x) (hj : l[j]? = some y) : ((l.set i y).set j x).Perm l := by
  obtain ⟨hi1, hi2⟩ := List.getElem?_eq_some_iff.1 hi
  obtain ⟨hj1, hj2⟩ := List.getElem?_eq_some_iff.1 hj
  rw [List.perm_iff_count]
  intro z
  rw [List.count_set (by simpa using hj1), List.count_set hi1, hi2]
  have hm : ∀ k u, (h : k < l.length) → l[k] = u → u = z → 0 < l.count z := fun k u h e e2 => List.count_pos_iff.2 (by rw [← e2, ← e]; exact List.getElem_mem _)
  by_cases e : i = j
  · subst e
    rw [hi2] at hj2
    subst hj2
    simp only [List.getElem_set_self]
    by_cases h1 : x = z
    · have := hm i x hi1 hi2 h1; simp [h1]; omega
    · simp [h1]
  · rw [List.getElem_set_ne e, hj2]
    by_cases h1 : x = z
    · have := hm i x hi1 hi2 h1
      by_cases h2 : y = z
      · subst h1; subst h2; simp; omega
      · simp [h1, h2]; omega
    · by_cases h2 : y = z
      · simp [h1, h2]
      · simp [h1, h2]
theorem pop_perm {α : Type} {l : List α} {x y : α} (h0 : l[0]? = some x) (hl : l[l.length - 1]? = some y) : (x :: (l.set 0 y).take (l.length - 1)).Perm l := by
  cases l with
  | nil => simp at h0
  | cons a t =>
    simp at h0
    subst h0
    simp only [List.set_cons_zero, List.length_cons, Nat.add_sub_cancel] at hl ⊢
    rcases List.eq_nil_or_concat t with rfl | ⟨s, b, rfl⟩
    · simp
    · simp only [List.concat_eq_append, List.length_append, List.length_cons, List.length_nil, Nat.zero_add] at hl ⊢
      have hb : b = y := by simpa using hl
      subst hb
      rw [List.take_succ_cons, List.take_left']
      · exact List.Perm.cons a (List.perm_append_comm (l₁ := [b]) (l₂ := s))
      · rfl
end Go.Proofs.YtpbknbnhljjjcaaDoor

namespace Go.Proofs.YtpbknbnhljjjcaaDoor
open Go.RowKit

/-- What depends on its own blocks alone. -/
structure Comp (A : (Nat → Prop) → World → Prop) : Prop where
  kept : ∀ {S : Nat → Prop} {w w' : World}, A S w → (∀ b, S b → w'.heap[b]? = w.heap[b]?) → w.heap.size ≤ w'.heap.size → A S w'
  low : ∀ {S : Nat → Prop} {w : World}, A S w → ∀ i, S i → i < w.heap.size
theorem Comp.below {A : (Nat → Prop) → World → Prop} (C : Comp A) {S : Nat → Prop} {w w' : World} (h : A S w) (hb : Below w.heap.size w w') : A S w' := C.kept h (fun b hS => hb.block b (C.low h b hS)) hb.size
/-- It has turned; nothing else that was there has. -/
def Tn (A : (Nat → Prop) → World → Prop) (S : Nat → Prop) (w w' : World) : Prop := ∃ S', A S' w' ∧ Only S w w' ∧ ∀ i, S' i → S i ∨ w.heap.size ≤ i
theorem Tn.of_below {A : (Nat → Prop) → World → Prop} (C : Comp A) {S : Nat → Prop} {w w' : World} (h : A S w) (hb : Below w.heap.size w w') : Tn A S w w' := ⟨S, C.below h hb, Only.of_below hb, fun _ hi => .inl hi⟩
/-- Three of them and an object that stays. -/
def Tri (A1 A2 A3 : (Nat → Prop) → World → Prop) (F : Nat) (o : Obj) (S : Nat → Prop) (w : World) : Prop :=
  ∃ S1 S2 S3 : Nat → Prop, (A1 S1 w ∧ A2 S2 w ∧ A3 S3 w) ∧ w.heap[F]? = some o ∧ (∀ i, S1 i → i ≠ F ∧ ¬ S2 i ∧ ¬ S3 i) ∧ (∀ i, S2 i → i ≠ F ∧ ¬ S3 i) ∧ (∀ i, S3 i → i ≠ F) ∧ ∀ i, S i ↔ i = F ∨ S1 i ∨ S2 i ∨ S3 i
section
variable {A1 A2 A3 B : (Nat → Prop) → World → Prop} {F : Nat} {o : Obj} {S : Nat → Prop} {w w' : World}
theorem Tri.comp (C1 : Comp A1) (C2 : Comp A2) (C3 : Comp A3) : Comp (Tri A1 A2 A3 F o) where
  kept := by
    rintro S w w' ⟨S1, S2, S3, ⟨h1, h2, h3⟩, hF, d1, d2, d3, hS⟩ hb hs
    exact ⟨S1, S2, S3, ⟨C1.kept h1 (fun b k => hb b ((hS b).2 (.inr (.inl k)))) hs, C2.kept h2 (fun b k => hb b ((hS b).2 (.inr (.inr (.inl k))))) hs, C3.kept h3 (fun b k => hb b ((hS b).2 (.inr (.inr (.inr k))))) hs⟩, (hb F ((hS F).2 (.inl rfl))).trans hF, d1, d2, d3, hS⟩
  low := by
    rintro S w ⟨S1, S2, S3, ⟨h1, h2, h3⟩, hF, d1, d2, d3, hS⟩ i hi
    rcases (hS i).1 hi with rfl | h | h | h
    · exact (Array.getElem?_eq_some_iff.1 hF).1
    · exact C1.low h1 i h
    · exact C2.low h2 i h
    · exact C3.low h3 i h
theorem Tri.one (C2 : Comp A2) (C3 : Comp A3) (h : Tri A1 A2 A3 F o S w) : ∃ S1, A1 S1 w ∧ (∀ i, S1 i → S i) ∧ ∀ w', Tn B S1 w w' → Tn (Tri B A2 A3 F o) S w w' := by
  obtain ⟨S1, S2, S3, ⟨h1, h2, h3⟩, hF, d1, d2, d3, hS⟩ := h
  have hFl := (Array.getElem?_eq_some_iff.1 hF).1
  have hl2 := C2.low h2
  have hl3 := C3.low h3
  refine ⟨S1, h1, fun i hi => (hS i).2 (.inr (.inl hi)), fun w' ht => ?_⟩
  obtain ⟨T, k1, k2, k3⟩ := ht
  have q : ∀ i, i < w.heap.size → ¬ S1 i → w'.heap[i]? = w.heap[i]? := fun i hi hn => k2.block i hi hn
  refine ⟨fun i => i = F ∨ T i ∨ S2 i ∨ S3 i, ⟨T, S2, S3, ⟨k1, C2.kept h2 (fun b hb => q b (hl2 b hb) (fun e => (d1 b e).2.1 hb)) k2.size, C3.kept h3 (fun b hb => q b (hl3 b hb) (fun e => (d1 b e).2.2 hb)) k2.size⟩, (q F hFl (fun e => (d1 F e).1 rfl)).trans hF, fun i hi => ?_, d2, d3, fun i => Iff.rfl⟩, ⟨k2.os, k2.tape, k2.output, k2.size, fun i hi hn => q i hi (fun e => hn ((hS i).2 (.inr (.inl e))))⟩, fun i hi => ?_⟩
  · rcases k3 i hi with e | e
    · exact d1 i e
    · exact ⟨by omega, fun e2 => by have := hl2 i e2; omega, fun e2 => by have := hl3 i e2; omega⟩
  · rcases hi with e | e | e | e
    · exact .inl ((hS i).2 (.inl e))
    · rcases k3 i e with e | e
      · exact .inl ((hS i).2 (.inr (.inl e)))
      · exact .inr e
    · exact .inl ((hS i).2 (.inr (.inr (.inl e))))
    · exact .inl ((hS i).2 (.inr (.inr (.inr e))))
theorem Tri.rot (h : Tri A1 A2 A3 F o S w) : Tri A2 A3 A1 F o S w := by
  obtain ⟨S1, S2, S3, ⟨h1, h2, h3⟩, hF, d1, d2, d3, hS⟩ := h
  refine ⟨S2, S3, S1, ⟨h2, h3, h1⟩, hF, fun i hi => ⟨(d2 i hi).1, (d2 i hi).2, fun e => (d1 i e).2.1 hi⟩, fun i hi => ⟨d3 i hi, fun e => (d1 i e).2.2 hi⟩, fun i hi => (d1 i hi).1, fun i => ?_⟩
  rw [hS i]
  constructor
  · rintro (e | e | e | e)
    · exact .inl e
    · exact .inr (.inr (.inr e))
    · exact .inr (.inl e)
    · exact .inr (.inr (.inl e))
  · rintro (e | e | e | e)
    · exact .inl e
    · exact .inr (.inr (.inl e))
    · exact .inr (.inr (.inr e))
    · exact .inr (.inl e)
theorem Tri.rotT (h : Tn (Tri A1 A2 A3 F o) S w w') : Tn (Tri A2 A3 A1 F o) S w w' := by
  obtain ⟨S', h1, h2, h3⟩ := h
  exact ⟨S', h1.rot, h2, h3⟩
theorem Tri.two (C1 : Comp A1) (C3 : Comp A3) (h : Tri A1 A2 A3 F o S w) : ∃ S2, A2 S2 w ∧ (∀ i, S2 i → S i) ∧ ∀ w', Tn B S2 w w' → Tn (Tri A1 B A3 F o) S w w' := by
  obtain ⟨S2, h1, h2, h3⟩ := Tri.one (B := B) C3 C1 h.rot
  exact ⟨S2, h1, h2, fun w' k => Tri.rotT (Tri.rotT (h3 w' k))⟩
theorem Tri.three (C1 : Comp A1) (C2 : Comp A2) (h : Tri A1 A2 A3 F o S w) : ∃ S3, A3 S3 w ∧ (∀ i, S3 i → S i) ∧ ∀ w', Tn B S3 w w' → Tn (Tri A1 A2 B F o) S w w' := by
  obtain ⟨S3, h1, h2, h3⟩ := Tri.one (B := B) C1 C2 h.rot.rot
  exact ⟨S3, h1, h2, fun w' k => Tri.rotT (h3 w' k)⟩
theorem Tri.box (h : Tri A1 A2 A3 F o S w) : w.heap[F]? = some o := by
  obtain ⟨S1, S2, S3, _, hF, _⟩ := h
  exact hF
theorem Tn.trans {A A' : (Nat → Prop) → World → Prop} {w1 w2 : World} (h : Tn A S w w1) (k : ∀ T, A T w1 → Tn A' T w1 w2) : Tn A' S w w2 := by
  obtain ⟨T, h1, h2, h3⟩ := h
  obtain ⟨U, k1, k2, k3⟩ := k T h1
  refine ⟨U, k1, ⟨k2.os.trans h2.os, k2.tape.trans h2.tape, k2.output.trans h2.output, Nat.le_trans h2.size k2.size, fun i hi hn => ?_⟩, fun i hi => ?_⟩
  · refine (k2.block i (Nat.lt_of_lt_of_le hi h2.size) (fun e => ?_)).trans (h2.block i hi hn)
    rcases h3 i e with e | e
    · exact hn e
    · omega
  · rcases k3 i hi with e | e
    · exact h3 i e
    · exact .inr (Nat.le_trans h2.size e)
end
end Go.Proofs.YtpbknbnhljjjcaaDoor

namespace Go.Proofs.YtpbknbnhljjjcaaDoor
open Go.RowKit Go.Maps

/-- A packet's names. -/
structure Tup where
  p : Int
  s : Int
  d : Int
  x : Int
  y : Int
deriving DecidableEq
def Tup.cells (t : Tup) : List Value := [.int .i64 t.p, .int .u32 t.s, .int .u32 t.d, .int .i64 t.x, .int .i64 t.y]
def Tup.v (t : Tup) : Value := .agg #[.int .i64 t.p, .int .u32 t.s, .int .u32 t.d, .int .i64 t.x, .int .i64 t.y]
def Tup.lits (t : Tup) : List Lit := [.int .i64 t.p, .int .u32 t.s, .int .u32 t.d, .int .i64 t.x, .int .i64 t.y]
def Tup.ok (t : Tup) : Prop := (Lit.int .i64 t.p).wf = true ∧ (Lit.int .u32 t.s).wf = true ∧ (Lit.int .u32 t.d).wf = true ∧ (Lit.int .i64 t.x).wf = true ∧ (Lit.int .i64 t.y).wf = true
/-- Whose ports some are. -/
structure PKey where
  p : Int
  n : Int
  a : Int
  q : Int
deriving DecidableEq
def PKey.v (t : PKey) : Value := .agg #[.int .i64 t.p, .int .u32 t.n, .int .u32 t.a, .int .i64 t.q]
def PKey.lits (t : PKey) : List Lit := [.int .i64 t.p, .int .u32 t.n, .int .u32 t.a, .int .i64 t.q]
def PKey.ok (t : PKey) : Prop := (Lit.int .i64 t.p).wf = true ∧ (Lit.int .u32 t.n).wf = true ∧ (Lit.int .u32 t.a).wf = true ∧ (Lit.int .i64 t.q).wf = true

theorem laidOut : laidOutB Tryd.prog = true := by kernel_rfl
theorem tup_row : (41 : TypeId) < Tryd.prog.types.size := of_decide_eq_true (by kernel_rfl)
theorem tup_wide : (match Tryd.prog.underlying 41 with | some (.array _ _) | some (.struct _) => true | _ => false) = true := by kernel_rfl
set_option maxRecDepth 100000 in
theorem tup_law : WideMaps.KeyLaw Tryd.prog 41 := deep_law_laid laidOut (m := 2) (by omega) tup_row (by kernel_rfl) tup_wide
theorem pk_row : (87 : TypeId) < Tryd.prog.types.size := of_decide_eq_true (by kernel_rfl)
theorem pk_wide : (match Tryd.prog.underlying 87 with | some (.array _ _) | some (.struct _) => true | _ => false) = true := by kernel_rfl
set_option maxRecDepth 100000 in
theorem pk_law : WideMaps.KeyLaw Tryd.prog 87 := deep_law_laid laidOut (m := 2) (by omega) pk_row (by kernel_rfl) pk_wide
theorem tup_keyType : Tryd.prog.keyType 41 = true := by kernel_rfl
theorem pk_keyType : Tryd.prog.keyType 87 = true := by kernel_rfl
theorem tup_cellsOf : Tryd.prog.cellsOf 41 = 5 := by kernel_rfl
theorem pk_cellsOf : Tryd.prog.cellsOf 87 = 4 := by kernel_rfl
theorem int_cellsOf : Tryd.prog.cellsOf 3 = 1 := by kernel_rfl
theorem u32_cellsOf : Tryd.prog.cellsOf 35 = 1 := by kernel_rfl
theorem tup_fields : ∃ f0 f1 f2 f3 f4 : Field, Tryd.prog.underlying 41 = some (.struct #[f0, f1, f2, f3, f4]) ∧ (f0.type = 3 ∧ f1.type = 35 ∧ f2.type = 35 ∧ f3.type = 3 ∧ f4.type = 3) ∧ (f0.offset = 0 ∧ f1.offset = 1 ∧ f2.offset = 2 ∧ f3.offset = 3 ∧ f4.offset = 4) ∧ (f0.name ≠ "_" ∧ f1.name ≠ "_" ∧ f2.name ≠ "_" ∧ f3.name ≠ "_" ∧ f4.name ≠ "_") :=
  ⟨_, _, _, _, _, Tryd.underlying41, ⟨rfl, rfl, rfl, rfl, rfl⟩, ⟨rfl, rfl, rfl, rfl, rfl⟩, by decide, by decide, by decide, by decide, by decide⟩
theorem pk_fields : ∃ f0 f1 f2 f3 : Field, Tryd.prog.underlying 87 = some (.struct #[f0, f1, f2, f3]) ∧ (f0.type = 3 ∧ f1.type = 35 ∧ f2.type = 35 ∧ f3.type = 3) ∧ (f0.offset = 0 ∧ f1.offset = 1 ∧ f2.offset = 2 ∧ f3.offset = 3) ∧ (f0.name ≠ "_" ∧ f1.name ≠ "_" ∧ f2.name ≠ "_" ∧ f3.name ≠ "_") :=
  ⟨_, _, _, _, Tryd.underlying87, ⟨rfl, rfl, rfl, rfl⟩, ⟨rfl, rfl, rfl, rfl⟩, by decide, by decide, by decide, by decide⟩
theorem int_keyLits (d : Nat) {n : Int} (h : (Lit.int .i64 n).wf = true) : Tryd.prog.keyLits (d + 1) 3 [.int .i64 n] = some [.int .i64 n] := by
  simp [Program.keyLits, Tryd.underlying3, h]
theorem u32_keyLits (d : Nat) {n : Int} (h : (Lit.int .u32 n).wf = true) : Tryd.prog.keyLits (d + 1) 35 [.int .u32 n] = some [.int .u32 n] := by
  simp [Program.keyLits, Tryd.underlying35, h]
theorem tup_keyLits (d : Nat) {t : Tup} (h : t.ok) : Tryd.prog.keyLits (d + 2) 41 t.cells = some t.lits := by
  obtain ⟨f0, f1, f2, f3, f4, hu, ⟨t0, t1, t2, t3, t4⟩, ⟨o0, o1, o2, o3, o4⟩, n0, n1, n2, n3, n4⟩ := tup_fields
  obtain ⟨h0, h1, h2, h3, h4⟩ := h
  unfold Program.keyLits
  rw [hu]
  simp [Tup.cells, Tup.lits, tup_cellsOf, n0, n1, n2, n3, n4, t0, t1, t2, t3, t4, o0, o1, o2, o3, o4, int_cellsOf, u32_cellsOf, int_keyLits d h0, u32_keyLits d h1, u32_keyLits d h2, int_keyLits d h3, int_keyLits d h4]
theorem pk_keyLits (d : Nat) {t : PKey} (h : t.ok) : Tryd.prog.keyLits (d + 2) 87 [.int .i64 t.p, .int .u32 t.n, .int .u32 t.a, .int .i64 t.q] = some t.lits := by
  obtain ⟨f0, f1, f2, f3, hu, ⟨t0, t1, t2, t3⟩, ⟨o0, o1, o2, o3⟩, n0, n1, n2, n3⟩ := pk_fields
  obtain ⟨h0, h1, h2, h3⟩ := h
  unfold Program.keyLits
  rw [hu]
  simp [PKey.lits, pk_cellsOf, n0, n1, n2, n3, t0, t1, t2, t3, o0, o1, o2, o3, int_cellsOf, u32_cellsOf, int_keyLits d h0, u32_keyLits d h1, u32_keyLits d h2, int_keyLits d h3]
theorem types_big : ∃ d, Tryd.prog.types.size + 1 = d + 2 := by
  obtain ⟨n, hn⟩ : ∃ n : Nat, Tryd.prog.types.size = n := ⟨_, rfl⟩
  have h : (41 : Nat) < Tryd.prog.types.size := tup_row
  rw [hn] at h ⊢
  exact ⟨n - 1, by omega⟩
theorem tup_key {t : Tup} (h : t.ok) : keyOf Tryd.prog 41 t.v = some (.string (keyBytes t.lits)) := by
  obtain ⟨d, hd⟩ := types_big
  have hk := tup_keyLits d h
  have hf : t.v.formed Tryd.prog 41 = true := by simp [Tup.v, Value.formed, Tryd.underlying41, tup_cellsOf]
  unfold keyOf
  rw [hd]
  rw [show t.v.cells.toList = t.cells from rfl, hk, tup_keyType, hf]
  rw [Tryd.underlying41]
  rfl
theorem pk_key {t : PKey} (h : t.ok) : keyOf Tryd.prog 87 t.v = some (.string (keyBytes t.lits)) := by
  obtain ⟨d, hd⟩ := types_big
  have hk := pk_keyLits d h
  have hf : t.v.formed Tryd.prog 87 = true := by simp [PKey.v, Value.formed, Tryd.underlying87, pk_cellsOf]
  unfold keyOf
  rw [hd]
  rw [show t.v.cells.toList = [.int .i64 t.p, .int .u32 t.n, .int .u32 t.a, .int .i64 t.q] from rfl, hk, pk_keyType, hf]
  rw [Tryd.underlying87]
  rfl
theorem Tup.v_inj {a b : Tup} (h : a.v = b.v) : a = b := by
  unfold Tup.v at h
  obtain ⟨_, _, _, _, _⟩ := a
  obtain ⟨_, _, _, _, _⟩ := b
  simpa using h
theorem PKey.v_inj {a b : PKey} (h : a.v = b.v) : a = b := by
  unfold PKey.v at h
  obtain ⟨_, _, _, _⟩ := a
  obtain ⟨_, _, _, _⟩ := b
  simpa using h
/-- Tuples as keys. -/
def kT : KeyEmb Tryd.prog 41 Tup :=
  ⟨Tup.v, fun t => .string (keyBytes t.lits), Tup.ok, Keyed.of_law tup_law, tup_key, fun {a b} ha hb e => Tup.v_inj (tup_law.inj (tup_key ha) (by rw [tup_key hb, ← e])), fun _ => trivial⟩
/-- The ports' keys as keys. -/
def kP : KeyEmb Tryd.prog 87 PKey :=
  ⟨PKey.v, fun t => .string (keyBytes t.lits), PKey.ok, Keyed.of_law pk_law, pk_key, fun {a b} ha hb e => PKey.v_inj (pk_law.inj (pk_key ha) (by rw [pk_key hb, ← e])), fun _ => trivial⟩
end Go.Proofs.YtpbknbnhljjjcaaDoor
