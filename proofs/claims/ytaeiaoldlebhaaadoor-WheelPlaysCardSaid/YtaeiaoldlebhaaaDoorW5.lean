import Derived.Test.YtaeiaoldlebhaaaDoorProg
import Derived.Test.YtaeiaoldlebhaaaDoorM0
import Derived.Test.YtaeiaoldlebhaaaDoorW2
import Derived.Test.YtaeiaoldlebhaaaDoorW4
import Derived.Maps.AppendAt
import Derived.Deep.AppendLies
import Derived.Lib.Hide
namespace Go.Proofs.YtaeiaoldlebhaaaDoor
open Go.RowKit Go.Maps

/-- Among the blocks that were there just those of S have turned. -/
structure Only (S : Nat → Prop) (w w' : World) : Prop where
  os : w'.os = w.os
  tape : w'.tape = w.tape
  output : w'.output = w.output
  size : w.heap.size ≤ w'.heap.size
  block : ∀ i, i < w.heap.size → ¬ S i → w'.heap[i]? = w.heap[i]?
theorem Only.refl (S : Nat → Prop) (w : World) : Only S w w := ⟨rfl, rfl, rfl, Nat.le_refl _, fun _ _ _ => rfl⟩
theorem Only.of_below {S : Nat → Prop} {w w' : World} (h : Below w.heap.size w w') : Only S w w' := ⟨h.os, h.tape, h.output, h.size, fun i hi _ => h.block i hi⟩
theorem Only.mono {S T : Nat → Prop} {w w' : World} (h : Only S w w') (hs : ∀ i, S i → T i) : Only T w w' := ⟨h.os, h.tape, h.output, h.size, fun i hi hn => h.block i hi (fun e => hn (hs i e))⟩
theorem Only.trans {S T : Nat → Prop} {a b c : World} (h : Only S a b) (k : Only T b c) (hT : ∀ i, i < a.heap.size → T i → S i) : Only S a c :=
  ⟨k.os.trans h.os, k.tape.trans h.tape, k.output.trans h.output, Nat.le_trans h.size k.size, fun i hi hn => (k.block i (Nat.lt_of_lt_of_le hi h.size) (fun e => hn (hT i hi e))).trans (h.block i hi hn)⟩
theorem Only.below {S : Nat → Prop} {B : Nat} {w w' : World} (h : Only S w w') (hB : B ≤ w.heap.size) (hS : ∀ i, S i → B ≤ i) : Below B w w' :=
  ⟨h.os, h.tape, h.output, h.size, fun i hi => h.block i (by omega) (fun e => by have := hS i e; omega)⟩
theorem Only.set {S : Nat → Prop} {w w' : World} (h : Only S w w') {p : Addr} (hp : S p.block) (v : Value) : Only S w (w'.setCell p v) :=
  ⟨h.os, h.tape, h.output, by simpa [World.setCell] using h.size, fun i hi hn => (Below.heap_setCell _ _ _ _ (fun e => hn (by rw [e]; exact hp))).trans (h.block i hi hn)⟩
theorem Only.grown {S : Nat → Prop} {w w' w2 : World} {row : Option Nat} (h : Only S w w') (hg : w'.grownBy w2 row) (hr : ∀ g, row = some g → g < w.heap.size → S g) : Only S w w2 :=
  ⟨hg.os.trans h.os, hg.tape.trans h.tape, hg.output.trans h.output, Nat.le_trans h.size hg.size, fun i hi hn => (hg.block i (Nat.lt_of_lt_of_le hi h.size) (fun e => hn (hr i e.symm hi))).trans (h.block i hi hn)⟩
theorem Only.alloc {S : Nat → Prop} {w w' : World} (h : Only S w w') (o : Obj) : Only S w (w'.alloc o) :=
  ⟨h.os, h.tape, h.output, by have := h.size; simp; omega, fun i hi hn => (Below.heap_alloc _ _ _ (Nat.lt_of_lt_of_le hi h.size)).trans (h.block i hi hn)⟩
/-- S, and the blocks from n to below m. -/
def Wid (S : Nat → Prop) (n m : Nat) (b : Nat) : Prop := S b ∨ (n ≤ b ∧ b < m)

/-- An entry's cells; a map's value. -/
def entC (x : Ent) : List Value := [.int .i64 x.key, .int .i64 (x.due : Int), .int .i64 (x.ord : Int)]
def entV (x : Ent) : Value := .agg #[.int .i64 x.key, .int .i64 (x.due : Int), .int .i64 (x.ord : Int)]
def entsC (l : List Ent) : List Value := l.flatMap entC
theorem entsC_len (l : List Ent) : (entsC l).length = l.length * 3 := by
  unfold entsC
  induction l with
  | nil => rfl
  | cons a l ih => rw [List.flatMap_cons, List.length_append, ih]; simp [entC]; omega
theorem entsC_append (l m : List Ent) : entsC (l ++ m) = entsC l ++ entsC m := List.flatMap_append
theorem entsC_at {l : List Ent} {i : Nat} {x : Ent} (h : l[i]? = some x) : (entsC l)[i * 3]? = some (.int .i64 x.key) ∧ (entsC l)[i * 3 + 1]? = some (.int .i64 (x.due : Int)) ∧ (entsC l)[i * 3 + 2]? = some (.int .i64 (x.ord : Int)) := by
  induction l generalizing i with
  | nil => simp at h
  | cons a l ih =>
    cases i with
    | zero => simp at h; subst h; exact ⟨rfl, rfl, rfl⟩
    | succ i =>
      have h2 := ih (by simpa using h)
      have e : ∀ j, (entsC (a :: l))[j + 3]? = (entsC l)[j]? := fun j => by
        show (entC a ++ entsC l)[j + 3]? = _
        rw [List.getElem?_append_right (by simp [entC])]
        simp [entC]
      rw [show (i + 1) * 3 = i * 3 + 3 from by omega, show i * 3 + 3 + 1 = i * 3 + 1 + 3 from by omega, show i * 3 + 3 + 2 = i * 3 + 2 + 3 from by omega, e, e, e]
      exact h2
theorem ownsRow_kept {w w' : World} {base : Nat} {e : TypeId} {size : Nat} {v : Value} {n : Nat} {xs : List Value} (h : w.ownsRow base e size v n xs) (hb : ∀ g, v.ownBlock = some g → w'.heap[g]? = w.heap[g]?) : w'.ownsRow base e size v n xs := by
  obtain ⟨h1, h2⟩ := h
  refine ⟨h1, ?_⟩
  rcases h2 with h2 | ⟨g, cap, cur, hv, hb1, hg, hr⟩
  · exact .inl h2
  · exact .inr ⟨g, cap, cur, hv, hb1, (hb g (by rw [hv]; rfl)).trans hg, hr⟩
theorem ownsRow_base {w : World} {base base' : Nat} {e : TypeId} {size : Nat} {v : Value} {n : Nat} {xs : List Value} (h : w.ownsRow base e size v n xs) (hb : base' ≤ base) : w.ownsRow base' e size v n xs := by
  obtain ⟨h1, h2⟩ := h
  refine ⟨h1, ?_⟩
  rcases h2 with h2 | ⟨g, cap, cur, hv, hb1, hr⟩
  · exact .inl h2
  · exact .inr ⟨g, cap, cur, hv, Nat.le_trans hb hb1, hr⟩
/-- The slots' rows, each in a block of its own. -/
structure WRows (S : Nat → Prop) (W M : Nat) (sv : Nat → Value) (rows : Nat → List Ent) (w : World) : Prop where
  row : ∀ q, q < 448 → w.ownsRow 0 109 3 (sv q) (rows q).length (entsC (rows q))
  own : ∀ q b, q < 448 → (sv q).ownBlock = some b → S b ∧ b ≠ W ∧ b ≠ M
  apart : ∀ q r b, q < 448 → r < 448 → (sv q).ownBlock = some b → (sv r).ownBlock = some b → q = r
theorem WRows.kept {S : Nat → Prop} {W M : Nat} {sv : Nat → Value} {rows : Nat → List Ent} {w w' : World} (h : WRows S W M sv rows w) (hb : ∀ q b, q < 448 → (sv q).ownBlock = some b → w'.heap[b]? = w.heap[b]?) : WRows S W M sv rows w' :=
  ⟨fun q hq => ownsRow_kept (h.row q hq) (fun g hg => hb q g hq hg), h.own, h.apart⟩
theorem WRows.mono {S T : Nat → Prop} {W M : Nat} {sv : Nat → Value} {rows : Nat → List Ent} {w : World} (h : WRows S W M sv rows w) (hs : ∀ i, S i → T i) : WRows T W M sv rows w :=
  ⟨h.row, fun q b hq hb => ⟨hs _ (h.own q b hq hb).1, (h.own q b hq hb).2⟩, h.apart⟩
/-- One slot gets another row. -/
theorem WRows.put {S : Nat → Prop} {W M : Nat} {sv : Nat → Value} {rows : Nat → List Ent} {w w' : World} (h : WRows S W M sv rows w) {q : Nat} {v : Value} {xs : List Ent} (hr : w'.ownsRow 0 109 3 v xs.length (entsC xs))
    (hb : ∀ r b, r < 448 → r ≠ q → (sv r).ownBlock = some b → w'.heap[b]? = w.heap[b]?) (hv : ∀ b, v.ownBlock = some b → (S b ∧ b ≠ W ∧ b ≠ M) ∧ ∀ r, r < 448 → r ≠ q → (sv r).ownBlock ≠ some b) : WRows S W M (updF sv q v) (updF rows q xs) w' := by
  refine ⟨fun r hr2 => ?_, fun r b hr2 hbk => ?_, fun r r2 b hr1 hr2 h1 h2 => ?_⟩
  · by_cases e : r = q
    · subst e; rw [updF_same, updF_same]; exact hr
    · rw [updF_ne _ _ e, updF_ne _ _ e]; exact ownsRow_kept (h.row r hr2) (fun g hg => hb r g hr2 e hg)
  · by_cases e : r = q
    · subst e; rw [updF_same] at hbk; exact (hv b hbk).1
    · rw [updF_ne _ _ e] at hbk; exact h.own r b hr2 hbk
  · by_cases e : r = q
    · subst e
      rw [updF_same] at h1
      by_cases e2 : r2 = r
      · exact e2.symm
      · rw [updF_ne _ _ e2] at h2; exact ((hv b h1).2 r2 hr2 e2 h2).elim
    · rw [updF_ne _ _ e] at h1
      by_cases e2 : r2 = q
      · subst e2; rw [updF_same] at h2; exact ((hv b h2).2 r hr1 e h1).elim
      · rw [updF_ne _ _ e2] at h2; exact h.apart r r2 b hr1 hr2 h1 h2
theorem int3 : Tryd.prog.underlying 3 = some (.int .i64) := Tryd.underlying3
/-- Integers as keys, here. -/
noncomputable def kI : KeyEmb Tryd.prog 3 Int := intEmb int3
def armF (A : List Ent) (k : Int) : Option Value := (hasKey k A).map entV
/-- A wheel in memory: armed are those of A, laid down those of P. -/
structure WhAt (S : Nat → Prop) (W M : Nat) (now o : Nat) (A P : List Ent) (sm : Nat → Nat) (sv : Nat → Value) (rows : Nat → List Ent) (w : World) : Prop where
  cells : w.heap[W]? = some (wheelObj 106 now o M sm sv)
  map : MapG kI M A.length (armF A) w
  rws : WRows S W M sv rows w
  mem : S W ∧ S M ∧ W ≠ M
  low : ∀ i, S i → i < w.heap.size
  placed : Placed now rows P
  bits : SomeOk sm rows
  tm : now ≤ 1099511627776
  due : ∀ x ∈ P, now ≤ x.due ∧ x.due ≤ 1099511627776
theorem WhAt.kept {S : Nat → Prop} {W M now o : Nat} {A P : List Ent} {sm : Nat → Nat} {sv : Nat → Value} {rows : Nat → List Ent} {w w' : World} (h : WhAt S W M now o A P sm sv rows w) (hb : ∀ b, S b → w'.heap[b]? = w.heap[b]?) (hs : w.heap.size ≤ w'.heap.size) : WhAt S W M now o A P sm sv rows w' :=
  ⟨(hb W h.mem.1).trans h.cells, h.map.block (hb M h.mem.2.1), h.rws.kept (fun q b hq hv => hb b (h.rws.own q b hq hv).1), h.mem, fun i hi => Nat.lt_of_lt_of_le (h.low i hi) hs, h.placed, h.bits, h.tm, h.due⟩
theorem WhAt.below {S : Nat → Prop} {W M now o : Nat} {A P : List Ent} {sm : Nat → Nat} {sv : Nat → Value} {rows : Nat → List Ent} {w w' : World} (h : WhAt S W M now o A P sm sv rows w) (hb : Below w.heap.size w w') : WhAt S W M now o A P sm sv rows w' :=
  h.kept (fun b hS => hb.block b (h.low b hS)) hb.size
end Go.Proofs.YtaeiaoldlebhaaaDoor
