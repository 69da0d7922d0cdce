/- Texts of this proof, put together: M0 W4 W5. -/
import Derived.Maps.OwnSet
import Derived.WalkKit
import Derived.Below
import Derived.Test.YtpbknbnhljjjcaaDoorW2
import Derived.Test.YtpbknbnhljjjcaaDoorProg
import Derived.Maps.AppendAt
import Derived.Deep.AppendLies
import Derived.Lib.Hide
namespace Go.Proofs.YtpbknbnhljjjcaaDoor
open Go.RowKit Go.Maps

/-- A map's reader that hands every value on as it is. -/
def heldR (v : Value) : Option (DataW Value × List MemPlace) := some (.held v, [])
/-- Keys of a kind, as values and as literals. -/
structure KeyEmb (P : Program) (kt : TypeId) (κ : Type) where
  kv : κ → Value
  kl : κ → Lit
  ok : κ → Prop
  keyed : Keyed P kt
  key : ∀ {a}, ok a → keyOf P kt (kv a) = some (kl a)
  inj : ∀ {a b}, ok a → ok b → kl a = kl b → a = b
  lit : ∀ {a}, ok a → WideAt.IsKeyLit (kl a)
section
variable {P : Program} {kt : TypeId} {κ : Type} (E : KeyEmb P kt κ)
/-- Block b is a map of c entries; f says what stands where. -/
def MapG (b c : Nat) (f : κ → Option Value) (w : World) : Prop :=
  ∃ D : DataW Value, w.ownsMap P kt heldR b c D ∧ Maps.size D = c ∧ ∀ k, E.ok k → (∀ z, D.atKey (E.kl k) (.held z) = .held ((f k).getD z)) ∧ Maps.has D (E.kl k) = (f k).isSome
variable {E} {b c : Nat} {f : κ → Option Value} {w : World}
theorem own_tight {n : Nat} {D : DataW Value} (h : w.ownsMap P kt heldR b n D) : w.ownsMap P kt heldR b (Maps.size D) D := by
  obtain ⟨es, clock, hb, F, _, rfl⟩ := h
  have e1 : Maps.size (DataW.map ((es.toList.map (WideElems.rg P kt heldR)).foldr DataW.insert [])) = es.size := by simp [Maps.size, length_sorted]
  exact ⟨es, clock, hb, F, by rw [e1]; exact Nat.le_refl _, rfl⟩
theorem MapG.made (E : KeyEmb P kt κ) (w : World) : MapG E w.heap.size 0 (fun _ => none) (w.alloc (.map #[] 0)) :=
  ⟨_, World.ownsMap_made w P kt heldR, rfl, fun _ _ => ⟨fun _ => rfl, rfl⟩⟩
theorem MapG.lt (h : MapG E b c f w) : b < w.heap.size := by
  obtain ⟨D, h1, _⟩ := h
  exact h1.lt
theorem MapG.block {w' : World} (h : MapG E b c f w) (hb : w'.heap[b]? = w.heap[b]?) : MapG E b c f w' := by
  obtain ⟨D, ⟨es, cl, h1, h2⟩, h3⟩ := h
  exact ⟨D, ⟨es, cl, hb.trans h1, h2⟩, h3⟩
theorem MapG.ext {g : κ → Option Value} (h : MapG E b c f w) (he : ∀ k, E.ok k → f k = g k) : MapG E b c g w := by
  obtain ⟨D, h1, h2, h3⟩ := h
  exact ⟨D, h1, h2, fun k hk => by rw [← he k hk]; exact h3 k hk⟩
theorem MapG.look (h : MapG E b c f w) {t e : TypeId} (ht : P.underlying t = some (.map kt e)) {z : Value} (hz : (zeroValue e).run P w = .ok z w) {k : κ} (hk : E.ok k) :
    (Instr.lookup t (.map (some b)) (E.kv k) false).run P w = .ok ((f k).getD z) w := by
  obtain ⟨D, h1, _, h2⟩ := h
  obtain ⟨v, ps, hrun, hv⟩ := h1.lookup E.keyed ht hz (zd := .held z) (zp := []) rfl (E.key hk)
  rw [hrun]
  have e := congrArg Prod.fst (Option.some.inj hv)
  rw [(h2 k hk).1 z] at e
  cases e
  rfl
theorem MapG.look_ok (h : MapG E b c f w) {t e : TypeId} (ht : P.underlying t = some (.map kt e)) {z : Value} (hz : (zeroValue e).run P w = .ok z w) {k : κ} (hk : E.ok k) :
    (Instr.lookup t (.map (some b)) (E.kv k) true).run P w = .ok (.tuple #[(f k).getD z, .bool (f k).isSome]) w := by
  obtain ⟨D, h1, _, h2⟩ := h
  obtain ⟨v, ps, hrun, hv⟩ := h1.look_ok E.keyed ht hz (zd := .held z) (zp := []) rfl (E.key hk)
  rw [hrun, (h2 k hk).2]
  have e := congrArg Prod.fst (Option.some.inj hv)
  rw [(h2 k hk).1 z] at e
  cases e
  rfl
theorem MapG.len (h : MapG E b c f w) {t e : TypeId} (ht : P.underlying t = some (.map kt e)) (ty : TypeId) : (Builtin.len_ #[t] ty #[.map (some b)]).run P w = .ok (.int .i64 (c : Int)) w := by
  obtain ⟨D, h1, h2, _⟩ := h
  rw [h1.len ht ty, h2]
theorem MapG.store [DecidableEq κ] (h : MapG E b c f w) {t e : TypeId} (ht : P.underlying t = some (.map kt e)) (hn : c < maxLen) {k : κ} (hk : E.ok k) (v : Value) :
    ∃ w', (Instr.mapUpdate t (.map (some b)) (E.kv k) v).run P w = .ok () w' ∧ MapG E b (if (f k).isSome then c else c + 1) (fun j => if j = k then some v else f j) w' ∧ w.grownBy w' (some b) := by
  obtain ⟨D, h1, hc, h2⟩ := h
  obtain ⟨w', hrun, h3, h4⟩ := h1.update E.keyed ht hn (d := .held v) (ps := []) (E.key hk) rfl
  have hsz : Maps.size (D.put (E.kl k) (.held v)) = if (f k).isSome then c else c + 1 := by
    rw [size_put (h1.tidy E.keyed), (h2 k hk).2, hc]
  have h5 := own_tight h3
  rw [hsz] at h5
  refine ⟨w', hrun, ⟨_, h5, hsz, fun j hj => ?_⟩, h4⟩
  by_cases e : j = k
  · subst e
    simp only [if_true]
    exact ⟨fun z => atKey_put_same h1.isMap (E.lit hk) _ _, has_put_same h1.isMap (E.lit hk) _⟩
  · simp only [if_neg e]
    have hne : E.kl j ≠ E.kl k := fun e2 => e (E.inj hj hk e2)
    exact ⟨fun z => by rw [atKey_put_other hne]; exact (h2 j hj).1 z, by rw [has_put_other hne]; exact (h2 j hj).2⟩
theorem MapG.drop [DecidableEq κ] (h : MapG E b c f w) {t e : TypeId} (ht : P.underlying t = some (.map kt e)) {k : κ} (hk : E.ok k) (ty : TypeId) :
    ∃ w' c', (Builtin.delete_ #[t, kt] ty #[.map (some b), E.kv k]).run P w = .ok (.tuple #[]) w' ∧ MapG E b c' (fun j => if j = k then none else f j) w' ∧ w.grownBy w' (some b) ∧ c' + (if (f k).isSome then 1 else 0) = c := by
  obtain ⟨D, h1, hc, h2⟩ := h
  obtain ⟨w', hrun, h3, h4⟩ := h1.drop E.keyed ht (E.key hk) ty
  have hsz := size_del (k := E.kl k) (h1.tidy E.keyed)
  rw [(h2 k hk).2, hc] at hsz
  refine ⟨w', _, hrun, ⟨_, own_tight h3, rfl, fun j hj => ?_⟩, h4.grown, hsz⟩
  by_cases e : j = k
  · subst e
    simp only [if_true]
    exact ⟨fun z => atKey_del_same _, has_del_same⟩
  · simp only [if_neg e]
    have hne : E.kl j ≠ E.kl k := fun e2 => e (E.inj hj hk e2)
    exact ⟨fun z => by rw [atKey_del_other hne]; exact (h2 j hj).1 z, by rw [has_del_other hne]; exact (h2 j hj).2⟩
end
/-- Integers as keys. -/
def intEmb {P : Program} {kt : TypeId} (hu : P.underlying kt = some (.int .i64)) : KeyEmb P kt Int :=
  ⟨fun k => .int .i64 k, fun k => .int .i64 k, fun k => (Lit.int .i64 k).wf = true, int_keyed hu, fun h => keyOf_int_mk hu h, fun _ _ e => by cases e; rfl, fun _ => trivial⟩
end Go.Proofs.YtpbknbnhljjjcaaDoor

namespace Go.Proofs.YtpbknbnhljjjcaaDoor
open Go.RowKit

/-- A block of n cells, told by a function. -/
def fnObj (n : Nat) (f : Nat → Value) (T : TypeId) : Obj := .cells (Array.ofFn (n := n) fun i => f i.val) T (0, 0)
theorem fnObj_ext {n : Nat} {f g : Nat → Value} {T : TypeId} (h : ∀ i, i < n → f i = g i) : fnObj n f T = fnObj n g T := by
  unfold fnObj
  congr 1
  exact congrArg Array.ofFn (funext fun i => h i.val i.isLt)
theorem fn_cell {w : World} {b n : Nat} {f : Nat → Value} {T : TypeId} (h : w.heap[b]? = some (fnObj n f T)) {k : Nat} (hk : k < n) : w.cell? ⟨b, k, none⟩ = some (f k) := by
  simp [World.cell?, h, fnObj, hk]
theorem fn_free {w : World} {b n : Nat} {f : Nat → Value} {T : TypeId} (h : w.heap[b]? = some (fnObj n f T)) (k : Nat) : w.frozen? ⟨b, k, none⟩ = false := by
  simp [World.frozen?, h, fnObj]
theorem fn_set {w : World} {b n : Nat} {f : Nat → Value} {T : TypeId} (h : w.heap[b]? = some (fnObj n f T)) {k : Nat} (v : Value) : (w.setCell ⟨b, k, none⟩ v).heap[b]? = some (fnObj n (updF f k v) T) := by
  simp [World.setCell, Array.getElem?_modify, h, fnObj]
  refine Array.ext (by simp) (fun i h1 h2 => ?_)
  by_cases e : i = k
  · subst e; simp [updF]
  · have h3 : i < (Array.ofFn (n := n) fun i => f i.val).size := by simpa using h1
    rw [Array.getElem_setIfInBounds_ne h3 (fun e2 => e e2.symm)]
    simp [updF, e]

/-- A wheel's cells: the time, the orders, the map, seven levels of a word of bits and 64 slots. -/
def wheelF (now orders : Int) (M : Nat) (sm : Nat → Nat) (sv : Nat → Value) (k : Nat) : Value :=
  if k < 3 then (if k = 0 then .int .i64 now else if k = 1 then .int .i64 orders else .map (some M))
  else if (k - 3) % 65 = 0 then .int .u64 (sm ((k - 3) / 65) : Int) else sv ((k - 3) / 65 * 64 + ((k - 3) % 65 - 1))
theorem wheelF_sm {now orders : Int} {M : Nat} {sm : Nat → Nat} {sv : Nat → Value} {lv : Nat} : wheelF now orders M sm sv (3 + lv * 65) = .int .u64 (sm lv : Int) := by
  unfold wheelF
  rw [if_neg (by omega), if_pos (by omega), show (3 + lv * 65 - 3) / 65 = lv from by omega]
theorem wheelF_sv {now orders : Int} {M : Nat} {sm : Nat → Nat} {sv : Nat → Value} {lv s : Nat} (hs : s < 64) : wheelF now orders M sm sv (3 + lv * 65 + 1 + s) = sv (lv * 64 + s) := by
  unfold wheelF
  rw [if_neg (by omega), if_neg (by omega)]
  congr 1
  omega
theorem wheelF_setSm {now orders : Int} {M : Nat} {sm : Nat → Nat} {sv : Nat → Value} {lv : Nat} (v : Nat) (k : Nat) : updF (wheelF now orders M sm sv) (3 + lv * 65) (.int .u64 (v : Int)) k = wheelF now orders M (updF sm lv v) sv k := by
  unfold updF
  by_cases e : k = 3 + lv * 65
  · subst e
    rw [if_pos rfl, wheelF_sm, if_pos rfl]
  · rw [if_neg e]
    unfold wheelF
    split
    · rfl
    · split
      · dsimp only; rw [if_neg (by omega)]
      · rfl
theorem wheelF_setSv {now orders : Int} {M : Nat} {sm : Nat → Nat} {sv : Nat → Value} {lv s : Nat} (hs : s < 64) (v : Value) (k : Nat) : updF (wheelF now orders M sm sv) (3 + lv * 65 + 1 + s) v k = wheelF now orders M sm (updF sv (lv * 64 + s) v) k := by
  unfold updF
  by_cases e : k = 3 + lv * 65 + 1 + s
  · subst e
    rw [if_pos rfl, wheelF_sv hs, if_pos rfl]
  · rw [if_neg e]
    unfold wheelF
    split
    · rfl
    · split
      · rfl
      · dsimp only; rw [if_neg (by omega)]
theorem wheelF_setNow {now orders : Int} {M : Nat} {sm : Nat → Nat} {sv : Nat → Value} (v : Int) (k : Nat) : updF (wheelF now orders M sm sv) 0 (.int .i64 v) k = wheelF v orders M sm sv k := by
  unfold updF wheelF
  by_cases e : k = 0
  · subst e; rfl
  · rw [if_neg e]
    split
    · rfl
    · rfl
theorem wheelF_setOrders {now orders : Int} {M : Nat} {sm : Nat → Nat} {sv : Nat → Value} (v : Int) (k : Nat) : updF (wheelF now orders M sm sv) 1 (.int .i64 v) k = wheelF now v M sm sv k := by
  unfold updF wheelF
  by_cases e : k = 1
  · subst e; rfl
  · rw [if_neg e]
    split
    · by_cases e0 : k = 0
      · rw [if_pos e0]
      · rw [if_neg e0]
    · rfl
def wheelObj (T : TypeId) (now orders : Int) (M : Nat) (sm : Nat → Nat) (sv : Nat → Value) : Obj := fnObj 458 (wheelF now orders M sm sv) T
section
variable {w : World} {W M : Nat} {T : TypeId} {now orders : Int} {sm : Nat → Nat} {sv : Nat → Value}
theorem wh_now (h : w.heap[W]? = some (wheelObj T now orders M sm sv)) : w.cell? ⟨W, 0, none⟩ = some (.int .i64 now) := fn_cell h (by omega)
theorem wh_orders (h : w.heap[W]? = some (wheelObj T now orders M sm sv)) : w.cell? ⟨W, 1, none⟩ = some (.int .i64 orders) := fn_cell h (by omega)
theorem wh_map (h : w.heap[W]? = some (wheelObj T now orders M sm sv)) : w.cell? ⟨W, 2, none⟩ = some (.map (some M)) := fn_cell h (by omega)
theorem wh_sm (h : w.heap[W]? = some (wheelObj T now orders M sm sv)) {lv : Nat} (hl : lv < 7) : w.cell? ⟨W, 3 + lv * 65, none⟩ = some (.int .u64 (sm lv : Int)) := by
  rw [fn_cell h (by omega), wheelF_sm]
theorem wh_sv (h : w.heap[W]? = some (wheelObj T now orders M sm sv)) {lv s : Nat} (hl : lv < 7) (hs : s < 64) : w.cell? ⟨W, 3 + lv * 65 + 1 + s, none⟩ = some (sv (lv * 64 + s)) := by
  rw [fn_cell h (by omega), wheelF_sv hs]
theorem wh_free (h : w.heap[W]? = some (wheelObj T now orders M sm sv)) (k : Nat) : w.frozen? ⟨W, k, none⟩ = false := fn_free h k
theorem wh_setNow (h : w.heap[W]? = some (wheelObj T now orders M sm sv)) (v : Int) : (w.setCell ⟨W, 0, none⟩ (.int .i64 v)).heap[W]? = some (wheelObj T v orders M sm sv) := by
  rw [fn_set h]; exact congrArg some (fnObj_ext fun k _ => wheelF_setNow v k)
theorem wh_setOrders (h : w.heap[W]? = some (wheelObj T now orders M sm sv)) (v : Int) : (w.setCell ⟨W, 1, none⟩ (.int .i64 v)).heap[W]? = some (wheelObj T now v M sm sv) := by
  rw [fn_set h]; exact congrArg some (fnObj_ext fun k _ => wheelF_setOrders v k)
theorem wh_setSm (h : w.heap[W]? = some (wheelObj T now orders M sm sv)) (lv v : Nat) : (w.setCell ⟨W, 3 + lv * 65, none⟩ (.int .u64 (v : Int))).heap[W]? = some (wheelObj T now orders M (updF sm lv v) sv) := by
  rw [fn_set h]; exact congrArg some (fnObj_ext fun k _ => wheelF_setSm v k)
theorem wh_setSv (h : w.heap[W]? = some (wheelObj T now orders M sm sv)) (lv : Nat) {s : Nat} (hs : s < 64) (v : Value) : (w.setCell ⟨W, 3 + lv * 65 + 1 + s, none⟩ v).heap[W]? = some (wheelObj T now orders M sm (updF sv (lv * 64 + s) v)) := by
  rw [fn_set h]; exact congrArg some (fnObj_ext fun k _ => wheelF_setSv hs v k)
end
end Go.Proofs.YtpbknbnhljjjcaaDoor

namespace Go.Proofs.YtpbknbnhljjjcaaDoor
open Go.RowKit Go.Maps

/-- Among the blocks that were there just those of S have turned. -/
structure Only (S : Nat → Prop) (w w' : World) : Prop where
  os : w'.os = w.os
  tape : w'.tape = w.tape
  output : w'.output = w.output
  size : w.heap.size ≤ w'.heap.size
  block : ∀ i, i < w.heap.size → ¬ S i → w'.heap[i]? = w.heap[i]?
theorem Only.refl (S : Nat → Prop) (w : World) : Only S w w := ⟨rfl, rfl, rfl, Nat.le_refl _, fun _ _ _ => rfl⟩
theorem Only.of_below {S : Nat → Prop} {w w' : World} (h : Below w.heap.size w w') : Only S w w' := ⟨h.os, h.tape, h.output, h.size, fun i hi _ => h.block i hi⟩
theorem Only.mono {S T : Nat → Prop} {w w' : World} (h : Only S w w') (hs : ∀ i, S i → T i) : Only T w w' := ⟨h.os, h.tape, h.output, h.size, fun i hi hn => h.block i hi (fun e => hn (hs i e))⟩
theorem Only.trans {S T : Nat → Prop} {a b c : World} (h : Only S a b) (k : Only T b c) (hT : ∀ i, i < a.heap.size → T i → S i) : Only S a c :=
  ⟨k.os.trans h.os, k.tape.trans h.tape, k.output.trans h.output, Nat.le_trans h.size k.size, fun i hi hn => (k.block i (Nat.lt_of_lt_of_le hi h.size) (fun e => hn (hT i hi e))).trans (h.block i hi hn)⟩
theorem Only.below {S : Nat → Prop} {B : Nat} {w w' : World} (h : Only S w w') (hB : B ≤ w.heap.size) (hS : ∀ i, S i → B ≤ i) : Below B w w' :=
  ⟨h.os, h.tape, h.output, h.size, fun i hi => h.block i (by omega) (fun e => by have := hS i e; omega)⟩
theorem Only.set {S : Nat → Prop} {w w' : World} (h : Only S w w') {p : Addr} (hp : S p.block) (v : Value) : Only S w (w'.setCell p v) :=
  ⟨h.os, h.tape, h.output, by simpa [World.setCell] using h.size, fun i hi hn => (Below.heap_setCell _ _ _ _ (fun e => hn (by rw [e]; exact hp))).trans (h.block i hi hn)⟩
theorem Only.grown {S : Nat → Prop} {w w' w2 : World} {row : Option Nat} (h : Only S w w') (hg : w'.grownBy w2 row) (hr : ∀ g, row = some g → g < w.heap.size → S g) : Only S w w2 :=
  ⟨hg.os.trans h.os, hg.tape.trans h.tape, hg.output.trans h.output, Nat.le_trans h.size hg.size, fun i hi hn => (hg.block i (Nat.lt_of_lt_of_le hi h.size) (fun e => hn (hr i e.symm hi))).trans (h.block i hi hn)⟩
theorem Only.alloc {S : Nat → Prop} {w w' : World} (h : Only S w w') (o : Obj) : Only S w (w'.alloc o) :=
  ⟨h.os, h.tape, h.output, by have := h.size; simp; omega, fun i hi hn => (Below.heap_alloc _ _ _ (Nat.lt_of_lt_of_le hi h.size)).trans (h.block i hi hn)⟩
/-- S, and the blocks from n to below m. -/
def Wid (S : Nat → Prop) (n m : Nat) (b : Nat) : Prop := S b ∨ (n ≤ b ∧ b < m)

/-- An entry's cells; a map's value. -/
def entC (x : Ent) : List Value := [.int .i64 x.key, .int .i64 (x.due : Int), .int .i64 (x.ord : Int)]
def entV (x : Ent) : Value := .agg #[.int .i64 x.key, .int .i64 (x.due : Int), .int .i64 (x.ord : Int)]
def entsC (l : List Ent) : List Value := l.flatMap entC
theorem entsC_len (l : List Ent) : (entsC l).length = l.length * 3 := by
  unfold entsC
  induction l with
  | nil => rfl
  | cons a l ih => rw [List.flatMap_cons, List.length_append, ih]; simp [entC]; omega
theorem entsC_append (l m : List Ent) : entsC (l ++ m) = entsC l ++ entsC m := List.flatMap_append
theorem entsC_at {l : List Ent} {i : Nat} {x : Ent} (h : l[i]? = some x) : (entsC l)[i * 3]? = some (.int .i64 x.key) ∧ (entsC l)[i * 3 + 1]? = some (.int .i64 (x.due : Int)) ∧ (entsC l)[i * 3 + 2]? = some (.int .i64 (x.ord : Int)) := by
  induction l generalizing i with
  | nil => simp at h
  | cons a l ih =>
    cases i with
    | zero => simp at h; subst h; exact ⟨rfl, rfl, rfl⟩
    | succ i =>
      have h2 := ih (by simpa using h)
      have e : ∀ j, (entsC (a :: l))[j + 3]? = (entsC l)[j]? := fun j => by
        show (entC a ++ entsC l)[j + 3]? = _
        rw [List.getElem?_append_right (by simp [entC])]
        simp [entC]
      rw [show (i + 1) * 3 = i * 3 + 3 from by omega, show i * 3 + 3 + 1 = i * 3 + 1 + 3 from by omega, show i * 3 + 3 + 2 = i * 3 + 2 + 3 from by omega, e, e, e]
      exact h2
theorem ownsRow_kept {w w' : World} {base : Nat} {e : TypeId} {size : Nat} {v : Value} {n : Nat} {xs : List Value} (h : w.ownsRow base e size v n xs) (hb : ∀ g, v.ownBlock = some g → w'.heap[g]? = w.heap[g]?) : w'.ownsRow base e size v n xs := by
  obtain ⟨h1, h2⟩ := h
  refine ⟨h1, ?_⟩
  rcases h2 with h2 | ⟨g, cap, cur, hv, hb1, hg, hr⟩
  · exact .inl h2
  · exact .inr ⟨g, cap, cur, hv, hb1, (hb g (by rw [hv]; rfl)).trans hg, hr⟩
theorem ownsRow_base {w : World} {base base' : Nat} {e : TypeId} {size : Nat} {v : Value} {n : Nat} {xs : List Value} (h : w.ownsRow base e size v n xs) (hb : base' ≤ base) : w.ownsRow base' e size v n xs := by
  obtain ⟨h1, h2⟩ := h
  refine ⟨h1, ?_⟩
  rcases h2 with h2 | ⟨g, cap, cur, hv, hb1, hr⟩
  · exact .inl h2
  · exact .inr ⟨g, cap, cur, hv, Nat.le_trans hb hb1, hr⟩
/-- The slots' rows, each in a block of its own. -/
structure WRows (S : Nat → Prop) (W M : Nat) (sv : Nat → Value) (rows : Nat → List Ent) (w : World) : Prop where
  row : ∀ q, q < 448 → w.ownsRow 0 154 3 (sv q) (rows q).length (entsC (rows q))
  own : ∀ q b, q < 448 → (sv q).ownBlock = some b → S b ∧ b ≠ W ∧ b ≠ M
  apart : ∀ q r b, q < 448 → r < 448 → (sv q).ownBlock = some b → (sv r).ownBlock = some b → q = r
theorem WRows.kept {S : Nat → Prop} {W M : Nat} {sv : Nat → Value} {rows : Nat → List Ent} {w w' : World} (h : WRows S W M sv rows w) (hb : ∀ q b, q < 448 → (sv q).ownBlock = some b → w'.heap[b]? = w.heap[b]?) : WRows S W M sv rows w' :=
  ⟨fun q hq => ownsRow_kept (h.row q hq) (fun g hg => hb q g hq hg), h.own, h.apart⟩
theorem WRows.mono {S T : Nat → Prop} {W M : Nat} {sv : Nat → Value} {rows : Nat → List Ent} {w : World} (h : WRows S W M sv rows w) (hs : ∀ i, S i → T i) : WRows T W M sv rows w :=
  ⟨h.row, fun q b hq hb => ⟨hs _ (h.own q b hq hb).1, (h.own q b hq hb).2⟩, h.apart⟩
/-- One slot gets another row. -/
theorem WRows.put {S : Nat → Prop} {W M : Nat} {sv : Nat → Value} {rows : Nat → List Ent} {w w' : World} (h : WRows S W M sv rows w) {q : Nat} {v : Value} {xs : List Ent} (hr : w'.ownsRow 0 154 3 v xs.length (entsC xs))
    (hb : ∀ r b, r < 448 → r ≠ q → (sv r).ownBlock = some b → w'.heap[b]? = w.heap[b]?) (hv : ∀ b, v.ownBlock = some b → (S b ∧ b ≠ W ∧ b ≠ M) ∧ ∀ r, r < 448 → r ≠ q → (sv r).ownBlock ≠ some b) : WRows S W M (updF sv q v) (updF rows q xs) w' := by
  refine ⟨fun r hr2 => ?_, fun r b hr2 hbk => ?_, fun r r2 b hr1 hr2 h1 h2 => ?_⟩
  · by_cases e : r = q
    · subst e; rw [updF_same, updF_same]; exact hr
    · rw [updF_ne _ _ e, updF_ne _ _ e]; exact ownsRow_kept (h.row r hr2) (fun g hg => hb r g hr2 e hg)
  · by_cases e : r = q
    · subst e; rw [updF_same] at hbk; exact (hv b hbk).1
    · rw [updF_ne _ _ e] at hbk; exact h.own r b hr2 hbk
  · by_cases e : r = q
    · subst e
      rw [updF_same] at h1
      by_cases e2 : r2 = r
      · exact e2.symm
      · rw [updF_ne _ _ e2] at h2; exact ((hv b h1).2 r2 hr2 e2 h2).elim
    · rw [updF_ne _ _ e] at h1
      by_cases e2 : r2 = q
      · subst e2; rw [updF_same] at h2; exact ((hv b h2).2 r hr1 e h1).elim
      · rw [updF_ne _ _ e2] at h2; exact h.apart r r2 b hr1 hr2 h1 h2
theorem int3 : Tryd.prog.underlying 3 = some (.int .i64) := Tryd.underlying3
/-- Integers as keys, here. -/
noncomputable def kI : KeyEmb Tryd.prog 3 Int := intEmb int3
def armF (A : List Ent) (k : Int) : Option Value := (hasKey k A).map entV
/-- A wheel in memory: armed are those of A, laid down those of P. -/
structure WhAt (S : Nat → Prop) (W M : Nat) (now o : Nat) (A P : List Ent) (sm : Nat → Nat) (sv : Nat → Value) (rows : Nat → List Ent) (w : World) : Prop where
  cells : w.heap[W]? = some (wheelObj 118 now o M sm sv)
  map : MapG kI M A.length (armF A) w
  rws : WRows S W M sv rows w
  mem : S W ∧ S M ∧ W ≠ M
  low : ∀ i, S i → i < w.heap.size
  placed : Placed now rows P
  bits : SomeOk sm rows
  tm : now ≤ 1099511627776
  due : ∀ x ∈ P, now ≤ x.due ∧ x.due ≤ 1099511627776
theorem WhAt.kept {S : Nat → Prop} {W M now o : Nat} {A P : List Ent} {sm : Nat → Nat} {sv : Nat → Value} {rows : Nat → List Ent} {w w' : World} (h : WhAt S W M now o A P sm sv rows w) (hb : ∀ b, S b → w'.heap[b]? = w.heap[b]?) (hs : w.heap.size ≤ w'.heap.size) : WhAt S W M now o A P sm sv rows w' :=
  ⟨(hb W h.mem.1).trans h.cells, h.map.block (hb M h.mem.2.1), h.rws.kept (fun q b hq hv => hb b (h.rws.own q b hq hv).1), h.mem, fun i hi => Nat.lt_of_lt_of_le (h.low i hi) hs, h.placed, h.bits, h.tm, h.due⟩
theorem WhAt.below {S : Nat → Prop} {W M now o : Nat} {A P : List Ent} {sm : Nat → Nat} {sv : Nat → Value} {rows : Nat → List Ent} {w w' : World} (h : WhAt S W M now o A P sm sv rows w) (hb : Below w.heap.size w w') : WhAt S W M now o A P sm sv rows w' :=
  h.kept (fun b hS => hb.block b (h.low b hS)) hb.size
end Go.Proofs.YtpbknbnhljjjcaaDoor
