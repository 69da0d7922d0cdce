import Derived.Test.YtlipkffnllmkgaaH1
import Derived.Maps.OwnSet
namespace Go.Proofs.Ytlipkffnllmkgaa
open Go.RowKit Go.Maps

/-- A map's reader that hands every value on as it is. -/
def heldR (v : Value) : Option (DataW Value × List MemPlace) := some (.held v, [])
theorem int_keys : Keyed Try.prog 3 := int_keyed Try.underlying3
theorem key_wf {k : Int} (h : (Lit.int .i64 k).wf = true) : keyOf Try.prog 3 (.int .i64 k) = some (.int .i64 k) := keyOf_int_mk Try.underlying3 h

/-- Block b is a map by integers of at most n entries; f says what stands where. -/
def MapIs (b n : Nat) (f : Int → Option Value) (w : World) : Prop :=
  ∃ D : DataW Value, w.ownsMap Try.prog 3 heldR b n D ∧ ∀ k, (Lit.int .i64 k).wf = true → (∀ z, D.atKey (.int .i64 k) (.held z) = .held ((f k).getD z)) ∧ Maps.has D (.int .i64 k) = (f k).isSome

theorem MapIs.made (w : World) : MapIs w.heap.size 0 (fun _ => none) (w.alloc (.map #[] 0)) :=
  ⟨_, World.ownsMap_made w Try.prog 3 heldR, fun _ _ => ⟨fun _ => rfl, rfl⟩⟩
theorem MapIs.mono {b n n' : Nat} {f : Int → Option Value} {w : World} (h : MapIs b n f w) (hn : n ≤ n') : MapIs b n' f w := by
  obtain ⟨D, h1, h2⟩ := h
  exact ⟨D, h1.mono hn, h2⟩
theorem MapIs.lt {b n : Nat} {f : Int → Option Value} {w : World} (h : MapIs b n f w) : b < w.heap.size := by
  obtain ⟨D, h1, _⟩ := h
  exact h1.lt
theorem MapIs.block {b n : Nat} {f : Int → Option Value} {w w' : World} (h : MapIs b n f w) (hb : w'.heap[b]? = w.heap[b]?) : MapIs b n f w' := by
  obtain ⟨D, ⟨es, cl, h1, h2⟩, h3⟩ := h
  exact ⟨D, ⟨es, cl, hb.trans h1, h2⟩, h3⟩
theorem MapIs.look {b n : Nat} {f : Int → Option Value} {w : World} (h : MapIs b n f w) {t e : TypeId} (ht : Try.prog.underlying t = some (.map 3 e)) {z : Value} (hz : (zeroValue e).run Try.prog w = .ok z w) {k : Int} (hk : (Lit.int .i64 k).wf = true) :
    (Instr.lookup t (.map (some b)) (.int .i64 k) false).run Try.prog w = .ok ((f k).getD z) w := by
  obtain ⟨D, h1, h2⟩ := h
  obtain ⟨v, ps, hrun, hv⟩ := h1.lookup int_keys ht hz (zd := .held z) (zp := []) rfl (key_wf hk)
  rw [hrun]
  have e := congrArg Prod.fst (Option.some.inj hv)
  rw [(h2 k hk).1 z] at e
  cases e
  rfl
theorem MapIs.look_ok {b n : Nat} {f : Int → Option Value} {w : World} (h : MapIs b n f w) {t e : TypeId} (ht : Try.prog.underlying t = some (.map 3 e)) {z : Value} (hz : (zeroValue e).run Try.prog w = .ok z w) {k : Int} (hk : (Lit.int .i64 k).wf = true) :
    (Instr.lookup t (.map (some b)) (.int .i64 k) true).run Try.prog w = .ok (.tuple #[(f k).getD z, .bool (f k).isSome]) w := by
  obtain ⟨D, h1, h2⟩ := h
  obtain ⟨v, ps, hrun, hv⟩ := h1.look_ok int_keys ht hz (zd := .held z) (zp := []) rfl (key_wf hk)
  rw [hrun, (h2 k hk).2]
  have e := congrArg Prod.fst (Option.some.inj hv)
  rw [(h2 k hk).1 z] at e
  cases e
  rfl
theorem lit_ne {j k : Int} (h : j ≠ k) : Lit.int .i64 j ≠ Lit.int .i64 k := fun e => h (by cases e; rfl)
theorem keyLit (k : Int) : WideAt.IsKeyLit (.int .i64 k) := by trivial
theorem MapIs.store {b n : Nat} {f : Int → Option Value} {w : World} (h : MapIs b n f w) {t e : TypeId} (ht : Try.prog.underlying t = some (.map 3 e)) (hn : n < maxLen) {k : Int} (hk : (Lit.int .i64 k).wf = true) (v : Value) :
    ∃ w', (Instr.mapUpdate t (.map (some b)) (.int .i64 k) v).run Try.prog w = .ok () w' ∧ MapIs b (n + 1) (fun j => if j = k then some v else f j) w' ∧ w.grownBy w' (some b) := by
  obtain ⟨D, h1, h2⟩ := h
  obtain ⟨w', hrun, h3, h4⟩ := h1.update int_keys ht hn (d := .held v) (ps := []) (key_wf hk) rfl
  refine ⟨w', hrun, ⟨_, h3, fun j hj => ?_⟩, h4⟩
  by_cases e : j = k
  · subst e
    simp only [if_true]
    exact ⟨fun z => atKey_put_same h1.isMap (keyLit _) _ _, has_put_same h1.isMap (keyLit _) _⟩
  · simp only [if_neg e]
    exact ⟨fun z => by rw [atKey_put_other (lit_ne e)]; exact (h2 j hj).1 z, by rw [has_put_other (lit_ne e)]; exact (h2 j hj).2⟩
theorem MapIs.drop {b n : Nat} {f : Int → Option Value} {w : World} (h : MapIs b n f w) {t e : TypeId} (ht : Try.prog.underlying t = some (.map 3 e)) {k : Int} (hk : (Lit.int .i64 k).wf = true) (ty : TypeId) :
    ∃ w', (Builtin.delete_ #[t, 3] ty #[.map (some b), .int .i64 k]).run Try.prog w = .ok (.tuple #[]) w' ∧ MapIs b n (fun j => if j = k then none else f j) w' ∧ w.grownBy w' (some b) := by
  obtain ⟨D, h1, h2⟩ := h
  obtain ⟨w', hrun, h3, h4⟩ := h1.drop int_keys ht (key_wf hk) ty
  refine ⟨w', hrun, ⟨_, h3, fun j hj => ?_⟩, h4.grown⟩
  by_cases e : j = k
  · subst e
    simp only [if_true]
    exact ⟨fun z => atKey_del_same _, has_del_same⟩
  · simp only [if_neg e]
    exact ⟨fun z => by rw [atKey_del_other (lit_ne e)]; exact (h2 j hj).1 z, by rw [has_del_other (lit_ne e)]; exact (h2 j hj).2⟩

/-- What a map tells of nobody. -/
def noMem : Value := .agg #[.int .i64 0, .int .u32 0, .int .i64 0, .int .i64 0, .int .i64 0]
theorem zero104 (w : World) : (zeroValue 77).run Try.prog w = .ok noMem w := by kernel_rfl
theorem zero3 (w : World) : (zeroValue 3).run Try.prog w = .ok (.int .i64 0) w := by kernel_rfl
end Go.Proofs.Ytlipkffnllmkgaa
