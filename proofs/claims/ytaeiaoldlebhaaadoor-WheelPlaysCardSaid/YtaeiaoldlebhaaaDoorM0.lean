import Derived.Maps.OwnSet
import Derived.WalkKit
namespace Go.Proofs.YtaeiaoldlebhaaaDoor
open Go.RowKit Go.Maps

/-- A map's reader that hands every value on as it is. -/
def heldR (v : Value) : Option (DataW Value × List MemPlace) := some (.held v, [])
/-- Keys of a kind, as values and as literals. -/
structure KeyEmb (P : Program) (kt : TypeId) (κ : Type) where
  kv : κ → Value
  kl : κ → Lit
  ok : κ → Prop
  keyed : Keyed P kt
  key : ∀ {a}, ok a → keyOf P kt (kv a) = some (kl a)
  inj : ∀ {a b}, ok a → ok b → kl a = kl b → a = b
  lit : ∀ {a}, ok a → WideAt.IsKeyLit (kl a)
section
variable {P : Program} {kt : TypeId} {κ : Type} (E : KeyEmb P kt κ)
/-- Block b is a map of c entries; f says what stands where. -/
def MapG (b c : Nat) (f : κ → Option Value) (w : World) : Prop :=
  ∃ D : DataW Value, w.ownsMap P kt heldR b c D ∧ Maps.size D = c ∧ ∀ k, E.ok k → (∀ z, D.atKey (E.kl k) (.held z) = .held ((f k).getD z)) ∧ Maps.has D (E.kl k) = (f k).isSome
variable {E} {b c : Nat} {f : κ → Option Value} {w : World}
theorem own_tight {n : Nat} {D : DataW Value} (h : w.ownsMap P kt heldR b n D) : w.ownsMap P kt heldR b (Maps.size D) D := by
  obtain ⟨es, clock, hb, F, _, rfl⟩ := h
  have e1 : Maps.size (DataW.map ((es.toList.map (WideElems.rg P kt heldR)).foldr DataW.insert [])) = es.size := by simp [Maps.size, length_sorted]
  exact ⟨es, clock, hb, F, by rw [e1]; exact Nat.le_refl _, rfl⟩
theorem MapG.made (E : KeyEmb P kt κ) (w : World) : MapG E w.heap.size 0 (fun _ => none) (w.alloc (.map #[] 0)) :=
  ⟨_, World.ownsMap_made w P kt heldR, rfl, fun _ _ => ⟨fun _ => rfl, rfl⟩⟩
theorem MapG.lt (h : MapG E b c f w) : b < w.heap.size := by
  obtain ⟨D, h1, _⟩ := h
  exact h1.lt
theorem MapG.block {w' : World} (h : MapG E b c f w) (hb : w'.heap[b]? = w.heap[b]?) : MapG E b c f w' := by
  obtain ⟨D, ⟨es, cl, h1, h2⟩, h3⟩ := h
  exact ⟨D, ⟨es, cl, hb.trans h1, h2⟩, h3⟩
theorem MapG.ext {g : κ → Option Value} (h : MapG E b c f w) (he : ∀ k, E.ok k → f k = g k) : MapG E b c g w := by
  obtain ⟨D, h1, h2, h3⟩ := h
  exact ⟨D, h1, h2, fun k hk => by rw [← he k hk]; exact h3 k hk⟩
theorem MapG.look (h : MapG E b c f w) {t e : TypeId} (ht : P.underlying t = some (.map kt e)) {z : Value} (hz : (zeroValue e).run P w = .ok z w) {k : κ} (hk : E.ok k) :
    (Instr.lookup t (.map (some b)) (E.kv k) false).run P w = .ok ((f k).getD z) w := by
  obtain ⟨D, h1, _, h2⟩ := h
  obtain ⟨v, ps, hrun, hv⟩ := h1.lookup E.keyed ht hz (zd := .held z) (zp := []) rfl (E.key hk)
  rw [hrun]
  have e := congrArg Prod.fst (Option.some.inj hv)
  rw [(h2 k hk).1 z] at e
  cases e
  rfl
theorem MapG.look_ok (h : MapG E b c f w) {t e : TypeId} (ht : P.underlying t = some (.map kt e)) {z : Value} (hz : (zeroValue e).run P w = .ok z w) {k : κ} (hk : E.ok k) :
    (Instr.lookup t (.map (some b)) (E.kv k) true).run P w = .ok (.tuple #[(f k).getD z, .bool (f k).isSome]) w := by
  obtain ⟨D, h1, _, h2⟩ := h
  obtain ⟨v, ps, hrun, hv⟩ := h1.look_ok E.keyed ht hz (zd := .held z) (zp := []) rfl (E.key hk)
  rw [hrun, (h2 k hk).2]
  have e := congrArg Prod.fst (Option.some.inj hv)
  rw [(h2 k hk).1 z] at e
  cases e
  rfl
theorem MapG.len (h : MapG E b c f w) {t e : TypeId} (ht : P.underlying t = some (.map kt e)) (ty : TypeId) : (Builtin.len_ #[t] ty #[.map (some b)]).run P w = .ok (.int .i64 (c : Int)) w := by
  obtain ⟨D, h1, h2, _⟩ := h
  rw [h1.len ht ty, h2]
theorem MapG.store [DecidableEq κ] (h : MapG E b c f w) {t e : TypeId} (ht : P.underlying t = some (.map kt e)) (hn : c < maxLen) {k : κ} (hk : E.ok k) (v : Value) :
    ∃ w', (Instr.mapUpdate t (.map (some b)) (E.kv k) v).run P w = .ok () w' ∧ MapG E b (if (f k).isSome then c else c + 1) (fun j => if j = k then some v else f j) w' ∧ w.grownBy w' (some b) := by
  obtain ⟨D, h1, hc, h2⟩ := h
  obtain ⟨w', hrun, h3, h4⟩ := h1.update E.keyed ht hn (d := .held v) (ps := []) (E.key hk) rfl
  have hsz : Maps.size (D.put (E.kl k) (.held v)) = if (f k).isSome then c else c + 1 := by
    rw [size_put (h1.tidy E.keyed), (h2 k hk).2, hc]
  have h5 := own_tight h3
  rw [hsz] at h5
  refine ⟨w', hrun, ⟨_, h5, hsz, fun j hj => ?_⟩, h4⟩
  by_cases e : j = k
  · subst e
    simp only [if_true]
    exact ⟨fun z => atKey_put_same h1.isMap (E.lit hk) _ _, has_put_same h1.isMap (E.lit hk) _⟩
  · simp only [if_neg e]
    have hne : E.kl j ≠ E.kl k := fun e2 => e (E.inj hj hk e2)
    exact ⟨fun z => by rw [atKey_put_other hne]; exact (h2 j hj).1 z, by rw [has_put_other hne]; exact (h2 j hj).2⟩
theorem MapG.drop [DecidableEq κ] (h : MapG E b c f w) {t e : TypeId} (ht : P.underlying t = some (.map kt e)) {k : κ} (hk : E.ok k) (ty : TypeId) :
    ∃ w' c', (Builtin.delete_ #[t, kt] ty #[.map (some b), E.kv k]).run P w = .ok (.tuple #[]) w' ∧ MapG E b c' (fun j => if j = k then none else f j) w' ∧ w.grownBy w' (some b) ∧ c' + (if (f k).isSome then 1 else 0) = c := by
  obtain ⟨D, h1, hc, h2⟩ := h
  obtain ⟨w', hrun, h3, h4⟩ := h1.drop E.keyed ht (E.key hk) ty
  have hsz := size_del (k := E.kl k) (h1.tidy E.keyed)
  rw [(h2 k hk).2, hc] at hsz
  refine ⟨w', _, hrun, ⟨_, own_tight h3, rfl, fun j hj => ?_⟩, h4.grown, hsz⟩
  by_cases e : j = k
  · subst e
    simp only [if_true]
    exact ⟨fun z => atKey_del_same _, has_del_same⟩
  · simp only [if_neg e]
    have hne : E.kl j ≠ E.kl k := fun e2 => e (E.inj hj hk e2)
    exact ⟨fun z => by rw [atKey_del_other hne]; exact (h2 j hj).1 z, by rw [has_del_other hne]; exact (h2 j hj).2⟩
end
/-- Integers as keys. -/
def intEmb {P : Program} {kt : TypeId} (hu : P.underlying kt = some (.int .i64)) : KeyEmb P kt Int :=
  ⟨fun k => .int .i64 k, fun k => .int .i64 k, fun k => (Lit.int .i64 k).wf = true, int_keyed hu, fun h => keyOf_int_mk hu h, fun _ _ e => by cases e; rfl, fun _ => trivial⟩
end Go.Proofs.YtaeiaoldlebhaaaDoor
