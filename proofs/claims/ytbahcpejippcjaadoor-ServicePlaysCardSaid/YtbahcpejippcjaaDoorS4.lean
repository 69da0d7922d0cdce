import Derived.Test.YtbahcpejippcjaaDoorS3
import Derived.Maps.OwnSet
import Derived.WideKeyEntry
import Derived.DeepKeys4
namespace Go.Proofs.YtbahcpejippcjaaDoor
open Go.RowKit Go.Shelf Go.Maps Go.WideShapes Go.ChangeMaps

def endV (p : Int) (v : Nat) (q : Int) : Value := .agg #[.int .i64 p, .int .u32 (v : Int), .int .i64 q]
theorem laidT : laidOutB Tryd.prog = true := by kernel_rfl
theorem end_keys : Keyed Tryd.prog 83 := Keyed.of_law (deep_law_laid laidT (m := 200) (by omega) (of_decide_eq_true (by kernel_rfl)) (by kernel_rfl) (by kernel_rfl))
/-- A map's reader that hands every value on as it is. -/
def heldR (v : Value) : Option (DataW Value × List MemPlace) := some (.held v, [])
/-- Block b is a map by ends of at most n entries; f says what stands where, by the keys' readings. -/
def MapE (b n : Nat) (f : Lit → Option Value) (w : World) : Prop :=
  ∃ D : DataW Value, w.ownsMap Tryd.prog 83 heldR b n D ∧ ∀ k, WideAt.IsKeyLit k → (∀ z, D.atKey k (.held z) = .held ((f k).getD z)) ∧ Maps.has D k = (f k).isSome
theorem MapE.made (w : World) : MapE w.heap.size 0 (fun _ => none) (w.alloc (.map #[] 0)) :=
  ⟨_, World.ownsMap_made w Tryd.prog 83 heldR, fun _ _ => ⟨fun _ => rfl, rfl⟩⟩
theorem MapE.lt {b n : Nat} {f : Lit → Option Value} {w : World} (h : MapE b n f w) : b < w.heap.size := by
  obtain ⟨D, h1, _⟩ := h
  exact h1.lt
theorem MapE.block {b n : Nat} {f : Lit → Option Value} {w w' : World} (h : MapE b n f w) (hb : w'.heap[b]? = w.heap[b]?) : MapE b n f w' := by
  obtain ⟨D, ⟨es, cl, h1, h2⟩, h3⟩ := h
  exact ⟨D, ⟨es, cl, hb.trans h1, h2⟩, h3⟩
theorem MapE.look_ok {b n : Nat} {f : Lit → Option Value} {w : World} (h : MapE b n f w) {t e : TypeId} (ht : Tryd.prog.underlying t = some (.map 83 e)) {z : Value} (hz : (zeroValue e).run Tryd.prog w = .ok z w) {key : Value} {kl : Lit} (hk : keyOf Tryd.prog 83 key = some kl) (hkl : WideAt.IsKeyLit kl) :
    (Instr.lookup t (.map (some b)) key true).run Tryd.prog w = .ok (.tuple #[(f kl).getD z, .bool (f kl).isSome]) w := by
  obtain ⟨D, h1, h2⟩ := h
  obtain ⟨v, ps, hrun, hv⟩ := h1.look_ok end_keys ht hz (zd := .held z) (zp := []) rfl hk
  rw [hrun, (h2 kl hkl).2]
  have e := congrArg Prod.fst (Option.some.inj hv)
  rw [(h2 kl hkl).1 z] at e
  cases e
  rfl
open Classical in
theorem MapE.store {b n : Nat} {f : Lit → Option Value} {w : World} (h : MapE b n f w) {t e : TypeId} (ht : Tryd.prog.underlying t = some (.map 83 e)) (hn : n < maxLen) {key : Value} {kl : Lit} (hk : keyOf Tryd.prog 83 key = some kl) (hkl : WideAt.IsKeyLit kl) (v : Value) :
    ∃ w', (Instr.mapUpdate t (.map (some b)) key v).run Tryd.prog w = .ok () w' ∧ MapE b (n + 1) (fun j => if j = kl then some v else f j) w' ∧ w.grownBy w' (some b) := by
  obtain ⟨D, h1, h2⟩ := h
  obtain ⟨w', hrun, h3, h4⟩ := h1.update end_keys ht hn (d := .held v) (ps := []) hk rfl
  refine ⟨w', hrun, ⟨_, h3, fun j hj => ?_⟩, h4⟩
  by_cases e : j = kl
  · subst e
    simp only [if_true]
    exact ⟨fun z => atKey_put_same h1.isMap hkl _ _, has_put_same h1.isMap hkl _⟩
  · simp only [if_neg e]
    exact ⟨fun z => by rw [atKey_put_other e]; exact (h2 j hj).1 z, by rw [has_put_other e]; exact (h2 j hj).2⟩
/-- An entry that is made and then filled is a store: for keys of every kind. -/
theorem entry_fill {P : Program} {w : World} {t k e : TypeId} {b : Nat} {es : Array MapEntry} {clock : Nat} (K : Keyed P k) (ht : P.underlying t = some (.map k e)) {z : Value} (hz : ∀ u : World, (zeroValue e).run P u = .ok z u) (hb : w.heap[b]? = some (.map es clock))
    (hkeys : ∀ x ∈ es.toList, ∃ l, keyOf P k x.key = some l) (hborn : ∀ x ∈ es.toList, x.born < clock) (hnd : (es.toList.map (·.born)).Nodup) {key : Value} {kl : Lit} (hkey : keyOf P k key = some kl) :
    ∃ (v0 : Value) (st : Nat) (es1 : Array MapEntry) (c1 : Nat), (Instr.mapEntry t (.map (some b)) key).run P w = .ok (.tuple #[v0, goInt st]) (setBlock w b (.map es1 c1)) ∧
      ∀ (w2 : World) (val : Value), w2.heap[b]? = some (.map es1 c1) → ∃ es' c', (Instr.entryStore t (.map (some b)) (goInt st) val).run P w2 = .ok () (setBlock w2 b (.map es' c')) ∧
        (Instr.mapUpdate t (.map (some b)) key val).run P w = .ok () (setBlock w b (.map es' c')) := by
  rcases K.find w hkey es.toList hkeys with ⟨h1, h2⟩ | ⟨j, x, h1, h2, h3⟩
  · refine ⟨z, clock, es.push ⟨key, z, clock⟩, clock + 1, ?_, fun w2 val hw2 => ?_⟩
    · simp [Instr.mapEntry, run_underlying ht, MapKept.run_getObj_map hb, K.check w false hkey, h1, hz, MapKept.run_setObj_map _ hb, Result.andThen, setBlock]
    · have hl : (es.push ⟨key, z, clock⟩).toList[es.size]? = some ⟨key, z, clock⟩ := by simp
      have hn : ((es.push ⟨key, z, clock⟩).toList.map (·.born)).Nodup := by
        rw [Array.toList_push, List.map_append, List.nodup_append]
        refine ⟨hnd, by simp, fun a ha c hc e1 => ?_⟩
        obtain ⟨y, hy, rfl⟩ := List.mem_map.1 ha
        have h5 := hborn y hy
        simp at hc
        omega
      have hidx := (WideElems.findIdx_arr (es.push ⟨key, z, clock⟩) (fun e => ((e.born : Nat) : Int) == ((clock : Nat) : Int))).trans (WideElems.findIdx_born hn hl)
      refine ⟨(es.push ⟨key, z, clock⟩).modify es.size (fun e => { e with val := val }), clock + 1, ?_, ?_⟩
      · simp [Instr.entryStore, MapKept.run_getObj_map hw2, asInt, asIntOf, goInt, hidx, MapKept.run_setObj_map _ hw2, Result.andThen, setBlock]
      · have hmod : (es.push ⟨key, z, clock⟩).modify es.size (fun e => { e with val := val }) = es.push ⟨key, val, clock⟩ := by
          apply Array.ext'
          rw [Array.toList_modify, Array.toList_push, Array.toList_push, ← Array.length_toList, WideElems.modify_last]
        rw [hmod]
        simp [Instr.mapUpdate, run_underlying ht, MapKept.run_getObj_map hb, K.check w false hkey, h1, MapKept.run_setObj_map _ hb, Result.andThen, setBlock]
  · have hxm : x ∈ es.toList := List.mem_of_getElem? h2
    have hxa : es[j]? = some x := by simpa using h2
    have hst : (Instr.keyThatStays x.key key).run P w = .ok key w := by rw [h3]; exact K.stays w hkey
    have hself : es.modify j (fun e => { e with key := key }) = es := by
      apply Array.ext'
      rw [Array.toList_modify]
      apply List.ext_getElem?
      intro i
      rw [List.getElem?_modify]
      by_cases e : j = i
      · subst e
        rw [h2]
        simp [← h3]
      · simp [e]
    have hidx := (WideElems.findIdx_arr es (fun e => ((e.born : Nat) : Int) == ((x.born : Nat) : Int))).trans (WideElems.findIdx_born hnd h2)
    refine ⟨x.val, x.born, es, clock, ?_, fun w2 val hw2 => ⟨es.modify j (fun e => { e with val := val }), clock, ?_, ?_⟩⟩
    · simp [Instr.mapEntry, run_underlying ht, MapKept.run_getObj_map hb, K.check w false hkey, h1, hxa, hst, hself, MapKept.run_setObj_map _ hb, Result.andThen, setBlock]
    · simp [Instr.entryStore, MapKept.run_getObj_map hw2, asInt, asIntOf, goInt, hidx, MapKept.run_setObj_map _ hw2, Result.andThen, setBlock]
    · have hm : es.modify j (fun e => { e with key := key, val := val }) = es.modify j (fun e => { e with val := val }) := by
        apply Array.ext'
        rw [Array.toList_modify, Array.toList_modify]
        apply List.ext_getElem?
        intro i
        rw [List.getElem?_modify, List.getElem?_modify]
        by_cases e : j = i
        · subst e
          rw [h2]
          simp [← h3]
        · simp [e]
      simp [Instr.mapUpdate, run_underlying ht, MapKept.run_getObj_map hb, K.check w false hkey, h1, hxa, hst, hm, MapKept.run_setObj_map _ hb, Result.andThen, setBlock]

theorem grown_setBlock {w : World} {b : Nat} {es0 : Array MapEntry} {c0 : Nat} (h : w.heap[b]? = some (.map es0 c0)) (o : Obj) : w.grownBy (setBlock w b o) (some b) :=
  ⟨rfl, rfl, rfl, by simp [setBlock], fun i _ hi => heap_setBlock_other h _ (fun e => hi (by rw [e]))⟩
open Classical in
theorem MapE.entry {b n : Nat} {f : Lit → Option Value} {w : World} (h : MapE b n f w) {t e : TypeId} (ht : Tryd.prog.underlying t = some (.map 83 e)) {z : Value} (hz : ∀ u : World, (zeroValue e).run Tryd.prog u = .ok z u) (hn : n < maxLen) {key : Value} {kl : Lit} (hk : keyOf Tryd.prog 83 key = some kl) (hkl : WideAt.IsKeyLit kl) :
    ∃ (v0 : Value) (st : Nat) (w1 : World), (Instr.mapEntry t (.map (some b)) key).run Tryd.prog w = .ok (.tuple #[v0, .int .i64 (st : Int)]) w1 ∧ w.grownBy w1 (some b) ∧
      ∀ (w2 : World) (v : Value), w2.heap[b]? = w1.heap[b]? → ∃ w3, (Instr.entryStore t (.map (some b)) (.int .i64 (st : Int)) v).run Tryd.prog w2 = .ok () w3 ∧ MapE b (n + 1) (fun j => if j = kl then some v else f j) w3 ∧ w2.grownBy w3 (some b) := by
  have h0 := h
  obtain ⟨D, ⟨es, clock, hb, F, _, _⟩, _⟩ := h0
  obtain ⟨s1, s2, _⟩ := F.stamped
  obtain ⟨v0, st, es1, c1, hrun, hfill⟩ := entry_fill end_keys ht hz hb F.keys s1 s2 hk
  refine ⟨v0, st, _, hrun, grown_setBlock hb _, fun w2 v hw2 => ?_⟩
  rw [heap_setBlock_same hb] at hw2
  obtain ⟨es', c', hr2, hr3⟩ := hfill w2 v hw2
  obtain ⟨w', hrun', hmap, _⟩ := h.store ht hn hk hkl v
  rw [hr3] at hrun'
  cases hrun'
  refine ⟨_, hr2, hmap.block ?_, grown_setBlock hw2 _⟩
  rw [heap_setBlock_same hw2, heap_setBlock_same hb]
theorem zero3 (w : World) : (zeroValue 3).run Tryd.prog w = .ok (.int .i64 0) w := by kernel_rfl
theorem ex_read : ∃ kl, keyOf Tryd.prog 83 (endV 17 167772161 53) = some kl ∧ WideAt.IsKeyLit kl := by
  cases h : keyOf Tryd.prog 83 (endV 17 167772161 53) with
  | none =>
    have : (keyOf Tryd.prog 83 (endV 17 167772161 53)).isSome = true := by kernel_rfl
    rw [h] at this
    cases this
  | some kl => exact ⟨kl, rfl, end_keys.key h⟩
end Go.Proofs.YtbahcpejippcjaaDoor
