import Derived.Test.YtlipkffnllmkgaaH8
import Derived.WideKeyEntry
namespace Go.Proofs.Ytlipkffnllmkgaa
open Go.RowKit Go.Shelf Go.Maps Go.WideShapes Go.ChangeMaps

/-- An entry that is made and then filled is a store: for keys of every kind. -/
theorem entry_fill {P : Program} {w : World} {t k e : TypeId} {b : Nat} {es : Array MapEntry} {clock : Nat} (K : Keyed P k) (ht : P.underlying t = some (.map k e)) {z : Value} (hz : ∀ u : World, (zeroValue e).run P u = .ok z u) (hb : w.heap[b]? = some (.map es clock))
    (hkeys : ∀ x ∈ es.toList, ∃ l, keyOf P k x.key = some l) (hborn : ∀ x ∈ es.toList, x.born < clock) (hnd : (es.toList.map (·.born)).Nodup) {key : Value} {kl : Lit} (hkey : keyOf P k key = some kl) :
    ∃ (v0 : Value) (st : Nat) (es1 : Array MapEntry) (c1 : Nat), (Instr.mapEntry t (.map (some b)) key).run P w = .ok (.tuple #[v0, goInt st]) (setBlock w b (.map es1 c1)) ∧
      ∀ (w2 : World) (val : Value), w2.heap[b]? = some (.map es1 c1) → ∃ es' c', (Instr.entryStore t (.map (some b)) (goInt st) val).run P w2 = .ok () (setBlock w2 b (.map es' c')) ∧
        (Instr.mapUpdate t (.map (some b)) key val).run P w = .ok () (setBlock w b (.map es' c')) := by
  rcases K.find w hkey es.toList hkeys with ⟨h1, h2⟩ | ⟨j, x, h1, h2, h3⟩
  · refine ⟨z, clock, es.push ⟨key, z, clock⟩, clock + 1, ?_, fun w2 val hw2 => ?_⟩
    · simp [Instr.mapEntry, run_underlying ht, MapKept.run_getObj_map hb, K.check w false hkey, h1, hz, MapKept.run_setObj_map _ hb, Result.andThen, setBlock]
    · have hl : (es.push ⟨key, z, clock⟩).toList[es.size]? = some ⟨key, z, clock⟩ := by simp
      have hn : ((es.push ⟨key, z, clock⟩).toList.map (·.born)).Nodup := by
        rw [Array.toList_push, List.map_append, List.nodup_append]
        refine ⟨hnd, by simp, fun a ha c hc e1 => ?_⟩
        obtain ⟨y, hy, rfl⟩ := List.mem_map.1 ha
        have h5 := hborn y hy
        simp at hc
        omega
      have hidx := (WideElems.findIdx_arr (es.push ⟨key, z, clock⟩) (fun e => ((e.born : Nat) : Int) == ((clock : Nat) : Int))).trans (WideElems.findIdx_born hn hl)
      refine ⟨(es.push ⟨key, z, clock⟩).modify es.size (fun e => { e with val := val }), clock + 1, ?_, ?_⟩
      · simp [Instr.entryStore, MapKept.run_getObj_map hw2, asInt, asIntOf, goInt, hidx, MapKept.run_setObj_map _ hw2, Result.andThen, setBlock]
      · have hmod : (es.push ⟨key, z, clock⟩).modify es.size (fun e => { e with val := val }) = es.push ⟨key, val, clock⟩ := by
          apply Array.ext'
          rw [Array.toList_modify, Array.toList_push, Array.toList_push, ← Array.length_toList, WideElems.modify_last]
        rw [hmod]
        simp [Instr.mapUpdate, run_underlying ht, MapKept.run_getObj_map hb, K.check w false hkey, h1, MapKept.run_setObj_map _ hb, Result.andThen, setBlock]
  · have hxm : x ∈ es.toList := List.mem_of_getElem? h2
    have hxa : es[j]? = some x := by simpa using h2
    have hst : (Instr.keyThatStays x.key key).run P w = .ok key w := by rw [h3]; exact K.stays w hkey
    have hself : es.modify j (fun e => { e with key := key }) = es := by
      apply Array.ext'
      rw [Array.toList_modify]
      apply List.ext_getElem?
      intro i
      rw [List.getElem?_modify]
      by_cases e : j = i
      · subst e
        rw [h2]
        simp [← h3]
      · simp [e]
    have hidx := (WideElems.findIdx_arr es (fun e => ((e.born : Nat) : Int) == ((x.born : Nat) : Int))).trans (WideElems.findIdx_born hnd h2)
    refine ⟨x.val, x.born, es, clock, ?_, fun w2 val hw2 => ⟨es.modify j (fun e => { e with val := val }), clock, ?_, ?_⟩⟩
    · simp [Instr.mapEntry, run_underlying ht, MapKept.run_getObj_map hb, K.check w false hkey, h1, hxa, hst, hself, MapKept.run_setObj_map _ hb, Result.andThen, setBlock]
    · simp [Instr.entryStore, MapKept.run_getObj_map hw2, asInt, asIntOf, goInt, hidx, MapKept.run_setObj_map _ hw2, Result.andThen, setBlock]
    · have hm : es.modify j (fun e => { e with key := key, val := val }) = es.modify j (fun e => { e with val := val }) := by
        apply Array.ext'
        rw [Array.toList_modify, Array.toList_modify]
        apply List.ext_getElem?
        intro i
        rw [List.getElem?_modify, List.getElem?_modify]
        by_cases e : j = i
        · subst e
          rw [h2]
          simp [← h3]
        · simp [e]
      simp [Instr.mapUpdate, run_underlying ht, MapKept.run_getObj_map hb, K.check w false hkey, h1, hxa, hst, hm, MapKept.run_setObj_map _ hb, Result.andThen, setBlock]

theorem grown_setBlock {w : World} {b : Nat} {es0 : Array MapEntry} {c0 : Nat} (h : w.heap[b]? = some (.map es0 c0)) (o : Obj) : w.grownBy (setBlock w b o) (some b) :=
  ⟨rfl, rfl, rfl, by simp [setBlock], fun i _ hi => heap_setBlock_other h _ (fun e => hi (by rw [e]))⟩
theorem MapIs.entry {b n : Nat} {f : Int → Option Value} {w : World} (h : MapIs b n f w) {t e : TypeId} (ht : Try.prog.underlying t = some (.map 3 e)) {z : Value} (hz : ∀ u : World, (zeroValue e).run Try.prog u = .ok z u) (hn : n < maxLen) {k : Int} (hk : (Lit.int .i64 k).wf = true) :
    ∃ (v0 : Value) (st : Nat) (w1 : World), (Instr.mapEntry t (.map (some b)) (.int .i64 k)).run Try.prog w = .ok (.tuple #[v0, .int .i64 (st : Int)]) w1 ∧ w.grownBy w1 (some b) ∧
      ∀ (w2 : World) (v : Value), w2.heap[b]? = w1.heap[b]? → ∃ w3, (Instr.entryStore t (.map (some b)) (.int .i64 (st : Int)) v).run Try.prog w2 = .ok () w3 ∧ MapIs b (n + 1) (fun j => if j = k then some v else f j) w3 ∧ w2.grownBy w3 (some b) := by
  have h0 := h
  obtain ⟨D, ⟨es, clock, hb, F, _, _⟩, _⟩ := h0
  obtain ⟨s1, s2, _⟩ := F.stamped
  obtain ⟨v0, st, es1, c1, hrun, hfill⟩ := entry_fill int_keys ht hz hb F.keys s1 s2 (key_wf hk)
  refine ⟨v0, st, _, hrun, grown_setBlock hb _, fun w2 v hw2 => ?_⟩
  rw [heap_setBlock_same hb] at hw2
  obtain ⟨es', c', hr2, hr3⟩ := hfill w2 v hw2
  obtain ⟨w', hrun', hmap, _⟩ := h.store ht hn hk v
  rw [hr3] at hrun'
  cases hrun'
  refine ⟨_, hr2, hmap.block ?_, grown_setBlock hw2 _⟩
  rw [heap_setBlock_same hw2, heap_setBlock_same hb]
end Go.Proofs.Ytlipkffnllmkgaa
