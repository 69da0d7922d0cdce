import Derived.Test.YtaeiaoldlebhaaaDoorWH
namespace Go.Proofs.YtaeiaoldlebhaaaDoor
open Go.RowKit Go.Maps Go.Lib

/-- One slot gets a new row. -/
theorem slot_put {S : Nat → Prop} {W M now o : Nat} {A P P' : List Ent} {sm sm' : Nat → Nat} {sv : Nat → Value} {rows : Nat → List Ent} {w w4 w6 : World} {v : Value} {q : Nat} {xs : List Ent} (h : WhAt S W M now o A P sm sv rows w) (hb : Below w.heap.size w w4) (hown : w4.ownsRow w.heap.size 109 3 v xs.length (entsC xs))
    (hW : w6.heap[W]? = some (wheelObj 106 now o M sm' (updF sv q v))) (h6 : ∀ i, i ≠ W → w6.heap[i]? = w4.heap[i]?) (hs6 : w6.heap.size = w4.heap.size) (ho6 : w6.os = w4.os ∧ w6.tape = w4.tape ∧ w6.output = w4.output) (hP : Placed now (updF rows q xs) P') (hsub : ∀ x ∈ P', x ∈ P) (hbit : SomeOk sm' (updF rows q xs)) :
    ∃ S', WhAt S' W M now o A P' sm' (updF sv q v) (updF rows q xs) w6 ∧ Only S w w6 ∧ ∀ i, S' i → S i ∨ w.heap.size ≤ i := by
  have hsz := hb.size
  have hWl := h.low W h.mem.1
  have hMl := h.low M h.mem.2.1
  have k1 : ∀ i, i < w.heap.size → i ≠ W → w6.heap[i]? = w.heap[i]? := fun i hi hne => (h6 i hne).trans (hb.block i hi)
  have hrows := (h.rws.mono (T := fun i => S i ∨ (w.heap.size ≤ i ∧ i < w4.heap.size)) (fun i hi => .inl hi)).put (q := q) (xs := xs) (v := v) (w' := w4) (ownsRow_base hown (Nat.zero_le _))
    (fun r b hr hne hv => hb.block b (h.low b (h.rws.own r b hr hv).1))
    (fun b hv => by
      obtain ⟨h1, h2⟩ := hown.lt b hv
      refine ⟨⟨.inr ⟨h1, h2⟩, by omega, by omega⟩, fun r hr hne hv2 => ?_⟩
      have := h.low b (h.rws.own r b hr hv2).1
      omega)
  refine ⟨fun i => S i ∨ (w.heap.size ≤ i ∧ i < w4.heap.size), ⟨hW, h.map.block (k1 M hMl (fun e => h.mem.2.2 e.symm)), hrows.kept (fun r b hr hv => h6 b (hrows.own r b hr hv).2.1), ⟨.inl h.mem.1, .inl h.mem.2.1, h.mem.2.2⟩, fun i hi => ?_, hP, hbit, h.tm, fun x hx => h.due x (hsub x hx)⟩, ⟨ho6.1.trans hb.os, ho6.2.1.trans hb.tape, ho6.2.2.trans hb.output, by rw [hs6]; exact hsz, fun i hi hn => k1 i hi (fun e => hn (e ▸ h.mem.1))⟩, fun i hi => ?_⟩
  · rw [hs6]
    rcases hi with hi | hi
    · have := h.low i hi; omega
    · exact hi.2
  · rcases hi with hi | hi
    · exact .inl hi
    · exact .inr hi.1
/-- Somebody is disarmed. -/
theorem WhAt.dropKey {S : Nat → Prop} {W M now o : Nat} {A P : List Ent} {sm : Nat → Nat} {sv : Nat → Value} {rows : Nat → List Ent} {w : World} {k : Int} (h : WhAt S W M now o A P sm sv rows w) (hk : (A.map Ent.key).Nodup) {x : Ent} (hx : hasKey k A = some x) (hw : (Lit.int .i64 k).wf = true) (ty : TypeId) :
    ∃ w', (Builtin.delete_ #[99, 3] ty #[.map (some M), .int .i64 k]).run Tryd.prog w = .ok (.tuple #[]) w' ∧ WhAt S W M now o (without k A) P sm sv rows w' ∧ Only S w w' := by
  obtain ⟨w', c', hrun, hm, hg, hc⟩ := h.map.drop (E := kI) Tryd.underlying99 (k := k) hw ty
  have hkp : ∀ i, i < w.heap.size → i ≠ M → w'.heap[i]? = w.heap[i]? := fun i hi hne => hg.block i hi (by simp; exact hne)
  have e1 : armF A k = some (entV x) := by unfold armF; rw [hx]; rfl
  rw [e1] at hc
  obtain ⟨hxA, hxk⟩ := hasKey_some hx
  have hlen : (without k A).length + 1 = A.length := by
    obtain ⟨A1, A2, rfl⟩ := List.append_of_mem hxA
    rw [List.map_append, List.map_cons, List.nodup_append] at hk
    obtain ⟨_, hk2, hk3⟩ := hk
    have hk4 := (List.nodup_cons.1 hk2).1
    unfold without
    rw [List.filter_append, List.filter_cons_of_neg (by simpa using hxk)]
    have f1 : A1.filter (fun x : Ent => decide (x.key ≠ k)) = A1 := List.filter_eq_self.2 (fun y hy => decide_eq_true (fun e => hk3 y.key (List.mem_map_of_mem hy) x.key (List.mem_cons_self ..) (e.trans hxk.symm)))
    have f2 : A2.filter (fun x : Ent => decide (x.key ≠ k)) = A2 := List.filter_eq_self.2 (fun y hy => decide_eq_true (fun e => hk4 (by rw [hxk, ← e]; exact List.mem_map_of_mem hy)))
    rw [f1, f2]
    simp; omega
  have hc' : c' = (without k A).length := by simp at hc; omega
  subst hc'
  refine ⟨w', hrun, ⟨(hkp W (h.low W h.mem.1) h.mem.2.2).trans h.cells, hm.ext (fun j _ => ?_), h.rws.kept (fun q b hq hv => hkp b (h.low b (h.rws.own q b hq hv).1) (h.rws.own q b hq hv).2.2), h.mem, fun i hi => Nat.lt_of_lt_of_le (h.low i hi) hg.size, h.placed, h.bits, h.tm, h.due⟩, (Only.refl S w).grown hg (fun g e _ => by cases e; exact h.mem.2.1)⟩
  by_cases e : j = k
  · subst e
    rw [if_pos rfl]
    unfold armF
    rw [hasKey_not (fun y hy => (mem_without.1 hy).2)]; rfl
  · rw [if_neg e]
    show (hasKey j A).map entV = (hasKey j (without k A)).map entV
    refine congrArg (Option.map entV) ?_
    have hk2 : ((without k A).map Ent.key).Nodup := hk.sublist (List.Sublist.map _ List.filter_sublist)
    cases hj : hasKey j A with
    | none => exact (hasKey_not (fun y hy => hasKey_none hj y (mem_without.1 hy).1)).symm
    | some y =>
      obtain ⟨h1, h2⟩ := hasKey_some hj
      exact (hasKey_of hk2 (mem_without.2 ⟨h1, by rw [h2]; exact e⟩) h2).symm
theorem zero109v (w : World) : (zeroValue 109).run Tryd.prog w = .ok (.agg #[.int .i64 0, .int .i64 0, .int .i64 0]) w := zero109 w
set_option maxRecDepth 100000 in
set_option maxHeartbeats 1000000 in
theorem cancel_none {S : Nat → Prop} {W M now o : Nat} {A P : List Ent} {sm : Nat → Nat} {sv : Nat → Value} {rows : Nat → List Ent} {w : World} (h : WhAt S W M now o A P sm sv rows w) {k : Int} (hw : (Lit.int .i64 k).wf = true) (hk : hasKey k A = none) :
    Calls Tryd.prog 43 #[.pointer (some ⟨W, 0, none⟩), .int .i64 k] w fun e w' => e = .returned (.bool false) ∧ Below w.heap.size w w' := by
  have c0 := wh_map h.cells
  have hq := h.map.look_ok (E := kI) Tryd.underlying99 (zero109 w) (k := k) hw
  have e1 : armF A k = none := by unfold armF; rw [hk]; rfl
  rw [e1] at hq
  simp only [Option.getD_none, Option.isSome_none] at hq
  have hq : (Instr.lookup 99 (.map (some M)) (.int .i64 k) true).run Tryd.prog w = .ok (.tuple #[.agg #[.int .i64 0, .int .i64 0, .int .i64 0], .bool false]) w := hq
  clear h hk e1
  go_enter Tryd.func43, Tryd.ntmps43
  go_wp2_with fail
  go_ret
  exact ⟨rfl, (Below.refl _ _).alloc (Nat.le_refl _) _⟩
end Go.Proofs.YtaeiaoldlebhaaaDoor
