import Derived.Test.YtaeiaoldlebhaaaDoorWJ
namespace Go.Proofs.YtaeiaoldlebhaaaDoor
open Go.RowKit Go.Maps Go.Lib

/-- A wheel in memory, at rest. -/
structure Whl (S : Nat → Prop) (W now o : Nat) (L : List Ent) (w : World) : Prop where
  st : ∃ M P sm sv rows, WhAt S W M now o L P sm sv rows w ∧ P.Perm L
  wh : Wh now o L
  ob : o < 549755813888
theorem Whl.kept {S : Nat → Prop} {W now o : Nat} {L : List Ent} {w w' : World} (h : Whl S W now o L w) (hb : ∀ b, S b → w'.heap[b]? = w.heap[b]?) (hs : w.heap.size ≤ w'.heap.size) : Whl S W now o L w' := by
  obtain ⟨⟨M, P, sm, sv, rows, h1, h2⟩, h3, h4⟩ := h
  exact ⟨⟨M, P, sm, sv, rows, h1.kept hb hs, h2⟩, h3, h4⟩
theorem Whl.low {S : Nat → Prop} {W now o : Nat} {L : List Ent} {w : World} (h : Whl S W now o L w) : ∀ i, S i → i < w.heap.size := by
  obtain ⟨⟨M, P, sm, sv, rows, h1, _⟩, _⟩ := h
  exact h1.low
theorem Whl.tm {S : Nat → Prop} {W now o : Nat} {L : List Ent} {w : World} (h : Whl S W now o L w) : now ≤ 1099511627776 := by
  obtain ⟨⟨M, P, sm, sv, rows, h1, _⟩, _⟩ := h
  exact h1.tm
theorem Whl.below {S : Nat → Prop} {W now o : Nat} {L : List Ent} {w w' : World} (h : Whl S W now o L w) (hb : Below w.heap.size w w') : Whl S W now o L w' :=
  h.kept (fun b hS => hb.block b (h.low b hS)) hb.size
/-- The wheel has turned; nothing else that was there has. -/
def Trn (S : Nat → Prop) (W now o : Nat) (L : List Ent) (w w' : World) : Prop := ∃ S', Whl S' W now o L w' ∧ Only S w w' ∧ ∀ i, S' i → S i ∨ w.heap.size ≤ i
theorem Trn.of_below {S : Nat → Prop} {W now o : Nat} {L : List Ent} {w w' : World} (h : Whl S W now o L w) (hb : Below w.heap.size w w') : Trn S W now o L w w' := ⟨S, h.below hb, Only.of_below hb, fun _ hi => .inl hi⟩

def zOk (k : Nat) : Option Value → Bool
  | some (.int .i64 n) => decide (k < 2) && (n == 0)
  | some (.map none) => decide (k = 2)
  | some (.int .u64 n) => decide (3 ≤ k) && decide ((k - 3) % 65 = 0) && (n == 0)
  | some (.slice none n c) => decide (3 ≤ k) && decide ((k - 3) % 65 ≠ 0) && (n == 0) && (c == 0)
  | _ => false
theorem zero_all : ((List.range 458).all fun k => zOk k Tryd.zeroCells106[k]?) = true := by kernel_rfl
theorem zero_size : Tryd.zeroCells106.size = 458 := by kernel_rfl
theorem zero_cells (M : Nat) : Tryd.zeroCells106.setIfInBounds 2 (.map (some M)) = Array.ofFn (n := 458) fun i => wheelF 0 0 M (fun _ => 0) (fun _ => .slice none 0 0) i.val := by
  refine Array.ext (by simp) (fun k h1 h2 => ?_)
  have hk : k < 458 := by simpa using h2
  have hz : k < Tryd.zeroCells106.size := by rw [zero_size]; exact hk
  have h3 := List.all_eq_true.1 zero_all k (List.mem_range.2 hk)
  rw [Array.getElem?_eq_getElem hz] at h3
  rw [Array.getElem_ofFn, Array.getElem_setIfInBounds hz]
  unfold wheelF
  by_cases e2 : k = 2
  · subst e2; simp
  · rw [if_neg (fun e => e2 e.symm)]
    generalize Tryd.zeroCells106[k] = v at h3
    unfold zOk at h3
    split at h3
    · rename_i n e
      cases e
      simp at h3
      obtain ⟨a, rfl⟩ := h3
      rw [if_pos (show k < 3 by omega)]
      have : k = 0 ∨ k = 1 := by omega
      rcases this with rfl | rfl <;> rfl
    · rename_i e
      cases e
      simp at h3
      exact (e2 h3).elim
    · rename_i n e
      cases e
      simp at h3
      obtain ⟨⟨a, b⟩, rfl⟩ := h3
      rw [if_neg (show ¬ k < 3 by omega), if_pos b]; rfl
    · rename_i n c e
      cases e
      simp at h3
      obtain ⟨⟨⟨a, b⟩, rfl⟩, rfl⟩ := h3
      rw [if_neg (show ¬ k < 3 by omega), if_neg b]
    · cases h3
set_option maxRecDepth 100000 in
set_option maxHeartbeats 1000000 in
theorem new_whl (w : World) : Calls Tryd.prog 16 #[] w fun e w' => ∃ W S, e = .returned (.pointer (some ⟨W, 0, none⟩)) ∧ Whl S W 0 0 [] w' ∧ Below w.heap.size w w' ∧ ∀ i, S i → w.heap.size ≤ i := by
  have hmm := @run_makeMap Tryd.prog
  go_enter Tryd.func16, Tryd.ntmps16
  go_wp2_with fail
  go_ret
  have hb : Below w.heap.size w ((w.alloc (.map #[] 0)).alloc (.cells (Tryd.zeroCells106.setIfInBounds 2 (.map (some w.heap.size))) 106)) := ((Below.refl _ w).alloc (Nat.le_refl _) _).alloc (by simp) _
  have h1 := heap_alloc_new (w.alloc (.map #[] 0)) (.cells (Tryd.zeroCells106.setIfInBounds 2 (.map (some w.heap.size))) 106)
  have hs : (w.alloc (.map #[] 0)).heap.size = w.heap.size + 1 := by simp
  rw [hs] at h1
  have hm := (MapG.made kI w).block (w' := (w.alloc (.map #[] 0)).alloc (.cells (Tryd.zeroCells106.setIfInBounds 2 (.map (some w.heap.size))) 106)) (Below.heap_alloc _ _ _ (by simp))
  refine ⟨w.heap.size + 1, fun i => i = w.heap.size ∨ i = w.heap.size + 1, rfl, ⟨⟨w.heap.size, [], fun _ => 0, fun _ => .slice none 0 0, fun _ => [], ⟨?_, hm.ext (fun k _ => rfl), ⟨fun q _ => World.ownsRow_nil _ _ _ _, (fun q b _ hv => by cases hv), (fun q r b _ _ hv => by cases hv)⟩, ⟨.inr rfl, .inl rfl, by omega⟩, fun i hi => ?_, Placed.new, fun lv _ => ⟨by decide, fun s _ => by simp⟩, by omega, (fun x hx => by cases hx)⟩, List.Perm.refl _⟩, Wh.new, by omega⟩, hb, fun i hi => ?_⟩
  · rw [h1]
    exact congrArg some (congrArg (fun c => Obj.cells c 106 (0, 0)) (zero_cells w.heap.size))
  · simp; omega
  · omega
section
variable {S : Nat → Prop} {W now o : Nat} {L : List Ent} {w : World}
set_option maxHeartbeats 400000 in
theorem now_whl (h : Whl S W now o L w) : Calls Tryd.prog 21 #[.pointer (some ⟨W, 0, none⟩)] w fun e w' => e = .returned (.int .i64 (now : Int)) ∧ w' = w := by
  obtain ⟨⟨M, P, sm, sv, rows, h1, _⟩, _⟩ := h
  have c0 := wh_now h1.cells
  clear h1
  go_enter Tryd.func21, Tryd.ntmps21
  go_wp2
  go_ret
  exact ⟨rfl, rfl⟩
set_option maxHeartbeats 400000 in
theorem len_whl (h : Whl S W now o L w) : Calls Tryd.prog 19 #[.pointer (some ⟨W, 0, none⟩)] w fun e w' => e = .returned (.int .i64 (L.length : Int)) ∧ w' = w := by
  obtain ⟨⟨M, P, sm, sv, rows, h1, _⟩, _⟩ := h
  have c0 := wh_map h1.cells
  have hl := fun ty => h1.map.len Tryd.underlying99 ty
  obtain ⟨n, hn⟩ : ∃ n, L.length = n := ⟨_, rfl⟩
  rw [hn] at hl
  rw [hn]
  clear h1 hn
  go_enter Tryd.func19, Tryd.ntmps19
  go_wp2
  go_ret
  exact ⟨rfl, rfl⟩
/-- For when somebody is armed. -/
def dueV (k : Int) (L : List Ent) : Value := match hasKey k L with
  | none => .tuple #[.int .i64 0, .bool false]
  | some x => .tuple #[.int .i64 (x.due : Int), .bool true]
set_option maxRecDepth 100000 in
set_option maxHeartbeats 1000000 in
theorem due_whl (h : Whl S W now o L w) {k : Int} (hw : (Lit.int .i64 k).wf = true) : Calls Tryd.prog 26 #[.pointer (some ⟨W, 0, none⟩), .int .i64 k] w fun e w' => e = .returned (dueV k L) ∧ Below w.heap.size w w' := by
  obtain ⟨⟨M, P, sm, sv, rows, h1, _⟩, _⟩ := h
  have c0 := wh_map h1.cells
  have hq := h1.map.look_ok (E := kI) Tryd.underlying99 (zero109 w) (k := k) hw
  unfold dueV
  cases hk : hasKey k L with
  | none =>
    have e1 : armF L k = none := by unfold armF; rw [hk]; rfl
    rw [e1] at hq
    have hq : (Instr.lookup 99 (.map (some M)) (.int .i64 k) true).run Tryd.prog w = .ok (.tuple #[.agg #[.int .i64 0, .int .i64 0, .int .i64 0], .bool false]) w := hq
    clear h1 e1 hk
    go_enter Tryd.func26, Tryd.ntmps26
    go_wp2
    all_goals first | go_region | skip
    all_goals
      go_wp2
      go_ret2
      exact ⟨rfl, by first | exact (Below.refl _ _).alloc (Nat.le_refl _) _ | exact ((Below.refl _ _).alloc (Nat.le_refl _) _).drew⟩
  | some x =>
    have e1 : armF L k = some (entV x) := by unfold armF; rw [hk]; rfl
    rw [e1] at hq
    have hq : (Instr.lookup 99 (.map (some M)) (.int .i64 k) true).run Tryd.prog w = .ok (.tuple #[.agg #[.int .i64 x.key, .int .i64 (x.due : Int), .int .i64 (x.ord : Int)], .bool true]) w := hq
    clear h1 e1 hk
    go_enter Tryd.func26, Tryd.ntmps26
    go_wp2
    all_goals first | go_region | skip
    all_goals
      go_wp2
      go_ret2
      exact ⟨rfl, by first | exact (Below.refl _ _).alloc (Nat.le_refl _) _ | exact ((Below.refl _ _).alloc (Nat.le_refl _) _).drew⟩
end
end Go.Proofs.YtaeiaoldlebhaaaDoor
