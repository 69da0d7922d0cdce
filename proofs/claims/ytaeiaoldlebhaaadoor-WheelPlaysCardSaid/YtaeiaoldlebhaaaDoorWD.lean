import Derived.Test.YtaeiaoldlebhaaaDoorWC
namespace Go.Proofs.YtaeiaoldlebhaaaDoor
open Go.RowKit Go.Maps Go.Lib

theorem ofQ_perm_notQ {now q : Nat} : ∀ (P : List Ent), (notQ now q P ++ ofQ now q P).Perm P
  | [] => List.Perm.refl _
  | a :: P => by
    have ih := ofQ_perm_notQ (now := now) (q := q) P
    by_cases e : qOf now a.due = q
    · have e1 : ofQ now q (a :: P) = a :: ofQ now q P := by unfold ofQ; rw [List.filter_cons_of_pos (by simpa using e)]
      have e2 : notQ now q (a :: P) = notQ now q P := by unfold notQ; rw [List.filter_cons_of_neg (by simpa using e)]
      rw [e1, e2]
      exact List.perm_middle.trans ((List.perm_cons _).2 ih)
    · have e1 : ofQ now q (a :: P) = ofQ now q P := by unfold ofQ; rw [List.filter_cons_of_neg (by simpa using e)]
      have e2 : notQ now q (a :: P) = a :: notQ now q P := by unfold notQ; rw [List.filter_cons_of_pos (by simpa using e)]
      rw [e1, e2]
      exact (List.perm_cons _).2 ih
theorem nodup_bound : ∀ (n : Nat) (l : List Nat), l.Nodup → (∀ x ∈ l, x < n) → l.length ≤ n
  | 0, [], _, _ => Nat.le_refl _
  | 0, a :: l, _, h => by have := h a (List.mem_cons_self ..); omega
  | n + 1, l, hd, h => by
    have h1 := nodup_bound n (l.filter (fun x => decide (x ≠ n))) (hd.sublist List.filter_sublist) (fun x hx => by
      obtain ⟨h2, h3⟩ := List.mem_filter.1 hx
      have := h x h2
      have h3 : x ≠ n := of_decide_eq_true h3
      omega)
    have h2 : l.length ≤ (l.filter (fun x => decide (x ≠ n))).length + 1 := by
      clear h h1
      induction l with
      | nil => simp
      | cons a l ih =>
        have hd2 := List.nodup_cons.1 hd
        by_cases e : a = n
        · rw [List.filter_cons_of_neg (by simpa using e)]
          have : l.filter (fun x => decide (x ≠ n)) = l := List.filter_eq_self.2 (fun x hx => decide_eq_true (fun e2 => hd2.1 (by rw [e, ← e2]; exact hx)))
          rw [this, List.length_cons]; exact Nat.le_refl _
        · rw [List.filter_cons_of_pos (by simpa using e)]
          have := ih hd2.2
          rw [List.length_cons, List.length_cons]; omega
    omega
theorem Wh.len {now o : Nat} {l : List Ent} (h : Wh now o l) : l.length ≤ o := by
  have h1 := nodup_bound (o + 1) (0 :: l.map Ent.ord) (List.nodup_cons.2 ⟨fun hx => by
    obtain ⟨x, hx, e⟩ := List.mem_map.1 hx
    have := (h.ord x hx).1
    omega, h.ords⟩) (fun x hx => by
      rcases List.mem_cons.1 hx with rfl | hx
      · omega
      · obtain ⟨y, hy, rfl⟩ := List.mem_map.1 hx
        have := (h.ord y hy).2
        omega)
  simp at h1
  omega
section
variable {S : Nat → Prop} {W M now o : Nat} {A P : List Ent} {sm : Nat → Nat} {sv : Nat → Value} {rows : Nat → List Ent} {w : World}
theorem WhAt.perm (h : WhAt S W M now o A P sm sv rows w) {P' : List Ent} (hp : P.Perm P') : WhAt S W M now o A P' sm sv rows w :=
  ⟨h.cells, h.map, h.rws, h.mem, h.low, h.placed.perm hp, h.bits, h.tm, fun x hx => h.due x (hp.symm.subset hx)⟩
theorem WhAt.setNow (h : WhAt S W M now o A P sm sv rows w) {n : Nat} (hs : ∀ x ∈ P, qOf n x.due = qOf now x.due) (hd : ∀ x ∈ P, n ≤ x.due) (hn : n ≤ 1099511627776) : WhAt S W M n o A P sm sv rows (w.setCell ⟨W, 0, none⟩ (.int .i64 (n : Int))) := by
  have hk : ∀ i, i ≠ W → (w.setCell ⟨W, 0, none⟩ (.int .i64 (n : Int))).heap[i]? = w.heap[i]? := fun i hi => Below.heap_setCell _ _ _ _ hi
  exact ⟨wh_setNow h.cells _, h.map.block (hk M (fun e => h.mem.2.2 e.symm)), h.rws.kept (fun q b hq hv => hk b (h.rws.own q b hq hv).2.1), h.mem, fun i hi => by have := h.low i hi; simpa [World.setCell] using this, h.placed.move hs, h.bits, hn, fun x hx => ⟨hd x hx, (h.due x hx).2⟩⟩
theorem only_setNow (h : WhAt S W M now o A P sm sv rows w) (v : Value) : Only S w (w.setCell ⟨W, 0, none⟩ v) := (Only.refl S w).set (p := ⟨W, 0, none⟩) h.mem.1 v
theorem hasKey_cons_ne {x : Ent} {l : List Ent} {k : Int} (h : x.key ≠ k) : hasKey k (x :: l) = hasKey k l := by
  unfold hasKey; rw [List.find?_cons_of_neg (by simpa using h)]
theorem hasKey_cons_eq {x : Ent} {l : List Ent} : hasKey x.key (x :: l) = some x := by
  unfold hasKey; rw [List.find?_cons_of_pos (by simp)]
theorem hasKey_not {l : List Ent} {k : Int} (h : ∀ x ∈ l, x.key ≠ k) : hasKey k l = none := List.find?_eq_none.2 (fun x hx => by simpa using h x hx)
/-- The first of the armed ones is disarmed. -/
theorem WhAt.dropHead {x : Ent} {A' : List Ent} (h : WhAt S W M now o (x :: A') P sm sv rows w) (hk : ∀ y ∈ A', y.key ≠ x.key) (hw : (Lit.int .i64 x.key).wf = true) (ty : TypeId) :
    ∃ w', (Builtin.delete_ #[99, 3] ty #[.map (some M), .int .i64 x.key]).run Tryd.prog w = .ok (.tuple #[]) w' ∧ WhAt S W M now o A' P sm sv rows w' ∧ Only S w w' := by
  obtain ⟨w', c', hrun, hm, hg, hc⟩ := h.map.drop (E := kI) Tryd.underlying99 (k := x.key) hw ty
  have hkp : ∀ i, i < w.heap.size → i ≠ M → w'.heap[i]? = w.heap[i]? := fun i hi hne => hg.block i hi (by simp; exact hne)
  have e1 : armF (x :: A') x.key = some (entV x) := by unfold armF; rw [hasKey_cons_eq]; rfl
  rw [e1] at hc
  have hc' : c' = A'.length := by simp at hc; omega
  subst hc'
  refine ⟨w', hrun, ⟨(hkp W (h.low W h.mem.1) h.mem.2.2).trans h.cells, hm.ext (fun k _ => ?_), h.rws.kept (fun q b hq hv => hkp b (h.low b (h.rws.own q b hq hv).1) (h.rws.own q b hq hv).2.2), h.mem, fun i hi => Nat.lt_of_lt_of_le (h.low i hi) hg.size, h.placed, h.bits, h.tm, h.due⟩, (Only.refl S w).grown hg (fun g e _ => by cases e; exact h.mem.2.1)⟩
  by_cases e : k = x.key
  · rw [if_pos e, e]
    unfold armF
    rw [hasKey_not hk]; rfl
  · rw [if_neg e]
    unfold armF
    rw [hasKey_cons_ne (fun e2 => e e2.symm)]
end
/-- How a world stands behind part of the work: the wheel's blocks are those of S' now. -/
structure Adv (S S' : Nat → Prop) (W now o : Nat) (A P : List Ent) (w wr : World) : Prop where
  wh : ∃ M sm sv rows, WhAt S' W M now o A P sm sv rows wr
  only : Only S w wr
  sub : ∀ i, S' i → S i ∨ w.heap.size ≤ i
theorem Adv.start {S : Nat → Prop} {W M now o : Nat} {A P : List Ent} {sm : Nat → Nat} {sv : Nat → Value} {rows : Nat → List Ent} {w : World} (h : WhAt S W M now o A P sm sv rows w) : Adv S S W now o A P w w := ⟨⟨M, sm, sv, rows, h⟩, Only.refl S w, fun _ hi => .inl hi⟩
theorem Adv.below {S S' : Nat → Prop} {W now o : Nat} {A P : List Ent} {w wr w2 : World} (h : Adv S S' W now o A P w wr) (hb : Below wr.heap.size wr w2) : Adv S S' W now o A P w w2 := by
  obtain ⟨⟨M, sm, sv, rows, hw⟩, h1, h2⟩ := h
  exact ⟨⟨M, sm, sv, rows, hw.below hb⟩, h1.trans (Only.of_below (S := fun _ => False) hb) (fun _ _ hf => hf.elim), h2⟩
theorem Adv.step {S S' S2 : Nat → Prop} {W now now2 o : Nat} {A P A2 P2 : List Ent} {w wr w2 : World} (h : Adv S S' W now o A P w wr) (h2 : Adv S' S2 W now2 o A2 P2 wr w2) : Adv S S2 W now2 o A2 P2 w w2 :=
  ⟨h2.wh, h.only.trans h2.only (fun i hi hS => by rcases h.sub i hS with e | e; exact e; omega), fun i hi => by
    have hs := h.only.size
    rcases h2.sub i hi with e | e
    · exact h.sub i e
    · exact .inr (by omega)⟩
/-- A row that is none of the wheel's. -/
def Off (S : Nat → Prop) (base : Nat) (e : TypeId) (k : Nat) (v : Value) (n : Nat) (xs : List Value) (w : World) : Prop := w.ownsRow base e k v n xs ∧ ∀ g, v.ownBlock = some g → ¬ S g
theorem Off.step {S S' : Nat → Prop} {base : Nat} {e : TypeId} {k : Nat} {v : Value} {n : Nat} {xs : List Value} {w w' : World} (h : Off S base e k v n xs w) (ho : Only S w w') (hs : ∀ i, S' i → S i ∨ w.heap.size ≤ i) : Off S' base e k v n xs w' := by
  obtain ⟨h1, h2⟩ := h
  refine ⟨ownsRow_kept h1 (fun g hg => ho.block g (h1.lt g hg).2 (h2 g hg)), fun g hg hS => ?_⟩
  rcases hs g hS with e | e
  · exact h2 g hg e
  · have := (h1.lt g hg).2; omega
theorem Off.below {S : Nat → Prop} {base : Nat} {e : TypeId} {k : Nat} {v : Value} {n : Nat} {xs : List Value} {w w' : World} (h : Off S base e k v n xs w) (hb : Below w.heap.size w w') : Off S base e k v n xs w' :=
  ⟨ownsRow_kept h.1 (fun g hg => hb.block g (h.1.lt g hg).2), h.2⟩
theorem Off.nil (S : Nat → Prop) (base : Nat) (e : TypeId) (k : Nat) (w : World) : Off S base e k (.slice none 0 0) 0 [] w := ⟨World.ownsRow_nil w base e k, fun g hg => by cases hg⟩
def keysC (D : List Ent) : List Value := D.map fun x => .int .i64 x.key
theorem TabAt.kept {tab : List Nat} {w w' : World} (h : TabAt 0 tab w) (hb : w'.heap[0]? = w.heap[0]?) : TabAt 0 tab w' := fun j hj => (World.cell?_of_block hb).trans (h j hj)
end Go.Proofs.YtaeiaoldlebhaaaDoor
