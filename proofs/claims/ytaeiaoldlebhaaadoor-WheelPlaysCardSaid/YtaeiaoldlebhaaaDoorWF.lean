import Derived.Test.YtaeiaoldlebhaaaDoorWD
namespace Go.Proofs.YtaeiaoldlebhaaaDoor
open Go.RowKit Go.Maps Go.Lib

theorem i64_wf' {x : Int} (h1 : -9223372036854775808 ≤ x) (h2 : x ≤ 9223372036854775807) : (Lit.int .i64 x).wf = true := by
  simp [Lit.wf, IntKind.min, IntKind.max, IntKind.signed, IntKind.bits]
  exact ⟨by omega, by omega⟩
/-- Where the time may go on to with nobody moved, but the first slot's. -/
theorem First.stayQ {now lv s n : Nat} {P : List Ent} (h : First now P lv s) (h1 : now ≤ n) (h2 : n ≤ fromOf now lv s) : ∀ x ∈ notQ now (lv * 64 + s) P, qOf n x.due = qOf now x.due := fun x hx => by
  obtain ⟨hx, hne⟩ := mem_notQ.1 hx
  exact h.stay h1 h2 x hx (fun a b => (hne (by unfold qOf; rw [a, b])).elim)
theorem First.stayAll {now lv s n : Nat} {P : List Ent} (h : First now P lv s) (h1 : now ≤ n) (h2 : n < fromOf now lv s) : ∀ x ∈ P, qOf n x.due = qOf now x.due := fun x hx => h.stay h1 (Nat.le_of_lt h2) x hx (fun _ _ => h2)
theorem mem_ofQ_lv {now lv s : Nat} (hs : s < 64) {P : List Ent} {x : Ent} (hx : x ∈ ofQ now (lv * 64 + s) P) : x ∈ P ∧ lvl x.due now = lv ∧ slt now x.due = s := by
  obtain ⟨h1, h2⟩ := mem_ofQ.1 hx
  have a := qOf_lv (now := now) (t := x.due)
  have b := qOf_sl (now := now) (t := x.due)
  rw [h2] at a b
  exact ⟨h1, by omega, by omega⟩
/-- All get nearer to their end where a slot of a higher level is parted. -/
theorem First.mu_down {now lv s : Nat} {P : List Ent} (h : First now P lv s) (hn : ∀ x ∈ P, now ≤ x.due) (h0 : 0 < lv) : mu (fromOf now lv s) P < mu now P := by
  have hk : ∀ x ∈ P, lvl x.due (fromOf now lv s) ≤ lvl x.due now := fun x hx => by
    by_cases e : qOf now x.due = lv * 64 + s
    · obtain ⟨_, a, b⟩ := mem_ofQ_lv h.s64 (mem_ofQ.2 ⟨hx, e⟩)
      have := h.down h0 x hx a b
      omega
    · have h1 := h.stayQ (h.ge hn) (Nat.le_refl _) x (mem_notQ.2 ⟨hx, e⟩)
      have a := qOf_lv (now := fromOf now lv s) (t := x.due)
      have b := qOf_lv (now := now) (t := x.due)
      rw [h1] at a
      omega
  obtain ⟨x, hx, a, b⟩ := h.some
  exact mu_lt hk ⟨x, hx, by have := h.down h0 x hx a b; omega⟩
/-- .. and where a slot of the lowest level is emptied. -/
theorem mu_cons (now : Nat) (x : Ent) (P : List Ent) : mu now (x :: P) = lvl x.due now + 1 + mu now P := by unfold mu; simp
theorem mu_append (now : Nat) (P Q : List Ent) : mu now (P ++ Q) = mu now P + mu now Q := by unfold mu; simp
theorem mu_pos (now : Nat) {P : List Ent} (h : P ≠ []) : 0 < mu now P := by
  cases P with
  | nil => exact (h rfl).elim
  | cons x P => rw [mu_cons]; omega
theorem First.mu_zero {now s : Nat} {P : List Ent} (h : First now P 0 s) (hn : ∀ x ∈ P, now ≤ x.due) : mu (fromOf now 0 s) (notQ now s P) < mu now P := by
  have e : 0 * 64 + s = s := by omega
  have h1 : mu (fromOf now 0 s) (notQ now s P) ≤ mu now (notQ now s P) := mu_le (fun x hx => by
    have h1 := h.stayQ (h.ge hn) (Nat.le_refl _) x (by rw [e]; exact hx)
    have a := qOf_lv (now := fromOf now 0 s) (t := x.due)
    have b := qOf_lv (now := now) (t := x.due)
    rw [h1] at a
    omega)
  have h2 : mu now P = mu now (notQ now s P) + mu now (ofQ now s P) := by
    rw [← mu_append]; exact (mu_perm (ofQ_perm_notQ P)).symm
  have h3 : ofQ now s P ≠ [] := fun e0 => by
    obtain ⟨x, hx, a, b⟩ := h.some
    have : x ∈ ofQ now s P := mem_ofQ.2 ⟨hx, by unfold qOf; rw [a, b]; omega⟩
    rw [e0] at this
    cases this
  have := mu_pos now h3
  omega
/-- Those of the lowest level's first slot are those who are due first. -/
theorem First.ofQ_due {now s : Nat} {P : List Ent} (h : First now P 0 s) (hn : ∀ x ∈ P, now ≤ x.due) : ofQ now s P = upTil (fromOf now 0 s) P := by
  have e : 0 * 64 + s = s := by omega
  unfold ofQ upTil
  refine List.filter_congr (fun x hx => ?_)
  have hle := h.le hn x hx
  by_cases hq : qOf now x.due = s
  · obtain ⟨_, a, b⟩ := mem_ofQ_lv (lv := 0) h.s64 (P := P) (x := x) (mem_ofQ.2 ⟨hx, by rw [e]; exact hq⟩)
    have h9 := h.zero x hx a b
    rw [decide_eq_true hq, decide_eq_true (by omega)]
  · have hne : ¬ x.due ≤ fromOf now 0 s := fun hle2 => by
      obtain ⟨y, hy, a, b⟩ := h.some
      have h1 := h.zero y hy a b
      have h2 : x.due = y.due := by omega
      refine hq ?_
      unfold qOf
      rw [h2, a, b]
      omega
    rw [decide_eq_false hq, decide_eq_false hne]
theorem notQ_perm_past {now s : Nat} {P L T : List Ent} (hp : P.Perm L) (hT : T.Perm (ofQ now s P)) {L' : List Ent} (hL : L = T ++ L') : (notQ now s P).Perm L' := by
  have h1 := (ofQ_perm_notQ (now := now) (q := s) P).trans hp
  rw [hL] at h1
  have h2 : (notQ now s P ++ T).Perm (T ++ L') := (List.Perm.append_left _ hT).trans h1
  exact (List.perm_append_left_iff T).1 (List.perm_append_comm.trans h2)
theorem row_at {w : World} {base g n cap : Nat} {l : List Ent} (h : w.ownsRow base 109 3 (.slice (some ⟨g, 0, none⟩) n cap) n (entsC l)) {k : Nat} {x : Ent} (hx : l[k]? = some x) :
    w.cell? ⟨g, k * 3, none⟩ = some (.int .i64 x.key) ∧ w.cell? ⟨g, k * 3 + 1, none⟩ = some (.int .i64 (x.due : Int)) ∧ w.cell? ⟨g, k * 3 + 2, none⟩ = some (.int .i64 (x.ord : Int)) := by
  obtain ⟨e0, e1, e2⟩ := entsC_at hx
  have a := h.cells (g := g) rfl _ _ e0
  have b := h.cells (g := g) rfl _ _ e1
  have c := h.cells (g := g) rfl _ _ e2
  rw [Addr.add_lit, Nat.zero_add] at a b c
  exact ⟨a, b, c⟩
theorem Adv.grown {S S' : Nat → Prop} {W now o : Nat} {A P : List Ent} {w wr w2 : World} {row : Option Nat} (h : Adv S S' W now o A P w wr) (hg : wr.grownBy w2 row) (hr : ∀ g, row = some g → ¬ S' g ∧ (g < w.heap.size → S g)) : Adv S S' W now o A P w w2 := by
  obtain ⟨⟨M, sm, sv, rows, hw⟩, h1, h2⟩ := h
  exact ⟨⟨M, sm, sv, rows, hw.kept (fun b hS => hg.block b (hw.low b hS) (fun e => (hr b e.symm).1 hS)) hg.size⟩, h1.grown hg (fun g e hl => (hr g e).2 hl), h2⟩
theorem Off.grown {S : Nat → Prop} {base : Nat} {e : TypeId} {k : Nat} {v : Value} {n : Nat} {xs : List Value} {w w2 : World} {row : Option Nat} (h : Off S base e k v n xs w) (hg : w.grownBy w2 row) (hne : ∀ g, v.ownBlock = some g → row ≠ some g) : Off S base e k v n xs w2 :=
  ⟨ownsRow_kept h.1 (fun g hv => hg.block g (h.1.lt g hv).2 (fun e => hne g hv e.symm)), h.2⟩
theorem take_snoc' {α : Type} {l : List α} {k : Nat} {x : α} (h : l[k]? = some x) : l.take (k + 1) = l.take k ++ [x] := by
  rw [List.take_add_one, h]; rfl
end Go.Proofs.YtaeiaoldlebhaaaDoor
