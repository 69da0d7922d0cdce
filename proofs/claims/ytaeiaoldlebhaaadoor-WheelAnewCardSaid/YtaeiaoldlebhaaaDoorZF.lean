import Derived.Test.YtaeiaoldlebhaaaDoorWF
import Derived.Test.YtaeiaoldlebhaaaDoorZD
namespace Go.Proofs.YtaeiaoldlebhaaaDoor.S
open Go.RowKit Go.Maps Go.Lib

theorem mem_ofQ_lv {now lv s : Nat} (hs : s < 64) {P : List Ent} {x : Ent} (hx : x ∈ ofQ now (lv * 64 + s) P) : x ∈ P ∧ lvl x.due now = lv ∧ slt now x.due = s := by
  obtain ⟨h1, h2⟩ := mem_ofQ.1 hx
  have a := qOf_lv (now := now) (t := x.due)
  have b := qOf_sl (now := now) (t := x.due)
  rw [h2] at a b
  exact ⟨h1, by omega, by omega⟩
theorem mu_cons (now : Nat) (x : Ent) (P : List Ent) : mu now (x :: P) = lvl x.due now + 1 + mu now P := by unfold mu; simp
theorem mu_append (now : Nat) (P Q : List Ent) : mu now (P ++ Q) = mu now P + mu now Q := by unfold mu; simp
theorem mu_pos (now : Nat) {P : List Ent} (h : P ≠ []) : 0 < mu now P := by
  cases P with
  | nil => exact (h rfl).elim
  | cons x P => rw [mu_cons]; omega
theorem notQ_perm_past {now s : Nat} {P L T : List Ent} (hp : P.Perm L) (hT : T.Perm (ofQ now s P)) {L' : List Ent} (hL : L = T ++ L') : (notQ now s P).Perm L' := by
  have h1 := (ofQ_perm_notQ (now := now) (q := s) P).trans hp
  rw [hL] at h1
  have h2 : (notQ now s P ++ T).Perm (T ++ L') := (List.Perm.append_left _ hT).trans h1
  exact (List.perm_append_left_iff T).1 (List.perm_append_comm.trans h2)
theorem row_at {w : World} {base g n cap : Nat} {l : List Ent} (h : w.ownsRow base 126 3 (.slice (some ⟨g, 0, none⟩) n cap) n (entsC l)) {k : Nat} {x : Ent} (hx : l[k]? = some x) :
    w.cell? ⟨g, k * 3, none⟩ = some (.string (kb x.key)) ∧ w.cell? ⟨g, k * 3 + 1, none⟩ = some (.int .i64 (x.due : Int)) ∧ w.cell? ⟨g, k * 3 + 2, none⟩ = some (.int .i64 (x.ord : Int)) := by
  obtain ⟨e0, e1, e2⟩ := entsC_at hx
  have a := h.cells (g := g) rfl _ _ e0
  have b := h.cells (g := g) rfl _ _ e1
  have c := h.cells (g := g) rfl _ _ e2
  rw [Addr.add_lit, Nat.zero_add] at a b c
  exact ⟨a, b, c⟩
theorem Adv.grown {S S' : Nat → Prop} {W now o : Nat} {A P : List Ent} {w wr w2 : World} {row : Option Nat} (h : Adv S S' W now o A P w wr) (hg : wr.grownBy w2 row) (hr : ∀ g, row = some g → ¬ S' g ∧ (g < w.heap.size → S g)) : Adv S S' W now o A P w w2 := by
  obtain ⟨⟨M, sm, sv, rows, hw⟩, h1, h2⟩ := h
  exact ⟨⟨M, sm, sv, rows, hw.kept (fun b hS => hg.block b (hw.low b hS) (fun e => (hr b e.symm).1 hS)) hg.size⟩, h1.grown hg (fun g e hl => (hr g e).2 hl), h2⟩
theorem Off.grown {S : Nat → Prop} {base : Nat} {e : TypeId} {k : Nat} {v : Value} {n : Nat} {xs : List Value} {w w2 : World} {row : Option Nat} (h : Off S base e k v n xs w) (hg : w.grownBy w2 row) (hne : ∀ g, v.ownBlock = some g → row ≠ some g) : Off S base e k v n xs w2 :=
  ⟨ownsRow_kept h.1 (fun g hv => hg.block g (h.1.lt g hv).2 (fun e => hne g hv e.symm)), h.2⟩
theorem take_snoc' {α : Type} {l : List α} {k : Nat} {x : α} (h : l[k]? = some x) : l.take (k + 1) = l.take k ++ [x] := by
  rw [List.take_add_one, h]; rfl
end Go.Proofs.YtaeiaoldlebhaaaDoor.S
