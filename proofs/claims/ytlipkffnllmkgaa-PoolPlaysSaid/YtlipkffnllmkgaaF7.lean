import Derived.Test.YtlipkffnllmkgaaF6
import Derived.Test.YtlipkffnllmkgaaE4
namespace Go.Proofs.Ytlipkffnllmkgaa
open Go.RowKit Go.Shelf

theorem RefAt.kept {X gA gW gL gK base cW cL cK : Nat} {sv : Value} {a : Anc} {w w' : World} (h : RefAt X gA gW gL gK base cW cL cK sv a w) (ne : ∀ g, g ∈ [X, gA, gW, gL, gK] → w'.heap[g]? = w.heap[g]?) (hrow : ∀ g, sv.ownBlock = some g → w'.heap[g]? = w.heap[g]?) (hs : w.heap.size ≤ w'.heap.size) : RefAt X gA gW gL gK base cW cL cK sv a w' := by
  have cx : ∀ i, w'.cell? ⟨X, i, none⟩ = w.cell? ⟨X, i, none⟩ := fun i => World.cell?_of_block (w := w) (a := ⟨X, i, none⟩) (ne X (by simp))
  have zx : ∀ i, w'.frozen? ⟨X, i, none⟩ = w.frozen? ⟨X, i, none⟩ := fun i => World.frozen?_of_block (w := w) (a := ⟨X, i, none⟩) (ne X (by simp))
  exact ⟨(cx 0).trans h.f0, (cx 1).trans h.f1, (cx 2).trans h.f2, (cx 3).trans h.f3, (cx 4).trans h.f4, (cx 5).trans h.f5, by rw [zx, zx]; exact h.z, h.caps, h.cA.block (ne gA (by simp)), h.cW'.block (ne gW (by simp)), h.cL'.block (ne gL (by simp)), h.cK'.block (ne gK (by simp)), ownsRow_block h.own hrow, h.low, h.apart, Nat.le_trans h.hb hs⟩
theorem AncAt.kept' {X L base : Nat} {sv : Value} {a : Anc} {w w' : World} (h : AncAt X L base sv a w) (hX : w'.heap[X]? = w.heap[X]?) (hL : w'.heap[L]? = w.heap[L]?) (hrow : ∀ g, sv.ownBlock = some g → w'.heap[g]? = w.heap[g]?) (hs : w.heap.size ≤ w'.heap.size) : AncAt X L base sv a w' :=
  ⟨h.fields.block hX, h.places.block hL, ownsRow_block h.own hrow, h.hX, h.hL, h.hXL, Nat.le_trans h.hb hs⟩

/-- The program's anchor and the reference's, all blocks apart. -/
structure PairAt (X L base Y gA gW gL gK rbase cW cL cK : Nat) (sv rsv : Value) (a a2 : Anc) (w : World) : Prop where
  m : AncAt X L base sv a w
  r : RefAt Y gA gW gL gK rbase cW cL cK rsv a2 w
  xs : X ∉ [Y, gA, gW, gL, gK] ∧ L ∉ [Y, gA, gW, gL, gK]
  ms : ∀ g, sv.ownBlock = some g → g ∉ [Y, gA, gW, gL, gK]
  rs : ∀ g, rsv.ownBlock = some g → g ≠ X ∧ g ≠ L
  ss : ∀ g, sv.ownBlock = some g → rsv.ownBlock ≠ some g

theorem PairAt.below {X L base Y gA gW gL gK rbase cW cL cK : Nat} {sv rsv : Value} {a a2 : Anc} {w w' : World} (h : PairAt X L base Y gA gW gL gK rbase cW cL cK sv rsv a a2 w) (hb : Below w.heap.size w w') : PairAt X L base Y gA gW gL gK rbase cW cL cK sv rsv a a2 w' := by
  have hlow := h.r.low
  have hrb := h.r.hb
  refine ⟨h.m.below hb, h.r.kept (fun g hg => hb.block g ?_) (fun g hg => hb.block g (h.r.own.lt g hg).2) hb.size, h.xs, h.ms, h.rs, h.ss⟩
  simp only [List.mem_cons, List.not_mem_nil, or_false] at hg
  omega
theorem PairAt.main {X L base Y gA gW gL gK rbase cW cL cK : Nat} {sv sv' rsv : Value} {a a' a2 : Anc} {w w' : World} (h : PairAt X L base Y gA gW gL gK rbase cW cL cK sv rsv a a2 w) (hA : AncAt X L base sv' a' w') (hM : Moves X L sv.ownBlock w w') (hb : sv'.ownBlock = sv.ownBlock ∨ ∃ g, sv'.ownBlock = some g ∧ w.heap.size ≤ g) : PairAt X L base Y gA gW gL gK rbase cW cL cK sv' rsv a' a2 w' := by
  have hlow := h.r.low
  have hrb := h.r.hb
  have lt : ∀ g, g ∈ [Y, gA, gW, gL, gK] → g < w.heap.size := by
    intro g hg
    simp only [List.mem_cons, List.not_mem_nil, or_false] at hg
    omega
  refine ⟨hA, h.r.kept (fun g hg => hM.block g (lt g hg) (fun e => h.xs.1 (e ▸ hg)) (fun e => h.xs.2 (e ▸ hg)) (fun e => h.ms g e.symm hg)) (fun g hg => hM.block g (h.r.own.lt g hg).2 (h.rs g hg).1 (h.rs g hg).2 (fun e => h.ss g e.symm hg)) hM.size, h.xs, ?_, h.rs, ?_⟩
  · intro g hg hm
    rcases hb with e | ⟨g2, e, hge⟩
    · exact h.ms g (e.symm.trans hg) hm
    · rw [e] at hg
      cases hg
      have := lt g hm
      omega
  · intro g hg h2
    rcases hb with e | ⟨g2, e, hge⟩
    · exact h.ss g (e.symm.trans hg) h2
    · rw [e] at hg
      cases hg
      have := (h.r.own.lt g h2).2
      omega
theorem PairAt.ref {X L base Y gA gW gL gK rbase cW cL cK : Nat} {sv rsv rsv' : Value} {a a2 a2' : Anc} {w w' : World} (h : PairAt X L base Y gA gW gL gK rbase cW cL cK sv rsv a a2 w) (hR : RefAt Y gA gW gL gK rbase cW cL cK rsv' a2' w') (hM : MovesR [Y, gA, gW, gL, gK] rsv.ownBlock w w') (hb : rsv'.ownBlock = rsv.ownBlock ∨ ∃ g, rsv'.ownBlock = some g ∧ w.heap.size ≤ g) : PairAt X L base Y gA gW gL gK rbase cW cL cK sv rsv' a a2' w' := by
  have hX := h.m.hX
  have hL := h.m.hL
  have hmb := h.m.hb
  refine ⟨h.m.kept' (hM.block X (by omega) h.xs.1 (fun e => (h.rs X e.symm).1 rfl)) (hM.block L (by omega) h.xs.2 (fun e => (h.rs L e.symm).2 rfl)) (fun g hg => hM.block g (h.m.own.lt g hg).2 (h.ms g hg) (fun e => h.ss g hg e.symm)) hM.size, hR, h.xs, h.ms, ?_, ?_⟩
  · intro g hg
    rcases hb with e | ⟨g2, e, hge⟩
    · exact h.rs g (e.symm.trans hg)
    · rw [e] at hg
      cases hg
      exact ⟨by omega, by omega⟩
  · intro g hg h2
    rcases hb with e | ⟨g2, e, hge⟩
    · exact h.ss g hg (e.symm.trans h2)
    · rw [e] at h2
      cases h2
      have := (h.m.own.lt g hg).2
      omega
end Go.Proofs.Ytlipkffnllmkgaa
