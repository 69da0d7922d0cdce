import Derived.Test.YtladjipicifplaaE4
import Derived.Deep.Slices
import Derived.ChangeArms
import Derived.Deep.Fields23
namespace Go.Proofs.Ytladjipicifplaa
open Go.RowKit Go.Shelf Go.ChangeShapes Go.Deep

/-- A row of deeds that came in: nil, or the first 'len' elements lie three cells each, two numbers of kind int and one of kind uint64. -/
def DeedsIn (w : World) (a : Option Addr) (len cap : Nat) : Prop :=
  (a = none ∧ len = 0 ∧ cap = 0) ∨
  ∃ x, a = some x ∧ len ≤ cap ∧ cap ≤ maxLen ∧ ∀ i, i < len → ∃ k b u : Int, w.cell? (x.add (i * 3)) = some (.int .i64 k) ∧ w.cell? (x.add (i * 3 + 1)) = some (.int .i64 b) ∧ w.cell? (x.add (i * 3 + 2)) = some (.int .u64 u) ∧ (Lit.int .i64 k).wf = true ∧ (Lit.int .i64 b).wf = true ∧ (Lit.int .u64 u).wf = true

theorem open_deeds {H : Type} {enc : TypeId × Value → H} {P : Program} {w : World} {base : Nat} {spare : Nat → Bool} {held : Bool} {t e : TypeId} {f0 f1 f2 : Field} {fuel : Nat} {a : Option Addr} {len cap : Nat} {x : DataW H × List MemPlace}
    (ht : P.underlying t = some (.slice e)) (he : P.underlying e = some (.struct #[f0, f1, f2])) (ce : P.cellsOf e = 3)
    (o : f0.offset = 0 ∧ f1.offset = 1 ∧ f2.offset = 2) (c : P.cellsOf f0.type = 1 ∧ P.cellsOf f1.type = 1 ∧ P.cellsOf f2.type = 1)
    (u0 : P.underlying f0.type = some (.int .i64)) (u1 : P.underlying f1.type = some (.int .i64)) (u2 : P.underlying f2.type = some (.int .u64))
    (h : DataW.trod enc P w base spare held fuel t [.slice a len cap] = some x) : DeedsIn w a len cap := by
  rcases open_slice ht h with ⟨h0, _⟩ | ⟨a', len', cap', m, n, D, Pl, h0, hb, hl, hm, hmm, rfl, hx⟩
  · simp at h0
    exact .inl h0
  · simp at h0
    obtain ⟨rfl, rfl, rfl⟩ := h0
    refine .inr ⟨_, rfl, hl, hm, fun i hi => ?_⟩
    obtain ⟨cs', h1, h2⟩ := hx i (by rw [hmm]; split <;> omega)
    rw [ce] at h1
    obtain ⟨_, hlen, hcell⟩ := World.cells?_some h1
    obtain ⟨xs, k, hk, hxy, _, hxl, hf⟩ := DataW.trod_struct he h2
    match xs, hxl, cs', hlen with
    | [y0, y1, y2], _, [v0, v1, v2], _ =>
      have g0 := hf 0 f0 rfl
      have g1 := hf 1 f1 rfl
      have g2 := hf 2 f2 rfl
      simp [o.1, o.2.1, o.2.2, c.1, c.2.1, c.2.2] at g0 g1 g2
      obtain ⟨k0, e0, _, w0⟩ := DataW.trod_int u0 g0
      obtain ⟨k1, e1, _, w1⟩ := DataW.trod_int u1 g1
      obtain ⟨k2, e2, _, w2⟩ := DataW.trod_int u2 g2
      cases e0; cases e1; cases e2
      have e0 := hcell 0 (by omega)
      have e1 := hcell 1 (by omega)
      have e2 := hcell 2 (by omega)
      rw [add_add] at e0 e1 e2
      exact ⟨k0, k1, k2, by simpa using e0, by simpa using e1, by simpa using e2, w0, w1, w2⟩
end Go.Proofs.Ytladjipicifplaa
