import Derived.Test.YtladjipicifplaaHK
import Derived.Test.YtladjipicifplaaE1
namespace Go.Proofs.Ytladjipicifplaa
open Go.RowKit Go.Shelf

/-- A pool, and a row of numbers from C on. -/
def PR (d : Prop) (B C Xp N : Nat) (p : Po) (sw : Value) (ws : List Nat) (w : World) : Prop := ∃ S, PoolAt B S Xp N p w ∧ (d → ∀ i, S i → i < C) ∧ (∀ g, sw.ownBlock = some g → ¬ S g) ∧ w.ownsRow C 3 1 sw ws.length (ints ws) ∧ C ≤ w.heap.size
theorem PR.start {B Xp N : Nat} {p : Po} {w : World} (h : OneP B Xp N p w) : PR True B w.heap.size Xp N p (.slice none 0 0) [] w := by
  obtain ⟨S, h⟩ := h
  exact ⟨S, h, fun _ => h.low.1, fun g hg => (by cases hg), ⟨rfl, .inl ⟨rfl, rfl⟩⟩, Nat.le_refl _⟩
theorem PR.one {d : Prop} {B C Xp N : Nat} {p : Po} {sw : Value} {ws : List Nat} {w : World} (h : PR d B C Xp N p sw ws w) : OneP B Xp N p w := by
  obtain ⟨S, h, _⟩ := h
  exact ⟨S, h⟩
theorem PR.row {d : Prop} {B C Xp N : Nat} {p : Po} {sw : Value} {ws : List Nat} {w : World} (h : PR d B C Xp N p sw ws w) : w.ownsRow C 3 1 sw ws.length (ints ws) := by
  obtain ⟨S, h, _, _, h2, _⟩ := h
  exact h2
theorem PR.size {d : Prop} {B C Xp N : Nat} {p : Po} {sw : Value} {ws : List Nat} {w : World} (h : PR d B C Xp N p sw ws w) : C ≤ w.heap.size := by
  obtain ⟨S, h, _, _, _, h2⟩ := h
  exact h2
theorem PR.below {d : Prop} {B C Xp N : Nat} {p : Po} {sw : Value} {ws : List Nat} {w w' : World} (h : PR d B C Xp N p sw ws w) (hb : Below w.heap.size w w') : PR d B C Xp N p sw ws w' := by
  obtain ⟨S, h, h1, h2, h3, h4⟩ := h
  exact ⟨S, at_below h hb, h1, h2, ownsRow_block h3 (fun g hg => hb.block g (h3.lt g hg).2), Nat.le_trans h4 hb.size⟩
theorem PR.append {B C Xp N : Nat} {p : Po} {sw : Value} {ws : List Nat} {w w' : World} (h : PR True B C Xp N p sw ws w) (hg : w.grownBy w' sw.ownBlock) (sw' : Value) (b : Nat) (hr : w'.ownsRow C 3 1 sw' (ws.length + 1) (ints ws ++ [.int .i64 (b : Int)])) : PR True B C Xp N p sw' (ws ++ [b]) w' := by
  obtain ⟨S, h, h1, h2, h3, h4⟩ := h
  refine ⟨S, h.kept (fun i hi => hg.block i (h.low.1 i hi) (fun e => h2 i e.symm hi)) hg.size, h1, fun g hgo hS => ?_, ?_, Nat.le_trans h4 hg.size⟩
  · have := (hr.lt g hgo).1
    have := h1 trivial g hS
    omega
  · simpa [ints] using hr
theorem PR.call {d : Prop} {B C Xp N N' : Nat} {p p' : Po} {sw : Value} {ws : List Nat} {w : World} (h : PR d B C Xp N p sw ws w) {f : FuncId} {args : Array Value} {R : Ending} (hc : ∀ S, PoolAt B S Xp N p w → Calls Try.prog f args w fun e w' => e = R ∧ Turned B S Xp N' p' w w') :
    Calls Try.prog f args w fun e w' => e = R ∧ PR False B C Xp N' p' sw ws w' ∧ Below B w w' := by
  obtain ⟨S, h1, _, h2, h3, h4⟩ := h
  refine (hc S h1).mono ?_
  rintro e w' ⟨he, S', g1, g2, g3⟩
  refine ⟨he, ⟨S', g1, fun f => f.elim, fun g hg hS => ?_, ownsRow_block h3 (fun g hg => g2.block g (h3.lt g hg).2 (h2 g hg)), Nat.le_trans h4 g2.size⟩, g2.below h1.low.2.2 h1.low.2.1⟩
  rcases g3 g hS with e | e
  · exact h2 g hg e
  · have := (h3.lt g hg).2; omega
theorem PR.read {d : Prop} {B C Xp N m : Nat} {R : Nat → Nat} {p : Po} {sw : Value} {w : World} (h : PR d B C Xp N p sw ((List.range m).map R) w) (i : Nat) (hi : i < m) :
    ∃ g cap, sw = .slice (some ⟨g, 0, none⟩) m cap ∧ m ≤ cap ∧ cap ≤ 9223372036854775807 ∧ w.cell? ⟨g, i, none⟩ = some (.int .i64 (R i : Int)) := by
  have h3 := h.row
  rcases h3.2 with ⟨_, h0⟩ | ⟨g, cap, cur, hv, _, _, h5, h6, _⟩
  · simp at h0; omega
  · rw [List.length_map, List.length_range] at hv h5
    refine ⟨g, cap, hv, h5, h6, ?_⟩
    have := h3.cells (g := g) (by rw [hv]; rfl) i (.int .i64 (R i : Int)) (by simp [ints, hi])
    rwa [addr_add] at this
end Go.Proofs.Ytladjipicifplaa
