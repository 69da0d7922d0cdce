import Derived.Test.YtaeiaoldlebhaaaDoorX2
namespace Go.Proofs.YtaeiaoldlebhaaaDoor
open Go.RowKit Go.Maps Go.Lib

/-- Two wheels side by side; the blocks of G are neither's. -/
def TwoW (B W1 W2 n1 n2 o1 o2 : Nat) (L1 L2 : List Ent) (G : List Nat) (w : World) : Prop :=
  ∃ S1 S2, Whl S1 W1 n1 o1 L1 w ∧ Whl S2 W2 n2 o2 L2 w ∧ (∀ i, S1 i → B ≤ i ∧ ¬ S2 i) ∧ (∀ i, S2 i → B ≤ i) ∧ (∀ i ∈ G, ¬ S1 i ∧ ¬ S2 i ∧ i < w.heap.size)
theorem Whl.inn {S : Nat → Prop} {W now o : Nat} {L : List Ent} {w : World} (h : Whl S W now o L w) : ∀ i, S i → i < w.heap.size := h.low
section
variable {B W1 W2 n1 n2 o1 o2 : Nat} {L1 L2 : List Ent} {G : List Nat} {w : World}
theorem TwoW.swap (h : TwoW B W1 W2 n1 n2 o1 o2 L1 L2 G w) : TwoW B W2 W1 n2 n1 o2 o1 L2 L1 G w := by
  obtain ⟨S1, S2, h1, h2, h3, h4, h5⟩ := h
  exact ⟨S2, S1, h2, h1, fun i hi => ⟨h4 i hi, fun hS => (h3 i hS).2 hi⟩, fun i hi => (h3 i hi).1, fun i hi => ⟨(h5 i hi).2.1, (h5 i hi).1, (h5 i hi).2.2⟩⟩
theorem TwoW.size (h : TwoW B W1 W2 n1 n2 o1 o2 L1 L2 G w) : B ≤ w.heap.size ∧ Wh n1 o1 L1 ∧ n1 ≤ 1099511627776 := by
  obtain ⟨S1, S2, h1, h2, h3, h4, h5⟩ := h
  have k : OneW B W1 n1 o1 L1 [] w := ⟨S1, h1, fun i hi => (h3 i hi).1, fun i hi => by cases hi⟩
  exact ⟨k.size.1, k.size.2.2, k.size.2.1⟩
theorem TwoW.kept {w' : World} {row : Option Nat} (h : TwoW B W1 W2 n1 n2 o1 o2 L1 L2 G w) (hg : w.grownBy w' row) (hr : ∀ g, row = some g → g ∈ G) : TwoW B W1 W2 n1 n2 o1 o2 L1 L2 G w' := by
  obtain ⟨S1, S2, h1, h2, h3, h4, h5⟩ := h
  exact ⟨S1, S2, h1.kept (fun b hb => hg.block b (h1.low b hb) (fun e => (h5 b (hr b e.symm)).1 hb)) hg.size, h2.kept (fun b hb => hg.block b (h2.low b hb) (fun e => (h5 b (hr b e.symm)).2.1 hb)) hg.size, h3, h4, fun i hi => ⟨(h5 i hi).1, (h5 i hi).2.1, Nat.lt_of_lt_of_le (h5 i hi).2.2 hg.size⟩⟩
theorem TwoW.below {w' : World} (h : TwoW B W1 W2 n1 n2 o1 o2 L1 L2 G w) (hb : Below w.heap.size w w') : TwoW B W1 W2 n1 n2 o1 o2 L1 L2 G w' := by
  obtain ⟨S1, S2, h1, h2, h3, h4, h5⟩ := h
  exact ⟨S1, S2, h1.below hb, h2.below hb, h3, h4, fun i hi => ⟨(h5 i hi).1, (h5 i hi).2.1, Nat.lt_of_lt_of_le (h5 i hi).2.2 hb.size⟩⟩
/-- A new row's block is neither's. -/
theorem TwoW.newRow {w' : World} (h : TwoW B W1 W2 n1 n2 o1 o2 L1 L2 G w) (hb : Below w.heap.size w w') {base e k n : Nat} {v : Value} {xs : List Value} (hv : w'.ownsRow base e k v n xs) (hbase : w.heap.size ≤ base) : TwoW B W1 W2 n1 n2 o1 o2 L1 L2 (v.ownBlock.toList ++ G) w' := by
  have h' := h.below hb
  obtain ⟨S1, S2, h1, h2, h3, h4, h5⟩ := h
  refine ⟨S1, S2, h1.below hb, h2.below hb, h3, h4, fun i hi => ?_⟩
  rcases List.mem_append.1 hi with hi | hi
  · rw [Option.mem_toList] at hi
    have hl := hv.lt i hi
    exact ⟨fun hS => by have := h1.low i hS; omega, fun hS => by have := h2.low i hS; omega, hl.2⟩
  · exact ⟨(h5 i hi).1, (h5 i hi).2.1, Nat.lt_of_lt_of_le (h5 i hi).2.2 hb.size⟩
theorem two_new {now o : Nat} {L : List Ent} (h : OneW B W1 now o L [] w) : Calls Tryd.prog 16 #[] w fun e w' => ∃ W, e = .returned (.pointer (some ⟨W, 0, none⟩)) ∧ TwoW B W1 W now 0 o 0 L [] [] w' ∧ Below w.heap.size w w' := by
  have hs := h.size.1
  obtain ⟨S1, k1, k2, k3⟩ := h
  refine (new_whl w).mono ?_
  rintro e w' ⟨W, S, he, h1, hb, h2⟩
  exact ⟨W, he, ⟨S1, S, k1.below hb, h1, fun i hi => ⟨k2 i hi, fun hS => by have := h2 i hS; have := k1.low i hi; omega⟩, fun i hi => by have := h2 i hi; omega, fun i hi => by cases hi⟩, hb⟩
theorem TwoW.trn {now' o' : Nat} {L' : List Ent} {S1 S2 S' : Nat → Prop} {w' : World} (hs : B ≤ w.heap.size) (_h1 : ∀ i, S1 i → i < w.heap.size) (h2 : Whl S2 W2 n2 o2 L2 w) (h3 : ∀ i, S1 i → B ≤ i ∧ ¬ S2 i) (h4 : ∀ i, S2 i → B ≤ i) (h5 : ∀ i ∈ G, ¬ S1 i ∧ ¬ S2 i ∧ i < w.heap.size) (k1 : Whl S' W1 now' o' L' w') (k2 : Only S1 w w') (k3 : ∀ i, S' i → S1 i ∨ w.heap.size ≤ i) :
    (∀ G', (∀ g ∈ G', g ∈ G ∨ (¬ S' g ∧ w.heap.size ≤ g ∧ g < w'.heap.size)) → TwoW B W1 W2 now' n2 o' o2 L' L2 G' w') ∧ Below B w w' ∧ ∀ i ∈ G, w'.heap[i]? = w.heap[i]? := by
  refine ⟨fun G' hG => ⟨S', S2, k1, h2.kept (fun b hb => k2.block b (h2.low b hb) (fun hS => (h3 b hS).2 hb)) k2.size, fun i hi => ?_, h4, fun g hg => ?_⟩, k2.below hs (fun i hi => (h3 i hi).1), fun i hi => k2.block i (h5 i hi).2.2 (h5 i hi).1⟩
  · rcases k3 i hi with e | e
    · exact h3 i e
    · exact ⟨by omega, fun hS => by have := h2.low i hS; omega⟩
  · rcases hG g hg with e | ⟨e1, e2, e3⟩
    · have h6 := h5 g e
      refine ⟨fun hS => ?_, h6.2.1, Nat.lt_of_lt_of_le h6.2.2 k2.size⟩
      rcases k3 g hS with e | e
      · exact h6.1 e
      · omega
    · exact ⟨e1, fun hS => by have := h2.low g hS; omega, e3⟩
theorem two_arm (h : TwoW B W1 W2 n1 n2 o1 o2 L1 L2 G w) {k : Int} (hkb : -9223372036854775808 ≤ k ∧ k ≤ 9223372036854775807) (t : Nat) (h1 : n1 < t) (h2 : t ≤ 1099511627776) (ho : o1 < 549755813887) :
    Calls Tryd.prog 17 #[.pointer (some ⟨W1, 0, none⟩), .int .i64 k, .int .i64 (t : Int)] w fun e w' => e = .returned (.int .i64 0) ∧ TwoW B W1 W2 n1 n2 (o1 + 1) o2 (armL k t (o1 + 1) L1) L2 G w' ∧ Below B w w' ∧ ∀ i ∈ G, w'.heap[i]? = w.heap[i]? := by
  have hs := h.size.1
  obtain ⟨S1, S2, a1, a2, a3, a4, a5⟩ := h
  refine (arm_ok a1 hkb t h1 h2 ho).mono ?_
  rintro e w' ⟨he, S', k1, k2, k3⟩
  have ht := TwoW.trn hs a1.low a2 a3 a4 a5 k1 k2 k3
  exact ⟨he, ht.1 G (fun g hg => .inl hg), ht.2⟩
theorem two_now (h : TwoW B W1 W2 n1 n2 o1 o2 L1 L2 G w) : Calls Tryd.prog 21 #[.pointer (some ⟨W1, 0, none⟩)] w fun e w' => e = .returned (.int .i64 (n1 : Int)) ∧ w' = w := by
  obtain ⟨S1, S2, a1, a2, a3, a4, a5⟩ := h
  exact now_whl a1
theorem two_len (h : TwoW B W1 W2 n1 n2 o1 o2 L1 L2 G w) (n : Nat) (hn : L1.length = n) : Calls Tryd.prog 19 #[.pointer (some ⟨W1, 0, none⟩)] w fun e w' => e = .returned (.int .i64 (n : Int)) ∧ w' = w := by
  subst hn
  obtain ⟨S1, S2, a1, a2, a3, a4, a5⟩ := h
  exact len_whl a1
theorem two_adv (h : TwoW B W1 W2 n1 n2 o1 o2 L1 L2 G w) (hT : TabAt 0 Lib.deBruijn64tab w) (hB : 0 < B) (te : Nat) (ha : n1 ≤ te) (hte : te ≤ 1099511627776) (n : Nat) (hn : (upTil te L1).length = n) :
    Calls Tryd.prog 18 #[.pointer (some ⟨W1, 0, none⟩), .int .i64 (te : Int)] w fun e w' => ∃ p cap, e = .returned (.slice p n cap) ∧ TwoW B W1 W2 te n2 o1 o2 (past te L1) L2 ((Value.slice p n cap).ownBlock.toList ++ G) w' ∧ Below B w w' ∧ (∀ i ∈ G, w'.heap[i]? = w.heap[i]?) ∧ w'.ownsRow w.heap.size 3 1 (.slice p n cap) n (keysC (upTil te L1)) := by
  have hs := h.size.1
  obtain ⟨S1, S2, a1, a2, a3, a4, a5⟩ := h
  refine (advance_whl a1 hT ⟨fun hS => by have := (a3 0 hS).1; omega, by omega⟩ (te : Int) (by omega) te (by omega)).mono ?_
  rintro e w' ⟨v, S', he, g1, g2, g3, g4⟩
  have ht := TwoW.trn hs a1.low a2 a3 a4 a5 g1 g2 g3
  have h4 := g4.1
  rw [hn] at h4
  have hf : ∃ p cap, v = .slice p n cap := by
    rcases h4.2 with ⟨rfl, rfl⟩ | ⟨g, cap, cur, rfl, _⟩
    · exact ⟨none, 0, rfl⟩
    · exact ⟨_, cap, rfl⟩
  obtain ⟨p, cap, rfl⟩ := hf
  refine ⟨p, cap, he, ht.1 _ (fun g hg => ?_), ht.2.1, ht.2.2, h4⟩
  rcases List.mem_append.1 hg with hg | hg
  · rw [Option.mem_toList] at hg
    exact .inr ⟨g4.2 g hg, (h4.lt g hg).1, (h4.lt g hg).2⟩
  · exact .inl hg
end
end Go.Proofs.YtaeiaoldlebhaaaDoor
