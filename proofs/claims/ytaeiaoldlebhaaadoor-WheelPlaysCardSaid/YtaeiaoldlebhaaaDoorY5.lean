import Derived.Test.YtaeiaoldlebhaaaDoorY4
namespace Go.Proofs.YtaeiaoldlebhaaaDoor
open Go.RowKit Go.Shelf Go.Maps Go.Lib

/-- The program's wheel and the reference's, side by side; the blocks of G are of neither. -/
def Both (B W X np o : Nat) (Lp : List Ent) (nr : Nat) (Lr : List Ent) (G : List Nat) (Y : World) : Prop :=
  ∃ S A c, Whl S W np o Lp Y ∧ RefT X A c nr Lr Y ∧ (∀ i, S i → B ≤ i) ∧ (B ≤ X ∧ ¬ S X) ∧ (∀ g off, A = some ⟨g, off, none⟩ → B ≤ g ∧ g < Y.heap.size ∧ ¬ S g ∧ g ∉ G) ∧ ∀ i ∈ G, ¬ S i ∧ i ≠ X ∧ i < Y.heap.size
section
variable {B W X np o nr c : Nat} {Lp Lr : List Ent} {G : List Nat} {Y : World} {S : Nat → Prop} {A : Option Addr}
theorem Both.below {Y' : World} (h : Both B W X np o Lp nr Lr G Y) (hb : Below Y.heap.size Y Y') : Both B W X np o Lp nr Lr G Y' := by
  obtain ⟨S, A, c, h1, h2, h3, h4, h5, h6⟩ := h
  exact ⟨S, A, c, h1.below hb, h2.below hb, h3, h4, fun g off e => ⟨(h5 g off e).1, Nat.lt_of_lt_of_le (h5 g off e).2.1 hb.size, (h5 g off e).2.2⟩, fun i hi => ⟨(h6 i hi).1, (h6 i hi).2.1, Nat.lt_of_lt_of_le (h6 i hi).2.2 hb.size⟩⟩
theorem Both.size (h : Both B W X np o Lp nr Lr G Y) : B < Y.heap.size ∧ np ≤ 1099511627776 ∧ Wh np o Lp ∧ o < 549755813888 := by
  obtain ⟨S, A, c, h1, h2, h3, h4, _⟩ := h
  exact ⟨by have := h2.lt; omega, h1.tm, h1.wh, h1.ob⟩
/-- What the program turns. -/
theorem both_turn {np' o' : Nat} {Lp' : List Ent} {Y' : World} (h2 : RefT X A c nr Lr Y) (h3 : ∀ i, S i → B ≤ i) (h4 : B ≤ X ∧ ¬ S X) (h5 : ∀ g off, A = some ⟨g, off, none⟩ → B ≤ g ∧ g < Y.heap.size ∧ ¬ S g ∧ g ∉ G) (h6 : ∀ i ∈ G, ¬ S i ∧ i ≠ X ∧ i < Y.heap.size) (ht : Trn S W np' o' Lp' Y Y') :
    Both B W X np' o' Lp' nr Lr G Y' ∧ Below B Y Y' ∧ ∀ i ∈ G, Y'.heap[i]? = Y.heap[i]? := by
  obtain ⟨S', k1, k2, k3⟩ := ht
  have hX := h2.lt
  have hns : ∀ i, i < Y.heap.size → ¬ S i → ¬ S' i := fun i hi hS hS' => by
    rcases k3 i hS' with e | e
    · exact hS e
    · omega
  refine ⟨⟨S', A, c, k1, h2.kept (k2.block X hX h4.2) (fun g off e hg => k2.block g hg (h5 g off e).2.2.1) k2.size, fun i hi => ?_, ⟨h4.1, hns X hX h4.2⟩, fun g off e => ⟨(h5 g off e).1, Nat.lt_of_lt_of_le (h5 g off e).2.1 k2.size, hns g (h5 g off e).2.1 (h5 g off e).2.2.1, (h5 g off e).2.2.2⟩, fun i hi => ⟨hns i (h6 i hi).2.2 (h6 i hi).1, (h6 i hi).2.1, Nat.lt_of_lt_of_le (h6 i hi).2.2 k2.size⟩⟩, k2.below (by omega) h3, fun i hi => k2.block i (h6 i hi).2.2 (h6 i hi).1⟩
  rcases k3 i hi with e | e
  · exact h3 i e
  · omega
/-- What the reference turns. -/
theorem both_ref {nr' : Nat} {Lr' : List Ent} {Y' : World} (h1 : Whl S W np o Lp Y) (h2 : RefT X A c nr Lr Y) (h3 : ∀ i, S i → B ≤ i) (h4 : B ≤ X ∧ ¬ S X) (h5 : ∀ g off, A = some ⟨g, off, none⟩ → B ≤ g ∧ g < Y.heap.size ∧ ¬ S g ∧ g ∉ G) (h6 : ∀ i ∈ G, ¬ S i ∧ i ≠ X ∧ i < Y.heap.size) (ht : RefTurn X nr' A Lr' Y Y') :
    Both B W X np o Lp nr' Lr' G Y' ∧ Below B Y Y' ∧ ∀ i ∈ G, Y'.heap[i]? = Y.heap[i]? := by
  obtain ⟨A', c', k1, k2, k3⟩ := ht
  have hX := h2.lt
  refine ⟨⟨S, A', c', h1.kept (fun b hb => k2.block b (h1.low b hb) (fun e => by cases e; exact h4.2 hb)) k2.size, k1, h3, h4, fun g off e => ?_, fun i hi => ⟨(h6 i hi).1, (h6 i hi).2.1, Nat.lt_of_lt_of_le (h6 i hi).2.2 k2.size⟩⟩, ⟨k2.os, k2.tape, k2.output, k2.size, fun j hj => k2.block j (by omega) (fun e => by have := Option.some.inj e; omega)⟩, fun i hi => k2.block i (h6 i hi).2.2 (fun e => (h6 i hi).2.1 (Option.some.inj e))⟩
  rcases k3 g off e with ⟨off0, e0⟩ | e0
  · have := h5 g off0 e0
    exact ⟨this.1, Nat.lt_of_lt_of_le this.2.1 k2.size, this.2.2⟩
  · exact ⟨by omega, e0.2, fun hS => by have := h1.low g hS; omega, fun hG => by have := (h6 g hG).2.2; omega⟩
variable (h : Both B W X np o Lp nr Lr G Y)
include h
theorem both_arm {k : Int} (hkb : -9223372036854775808 ≤ k ∧ k ≤ 9223372036854775807) (t : Nat) (h1 : np < t) (h2 : t ≤ 1099511627776) (ho : o < 549755813887) :
    Calls Tryd.prog 17 #[.pointer (some ⟨W, 0, none⟩), .int .i64 k, .int .i64 (t : Int)] Y fun e Y' => e = .returned (.int .i64 0) ∧ Both B W X np (o + 1) (armL k t (o + 1) Lp) nr Lr G Y' ∧ Below B Y Y' ∧ ∀ i ∈ G, Y'.heap[i]? = Y.heap[i]? := by
  obtain ⟨S, A, c, k1, k2, k3, k4, k5, k6⟩ := h
  refine (arm_ok k1 hkb t h1 h2 ho).mono ?_
  rintro e w' ⟨he, ht⟩
  exact ⟨he, both_turn k2 k3 k4 k5 k6 ht⟩
theorem both_bad (k a : Int) (ha : a ≤ (np : Int) ∨ 1099511627776 < a) : Calls Tryd.prog 17 #[.pointer (some ⟨W, 0, none⟩), .int .i64 k, .int .i64 a] Y fun e Y' => e = .returned (.int .i64 1) ∧ Y' = Y := by
  obtain ⟨S, A, c, k1, _⟩ := h
  exact arm_bad k1 k a ha
theorem both_cancel {k : Int} (hw : (Lit.int .i64 k).wf = true) : Calls Tryd.prog 43 #[.pointer (some ⟨W, 0, none⟩), .int .i64 k] Y fun e Y' => e = .returned (.bool (hasKey k Lp).isSome) ∧ Both B W X np o (without k Lp) nr Lr G Y' ∧ Below B Y Y' ∧ ∀ i ∈ G, Y'.heap[i]? = Y.heap[i]? := by
  obtain ⟨S, A, c, k1, k2, k3, k4, k5, k6⟩ := h
  refine (cancel_whl k1 hw).mono ?_
  rintro e w' ⟨he, ht⟩
  exact ⟨he, both_turn k2 k3 k4 k5 k6 ht⟩
theorem both_due {k : Int} (hw : (Lit.int .i64 k).wf = true) : Calls Tryd.prog 26 #[.pointer (some ⟨W, 0, none⟩), .int .i64 k] Y fun e Y' => e = .returned (dueV k Lp) ∧ Below Y.heap.size Y Y' := by
  obtain ⟨S, A, c, k1, _⟩ := h
  exact due_whl k1 hw
theorem both_now : Calls Tryd.prog 21 #[.pointer (some ⟨W, 0, none⟩)] Y fun e Y' => e = .returned (.int .i64 (np : Int)) ∧ Y' = Y := by
  obtain ⟨S, A, c, k1, _⟩ := h
  exact now_whl k1
theorem both_len (n : Nat) (hn : Lp.length = n) : Calls Tryd.prog 19 #[.pointer (some ⟨W, 0, none⟩)] Y fun e Y' => e = .returned (.int .i64 (n : Int)) ∧ Y' = Y := by
  subst hn
  obtain ⟨S, A, c, k1, _⟩ := h
  exact len_whl k1
theorem both_back (a : Int) (ha : a < (np : Int)) : Calls Tryd.prog 18 #[.pointer (some ⟨W, 0, none⟩), .int .i64 a] Y fun e Y' => e = .returned (.slice none 0 0) ∧ Y' = Y := by
  obtain ⟨S, A, c, k1, _⟩ := h
  exact advance_back k1 a ha
theorem both_adv (hT : TabAt 0 Lib.deBruijn64tab Y) (hB : 0 < B) (a : Int) (ha : ¬ a < (np : Int)) (te : Nat) (hte : min a 1099511627776 = (te : Int)) (n : Nat) (hn : (upTil te Lp).length = n) :
    Calls Tryd.prog 18 #[.pointer (some ⟨W, 0, none⟩), .int .i64 a] Y fun e Y' => ∃ p cap, e = .returned (.slice p n cap) ∧ Both B W X te o (past te Lp) nr Lr G Y' ∧ Below B Y Y' ∧ (∀ i ∈ G, Y'.heap[i]? = Y.heap[i]?) ∧ Y'.ownsRow Y.heap.size 3 1 (.slice p n cap) n (keysC (upTil te Lp)) := by
  obtain ⟨S, A, c, k1, k2, k3, k4, k5, k6⟩ := h
  have hX := k2.lt
  refine (advance_whl k1 hT ⟨fun hS => by have := k3 0 hS; omega, by omega⟩ a ha te hte).mono ?_
  rintro e w' ⟨v, S', he, g1, g2, g3, g4⟩
  have ht := both_turn k2 k3 k4 k5 k6 ⟨S', g1, g2, g3⟩
  have h4 := g4.1
  rw [hn] at h4
  obtain ⟨p, cap, rfl, _, _⟩ := row_form h4
  exact ⟨p, cap, he, ht.1, ht.2.1, ht.2.2, h4⟩
theorem both_refarm (hup : Up Lr) (hlen : Lr.length < 549755813888) (k : Int) (t o' : Nat) (h1 : nr < t) (h2 : t ≤ 1099511627776) :
    Calls Tryd.prog 61 #[.pointer (some ⟨X, 0, none⟩), .int .i64 k, .int .i64 (t : Int)] Y fun e Y' => e = .returned (.int .i64 0) ∧ Both B W X np o Lp nr (armL k t o' Lr) G Y' ∧ Below B Y Y' ∧ ∀ i ∈ G, Y'.heap[i]? = Y.heap[i]? := by
  obtain ⟨S, A, c, k1, k2, k3, k4, k5, k6⟩ := h
  refine (ref61 k2 hup hlen k t o' h1 h2).mono ?_
  rintro e w' ⟨he, ht⟩
  exact ⟨he, both_ref k1 k2 k3 k4 k5 k6 ht⟩
theorem both_refbad (k a : Int) (ha : a ≤ (nr : Int) ∨ 1099511627776 < a) : Calls Tryd.prog 61 #[.pointer (some ⟨X, 0, none⟩), .int .i64 k, .int .i64 a] Y fun e Y' => e = .returned (.int .i64 1) ∧ Y' = Y := by
  obtain ⟨S, A, c, k1, k2, _⟩ := h
  exact ref61_bad k2 k a ha
theorem both_refcancel (hlen : Lr.length < 549755813888) (k : Int) : Calls Tryd.prog 58 #[.pointer (some ⟨X, 0, none⟩), .int .i64 k] Y fun e Y' => e = .returned (.bool (hasKey k Lr).isSome) ∧ Both B W X np o Lp nr (without k Lr) G Y' ∧ Below B Y Y' ∧ ∀ i ∈ G, Y'.heap[i]? = Y.heap[i]? := by
  obtain ⟨S, A, c, k1, k2, k3, k4, k5, k6⟩ := h
  refine (ref58 k2 (by omega) k).mono ?_
  rintro e w' ⟨he, ht⟩
  exact ⟨he, both_ref k1 k2 k3 k4 k5 k6 ht⟩
theorem both_refdue (k : Int) : Calls Tryd.prog 59 #[.pointer (some ⟨X, 0, none⟩), .int .i64 k] Y fun e Y' => e = .returned (dueV k Lr) ∧ Y' = Y := by
  obtain ⟨S, A, c, k1, k2, _⟩ := h
  exact ref59 k2 k
theorem both_refback (a : Int) (ha : a < (nr : Int)) : Calls Tryd.prog 60 #[.pointer (some ⟨X, 0, none⟩), .int .i64 a] Y fun e Y' => e = .returned (.slice none 0 0) ∧ Y' = Y := by
  obtain ⟨S, A, c, k1, k2, _⟩ := h
  exact ref60_back k2 a ha
theorem both_refadv (hup : Up Lr) (hlen : Lr.length < 549755813888) (a : Int) (ha : ¬ a < (nr : Int)) (te : Nat) (hte : min a 1099511627776 = (te : Int)) (n : Nat) (hn : (upTil te Lr).length = n) :
    Calls Tryd.prog 60 #[.pointer (some ⟨X, 0, none⟩), .int .i64 a] Y fun e Y' => ∃ p cap, e = .returned (.slice p n cap) ∧ Both B W X np o Lp te (past te Lr) G Y' ∧ Below B Y Y' ∧ (∀ i ∈ G, Y'.heap[i]? = Y.heap[i]?) ∧ Y'.ownsRow Y.heap.size 3 1 (.slice p n cap) n (keysC (upTil te Lr)) ∧ Y.grownBy Y' (some X) := by
  obtain ⟨S, A, c, k1, k2, k3, k4, k5, k6⟩ := h
  refine (ref60 k2 hup (by omega) a ha te hte).mono ?_
  rintro e w' ⟨v, he, hr, ht⟩
  rw [hn] at hr
  obtain ⟨p, cap, rfl, _, _⟩ := row_form hr
  obtain ⟨q1, q2, q3⟩ := both_ref k1 k2 k3 k4 k5 k6 ht
  obtain ⟨_, _, _, hg, _⟩ := ht
  exact ⟨p, cap, he, q1, q2, q3, hr, hg⟩
theorem both_ptr : X < Y.heap.size ∧ B ≤ X ∧ Y.cell? ⟨X, 0, none⟩ = some (.int .i64 (nr : Int)) ∧ ∃ A c, Y.cell? ⟨X, 1, none⟩ = some (.slice A Lr.length c) ∧ RowR A c Lr Y := by
  obtain ⟨S, A, c, k1, k2, k3, k4, _⟩ := h
  exact ⟨k2.lt, k4.1, k2.cells.1, A, c, k2.cells.2.1, k2.row⟩
end
end Go.Proofs.YtaeiaoldlebhaaaDoor
