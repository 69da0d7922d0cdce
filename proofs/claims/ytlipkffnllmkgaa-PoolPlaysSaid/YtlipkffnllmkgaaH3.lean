import Derived.Test.YtlipkffnllmkgaaH2
import Derived.Test.YtlipkffnllmkgaaF8
namespace Go.Proofs.Ytlipkffnllmkgaa
open Go.RowKit Go.Shelf

/-- Among the blocks that were there just those of S have turned. -/
structure Only (S : Nat → Prop) (w w' : World) : Prop where
  os : w'.os = w.os
  tape : w'.tape = w.tape
  output : w'.output = w.output
  size : w.heap.size ≤ w'.heap.size
  block : ∀ i, i < w.heap.size → ¬ S i → w'.heap[i]? = w.heap[i]?
theorem Only.refl (S : Nat → Prop) (w : World) : Only S w w := ⟨rfl, rfl, rfl, Nat.le_refl _, fun _ _ _ => rfl⟩
theorem Only.of_below {S : Nat → Prop} {w w' : World} (h : Below w.heap.size w w') : Only S w w' := ⟨h.os, h.tape, h.output, h.size, fun i hi _ => h.block i hi⟩
theorem Only.mono {S T : Nat → Prop} {w w' : World} (h : Only S w w') (hs : ∀ i, S i → T i) : Only T w w' := ⟨h.os, h.tape, h.output, h.size, fun i hi hn => h.block i hi (fun e => hn (hs i e))⟩
theorem Only.trans {S T : Nat → Prop} {a b c : World} (h : Only S a b) (k : Only T b c) (hT : ∀ i, i < a.heap.size → T i → S i) : Only S a c :=
  ⟨k.os.trans h.os, k.tape.trans h.tape, k.output.trans h.output, Nat.le_trans h.size k.size, fun i hi hn => (k.block i (Nat.lt_of_lt_of_le hi h.size) (fun e => hn (hT i hi e))).trans (h.block i hi hn)⟩
theorem Only.below {S : Nat → Prop} {B : Nat} {w w' : World} (h : Only S w w') (hB : B ≤ w.heap.size) (hS : ∀ i, S i → B ≤ i) : Below B w w' :=
  ⟨h.os, h.tape, h.output, h.size, fun i hi => h.block i (by omega) (fun e => by have := hS i e; omega)⟩

/-- S, and the blocks from n to below m. -/
def Wid (S : Nat → Prop) (n m : Nat) (b : Nat) : Prop := S b ∨ (n ≤ b ∧ b < m)

/-- An anchor whose blocks are among S. -/
def AncS (S : Nat → Prop) (X room : Nat) (a : Anc) (w : World) : Prop :=
  ∃ L base sv, AncAt X L base sv a w ∧ (S X ∧ S L ∧ ∀ g, sv.ownBlock = some g → S g) ∧ Reach room a ∧ 1 ≤ room ∧ room ≤ 65536
theorem AncS.kept {S : Nat → Prop} {X room : Nat} {a : Anc} {w w' : World} (h : AncS S X room a w) (hb : ∀ b, S b → w'.heap[b]? = w.heap[b]?) (hs : w.heap.size ≤ w'.heap.size) : AncS S X room a w' := by
  obtain ⟨L, base, sv, hA, ⟨h1, h2, h3⟩, r⟩ := h
  exact ⟨L, base, sv, hA.kept' (hb X h1) (hb L h2) (fun g hg => hb g (h3 g hg)) hs, ⟨h1, h2, h3⟩, r⟩
theorem AncS.lies {S : Nat → Prop} {X room : Nat} {a : Anc} {w : World} (h : AncS S X room a w) : Lies 0 X room a w := by
  obtain ⟨L, base, sv, hA, _, r1, r2, r3⟩ := h
  exact ⟨L, base, sv, hA, Nat.zero_le _, Nat.zero_le _, r1, r2, r3⟩
theorem AncS.mono {S T : Nat → Prop} {X room : Nat} {a : Anc} {w : World} (h : AncS S X room a w) (hs : ∀ i, S i → T i) : AncS T X room a w := by
  obtain ⟨L, base, sv, hA, ⟨h1, h2, h3⟩, r⟩ := h
  exact ⟨L, base, sv, hA, ⟨hs _ h1, hs _ h2, fun g hg => hs _ (h3 g hg)⟩, r⟩

theorem ancS_new (r : Nat) (w : World) (h1 : 1 ≤ r) (h3 : r ≤ 65536) :
    Calls Try.prog 18 #[.int .i64 (r : Int), .int .i64 1] w fun e w' => ∃ X, e = .returned (.tuple #[.pointer (some ⟨X, 0, none⟩), .int .i64 0]) ∧ AncS (fun b => w.heap.size ≤ b ∧ b < w'.heap.size) X r (newAnc r (r - 1)) w' ∧ Below w.heap.size w w' := by
  refine (new_ok r 1 w (by omega) h1 h3).mono ?_
  rintro e w' ⟨X, L, base, sv, he, hA, hb, hX, hL⟩
  exact ⟨X, he, ⟨L, base, sv, hA, ⟨⟨hX, by have := hA.hX; have := hA.hb; omega⟩, ⟨hL, by have := hA.hL; have := hA.hb; omega⟩, fun g hg => ⟨by have := (hA.own.lt g hg).1; have := hA.hX; omega, (hA.own.lt g hg).2⟩⟩, newAnc_reach r (r - 1) (by omega), h1, h3⟩, hb⟩
theorem ancS_remove {S : Nat → Prop} {X room : Nat} {a : Anc} {w : World} (h : AncS S X room a w) (b : Nat) (hb : b < a.room) (hg : a.gone b = 0) (hn : 2 ≤ a.n) :
    Calls Try.prog 45 #[.pointer (some ⟨X, 0, none⟩), .int .i64 (b : Int)] w fun e w' => e = .returned (.int .i64 0) ∧ AncS (Wid S w.heap.size w'.heap.size) X room (rem a b) w' ∧ Only S w w' := by
  obtain ⟨L, base, sv, hA, ⟨h1, h2, h3⟩, r1, r2, r3⟩ := h
  obtain ⟨I, hr⟩ := r1.inv r2
  refine (remove_at X L base sv a w b hA I hb (by omega) hg (a.n - 1) (by omega) (by omega)).mono ?_
  rintro e w' ⟨he, sv', hA', hM, hk⟩
  refine ⟨he, ⟨L, base, sv', hA', ⟨.inl h1, .inl h2, fun g hg => ?_⟩, r1.rem a b hb (by omega) hn, r2, r3⟩, ⟨hM.os, hM.tape, hM.output, hM.size, fun i hi hnS => hM.block i hi (fun e => hnS (e ▸ h1)) (fun e => hnS (e ▸ h2)) (fun e => hnS (h3 i e.symm))⟩⟩
  rcases hk with e | e
  · exact .inl (h3 g (e.symm.trans hg))
  · have h5 := (hA'.own.lt g hg).2
    rw [e] at hg
    cases hg
    exact .inr ⟨by omega, h5⟩
theorem ancS_add {S : Nat → Prop} {X room : Nat} {a : Anc} {w : World} (h : AncS S X room a w) (b : Nat) (st : List Nat) (hs : a.stack = b :: st) :
    Calls Try.prog 29 #[.pointer (some ⟨X, 0, none⟩)] w fun e w' => e = .returned (.tuple #[.int .i64 (b : Int), .int .i64 0]) ∧ AncS S X room (back a b) w' ∧ Only S w w' := by
  obtain ⟨L, base, sv, hA, ⟨h1, h2, h3⟩, r1, r2, r3⟩ := h
  obtain ⟨I, hr⟩ := r1.inv r2
  obtain ⟨p1, p2, _⟩ := r1.pop r2 hs
  refine (add_ok X L base sv a w b st hA I (by omega) hs (by omega)).mono ?_
  rintro e w' ⟨he, sv', hA', hM, hk⟩
  exact ⟨he, ⟨L, base, sv', hA', ⟨h1, h2, fun g hg => h3 g (hk ▸ hg)⟩, p1, r2, r3⟩, ⟨hM.os, hM.tape, hM.output, hM.size, fun i hi hnS => hM.block i hi (fun e => hnS (e ▸ h1)) (fun e => hnS (e ▸ h2)) (fun e => by cases e)⟩⟩
end Go.Proofs.Ytlipkffnllmkgaa
