import Derived.Test.YtlipkffnllmkgaaD6
namespace Go.Proofs.Ytlipkffnllmkgaa
open Go.RowKit Go.Shelf
attribute [local go_sem] Oper.semAt_some

theorem AncAt.below {X L base : Nat} {sv : Value} {a : Anc} {w w' : World} (h : AncAt X L base sv a w) (hb : Below w.heap.size w w') : AncAt X L base sv a w' := by
  have := h.hb
  refine ⟨h.fields.block (hb.block X (by have := h.hX; omega)), h.places.block (hb.block L (by have := h.hL; omega)), ?_, h.hX, h.hL, h.hXL, Nat.le_trans this hb.size⟩
  obtain ⟨hl, h | ⟨g, cap, cur, hv, hbg, hgb, hr⟩⟩ := h.own
  · exact ⟨hl, .inl h⟩
  · exact ⟨hl, .inr ⟨g, cap, cur, hv, hbg, (hb.block g (Array.getElem?_eq_some_iff.1 hgb).1).trans hgb, hr⟩⟩

/-- An anchor of that room lies at X, its own blocks from B on. -/
def Lies (B X room : Nat) (a : Anc) (w : World) : Prop := ∃ L base sv, AncAt X L base sv a w ∧ B ≤ X ∧ B ≤ L ∧ Reach room a ∧ 1 ≤ room ∧ room ≤ 65536
theorem Lies.below {B X room : Nat} {a : Anc} {w w' : World} (h : Lies B X room a w) (hb : Below w.heap.size w w') : Lies B X room a w' := by
  obtain ⟨L, base, sv, h, r⟩ := h
  exact ⟨L, base, sv, h.below hb, r⟩
theorem Lies.inv {B X room : Nat} {a : Anc} {w : World} (h : Lies B X room a w) : Inv a ∧ a.room = room := by
  obtain ⟨L, base, sv, h, h1, h2, h3, h4, h5⟩ := h
  exact h3.inv h4
theorem Lies.size {B X room : Nat} {a : Anc} {w : World} (h : Lies B X room a w) : B ≤ w.heap.size := by
  obtain ⟨L, base, sv, h, h1, h2, _⟩ := h
  have := h.hX
  have := h.hb
  omega
theorem Below.moves {B X L base : Nat} {sv : Value} {a : Anc} {w w' : World} (h : AncAt X L base sv a w) (hX : B ≤ X) (hL : B ≤ L) (hm : Moves X L sv.ownBlock w w') : Below B w w' := by
  have h1 := h.hb
  have h2 := h.hX
  refine ⟨hm.os, hm.tape, hm.output, hm.size, fun k hk => hm.block k (by omega) (by omega) (by omega) (fun e => ?_)⟩
  have := (h.own.lt k e.symm).1
  omega
theorem Below.moves_none {B X L base : Nat} {sv : Value} {a : Anc} {w w' : World} (h : AncAt X L base sv a w) (hX : B ≤ X) (hL : B ≤ L) (hm : Moves X L none w w') : Below B w w' := by
  have h1 := h.hb
  have h2 := h.hX
  exact ⟨hm.os, hm.tape, hm.output, hm.size, fun k hk => hm.block k (by omega) (by omega) (by omega) (fun e => by cases e)⟩

theorem lies_new (r k : Nat) (w : World) (h1 : 1 ≤ k) (h2 : k ≤ r) (h3 : r ≤ 65536) :
    Calls Try.prog 18 #[.int .i64 (r : Int), .int .i64 (k : Int)] w fun e w' => ∃ X, e = .returned (.tuple #[.pointer (some ⟨X, 0, none⟩), .int .i64 0]) ∧ Lies w.heap.size X r (newAnc r (r - k)) w' ∧ Below w.heap.size w w' := by
  refine (new_ok r k w h1 h2 h3).mono ?_
  rintro e w' ⟨X, L, base, sv, he, hA, hb, hX, hL⟩
  exact ⟨X, he, ⟨L, base, sv, hA, hX, hL, newAnc_reach r (r - k) (by omega), by omega, h3⟩, hb⟩

theorem lies_bucket {B X room : Nat} {a : Anc} {w : World} (h : Lies B X room a w) (k r : Nat) (hf : Find a k (drawN k a.room a.room) r) :
    Calls Try.prog 33 #[.pointer (some ⟨X, 0, none⟩), .int .u64 (k : Int)] w fun e w' => e = .returned (.int .i64 (r : Nat)) ∧ Below w.heap.size w w' := by
  obtain ⟨I, hr⟩ := h.inv
  obtain ⟨L, base, sv, h, h1, h2, h3, h4, h5⟩ := h
  refine (bucket_calls X L a w k r I h.places h.fields.1 (by omega) hf).mono ?_
  rintro e w' ⟨he, m, rfl⟩
  exact ⟨he, ⟨rfl, rfl, rfl, Nat.le_refl _, fun _ _ => rfl⟩⟩

theorem lies_remove_none {B X room : Nat} {a : Anc} {w : World} (h : Lies B X room a w) (b : Int) (hb : b < 0 ∨ (a.room : Int) ≤ b ∨ a.gone b.toNat ≠ 0) :
    Calls Try.prog 45 #[.pointer (some ⟨X, 0, none⟩), .int .i64 b] w fun e w' => e = .returned (.int .i64 19) ∧ w' = w := by
  obtain ⟨L, base, sv, h, h1, h2, h3, h4, h5⟩ := h
  exact remove_none X L base sv a w b h hb
theorem lies_remove_state {B X room : Nat} {a : Anc} {w : World} (h : Lies B X room a w) (b : Nat) (hb : b < a.room) (hg : a.gone b = 0) (hn : a.n = 1) :
    Calls Try.prog 45 #[.pointer (some ⟨X, 0, none⟩), .int .i64 (b : Int)] w fun e w' => e = .returned (.int .i64 15) ∧ w' = w := by
  obtain ⟨L, base, sv, h, h1, h2, h3, h4, h5⟩ := h
  exact remove_state X L base sv a w b h hb hg hn
theorem lies_add_full {B X room : Nat} {a : Anc} {w : World} (h : Lies B X room a w) (hs : a.stack = []) :
    Calls Try.prog 29 #[.pointer (some ⟨X, 0, none⟩)] w fun e w' => e = .returned (.tuple #[.int .i64 0, .int .i64 16]) ∧ w' = w := by
  obtain ⟨L, base, sv, h, h1, h2, h3, h4, h5⟩ := h
  exact add_full X L base sv a w h hs
theorem lies_add {B X room : Nat} {a : Anc} {w : World} (h : Lies B X room a w) (b : Nat) (st : List Nat) (hs : a.stack = b :: st) :
    Calls Try.prog 29 #[.pointer (some ⟨X, 0, none⟩)] w fun e w' => e = .returned (.tuple #[.int .i64 (b : Int), .int .i64 0]) ∧ Lies B X room (back a b) w' ∧ Below B w w' := by
  obtain ⟨I, hr⟩ := h.inv
  obtain ⟨L, base, sv, h, h1, h2, h3, h4, h5⟩ := h
  obtain ⟨p1, p2, _⟩ := h3.pop h4 hs
  refine (add_ok X L base sv a w b st h I (by omega) hs (by omega)).mono ?_
  rintro e w' ⟨he, sv', hA, hM, _⟩
  exact ⟨he, ⟨L, base, sv', hA, h1, h2, p1, h4, h5⟩, Below.moves_none h h1 h2 hM⟩
theorem lies_remove {B X room : Nat} {a : Anc} {w : World} (h : Lies B X room a w) (b : Nat) (hb : b < a.room) (hg : a.gone b = 0) (hn : 2 ≤ a.n) :
    Calls Try.prog 45 #[.pointer (some ⟨X, 0, none⟩), .int .i64 (b : Int)] w fun e w' => e = .returned (.int .i64 0) ∧ Lies B X room (rem a b) w' ∧ Below B w w' := by
  obtain ⟨I, hr⟩ := h.inv
  obtain ⟨L, base, sv, h, h1, h2, h3, h4, h5⟩ := h
  refine (remove_ok X L base sv a w b h I hb (by omega) hg (a.n - 1) (by omega) (by omega)).mono ?_
  rintro e w' ⟨he, sv', hA, hM⟩
  exact ⟨he, ⟨L, base, sv', hA, h1, h2, h3.rem a b hb hg hn, h4, h5⟩, Below.moves h h1 h2 hM⟩
end Go.Proofs.Ytlipkffnllmkgaa
