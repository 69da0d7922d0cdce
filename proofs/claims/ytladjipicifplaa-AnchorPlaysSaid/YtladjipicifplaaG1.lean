import Derived.Test.YtladjipicifplaaF8
namespace Go.Proofs.Ytladjipicifplaa
open Go.RowKit Go.Shelf

/-- Both anchors lie from B on; the blocks 'Cs' are no part of them, and hold what they held. -/
def PairC (B : Nat) (Cs : List (Nat × Obj)) (X Y room : Nat) (a a2 : Anc) (w : World) : Prop := ∃ L base gA gW gL gK rbase cW cL cK sv rsv, PairAt X L base Y gA gW gL gK rbase cW cL cK sv rsv a a2 w ∧ (B ≤ X ∧ B ≤ L ∧ B ≤ Y ∧ B ≤ gA ∧ B ≤ gW ∧ B ≤ gL ∧ B ≤ gK ∧ B ≤ base ∧ B ≤ rbase) ∧ (Reach room a ∧ Reach room a2) ∧ (1 ≤ room ∧ room ≤ 65536) ∧
  ∀ c ∈ Cs, w.heap[c.1]? = some c.2 ∧ c.1 ∉ [X, L] ∧ c.1 ∉ [Y, gA, gW, gL, gK] ∧ sv.ownBlock ≠ some c.1 ∧ rsv.ownBlock ≠ some c.1

theorem PairC.pair {B X Y room : Nat} {Cs : List (Nat × Obj)} {a a2 : Anc} {w : World} (h : PairC B Cs X Y room a a2 w) : Pair B X Y room a a2 w := by
  obtain ⟨L, base, gA, gW, gL, gK, rbase, cW, cL, cK, sv, rsv, h, b, r, ⟨r1, r2⟩, _⟩ := h
  exact ⟨L, base, gA, gW, gL, gK, rbase, cW, cL, cK, sv, rsv, h, b, r, r1, r2⟩
theorem Pair.guard {B X Y room : Nat} {a a2 : Anc} {w : World} (h : Pair B X Y room a a2 w) : PairC B [] X Y room a a2 w := by
  obtain ⟨L, base, gA, gW, gL, gK, rbase, cW, cL, cK, sv, rsv, h, b, r, r1, r2⟩ := h
  exact ⟨L, base, gA, gW, gL, gK, rbase, cW, cL, cK, sv, rsv, h, b, r, ⟨r1, r2⟩, fun c hc => by cases hc⟩
theorem PairC.lies {B X Y room : Nat} {Cs : List (Nat × Obj)} {a a2 : Anc} {w : World} (h : PairC B Cs X Y room a a2 w) : Lies B X room a w := h.pair.lies
theorem PairC.below {B X Y room : Nat} {Cs : List (Nat × Obj)} {a a2 : Anc} {w w' : World} (h : PairC B Cs X Y room a a2 w) (hb : Below w.heap.size w w') : PairC B Cs X Y room a a2 w' := by
  obtain ⟨L, base, gA, gW, gL, gK, rbase, cW, cL, cK, sv, rsv, h, b, r, r1, hc⟩ := h
  exact ⟨L, base, gA, gW, gL, gK, rbase, cW, cL, cK, sv, rsv, h.below hb, b, r, r1, fun c m => ⟨(hb.block c.1 (Array.getElem?_eq_some_iff.1 (hc c m).1).1).trans (hc c m).1, (hc c m).2⟩⟩
theorem PairC.has {B X Y room : Nat} {Cs : List (Nat × Obj)} {a a2 : Anc} {w : World} (h : PairC B Cs X Y room a a2 w) {c : Nat × Obj} (hc : c ∈ Cs) : w.heap[c.1]? = some c.2 := by
  obtain ⟨L, base, gA, gW, gL, gK, rbase, cW, cL, cK, sv, rsv, h, b, r, r1, hC⟩ := h
  exact (hC c hc).1
theorem PairC.drop {B X Y room : Nat} {c : Nat × Obj} {Cs : List (Nat × Obj)} {a a2 : Anc} {w : World} (h : PairC B (c :: Cs) X Y room a a2 w) : PairC B Cs X Y room a a2 w := by
  obtain ⟨L, base, gA, gW, gL, gK, rbase, cW, cL, cK, sv, rsv, h, b, r, r1, hC⟩ := h
  exact ⟨L, base, gA, gW, gL, gK, rbase, cW, cL, cK, sv, rsv, h, b, r, r1, fun c m => hC c (List.mem_cons_of_mem _ m)⟩
/-- A new block behind all. -/
theorem PairC.push {B X Y room : Nat} {Cs : List (Nat × Obj)} {a a2 : Anc} {w w' : World} (h : PairC B Cs X Y room a a2 w) (hb : Below w.heap.size w w') {D : Nat} {o : Obj} (hD : w.heap.size ≤ D) (ho : w'.heap[D]? = some o) : PairC B ((D, o) :: Cs) X Y room a a2 w' := by
  have h2 := h.below hb
  obtain ⟨L, base, gA, gW, gL, gK, rbase, cW, cL, cK, sv, rsv, h, b, r, r1, hC⟩ := h
  have hX := h.m.hX
  have hL := h.m.hL
  have hmb := h.m.hb
  have hlow := h.r.low
  have hrb := h.r.hb
  refine ⟨L, base, gA, gW, gL, gK, rbase, cW, cL, cK, sv, rsv, h.below hb, b, r, r1, fun c m => ?_⟩
  rcases List.mem_cons.1 m with rfl | m
  · refine ⟨ho, ?_, ?_, fun e => ?_, fun e => ?_⟩
    · simp only [List.mem_cons, List.not_mem_nil, or_false]; omega
    · simp only [List.mem_cons, List.not_mem_nil, or_false]; omega
    · have := (h.m.own.lt D e).2; omega
    · have := (h.r.own.lt D e).2; omega
  · exact ⟨(hb.block c.1 (Array.getElem?_eq_some_iff.1 (hC c m).1).1).trans (hC c m).1, (hC c m).2⟩

/-- What Remove answers, and what is left. -/
def remOut (a : Anc) (b : Int) : Nat × Anc := if b < 0 ∨ (a.room : Int) ≤ b ∨ a.gone b.toNat ≠ 0 then (19, a) else if a.n = 1 then (15, a) else (0, rem a b.toNat)
/-- What Add answers, and what is left. -/
def addOut (a : Anc) : Nat × Nat × Anc := match a.stack with | [] => (0, 16, a) | b :: _ => (b, 0, back a b)

theorem pairC_remove {B X Y room : Nat} {Cs : List (Nat × Obj)} {a a2 : Anc} {w : World} (h : PairC B Cs X Y room a a2 w) (b : Int) :
    Calls Try.prog 25 #[.pointer (some ⟨X, 0, none⟩), .int .i64 b] w fun e w' => e = .returned (.int .i64 ((remOut a b).1 : Int)) ∧ PairC B Cs X Y room (remOut a b).2 a2 w' ∧ Below B w w' := by
  have hb0 := h.lies.size
  unfold remOut
  split
  · rename_i hc
    refine (lies_remove_none h.lies b hc).mono ?_
    rintro e w' ⟨he, rfl⟩
    exact ⟨he, h, Below.refl _ _⟩
  · rename_i hc
    simp only [not_or, Decidable.not_not] at hc
    obtain ⟨c1, c2, c3⟩ := hc
    obtain ⟨b, rfl⟩ : ∃ k : Nat, b = k := ⟨b.toNat, by omega⟩
    rw [Int.toNat_natCast] at c3 ⊢
    split
    · rename_i hn
      refine (lies_remove_state h.lies b (by omega) c3 hn).mono ?_
      rintro e w' ⟨he, rfl⟩
      exact ⟨he, h, Below.refl _ _⟩
    · rename_i hn
      obtain ⟨L, base, gA, gW, gL, gK, rbase, cW, cL, cK, sv, rsv, h, bb, ⟨r1, r2⟩, ⟨r3, r4⟩, hC⟩ := h
      obtain ⟨I, hr⟩ := r1.inv r3
      have hp := I.pos
      have hn2 : 2 ≤ a.n := by omega
      refine (remove_at X L base sv a w b h.m I (by omega) (by omega) c3 (a.n - 1) (by omega) (by omega)).mono ?_
      rintro e w' ⟨he, sv', hA, hM, hk⟩
      have hk2 : sv'.ownBlock = sv.ownBlock ∨ ∃ g, sv'.ownBlock = some g ∧ w.heap.size ≤ g := hk.imp id fun e => ⟨_, e, by omega⟩
      refine ⟨he, ⟨L, base, gA, gW, gL, gK, rbase, cW, cL, cK, sv', rsv, h.main hA hM hk2, bb, ⟨r1.rem a b (by omega) c3 hn2, r2⟩, ⟨r3, r4⟩, fun c m => ?_⟩, Below.moves h.m bb.1 bb.2.1 hM⟩
      obtain ⟨c1, c2, c3, c4, c5⟩ := hC c m
      simp only [List.mem_cons, List.not_mem_nil, or_false, not_or] at c2
      have hlt := (Array.getElem?_eq_some_iff.1 c1).1
      refine ⟨(hM.block c.1 hlt c2.1 c2.2 (fun e => c4 e.symm)).trans c1, by simpa using c2, c3, ?_, c5⟩
      rcases hk2 with e | ⟨g, e, hg⟩
      · rw [e]; exact c4
      · rw [e]; intro e2; cases e2; omega

theorem pairC_refRemove {B X Y room : Nat} {Cs : List (Nat × Obj)} {a a2 : Anc} {w : World} (h : PairC B Cs X Y room a a2 w) (b : Int) :
    Calls Try.prog 26 #[.pointer (some ⟨Y, 0, none⟩), .int .i64 b] w fun e w' => e = .returned (.int .i64 ((remOut a2 b).1 : Int)) ∧ PairC B Cs X Y room a (remOut a2 b).2 w' ∧ Below B w w' := by
  unfold remOut
  split
  · rename_i hc
    refine (pair_refRemove_none h.pair b hc).mono ?_
    rintro e w' ⟨he, rfl⟩
    exact ⟨he, h, Below.refl _ _⟩
  · rename_i hc
    simp only [not_or, Decidable.not_not] at hc
    obtain ⟨c1, c2, c3⟩ := hc
    obtain ⟨b, rfl⟩ : ∃ k : Nat, b = k := ⟨b.toNat, by omega⟩
    rw [Int.toNat_natCast] at c3 ⊢
    split
    · rename_i hn
      refine (pair_refRemove_state h.pair b (by omega) c3 hn).mono ?_
      rintro e w' ⟨he, rfl⟩
      exact ⟨he, h, Below.refl _ _⟩
    · rename_i hn
      obtain ⟨L, base, gA, gW, gL, gK, rbase, cW, cL, cK, sv, rsv, h, bb, ⟨r1, r2⟩, ⟨r3, r4⟩, hC⟩ := h
      obtain ⟨I, hr⟩ := r2.inv r3
      have hp := I.pos
      have hn2 : 2 ≤ a2.n := by omega
      refine (refRemove_ok Y gA gW gL gK rbase cW cL cK rsv a2 w b h.r I (by omega) (by omega) c3 (a2.n - 1) (by omega) (by omega)).mono ?_
      rintro e w' ⟨he, sv', ⟨hR, hM⟩, hk⟩
      have hk2 : sv'.ownBlock = rsv.ownBlock ∨ ∃ g, sv'.ownBlock = some g ∧ w.heap.size ≤ g := hk.imp id fun e => ⟨_, e, by omega⟩
      refine ⟨he, ⟨L, base, gA, gW, gL, gK, rbase, cW, cL, cK, sv, sv', h.ref hR hM hk2, bb, ⟨r1, r2.rem a2 b (by omega) c3 hn2⟩, ⟨r3, r4⟩, fun c m => ?_⟩, MovesR.below h.r hM (by omega)⟩
      obtain ⟨c1, c2, c3, c4, c5⟩ := hC c m
      have hlt := (Array.getElem?_eq_some_iff.1 c1).1
      refine ⟨(hM.block c.1 hlt c3 (fun e => c5 e.symm)).trans c1, c2, c3, c4, ?_⟩
      rcases hk2 with e | ⟨g, e, hg⟩
      · rw [e]; exact c5
      · rw [e]; intro e2; cases e2; omega

theorem pairC_add {B X Y room : Nat} {Cs : List (Nat × Obj)} {a a2 : Anc} {w : World} (h : PairC B Cs X Y room a a2 w) :
    Calls Try.prog 23 #[.pointer (some ⟨X, 0, none⟩)] w fun e w' => e = .returned (.tuple #[.int .i64 ((addOut a).1 : Int), .int .i64 ((addOut a).2.1 : Int)]) ∧ PairC B Cs X Y room (addOut a).2.2 a2 w' ∧ Below B w w' := by
  unfold addOut
  split
  · rename_i hs
    refine (lies_add_full h.lies hs).mono ?_
    rintro e w' ⟨he, rfl⟩
    exact ⟨he, h, Below.refl _ _⟩
  · rename_i b st hs
    obtain ⟨L, base, gA, gW, gL, gK, rbase, cW, cL, cK, sv, rsv, h, bb, ⟨r1, r2⟩, ⟨r3, r4⟩, hC⟩ := h
    obtain ⟨I, hr⟩ := r1.inv r3
    obtain ⟨p1, p2, _⟩ := r1.pop r3 hs
    refine (add_ok X L base sv a w b st h.m I (by omega) hs (by omega)).mono ?_
    rintro e w' ⟨he, sv', hA, hM, hk⟩
    have hM2 : Moves X L sv.ownBlock w w' := ⟨hM.os, hM.tape, hM.output, hM.size, fun i hi h1 h2 _ => hM.block i hi h1 h2 (fun e => by cases e)⟩
    refine ⟨he, ⟨L, base, gA, gW, gL, gK, rbase, cW, cL, cK, sv', rsv, h.main hA hM2 (.inl hk), bb, ⟨p1, r2⟩, ⟨r3, r4⟩, fun c m => ?_⟩, Below.moves_none h.m bb.1 bb.2.1 hM⟩
    obtain ⟨c1, c2, c3, c4, c5⟩ := hC c m
    simp only [List.mem_cons, List.not_mem_nil, or_false, not_or] at c2
    have hlt := (Array.getElem?_eq_some_iff.1 c1).1
    exact ⟨(hM.block c.1 hlt c2.1 c2.2 (fun e => by cases e)).trans c1, by simpa using c2, c3, by rw [hk]; exact c4, c5⟩

theorem pairC_refAdd {B X Y room : Nat} {Cs : List (Nat × Obj)} {a a2 : Anc} {w : World} (h : PairC B Cs X Y room a a2 w) :
    Calls Try.prog 24 #[.pointer (some ⟨Y, 0, none⟩)] w fun e w' => e = .returned (.tuple #[.int .i64 ((addOut a2).1 : Int), .int .i64 ((addOut a2).2.1 : Int)]) ∧ PairC B Cs X Y room a (addOut a2).2.2 w' ∧ Below B w w' := by
  unfold addOut
  split
  · rename_i hs
    refine (pair_refAdd_full h.pair hs).mono ?_
    rintro e w' ⟨he, rfl⟩
    exact ⟨he, h, Below.refl _ _⟩
  · rename_i b st hs
    obtain ⟨L, base, gA, gW, gL, gK, rbase, cW, cL, cK, sv, rsv, h, bb, ⟨r1, r2⟩, ⟨r3, r4⟩, hC⟩ := h
    obtain ⟨I, hr⟩ := r2.inv r3
    obtain ⟨p1, p2, _⟩ := r2.pop r3 hs
    refine (refAdd_ok Y gA gW gL gK rbase cW cL cK rsv a2 w b st h.r I (by omega) hs (by omega)).mono ?_
    rintro e w' ⟨he, sv', ⟨hR, hM⟩, hk⟩
    refine ⟨he, ⟨L, base, gA, gW, gL, gK, rbase, cW, cL, cK, sv, sv', h.ref hR hM (.inl hk), bb, ⟨r1, p1⟩, ⟨r3, r4⟩, fun c m => ?_⟩, MovesR.below h.r hM (by omega)⟩
    obtain ⟨c1, c2, c3, c4, c5⟩ := hC c m
    have hlt := (Array.getElem?_eq_some_iff.1 c1).1
    exact ⟨(hM.block c.1 hlt c3 (fun e => c5 e.symm)).trans c1, c2, c3, c4, by rw [hk]; exact c5⟩
end Go.Proofs.Ytladjipicifplaa
