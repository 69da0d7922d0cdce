import Derived.Test.YtlipkffnllmkgaaF7
namespace Go.Proofs.Ytlipkffnllmkgaa
open Go.RowKit Go.Shelf

/-- Both anchors lie from B on. -/
def Pair (B X Y room : Nat) (a a2 : Anc) (w : World) : Prop := ∃ L base gA gW gL gK rbase cW cL cK sv rsv, PairAt X L base Y gA gW gL gK rbase cW cL cK sv rsv a a2 w ∧ (B ≤ X ∧ B ≤ L ∧ B ≤ Y ∧ B ≤ gA ∧ B ≤ gW ∧ B ≤ gL ∧ B ≤ gK ∧ B ≤ base ∧ B ≤ rbase) ∧ (Reach room a ∧ Reach room a2) ∧ 1 ≤ room ∧ room ≤ 65536

theorem Pair.below {B X Y room : Nat} {a a2 : Anc} {w w' : World} (h : Pair B X Y room a a2 w) (hb : Below w.heap.size w w') : Pair B X Y room a a2 w' := by
  obtain ⟨L, base, gA, gW, gL, gK, rbase, cW, cL, cK, sv, rsv, h, r⟩ := h
  exact ⟨L, base, gA, gW, gL, gK, rbase, cW, cL, cK, sv, rsv, h.below hb, r⟩
theorem Pair.lies {B X Y room : Nat} {a a2 : Anc} {w : World} (h : Pair B X Y room a a2 w) : Lies B X room a w := by
  obtain ⟨L, base, gA, gW, gL, gK, rbase, cW, cL, cK, sv, rsv, h, ⟨b1, b2, _⟩, ⟨r1, _⟩, r2, r3⟩ := h
  exact ⟨L, base, sv, h.m, b1, b2, r1, r2, r3⟩

theorem pair_remove {B X Y room : Nat} {a a2 : Anc} {w : World} (h : Pair B X Y room a a2 w) (b : Nat) (hb : b < a.room) (hg : a.gone b = 0) (hn : 2 ≤ a.n) :
    Calls Try.prog 45 #[.pointer (some ⟨X, 0, none⟩), .int .i64 (b : Int)] w fun e w' => e = .returned (.int .i64 0) ∧ Pair B X Y room (rem a b) a2 w' ∧ Below B w w' ∧ KeepsOthers w w' := by
  obtain ⟨L, base, gA, gW, gL, gK, rbase, cW, cL, cK, sv, rsv, h, bb, ⟨r1, r2⟩, r3, r4⟩ := h
  obtain ⟨I, hr⟩ := r1.inv r3
  refine (remove_at X L base sv a w b h.m I hb (by omega) hg (a.n - 1) (by omega) (by omega)).mono ?_
  rintro e w' ⟨he, sv', hA, hM, hk⟩
  exact ⟨he, ⟨L, base, gA, gW, gL, gK, rbase, cW, cL, cK, sv', rsv, h.main hA hM (hk.imp id fun e => ⟨_, e, by omega⟩), bb, ⟨r1.rem a b hb hg hn, r2⟩, r3, r4⟩, Below.moves h.m bb.1 bb.2.1 hM, Moves.others h.m (by omega) hM (.inr rfl)⟩
theorem pair_add {B X Y room : Nat} {a a2 : Anc} {w : World} (h : Pair B X Y room a a2 w) (b : Nat) (st : List Nat) (hs : a.stack = b :: st) :
    Calls Try.prog 29 #[.pointer (some ⟨X, 0, none⟩)] w fun e w' => e = .returned (.tuple #[.int .i64 (b : Int), .int .i64 0]) ∧ Pair B X Y room (back a b) a2 w' ∧ Below B w w' ∧ KeepsOthers w w' := by
  obtain ⟨L, base, gA, gW, gL, gK, rbase, cW, cL, cK, sv, rsv, h, bb, ⟨r1, r2⟩, r3, r4⟩ := h
  obtain ⟨I, hr⟩ := r1.inv r3
  obtain ⟨p1, p2, _⟩ := r1.pop r3 hs
  refine (add_ok X L base sv a w b st h.m I (by omega) hs (by omega)).mono ?_
  rintro e w' ⟨he, sv', hA, hM, hk⟩
  have hM2 : Moves X L sv.ownBlock w w' := ⟨hM.os, hM.tape, hM.output, hM.size, fun i hi h1 h2 _ => hM.block i hi h1 h2 (fun e => by cases e)⟩
  exact ⟨he, ⟨L, base, gA, gW, gL, gK, rbase, cW, cL, cK, sv', rsv, h.main hA hM2 (.inl hk), bb, ⟨p1, r2⟩, r3, r4⟩, Below.moves_none h.m bb.1 bb.2.1 hM, Moves.others h.m (by omega) hM (.inl rfl)⟩
theorem pair_refBucket {B X Y room : Nat} {a a2 : Anc} {w : World} (h : Pair B X Y room a a2 w) (k r : Nat) (hf : Find a2 k (drawN k a2.room a2.room) r) :
    Calls Try.prog 40 #[.pointer (some ⟨Y, 0, none⟩), .int .u64 (k : Int)] w fun e w' => e = .returned (.int .i64 (r : Nat)) ∧ ∃ m, w' = w.drewN m := by
  obtain ⟨L, base, gA, gW, gL, gK, rbase, cW, cL, cK, sv, rsv, h, bb, ⟨r1, r2⟩, r3, r4⟩ := h
  obtain ⟨I, hr⟩ := r2.inv r3
  exact refBucket Y gA gW gL gK rbase cW cL cK rsv a2 w k r I h.r (by omega) hf
theorem MovesR.below {B Y gA gW gL gK base cW cL cK : Nat} {rsv : Value} {a : Anc} {w w' : World} (h : RefAt Y gA gW gL gK base cW cL cK rsv a w) (hm : MovesR [Y, gA, gW, gL, gK] rsv.ownBlock w w') (hB : B ≤ Y ∧ B ≤ gA ∧ B ≤ gW ∧ B ≤ gL ∧ B ≤ gK ∧ B ≤ base) : Below B w w' := by
  have h1 := h.hb
  refine ⟨hm.os, hm.tape, hm.output, hm.size, fun k hk => hm.block k (by omega) (fun hg => ?_) (fun e => ?_)⟩
  · simp only [List.mem_cons, List.not_mem_nil, or_false] at hg
    omega
  · have := (h.own.lt k e.symm).1
    omega
theorem MovesR.others {Y gA gW gL gK base cW cL cK : Nat} {rsv : Value} {a : Anc} {w w' : World} (h : RefAt Y gA gW gL gK base cW cL cK rsv a w) (hp : 1 ≤ a.room) (hm : MovesR [Y, gA, gW, gL, gK] rsv.ownBlock w w') : KeepsOthers w w' := by
  refine ⟨hm.size, fun k o hk ho => ?_⟩
  refine (hm.block k (Array.getElem?_eq_some_iff.1 hk).1 (fun hg => ?_) ?_).trans hk
  · simp only [List.mem_cons, List.not_mem_nil, or_false] at hg
    rcases hg with rfl | rfl | rfl | rfl | rfl
    · rw [cell_cells h.f0 hk] at ho; cases ho
    · rw [cell_cells (h.cA 0 hp).1 hk] at ho; cases ho
    · rw [cell_cells (h.cW' 0 hp).1 hk] at ho; cases ho
    · rw [cell_cells (h.cL' 0 hp).1 hk] at ho; cases ho
    · rw [cell_cells (h.cK' 0 hp).1 hk] at ho; cases ho
  · intro e
    rcases h.own.2 with ⟨e', _⟩ | ⟨g, cap, cur, e', _, hgb, _⟩
    · rw [e'] at e; cases e
    · rw [e'] at e
      have e2 : k = g := by simpa [Value.ownBlock] using e
      subst e2
      rw [hgb] at hk; cases hk; cases ho
theorem pair_refRemove {B X Y room : Nat} {a a2 : Anc} {w : World} (h : Pair B X Y room a a2 w) (b : Nat) (hb : b < a2.room) (hg : a2.gone b = 0) (hn : 2 ≤ a2.n) :
    Calls Try.prog 52 #[.pointer (some ⟨Y, 0, none⟩), .int .i64 (b : Int)] w fun e w' => e = .returned (.int .i64 0) ∧ Pair B X Y room a (rem a2 b) w' ∧ Below B w w' ∧ KeepsOthers w w' := by
  obtain ⟨L, base, gA, gW, gL, gK, rbase, cW, cL, cK, sv, rsv, h, bb, ⟨r1, r2⟩, r3, r4⟩ := h
  obtain ⟨I, hr⟩ := r2.inv r3
  refine (refRemove_ok Y gA gW gL gK rbase cW cL cK rsv a2 w b h.r I hb (by omega) hg (a2.n - 1) (by omega) (by omega)).mono ?_
  rintro e w' ⟨he, sv', ⟨hR, hM⟩, hk⟩
  exact ⟨he, ⟨L, base, gA, gW, gL, gK, rbase, cW, cL, cK, sv, sv', h.ref hR hM (hk.imp id fun e => ⟨_, e, by omega⟩), bb, ⟨r1, r2.rem a2 b hb hg hn⟩, r3, r4⟩, MovesR.below h.r hM (by omega), MovesR.others h.r (by omega) hM⟩
theorem pair_refAdd {B X Y room : Nat} {a a2 : Anc} {w : World} (h : Pair B X Y room a a2 w) (b : Nat) (st : List Nat) (hs : a2.stack = b :: st) :
    Calls Try.prog 36 #[.pointer (some ⟨Y, 0, none⟩)] w fun e w' => e = .returned (.tuple #[.int .i64 (b : Int), .int .i64 0]) ∧ Pair B X Y room a (back a2 b) w' ∧ Below B w w' ∧ KeepsOthers w w' := by
  obtain ⟨L, base, gA, gW, gL, gK, rbase, cW, cL, cK, sv, rsv, h, bb, ⟨r1, r2⟩, r3, r4⟩ := h
  obtain ⟨I, hr⟩ := r2.inv r3
  obtain ⟨p1, p2, _⟩ := r2.pop r3 hs
  refine (refAdd_ok Y gA gW gL gK rbase cW cL cK rsv a2 w b st h.r I (by omega) hs (by omega)).mono ?_
  rintro e w' ⟨he, sv', ⟨hR, hM⟩, hk⟩
  exact ⟨he, ⟨L, base, gA, gW, gL, gK, rbase, cW, cL, cK, sv, sv', h.ref hR hM (.inl hk), bb, ⟨r1, p1⟩, r3, r4⟩, MovesR.below h.r hM (by omega), MovesR.others h.r (by omega) hM⟩
theorem pair_start {B X room : Nat} {a : Anc} {w w' : World} (h : Lies B X room a w) (hb : Below w.heap.size w w') {Y gA gW gL gK rbase cW cL cK : Nat} {rsv : Value} {a2 : Anc} (hR : RefAt Y gA gW gL gK rbase cW cL cK rsv a2 w') (hge : w.heap.size ≤ Y ∧ w.heap.size ≤ gA ∧ w.heap.size ≤ gW ∧ w.heap.size ≤ gL ∧ w.heap.size ≤ gK ∧ w.heap.size ≤ rbase) (h2 : Reach room a2) : Pair B X Y room a a2 w' := by
  have hsz := h.size
  obtain ⟨L, base, sv, h, h1, h2', h3, h4, h5⟩ := h
  have hX := h.hX
  have hL := h.hL
  have hmb := h.hb
  refine ⟨L, base, gA, gW, gL, gK, rbase, cW, cL, cK, sv, rsv, ⟨h.below hb, hR, ⟨?_, ?_⟩, ?_, ?_, ?_⟩, by omega, ⟨h3, h2⟩, h4, h5⟩
  · simp only [List.mem_cons, List.not_mem_nil, or_false]; omega
  · simp only [List.mem_cons, List.not_mem_nil, or_false]; omega
  · intro g hg
    have := (h.own.lt g hg).2
    simp only [List.mem_cons, List.not_mem_nil, or_false]; omega
  · intro g hg
    have := (hR.own.lt g hg).1
    omega
  · intro g hg hg2
    have := (h.own.lt g hg).2
    have := (hR.own.lt g hg2).1
    omega
theorem pair_refRemove_none {B X Y room : Nat} {a a2 : Anc} {w : World} (h : Pair B X Y room a a2 w) (b : Int) (hb : b < 0 ∨ (a2.room : Int) ≤ b ∨ a2.gone b.toNat ≠ 0) :
    Calls Try.prog 52 #[.pointer (some ⟨Y, 0, none⟩), .int .i64 b] w fun e w' => e = .returned (.int .i64 19) ∧ w' = w := by
  obtain ⟨L, base, gA, gW, gL, gK, rbase, cW, cL, cK, sv, rsv, h, _⟩ := h
  exact refRemove_none Y gA gW gL gK rbase cW cL cK rsv a2 w b h.r hb
theorem pair_refRemove_state {B X Y room : Nat} {a a2 : Anc} {w : World} (h : Pair B X Y room a a2 w) (b : Nat) (hb : b < a2.room) (hg : a2.gone b = 0) (hn : a2.n = 1) :
    Calls Try.prog 52 #[.pointer (some ⟨Y, 0, none⟩), .int .i64 (b : Int)] w fun e w' => e = .returned (.int .i64 15) ∧ w' = w := by
  obtain ⟨L, base, gA, gW, gL, gK, rbase, cW, cL, cK, sv, rsv, h, _⟩ := h
  exact refRemove_state Y gA gW gL gK rbase cW cL cK rsv a2 w b h.r hb hg hn
theorem pair_refAdd_full {B X Y room : Nat} {a a2 : Anc} {w : World} (h : Pair B X Y room a a2 w) (hs : a2.stack = []) :
    Calls Try.prog 36 #[.pointer (some ⟨Y, 0, none⟩)] w fun e w' => e = .returned (.tuple #[.int .i64 0, .int .i64 16]) ∧ w' = w := by
  obtain ⟨L, base, gA, gW, gL, gK, rbase, cW, cL, cK, sv, rsv, h, _⟩ := h
  exact refAdd_full Y gA gW gL gK rbase cW cL cK rsv a2 w h.r hs
end Go.Proofs.Ytlipkffnllmkgaa
