/- Texts of this proof, put together: GF GG GH GI GJ GK GL GM GN GO. -/
import Derived.Test.YtpbknbnhljjjcaaDoorMK
import Derived.Test.YtpbknbnhljjjcaaDoorMI
import Derived.Deep.RegionHeld3
import Derived.BigQuiet
namespace Go.Proofs.YtpbknbnhljjjcaaDoor
open Go.RowKit Go.Maps Go.Lib
/-- A row of flows. -/
def flowsC (l : List Fw) : List Value := l.flatMap Fw.cells
theorem fw_len (f : Fw) : f.cells.length = 14 := by simp [Fw.cells, Tup.cells]
theorem flowsC_append (l m : List Fw) : flowsC (l ++ m) = flowsC l ++ flowsC m := List.flatMap_append
theorem flowsC_snoc (l : List Fw) (f : Fw) : flowsC (l ++ [f]) = flowsC l ++ f.cells := by rw [flowsC_append]; unfold flowsC; simp
theorem flowsC_len (l : List Fw) : (flowsC l).length = l.length * 14 := by
  induction l with
  | nil => rfl
  | cons a l ih => show (a.cells ++ flowsC l).length = _; rw [List.length_append, ih, fw_len, List.length_cons]; omega
theorem flowsC_at {l : List Fw} {i : Nat} {x : Fw} (h : l[i]? = some x) (k : Nat) (hk : k < 14) : (flowsC l)[i * 14 + k]? = x.cells[k]? := by
  induction l generalizing i with
  | nil => simp at h
  | cons a l ih =>
    show (a.cells ++ flowsC l)[i * 14 + k]? = _
    cases i with
    | zero =>
      simp at h
      subst h
      rw [Nat.zero_mul, Nat.zero_add, List.getElem?_append_left (by rw [fw_len]; omega)]
    | succ i =>
      rw [List.getElem?_append_right (by rw [fw_len]; omega), fw_len, show (i + 1) * 14 + k - 14 = i * 14 + k from by omega]
      exact ih (by simpa using h)
/-- A row of flows in memory; one of them. -/
theorem flow_at {w : World} {base g n cap : Nat} {l : List Fw} (h : w.ownsRow base 52 14 (.slice (some ⟨g, 0, none⟩) n cap) n (flowsC l)) {i : Nat} {x : Fw} (hx : l[i]? = some x) : w.rangeAt g (i * 14) x.cells := fun j v hj => by
  have hl : j < 14 := by rw [← fw_len x]; exact (List.getElem?_eq_some_iff.1 hj).1
  exact rown_at h (i := i * 14 + j) (u := v) (by rw [flowsC_at hx j hl]; exact hj)
section
variable {S : Nat → Prop} {pl : Pl} {c : Cf} {g : FlG} {w w' : World}
/-- The clock has gone on. -/
def goG (g : FlG) (te : Nat) : FlG := { g with now := te, L := past te g.L }
/-- The clock, and a row of its own beside it. -/
def ClkR (W now o : Nat) (L : List Ent) (base : Nat) (v : Value) (n : Nat) (xs : List Value) (S : Nat → Prop) (w : World) : Prop :=
  ∃ S0, Whl S0 W now o L w ∧ (∀ i, S i ↔ S0 i ∨ v.ownBlock = some i) ∧ Off S0 base 3 1 v n xs w
theorem adv_in (h : Fls pl c g S w) (hT : TabAt 0 Lib.deBruijn64tab w) (hT0 : 0 < w.heap.size ∧ ¬ S 0) (a : Int) (ha : ¬ a < (g.now : Int)) (te : Nat) (hte : min a 1099511627776 = (te : Int)) :
    Calls Tryd.prog 43 #[.pointer (some ⟨pl.W, 0, none⟩), .int .i64 a] w fun e w' => ∃ v S', e = .returned v ∧ Fls pl c (goG g te) S' w' ∧ Only S w w' ∧ (∀ i, S' i → S i ∨ w.heap.size ≤ i) ∧ Off S' w.heap.size 3 1 v (upTil te g.L).length (keysC (upTil te g.L)) w' := by
  have h0 : Tri (ClkC pl.W g.now g.o g.L) (TabC pl.T c.room g.nB g.t) (PortsC pl.P pl.MP c g.N g.lay g.parts) pl.F (objF pl c) S w := Tri.rot h
  obtain ⟨S2, hc, hsub, hTn⟩ := Tri.oneAll (tabC ..) (portsC ..) h0
  refine (advance_whl (show Whl S2 pl.W g.now g.o g.L w from hc) hT ⟨fun e => hT0.2 (hsub 0 e), hT0.1⟩ a ha te hte).mono ?_
  rintro e w' ⟨v, S0, rfl, h1, h2, h3, h4⟩
  obtain ⟨U, k1, k2, k3⟩ := hTn (ClkR pl.W te g.o (past te g.L) w.heap.size v (upTil te g.L).length (keysC (upTil te g.L))) w' ⟨fun i => S0 i ∨ v.ownBlock = some i, ⟨S0, h1, fun i => Iff.rfl, h4⟩, h2, fun i hi => by
    rcases hi with e | e
    · exact h3 i e
    · exact .inr (h4.1.lt i e).1⟩
  obtain ⟨T2, T3, T1, ⟨⟨S0', q1, q2, q3⟩, q4, q5⟩, q6, d2, d3, d1, hU⟩ := k1
  refine ⟨v, fun i => U i ∧ v.ownBlock ≠ some i, rfl, Tri.rot (Tri.rot ⟨S0', T3, T1, ⟨q1, q4, q5⟩, q6, fun i hi => d2 i ((q2 i).2 (.inl hi)), d3, d1, fun i => ?_⟩), k2, fun i hi => k3 i hi.1, h4.1, fun i hi hU => hU.2 hi⟩
  show (U i ∧ v.ownBlock ≠ some i) ↔ _
  rw [hU i]
  constructor
  · rintro ⟨e | e | e | e, hv⟩
    · exact .inl e
    · rcases (q2 i).1 e with e | e
      · exact .inr (.inl e)
      · exact absurd e hv
    · exact .inr (.inr (.inl e))
    · exact .inr (.inr (.inr e))
  · rintro (e | e | e | e)
    · exact ⟨.inl e, fun hv => (d2 i ((q2 i).2 (.inr hv))).1 e⟩
    · exact ⟨.inr (.inl ((q2 i).2 (.inl e))), fun hv => q3.2 i hv e⟩
    · exact ⟨.inr (.inr (.inl e)), fun hv => (d2 i ((q2 i).2 (.inr hv))).2.1 e⟩
    · exact ⟨.inr (.inr (.inr e)), fun hv => (d2 i ((q2 i).2 (.inr hv))).2.2 e⟩
end
end Go.Proofs.YtpbknbnhljjjcaaDoor

namespace Go.Proofs.YtpbknbnhljjjcaaDoor
open Go.RowKit Go.Maps Go.Lib
/-- May a flow end? -/
structure EndOk (c : Cf) (g : FlG) (i : Nat) (r : Ro) (j : Nat) : Prop where
  one : 1 ≤ i
  row : g.t.rows[i]? = some (some r)
  a : r.a.ok
  b : r.b.ok
  fA : (g.t.fA r.a).isSome = true
  free : g.t.free.length < 1000000
  wf : (Lit.int .i64 (i : Int)).wf = true
  give : r.v.dsr = false → GiveOk c g r.v j
  now : g.now ≤ 1099511627776
  rest : c.rest ≤ 1099511627776
  N : g.N < 1000000
theorem end_any {S : Nat → Prop} {pl : Pl} {c : Cf} {g : FlG} {w : World} (h : Fls pl c g S w) {i : Nat} {r : Ro} {j : Nat} (k : EndOk c g i r j) :
    Calls Tryd.prog 41 #[.pointer (some ⟨pl.F, 0, none⟩), .int .i64 (i : Int)] w fun e w' => e = .returned r.v.v ∧ ∃ l, l.Perm ((i : Int) :: g.t.free) ∧ Tn (Fls pl c (endG c g i r l j)) S w w' :=
  end_fl h k.one k.row k.a k.b k.fA k.free k.wf j k.give k.now k.rest k.N
/-- Behind some turns: all flows, and rows of one's own beside them. -/
structure Go1 (pl : Pl) (c : Cf) (S : Nat → Prop) (w : World) (g : FlG) (U : Nat → Prop) (W : World) : Prop where
  fl : Fls pl c g U W
  on : Only S w W
  new : ∀ i, U i → S i ∨ w.heap.size ≤ i
theorem Go1.step {pl : Pl} {c : Cf} {S : Nat → Prop} {w : World} {g g' : FlG} {U : Nat → Prop} {W W' : World} (h : Go1 pl c S w g U W) (ht : Tn (Fls pl c g') U W W') : ∃ U', Go1 pl c S w g' U' W' ∧ Only U W W' ∧ ∀ i, U' i → U i ∨ W.heap.size ≤ i := by
  obtain ⟨V, k1, k2, k3⟩ := ht
  refine ⟨V, ⟨k1, ⟨k2.os.trans h.on.os, k2.tape.trans h.on.tape, k2.output.trans h.on.output, Nat.le_trans h.on.size k2.size, fun i hi hn => ?_⟩, fun i hi => ?_⟩, k2, k3⟩
  · refine (k2.block i (Nat.lt_of_lt_of_le hi h.on.size) (fun e => ?_)).trans (h.on.block i hi hn)
    rcases h.new i e with e | e
    · exact hn e
    · omega
  · rcases k3 i hi with e | e
    · exact h.new i e
    · exact .inr (Nat.le_trans h.on.size e)
theorem Go1.below {pl : Pl} {c : Cf} {S : Nat → Prop} {w : World} {g : FlG} {U : Nat → Prop} {W W' : World} (h : Go1 pl c S w g U W) (hb : Below W.heap.size W W') : Go1 pl c S w g U W' :=
  ⟨h.fl.below hb, h.on.trans (Only.of_below (S := S) hb) (fun _ _ hS => hS), h.new⟩
/-- A row of somebody's has grown. -/
theorem Go1.grown {pl : Pl} {c : Cf} {S : Nat → Prop} {w : World} {g : FlG} {U : Nat → Prop} {W W' : World} {row : Option Nat} (h : Go1 pl c S w g U W) (hg : W.grownBy W' row) (hr : ∀ b, row = some b → ¬ U b ∧ w.heap.size ≤ b) : Go1 pl c S w g U W' := by
  refine ⟨Fls.comp.kept h.fl (fun b hb => hg.block b (Fls.comp.low h.fl b hb) (fun e => (hr b e.symm).1 hb)) hg.size, ⟨hg.os.trans h.on.os, hg.tape.trans h.on.tape, hg.output.trans h.on.output, Nat.le_trans h.on.size hg.size, fun i hi hn => (hg.block i (Nat.lt_of_lt_of_le hi h.on.size) (fun e => by have := (hr i e.symm).2; omega)).trans (h.on.block i hi hn)⟩, h.new⟩
end Go.Proofs.YtpbknbnhljjjcaaDoor

namespace Go.Proofs.YtpbknbnhljjjcaaDoor
open Go.RowKit Go.Maps Go.Lib
theorem FCB.b5 {b : Nat} {f : Fw} {W : World} (h : FCB b f W) (v : Int) : FCB b { f with b := { f.b with p := v } } (W.setCell ⟨b, 5, none⟩ (.int .i64 v)) := by
  obtain ⟨⟨p0, p1, p2, p3, p4⟩, ⟨q0, q1, q2, q3, q4⟩, r0, r1, r2, r3⟩ := h
  have q : ∀ o u, o ≠ 5 → W.cell? ⟨b, o, none⟩ = some u → (W.setCell ⟨b, 5, none⟩ (.int .i64 v)).cell? ⟨b, o, none⟩ = some u := fun o u ho hu => by
    rw [World.cell?_setCell_other _ _ _ _ (by simp)]
    exact hu
  exact ⟨⟨q _ _ (by omega) p0, q _ _ (by omega) p1, q _ _ (by omega) p2, q _ _ (by omega) p3, q _ _ (by omega) p4⟩, ⟨World.cell?_setCell_same _ _ _ q0, q _ _ (by omega) q1, q _ _ (by omega) q2, q _ _ (by omega) q3, q _ _ (by omega) q4⟩, q _ _ (by omega) r0, q _ _ (by omega) r1, q _ _ (by omega) r2, q _ _ (by omega) r3⟩
theorem Cpy.b5 {w W : World} {b : Nat} {f : Fw} (h : Cpy w b f W) (v : Int) : Cpy w b { f with b := { f.b with p := v } } (W.setCell ⟨b, 5, none⟩ (.int .i64 v)) :=
  ⟨below_put h.bel h.lo 5 [.int .i64 v], h.box.b5 v, World.there_setCells h.fre b 5 [.int .i64 v], h.lo, by have := (puts_world [.int .i64 v] W b 5).2.2.2; exact Nat.lt_of_lt_of_le h.hi (Nat.le_of_eq this.symm)⟩
theorem FCB.b6 {b : Nat} {f : Fw} {W : World} (h : FCB b f W) (v : Int) : FCB b { f with b := { f.b with s := v } } (W.setCell ⟨b, 6, none⟩ (.int .u32 v)) := by
  obtain ⟨⟨p0, p1, p2, p3, p4⟩, ⟨q0, q1, q2, q3, q4⟩, r0, r1, r2, r3⟩ := h
  have q : ∀ o u, o ≠ 6 → W.cell? ⟨b, o, none⟩ = some u → (W.setCell ⟨b, 6, none⟩ (.int .u32 v)).cell? ⟨b, o, none⟩ = some u := fun o u ho hu => by
    rw [World.cell?_setCell_other _ _ _ _ (by simp)]
    exact hu
  exact ⟨⟨q _ _ (by omega) p0, q _ _ (by omega) p1, q _ _ (by omega) p2, q _ _ (by omega) p3, q _ _ (by omega) p4⟩, ⟨q _ _ (by omega) q0, World.cell?_setCell_same _ _ _ q1, q _ _ (by omega) q2, q _ _ (by omega) q3, q _ _ (by omega) q4⟩, q _ _ (by omega) r0, q _ _ (by omega) r1, q _ _ (by omega) r2, q _ _ (by omega) r3⟩
theorem Cpy.b6 {w W : World} {b : Nat} {f : Fw} (h : Cpy w b f W) (v : Int) : Cpy w b { f with b := { f.b with s := v } } (W.setCell ⟨b, 6, none⟩ (.int .u32 v)) :=
  ⟨below_put h.bel h.lo 6 [.int .u32 v], h.box.b6 v, World.there_setCells h.fre b 6 [.int .u32 v], h.lo, by have := (puts_world [.int .u32 v] W b 6).2.2.2; exact Nat.lt_of_lt_of_le h.hi (Nat.le_of_eq this.symm)⟩
theorem FCB.b7 {b : Nat} {f : Fw} {W : World} (h : FCB b f W) (v : Int) : FCB b { f with b := { f.b with d := v } } (W.setCell ⟨b, 7, none⟩ (.int .u32 v)) := by
  obtain ⟨⟨p0, p1, p2, p3, p4⟩, ⟨q0, q1, q2, q3, q4⟩, r0, r1, r2, r3⟩ := h
  have q : ∀ o u, o ≠ 7 → W.cell? ⟨b, o, none⟩ = some u → (W.setCell ⟨b, 7, none⟩ (.int .u32 v)).cell? ⟨b, o, none⟩ = some u := fun o u ho hu => by
    rw [World.cell?_setCell_other _ _ _ _ (by simp)]
    exact hu
  exact ⟨⟨q _ _ (by omega) p0, q _ _ (by omega) p1, q _ _ (by omega) p2, q _ _ (by omega) p3, q _ _ (by omega) p4⟩, ⟨q _ _ (by omega) q0, q _ _ (by omega) q1, World.cell?_setCell_same _ _ _ q2, q _ _ (by omega) q3, q _ _ (by omega) q4⟩, q _ _ (by omega) r0, q _ _ (by omega) r1, q _ _ (by omega) r2, q _ _ (by omega) r3⟩
theorem Cpy.b7 {w W : World} {b : Nat} {f : Fw} (h : Cpy w b f W) (v : Int) : Cpy w b { f with b := { f.b with d := v } } (W.setCell ⟨b, 7, none⟩ (.int .u32 v)) :=
  ⟨below_put h.bel h.lo 7 [.int .u32 v], h.box.b7 v, World.there_setCells h.fre b 7 [.int .u32 v], h.lo, by have := (puts_world [.int .u32 v] W b 7).2.2.2; exact Nat.lt_of_lt_of_le h.hi (Nat.le_of_eq this.symm)⟩
theorem FCB.b8 {b : Nat} {f : Fw} {W : World} (h : FCB b f W) (v : Int) : FCB b { f with b := { f.b with x := v } } (W.setCell ⟨b, 8, none⟩ (.int .i64 v)) := by
  obtain ⟨⟨p0, p1, p2, p3, p4⟩, ⟨q0, q1, q2, q3, q4⟩, r0, r1, r2, r3⟩ := h
  have q : ∀ o u, o ≠ 8 → W.cell? ⟨b, o, none⟩ = some u → (W.setCell ⟨b, 8, none⟩ (.int .i64 v)).cell? ⟨b, o, none⟩ = some u := fun o u ho hu => by
    rw [World.cell?_setCell_other _ _ _ _ (by simp)]
    exact hu
  exact ⟨⟨q _ _ (by omega) p0, q _ _ (by omega) p1, q _ _ (by omega) p2, q _ _ (by omega) p3, q _ _ (by omega) p4⟩, ⟨q _ _ (by omega) q0, q _ _ (by omega) q1, q _ _ (by omega) q2, World.cell?_setCell_same _ _ _ q3, q _ _ (by omega) q4⟩, q _ _ (by omega) r0, q _ _ (by omega) r1, q _ _ (by omega) r2, q _ _ (by omega) r3⟩
theorem Cpy.b8 {w W : World} {b : Nat} {f : Fw} (h : Cpy w b f W) (v : Int) : Cpy w b { f with b := { f.b with x := v } } (W.setCell ⟨b, 8, none⟩ (.int .i64 v)) :=
  ⟨below_put h.bel h.lo 8 [.int .i64 v], h.box.b8 v, World.there_setCells h.fre b 8 [.int .i64 v], h.lo, by have := (puts_world [.int .i64 v] W b 8).2.2.2; exact Nat.lt_of_lt_of_le h.hi (Nat.le_of_eq this.symm)⟩
theorem FCB.b9 {b : Nat} {f : Fw} {W : World} (h : FCB b f W) (v : Int) : FCB b { f with b := { f.b with y := v } } (W.setCell ⟨b, 9, none⟩ (.int .i64 v)) := by
  obtain ⟨⟨p0, p1, p2, p3, p4⟩, ⟨q0, q1, q2, q3, q4⟩, r0, r1, r2, r3⟩ := h
  have q : ∀ o u, o ≠ 9 → W.cell? ⟨b, o, none⟩ = some u → (W.setCell ⟨b, 9, none⟩ (.int .i64 v)).cell? ⟨b, o, none⟩ = some u := fun o u ho hu => by
    rw [World.cell?_setCell_other _ _ _ _ (by simp)]
    exact hu
  exact ⟨⟨q _ _ (by omega) p0, q _ _ (by omega) p1, q _ _ (by omega) p2, q _ _ (by omega) p3, q _ _ (by omega) p4⟩, ⟨q _ _ (by omega) q0, q _ _ (by omega) q1, q _ _ (by omega) q2, q _ _ (by omega) q3, World.cell?_setCell_same _ _ _ q4⟩, q _ _ (by omega) r0, q _ _ (by omega) r1, q _ _ (by omega) r2, q _ _ (by omega) r3⟩
theorem Cpy.b9 {w W : World} {b : Nat} {f : Fw} (h : Cpy w b f W) (v : Int) : Cpy w b { f with b := { f.b with y := v } } (W.setCell ⟨b, 9, none⟩ (.int .i64 v)) :=
  ⟨below_put h.bel h.lo 9 [.int .i64 v], h.box.b9 v, World.there_setCells h.fre b 9 [.int .i64 v], h.lo, by have := (puts_world [.int .i64 v] W b 9).2.2.2; exact Nat.lt_of_lt_of_le h.hi (Nat.le_of_eq this.symm)⟩
theorem St.b8 {pl : Pl} {c : Cf} {S : Nat → Prop} {w W : World} {b : Nat} {f : Fw} {g : FlG} {U : Nat → Prop} (h : St pl c S w b b f g U W) (hlo : w.heap.size ≤ b) (v : Int) : St pl c S w b b { f with b := { f.b with x := v } } g U (W.setCell ⟨b, 8, none⟩ (.int .i64 v)) := by
  have e4 := (puts_world [.int .i64 v] W b 8).2.2.2
  have q : ∀ i, i ≠ b → (W.setCell ⟨b, 8, none⟩ (.int .i64 v)).heap[i]? = W.heap[i]? := fun i hi => Below.heap_setCell _ _ _ _ hi
  have hl : b < (W.setCell ⟨b, 8, none⟩ (.int .i64 v)).heap.size := Nat.lt_of_lt_of_le h.l4 (Nat.le_of_eq e4.symm)
  exact ⟨Fls.comp.kept h.fl (fun i hi => q i (fun e => h.n4 (e ▸ hi))) (Nat.le_of_eq e4.symm), ⟨h.on.os, h.on.tape, h.on.output, Nat.le_trans h.on.size (Nat.le_of_eq e4.symm), fun i hi hn => (q i (by omega)).trans (h.on.block i hi hn)⟩, h.new, h.n4, h.n5, h.c5.b8 v, World.there_setCells h.t4 b 8 [.int .i64 v], hl, hl⟩
theorem cpy_box {w wx : World} (h : Below w.heap.size w wx) (f : Fw) : Cpy w wx.heap.size f (wx.alloc (boxF f)) :=
  ⟨h.alloc h.size _, boxF_cells (heap_alloc_new wx _), box_there (heap_alloc_new wx _), h.size, by simp⟩
/-- A copy, before anything has turned. -/
theorem Cpy.start {pl : Pl} {c : Cf} {S : Nat → Prop} {w W : World} {b : Nat} {f : Fw} {g : FlG} (k : Cpy w b f W) (h : Fls pl c g S w) : St pl c S w b b f g S W :=
  ⟨h.below k.bel, Only.of_below k.bel, fun _ hi => .inl hi, fun e => by have := Fls.comp.low h _ e; have := k.lo; omega, fun e => by have := Fls.comp.low h _ e; have := k.lo; omega, k.box, k.fre, k.hi, k.hi⟩
theorem St.below {pl : Pl} {c : Cf} {S : Nat → Prop} {w W W' : World} {b4 b5 : Nat} {f : Fw} {g : FlG} {U : Nat → Prop} (h : St pl c S w b4 b5 f g U W) (hb : Below W.heap.size W W') : St pl c S w b4 b5 f g U W' := by
  exact ⟨h.fl.below hb, h.on.trans (Only.of_below (S := S) hb) (fun _ _ hS => hS), h.new, h.n4, h.n5, h.c5.keep (hb.block _ h.l5), there_keep h.t4 (hb.block _ h.l4), Nat.lt_of_lt_of_le h.l4 hb.size, Nat.lt_of_lt_of_le h.l5 hb.size⟩
theorem St.tab {pl : Pl} {c : Cf} {S : Nat → Prop} {w W : World} {b4 b5 : Nat} {f : Fw} {g : FlG} {U : Nat → Prop} (h : St pl c S w b4 b5 f g U W) (hTb : TabAt 0 Lib.deBruijn64tab w) (hT0 : 0 < w.heap.size ∧ ¬ S 0) : TabAt 0 Lib.deBruijn64tab W ∧ 0 < W.heap.size ∧ ¬ U 0 := by
  refine ⟨TabAt.kept hTb (h.on.block 0 hT0.1 hT0.2), Nat.lt_of_lt_of_le hT0.1 h.on.size, fun e => ?_⟩
  rcases h.new 0 e with e | e
  · exact hT0.2 e
  · omega
def boxB (bi ba bp : Int) : Obj := .cells #[.int .i64 bi, .int .u32 ba, .int .i64 bp] 37
theorem u32_wf {x : Int} (h1 : 0 ≤ x) (h2 : x < 4294967296) : (Lit.int .u32 x).wf = true := by
  simp [Lit.wf, IntKind.min, IntKind.max, IntKind.signed, IntKind.bits]
  exact ⟨by omega, by omega⟩
/-- A client's names that may be. -/
structure Net (x : Tup) : Prop where
  hp : 0 ≤ x.p ∧ x.p < 256
  hs : 0 ≤ x.s ∧ x.s < 4294967296
  hd : 0 ≤ x.d ∧ x.d < 4294967296
  hx : 0 ≤ x.x ∧ x.x < 65536
  hy : 0 ≤ x.y ∧ x.y < 65536
theorem Net.ok {x : Tup} (h : Net x) : x.ok := by
  obtain ⟨⟨a1, a2⟩, ⟨b1, b2⟩, ⟨c1, c2⟩, ⟨d1, d2⟩, ⟨e1, e2⟩⟩ := h
  exact ⟨i64_wf' (by omega) (by omega), u32_wf b1 b2, u32_wf c1 c2, i64_wf' (by omega) (by omega), i64_wf' (by omega) (by omega)⟩
theorem key_net {x : Tup} (h : Net x) : ∃ k : ByteArray, ∀ w, Calls Tryd.prog 32 #[x.v] w fun e w' => e = .returned (.tuple #[.string k, .bool true]) ∧ Below w.heap.size w w' := by
  obtain ⟨p, s, d, x, y⟩ := x
  obtain ⟨⟨a1, a2⟩, ⟨b1, b2⟩, ⟨c1, c2⟩, ⟨d1, d2⟩, ⟨e1, e2⟩⟩ := h
  dsimp only at a1 a2 b1 b2 c1 c2 d1 d2 e1 e2
  obtain ⟨p, rfl⟩ : ∃ n : Nat, p = n := ⟨p.toNat, by omega⟩
  obtain ⟨s, rfl⟩ : ∃ n : Nat, s = n := ⟨s.toNat, by omega⟩
  obtain ⟨d, rfl⟩ : ∃ n : Nat, d = n := ⟨d.toNat, by omega⟩
  obtain ⟨x, rfl⟩ : ∃ n : Nat, x = n := ⟨x.toNat, by omega⟩
  obtain ⟨y, rfl⟩ : ∃ n : Nat, y = n := ⟨y.toNat, by omega⟩
  exact ⟨_, fun w => key_ok p s d x y (by omega) (by omega) (by omega) (by omega) (by omega) w⟩
end Go.Proofs.YtpbknbnhljjjcaaDoor

namespace Go.Proofs.YtpbknbnhljjjcaaDoor
open Go.RowKit Go.Maps Go.Lib
/-- A world's draws do not count. -/
theorem below_nq {B : Nat} {w W : World} (h : Below B w W) (n : Nat) : Below B w (W.drewN n) := below_drewN h n
set_option maxRecDepth 100000 in
set_option maxHeartbeats 4000000 in
theorem open_nat {S : Nat → Prop} {pl : Pl} {c : Cf} {g : FlG} {w : World} (h : Fls pl c g S w) (hTb : TabAt 0 Lib.deBruijn64tab w) (hT0 : 0 < w.heap.size ∧ ¬ S 0) {xs xd xx xy : Int} (hx : Net ⟨6, xs, xd, xx, xy⟩) (sv nat bi ba bp flags : Int) (hnat : (nat == 0) = false) (s : Nat) (hst : fstep 6 0 false flags = (s, true)) (hno : g.t.fA ⟨6, xs, xd, xx, xy⟩ = none) (hroom : g.t.n ≠ c.room) (hnow : g.now < 1099511627776) (port hd : Int) (hhd : -9223372036854775808 ≤ hd ∧ hd ≤ 9223372036854775807) (RT RP : FlG → Prop)
    (hTk : ∀ (U : Nat → Prop) (W : World), Fls pl c g U W → TabAt 0 Lib.deBruijn64tab W → (0 < W.heap.size ∧ ¬ U 0) → Calls Tryd.prog 34 #[.pointer (some ⟨pl.P, 0, none⟩), .agg #[.int .i64 6, .int .u32 nat, .int .u32 ba, .int .i64 bp], .int .i64 (g.now : Int)] W fun e w' => e = .returned (.tuple #[.int .i64 port, .int .i64 0]) ∧ ∃ g1, RT g1 ∧ Tn (Fls pl c g1) U W w')
    (hPt : ∀ g1, RT g1 → ∀ (U : Nat → Prop) (W : World), Fls pl c g1 U W → Calls Tryd.prog 36 #[.pointer (some ⟨pl.T, 0, none⟩), (⟨6, xs, xd, xx, xy⟩ : Tup).v, (⟨6, nat, ba, port, bp⟩ : Tup).v, (⟨⟨6, xs, xd, xx, xy⟩, ⟨6, nat, ba, port, bp⟩, sv, bi, (s : Int), false⟩ : Fw).v] W fun e w' => e = .returned (.tuple #[.int .i64 hd, .int .i64 0]) ∧ ∃ g2, RP g2 ∧ Tn (Fls pl c g2) U W w')
    (n : Nat) (hsw : (Lit.int .i64 (s : Int)).wf = true) (hn : c.tm.of (s : Int) = some (n : Int)) (hn1 : 1 ≤ n) (hn2 : n ≤ 1073741824) (hA : ∀ g2, RP g2 → g2.now = g.now ∧ g2.o < 549755813887) :
    Calls Tryd.prog 15 #[.pointer (some ⟨pl.F, 0, none⟩), .agg #[.int .i64 6, .int .u32 xs, .int .u32 xd, .int .i64 xx, .int .i64 xy], .int .i64 sv, .int .u32 nat, .agg #[.int .i64 bi, .int .u32 ba, .int .i64 bp], .int .i64 flags] w fun e w' => e = .returned (.tuple #[.int .i64 hd, .int .i64 0]) ∧ ∃ g2, RP g2 ∧ Tn (Fls pl c (armG g2 hd (min (g.now + n) 1099511627776))) S w w' := by
  obtain ⟨ks, hks⟩ := key_net hx
  have HKEY := Lib.hid hks
  have hxo := hx.ok
  obtain ⟨w1, hw1⟩ : ∃ w1, (w.alloc (boxT ⟨6, xs, xd, xx, xy⟩)).alloc (boxB bi ba bp) = w1 := ⟨_, rfl⟩
  have hb1 : Below w.heap.size w w1 := by rw [← hw1]; exact ((Below.refl _ w).alloc (Nat.le_refl _) _).alloc (by simp) _
  have hs1 : w1.heap.size = w.heap.size + 2 := by rw [← hw1]; simp
  have x7 : w1.heap[w.heap.size]? = some (boxT ⟨6, xs, xd, xx, xy⟩) := by
    rw [← hw1]
    exact (Below.heap_alloc _ _ _ (by simp)).trans (heap_alloc_new w _)
  have x10 : w1.heap[w.heap.size + 1]? = some (boxB bi ba bp) := by
    rw [← hw1]
    have := heap_alloc_new (w.alloc (boxT ⟨6, xs, xd, xx, xy⟩)) (boxB bi ba bp)
    rwa [World.size_alloc] at this
  have h1 := h.below hb1
  have HK := Lib.hid (show ∀ W : World, Below w1.heap.size w1 W → (W.cell? ⟨pl.F, 5, none⟩ = some (.pointer (some ⟨pl.P, 0, none⟩)) ∧ W.cell? ⟨pl.F, 7, none⟩ = some (.pointer (some ⟨pl.T, 0, none⟩)) ∧ W.cell? ⟨pl.F, 8, none⟩ = some (.int .i64 (c.room : Int)) ∧ W.cell? ⟨w.heap.size, 0, none⟩ = some (.int .i64 6) ∧ W.cell? ⟨w.heap.size, 1, none⟩ = some (.int .u32 xs) ∧ W.cell? ⟨w.heap.size, 2, none⟩ = some (.int .u32 xd) ∧ W.cell? ⟨w.heap.size, 3, none⟩ = some (.int .i64 xx) ∧ W.cell? ⟨w.heap.size, 4, none⟩ = some (.int .i64 xy) ∧ W.cell? ⟨(w.heap.size + 1), 0, none⟩ = some (.int .i64 bi) ∧ W.cell? ⟨(w.heap.size + 1), 1, none⟩ = some (.int .u32 ba) ∧ W.cell? ⟨(w.heap.size + 1), 2, none⟩ = some (.int .i64 bp)) from fun W hb => by
    obtain ⟨t0, t1, t2, t3, t4⟩ := boxT_cells ((hb.block _ (by omega)).trans x7)
    have e10 := (hb.block _ (by omega)).trans x10
    unfold boxB at e10
    have k := (h1.below hb).cells
    exact ⟨k.pp, k.tt, k.rr, t0, t1, t2, t3, t4, by simp [World.cell?, e10], by simp [World.cell?, e10], by simp [World.cell?, e10]⟩)
  have HLN := Lib.hid (fun (W : World) (hb : Below w1.heap.size w1 W) => len_fl (h1.below hb))
  have HNW := Lib.hid (fun (W : World) (hb : Below w1.heap.size w1 W) => now_fl (h1.below hb))
  have HAH := Lib.hid (fun (W : World) (hb : Below w1.heap.size w1 W) => ahead_fl (h1.below hb) hxo)
  have HSTP := Lib.hid (fun (W : World) => (show Calls Tryd.prog 33 #[.int .i64 6, .int .i64 0, .bool false, .int .i64 flags] W fun e w' => e = .returned (.tuple #[.int .i64 ((fstep 6 0 false flags).1 : Int), .bool (fstep 6 0 false flags).2]) ∧ Below W.heap.size W w' from fstep_ok 6 0 (by omega) false flags W))
  rw [hst] at HSTP
  have HNO := Lib.hid hno
  rw [hno] at HAH
  unfold hT at HAH
  have HNR := Lib.hid (show ((g.t.n : Int) == (c.room : Int)) = false from by simp; omega)
  have HNN := Lib.hid (show ((g.now : Int) == 1099511627776) = false from by simp; omega)
  have hS1 : ∀ i, S i → i < w1.heap.size := fun i hi => Fls.comp.low h1 i hi
  have hT1 : TabAt 0 Lib.deBruijn64tab w1 := TabAt.kept hTb (hb1.block 0 hT0.1)
  have hT01 : 0 < w1.heap.size ∧ ¬ S 0 := ⟨by omega, hT0.2⟩
  have HC := Lib.hid (fun (wx : World) (hb : Below w1.heap.size w1 wx) => cpy_box hb (⟨⟨6, xs, xd, xx, xy⟩, ⟨6, xs, xd, xx, xy⟩, sv, bi, (s : Int), false⟩ : Fw))
  have HO := Lib.hid (flow_one (⟨⟨6, xs, xd, xx, xy⟩, ⟨6, xs, xd, xx, xy⟩, sv, bi, (s : Int), false⟩ : Fw))
  have HKO := Lib.hid (fun (W : World) => keyOf_ok (⟨⟨6, xs, xd, xx, xy⟩, ⟨6, nat, ba, xx, bp⟩, sv, bi, (s : Int), false⟩ : Fw) W)
  have HTK := Lib.hid (show ∀ (bx : Nat) (W : World), Cpy w1 bx (⟨⟨6, xs, xd, xx, xy⟩, ⟨6, nat, ba, xx, bp⟩, sv, bi, (s : Int), false⟩ : Fw) W → Calls Tryd.prog 34 #[.pointer (some ⟨pl.P, 0, none⟩), .agg #[.int .i64 6, .int .u32 nat, .int .u32 ba, .int .i64 bp], .int .i64 (g.now : Int)] W fun e w' => e = .returned (.tuple #[.int .i64 port, .int .i64 0]) ∧ ∃ g1, RT g1 ∧ ∃ U, St pl c S w1 bx bx (⟨⟨6, xs, xd, xx, xy⟩, ⟨6, nat, ba, xx, bp⟩, sv, bi, (s : Int), false⟩ : Fw) g1 U w' from fun bx W k => by
    have s0 := k.start h1
    obtain ⟨z1, z2⟩ := s0.tab hT1 hT01
    refine (hTk _ _ s0.fl z1 z2).mono ?_
    rintro e w' ⟨rfl, g1, r1, t1⟩
    exact ⟨rfl, g1, r1, s0.step t1⟩)
  have HPT := Lib.hid (show ∀ (g1 : FlG), RT g1 → ∀ (bx : Nat) (U : Nat → Prop) (W : World), St pl c S w1 bx bx (⟨⟨6, xs, xd, xx, xy⟩, ⟨6, nat, ba, port, bp⟩, sv, bi, (s : Int), false⟩ : Fw) g1 U W → Calls Tryd.prog 36 #[.pointer (some ⟨pl.T, 0, none⟩), .agg #[.int .i64 6, .int .u32 xs, .int .u32 xd, .int .i64 xx, .int .i64 xy], .agg #[.int .i64 6, .int .u32 nat, .int .u32 ba, .int .i64 port, .int .i64 bp], .agg #[.int .i64 6, .int .u32 xs, .int .u32 xd, .int .i64 xx, .int .i64 xy, .int .i64 6, .int .u32 nat, .int .u32 ba, .int .i64 port, .int .i64 bp, .int .i64 sv, .int .i64 bi, .int .i64 (s : Int), .bool false]] W fun e w' => e = .returned (.tuple #[.int .i64 hd, .int .i64 0]) ∧ ∃ g2, RP g2 ∧ ∃ U', St pl c S w1 bx bx (⟨⟨6, xs, xd, xx, xy⟩, ⟨6, nat, ba, port, bp⟩, sv, bi, (s : Int), false⟩ : Fw) g2 U' w' from fun g1 r1 bx U W k => by
    refine (hPt g1 r1 U W k.fl).mono ?_
    rintro e w' ⟨rfl, g2, r2, t2⟩
    exact ⟨rfl, g2, r2, k.step t2⟩)
  have HARM := Lib.hid (show ∀ (g2 : FlG), RP g2 → ∀ (bx : Nat) (U : Nat → Prop) (W : World), St pl c S w1 bx bx (⟨⟨6, xs, xd, xx, xy⟩, ⟨6, nat, ba, port, bp⟩, sv, bi, (s : Int), false⟩ : Fw) g2 U W → Calls Tryd.prog 38 #[.pointer (some ⟨pl.F, 0, none⟩), .int .i64 hd, .agg #[.int .i64 6, .int .u32 xs, .int .u32 xd, .int .i64 xx, .int .i64 xy, .int .i64 6, .int .u32 nat, .int .u32 ba, .int .i64 port, .int .i64 bp, .int .i64 sv, .int .i64 bi, .int .i64 (s : Int), .bool false]] W fun e w' => e = .returned (.tuple #[]) ∧ Tn (Fls pl c (armG g2 hd (min (g.now + n) 1099511627776))) S w w' from fun g2 r2 bx U W k => by
    obtain ⟨e1, e2⟩ := hA g2 r2
    refine (arm_fl k.fl (⟨⟨6, xs, xd, xx, xy⟩, ⟨6, nat, ba, port, bp⟩, sv, bi, (s : Int), false⟩ : Fw) hhd n hsw hn hn1 hn2 (by rw [e1]; exact hnow) e2).mono ?_
    rintro e w' ⟨rfl, t3⟩
    rw [e1] at t3
    obtain ⟨V, k6⟩ := St.step k t3
    exact ⟨rfl, Tn.after hb1 ⟨V, k6.fl, k6.on, k6.new⟩⟩)
  have HS1 := Lib.hid hs1
  have HW := Lib.hid hw1
  have HS := Lib.hid flow_size
  have HKA := Lib.hid (show ∀ (bx : Nat) (W : World), Cpy w1 bx (⟨⟨6, xs, xd, xx, xy⟩, ⟨6, xs, xd, xx, xy⟩, sv, bi, (s : Int), false⟩ : Fw) W → (W.cell? ⟨bx, 0, none⟩ = some (.int .i64 6) ∧ W.cell? ⟨bx, 1, none⟩ = some (.int .u32 xs) ∧ W.cell? ⟨bx, 2, none⟩ = some (.int .u32 xd) ∧ W.cell? ⟨bx, 3, none⟩ = some (.int .i64 xx) ∧ W.cell? ⟨bx, 4, none⟩ = some (.int .i64 xy) ∧ W.cell? ⟨bx, 5, none⟩ = some (.int .i64 6) ∧ W.cell? ⟨bx, 6, none⟩ = some (.int .u32 xs) ∧ W.cell? ⟨bx, 7, none⟩ = some (.int .u32 xd) ∧ W.cell? ⟨bx, 8, none⟩ = some (.int .i64 xx) ∧ W.cell? ⟨bx, 9, none⟩ = some (.int .i64 xy) ∧ W.cell? ⟨bx, 10, none⟩ = some (.int .i64 sv) ∧ W.cell? ⟨bx, 11, none⟩ = some (.int .i64 bi) ∧ W.cell? ⟨bx, 12, none⟩ = some (.int .i64 (s : Int)) ∧ W.cell? ⟨bx, 13, none⟩ = some (.bool false) ∧ W.frozen? ⟨bx, 6, none⟩ = false ∧ W.frozen? ⟨bx, 7, none⟩ = false ∧ W.frozen? ⟨bx, 9, none⟩ = false) from fun bx W k => by
    obtain ⟨⟨p0, p1, p2, p3, p4⟩, ⟨q0, q1, q2, q3, q4⟩, r0, r1, r2, r3⟩ := k.box
    have fz : ∀ o, o < 14 → W.frozen? ⟨bx, o, none⟩ = false := fun o ho => by have := (k.fre o ho).2; rwa [Nat.zero_add] at this
    exact ⟨p0, p1, p2, p3, p4, q0, q1, q2, q3, q4, r0, r1, r2, r3, fz _ (by omega), fz _ (by omega), fz _ (by omega)⟩)
  have HKB := Lib.hid (show ∀ (bx : Nat) (W : World), Cpy w1 bx (⟨⟨6, xs, xd, xx, xy⟩, ⟨6, nat, ba, xx, bp⟩, sv, bi, (s : Int), false⟩ : Fw) W → (W.cell? ⟨pl.F, 5, none⟩ = some (.pointer (some ⟨pl.P, 0, none⟩)) ∧ W.cell? ⟨bx, 0, none⟩ = some (.int .i64 6) ∧ W.cell? ⟨bx, 1, none⟩ = some (.int .u32 xs) ∧ W.cell? ⟨bx, 2, none⟩ = some (.int .u32 xd) ∧ W.cell? ⟨bx, 3, none⟩ = some (.int .i64 xx) ∧ W.cell? ⟨bx, 4, none⟩ = some (.int .i64 xy) ∧ W.cell? ⟨bx, 5, none⟩ = some (.int .i64 6) ∧ W.cell? ⟨bx, 6, none⟩ = some (.int .u32 nat) ∧ W.cell? ⟨bx, 7, none⟩ = some (.int .u32 ba) ∧ W.cell? ⟨bx, 8, none⟩ = some (.int .i64 xx) ∧ W.cell? ⟨bx, 9, none⟩ = some (.int .i64 bp) ∧ W.cell? ⟨bx, 10, none⟩ = some (.int .i64 sv) ∧ W.cell? ⟨bx, 11, none⟩ = some (.int .i64 bi) ∧ W.cell? ⟨bx, 12, none⟩ = some (.int .i64 (s : Int)) ∧ W.cell? ⟨bx, 13, none⟩ = some (.bool false)) from fun bx W k => by
    obtain ⟨⟨p0, p1, p2, p3, p4⟩, ⟨q0, q1, q2, q3, q4⟩, r0, r1, r2, r3⟩ := k.box
    exact ⟨(h1.below k.bel).cells.pp, p0, p1, p2, p3, p4, q0, q1, q2, q3, q4, r0, r1, r2, r3⟩)
  have HKT := Lib.hid (show ∀ (bx : Nat) (g1 : FlG) (U : Nat → Prop) (W : World), St pl c S w1 bx bx (⟨⟨6, xs, xd, xx, xy⟩, ⟨6, nat, ba, xx, bp⟩, sv, bi, (s : Int), false⟩ : Fw) g1 U W → (W.cell? ⟨pl.F, 5, none⟩ = some (.pointer (some ⟨pl.P, 0, none⟩)) ∧ W.cell? ⟨bx, 0, none⟩ = some (.int .i64 6) ∧ W.cell? ⟨bx, 1, none⟩ = some (.int .u32 xs) ∧ W.cell? ⟨bx, 2, none⟩ = some (.int .u32 xd) ∧ W.cell? ⟨bx, 3, none⟩ = some (.int .i64 xx) ∧ W.cell? ⟨bx, 4, none⟩ = some (.int .i64 xy) ∧ W.cell? ⟨bx, 5, none⟩ = some (.int .i64 6) ∧ W.cell? ⟨bx, 6, none⟩ = some (.int .u32 nat) ∧ W.cell? ⟨bx, 7, none⟩ = some (.int .u32 ba) ∧ W.cell? ⟨bx, 8, none⟩ = some (.int .i64 xx) ∧ W.cell? ⟨bx, 9, none⟩ = some (.int .i64 bp) ∧ W.cell? ⟨bx, 10, none⟩ = some (.int .i64 sv) ∧ W.cell? ⟨bx, 11, none⟩ = some (.int .i64 bi) ∧ W.cell? ⟨bx, 12, none⟩ = some (.int .i64 (s : Int)) ∧ W.cell? ⟨bx, 13, none⟩ = some (.bool false)) from fun bx g1 U W k => by
    obtain ⟨⟨p0, p1, p2, p3, p4⟩, ⟨q0, q1, q2, q3, q4⟩, r0, r1, r2, r3⟩ := k.c5
    exact ⟨k.fl.cells.pp, p0, p1, p2, p3, p4, q0, q1, q2, q3, q4, r0, r1, r2, r3⟩)
  have HKC := Lib.hid (show ∀ (bx : Nat) (g1 : FlG) (U : Nat → Prop) (W : World), St pl c S w1 bx bx (⟨⟨6, xs, xd, xx, xy⟩, ⟨6, nat, ba, port, bp⟩, sv, bi, (s : Int), false⟩ : Fw) g1 U W → (W.cell? ⟨pl.F, 7, none⟩ = some (.pointer (some ⟨pl.T, 0, none⟩)) ∧ W.cell? ⟨bx, 0, none⟩ = some (.int .i64 6) ∧ W.cell? ⟨bx, 1, none⟩ = some (.int .u32 xs) ∧ W.cell? ⟨bx, 2, none⟩ = some (.int .u32 xd) ∧ W.cell? ⟨bx, 3, none⟩ = some (.int .i64 xx) ∧ W.cell? ⟨bx, 4, none⟩ = some (.int .i64 xy) ∧ W.cell? ⟨bx, 5, none⟩ = some (.int .i64 6) ∧ W.cell? ⟨bx, 6, none⟩ = some (.int .u32 nat) ∧ W.cell? ⟨bx, 7, none⟩ = some (.int .u32 ba) ∧ W.cell? ⟨bx, 8, none⟩ = some (.int .i64 port) ∧ W.cell? ⟨bx, 9, none⟩ = some (.int .i64 bp) ∧ W.cell? ⟨bx, 10, none⟩ = some (.int .i64 sv) ∧ W.cell? ⟨bx, 11, none⟩ = some (.int .i64 bi) ∧ W.cell? ⟨bx, 12, none⟩ = some (.int .i64 (s : Int)) ∧ W.cell? ⟨bx, 13, none⟩ = some (.bool false)) from fun bx g1 U W k => by
    obtain ⟨⟨p0, p1, p2, p3, p4⟩, ⟨q0, q1, q2, q3, q4⟩, r0, r1, r2, r3⟩ := k.c5
    exact ⟨k.fl.cells.tt, p0, p1, p2, p3, p4, q0, q1, q2, q3, q4, r0, r1, r2, r3⟩)
  obtain ⟨now, hnw⟩ : ∃ now, (g.now : Int) = now := ⟨_, rfl⟩
  obtain ⟨tn, htn⟩ : ∃ tn, (g.t.n : Int) = tn := ⟨_, rfl⟩
  obtain ⟨rm, hrm⟩ : ∃ rm, (c.room : Int) = rm := ⟨_, rfl⟩
  obtain ⟨si, hsi⟩ : ∃ si, (s : Int) = si := ⟨_, rfl⟩
  rw [hnw] at HNN HNW HTK
  rw [htn] at HNR HLN
  rw [hrm] at HNR HK
  simp only [hsi] at *
  clear hnw htn hrm hsi h h1 hTb hT0 hx hks hxo hw1 hb1 hs1 x7 x10 hst hno hroom hnow hTk hPt hsw hn hn1 hn2 hA hS1 hT1 hT01 hhd
  unfold Fw.v keyOf PKey.v at HKO
  dsimp only at HKO
  unfold Tup.v at HKEY HAH
  dsimp only at HKEY HAH
  unfold boxT boxB at HW
  dsimp only at HW
  have hnr := HNR.out
  have hnn := HNN.out
  go_enter Tryd.func15, Tryd.ntmps15
  go_upto_region 1 with fail
  refine wp_world w1 HW.out ?_
  obtain ⟨cp, ct, cr, a0, a1, a2, a3, a4, b0, b1, b2⟩ := HK.out _ (Below.refl _ _)
  go_upto_region 2 with (go_at_call 32; refine (HKEY.out _).mono ?_; rintro e w2 ⟨rfl, hb⟩; have HB2 := Lib.hid hb; clear hb)
  clear cp ct cr a0 a1 a2 a3 a4 b0 b1 b2
  obtain ⟨cp, ct, cr, a0, a1, a2, a3, a4, b0, b1, b2⟩ := HK.out _ HB2.out
  go_upto_region 5 with (go_at_call 33; refine (HSTP.out _).mono ?_; rintro e w3 ⟨rfl, hb⟩; have HB3 := Lib.hid (HB2.out.trans (hb.mono HB2.out.size)); clear hb)
  clear cp ct cr a0 a1 a2 a3 a4 b0 b1 b2
  obtain ⟨cp, ct, cr, a0, a1, a2, a3, a4, b0, b1, b2⟩ := HK.out _ HB3.out
  go_upto_region 8 with (go_at_call 22; refine (HAH.out _ HB3.out).mono ?_; rintro e w4 ⟨rfl, hb⟩; have HB4 := Lib.hid (HB3.out.trans (hb.mono HB3.out.size)); clear hb)
  clear cp ct cr a0 a1 a2 a3 a4 b0 b1 b2
  obtain ⟨cp, ct, cr, a0, a1, a2, a3, a4, b0, b1, b2⟩ := HK.out _ HB4.out
  go_upto_region 10 with fail
  go_quiet ((first
    | (go_at_call 17; exact Calls.quiet_of_same (HLN.out _ (below_drewN HB4.out _)))
    | (go_at_call 26; exact Calls.quiet_of_same (HNW.out _ (below_drewN HB4.out _)))))
  have hbq : Below w1.heap.size w1 (w4.drewN nq) := below_drewN HB4.out _
  generalize w4.drewN nq = w5 at *
  have HBQ := Lib.hid hbq
  have k5 := HC.out w5 hbq
  have HC5 := Lib.hid k5
  clear hbq k5
  clear cp ct cr a0 a1 a2 a3 a4 b0 b1 b2
  obtain ⟨cp, ct, cr, a0, a1, a2, a3, a4, b0, b1, b2⟩ := HK.out _ HBQ.out
  go_upto_region 13 with fail
  obtain ⟨bx, hbx⟩ : ∃ bx, w5.heap.size = bx := ⟨_, rfl⟩
  obtain ⟨w6, hw6⟩ : ∃ w6, w5.alloc (.cells #[.int .i64 6, .int .u32 xs, .int .u32 xd, .int .i64 xx, .int .i64 xy, .int .i64 6, .int .u32 xs, .int .u32 xd, .int .i64 xx, .int .i64 xy, .int .i64 sv, .int .i64 bi, .int .i64 si, .bool false] 52) = w6 := ⟨_, rfl⟩
  have k6 : Cpy w1 bx (⟨⟨6, xs, xd, xx, xy⟩, ⟨6, xs, xd, xx, xy⟩, sv, bi, si, false⟩ : Fw) w6 := by rw [← hw6, ← hbx]; exact HC5.out
  rw [hbx]
  refine wp_world w6 hw6 ?_
  clear hw6 hbx
  have HC6 := Lib.hid k6
  clear cp ct cr a0 a1 a2 a3 a4 b0 b1 b2
  obtain ⟨cp, ct, cr, a0, a1, a2, a3, a4, b0, b1, b2⟩ := HK.out _ k6.bel
  have p13 : w6.cell? ⟨bx, 13, none⟩ = some (.bool false) := k6.box.rr.2.2.2
  clear k6
  go_upto_region 15 with fail
  obtain ⟨_, _, _, _, _, _, m6, m7, _, m9, _, _, _, _, z6, z7, z9⟩ := HKA.out _ _ HC6.out
  clear cp ct cr a0 a1 a2 a3 a4 b0 p13
  go_region
  all_goals
    clear m6 m7 m9 z6 z7 z9 b1 b2
    have k7 := ((HC6.out.b6 nat).b7 ba).b9 bp
    have HC7 := Lib.hid (k7.below (below_drew (Below.refl _ _)))
    clear k7
    revert HC7
    generalize hw7 : (((w6.setCell ⟨bx, 6, none⟩ (.int .u32 nat)).setCell ⟨bx, 7, none⟩ (.int .u32 ba)).setCell ⟨bx, 9, none⟩ (.int .i64 bp)).drew = w7
    intro HC7
    clear hw7
    have HC8 := Lib.hid (HC7.out.below (below_drew (Below.refl _ w7)))
    have HLO := Lib.hid HC7.out.lo
    go_upto_region 16 with fail
    go_region_held3 (fun W : World => (W.cell? ⟨pl.F, 5, none⟩ = some (.pointer (some ⟨pl.P, 0, none⟩)) ∧ W.cell? ⟨bx, 0, none⟩ = some (.int .i64 6) ∧ W.cell? ⟨bx, 1, none⟩ = some (.int .u32 xs) ∧ W.cell? ⟨bx, 2, none⟩ = some (.int .u32 xd) ∧ W.cell? ⟨bx, 3, none⟩ = some (.int .i64 xx) ∧ W.cell? ⟨bx, 4, none⟩ = some (.int .i64 xy) ∧ W.cell? ⟨bx, 5, none⟩ = some (.int .i64 6) ∧ W.cell? ⟨bx, 6, none⟩ = some (.int .u32 nat) ∧ W.cell? ⟨bx, 7, none⟩ = some (.int .u32 ba) ∧ W.cell? ⟨bx, 8, none⟩ = some (.int .i64 xx) ∧ W.cell? ⟨bx, 9, none⟩ = some (.int .i64 bp) ∧ W.cell? ⟨bx, 10, none⟩ = some (.int .i64 sv) ∧ W.cell? ⟨bx, 11, none⟩ = some (.int .i64 bi) ∧ W.cell? ⟨bx, 12, none⟩ = some (.int .i64 si) ∧ W.cell? ⟨bx, 13, none⟩ = some (.bool false))) (first | exact HKB.out _ _ HC7.out | exact HKB.out _ _ HC8.out | exact HKT.out _ _ _ _ HS9.out) (first
      | (go_at_call 26; refine (HNW.out _ (by first | exact HC8.out.bel | exact HC7.out.bel)).mono ?_; rintro e wy ⟨rfl, rfl⟩)
      | (go_at_call 35; refine (HKO.out _).mono ?_; rintro e wx ⟨rfl, hb⟩; replace HC8 := Lib.hid (HC8.out.below hb); clear hb)
      | (go_at_call 34; refine (HTK.out _ _ HC8.out).mono ?_; rintro e w9 ⟨rfl, g1, r1, U9, s9⟩; have HR1 := Lib.hid r1; have HS9 := Lib.hid s9; clear r1 s9))
    all_goals
      obtain ⟨_, _, _, _, _, _, _, _, _, m8, _, _, _, _, _⟩ := HKT.out _ _ _ _ HS9.out
      have z8 : w9.frozen? ⟨bx, 8, none⟩ = false := by have := (HS9.out.t4 8 (by omega)).2; rwa [Nat.zero_add] at this
      go_upto_region 20 with fail
      have k10 := HS9.out.b8 HLO.out port
      revert k10
      generalize hw10 : w9.setCell ⟨bx, 8, none⟩ (.int .i64 port) = w10
      intro k10
      clear hw10 m8 z8
      have HS10 := Lib.hid k10
      clear k10
      have HS11 := Lib.hid (HS10.out.below (below_drew (Below.refl _ w10)))
      go_region_held3 (fun W : World => (W.cell? ⟨pl.F, 7, none⟩ = some (.pointer (some ⟨pl.T, 0, none⟩)) ∧ W.cell? ⟨bx, 0, none⟩ = some (.int .i64 6) ∧ W.cell? ⟨bx, 1, none⟩ = some (.int .u32 xs) ∧ W.cell? ⟨bx, 2, none⟩ = some (.int .u32 xd) ∧ W.cell? ⟨bx, 3, none⟩ = some (.int .i64 xx) ∧ W.cell? ⟨bx, 4, none⟩ = some (.int .i64 xy) ∧ W.cell? ⟨bx, 5, none⟩ = some (.int .i64 6) ∧ W.cell? ⟨bx, 6, none⟩ = some (.int .u32 nat) ∧ W.cell? ⟨bx, 7, none⟩ = some (.int .u32 ba) ∧ W.cell? ⟨bx, 8, none⟩ = some (.int .i64 port) ∧ W.cell? ⟨bx, 9, none⟩ = some (.int .i64 bp) ∧ W.cell? ⟨bx, 10, none⟩ = some (.int .i64 sv) ∧ W.cell? ⟨bx, 11, none⟩ = some (.int .i64 bi) ∧ W.cell? ⟨bx, 12, none⟩ = some (.int .i64 si) ∧ W.cell? ⟨bx, 13, none⟩ = some (.bool false))) (first | exact HKC.out _ _ _ _ HS10.out | exact HKC.out _ _ _ _ HS11.out | exact HKC.out _ _ _ _ HS12.out) (first
        | (go_at_call 36; refine (HPT.out _ HR1.out _ _ _ HS11.out).mono ?_; rintro e w12 ⟨rfl, g2, r2, U12, s12⟩; have HR2 := Lib.hid r2; have HS12 := Lib.hid s12; clear r2 s12))
      all_goals
        obtain ⟨_, n0, n1, n2, n3, n4, n5, n6, n7, n8, n9, nA, nB, nC, nD⟩ := HKC.out _ _ _ _ HS12.out
        go_wp2_with (go_at_call 38; refine (HARM.out _ HR2.out _ _ _ HS12.out).mono ?_; rintro e w13 ⟨rfl, ht⟩; have HT13 := Lib.hid ht; clear ht)
        go_ret2
        exact ⟨rfl, g2, HR2.out, HT13.out⟩
end Go.Proofs.YtpbknbnhljjjcaaDoor

namespace Go.Proofs.YtpbknbnhljjjcaaDoor
open Go.RowKit Go.Maps Go.Lib
set_option maxRecDepth 100000 in
set_option maxHeartbeats 4000000 in
theorem open_dsr {S : Nat → Prop} {pl : Pl} {c : Cf} {g : FlG} {w : World} (h : Fls pl c g S w) {xs xd xx xy : Int} (hx : Net ⟨6, xs, xd, xx, xy⟩) (sv bi ba bp flags : Int) (s : Nat) (hst : fstep 6 0 false flags = (s, true)) (hno : g.t.fA ⟨6, xs, xd, xx, xy⟩ = none) (hroom : g.t.n ≠ c.room) (hnow : g.now < 1099511627776) (hd : Int) (hhd : -9223372036854775808 ≤ hd ∧ hd ≤ 9223372036854775807) (RP : FlG → Prop)
    (hPt : ∀ (U : Nat → Prop) (W : World), Fls pl c g U W → Calls Tryd.prog 36 #[.pointer (some ⟨pl.T, 0, none⟩), (⟨6, xs, xd, xx, xy⟩ : Tup).v, (⟨-6, xs, xd, xx, xy⟩ : Tup).v, (⟨⟨6, xs, xd, xx, xy⟩, ⟨-6, xs, xd, xx, xy⟩, sv, bi, (s : Int), true⟩ : Fw).v] W fun e w' => e = .returned (.tuple #[.int .i64 hd, .int .i64 0]) ∧ ∃ g2, RP g2 ∧ Tn (Fls pl c g2) U W w')
    (n : Nat) (hsw : (Lit.int .i64 (s : Int)).wf = true) (hn : c.tm.of (s : Int) = some (n : Int)) (hn1 : 1 ≤ n) (hn2 : n ≤ 1073741824) (hA : ∀ g2, RP g2 → g2.now = g.now ∧ g2.o < 549755813887) :
    Calls Tryd.prog 15 #[.pointer (some ⟨pl.F, 0, none⟩), .agg #[.int .i64 6, .int .u32 xs, .int .u32 xd, .int .i64 xx, .int .i64 xy], .int .i64 sv, .int .u32 0, .agg #[.int .i64 bi, .int .u32 ba, .int .i64 bp], .int .i64 flags] w fun e w' => e = .returned (.tuple #[.int .i64 hd, .int .i64 0]) ∧ ∃ g2, RP g2 ∧ Tn (Fls pl c (armG g2 hd (min (g.now + n) 1099511627776))) S w w' := by
  obtain ⟨ks, hks⟩ := key_net hx
  have HKEY := Lib.hid hks
  have hxo := hx.ok
  obtain ⟨w1, hw1⟩ : ∃ w1, (w.alloc (boxT ⟨6, xs, xd, xx, xy⟩)).alloc (boxB bi ba bp) = w1 := ⟨_, rfl⟩
  have hb1 : Below w.heap.size w w1 := by rw [← hw1]; exact ((Below.refl _ w).alloc (Nat.le_refl _) _).alloc (by simp) _
  have hs1 : w1.heap.size = w.heap.size + 2 := by rw [← hw1]; simp
  have x7 : w1.heap[w.heap.size]? = some (boxT ⟨6, xs, xd, xx, xy⟩) := by
    rw [← hw1]
    exact (Below.heap_alloc _ _ _ (by simp)).trans (heap_alloc_new w _)
  have x10 : w1.heap[w.heap.size + 1]? = some (boxB bi ba bp) := by
    rw [← hw1]
    have := heap_alloc_new (w.alloc (boxT ⟨6, xs, xd, xx, xy⟩)) (boxB bi ba bp)
    rwa [World.size_alloc] at this
  have h1 := h.below hb1
  have HK := Lib.hid (show ∀ W : World, Below w1.heap.size w1 W → (W.cell? ⟨pl.F, 5, none⟩ = some (.pointer (some ⟨pl.P, 0, none⟩)) ∧ W.cell? ⟨pl.F, 7, none⟩ = some (.pointer (some ⟨pl.T, 0, none⟩)) ∧ W.cell? ⟨pl.F, 8, none⟩ = some (.int .i64 (c.room : Int)) ∧ W.cell? ⟨w.heap.size, 0, none⟩ = some (.int .i64 6) ∧ W.cell? ⟨w.heap.size, 1, none⟩ = some (.int .u32 xs) ∧ W.cell? ⟨w.heap.size, 2, none⟩ = some (.int .u32 xd) ∧ W.cell? ⟨w.heap.size, 3, none⟩ = some (.int .i64 xx) ∧ W.cell? ⟨w.heap.size, 4, none⟩ = some (.int .i64 xy) ∧ W.cell? ⟨(w.heap.size + 1), 0, none⟩ = some (.int .i64 bi) ∧ W.cell? ⟨(w.heap.size + 1), 1, none⟩ = some (.int .u32 ba) ∧ W.cell? ⟨(w.heap.size + 1), 2, none⟩ = some (.int .i64 bp)) from fun W hb => by
    obtain ⟨t0, t1, t2, t3, t4⟩ := boxT_cells ((hb.block _ (by omega)).trans x7)
    have e10 := (hb.block _ (by omega)).trans x10
    unfold boxB at e10
    have k := (h1.below hb).cells
    exact ⟨k.pp, k.tt, k.rr, t0, t1, t2, t3, t4, by simp [World.cell?, e10], by simp [World.cell?, e10], by simp [World.cell?, e10]⟩)
  have HLN := Lib.hid (fun (W : World) (hb : Below w1.heap.size w1 W) => len_fl (h1.below hb))
  have HNW := Lib.hid (fun (W : World) (hb : Below w1.heap.size w1 W) => now_fl (h1.below hb))
  have HAH := Lib.hid (fun (W : World) (hb : Below w1.heap.size w1 W) => ahead_fl (h1.below hb) hxo)
  have HSTP := Lib.hid (fun (W : World) => (show Calls Tryd.prog 33 #[.int .i64 6, .int .i64 0, .bool false, .int .i64 flags] W fun e w' => e = .returned (.tuple #[.int .i64 ((fstep 6 0 false flags).1 : Int), .bool (fstep 6 0 false flags).2]) ∧ Below W.heap.size W w' from fstep_ok 6 0 (by omega) false flags W))
  rw [hst] at HSTP
  rw [hno] at HAH
  unfold hT at HAH
  have HNR := Lib.hid (show ((g.t.n : Int) == (c.room : Int)) = false from by simp; omega)
  have HNN := Lib.hid (show ((g.now : Int) == 1099511627776) = false from by simp; omega)
  have HC := Lib.hid (fun (wx : World) (hb : Below w1.heap.size w1 wx) => cpy_box hb (⟨⟨6, xs, xd, xx, xy⟩, ⟨6, xs, xd, xx, xy⟩, sv, bi, (s : Int), true⟩ : Fw))
  have HST0 := Lib.hid (show ∀ (bx : Nat) (W : World), Cpy w1 bx (⟨⟨6, xs, xd, xx, xy⟩, ⟨-6, xs, xd, xx, xy⟩, sv, bi, (s : Int), true⟩ : Fw) W → St pl c S w1 bx bx (⟨⟨6, xs, xd, xx, xy⟩, ⟨-6, xs, xd, xx, xy⟩, sv, bi, (s : Int), true⟩ : Fw) g S W from fun bx W k => k.start h1)
  have HPT := Lib.hid (show ∀ (bx : Nat) (U : Nat → Prop) (W : World), St pl c S w1 bx bx (⟨⟨6, xs, xd, xx, xy⟩, ⟨-6, xs, xd, xx, xy⟩, sv, bi, (s : Int), true⟩ : Fw) g U W → Calls Tryd.prog 36 #[.pointer (some ⟨pl.T, 0, none⟩), .agg #[.int .i64 6, .int .u32 xs, .int .u32 xd, .int .i64 xx, .int .i64 xy], .agg #[.int .i64 (-6), .int .u32 xs, .int .u32 xd, .int .i64 xx, .int .i64 xy], .agg #[.int .i64 6, .int .u32 xs, .int .u32 xd, .int .i64 xx, .int .i64 xy, .int .i64 (-6), .int .u32 xs, .int .u32 xd, .int .i64 xx, .int .i64 xy, .int .i64 sv, .int .i64 bi, .int .i64 (s : Int), .bool true]] W fun e w' => e = .returned (.tuple #[.int .i64 hd, .int .i64 0]) ∧ ∃ g2, RP g2 ∧ ∃ U', St pl c S w1 bx bx (⟨⟨6, xs, xd, xx, xy⟩, ⟨-6, xs, xd, xx, xy⟩, sv, bi, (s : Int), true⟩ : Fw) g2 U' w' from fun bx U W k => by
    refine (hPt U W k.fl).mono ?_
    rintro e w' ⟨rfl, g2, r2, t2⟩
    exact ⟨rfl, g2, r2, k.step t2⟩)
  have HARM := Lib.hid (show ∀ (g2 : FlG), RP g2 → ∀ (bx : Nat) (U : Nat → Prop) (W : World), St pl c S w1 bx bx (⟨⟨6, xs, xd, xx, xy⟩, ⟨-6, xs, xd, xx, xy⟩, sv, bi, (s : Int), true⟩ : Fw) g2 U W → Calls Tryd.prog 38 #[.pointer (some ⟨pl.F, 0, none⟩), .int .i64 hd, .agg #[.int .i64 6, .int .u32 xs, .int .u32 xd, .int .i64 xx, .int .i64 xy, .int .i64 (-6), .int .u32 xs, .int .u32 xd, .int .i64 xx, .int .i64 xy, .int .i64 sv, .int .i64 bi, .int .i64 (s : Int), .bool true]] W fun e w' => e = .returned (.tuple #[]) ∧ Tn (Fls pl c (armG g2 hd (min (g.now + n) 1099511627776))) S w w' from fun g2 r2 bx U W k => by
    obtain ⟨e1, e2⟩ := hA g2 r2
    refine (arm_fl k.fl (⟨⟨6, xs, xd, xx, xy⟩, ⟨-6, xs, xd, xx, xy⟩, sv, bi, (s : Int), true⟩ : Fw) hhd n hsw hn hn1 hn2 (by rw [e1]; exact hnow) e2).mono ?_
    rintro e w' ⟨rfl, t3⟩
    rw [e1] at t3
    obtain ⟨V, k6⟩ := St.step k t3
    exact ⟨rfl, Tn.after hb1 ⟨V, k6.fl, k6.on, k6.new⟩⟩)
  have HS1 := Lib.hid hs1
  have HW := Lib.hid hw1
  have HKC := Lib.hid (show ∀ (bx : Nat) (g1 : FlG) (U : Nat → Prop) (W : World), St pl c S w1 bx bx (⟨⟨6, xs, xd, xx, xy⟩, ⟨-6, xs, xd, xx, xy⟩, sv, bi, (s : Int), true⟩ : Fw) g1 U W → (W.cell? ⟨pl.F, 7, none⟩ = some (.pointer (some ⟨pl.T, 0, none⟩)) ∧ W.cell? ⟨bx, 0, none⟩ = some (.int .i64 6) ∧ W.cell? ⟨bx, 1, none⟩ = some (.int .u32 xs) ∧ W.cell? ⟨bx, 2, none⟩ = some (.int .u32 xd) ∧ W.cell? ⟨bx, 3, none⟩ = some (.int .i64 xx) ∧ W.cell? ⟨bx, 4, none⟩ = some (.int .i64 xy) ∧ W.cell? ⟨bx, 5, none⟩ = some (.int .i64 (-6)) ∧ W.cell? ⟨bx, 6, none⟩ = some (.int .u32 xs) ∧ W.cell? ⟨bx, 7, none⟩ = some (.int .u32 xd) ∧ W.cell? ⟨bx, 8, none⟩ = some (.int .i64 xx) ∧ W.cell? ⟨bx, 9, none⟩ = some (.int .i64 xy) ∧ W.cell? ⟨bx, 10, none⟩ = some (.int .i64 sv) ∧ W.cell? ⟨bx, 11, none⟩ = some (.int .i64 bi) ∧ W.cell? ⟨bx, 12, none⟩ = some (.int .i64 (s : Int)) ∧ W.cell? ⟨bx, 13, none⟩ = some (.bool true)) from fun bx g1 U W k => by
    obtain ⟨⟨p0, p1, p2, p3, p4⟩, ⟨q0, q1, q2, q3, q4⟩, r0, r1, r2, r3⟩ := k.c5
    exact ⟨k.fl.cells.tt, p0, p1, p2, p3, p4, q0, q1, q2, q3, q4, r0, r1, r2, r3⟩)
  obtain ⟨now, hnw⟩ : ∃ now, (g.now : Int) = now := ⟨_, rfl⟩
  obtain ⟨tn, htn⟩ : ∃ tn, (g.t.n : Int) = tn := ⟨_, rfl⟩
  obtain ⟨rm, hrm⟩ : ∃ rm, (c.room : Int) = rm := ⟨_, rfl⟩
  obtain ⟨si, hsi⟩ : ∃ si, (s : Int) = si := ⟨_, rfl⟩
  rw [hnw] at HNN HNW
  rw [htn] at HNR HLN
  rw [hrm] at HNR HK
  simp only [hsi] at *
  clear hnw htn hrm hsi h h1 hx hks hxo hw1 hb1 hs1 x7 x10 hst hno hroom hnow hPt hsw hn hn1 hn2 hA hhd
  unfold Tup.v at HKEY HAH
  dsimp only at HKEY HAH
  unfold boxT boxB at HW
  dsimp only at HW
  have hnr := HNR.out
  have hnn := HNN.out
  go_enter Tryd.func15, Tryd.ntmps15
  go_upto_region 1 with fail
  refine wp_world w1 HW.out ?_
  obtain ⟨cp, ct, cr, a0, a1, a2, a3, a4, b0, b1, b2⟩ := HK.out _ (Below.refl _ _)
  go_upto_region 2 with (go_at_call 32; refine (HKEY.out _).mono ?_; rintro e w2 ⟨rfl, hb⟩; have HB2 := Lib.hid hb; clear hb)
  clear cp ct cr a0 a1 a2 a3 a4 b0 b1 b2
  obtain ⟨cp, ct, cr, a0, a1, a2, a3, a4, b0, b1, b2⟩ := HK.out _ HB2.out
  go_upto_region 5 with (go_at_call 33; refine (HSTP.out _).mono ?_; rintro e w3 ⟨rfl, hb⟩; have HB3 := Lib.hid (HB2.out.trans (hb.mono HB2.out.size)); clear hb)
  clear cp ct cr a0 a1 a2 a3 a4 b0 b1 b2
  obtain ⟨cp, ct, cr, a0, a1, a2, a3, a4, b0, b1, b2⟩ := HK.out _ HB3.out
  go_upto_region 8 with (go_at_call 22; refine (HAH.out _ HB3.out).mono ?_; rintro e w4 ⟨rfl, hb⟩; have HB4 := Lib.hid (HB3.out.trans (hb.mono HB3.out.size)); clear hb)
  clear cp ct cr a0 a1 a2 a3 a4 b0 b1 b2
  obtain ⟨cp, ct, cr, a0, a1, a2, a3, a4, b0, b1, b2⟩ := HK.out _ HB4.out
  go_upto_region 10 with fail
  go_quiet ((first
    | (go_at_call 17; exact Calls.quiet_of_same (HLN.out _ (below_drewN HB4.out _)))
    | (go_at_call 26; exact Calls.quiet_of_same (HNW.out _ (below_drewN HB4.out _)))))
  have hbq : Below w1.heap.size w1 (w4.drewN nq) := below_drewN HB4.out _
  generalize w4.drewN nq = w5 at *
  have HBQ := Lib.hid hbq
  have k5 := HC.out w5 hbq
  have HC5 := Lib.hid k5
  clear hbq k5
  clear cp ct cr a0 a1 a2 a3 a4 b0 b1 b2
  obtain ⟨cp, ct, cr, a0, a1, a2, a3, a4, b0, b1, b2⟩ := HK.out _ HBQ.out
  go_upto_region 13 with fail
  obtain ⟨bx, hbx⟩ : ∃ bx, w5.heap.size = bx := ⟨_, rfl⟩
  obtain ⟨w6, hw6⟩ : ∃ w6, w5.alloc (.cells #[.int .i64 6, .int .u32 xs, .int .u32 xd, .int .i64 xx, .int .i64 xy, .int .i64 6, .int .u32 xs, .int .u32 xd, .int .i64 xx, .int .i64 xy, .int .i64 sv, .int .i64 bi, .int .i64 si, .bool true] 52) = w6 := ⟨_, rfl⟩
  have k6 : Cpy w1 bx (⟨⟨6, xs, xd, xx, xy⟩, ⟨6, xs, xd, xx, xy⟩, sv, bi, si, true⟩ : Fw) w6 := by rw [← hw6, ← hbx]; exact HC5.out
  rw [hbx]
  refine wp_world w6 hw6 ?_
  clear hw6 hbx
  clear cp ct cr a0 a1 a2 a3 a4 b0 b1 b2
  obtain ⟨cp, ct, cr, a0, a1, a2, a3, a4, b0, b1, b2⟩ := HK.out _ k6.bel
  have p13 : w6.cell? ⟨bx, 13, none⟩ = some (.bool true) := k6.box.rr.2.2.2
  have p5 : w6.cell? ⟨bx, 5, none⟩ = some (.int .i64 6) := k6.box.bb.1
  have z5 : w6.frozen? ⟨bx, 5, none⟩ = false := by have := (k6.fre 5 (by omega)).2; rwa [Nat.zero_add] at this
  have HS8 := Lib.hid (HST0.out _ _ (k6.b5 (-6)))
  clear k6
  go_upto_region 20 with fail
  clear p13 p5 z5
  clear cp ct cr a0 a1 a2 a3 a4 b0 b1 b2
  revert HS8
  generalize w6.setCell ⟨bx, 5, none⟩ (.int .i64 (-6)) = w10
  intro HS10
  have HS11 := Lib.hid (HS10.out.below (below_drew (Below.refl _ w10)))
  go_region_held3 (fun W : World => (W.cell? ⟨pl.F, 7, none⟩ = some (.pointer (some ⟨pl.T, 0, none⟩)) ∧ W.cell? ⟨bx, 0, none⟩ = some (.int .i64 6) ∧ W.cell? ⟨bx, 1, none⟩ = some (.int .u32 xs) ∧ W.cell? ⟨bx, 2, none⟩ = some (.int .u32 xd) ∧ W.cell? ⟨bx, 3, none⟩ = some (.int .i64 xx) ∧ W.cell? ⟨bx, 4, none⟩ = some (.int .i64 xy) ∧ W.cell? ⟨bx, 5, none⟩ = some (.int .i64 (-6)) ∧ W.cell? ⟨bx, 6, none⟩ = some (.int .u32 xs) ∧ W.cell? ⟨bx, 7, none⟩ = some (.int .u32 xd) ∧ W.cell? ⟨bx, 8, none⟩ = some (.int .i64 xx) ∧ W.cell? ⟨bx, 9, none⟩ = some (.int .i64 xy) ∧ W.cell? ⟨bx, 10, none⟩ = some (.int .i64 sv) ∧ W.cell? ⟨bx, 11, none⟩ = some (.int .i64 bi) ∧ W.cell? ⟨bx, 12, none⟩ = some (.int .i64 si) ∧ W.cell? ⟨bx, 13, none⟩ = some (.bool true))) (first | exact HKC.out _ _ _ _ HS10.out | exact HKC.out _ _ _ _ HS11.out | exact HKC.out _ _ _ _ HS12.out) (first
    | (go_at_call 36; refine (HPT.out _ _ _ HS11.out).mono ?_; rintro e w12 ⟨rfl, g2, r2, U12, s12⟩; have HR2 := Lib.hid r2; have HS12 := Lib.hid s12; clear r2 s12))
  all_goals
    obtain ⟨_, n0, n1, n2, n3, n4, n5, n6, n7, n8, n9, nA, nB, nC, nD⟩ := HKC.out _ _ _ _ HS12.out
    go_wp2_with (go_at_call 38; refine (HARM.out _ HR2.out _ _ _ HS12.out).mono ?_; rintro e w13 ⟨rfl, ht⟩; have HT13 := Lib.hid ht; clear ht)
    go_ret2
    exact ⟨rfl, g2, HR2.out, HT13.out⟩
end Go.Proofs.YtpbknbnhljjjcaaDoor

namespace Go.Proofs.YtpbknbnhljjjcaaDoor
open Go.RowKit Go.Maps Go.Lib
set_option maxRecDepth 100000 in
set_option maxHeartbeats 4000000 in
theorem open_state {S : Nat → Prop} {pl : Pl} {c : Cf} {g : FlG} {w : World} (h : Fls pl c g S w) {xs xd xx xy : Int} (hx : Net ⟨6, xs, xd, xx, xy⟩) (sv nat bi ba bp flags : Int) (s : Nat) (hst : fstep 6 0 false flags = (s, false)) :
    Calls Tryd.prog 15 #[.pointer (some ⟨pl.F, 0, none⟩), .agg #[.int .i64 6, .int .u32 xs, .int .u32 xd, .int .i64 xx, .int .i64 xy], .int .i64 sv, .int .u32 nat, .agg #[.int .i64 bi, .int .u32 ba, .int .i64 bp], .int .i64 flags] w fun e w' => e = .returned (.tuple #[.int .i64 0, .int .i64 15]) ∧ Below w.heap.size w w' := by
  obtain ⟨ks, hks⟩ := key_net hx
  have HKEY := Lib.hid hks
  have hxo := hx.ok
  obtain ⟨w1, hw1⟩ : ∃ w1, (w.alloc (boxT ⟨6, xs, xd, xx, xy⟩)).alloc (boxB bi ba bp) = w1 := ⟨_, rfl⟩
  have hb1 : Below w.heap.size w w1 := by rw [← hw1]; exact ((Below.refl _ w).alloc (Nat.le_refl _) _).alloc (by simp) _
  have hs1 : w1.heap.size = w.heap.size + 2 := by rw [← hw1]; simp
  have x7 : w1.heap[w.heap.size]? = some (boxT ⟨6, xs, xd, xx, xy⟩) := by
    rw [← hw1]
    exact (Below.heap_alloc _ _ _ (by simp)).trans (heap_alloc_new w _)
  have x10 : w1.heap[w.heap.size + 1]? = some (boxB bi ba bp) := by
    rw [← hw1]
    have := heap_alloc_new (w.alloc (boxT ⟨6, xs, xd, xx, xy⟩)) (boxB bi ba bp)
    rwa [World.size_alloc] at this
  have h1 := h.below hb1
  have HK := Lib.hid (show ∀ W : World, Below w1.heap.size w1 W → (W.cell? ⟨pl.F, 5, none⟩ = some (.pointer (some ⟨pl.P, 0, none⟩)) ∧ W.cell? ⟨pl.F, 7, none⟩ = some (.pointer (some ⟨pl.T, 0, none⟩)) ∧ W.cell? ⟨pl.F, 8, none⟩ = some (.int .i64 (c.room : Int)) ∧ W.cell? ⟨w.heap.size, 0, none⟩ = some (.int .i64 6) ∧ W.cell? ⟨w.heap.size, 1, none⟩ = some (.int .u32 xs) ∧ W.cell? ⟨w.heap.size, 2, none⟩ = some (.int .u32 xd) ∧ W.cell? ⟨w.heap.size, 3, none⟩ = some (.int .i64 xx) ∧ W.cell? ⟨w.heap.size, 4, none⟩ = some (.int .i64 xy) ∧ W.cell? ⟨(w.heap.size + 1), 0, none⟩ = some (.int .i64 bi) ∧ W.cell? ⟨(w.heap.size + 1), 1, none⟩ = some (.int .u32 ba) ∧ W.cell? ⟨(w.heap.size + 1), 2, none⟩ = some (.int .i64 bp)) from fun W hb => by
    obtain ⟨t0, t1, t2, t3, t4⟩ := boxT_cells ((hb.block _ (by omega)).trans x7)
    have e10 := (hb.block _ (by omega)).trans x10
    unfold boxB at e10
    have k := (h1.below hb).cells
    exact ⟨k.pp, k.tt, k.rr, t0, t1, t2, t3, t4, by simp [World.cell?, e10], by simp [World.cell?, e10], by simp [World.cell?, e10]⟩)
  have HLN := Lib.hid (fun (W : World) (hb : Below w1.heap.size w1 W) => len_fl (h1.below hb))
  have HNW := Lib.hid (fun (W : World) (hb : Below w1.heap.size w1 W) => now_fl (h1.below hb))
  have HAH := Lib.hid (fun (W : World) (hb : Below w1.heap.size w1 W) => ahead_fl (h1.below hb) hxo)
  have HSTP := Lib.hid (fun (W : World) => (show Calls Tryd.prog 33 #[.int .i64 6, .int .i64 0, .bool false, .int .i64 flags] W fun e w' => e = .returned (.tuple #[.int .i64 ((fstep 6 0 false flags).1 : Int), .bool (fstep 6 0 false flags).2]) ∧ Below W.heap.size W w' from fstep_ok 6 0 (by omega) false flags W))
  rw [hst] at HSTP
  have HW := Lib.hid hw1
  have HB1 := Lib.hid hb1
  obtain ⟨si, hsi⟩ : ∃ si, (s : Int) = si := ⟨_, rfl⟩
  simp only [hsi] at *
  clear hsi h h1 hx hks hxo hw1 hb1 hs1 x7 x10 hst HLN HNW HAH
  unfold Tup.v at HKEY
  dsimp only at HKEY
  unfold boxT boxB at HW
  dsimp only at HW
  go_enter Tryd.func15, Tryd.ntmps15
  go_upto_region 1 with fail
  refine wp_world w1 HW.out ?_
  obtain ⟨cp, ct, cr, a0, a1, a2, a3, a4, b0, b1, b2⟩ := HK.out _ (Below.refl _ _)
  go_upto_region 2 with (go_at_call 32; refine (HKEY.out _).mono ?_; rintro e w2 ⟨rfl, hb⟩; have HB2 := Lib.hid hb; clear hb)
  clear cp ct cr a0 a1 a2 a3 a4 b0 b1 b2
  obtain ⟨cp, ct, cr, a0, a1, a2, a3, a4, b0, b1, b2⟩ := HK.out _ HB2.out
  go_upto_region 5 with (go_at_call 33; refine (HSTP.out _).mono ?_; rintro e w3 ⟨rfl, hb⟩; have HB3 := Lib.hid (HB2.out.trans (hb.mono HB2.out.size)); clear hb)
  clear cp ct cr a0 a1 a2 a3 a4 b0 b1 b2
  go_wp2_with fail
  go_ret2
  exact ⟨rfl, HB1.out.trans (HB3.out.mono HB1.out.size)⟩
set_option maxRecDepth 100000 in
set_option maxHeartbeats 4000000 in
theorem open_exists {S : Nat → Prop} {pl : Pl} {c : Cf} {g : FlG} {w : World} (h : Fls pl c g S w) {xs xd xx xy : Int} (hx : Net ⟨6, xs, xd, xx, xy⟩) (sv nat bi ba bp flags : Int) (s : Nat) (hst : fstep 6 0 false flags = (s, true)) (k : Nat) (hno : g.t.fA ⟨6, xs, xd, xx, xy⟩ = some k) :
    Calls Tryd.prog 15 #[.pointer (some ⟨pl.F, 0, none⟩), .agg #[.int .i64 6, .int .u32 xs, .int .u32 xd, .int .i64 xx, .int .i64 xy], .int .i64 sv, .int .u32 nat, .agg #[.int .i64 bi, .int .u32 ba, .int .i64 bp], .int .i64 flags] w fun e w' => e = .returned (.tuple #[.int .i64 0, .int .i64 20]) ∧ Below w.heap.size w w' := by
  obtain ⟨ks, hks⟩ := key_net hx
  have HKEY := Lib.hid hks
  have hxo := hx.ok
  obtain ⟨w1, hw1⟩ : ∃ w1, (w.alloc (boxT ⟨6, xs, xd, xx, xy⟩)).alloc (boxB bi ba bp) = w1 := ⟨_, rfl⟩
  have hb1 : Below w.heap.size w w1 := by rw [← hw1]; exact ((Below.refl _ w).alloc (Nat.le_refl _) _).alloc (by simp) _
  have hs1 : w1.heap.size = w.heap.size + 2 := by rw [← hw1]; simp
  have x7 : w1.heap[w.heap.size]? = some (boxT ⟨6, xs, xd, xx, xy⟩) := by
    rw [← hw1]
    exact (Below.heap_alloc _ _ _ (by simp)).trans (heap_alloc_new w _)
  have x10 : w1.heap[w.heap.size + 1]? = some (boxB bi ba bp) := by
    rw [← hw1]
    have := heap_alloc_new (w.alloc (boxT ⟨6, xs, xd, xx, xy⟩)) (boxB bi ba bp)
    rwa [World.size_alloc] at this
  have h1 := h.below hb1
  have HK := Lib.hid (show ∀ W : World, Below w1.heap.size w1 W → (W.cell? ⟨pl.F, 5, none⟩ = some (.pointer (some ⟨pl.P, 0, none⟩)) ∧ W.cell? ⟨pl.F, 7, none⟩ = some (.pointer (some ⟨pl.T, 0, none⟩)) ∧ W.cell? ⟨pl.F, 8, none⟩ = some (.int .i64 (c.room : Int)) ∧ W.cell? ⟨w.heap.size, 0, none⟩ = some (.int .i64 6) ∧ W.cell? ⟨w.heap.size, 1, none⟩ = some (.int .u32 xs) ∧ W.cell? ⟨w.heap.size, 2, none⟩ = some (.int .u32 xd) ∧ W.cell? ⟨w.heap.size, 3, none⟩ = some (.int .i64 xx) ∧ W.cell? ⟨w.heap.size, 4, none⟩ = some (.int .i64 xy) ∧ W.cell? ⟨(w.heap.size + 1), 0, none⟩ = some (.int .i64 bi) ∧ W.cell? ⟨(w.heap.size + 1), 1, none⟩ = some (.int .u32 ba) ∧ W.cell? ⟨(w.heap.size + 1), 2, none⟩ = some (.int .i64 bp)) from fun W hb => by
    obtain ⟨t0, t1, t2, t3, t4⟩ := boxT_cells ((hb.block _ (by omega)).trans x7)
    have e10 := (hb.block _ (by omega)).trans x10
    unfold boxB at e10
    have k := (h1.below hb).cells
    exact ⟨k.pp, k.tt, k.rr, t0, t1, t2, t3, t4, by simp [World.cell?, e10], by simp [World.cell?, e10], by simp [World.cell?, e10]⟩)
  have HLN := Lib.hid (fun (W : World) (hb : Below w1.heap.size w1 W) => len_fl (h1.below hb))
  have HNW := Lib.hid (fun (W : World) (hb : Below w1.heap.size w1 W) => now_fl (h1.below hb))
  have HAH := Lib.hid (fun (W : World) (hb : Below w1.heap.size w1 W) => ahead_fl (h1.below hb) hxo)
  have HSTP := Lib.hid (fun (W : World) => (show Calls Tryd.prog 33 #[.int .i64 6, .int .i64 0, .bool false, .int .i64 flags] W fun e w' => e = .returned (.tuple #[.int .i64 ((fstep 6 0 false flags).1 : Int), .bool (fstep 6 0 false flags).2]) ∧ Below W.heap.size W w' from fstep_ok 6 0 (by omega) false flags W))
  rw [hst] at HSTP
  rw [hno] at HAH
  unfold hT at HAH
  have HW := Lib.hid hw1
  have HB1 := Lib.hid hb1
  obtain ⟨si, hsi⟩ : ∃ si, (s : Int) = si := ⟨_, rfl⟩
  obtain ⟨ki, hki⟩ : ∃ ki, (((some k).getD 0 : Nat) : Int) = ki := ⟨_, rfl⟩
  simp only [hsi] at *
  clear hsi h h1 hx hks hxo hw1 hb1 hs1 x7 x10 hst HLN HNW hno hki
  unfold Tup.v at HKEY HAH
  dsimp only at HKEY HAH
  unfold boxT boxB at HW
  dsimp only at HW
  go_enter Tryd.func15, Tryd.ntmps15
  go_upto_region 1 with fail
  refine wp_world w1 HW.out ?_
  obtain ⟨cp, ct, cr, a0, a1, a2, a3, a4, b0, b1, b2⟩ := HK.out _ (Below.refl _ _)
  go_upto_region 2 with (go_at_call 32; refine (HKEY.out _).mono ?_; rintro e w2 ⟨rfl, hb⟩; have HB2 := Lib.hid hb; clear hb)
  clear cp ct cr a0 a1 a2 a3 a4 b0 b1 b2
  obtain ⟨cp, ct, cr, a0, a1, a2, a3, a4, b0, b1, b2⟩ := HK.out _ HB2.out
  go_upto_region 5 with (go_at_call 33; refine (HSTP.out _).mono ?_; rintro e w3 ⟨rfl, hb⟩; have HB3 := Lib.hid (HB2.out.trans (hb.mono HB2.out.size)); clear hb)
  clear cp ct cr a0 a1 a2 a3 a4 b0 b1 b2
  obtain ⟨cp, ct, cr, a0, a1, a2, a3, a4, b0, b1, b2⟩ := HK.out _ HB3.out
  go_upto_region 8 with (go_at_call 22; refine (HAH.out _ HB3.out).mono ?_; rintro e w4 ⟨rfl, hb⟩; have HB4 := Lib.hid (HB3.out.trans (hb.mono HB3.out.size)); clear hb)
  clear cp ct cr a0 a1 a2 a3 a4 b0 b1 b2
  obtain ⟨cp, ct, cr, a0, a1, a2, a3, a4, b0, b1, b2⟩ := HK.out _ HB4.out
  go_wp2_with fail
  go_ret2
  exact ⟨rfl, HB1.out.trans (HB4.out.mono HB1.out.size)⟩
end Go.Proofs.YtpbknbnhljjjcaaDoor

namespace Go.Proofs.YtpbknbnhljjjcaaDoor
open Go.RowKit Go.Maps Go.Lib
theorem info_flow : (Tryd.prog.info? 52).map (fun i => (i.zero, i.size, i.bytes)) = some (some (.agg zF.cells.toArray), 14, 96) := by kernel_rfl
theorem fw_all (f : Fw) : ∀ u ∈ f.cells, u.oneCell' = true := by simp [Fw.cells, Tup.cells, Value.oneCell']
theorem row_some {w : World} {base e k n : Nat} {p : Option Addr} {cap : Nat} {xs : List Value} (h : w.ownsRow base e k (.slice p n cap) n xs) (hn : 0 < n) : ∃ g, p = some ⟨g, 0, none⟩ := by
  rcases h.2 with ⟨hv, h0⟩ | ⟨g, cap', cur, hv, _⟩
  · omega
  · exact ⟨g, by cases hv; rfl⟩
theorem off_none {S : Nat → Prop} (base e k : Nat) (w : World) : Off S base e k (.slice none 0 0) 0 [] w := Off.nil S base e k w
theorem Off.grow {S : Nat → Prop} {base : Nat} {e : TypeId} {k n : Nat} {v : Value} {xs : List Value} {w w' : World} {row : Option Nat} (h : Off S base e k v n xs w) (hg : w.grownBy w' row) (hr : ∀ b, v.ownBlock = some b → row ≠ some b) : Off S base e k v n xs w' :=
  ⟨ownsRow_kept h.1 (fun g hg' => hg.block g (h.1.lt g hg').2 (fun e => hr g hg' e.symm)), h.2⟩
/-- Time goes by: f's flows that are due, ks, end one by one; P holds of what is left, and of what has ended. -/
def AdvP (c : Cf) (P : FlG → List Int → List Fw → Prop) : Prop := ∀ g k ks out, P g (k :: ks) out → ∃ (i : Nat) (r : Ro) (j : Nat), k = (i : Int) ∧ EndOk c g i r j ∧ ∀ l : List Int, l.Perm ((i : Int) :: g.t.free) → P (endG c g i r l j) ks (out ++ [r.v])
set_option maxRecDepth 100000 in
set_option maxHeartbeats 4000000 in
theorem advance_fl {S : Nat → Prop} {pl : Pl} {c : Cf} {g : FlG} {w : World} (h : Fls pl c g S w) (hT : TabAt 0 Lib.deBruijn64tab w) (hT0 : 0 < w.heap.size ∧ ¬ S 0) (n : Int) (hnb : n < 9223372036854775808) (hnow : g.now ≤ 1099511627776) (te : Nat) (hte : (te : Int) = g.now + min (max n 0) (1099511627776 - g.now)) (hlen : (upTil te g.L).length < 1000000) (P : FlG → List Int → List Fw → Prop) (hP : AdvP c P) (hP0 : P (goG g te) ((upTil te g.L).map Ent.key) []) :
    Calls Tryd.prog 19 #[.pointer (some ⟨pl.F, 0, none⟩), .int .i64 n] w fun e w' => ∃ v g' out S', e = .returned v ∧ P g' [] out ∧ Go1 pl c S w g' S' w' ∧ Off S' w.heap.size 52 14 v out.length (flowsC out) w' := by
  obtain ⟨M, hM⟩ : ∃ M, (upTil te g.L).length = M := ⟨_, rfl⟩
  obtain ⟨ks, hks⟩ : ∃ ks, (upTil te g.L).map Ent.key = ks := ⟨_, rfl⟩
  obtain ⟨kc, hkc⟩ : ∃ kc, keysC (upTil te g.L) = kc := ⟨_, rfl⟩
  have hkl : ks.length = M := by rw [← hks, List.length_map, hM]
  have hkk : ∀ i x, ks[i]? = some x → kc[i]? = some (Value.int .i64 x) := fun i x hx => by
    rw [← hks, List.getElem?_map] at hx
    rw [← hkc]
    unfold keysC
    rw [List.getElem?_map]
    cases hu : (upTil te g.L)[i]? with
    | none => rw [hu] at hx; cases hx
    | some u => rw [hu] at hx; cases hx; rfl
  obtain ⟨m, hm⟩ : ∃ m, max n 0 = m := ⟨_, rfl⟩
  obtain ⟨d, hd⟩ : ∃ d, min m (1099511627776 - (g.now : Int)) = d := ⟨_, rfl⟩
  have hte' : (g.now : Int) + d = (te : Int) := by rw [hte, ← hd, ← hm]
  have HADV := Lib.hid (show ∀ W : World, Below w.heap.size w W → Calls Tryd.prog 43 #[.pointer (some ⟨pl.W, 0, none⟩), .int .i64 (te : Int)] W fun e w' => ∃ v U, e = .returned v ∧ Go1 pl c S w (goG g te) U w' ∧ Off U w.heap.size 3 1 v M kc w' from fun W hb => by
    have hTW := TabAt.kept hT (hb.block 0 hT0.1)
    refine (adv_in (h.below hb) hTW ⟨Nat.lt_of_lt_of_le hT0.1 hb.size, hT0.2⟩ (te : Int) (by omega) te (by omega)).mono ?_
    rintro e w' ⟨v, U, rfl, k1, k2, k3, k4⟩
    rw [hM, hkc] at k4
    refine ⟨v, U, rfl, ⟨k1, (Only.of_below (S := S) hb).trans k2 (fun _ _ hS => hS), fun i hi => ?_⟩, ⟨row_base k4.1 hb.size, k4.2⟩⟩
    rcases k3 i hi with e | e
    · exact .inl e
    · exact .inr (Nat.le_trans hb.size e))
  have HN := Lib.hid (fun (W : World) (hb : Below w.heap.size w W) => now_fl (h.below hb))
  have C6 := Lib.hid (fun (W : World) (hb : Below w.heap.size w W) => (h.below hb).cells.cc)
  have D6 := Lib.hid (fun (G : FlG) (U : Nat → Prop) (W : World) (k : Go1 pl c S w G U W) => k.fl.cells.cc)
  have HEND := Lib.hid (fun (G : FlG) (U : Nat → Prop) (W : World) (k : Fls pl c G U W) (i : Nat) (r : Ro) (j : Nat) (hh : EndOk c G i r j) => end_any k hh)
  obtain ⟨now, hnw⟩ : ∃ now, (g.now : Int) = now := ⟨_, rfl⟩
  rw [hnw] at HN hd hte'
  have hnowI : 0 ≤ now ∧ now ≤ 1099511627776 := by omega
  have hmI : 0 ≤ m ∧ m < 9223372036854775808 := by omega
  have hsub : wrap64 (1099511627776 - now) = 1099511627776 - now := by unfold wrap64; omega
  have hsub2 : IntKind.i64.wrap (1099511627776 - now) = 1099511627776 - now := wrap_small .i64 (.inl rfl) _ (by omega) (by omega)
  have hadd : wrap64 (now + d) = (te : Int) := by unfold wrap64; omega
  have hadd2 : IntKind.i64.wrap (now + d) = (te : Int) := by rw [wrap_small .i64 (.inl rfl) _ (by omega) (by omega)]; exact hte'
  have HPP := Lib.hid hP
  have HP0 := Lib.hid hP0
  rw [hks] at HP0
  have HKL := Lib.hid hkl
  have HKK := Lib.hid hkk
  have HML := Lib.hid (show M < 1000000 from by rw [← hM]; exact hlen)
  have HB0 := Lib.hid (Below.refl w.heap.size w)
  have c6 := h.cells.cc
  clear h hT hT0 hnb hnow hte hlen hP hP0 hM hks hkc hkl hkk hnw hte' hnowI hmI
  go_enter Tryd.func19, Tryd.ntmps19
  go_upto_region 1 with fail
  go_region_held3 (fun W : World => W.cell? ⟨pl.F, 6, none⟩ = some (.pointer (some ⟨pl.W, 0, none⟩))) (first | exact C6.out _ HB0.out | exact C6.out _ (below_drew HB0.out) | exact D6.out _ _ _ HG1.out) (first
    | (go_at_call 26; refine (HN.out _ (by first | exact HB0.out | exact below_drew HB0.out)).mono ?_; rintro e wy ⟨rfl, rfl⟩)
    | (go_at_call 43; refine (HADV.out _ (by first | exact HB0.out | exact below_drew HB0.out)).mono ?_; rintro e w2 ⟨v, U, rfl, hg1, hof⟩; obtain ⟨p, cap, rfl, hcp1, hcp2⟩ := row_form hof.1; have HG1 := Lib.hid hg1; have HOF := Lib.hid hof; clear hg1 hof))
  all_goals
    obtain ⟨i0, hi, hz0, hz1, hz2⟩ := info_parts' info_flow
    have HI := Lib.hid (And.intro hi (And.intro hz0 (And.intro hz1 hz2)))
    clear hi hz0 hz1 hz2
    go_wp2_with fail
    go_loopw [4, 22] (fun vo vi wz => ∃ (k : Nat) (G : FlG) (out : List Fw) (V : Nat → Prop), vi = .int .i64 (k : Int) ∧ k ≤ M ∧ P G (ks.drop k) out ∧ Go1 pl c S w G V wz ∧ Off V w.heap.size 3 1 (.slice p M cap) M kc wz ∧ Off V w.heap.size 52 14 vo out.length (flowsC out) wz ∧ out.length = k ∧ ∀ b, (Value.slice p M cap).ownBlock = some b → vo.ownBlock ≠ some b) (fun _ vi _ => M - (intOf vi).toNat)
    case atStart => exact ⟨0, _, [], U, rfl, by omega, HP0.out, HG1.out, HOF.out, Off.nil _ _ _ _ _, rfl, fun b hb e => by cases e⟩
    case round =>
      obtain ⟨k, G, out, V, rfl, hk, hPk, hgo, hof1, hof2, hol, hne⟩ := hrel
      have HPK := Lib.hid hPk
      have HGO := Lib.hid hgo
      have HO1 := Lib.hid hof1
      have HO2 := Lib.hid hof2
      have HOL := Lib.hid hol
      have HNE := Lib.hid hne
      clear hPk hgo hof1 hof2 hol hne
      by_cases hkl : k < M
      · have hkI : (k : Int) < (M : Int) := by omega
        obtain ⟨gk, rfl⟩ := row_some HO1.out.1 (Nat.lt_of_le_of_lt (Nat.zero_le _) hkl)
        obtain ⟨x, hx⟩ : ∃ x, ks[k]? = some x := ⟨_, List.getElem?_eq_getElem (by rw [HKL.out]; exact hkl)⟩
        have d0 : wr.cell? ⟨gk, k, none⟩ = some (.int .i64 x) := rown_at HO1.out.1 (HKK.out k x hx)
        have hdrop : ks.drop k = x :: ks.drop (k + 1) := by
          obtain ⟨hk2, hx2⟩ := List.getElem?_eq_some_iff.1 hx
          rw [← hx2]; exact (List.getElem_cons_drop hk2).symm
        have hPk := HPK.out
        rw [hdrop] at hPk
        obtain ⟨i, r, j, hxi, hend, hnext⟩ := HPP.out G x _ out hPk
        subst hxi
        have HE := Lib.hid hend
        have HNX := Lib.hid hnext
        have HCALL := Lib.hid (HEND.out _ _ _ HGO.out.fl i r j hend)
        unfold Fw.v at HCALL
        clear hx hdrop hPk hend hnext HPK
        go_upto_region 4 with fail
        clear d0
        have hlen9 : out.length < 1000000 := by rw [HOL.out]; have := HML.out; omega
        go_upto_region 5 with (first
          | (go_at_call 41; refine HCALL.out.mono ?_; rintro e w3 ⟨rfl, l, hp, ht⟩; obtain ⟨V3, hg3, ho3, hn3⟩ := HGO.out.step ht; have HO13 := Lib.hid (HO1.out.step ho3 hn3); have HO23 := Lib.hid (HO2.out.step ho3 hn3); have HP3 := Lib.hid (HNX.out l hp); have HG3 := Lib.hid hg3; clear hp ht hg3 ho3 hn3)
          | (at_builtin; go_must (refine wpList_append_lies _ rfl _ _ 49 (by rfl) w.heap.size 52 i0 (.agg zF.cells.toArray) 14 96 Tryd.underlying49 HI.out.1 HI.out.2.1 HI.out.2.2.1 HI.out.2.2.2 (by rfl) (by decide) u4 out.length (flowsC out) (by rfl) (ownsRow_kept HO23.out.1 (fun g hg => Below.heap_alloc _ _ _ (HO23.out.1.lt g hg).2)) ⟨w3.heap.size, 0, none⟩ 1 1 r.v.cells (by rfl) rfl (World.news_of_block (heap_alloc_new _ _)) (fw_all r.v) (by decide) (by unfold maxLen; omega) (by omega) (by simp; exact Nat.le_succ_of_le HG3.out.on.size) _ rfl ?_); intro g9 cap9 w8 hown8 hgrow8 hat8 hlt8))
        have hb8 : Below w3.heap.size w3 (w3.alloc (.cells r.v.cells.toArray 52)) := (Below.refl _ _).alloc (Nat.le_refl _) _
        obtain ⟨wA, hwA⟩ : ∃ wA, w3.alloc (.cells r.v.cells.toArray 52) = wA := ⟨_, rfl⟩
        have hgrow8 : wA.grownBy w8 u4.ownBlock := by rw [← hwA]; exact hgrow8
        have hat8 : u4.ownBlock = some g9 ∨ g9 = wA.heap.size := by rw [← hwA]; exact hat8
        rw [hwA] at hb8
        have hlo : ∀ b, u4.ownBlock = some b → ¬ V3 b ∧ w.heap.size ≤ b := fun b hb => ⟨HO23.out.2 b hb, (HO23.out.1.lt b hb).1⟩
        have q1 := (HG3.out.below hb8).grown hgrow8 hlo
        have q2 := (HO13.out.below hb8).grow hgrow8 (fun b hb => HNE.out b hb)
        have q3 : Off V3 w.heap.size 52 14 (.slice (some ⟨g9, 0, none⟩) (out.length + 1) cap9) (out ++ [r.v]).length (flowsC (out ++ [r.v])) w8 := by
          rw [flowsC_snoc, List.length_append]
          refine ⟨hown8, fun b hb => ?_⟩
          have hbg : g9 = b := by cases hb; rfl
          subst hbg
          rcases hat8 with e | e
          · exact (hlo _ e).1
          · intro hv
            have := Fls.comp.low (HG3.out.below hb8).fl _ hv
            omega
        have q4 : ∀ b, (Value.slice (some ⟨gk, 0, none⟩) M cap).ownBlock = some b → (Value.slice (some ⟨g9, 0, none⟩) (out.length + 1) cap9).ownBlock ≠ some b := fun b hb e => by
          have hbg : g9 = b := by cases e; rfl
          subst hbg
          rcases hat8 with e | e
          · exact HNE.out _ hb e
          · have := (HO13.out.1.lt _ hb).2
            have := hb8.size
            omega
        have Q := Lib.hid (And.intro q1 (And.intro q2 (And.intro q3 q4)))
        have HOLN := Lib.hid (show (out ++ [r.v]).length = k + 1 from by rw [List.length_append, HOL.out]; rfl)
        clear hb8 hgrow8 hat8 hlo q1 q2 q3 q4 hown8 hlt8 hwA
        go_wp2_with fail
        exact ⟨⟨k + 1, _, out ++ [r.v], V3, by go_num, by omega, HP3.out, Q.out.1, Q.out.2.1, Q.out.2.2.1, HOLN.out, Q.out.2.2.2⟩, by simp [intOf]; omega⟩
      · obtain rfl : k = M := by omega
        have hPk := HPK.out
        rw [List.drop_eq_nil_of_le (by rw [HKL.out]; exact Nat.le_refl _)] at hPk
        have HPK9 := Lib.hid hPk
        clear hPk
        go_wp2_with fail
        go_ret
        exact ⟨u4, G, out, V, rfl, HPK9.out, HGO.out, HO2.out⟩
end Go.Proofs.YtpbknbnhljjjcaaDoor

namespace Go.Proofs.YtpbknbnhljjjcaaDoor
open Go.RowKit Go.Maps Go.Lib
def boxCI (r l m t op on cl wa ud : Int) : Obj := .cells #[.int .i64 r, .int .i64 l, .int .i64 m, .int .i64 t, .int .i64 op, .int .i64 on, .int .i64 cl, .int .i64 wa, .int .i64 ud] 25
set_option maxRecDepth 100000 in
set_option maxHeartbeats 2000000 in
theorem new_bad (r l m t op on cl wa ud : Int) (hr : r < 1 ∨ 65536 < r) (hl : -9223372036854775808 ≤ l ∧ l ≤ 9223372036854775807) (hp : PortsBad l m t) (w : World) :
    Calls Tryd.prog 12 #[.agg #[.int .i64 r, .int .i64 l, .int .i64 m, .int .i64 t, .int .i64 op, .int .i64 on, .int .i64 cl, .int .i64 wa, .int .i64 ud]] w fun e w' => e = .returned (.tuple #[.pointer none, .int .i64 1]) ∧ Below w.heap.size w w' := by
  have HT := Lib.hid (fun (W : World) => tab_bad r hr W)
  have HP := Lib.hid (fun (W : World) => ports_bad l m t hl hp W)
  have HB := Lib.hid ((Below.refl w.heap.size w).alloc (Nat.le_refl _) (boxCI r l m t op on cl wa ud))
  unfold boxCI at HB
  clear hr hl hp
  go_enter Tryd.func12, Tryd.ntmps12
  go_wp2_with (first
    | (go_at_call 27; refine (HT.out _).mono ?_; rintro e wx ⟨rfl, rfl⟩)
    | (go_at_call 28; refine (HP.out _).mono ?_; rintro e wx ⟨rfl, rfl⟩))
  go_ret2
  exact ⟨rfl, HB.out⟩
theorem plain_ok (r : Int) (w : World) : Calls Tryd.prog 14 #[.int .i64 r] w fun e w' => e = .returned (.agg #[.int .i64 r, .int .i64 1000, .int .i64 4, .int .i64 10, .int .i64 5, .int .i64 50, .int .i64 9, .int .i64 7, .int .i64 20]) ∧ Below w.heap.size w w' := by
  go_enter Tryd.func14, Tryd.ntmps14
  go_wp2_with fail
  refine ⟨rfl, .agg #[.int .i64 r, .int .i64 1000, .int .i64 4, .int .i64 10, .int .i64 5, .int .i64 50, .int .i64 9, .int .i64 7, .int .i64 20], by simp [results, Tryd.f14, go_sem], rfl, ?_⟩
  exact (Below.refl _ w).alloc (Nat.le_refl _) _
/-- The law's client of a number. -/
def cliT (n : Int) : Tup := ⟨6, n % 50, 99, 1 + n / 50, 80⟩
theorem client_ok (n : Int) (hn : 0 ≤ n ∧ n < 65536) (w : World) : Calls Tryd.prog 16 #[.int .u16 n] w fun e w' => e = .returned (cliT n).v ∧ Below w.heap.size w w' := by
  have h1 : n.tdiv 50 = n / 50 := Int.tdiv_eq_ediv_of_nonneg hn.1
  have h2 : IntKind.u16.wrap (n / 50) = n / 50 := by simp [IntKind.wrap, IntKind.bits, IntKind.signed]; omega
  have e : wrap64 (1 + wrap64 (IntKind.u16.wrap (n.tdiv 50))) = 1 + n / 50 := by rw [h1, h2]; unfold wrap64; omega
  have E := Lib.hid e
  clear h1 h2 e
  unfold cliT Tup.v
  go_enter Tryd.func16, Tryd.ntmps16
  go_wp2_with fail
  refine ⟨rfl, .agg #[.int .i64 6, .int .u32 (n % 50), .int .u32 99, .int .i64 (wrap64 (1 + wrap64 (IntKind.u16.wrap (n.tdiv 50)))), .int .i64 80], by simp [results, Tryd.f16, go_sem], by rw [E.out], ?_⟩
  exact (Below.refl _ w).alloc (Nat.le_refl _) _
end Go.Proofs.YtpbknbnhljjjcaaDoor

namespace Go.Proofs.YtpbknbnhljjjcaaDoor
open Go.RowKit Go.Maps Go.Lib
/-- There is one flow. -/
structure OneR (c : Cf) (g : FlG) (f : Fw) : Prop where
  rows : g.t.rows = [none, some ⟨f.c, f.b, f⟩]
  free : g.t.free = []
  fA : ∀ x, g.t.fA x = if x = f.c then some 1 else none
  fB : ∀ x, g.t.fB x = if x = f.b then some 1 else none
  n : g.t.n = 1
  give : f.dsr = false → GiveOk c g f 0
  okc : f.c.ok
  okb : f.b.ok
  N : g.N < 1000000
/-- .. and it is due at t. -/
structure One (c : Cf) (g : FlG) (f : Fw) (t : Nat) : Prop extends OneR c g f where
  L : ∃ o, g.L = [⟨1, t, o⟩]
/-- There was one flow. -/
structure Gone (g : FlG) : Prop where
  rows : g.t.rows = [none, none]
  fA : ∀ x, g.t.fA x = none
  fB : ∀ x, g.t.fB x = none
  n : g.t.n = 0
  L : g.L = []
theorem OneR.endOk {c : Cf} {g : FlG} {f : Fw} (h : OneR c g f) (hnow : g.now ≤ 1099511627776) (hrest : c.rest ≤ 1099511627776) : EndOk c g 1 ⟨f.c, f.b, f⟩ 0 :=
  ⟨Nat.le_refl _, by rw [h.rows]; rfl, h.okc, h.okb, by rw [h.fA, if_pos rfl]; rfl, by rw [h.free]; decide, by decide, h.give, hnow, hrest, h.N⟩
theorem OneR.end {c : Cf} {g : FlG} {f : Fw} (h : OneR c g f) (hL : without 1 g.L = []) (l : List Int) : Gone (endG c g 1 ⟨f.c, f.b, f⟩ l 0) ∧ (endG c g 1 ⟨f.c, f.b, f⟩ l 0).now = g.now := by
  have e : ∀ G : FlG, (givenG c G f 0).t = G.t ∧ (givenG c G f 0).L = G.L ∧ (givenG c G f 0).now = G.now := fun G => by
    unfold givenG
    by_cases hd : f.dsr = true
    · rw [if_pos hd]; exact ⟨rfl, rfl, rfl⟩
    · rw [if_neg hd]; exact ⟨rfl, rfl, rfl⟩
  unfold endG
  obtain ⟨e1, e2, e3⟩ := e (offG (goneG g 1 ⟨f.c, f.b, f⟩ l) 1)
  refine ⟨⟨?_, fun x => ?_, fun x => ?_, ?_, ?_⟩, e3⟩
  · show (givenG c (offG (goneG g 1 ⟨f.c, f.b, f⟩ l) 1) f 0).t.rows = _
    rw [e1]
    show g.t.rows.set 1 none = _
    rw [h.rows]
    rfl
  · show (givenG c (offG (goneG g 1 ⟨f.c, f.b, f⟩ l) 1) f 0).t.fA x = _
    rw [e1]
    show updT g.t.fA f.c none x = none
    unfold updT
    rw [h.fA]
    by_cases hx : x = f.c
    · rw [if_pos hx]
    · rw [if_neg hx, if_neg hx]
  · show (givenG c (offG (goneG g 1 ⟨f.c, f.b, f⟩ l) 1) f 0).t.fB x = _
    rw [e1]
    show updT g.t.fB f.b none x = none
    unfold updT
    rw [h.fB]
    by_cases hx : x = f.b
    · rw [if_pos hx]
    · rw [if_neg hx, if_neg hx]
  · show (givenG c (offG (goneG g 1 ⟨f.c, f.b, f⟩ l) 1) f 0).t.n = _
    rw [e1]
    show g.t.n - 1 = 0
    rw [h.n]
  · show (givenG c (offG (goneG g 1 ⟨f.c, f.b, f⟩ l) 1) f 0).L = _
    rw [e2]
    exact hL
theorem GiveOk.same {c : Cf} {g g' : FlG} {f f' : Fw} (h : GiveOk c g f 0) (hb : f'.b = f.b) (hl : g'.lay = g.lay) (hp : g'.parts = g.parts) : GiveOk c g' f' 0 := by
  obtain ⟨h1, h2, h3, h4, h5⟩ := h
  have e : keyOf f' = keyOf f := by unfold keyOf; rw [hb]
  exact ⟨by rw [e]; exact h1, by rw [e, hl]; exact h2, by rw [hb]; exact h3, by rw [e, hp]; exact h4, h5⟩
theorem arm_one (t t' o o' : Nat) : armL 1 t' o' [⟨1, t, o⟩] = [⟨1, t', o'⟩] := rfl
/-- It stays: it stands anew and is due anew. -/
theorem One.on {c : Cf} {g : FlG} {f : Fw} {t : Nat} (h : One c g f t) (s : Int) (t' : Nat) : One c (armG (setG g 1 ⟨f.c, f.b, f⟩ { f with st := s }) 1 t') { f with st := s } t' := by
  obtain ⟨o, hL⟩ := h.L
  refine ⟨⟨?_, h.free, h.fA, h.fB, h.n, fun hd => (h.give hd).same rfl rfl rfl, h.okc, h.okb, h.N⟩, ⟨g.o + 1, ?_⟩⟩
  · show g.t.rows.set 1 _ = _
    rw [h.rows]
    rfl
  · show armL 1 t' (g.o + 1) g.L = _
    rw [hL]
    rfl
/-- Time goes by, and it is not due. -/
theorem One.go {c : Cf} {g : FlG} {f : Fw} {t : Nat} (h : One c g f t) (te : Nat) (ht : te < t) : One c (goG g te) f t ∧ upTil te g.L = [] := by
  obtain ⟨o, hL⟩ := h.L
  have h1 : upTil te g.L = [] := by rw [hL]; exact upTil_none (fun x hx => by rw [List.mem_singleton.1 hx]; exact ht)
  refine ⟨⟨⟨h.rows, h.free, h.fA, h.fB, h.n, fun hd => (h.give hd).same rfl rfl rfl, h.okc, h.okb, h.N⟩, o, ?_⟩, h1⟩
  show past te g.L = _
  rw [hL]
  exact past_all (fun x hx => by rw [List.mem_singleton.1 hx]; exact ht)
/-- Time goes by, and it is due. -/
theorem One.due {c : Cf} {g : FlG} {f : Fw} {t : Nat} (h : One c g f t) (te : Nat) (ht : t ≤ te) : (upTil te g.L).map Ent.key = [1] ∧ (upTil te g.L).length = 1 := by
  obtain ⟨o, hL⟩ := h.L
  have h1 : upTil te g.L = [⟨1, t, o⟩] := by rw [hL]; exact upTil_all (fun x hx => by rw [List.mem_singleton.1 hx]; exact ht)
  rw [h1]
  exact ⟨rfl, rfl⟩
theorem OneR.go {c : Cf} {g : FlG} {f : Fw} (h : OneR c g f) (te : Nat) : OneR c (goG g te) f := ⟨h.rows, h.free, h.fA, h.fB, h.n, fun hd => (h.give hd).same rfl rfl rfl, h.okc, h.okb, h.N⟩
theorem One.past {c : Cf} {g : FlG} {f : Fw} {t : Nat} (h : One c g f t) (te : Nat) (ht : t ≤ te) : past te g.L = [] := by
  obtain ⟨o, hL⟩ := h.L
  rw [hL]
  exact List.filter_eq_nil_iff.2 (fun x hx e => by rw [List.mem_singleton.1 hx] at e; have := of_decide_eq_true e; dsimp only at this; omega)
section
variable {S : Nat → Prop} {pl : Pl} {c : Cf} {g : FlG} {w : World} {f : Fw} {t : Nat}
/-- Time goes by, and it stays. -/
theorem adv_stay (h : Fls pl c g S w) (hTb : TabAt 0 Lib.deBruijn64tab w) (hT0 : 0 < w.heap.size ∧ ¬ S 0) (k : One c g f t) (n : Int) (hnb : n < 9223372036854775808) (hnow : g.now ≤ 1099511627776) (te : Nat) (hte : (te : Int) = g.now + min (max n 0) (1099511627776 - g.now)) (ht : te < t) :
    Calls Tryd.prog 19 #[.pointer (some ⟨pl.F, 0, none⟩), .int .i64 n] w fun e w' => ∃ v g' S', e = .returned v ∧ One c g' f t ∧ g'.now = te ∧ g'.o = g.o ∧ Go1 pl c S w g' S' w' ∧ Off S' w.heap.size 52 14 v 0 [] w' := by
  obtain ⟨k1, k2⟩ := k.go te ht
  refine (advance_fl h hTb hT0 n hnb hnow te hte (by rw [k2]; decide) (fun g' ks out => g' = goG g te ∧ ks = [] ∧ out = []) (fun _ _ _ _ e => by cases e.2.1) ⟨rfl, by rw [k2]; rfl, rfl⟩).mono ?_
  rintro e w' ⟨v, g', out, S', rfl, ⟨rfl, _, rfl⟩, h1, h2⟩
  exact ⟨v, _, S', rfl, k1, rfl, rfl, h1, h2⟩
/-- Time goes by, and it ends. -/
theorem adv_due (h : Fls pl c g S w) (hTb : TabAt 0 Lib.deBruijn64tab w) (hT0 : 0 < w.heap.size ∧ ¬ S 0) (k : One c g f t) (n : Int) (hnb : n < 9223372036854775808) (hnow : g.now ≤ 1099511627776) (hrest : c.rest ≤ 1099511627776) (te : Nat) (hte : (te : Int) = g.now + min (max n 0) (1099511627776 - g.now)) (hte2 : te ≤ 1099511627776) (ht : t ≤ te) :
    Calls Tryd.prog 19 #[.pointer (some ⟨pl.F, 0, none⟩), .int .i64 n] w fun e w' => ∃ v g' S', e = .returned v ∧ Gone g' ∧ g'.now = te ∧ Go1 pl c S w g' S' w' ∧ Off S' w.heap.size 52 14 v 1 f.cells w' := by
  obtain ⟨k1, k2⟩ := k.due te ht
  refine (advance_fl h hTb hT0 n hnb hnow te hte (by rw [k2]; decide) (fun g' ks out => (g' = goG g te ∧ ks = [1] ∧ out = []) ∨ (ks = [] ∧ out = [f] ∧ Gone g' ∧ g'.now = te)) ?_ (.inl ⟨rfl, k1, rfl⟩)).mono ?_
  · rintro G x ks out (⟨rfl, e, rfl⟩ | ⟨e, _⟩)
    · cases e
      refine ⟨1, ⟨f.c, f.b, f⟩, 0, rfl, (k.toOneR.go te).endOk hte2 hrest, fun l _ => .inr ⟨rfl, rfl, ?_⟩⟩
      have := (k.toOneR.go te).end (by show without 1 (Go.Proofs.YtpbknbnhljjjcaaDoor.past te g.L) = []; rw [k.past te ht]; rfl) l
      exact this
    · cases e
  · rintro e w' ⟨v, g', out, S', rfl, (⟨_, e, _⟩ | ⟨_, rfl, h3, h4⟩), h1, h2⟩
    · cases e
    · refine ⟨v, g', S', rfl, h3, h4, h1, ?_⟩
      have e : flowsC [f] = f.cells := by unfold flowsC; simp
      rw [e] at h2
      exact h2
theorem touch_stay (h : Fls pl c g S w) (k : One c g f t) (s : Nat) (hs : s < 9) (hst : f.st = (s : Int)) (b : Bool) (flags : Int) (x : Nat) (hx : fstep f.c.p s b flags = (x, true)) (hz : x ≠ 0) (n : Nat) (hsx : (Lit.int .i64 (x : Int)).wf = true) (hn : c.tm.of (x : Int) = some (n : Int)) (hn1 : 1 ≤ n) (hn2 : n ≤ 1073741824) (hnow : g.now < 1099511627776) (hog : g.o < 549755813887) :
    Calls Tryd.prog 18 #[.pointer (some ⟨pl.F, 0, none⟩), .int .i64 1, .bool b, .int .i64 flags] w fun e w' => e = .returned (.int .i64 0) ∧ ∃ g', One c g' { f with st := (x : Int) } (min (g.now + n) 1099511627776) ∧ g'.now = g.now ∧ g'.o = g.o + 1 ∧ Tn (Fls pl c g') S w w' := by
  have hi : g.t.rows[1]? = some (some ⟨f.c, f.b, f⟩) := by rw [k.rows]; rfl
  refine (show Calls Tryd.prog 18 #[.pointer (some ⟨pl.F, 0, none⟩), .int .i64 1, .bool b, .int .i64 flags] w _ from touch_on h (Nat.le_refl 1) hi s hs hst b flags (by rw [hx]) x (by rw [hx]) hz (by decide) n hsx hn hn1 hn2 hnow hog).mono ?_
  rintro e w' ⟨rfl, ht⟩
  exact ⟨rfl, _, k.on (x : Int) _, rfl, rfl, ht⟩
theorem touch_over (h : Fls pl c g S w) (k : One c g f t) (s : Nat) (hs : s < 9) (hst : f.st = (s : Int)) (b : Bool) (flags : Int) (hx : fstep f.c.p s b flags = (0, true)) (hnow : g.now ≤ 1099511627776) (hrest : c.rest ≤ 1099511627776) :
    Calls Tryd.prog 18 #[.pointer (some ⟨pl.F, 0, none⟩), .int .i64 1, .bool b, .int .i64 flags] w fun e w' => e = .returned (.int .i64 0) ∧ ∃ g', Gone g' ∧ g'.now = g.now ∧ Tn (Fls pl c g') S w w' := by
  have hi : g.t.rows[1]? = some (some ⟨f.c, f.b, f⟩) := by rw [k.rows]; rfl
  have q := k.toOneR.endOk hnow hrest
  refine (show Calls Tryd.prog 18 #[.pointer (some ⟨pl.F, 0, none⟩), .int .i64 1, .bool b, .int .i64 flags] w _ from touch_ends h (Nat.le_refl 1) hi s hs hst b flags (by rw [hx]) (by rw [hx]) q.a q.b q.fA q.free q.wf 0 q.give hnow hrest q.N).mono ?_
  rintro e w' ⟨rfl, l, _, ht⟩
  obtain ⟨o, hL⟩ := k.L
  obtain ⟨q1, q2⟩ := k.toOneR.end (by rw [hL]; rfl) l
  exact ⟨rfl, _, q1, q2, ht⟩
theorem touch_no (h : Fls pl c g S w) (k : One c g f t) (s : Nat) (hs : s < 9) (hst : f.st = (s : Int)) (b : Bool) (flags : Int) (hx : (fstep f.c.p s b flags).2 = false) :
    Calls Tryd.prog 18 #[.pointer (some ⟨pl.F, 0, none⟩), .int .i64 1, .bool b, .int .i64 flags] w fun e w' => e = .returned (.int .i64 15) ∧ Below w.heap.size w w' := by
  have hi : g.t.rows[1]? = some (some ⟨f.c, f.b, f⟩) := by rw [k.rows]; rfl
  exact touch_bad h (Nat.le_refl 1) hi s hs hst b flags hx
theorem touch_gone (h : Fls pl c g S w) (k : Gone g) (b : Bool) (flags : Int) :
    Calls Tryd.prog 18 #[.pointer (some ⟨pl.F, 0, none⟩), .int .i64 1, .bool b, .int .i64 flags] w fun e w' => e = .returned (.int .i64 19) ∧ Below w.heap.size w w' :=
  touch_nobody h 1 (.inr (.inr ⟨1, rfl, by rw [k.rows]; rfl⟩)) b flags
theorem get_one (h : Fls pl c g S w) (k : One c g f t) :
    Calls Tryd.prog 20 #[.pointer (some ⟨pl.F, 0, none⟩), .int .i64 1] w fun e w' => e = .returned (.tuple #[f.v, .bool true]) ∧ Below w.heap.size w w' := by
  have hi : g.t.rows[1]? = some (some ⟨f.c, f.b, f⟩) := by rw [k.rows]; rfl
  exact get_fl_some h (Nat.le_refl 1) hi
theorem get_gone (h : Fls pl c g S w) (k : Gone g) :
    Calls Tryd.prog 20 #[.pointer (some ⟨pl.F, 0, none⟩), .int .i64 1] w fun e w' => e = .returned (.tuple #[zF.v, .bool false]) ∧ Below w.heap.size w w' :=
  get_fl_nobody h 1 (.inr (.inr ⟨1, rfl, by rw [k.rows]; rfl⟩))
/-- The first flow, by NAT. -/
theorem open_one (h : Fls pl c g0 S w) (hTb : TabAt 0 Lib.deBruijn64tab w) (hT0 : 0 < w.heap.size ∧ ¬ S 0) {xs xd xx xy : Int} (hx : Net ⟨6, xs, xd, xx, xy⟩) (sv nat bi ba bp flags : Int) (hnat : 0 < nat ∧ nat < 4294967296) (hba : 0 ≤ ba ∧ ba < 4294967296) (hbp : -9223372036854775808 ≤ bp ∧ bp ≤ 9223372036854775807) (s : Nat) (hst : fstep 6 0 false flags = (s, true)) (n : Nat) (hsw : (Lit.int .i64 (s : Int)).wf = true) (hn : c.tm.of (s : Int) = some (n : Int)) (hn1 : 1 ≤ n) (hn2 : n ≤ 1073741824) (hroom : 1 ≤ c.room) (hm : 1 ≤ c.many ∧ c.many ≤ 64) (hlow : c.low ≤ 65536) :
    Calls Tryd.prog 15 #[.pointer (some ⟨pl.F, 0, none⟩), .agg #[.int .i64 6, .int .u32 xs, .int .u32 xd, .int .i64 xx, .int .i64 xy], .int .i64 sv, .int .u32 nat, .agg #[.int .i64 bi, .int .u32 ba, .int .i64 bp], .int .i64 flags] w fun e w' => e = .returned (.tuple #[.int .i64 1, .int .i64 0]) ∧ ∃ g', One c g' ⟨⟨6, xs, xd, xx, xy⟩, ⟨6, nat, ba, (c.low : Int), bp⟩, sv, bi, (s : Int), false⟩ n ∧ g'.now = 0 ∧ g'.o = 1 ∧ Tn (Fls pl c g') S w w' := by
  have hK : (⟨6, nat, ba, bp⟩ : PKey).ok := ⟨(show (Lit.int .i64 6).wf = true by decide), u32_wf (Int.le_of_lt hnat.1) hnat.2, u32_wf hba.1 hba.2, i64_wf' hbp.1 hbp.2⟩
  have hB : (⟨6, nat, ba, (c.low : Int), bp⟩ : Tup).ok := ⟨(show (Lit.int .i64 6).wf = true by decide), u32_wf (Int.le_of_lt hnat.1) hnat.2, u32_wf hba.1 hba.2, i64_wf' (show -9223372036854775808 ≤ (c.low : Int) by omega) (show (c.low : Int) ≤ 9223372036854775807 by omega), i64_wf' hbp.1 hbp.2⟩
  refine (open_nat h hTb hT0 hx sv nat bi ba bp flags (by simp; omega) s hst rfl (show 0 ≠ c.room by omega) (show 0 < 1099511627776 by omega) (c.low : Int) ((1 : Nat) : Int) (by omega) (fun g1 => ∃ pb, g1 = takeG c g0 ⟨6, nat, ba, bp⟩ pb) (fun g2 => ∃ pb, g2 = putG (takeG c g0 ⟨6, nat, ba, bp⟩ pb) ⟨6, xs, xd, xx, xy⟩ ⟨6, nat, ba, (c.low : Int), bp⟩ ⟨⟨6, xs, xd, xx, xy⟩, ⟨6, nat, ba, (c.low : Int), bp⟩, sv, bi, (s : Int), false⟩) ?_ ?_ n hsw hn hn1 hn2 ?_).mono ?_
  · intro U W k z1 z2
    refine (take_in k z1 z2 hK rfl hm (show 0 < 1000000 by omega) hlow _).mono ?_
    rintro e w' ⟨rfl, pb, ht⟩
    exact ⟨rfl, _, ⟨pb, rfl⟩, ht⟩
  · rintro g1 ⟨pb, rfl⟩ U W k
    refine (put_in k hx.ok hB _ rfl rfl (show 0 ≠ c.room by omega) rfl (show 0 < 1000000 by omega) (show 0 < 1000000 by omega) (show 1 < 1000000 by omega)).mono ?_
    rintro e w' ⟨rfl, ht⟩
    exact ⟨rfl, _, ⟨pb, rfl⟩, ht⟩
  · rintro g2 ⟨pb, rfl⟩
    exact ⟨rfl, show 0 < 549755813887 by omega⟩
  · rintro e w' ⟨rfl, g2, ⟨pb, rfl⟩, ht⟩
    have et : min (g0.now + n) 1099511627776 = n := by show min (0 + n) _ = n; omega
    rw [et] at ht
    refine ⟨rfl, _, ⟨⟨rfl, rfl, fun x => rfl, fun x => rfl, rfl, fun _ => ⟨hK, ⟨pb, ?_⟩, rfl, ?_, by omega⟩, hx.ok, hB, show 1 < 1000000 by omega⟩, ⟨1, rfl⟩⟩, rfl, rfl, ht⟩
    · show updL g0.lay ⟨6, nat, ba, bp⟩ (some pb) ⟨6, nat, ba, bp⟩ = some pb
      unfold updL
      rw [if_pos rfl]
    · show (updL g0.parts ⟨6, nat, ba, bp⟩ (part1 c.many) ⟨6, nat, ba, bp⟩).lent 0 = true
      unfold updL
      rw [if_pos rfl]
      rfl
/-- The first flow, by DSR. -/
theorem open_one_dsr (h : Fls pl c g0 S w) {xs xd xx xy : Int} (hx : Net ⟨6, xs, xd, xx, xy⟩) (sv bi ba bp flags : Int) (s : Nat) (hst : fstep 6 0 false flags = (s, true)) (n : Nat) (hsw : (Lit.int .i64 (s : Int)).wf = true) (hn : c.tm.of (s : Int) = some (n : Int)) (hn1 : 1 ≤ n) (hn2 : n ≤ 1073741824) (hroom : 1 ≤ c.room) :
    Calls Tryd.prog 15 #[.pointer (some ⟨pl.F, 0, none⟩), .agg #[.int .i64 6, .int .u32 xs, .int .u32 xd, .int .i64 xx, .int .i64 xy], .int .i64 sv, .int .u32 0, .agg #[.int .i64 bi, .int .u32 ba, .int .i64 bp], .int .i64 flags] w fun e w' => e = .returned (.tuple #[.int .i64 1, .int .i64 0]) ∧ ∃ g', One c g' ⟨⟨6, xs, xd, xx, xy⟩, ⟨-6, xs, xd, xx, xy⟩, sv, bi, (s : Int), true⟩ n ∧ g'.now = 0 ∧ g'.o = 1 ∧ Tn (Fls pl c g') S w w' := by
  have hB : (⟨-6, xs, xd, xx, xy⟩ : Tup).ok := ⟨show (Lit.int .i64 (-6)).wf = true by decide, hx.ok.2⟩
  refine (open_dsr h hx sv bi ba bp flags s hst rfl (show 0 ≠ c.room by omega) (show 0 < 1099511627776 by omega) ((1 : Nat) : Int) (by omega) (fun g2 => g2 = putG g0 ⟨6, xs, xd, xx, xy⟩ ⟨-6, xs, xd, xx, xy⟩ ⟨⟨6, xs, xd, xx, xy⟩, ⟨-6, xs, xd, xx, xy⟩, sv, bi, (s : Int), true⟩) ?_ n hsw hn hn1 hn2 ?_).mono ?_
  · intro U W k
    refine (put_in k hx.ok hB _ rfl rfl (show 0 ≠ c.room by omega) rfl (show 0 < 1000000 by omega) (show 0 < 1000000 by omega) (show 1 < 1000000 by omega)).mono ?_
    rintro e w' ⟨rfl, ht⟩
    exact ⟨rfl, _, rfl, ht⟩
  · rintro g2 rfl
    exact ⟨rfl, show 0 < 549755813887 by omega⟩
  · rintro e w' ⟨rfl, g2, rfl, ht⟩
    have et : min (g0.now + n) 1099511627776 = n := by show min (0 + n) _ = n; omega
    rw [et] at ht
    exact ⟨rfl, _, ⟨⟨rfl, rfl, fun x => rfl, fun x => rfl, rfl, (fun e => by cases e), hx.ok, hB, show 0 < 1000000 by omega⟩, ⟨1, rfl⟩⟩, rfl, rfl, ht⟩
end
end Go.Proofs.YtpbknbnhljjjcaaDoor

namespace Go.Proofs.YtpbknbnhljjjcaaDoor
open Go.RowKit Go.Maps Go.Lib
/-- All flows lie in memory that is new since w. -/
structure Lv (pl : Pl) (c : Cf) (w : World) (g : FlG) (U : Nat → Prop) (W : World) : Prop where
  fl : Fls pl c g U W
  bel : Below w.heap.size w W
  new : ∀ i, U i → w.heap.size ≤ i
section
variable {pl : Pl} {c : Cf} {w : World} {g g' : FlG} {U : Nat → Prop} {W W' : World}
theorem Lv.below (h : Lv pl c w g U W) (hb : Below W.heap.size W W') : Lv pl c w g U W' := ⟨h.fl.below hb, h.bel.trans (hb.mono h.bel.size), h.new⟩
theorem Lv.turn {V : Nat → Prop} (h : Lv pl c w g U W) (k1 : Fls pl c g' V W') (k2 : Only U W W') (k3 : ∀ i, V i → U i ∨ W.heap.size ≤ i) : Lv pl c w g' V W' := by
  refine ⟨k1, ⟨k2.os.trans h.bel.os, k2.tape.trans h.bel.tape, k2.output.trans h.bel.output, Nat.le_trans h.bel.size k2.size, fun i hi => (k2.block i (Nat.lt_of_lt_of_le hi h.bel.size) (fun e => by have := h.new i e; omega)).trans (h.bel.block i hi)⟩, fun i hi => ?_⟩
  rcases k3 i hi with e | e
  · exact h.new i e
  · exact Nat.le_trans h.bel.size e
theorem Lv.step (h : Lv pl c w g U W) (ht : Tn (Fls pl c g') U W W') : ∃ V, Lv pl c w g' V W' ∧ Only U W W' ∧ ∀ i, V i → U i ∨ W.heap.size ≤ i := by
  obtain ⟨V, k1, k2, k3⟩ := ht
  exact ⟨V, h.turn k1 k2 k3, k2, k3⟩
theorem Lv.tab (h : Lv pl c w g U W) (hE : TabAt 0 Lib.deBruijn64tab w ∧ 0 < w.heap.size) : TabAt 0 Lib.deBruijn64tab W ∧ 0 < W.heap.size ∧ ¬ U 0 :=
  ⟨TabAt.kept hE.1 (h.bel.block 0 hE.2), Nat.lt_of_lt_of_le hE.2 h.bel.size, fun e => by have := h.new 0 e; omega⟩
/-- A block of somebody's, beside the flows. -/
def Mine (b : Nat) (U : Nat → Prop) (W : World) : Prop := b < W.heap.size ∧ ¬ U b
theorem Mine.new (h : Lv pl c w g U W) (o : Obj) : Mine W.heap.size U (W.alloc o) := ⟨by simp, fun e => by have := Fls.comp.low h.fl _ e; omega⟩
theorem Mine.below {b : Nat} (h : Mine b U W) (hb : Below W.heap.size W W') : Mine b U W' ∧ W'.heap[b]? = W.heap[b]? := ⟨⟨Nat.lt_of_lt_of_le h.1 hb.size, h.2⟩, hb.block b h.1⟩
theorem Mine.step {b : Nat} {V : Nat → Prop} (h : Mine b U W) (k2 : Only U W W') (k3 : ∀ i, V i → U i ∨ W.heap.size ≤ i) : Mine b V W' ∧ W'.heap[b]? = W.heap[b]? := by
  refine ⟨⟨Nat.lt_of_lt_of_le h.1 k2.size, fun e => ?_⟩, k2.block b h.1 h.2⟩
  rcases k3 b e with e | e
  · exact h.2 e
  · have := h.1; omega
end
/-- The law's plain config. -/
def cfR (room : Nat) : Cf := ⟨⟨5, 50, 9, 7, 20⟩, 1000, 4, 10, room⟩
theorem cfR_right (room : Nat) : (cfR room).tm.right := by
  intro s n h
  unfold cfR Tms.of at h
  dsimp only at h
  split at h
  · cases h; decide
  split at h
  · cases h; decide
  split at h
  · cases h; decide
  split at h
  · cases h; decide
  split at h
  · cases h; decide
  split at h
  · cases h; decide
  split at h
  · cases h; decide
  split at h
  · cases h; decide
  cases h
theorem new_plain (room : Nat) (hr : 1 ≤ room ∧ room ≤ 65536) (w W : World) (hb : Below w.heap.size w W) : Calls Tryd.prog 12 #[.agg #[.int .i64 (room : Int), .int .i64 1000, .int .i64 4, .int .i64 10, .int .i64 5, .int .i64 50, .int .i64 9, .int .i64 7, .int .i64 20]] W fun e w' => ∃ pl U, e = .returned (.tuple #[.pointer (some ⟨pl.F, 0, none⟩), .int .i64 0]) ∧ Lv pl (cfR room) w g0 U w' := by
  refine (new_fl (cfR room) hr (by show ¬ PortsBad 1000 4 10; unfold PortsBad; omega) (cfR_right room) W).mono ?_
  rintro e w' ⟨pl, U, rfl, h1, h2, h3⟩
  exact ⟨pl, U, rfl, h1, hb.trans (h2.mono hb.size), fun i hi => Nat.le_trans hb.size (h3 i hi)⟩
/-- The examples' flow. -/
def fwE : Fw := ⟨⟨6, 1, 2, 3, 4⟩, ⟨6, 9, 7, 1000, 8⟩, 1, 5, 1, false⟩
theorem fstep_syn : fstep 6 0 false 2 = (1, true) := by kernel_rfl
set_option maxRecDepth 100000 in
set_option maxHeartbeats 4000000 in
theorem examples_ok (w : World) (hE : TabAt 0 Lib.deBruijn64tab w ∧ 0 < w.heap.size) :
    Calls Tryd.prog 11 #[] w fun e w' => e = .returned (.bool true) ∧ Below w.heap.size w w' := by
  have HPL := Lib.hid (fun (W : World) => plain_ok 2 W)
  have HNW := Lib.hid (fun (W : World) (hb : Below w.heap.size w W) => (show Calls Tryd.prog 12 #[.agg #[.int .i64 2, .int .i64 1000, .int .i64 4, .int .i64 10, .int .i64 5, .int .i64 50, .int .i64 9, .int .i64 7, .int .i64 20]] W _ from new_plain 2 (by omega) w W hb))
  have HNB := Lib.hid (fun (W : World) => new_bad 0 0 0 0 0 0 0 0 0 (.inl (by omega)) (by omega) (.inl (by omega)) W)
  have HOP := Lib.hid (show ∀ (pl : Pl) (U : Nat → Prop) (W : World), Lv pl (cfR 2) w g0 U W → Calls Tryd.prog 15 #[.pointer (some ⟨pl.F, 0, none⟩), .agg #[.int .i64 6, .int .u32 1, .int .u32 2, .int .i64 3, .int .i64 4], .int .i64 1, .int .u32 9, .agg #[.int .i64 5, .int .u32 7, .int .i64 8], .int .i64 2] W fun e w' => e = .returned (.tuple #[.int .i64 1, .int .i64 0]) ∧ ∃ g' V, One (cfR 2) g' fwE 5 ∧ g'.now = 0 ∧ Lv pl (cfR 2) w g' V w' from fun pl U W k => by
    obtain ⟨z1, z2⟩ := k.tab hE
    refine (open_one k.fl z1 z2 ⟨by decide, by decide, by decide, by decide, by decide⟩ 1 9 5 7 8 2 (by omega) (by omega) (by omega) 1 fstep_syn 5 (by decide) rfl (by omega) (by omega) (by decide) (by decide) (by decide)).mono ?_
    rintro e w' ⟨rfl, g', h1, h2, h3, ht⟩
    obtain ⟨V, k1, _, _⟩ := k.step ht
    exact ⟨rfl, g', V, h1, h2, k1⟩)
  have HGT := Lib.hid (show ∀ (pl : Pl) (g : FlG) (U : Nat → Prop) (W : World), Lv pl (cfR 2) w g U W → One (cfR 2) g fwE 5 → _ from fun pl g U W k o => get_one k.fl o)
  have HBH := Lib.hid (show ∀ (pl : Pl) (g : FlG) (U : Nat → Prop) (W : World), Lv pl (cfR 2) w g U W → One (cfR 2) g fwE 5 → Calls Tryd.prog 23 #[.pointer (some ⟨pl.F, 0, none⟩), .agg #[.int .i64 6, .int .u32 9, .int .u32 7, .int .i64 1000, .int .i64 8]] W fun e w' => e = .returned (.tuple #[.int .i64 1, .bool true]) ∧ Below W.heap.size W w' from fun pl g U W k o => by
    have h0 := behind_fl k.fl (x := ⟨6, 9, 7, 1000, 8⟩) o.okb
    rw [o.fB, if_pos (show (⟨6, 9, 7, 1000, 8⟩ : Tup) = fwE.b from rfl)] at h0
    exact h0)
  have HAD := Lib.hid (show ∀ (pl : Pl) (g : FlG) (U : Nat → Prop) (W : World), Lv pl (cfR 2) w g U W → One (cfR 2) g fwE 5 → g.now = 0 → Calls Tryd.prog 19 #[.pointer (some ⟨pl.F, 0, none⟩), .int .i64 5] W fun e w' => ∃ p cap g' V, e = .returned (.slice p 1 cap) ∧ Gone g' ∧ g'.now = 5 ∧ Lv pl (cfR 2) w g' V w' ∧ Only U W w' ∧ ∀ i, V i → U i ∨ W.heap.size ≤ i from fun pl g U W k o hn => by
    obtain ⟨z1, z2⟩ := k.tab hE
    refine (adv_due k.fl z1 z2 o 5 (by omega) (by rw [hn]; omega) (by decide) 5 (by rw [hn]; decide) (by omega) (Nat.le_refl _)).mono ?_
    rintro e w' ⟨v, g', V, rfl, h1, h2, h3, h4⟩
    obtain ⟨p, cap, rfl, _⟩ := row_form h4.1
    exact ⟨p, cap, g', V, rfl, h1, h2, k.turn h3.fl h3.on h3.new, h3.on, h3.new⟩)
  have HLN := Lib.hid (show ∀ (pl : Pl) (g : FlG) (U : Nat → Prop) (W : World), Lv pl (cfR 2) w g U W → Gone g → Calls Tryd.prog 17 #[.pointer (some ⟨pl.F, 0, none⟩)] W fun e w' => e = .returned (.int .i64 0) ∧ w' = W from fun pl g U W k o => by
    have h0 := len_fl k.fl
    rw [o.n] at h0
    exact h0)
  have HNO := Lib.hid (show ∀ (pl : Pl) (g : FlG) (U : Nat → Prop) (W : World), Lv pl (cfR 2) w g U W → g.now = 5 → Calls Tryd.prog 26 #[.pointer (some ⟨pl.F, 0, none⟩)] W fun e w' => e = .returned (.int .i64 5) ∧ w' = W from fun pl g U W k o => by
    have h0 := now_fl k.fl
    rw [o] at h0
    exact h0)
  clear hE
  unfold fwE Fw.v at HGT
  dsimp only at HGT
  go_enter Tryd.func11, Tryd.ntmps11
  go_upto_region 2 with (first
    | (go_at_call 14; refine (HPL.out _).mono ?_; rintro e w1 ⟨rfl, hb⟩; have HB1 := Lib.hid hb; clear hb)
    | (go_at_call 12; refine (HNW.out _ HB1.out).mono ?_; rintro e w2 ⟨pl, U2, rfl, k⟩; have HL2 := Lib.hid k; clear k))
  go_upto_region 3 with (go_at_call 12; refine (HNB.out _).mono ?_; rintro e w3 ⟨rfl, hb⟩; have HL3 := Lib.hid (HL2.out.below hb); clear hb)
  go_upto_region 6 with fail
  have HL5 := Lib.hid (HL3.out.below ((Below.refl _ w3).alloc (Nat.le_refl _) (.cells #[.int .i64 6, .int .u32 1, .int .u32 2, .int .i64 3, .int .i64 4] 41)))
  go_upto_region 7 with (go_at_call 15; refine (HOP.out _ _ _ HL5.out).mono ?_; rintro e w4 ⟨rfl, g4, U4, o4, n4, k4⟩; have HO4 := Lib.hid o4; have HN4 := Lib.hid n4; have HL4 := Lib.hid k4; clear o4 n4 k4)
  go_upto_region 8 with (go_at_call 20; refine (HGT.out _ _ _ _ HL4.out HO4.out).mono ?_; rintro e w6 ⟨rfl, hb⟩; have HL6 := Lib.hid (HL4.out.below hb); clear hb)
  obtain ⟨bx, hbx⟩ : ∃ bx, w6.heap.size = bx := ⟨_, rfl⟩
  have hw7 := heap_alloc_new w6 (boxF fwE)
  have k7 := HL6.out.below ((Below.refl _ w6).alloc (Nat.le_refl _) (boxF fwE))
  have m7 := Mine.new HL6.out (boxF fwE)
  unfold boxF fwE at hw7 k7 m7
  dsimp only at hw7 k7 m7
  rw [hbx] at hw7 m7 ⊢
  revert hw7 k7 m7
  generalize w6.alloc (.cells #[.int .i64 6, .int .u32 1, .int .u32 2, .int .i64 3, .int .i64 4, .int .i64 6, .int .u32 9, .int .u32 7, .int .i64 1000, .int .i64 8, .int .i64 1, .int .i64 5, .int .i64 1, .bool false] 52) = w7
  intro hw7 k7 m7
  have HX7 := Lib.hid hw7
  have HL7 := Lib.hid k7
  have HM7 := Lib.hid m7
  clear hw7 k7 m7
  go_upto_region 9 with (go_at_call 23; refine (HBH.out _ _ _ _ HL7.out HO4.out).mono ?_; rintro e w8 ⟨rfl, hb⟩; have HL8 := Lib.hid (HL7.out.below hb); have HM8 := Lib.hid (HM7.out.below hb); clear hb)
  go_upto_region 10 with (go_at_call 19; refine (HAD.out _ _ _ _ HL8.out HO4.out HN4.out).mono ?_; rintro e w9 ⟨p, cap, g9, U9, rfl, o9, n9, k9, q9, r9⟩; have HM9 := Lib.hid (HM8.out.1.step q9 r9); have HO9 := Lib.hid o9; have HN9 := Lib.hid n9; have HL9 := Lib.hid k9; clear o9 n9 k9 q9 r9)
  have x9 := HM9.out.2.trans (HM8.out.2.trans HX7.out)
  have c12 : w9.cell? ⟨bx, 12, none⟩ = some (.int .i64 1) := by simp [World.cell?, x9]
  clear x9
  go_wp2_with (first
    | (go_at_call 17; refine (HLN.out _ _ _ _ HL9.out HO9.out).mono ?_; rintro e wx ⟨rfl, rfl⟩)
    | (go_at_call 26; refine (HNO.out _ _ _ _ HL9.out HN9.out).mono ?_; rintro e wx ⟨rfl, rfl⟩))
  go_ret
  exact ⟨rfl, HL9.out.bel⟩
end Go.Proofs.YtpbknbnhljjjcaaDoor
