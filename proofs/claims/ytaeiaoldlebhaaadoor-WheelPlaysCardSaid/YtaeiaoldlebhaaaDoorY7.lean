import Derived.Test.YtaeiaoldlebhaaaDoorY6
import Derived.Deep.Slices
import Derived.ChangeArms
import Derived.Deep.Fields23
namespace Go.Proofs.YtaeiaoldlebhaaaDoor
open Go.RowKit Go.Shelf Go.ChangeShapes Go.Deep Go.Lib

/-- A deed: its kind, a key, a time, whether it is far. -/
structure Dd where
  kind : Int
  k : Int
  a : Int
  far : Bool
def Dd.wide (d : Dd) : Prop := (Lit.int .i64 d.kind).wf = true ∧ (Lit.int .i64 d.k).wf = true ∧ (Lit.int .i64 d.a).wf = true
def Dd.row (d : Dd) : List Value := [.int .i64 d.kind, .int .i64 d.k, .int .i64 d.a, .bool d.far]
/-- A row of deeds that came in. -/
def DeedsIn (w : World) (a : Option Addr) (len cap : Nat) : Prop :=
  (a = none ∧ len = 0 ∧ cap = 0) ∨
  ∃ x, a = some x ∧ len ≤ cap ∧ cap ≤ maxLen ∧ ∀ i, i < len → ∃ d : Dd, d.wide ∧ ∀ j v, d.row[j]? = some v → w.cell? (x.add (i * 4 + j)) = some v
theorem deed_fields : ∃ f0 f1 f2 f3 : Field, Tryd.prog.underlying 55 = some (.struct #[f0, f1, f2, f3]) ∧ (f0.type = 3 ∧ f1.type = 3 ∧ f2.type = 3 ∧ f3.type = 4) ∧ (f0.offset = 0 ∧ f1.offset = 1 ∧ f2.offset = 2 ∧ f3.offset = 3) :=
  ⟨_, _, _, _, Tryd.underlying55, ⟨rfl, rfl, rfl, rfl⟩, ⟨rfl, rfl, rfl, rfl⟩⟩
theorem c55 : Tryd.prog.cellsOf 55 = 4 := by kernel_rfl
theorem c3 : Tryd.prog.cellsOf 3 = 1 := by kernel_rfl
theorem c4 : Tryd.prog.cellsOf 4 = 1 := by kernel_rfl
set_option maxRecDepth 100000 in
theorem open_deeds {H : Type} {enc : TypeId × Value → H} {w : World} {base : Nat} {spare : Nat → Bool} {held : Bool} {fuel : Nat} {a : Option Addr} {len cap : Nat} {x : DataW H × List MemPlace}
    (h : DataW.trod enc Tryd.prog w base spare held fuel 48 [.slice a len cap] = some x) : DeedsIn w a len cap := by
  rcases open_slice Tryd.underlying48 h with ⟨h0, _⟩ | ⟨a', len', cap', m, n, D, Pl, h0, hb, hl, hm, hmm, rfl, hx⟩
  · simp at h0
    exact .inl h0
  · simp at h0
    obtain ⟨rfl, rfl, rfl⟩ := h0
    refine .inr ⟨_, rfl, hl, hm, fun i hi => ?_⟩
    obtain ⟨cs', h1, h2⟩ := hx i (by rw [hmm]; split <;> omega)
    rw [c55] at h1
    obtain ⟨_, hlen, hcell⟩ := World.cells?_some h1
    obtain ⟨f0, f1, f2, f3, hu, ⟨t0, t1, t2, t3⟩, ⟨o0, o1, o2, o3⟩⟩ := deed_fields
    obtain ⟨xs, k, hk, hxy, _, hxl, hf⟩ := DataW.trod_struct hu h2
    match xs, hxl, cs', hlen with
    | [y0, y1, y2, y3], _, [v0, v1, v2, v3], _ =>
      have g0 := hf 0 f0 rfl
      have g1 := hf 1 f1 rfl
      have g2 := hf 2 f2 rfl
      have g3 := hf 3 f3 rfl
      rw [t0, o0, c3] at g0
      rw [t1, o1, c3] at g1
      rw [t2, o2, c3] at g2
      rw [t3, o3, c4] at g3
      obtain ⟨k0, e0, _, w0⟩ := DataW.trod_int Tryd.underlying3 (show DataW.trod enc Tryd.prog w base spare held k 3 [v0] = some y0 from g0)
      obtain ⟨k1, e1, _, w1⟩ := DataW.trod_int Tryd.underlying3 (show DataW.trod enc Tryd.prog w base spare held k 3 [v1] = some y1 from g1)
      obtain ⟨k2, e2, _, w2⟩ := DataW.trod_int Tryd.underlying3 (show DataW.trod enc Tryd.prog w base spare held k 3 [v2] = some y2 from g2)
      obtain ⟨b3, e3, _⟩ := DataW.trod_bool Tryd.underlying4 (show DataW.trod enc Tryd.prog w base spare held k 4 [v3] = some y3 from g3)
      simp only [List.cons.injEq, and_true] at e0 e1 e2 e3
      subst e0 e1 e2 e3
      refine ⟨⟨k0, k1, k2, b3⟩, ⟨w0, w1, w2⟩, fun j v hv => ?_⟩
      have hj : j < 4 := by have := (List.getElem?_eq_some_iff.1 hv).1; simpa [Dd.row] using this
      have e := hcell j (by omega)
      rw [add_add] at e
      rw [e]
      simp only [Dd.row] at hv
      exact hv
theorem DeedsIn.len {w : World} {a : Option Addr} {len cap : Nat} (h : DeedsIn w a len cap) : len ≤ cap ∧ cap ≤ maxLen := by
  rcases h with ⟨_, rfl, rfl⟩ | ⟨x, _, h1, h2, _⟩
  · exact ⟨Nat.le_refl _, by decide⟩
  · exact ⟨h1, h2⟩
theorem add_off (x : Addr) (i j : Nat) : ({ block := (x.add i).block, off := (x.add i).off + (j + 1) } : Addr) = x.add (i + (j + 1)) := by
  by_cases e : i = 0
  · subst e; simp [Addr.add]
  · simp [Addr.add, e, Nat.add_assoc]
/-- A deed's cells, as they are read. -/
structure DCells (y : Addr) (d : Dd) (W : World) : Prop where
  c0 : W.cell? y = some (.int .i64 d.kind)
  c1 : W.cell? { block := y.block, off := y.off + 1 } = some (.int .i64 d.k)
  c2 : W.cell? { block := y.block, off := y.off + 2 } = some (.int .i64 d.a)
  c3 : W.cell? { block := y.block, off := y.off + 3 } = some (.bool d.far)
theorem DeedsIn.read {w wr : World} {a : Option Addr} {len cap i : Nat} (h : DeedsIn w a len cap) (hb : Below w.heap.size w wr) (hi : i < len) : ∃ (x : Addr) (d : Dd), a = some x ∧ d.wide ∧ DCells (x.add (i * 4)) d wr := by
  rcases h with ⟨_, e, _⟩ | ⟨x, rfl, _, _, h⟩
  · omega
  · obtain ⟨d, hd, hc⟩ := h i hi
    have q := fun (j : Nat) (v : Value) (hv : d.row[j]? = some v) => (hb.cell (World.block_lt_of_cell? _ _ (hc j v hv))).trans (hc j v hv)
    exact ⟨x, d, rfl, hd, q 0 _ rfl, by rw [add_off]; exact q 1 _ rfl, by rw [add_off]; exact q 2 _ rfl, by rw [add_off]; exact q 3 _ rfl⟩
/-- A mark of a loop that has been left. -/
def mark (D : Nat) : Deferred := { target := .collected D, args := #[] }
/-- A function leaves with the marks of its loops. -/
theorem leaves_marks {fn : Func} {tmps : Array Value} {R : Ending → World → Prop} : ∀ (Ds : List Nat) (Y : World), Ds.Nodup → (∀ D ∈ Ds, Y.heap[D]? = some (.deferred (some []))) →
    (∀ Y' : World, Y'.os = Y.os → Y'.tape = Y.tape → Y'.output = Y.output → Y'.heap.size = Y.heap.size → (∀ i, i ∉ Ds → Y'.heap[i]? = Y.heap[i]?) → LeavesIn Fence.wide 9 Tryd.prog fn tmps R [] .returning Y') → LeavesInM Fence.wide 9 Tryd.prog fn tmps R (Ds.map mark) .returning Y
  | [], Y, _, _, h => h Y rfl rfl rfl rfl (fun _ _ => rfl)
  | D :: Ds, Y, hn, hd, h => by
    have hn2 := List.nodup_cons.1 hn
    refine ⟨by simp, .inl ⟨D, _, rfl, run_takeDeferred (hd D (List.mem_cons_self ..)), ?_⟩⟩
    refine leaves_marks Ds _ hn2.2 (fun D' hD' => ?_) (fun Y' h1 h2 h3 h4 h5 => ?_)
    · rw [World.putObj_heap_other (fun (e : D' = D) => hn2.1 (e ▸ hD'))]
      exact hd D' (List.mem_cons_of_mem _ hD')
    · refine h Y' h1 h2 h3 (h4.trans (by simp)) (fun i hi => ?_)
      rw [h5 i (fun e => hi (List.mem_cons_of_mem _ e)), World.putObj_heap_other (fun (e : i = D) => hi (e ▸ List.mem_cons_self ..))]
/-- Both wheels, new. -/
theorem play_start {wx wa : World} {W b2 : Nat} {S : Nat → Prop} (h : Whl S W 0 0 [] wa) (hb : Below wx.heap.size wx wa) (hS : ∀ i, S i → wx.heap.size ≤ i) (h2 : b2 < wx.heap.size) :
    Both wx.heap.size W wa.heap.size 0 0 [] 0 [] [wa.heap.size + 1, b2] ((wa.alloc (.cells #[.int .i64 0, .slice none 0 0] 52)).alloc (.cells #[.pointer (some ⟨wa.heap.size, 0, none⟩)] 49)) := by
  have hs := hb.size
  have hA : Below wa.heap.size wa ((wa.alloc (.cells #[.int .i64 0, .slice none 0 0] 52)).alloc (.cells #[.pointer (some ⟨wa.heap.size, 0, none⟩)] 49)) := ((Below.refl _ wa).alloc (Nat.le_refl _) _).alloc (by simp) _
  refine ⟨S, none, 0, h.below hA, ⟨?_, ⟨Nat.le_refl _, by decide, .inl rfl⟩, (fun g off e => by cases e)⟩, hS, ⟨hs, fun hX => by have := h.low _ hX; omega⟩, (fun g off e => by cases e), fun i hi => ?_⟩
  · exact (Below.heap_alloc _ _ _ (by simp)).trans (heap_alloc_new wa _)
  · simp only [List.mem_cons, List.not_mem_nil, or_false] at hi
    rcases hi with rfl | rfl
    · exact ⟨fun hX => by have := h.low _ hX; omega, by omega, by simp⟩
    · exact ⟨fun hX => by have := hS _ hX; omega, by omega, by simp; omega⟩
/-- What the law's loop keeps. -/
structure PlI (w : World) (B W X C b2 i : Nat) (Ds : List Nat) (Y : World) : Prop where
  both : ∃ now o L, Both B W X now o L now L (Ds ++ [C, b2]) Y ∧ o ≤ i
  boxC : Y.heap[C]? = some (.cells #[.pointer (some ⟨X, 0, none⟩)] 49 (0, 0))
  boxR : Y.heap[b2]? = some (.cells #[.bool false] 4 (0, 0))
  nd : Ds.Nodup
  marks : ∀ D ∈ Ds, Y.heap[D]? = some (.deferred (some []))
  hi : ∀ D ∈ Ds, w.heap.size ≤ D
  below : Below w.heap.size w Y
  wb : w.heap.size ≤ B
theorem PlI.step {w : World} {B W X C b2 i now o : Nat} {L : List Ent} {Ds : List Nat} {Y Y' : World} (h : PlI w B W X C b2 i Ds Y) (hq : Both B W X now o L now L (Ds ++ [C, b2]) Y') (ho : o ≤ i + 1) (hb : Below B Y Y') (hg : ∀ j ∈ Ds ++ [C, b2], Y'.heap[j]? = Y.heap[j]?) : PlI w B W X C b2 (i + 1) Ds Y' :=
  ⟨⟨now, o, L, hq, ho⟩, (hg C (by simp)).trans h.boxC, (hg b2 (by simp)).trans h.boxR, h.nd, fun D hD => (hg D (List.mem_append_left _ hD)).trans (h.marks D hD), h.hi, h.below.trans (hb.mono h.wb), h.wb⟩
/-- The range's own: the count's box; all else lies. -/
structure AtI (w2 : World) (S0 m : Nat) (Y : World) : Prop where
  grown : w2.grownBy Y (some S0)
  box : Y.heap[S0]? = some (.cells #[.int .i64 (m : Int)] 3 (0, 0))
theorem AtI.own {w2 : World} {S0 : Nat} (h0 : S0 < w2.heap.size) : OwnFrom w2.heap.size (fun (pre : List Ent) Y => AtI w2 S0 pre.length Y) := by
  intro pre Y Y' row h hg hr
  refine ⟨⟨hg.os.trans h.grown.os, hg.tape.trans h.grown.tape, hg.output.trans h.grown.output, Nat.le_trans h.grown.size hg.size, fun i hi hne => ?_⟩, ?_⟩
  · exact (hg.block i (Nat.lt_of_lt_of_le hi h.grown.size) (fun e => by have := (hr i e.symm).1; omega)).trans (h.grown.block i hi hne)
  · exact (hg.block S0 (Nat.lt_of_lt_of_le h0 h.grown.size) (fun e => by have := (hr S0 e.symm).1; omega)).trans h.box
theorem AtI.next {w2 : World} {S0 m : Nat} {Y : World} (h0 : S0 < w2.heap.size) (h : AtI w2 S0 m Y) : KeepsFrom w2.heap.size Y (Y.setCell ⟨S0, 0, none⟩ (.int .i64 ((m : Int) + 1))) ∧ KeepB (w2.heap.size + 2) 0 Y (Y.setCell ⟨S0, 0, none⟩ (.int .i64 ((m : Int) + 1))) ∧ AtI w2 S0 (m + 1) (Y.setCell ⟨S0, 0, none⟩ (.int .i64 ((m : Int) + 1))) := by
  refine ⟨(KeepsOthers.setCell _ _ _).from _, ⟨by rw [set_size]; exact Nat.le_refl _, fun k o hk _ ho _ => (set_else _ _ _ (by omega)).trans ho⟩, ⟨⟨h.grown.os, h.grown.tape, h.grown.output, by rw [set_size]; exact h.grown.size, fun i hi hne => (set_else _ _ _ (fun e => hne (by rw [e]))).trans (h.grown.block i hi hne)⟩, ?_⟩⟩
  exact box_set h.box _
theorem Both.carry {B W X np o nr D S0 : Nat} {Lp Lr : List Ent} {G : List Nat} {w2 Y : World} (h : Both B W X np o Lp nr Lr (S0 :: G) w2) (hg : w2.grownBy Y (some S0)) (hD : w2.heap.size ≤ D ∧ D < Y.heap.size) : Both B W X np o Lp nr Lr (D :: G) Y := by
  obtain ⟨S, A, c, h1, h2, h3, h4, h5, h6⟩ := h
  have h60 := h6 S0 (List.mem_cons_self ..)
  have hk : ∀ i, i < w2.heap.size → i ≠ S0 → Y.heap[i]? = w2.heap[i]? := fun i hi hne => hg.block i hi (fun e => hne (Option.some.inj e))
  refine ⟨S, A, c, h1.kept (fun b hb => hk b (h1.low b hb) (fun e => h60.1 (e ▸ hb))) hg.size, h2.kept (hk X h2.lt (fun e => h60.2.1 e.symm)) (fun g off e hgl => hk g hgl (fun e2 => (h5 g off e).2.2.2 (e2 ▸ List.mem_cons_self ..))) hg.size, h3, h4, fun g off e => ?_, fun i hi => ?_⟩
  · obtain ⟨q1, q2, q3, q4⟩ := h5 g off e
    refine ⟨q1, Nat.lt_of_lt_of_le q2 hg.size, q3, fun hm => ?_⟩
    rcases List.mem_cons.1 hm with e2 | e2
    · omega
    · exact q4 (List.mem_cons_of_mem _ e2)
  · rcases List.mem_cons.1 hi with rfl | hi
    · exact ⟨fun hS => by have := h1.low _ hS; omega, by have := h2.lt; omega, hD.2⟩
    · have := h6 i (List.mem_cons_of_mem _ hi)
      exact ⟨this.1, this.2.1, Nat.lt_of_lt_of_le this.2.2 hg.size⟩
theorem both_ptr2 {B W X np o nr : Nat} {Lp Lr : List Ent} {G : List Nat} {Y : World} (h : Both B W X np o Lp nr Lr G Y) : X < Y.heap.size ∧ X ∉ G ∧ ∃ A c, Y.cell? ⟨X, 1, none⟩ = some (.slice A Lr.length c) ∧ RowR A c Lr Y ∧ ∀ g off, A = some ⟨g, off, none⟩ → g ∉ G := by
  obtain ⟨S, A, c, k1, k2, k3, k4, k5, k6⟩ := h
  exact ⟨k2.lt, fun hm => (k6 X hm).2.1 rfl, A, c, k2.cells.2.1, k2.row, fun g off e => (k5 g off e).2.2.2⟩
theorem PlI.leave {w : World} {B W X C i : Nat} {Ds : List Nat} {Y : World} {b2 : Nat} (h : PlI w B W X C b2 i Ds Y) (hb : w.heap.size = b2) {tmps : Array Value} (hr : ∀ Z : World, Z.cell? ⟨b2, 0, none⟩ = some (.bool true) → (results Tryd.f7 tmps).run Tryd.prog Z = .ok (.bool true) Z) :
    LeavesInM Fence.wide 9 Tryd.prog Tryd.f7 tmps (fun e w' => e = .returned (.bool true) ∧ Below w.heap.size w w') (Ds.map mark) .returning (Y.setCell ⟨b2, 0, none⟩ (.bool true)) := by
  have hne : ∀ D ∈ Ds, D ≠ b2 := fun D hD e => by
    have h1 := h.marks D hD
    rw [e, h.boxR] at h1
    cases h1
  refine leaves_marks Ds _ h.nd (fun D hD => (set_else _ _ _ (hne D hD)).trans (h.marks D hD)) (fun Y' h1 h2 h3 h4 h5 => ⟨.bool true, hr Y' ?_, rfl, ?_⟩)
  · have h6 := h5 b2 (fun hm => hne b2 hm rfl)
    exact (World.cell?_of_block h6).trans (box_cell (box_set h.boxR (.bool true))).1
  · refine ⟨h1.trans h.below.os, h2.trans h.below.tape, h3.trans h.below.output, by rw [h4, set_size]; exact h.below.size, fun j hj => ?_⟩
    rw [h5 j (fun hm => by have := h.hi j hm; omega), set_else _ _ _ (by omega)]
    exact h.below.block j hj
end Go.Proofs.YtaeiaoldlebhaaaDoor
