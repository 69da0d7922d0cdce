import Derived.Test.YtbahcpejippcjaaDoorV6
import Derived.Test.YtbahcpejippcjaaDoorR1
import Derived.Deep.Slices
import Derived.ChangeArms
import Derived.Deep.Fields23
namespace Go.Proofs.YtbahcpejippcjaaDoor
open Go.RowKit Go.Shelf Go.ChangeShapes Go.Deep

/-- A deed: its kind, a number, a service. -/
structure Dd where
  kind : Int
  id : Int
  s : Svc
def Dd.wide (d : Dd) : Prop := (Lit.int .i64 d.kind).wf = true ∧ (Lit.int .i64 d.id).wf = true ∧ d.s.wide
def Dd.row (d : Dd) : List Value := [.int .i64 d.kind, .int .i64 d.id, .int .i64 d.s.proto, .int .u32 (d.s.vip : Int), .int .i64 d.s.port, .bool d.s.dsr, .int .u32 (d.s.nat : Int)]
/-- A row of deeds that came in. -/
def DeedsIn (w : World) (a : Option Addr) (len cap : Nat) : Prop :=
  (a = none ∧ len = 0 ∧ cap = 0) ∨
  ∃ x, a = some x ∧ len ≤ cap ∧ cap ≤ maxLen ∧ ∀ i, i < len → ∃ d : Dd, d.wide ∧ ∀ j v, d.row[j]? = some v → w.cell? (x.add (i * 7 + j)) = some v
theorem deed_fields : ∃ f0 f1 f2 : Field, Tryd.prog.underlying 51 = some (.struct #[f0, f1, f2]) ∧ (f0.type = 3 ∧ f1.type = 3 ∧ f2.type = 24) ∧ (f0.offset = 0 ∧ f1.offset = 1 ∧ f2.offset = 2) :=
  ⟨_, _, _, Tryd.underlying51, ⟨rfl, rfl, rfl⟩, ⟨rfl, rfl, rfl⟩⟩
theorem c51 : Tryd.prog.cellsOf 51 = 7 := by kernel_rfl
set_option maxRecDepth 100000 in
theorem open_deeds {H : Type} {enc : TypeId × Value → H} {w : World} {base : Nat} {spare : Nat → Bool} {held : Bool} {fuel : Nat} {a : Option Addr} {len cap : Nat} {x : DataW H × List MemPlace}
    (h : DataW.trod enc Tryd.prog w base spare held fuel 45 [.slice a len cap] = some x) : DeedsIn w a len cap := by
  rcases open_slice Tryd.underlying45 h with ⟨h0, _⟩ | ⟨a', len', cap', m, n, D, Pl, h0, hb, hl, hm, hmm, rfl, hx⟩
  · simp at h0
    exact .inl h0
  · simp at h0
    obtain ⟨rfl, rfl, rfl⟩ := h0
    refine .inr ⟨_, rfl, hl, hm, fun i hi => ?_⟩
    obtain ⟨cs', h1, h2⟩ := hx i (by rw [hmm]; split <;> omega)
    rw [c51] at h1
    obtain ⟨_, hlen, hcell⟩ := World.cells?_some h1
    obtain ⟨f0, f1, f2, hu, ⟨t0, t1, t2⟩, ⟨o0, o1, o2⟩⟩ := deed_fields
    obtain ⟨xs, k, hk, hxy, _, hxl, hf⟩ := DataW.trod_struct hu h2
    match xs, hxl, cs', hlen with
    | [y0, y1, y2], _, [v0, v1, v2, v3, v4, v5, v6], _ =>
      have g0 := hf 0 f0 rfl
      have g1 := hf 1 f1 rfl
      have g2 := hf 2 f2 rfl
      rw [t0, o0, c3] at g0
      rw [t1, o1, c3] at g1
      rw [t2, o2, c24] at g2
      obtain ⟨k0, e0, _, w0⟩ := DataW.trod_int Tryd.underlying3 (show DataW.trod enc Tryd.prog w base spare held k 3 [v0] = some y0 from g0)
      obtain ⟨k1, e1, _, w1⟩ := DataW.trod_int Tryd.underlying3 (show DataW.trod enc Tryd.prog w base spare held k 3 [v1] = some y1 from g1)
      obtain ⟨s, hs, e2, _⟩ := open_svc_cells (show DataW.trod enc Tryd.prog w base spare held k 24 [v2, v3, v4, v5, v6] = some y2 from g2)
      simp only [List.cons.injEq, and_true] at e0 e1 e2
      obtain ⟨rfl, rfl, rfl, rfl, rfl⟩ := e2
      subst e0 e1
      refine ⟨⟨k0, k1, s⟩, ⟨w0, w1, hs⟩, fun j v hv => ?_⟩
      have hj : j < 7 := by have := (List.getElem?_eq_some_iff.1 hv).1; simpa [Dd.row] using this
      have e := hcell j (by omega)
      rw [add_add] at e
      rw [e]
      simp only [Dd.row] at hv
      exact hv
theorem add_off (x : Addr) (i j : Nat) : ({ block := (x.add i).block, off := (x.add i).off + (j + 1) } : Addr) = x.add (i + (j + 1)) := by
  by_cases e : i = 0
  · subst e; simp [Addr.add]
  · simp [Addr.add, e, Nat.add_assoc]
theorem DeedsIn.len {w : World} {a : Option Addr} {len cap : Nat} (h : DeedsIn w a len cap) : len ≤ cap ∧ cap ≤ maxLen := by
  rcases h with ⟨_, rfl, rfl⟩ | ⟨x, _, h1, h2, _⟩
  · exact ⟨Nat.le_refl _, by decide⟩
  · exact ⟨h1, h2⟩
/-- A deed's cells, as they are read. -/
structure DCells (y : Addr) (d : Dd) (W : World) : Prop where
  c0 : W.cell? y = some (.int .i64 d.kind)
  c1 : W.cell? { block := y.block, off := y.off + 1 } = some (.int .i64 d.id)
  c2 : W.cell? { block := y.block, off := y.off + 2 } = some (.int .i64 d.s.proto)
  c3 : W.cell? { block := y.block, off := y.off + 3 } = some (.int .u32 (d.s.vip : Int))
  c4 : W.cell? { block := y.block, off := y.off + 4 } = some (.int .i64 d.s.port)
  c5 : W.cell? { block := y.block, off := y.off + 5 } = some (.bool d.s.dsr)
  c6 : W.cell? { block := y.block, off := y.off + 6 } = some (.int .u32 (d.s.nat : Int))
theorem DeedsIn.read {w wr : World} {a : Option Addr} {len cap i : Nat} (h : DeedsIn w a len cap) (hb : Below w.heap.size w wr) (hi : i < len) : ∃ (x : Addr) (d : Dd), a = some x ∧ d.wide ∧ DCells (x.add (i * 7)) d wr := by
  rcases h with ⟨_, e, _⟩ | ⟨x, rfl, _, _, h⟩
  · omega
  · obtain ⟨d, hd, hc⟩ := h i hi
    have q := fun (j : Nat) (v : Value) (hv : d.row[j]? = some v) => (hb.cell (World.block_lt_of_cell? _ _ (hc j v hv))).trans (hc j v hv)
    exact ⟨x, d, rfl, hd, q 0 _ rfl, by rw [add_off]; exact q 1 _ rfl, by rw [add_off]; exact q 2 _ rfl, by rw [add_off]; exact q 3 _ rfl, by rw [add_off]; exact q 4 _ rfl, by rw [add_off]; exact q 5 _ rfl, by rw [add_off]; exact q 6 _ rfl⟩

/-- The law's memory: the program's table, the reference's, the boxes. -/
structure Play (w : World) (N T M X C base : Nat) (f : Nat → Svc) (W : World) : Prop where
  tab : SvcTab N T M f W
  ref : RefIs base X (listOf f) W
  ptr : W.heap[C]? = some (.cells #[.pointer (some ⟨X, 0, none⟩)] 46 (0, 0))
  res : W.heap[w.heap.size]? = some (.cells #[.bool false] 4 (0, 0))
  below : Below w.heap.size w W
  hT : w.heap.size < T ∧ T < base ∧ T ≠ X ∧ T ≠ C
  hM : w.heap.size < M ∧ M < base ∧ M ≠ X ∧ M ≠ C
  hX : w.heap.size < X ∧ X < base ∧ X ≠ C
  hb : base ≤ W.heap.size
theorem Play.go {w W W' : World} {N T M X C base : Nat} {f : Nat → Svc} (h : Play w N T M X C base f W) (hb : Below W.heap.size W W') : Play w N T M X C base f W' :=
  ⟨h.tab.below hb, h.ref.below hb, box_go h.ptr hb, box_go h.res hb, below_step h.below hb, h.hT, h.hM, h.hX, Nat.le_trans h.hb hb.size⟩
theorem Play.prog {w W W' : World} {N T M X C base : Nat} {f f' : Nat → Svc} (h : Play w N T M X C base f W) (ht : SvcTab (N + 1) T M f' W') (h2 : Two T M W W') :
    SvcTab (N + 1) T M f' W' ∧ RefIs base X (listOf f) W' ∧ W'.heap[C]? = some (.cells #[.pointer (some ⟨X, 0, none⟩)] 46 (0, 0)) ∧ W'.heap[w.heap.size]? = some (.cells #[.bool false] 4 (0, 0)) ∧ Below w.heap.size w W' :=
  ⟨ht, h.ref.two h2 ⟨h.hT.2.1, h.hT.2.2.1⟩ ⟨h.hM.2.1, h.hM.2.2.1⟩, h2.kept h.ptr (fun e => h.hT.2.2.2 e.symm) (fun e => h.hM.2.2.2 e.symm), h2.kept h.res (by have := h.hT.1; omega) (by have := h.hM.1; omega), h.below.trans (h2.below (by have := h.hT.1; omega) (by have := h.hM.1; omega) h.below.size)⟩
/-- Between the program's deed and the reference's. -/
structure Half (w : World) (N T M X C base : Nat) (f f' : Nat → Svc) (W : World) : Prop where
  tab : SvcTab N T M f' W
  ref : RefIs base X (listOf f) W
  ptr : W.heap[C]? = some (.cells #[.pointer (some ⟨X, 0, none⟩)] 46 (0, 0))
  res : W.heap[w.heap.size]? = some (.cells #[.bool false] 4 (0, 0))
  below : Below w.heap.size w W
  hT : w.heap.size < T ∧ T < base ∧ T ≠ X ∧ T ≠ C
  hM : w.heap.size < M ∧ M < base ∧ M ≠ X ∧ M ≠ C
  hX : w.heap.size < X ∧ X < base ∧ X ≠ C
  hb : base ≤ W.heap.size
theorem Play.half {w W W' : World} {N T M X C base : Nat} {f f' : Nat → Svc} (h : Play w N T M X C base f W) (ht : SvcTab (N + 1) T M f' W') (h2 : Two T M W W') : Half w (N + 1) T M X C base f f' W' := by
  obtain ⟨a, b, c, d, e⟩ := h.prog ht h2
  exact ⟨a, b, c, d, e, h.hT, h.hM, h.hX, Nat.le_trans h.hb h2.size⟩
theorem Half.go {w W W' : World} {N T M X C base : Nat} {f f' : Nat → Svc} (h : Half w N T M X C base f f' W) (hb : Below W.heap.size W W') : Half w N T M X C base f f' W' :=
  ⟨h.tab.below hb, h.ref.below hb, box_go h.ptr hb, box_go h.res hb, below_step h.below hb, h.hT, h.hM, h.hX, Nat.le_trans h.hb hb.size⟩
theorem Half.whole {w W W' : World} {N T M X C base : Nat} {f f' : Nat → Svc} (h : Half w N T M X C base f f' W) (hr : RefIs base X (listOf f') W') (h2 : Two X X W W') : Play w N T M X C base f' W' :=
  ⟨h.tab.two h2 h.hT.2.2.1 h.hM.2.2.1, hr, h2.kept h.ptr (fun e => h.hX.2.2 e.symm) (fun e => h.hX.2.2 e.symm), h2.kept h.res (by have := h.hX.1; omega) (by have := h.hX.1; omega), h.below.trans (h2.below (by have := h.hX.1; omega) (by have := h.hX.1; omega) h.below.size), h.hT, h.hM, h.hX, Nat.le_trans h.hb h2.size⟩
/-- A deed's box, over the rest. -/
structure DBox (U base : Nat) (d : Dd) (W : World) : Prop where
  box : W.heap[U]? = some (.cells #[.int .i64 d.kind, .int .i64 d.id, .int .i64 d.s.proto, .int .u32 (d.s.vip : Int), .int .i64 d.s.port, .bool d.s.dsr, .int .u32 (d.s.nat : Int)] 51 (0, 0))
  hU : base ≤ U
theorem DBox.go {U base : Nat} {d : Dd} {W W' : World} (h : DBox U base d W) (hb : Below W.heap.size W W') : DBox U base d W' := ⟨box_go h.box hb, h.hU⟩
theorem DBox.two {U base T M : Nat} {d : Dd} {W W' : World} (h : DBox U base d W) (h2 : Two T M W W') (hT : T < base) (hM : M < base) : DBox U base d W' := ⟨h2.kept h.box (by have := h.hU; omega) (by have := h.hU; omega), h.hU⟩
structure DB7 (U : Nat) (d : Dd) (W : World) : Prop where
  e0 : W.cell? ⟨U, 0, none⟩ = some (.int .i64 d.kind)
  e1 : W.cell? ⟨U, 1, none⟩ = some (.int .i64 d.id)
  e2 : W.cell? ⟨U, 2, none⟩ = some (.int .i64 d.s.proto)
  e3 : W.cell? ⟨U, 3, none⟩ = some (.int .u32 (d.s.vip : Int))
  e4 : W.cell? ⟨U, 4, none⟩ = some (.int .i64 d.s.port)
  e5 : W.cell? ⟨U, 5, none⟩ = some (.bool d.s.dsr)
  e6 : W.cell? ⟨U, 6, none⟩ = some (.int .u32 (d.s.nat : Int))
theorem DBox.cells {U base : Nat} {d : Dd} {W : World} (h : DBox U base d W) : DB7 U d W := by
  refine ⟨?_, ?_, ?_, ?_, ?_, ?_, ?_⟩ <;> simp [World.cell?, h.box]
theorem play_start {w wx wy : World} (hB : Below (w.alloc (.cells #[.bool false] 4)).heap.size (w.alloc (.cells #[.bool false] 4)) wx) (hT : TabM (wx.heap.size + 1) wx.heap.size (fun _ => zeroS) wy) (hM : MapE wx.heap.size 0 (fun _ => none) wy) (hBy : Below wx.heap.size wx wy) :
    Play w 0 (wx.heap.size + 1) wx.heap.size wy.heap.size (wy.heap.size + 1) (wy.heap.size + 2) (fun _ => zeroS) ((wy.alloc (.cells #[.slice none 0 0] 49)).alloc (.cells #[.pointer (some ⟨wy.heap.size, 0, none⟩)] 46)) := by
  have h0 : SvcTab 0 (wx.heap.size + 1) wx.heap.size (fun _ => zeroS) wy := ⟨hT, by omega, ⟨0, _, Nat.le_refl _, hM, ⟨fun k kl _ _ h => absurd rfl h, fun _ _ _ _ _ _ h => by cases h⟩⟩, fun k _ _ h => absurd rfl h⟩
  have h1 := h0.below ((Below.refl _ wy).alloc (Nat.le_refl _) (.cells #[.slice none 0 0] 49))
  have h2 := h1.below ((Below.refl _ _).alloc (Nat.le_refl _) (.cells #[.pointer (some ⟨wy.heap.size, 0, none⟩)] 46))
  have l1 : wx.heap.size + 1 < wy.heap.size := hT.low
  have s0 := hB.size
  simp only [World.size_alloc] at s0
  have hl : listOf (fun _ => zeroS) = [] := by
    unfold listOf listTo
    rw [List.filterMap_eq_nil_iff]
    intro k _
    exact occ_none rfl
  have k1 := World.alloc_heap_new wy (.cells #[.slice none 0 0] 49)
  have k2 := World.alloc_heap_new (wy.alloc (.cells #[.slice none 0 0] 49)) (.cells #[.pointer (some ⟨wy.heap.size, 0, none⟩)] 46)
  simp only [World.size_alloc] at k2
  have k3 := (Below.heap_alloc (wy.alloc (.cells #[.slice none 0 0] 49)) (.cells #[.pointer (some ⟨wy.heap.size, 0, none⟩)] 46) wy.heap.size (by simp)).trans k1
  have kr : wx.heap[w.heap.size]? = some (.cells #[.bool false] 4 (0, 0)) := box_on hB
  have hA : Below wy.heap.size wy ((wy.alloc (.cells #[.slice none 0 0] 49)).alloc (.cells #[.pointer (some ⟨wy.heap.size, 0, none⟩)] 46)) := ((Below.refl _ wy).alloc (Nat.le_refl _) _).alloc (by simp) _
  refine ⟨h2, ⟨none, 0, ?_, ?_, by omega, by simp⟩, k2, box_go (box_go kr hBy) hA, ?_, ⟨by omega, by omega, by omega, by omega⟩, ⟨by omega, by omega, by omega, by omega⟩, ⟨by omega, by omega, by omega⟩, by simp⟩
  · rw [hl]; exact k3
  · rw [hl]; exact World.ownsRow_nil _ _ _ _
  · exact below_step (below_step (((Below.refl _ w).alloc (Nat.le_refl _) _).trans (hB.mono (by simp))) hBy) hA
end Go.Proofs.YtbahcpejippcjaaDoor
