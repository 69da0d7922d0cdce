import Derived.Test.YtbahcpejippcjaaDoorV7
import Derived.Test.YtbahcpejippcjaaDoorTG
import Derived.Test.YtbahcpejippcjaaDoorDI
import Derived.Deep.CutBlock
import Derived.Deep.CutRange
import Derived.StillTailTactics
namespace Go.Proofs.YtbahcpejippcjaaDoor
open Go.RowKit Go.Shelf
attribute [local go_sem] Oper.semAt_some

theorem i64_bounds {x : Int} (h : (Lit.int .i64 x).wf = true) : -9223372036854775808 ≤ x ∧ x ≤ 9223372036854775807 := by
  simp [Lit.wf, IntKind.min, IntKind.max, IntKind.signed, IntKind.bits] at h
  exact ⟨by omega, by omega⟩
theorem kept_cells {A B : World} {row : Option Nat} {n0 b : Nat} {cs : Array Value} {t : TypeId} {mm : Nat × Nat} (h : A.heap[b]? = some (.cells cs t mm)) (hg : A.grownBy B row) (hr : ∀ r, row = some r → n0 ≤ r ∧ ∃ o : Obj, A.heap[r]? = some o ∧ o.isCells = false) : B.heap[b]? = A.heap[b]? :=
  hg.block b (Array.getElem?_eq_some_iff.1 h).1 (fun e => by
    obtain ⟨_, o, ho, hc⟩ := hr b e.symm
    rw [h] at ho
    cases ho
    cases hc)
theorem RefT.own2 {base X c n0 : Nat} {A0 : Option Addr} {l : List (Nat × Svc)} {A B : World} {row : Option Nat} (h : RefT base X A0 c l A) (hg : A.grownBy B row) (hr : ∀ r, row = some r → n0 ≤ r ∧ ∃ o : Obj, A.heap[r]? = some o ∧ o.isCells = false) : RefT base X A0 c l B := by
  refine ⟨(kept_cells h.box hg hr).trans h.box, ?_, h.lo, Nat.le_trans h.hb hg.size⟩
  obtain ⟨h0, ⟨h1, h2⟩ | ⟨g, cap, cur, h1, h2, h3, h4⟩⟩ := h.own
  · exact ⟨h0, .inl ⟨h1, h2⟩⟩
  · exact ⟨h0, .inr ⟨g, cap, cur, h1, h2, (kept_cells h3 hg hr).trans h3, h4⟩⟩
theorem Play.own2 {w A B : World} {row : Option Nat} {N T M X C base n0 : Nat} {f : Nat → Svc} (h : Play w N T M X C base f A) (hn : base ≤ n0) (hg : A.grownBy B row) (hr : ∀ r, row = some r → n0 ≤ r ∧ ∃ o : Obj, A.heap[r]? = some o ∧ o.isCells = false) : Play w N T M X C base f B := by
  have hlt : ∀ b, b < base → B.heap[b]? = A.heap[b]? := fun b hb => hg.block b (Nat.lt_of_lt_of_le hb h.hb) (fun e => by have := (hr _ e.symm).1; omega)
  obtain ⟨A0, c, hrf⟩ := h.ref
  refine ⟨h.tab.kept hg.size (hlt T h.hT.2.1) (hlt M h.hM.2.1), ⟨A0, c, hrf.own2 hg hr⟩, (kept_cells h.ptr hg hr).trans h.ptr, (kept_cells h.res hg hr).trans h.res, ?_, h.hT, h.hM, h.hX, Nat.le_trans h.hb hg.size⟩
  exact ⟨hg.os.trans h.below.os, hg.tape.trans h.below.tape, hg.output.trans h.below.output, Nat.le_trans h.below.size hg.size, fun b hb => (hlt b (by have := h.hT; omega)).trans (h.below.block b hb)⟩
/-- The boxed service of a round. -/
def SBox (A : Act) (n0 : Nat) (k : Nat) (s : Svc) (a' : Act) (W : World) : Prop :=
  ∃ B, n0 ≤ B ∧ W.heap[B]? = some (.cells #[.int .i64 s.proto, .int .u32 (s.vip : Int), .int .i64 s.port, .bool s.dsr, .int .u32 (s.nat : Int)] 24 (0, 0)) ∧
    a' = { tmps := (((A.tmps.setIfInBounds 157 (.int .i64 (k : Int))).setIfInBounds 158 (.agg #[.int .i64 s.proto, .int .u32 (s.vip : Int), .int .i64 s.port, .bool s.dsr, .int .u32 (s.nat : Int)])).setIfInBounds 23 (.int .i64 (k : Int))).setIfInBounds 24 (.pointer (some ⟨B, 0, none⟩)), defers := [] }
theorem wp_tail {P : Program} {id : Nat} {Q : Exit → Act → World → Prop} {a : Act} {w : World} {l : List Oper} (n : Nat) (hm : P.follows .mixedOrders = true) (hB : Region.lexTailB .any l.toArray n = true)
    (h : wpStill P l.toArray w.drew (fun a' => wpList P l.toArray Q (l.drop n) a' w.drew) (l.take n) a) : (Code.region id l.toArray true).wp P Q a w := wp_region_still_tail n hm hB h
theorem leave_res {w W : World} {D : Nat} (hr : W.heap[w.heap.size]? = some (.cells #[.bool false] 4 (0, 0))) (hB : Below w.heap.size w W) (hD : W.heap[D]? = some (.deferred (some []))) (hl : w.heap.size < D) :
    (W.setCell ⟨w.heap.size, 0, none⟩ (.bool true)).drew.heap[D]? = some (.deferred (some [])) ∧
    ((W.setCell ⟨w.heap.size, 0, none⟩ (.bool true)).drew.putObj D (.deferred none)).cell? ⟨w.heap.size, 0, none⟩ = some (.bool true) ∧
    Below w.heap.size w ((W.setCell ⟨w.heap.size, 0, none⟩ (.bool true)).drew.putObj D (.deferred none)) := by
  have hk2 : (W.setCell ⟨w.heap.size, 0, none⟩ (.bool true)).drew.heap[D]? = some (.deferred (some [])) := (Below.heap_setCell _ ⟨w.heap.size, 0, none⟩ _ D (by simp; omega)).trans hD
  have d3 : (W.setCell ⟨w.heap.size, 0, none⟩ (.bool true)).drew.cell? ⟨w.heap.size, 0, none⟩ = some (.bool true) := set_is (cell1 hr).1 (.bool true)
  have d4 := cell_kept d3 (grownBy_putObj' _ D (.deferred none)) (fun r e => by cases e; exact ⟨_, hk2, rfl⟩)
  have hb1 : Below w.heap.size w (W.setCell ⟨w.heap.size, 0, none⟩ (.bool true)).drew := (hB.setCell (p := ⟨w.heap.size, 0, none⟩) (by simp) _).drew
  have hG := grownBy_putObj' (W.setCell ⟨w.heap.size, 0, none⟩ (.bool true)).drew D (.deferred none)
  exact ⟨hk2, d4, ⟨hG.os.trans hb1.os, hG.tape.trans hb1.tape, hG.output.trans hb1.output, Nat.le_trans hb1.size hG.size, fun b hb => (hG.block b (Nat.lt_of_lt_of_le hb hb1.size) (fun e => by cases e; omega)).trans (hb1.block b hb)⟩⟩
/-- A service's cells in its box. -/
def SvcAt (B : Nat) (s : Svc) (W : World) : Prop := W.cell? ⟨B, 0, none⟩ = some (.int .i64 s.proto) ∧ W.cell? ⟨B, 1, none⟩ = some (.int .u32 (s.vip : Int)) ∧ W.cell? ⟨B, 2, none⟩ = some (.int .i64 s.port) ∧ W.cell? ⟨B, 3, none⟩ = some (.bool s.dsr) ∧ W.cell? ⟨B, 4, none⟩ = some (.int .u32 (s.nat : Int))
theorem RowAt.drew {g i : Nat} {r : Nat × Svc} {W : World} (h : RowAt g i r W) : RowAt g i r W.drew := ⟨h.c0, h.c1, h.c2, h.c3, h.c4, h.c5, h.d2, h.d3, h.d4, h.d5⟩
theorem RowAt.go {g i : Nat} {r : Nat × Svc} {W W' : World} (h : RowAt g i r W) (hB : Below W.heap.size W W') : RowAt g i r W' := ⟨cell_go h.c0 hB, cell_go h.c1 hB, cell_go h.c2 hB, cell_go h.c3 hB, cell_go h.c4 hB, cell_go h.c5 hB, cell_go h.d2 hB, cell_go h.d3 hB, cell_go h.d4 hB, cell_go h.d5 hB⟩
theorem SvcAt.go {B : Nat} {s : Svc} {W W' : World} (h : SvcAt B s W) (hB : Below W.heap.size W W') : SvcAt B s W' := ⟨cell_go h.1 hB, cell_go h.2.1 hB, cell_go h.2.2.1 hB, cell_go h.2.2.2.1 hB, cell_go h.2.2.2.2 hB⟩
theorem good_go {S0 C X g k n c0 B : Nat} {r : Nat × Svc} {sx : Svc} {W W' : World} (h : W.cell? ⟨S0, 0, none⟩ = some (.int .i64 (k : Int)) ∧ W.cell? ⟨C, 0, none⟩ = some (.pointer (some ⟨X, 0, none⟩)) ∧ W.cell? ⟨X, 0, none⟩ = some (.slice (some ⟨g, 0, none⟩) n c0) ∧ RowAt g k r W ∧ SvcAt B sx W) (hB : Below W.heap.size W W') :
    W'.cell? ⟨S0, 0, none⟩ = some (.int .i64 (k : Int)) ∧ W'.cell? ⟨C, 0, none⟩ = some (.pointer (some ⟨X, 0, none⟩)) ∧ W'.cell? ⟨X, 0, none⟩ = some (.slice (some ⟨g, 0, none⟩) n c0) ∧ RowAt g k r W' ∧ SvcAt B sx W' :=
  ⟨cell_go h.1 hB, cell_go h.2.1 hB, cell_go h.2.2.1 hB, h.2.2.2.1.go hB, h.2.2.2.2.go hB⟩
theorem Play.set3 {w W : World} {N T M X C base S0 : Nat} {f : Nat → Svc} {u : Value} (h : Play w N T M X C base f W) (hat : W.heap[S0]? = some (.cells #[u] 3 (0, 0))) (hS : base ≤ S0) (hC : S0 ≠ C) (v : Value) : Play w N T M X C base f (W.setCell ⟨S0, 0, none⟩ v) := by
  have hk : ∀ b, b ≠ S0 → (W.setCell ⟨S0, 0, none⟩ v).heap[b]? = W.heap[b]? := fun b hb => Below.heap_setCell _ _ _ _ hb
  have hsz := (set_one W ⟨S0, 0, none⟩ v).1
  obtain ⟨A0, c, hrf⟩ := h.ref
  refine ⟨h.tab.kept (by rw [hsz]; exact Nat.le_refl _) (hk T (by have := h.hT; omega)) (hk M (by have := h.hM; omega)), ⟨A0, c, ?_⟩, (hk C (fun e => hC e.symm)).trans h.ptr, (hk _ (by have := h.hX; omega)).trans h.res, h.below.setCell (p := ⟨S0, 0, none⟩) (by simp; have := h.hX; omega) _, h.hT, h.hM, h.hX, by rw [hsz]; exact h.hb⟩
  refine ⟨(hk X (by have := h.hX; omega)).trans hrf.box, ?_, hrf.lo, by rw [hsz]; exact hrf.hb⟩
  obtain ⟨h0, ⟨h1, h2⟩ | ⟨g, cap, cur, h1, h2, h3, h4⟩⟩ := hrf.own
  · exact ⟨h0, .inl ⟨h1, h2⟩⟩
  · refine ⟨h0, .inr ⟨g, cap, cur, h1, h2, (hk g ?_).trans h3, h4⟩⟩
    rintro rfl
    rw [hat] at h3
    cases h3
theorem body_end {w W wz : World} {N T M X C base S0 n0 k : Nat} {f : Nat → Svc} (hP : Play w N T M X C base f W) (hat : W.heap[S0]? = some (.cells #[.int .i64 (k : Int)] 3 (0, 0))) (hB : Below W.drew.heap.size W.drew wz) (hS : base ≤ S0) (hC : S0 ≠ C) (hs : n0 = S0 + 2) (hn : n0 ≤ W.heap.size) :
    KeepsFrom n0 W (wz.setCell ⟨S0, 0, none⟩ (.int .i64 ((k : Int) + 1))) ∧ KeepT T (S0 + 1) W (wz.setCell ⟨S0, 0, none⟩ (.int .i64 ((k : Int) + 1))) ∧ (wz.setCell ⟨S0, 0, none⟩ (.int .i64 ((k : Int) + 1))).heap[S0]? = some (.cells #[.int .i64 ((k + 1 : Nat) : Int)] 3 (0, 0)) ∧
      Play w N T M X C base f (wz.setCell ⟨S0, 0, none⟩ (.int .i64 ((k : Int) + 1))) ∧ n0 ≤ (wz.setCell ⟨S0, 0, none⟩ (.int .i64 ((k : Int) + 1))).heap.size := by
  have hBW : Below W.heap.size W wz := below_step ((Below.refl W.heap.size W).drew) hB
  have hz := hBW.size
  have hsz := (set_one wz ⟨S0, 0, none⟩ (.int .i64 ((k : Int) + 1))).1
  have hk : ∀ b, b ≠ S0 → (wz.setCell ⟨S0, 0, none⟩ (.int .i64 ((k : Int) + 1))).heap[b]? = wz.heap[b]? := fun b hb => Below.heap_setCell _ _ _ _ hb
  have hat2 := box_go hat hBW
  refine ⟨⟨by rw [hsz]; exact hz, fun b o hb ho _ => ?_⟩, ⟨⟨?_, ?_⟩, by rw [hsz]; exact hz⟩, ?_, (hP.go hBW).set3 hat2 hS hC _, by rw [hsz]; omega⟩
  · rw [hk b (by omega)]; exact (hBW.block b (Array.getElem?_eq_some_iff.1 ho).1).trans ho
  · rw [hk T (by have := hP.hT; omega)]; exact hBW.block T hP.tab.tab.low
  · rw [hk _ (by omega)]; exact hBW.block _ (by omega)
  · simp [World.setCell, Array.getElem?_modify, hat2]
theorem leave_keep {W : World} {n0 b : Nat} {v : Value} (h : b < n0) : KeepsFrom n0 W (W.setCell ⟨b, 0, none⟩ v).drew := by
  refine ⟨by show W.heap.size ≤ (W.setCell ⟨b, 0, none⟩ v).heap.size; rw [(set_one _ _ _).1]; exact Nat.le_refl _, fun k o hk ho _ => ?_⟩
  show (W.setCell ⟨b, 0, none⟩ v).heap[k]? = _
  rw [Below.heap_setCell _ _ _ _ (by simp; omega)]
  exact ho
theorem prefix_snoc {α : Type} {p l : List α} {x : α} (h : p <+: l) (hx : l[p.length]? = some x) : p ++ [x] <+: l := by
  obtain ⟨q, rfl⟩ := h
  rw [List.getElem?_append_right (Nat.le_refl _), Nat.sub_self] at hx
  cases q with
  | nil => simp at hx
  | cons z q =>
    simp at hx
    subst hx
    exact ⟨q, by simp⟩
theorem prefix_at {α : Type} {p l : List α} {x : α} (h : p ++ [x] <+: l) : l[p.length]? = some x := by
  obtain ⟨q, rfl⟩ := h
  rw [List.append_assoc, List.getElem?_append_right (Nat.le_refl _), Nat.sub_self]
  rfl
theorem held_id {U base C X : Nat} {kd id p q : Int} {v m : Nat} {dd : Bool} {W0 W : World} (h : DBox U base ⟨kd, id, p, v, q, dd, m⟩ W0 ∧ W0.heap[C]? = some (.cells #[.pointer (some ⟨X, 0, none⟩)] 46 (0, 0))) (hB : Below W0.heap.size W0 W) :
    W.cell? ⟨U, 1, none⟩ = some (.int .i64 id) ∧ W.cell? ⟨C, 0, none⟩ = some (.pointer (some ⟨X, 0, none⟩)) := ⟨(h.1.go hB).cells.e1, (cell1 (box_go h.2 hB)).1⟩
theorem held_s {U base C X : Nat} {kd id p q : Int} {v m : Nat} {dd : Bool} {W0 W : World} (h : DBox U base ⟨kd, id, p, v, q, dd, m⟩ W0 ∧ W0.heap[C]? = some (.cells #[.pointer (some ⟨X, 0, none⟩)] 46 (0, 0))) (hB : Below W0.heap.size W0 W) :
    (W.cell? ⟨U, 2, none⟩ = some (.int .i64 p) ∧ W.cell? ⟨U, 3, none⟩ = some (.int .u32 (v : Int)) ∧ W.cell? ⟨U, 4, none⟩ = some (.int .i64 q) ∧ W.cell? ⟨U, 5, none⟩ = some (.bool dd) ∧ W.cell? ⟨U, 6, none⟩ = some (.int .u32 (m : Int))) ∧ W.cell? ⟨C, 0, none⟩ = some (.pointer (some ⟨X, 0, none⟩)) :=
  ⟨⟨(h.1.go hB).cells.e2, (h.1.go hB).cells.e3, (h.1.go hB).cells.e4, (h.1.go hB).cells.e5, (h.1.go hB).cells.e6⟩, (cell1 (box_go h.2 hB)).1⟩
theorem held_bb {b1 b2 : Nat} {p q : Int} {v m : Nat} {dd : Bool} {W0 W : World} (h : W0.heap[b1]? = some (.cells #[.int .i64 p, .int .u32 (v : Int), .int .i64 q, .bool dd, .int .u32 (m : Int)] 24 (0, 0)) ∧ W0.heap[b2]? = some (.cells #[.int .i64 p, .int .u32 (v : Int), .int .i64 q, .bool dd, .int .u32 (m : Int)] 28 (0, 0))) (hB : Below W0.heap.size W0 W) :
    (W.cell? ⟨b1, 0, none⟩ = some (.int .i64 p) ∧ W.cell? ⟨b1, 1, none⟩ = some (.int .u32 (v : Int)) ∧ W.cell? ⟨b1, 2, none⟩ = some (.int .i64 q) ∧ W.cell? ⟨b1, 3, none⟩ = some (.bool dd) ∧ W.cell? ⟨b1, 4, none⟩ = some (.int .u32 (m : Int))) ∧ (W.cell? ⟨b2, 0, none⟩ = some (.int .i64 p) ∧ W.cell? ⟨b2, 1, none⟩ = some (.int .u32 (v : Int)) ∧ W.cell? ⟨b2, 2, none⟩ = some (.int .i64 q) ∧ W.cell? ⟨b2, 3, none⟩ = some (.bool dd) ∧ W.cell? ⟨b2, 4, none⟩ = some (.int .u32 (m : Int))) :=
  ⟨(cells5 (box_go h.1 hB)).1, (cells5 (box_go h.2 hB)).1⟩
theorem Play.more {w W : World} {N T M X C base : Nat} {f : Nat → Svc} (h : Play w N T M X C base f W) : Play w (N + 1) T M X C base f W := ⟨h.tab.more, h.ref, h.ptr, h.res, h.below, h.hT, h.hM, h.hX, h.hb⟩
set_option maxRecDepth 100000 in
set_option maxHeartbeats 8000000 in
theorem walk_ServicePlays (a0 : Option Addr) (len0 cap0 : Nat) (w : World) (w0 : DeedsIn w a0 len0 cap0) (hE : Env w) :
    Calls Tryd.prog 8 #[.slice a0 len0 cap0] w fun e w' => e = .returned (.bool true) ∧ Below w.heap.size w w' := by
  have W0 := Lib.hid w0
  have HE := Lib.hid hE
  have hlc := w0.len
  unfold maxLen at hlc
  clear w0 hE
  refine calls_of_endsP Tryd.func8 rfl ?_
  simp only [Tryd.ntmps8, List.size_toArray, List.length_cons, List.length_nil, Nat.reduceAdd, Nat.reduceSub, Array.replicate_succ, Array.replicate_zero, List.push_toArray, List.append_toArray, List.nil_append, List.cons_append]
  go_wp2_with (first
    | (go_at_call 9; refine (examples19 _ (HE.out.below ((Below.refl _ _).alloc (Nat.le_refl _) _))).mono ?_; rintro e wx ⟨rfl, hB⟩; have HB := Lib.hid hB; have c0 := (cell1 (box_on hB)).1; have f0 := (cell1 (box_on hB)).2; clear hB)
    | (go_at_call 17; refine (new_calls _).mono ?_; rintro e wy ⟨rfl, hT, hM, hB⟩; have HP := Lib.hid (play_start HB.out hT (new_map hM) hB); clear hT hM hB c0 f0))
  obtain ⟨T, hT⟩ : ∃ T, wx.heap.size + 1 = T := ⟨_, rfl⟩
  obtain ⟨C, hC⟩ : ∃ C, wy.heap.size + 1 = C := ⟨_, rfl⟩
  obtain ⟨base, hb⟩ : ∃ b, wy.heap.size + 2 = b := ⟨_, rfl⟩
  rw [hT, hC, hb] at HP
  rw [hT, hC]
  obtain ⟨M, hM⟩ : ∃ M, wx.heap.size = M := ⟨_, rfl⟩
  obtain ⟨X, hX⟩ : ∃ X, wy.heap.size = X := ⟨_, rfl⟩
  rw [hM, hX] at HP
  rw [hX]
  clear hT hC hb hM hX
  go_loopw [6] (fun vi wr => ∃ (i : Nat) (f : Nat → Svc), vi = .int .i64 (i : Int) ∧ i ≤ 90 ∧ Play w i T M X C base f wr) (fun vi _ => 91 - (intOf vi).toNat)
  case atStart => exact ⟨0, _, rfl, by omega, HP.out⟩
  case round =>
    obtain ⟨i, f, rfl, hi, hP⟩ := hrel
    clear HP HB
    have HP := Lib.hid hP
    clear hP
    by_cases hlt : i < len0 ∧ i < 90
    · obtain ⟨x, d, rfl, hd, hdc⟩ := W0.out.read HP.out.below hlt.1
      obtain ⟨hl1, hl2⟩ := hlt
      have hi2 : (i : Int) < (len0 : Int) := by omega
      have hi3 : (i : Int) < 90 := by omega
      obtain ⟨kd, id, p, v, q, dd, m⟩ := d
      obtain ⟨d0, d1, d2, d3, d4, d5, d6⟩ := hdc
      dsimp only at d0 d1 d2 d3 d4 d5 d6
      have HD := Lib.hid hd
      clear hd
      go_upto_region 13 with fail
      have HU := Lib.hid (show DBox wr.heap.size base ⟨kd, id, p, v, q, dd, m⟩ (wr.alloc (.cells #[.int .i64 kd, .int .i64 id, .int .i64 p, .int .u32 (v : Int), .int .i64 q, .bool dd, .int .u32 (m : Int)] 51)) from ⟨World.alloc_heap_new _ _, HP.out.hb⟩)
      replace HP := Lib.hid (HP.out.go ((Below.refl _ _).alloc (Nat.le_refl _) (.cells #[.int .i64 kd, .int .i64 id, .int .i64 p, .int .u32 (v : Int), .int .i64 q, .bool dd, .int .u32 (m : Int)] 51)))
      clear d0 d1 d2 d3 d4 d5 d6
      obtain ⟨U, hU⟩ : ∃ U, wr.heap.size = U := ⟨_, rfl⟩
      rw [hU] at HU
      rw [hU]
      obtain ⟨wd, hwd⟩ : ∃ wd, wr.alloc (.cells #[.int .i64 kd, .int .i64 id, .int .i64 p, .int .u32 (v : Int), .int .i64 q, .bool dd, .int .u32 (m : Int)] 51) = wd := ⟨_, rfl⟩
      rw [hwd] at HP HU
      rw [hwd]
      clear hwd hU
      go_upto_if 50 with fail
      go_cut [8] from 33 to 154 (fun s8 wz => (∃ kk : Nat, s8 = .int .i64 (kk : Int)) ∧ wz = wd)
      case first =>
        have hb := i64_bounds HD.out.1
        dsimp only at hb
        by_cases hk : kd < 0
        · obtain ⟨kn, rfl⟩ : ∃ kn : Nat, kd = -(kn : Int) - 1 := ⟨(-kd - 1).toNat, by omega⟩
          have hk3 : (kn : Int) ≤ 9223372036854775807 := by omega
          go_wp2_with fail
          go_meet
          exact ⟨⟨kn, rfl⟩, rfl⟩
        · go_wp2_with fail
          go_meet
          exact ⟨⟨kd.toNat, by congr; omega⟩, rfl⟩
      case rest =>
        obtain ⟨⟨kk, rfl⟩, rfl⟩ := hcut
        obtain ⟨r, hm⟩ : ∃ r, (kk : Int).tmod 6 = r := ⟨_, rfl⟩
        have hm6 : r = 0 ∨ r = 1 ∨ r = 2 ∨ r = 3 ∨ r = 4 ∨ r = 5 := by rw [← hm, Int.tmod_eq_emod_of_nonneg (by omega)]; omega
        go_upto_block 2 with fail
        go_cut [9, 22, 23, 24, 25, 26, 27, 28, 29, 30, 31, 32] from 10 to 154 (fun s9 s22 s23 s24 s25 s26 s27 s28 s29 s30 s31 s32 wz => (s9 = .bool true ∧ s22 = undef ∧ s23 = undef ∧ s24 = undef ∧ s25 = .bool true ∧ s26 = .bool true ∧ s27 = .bool false ∧ s28 = .pointer (some ⟨T, 0, none⟩) ∧ s29 = .agg #[.slice none 0 0] ∧ s30 = .pointer (some ⟨X, 0, none⟩) ∧ s31 = .pointer (some ⟨T, 0, none⟩) ∧ s32 = .bool false) ∧ ∃ f', Play w (i + 1) T M X C base f' wz)
        case first =>
          have HUC := Lib.hid (show DBox U base ⟨kd, id, p, v, q, dd, m⟩ wc ∧ wc.heap[C]? = some (.cells #[.pointer (some ⟨X, 0, none⟩)] 46 (0, 0)) from ⟨HU.out, HP.out.ptr⟩)
          obtain ⟨e0, e1, e2, e3, e4, e5, e6⟩ := HU.out.cells
          dsimp only at e0 e1 e2 e3 e4 e5 e6
          have p0 := (cell1 HP.out.ptr).1
          have hTb := HP.out.hT.2.1
          have hMb := HP.out.hM.2.1
          have hXb := HP.out.hX.2.1
          have HORD := Lib.hid (And.intro HP.out.hT (And.intro HP.out.hM HP.out.hX))
          clear hm HU
          rcases hm6 with rfl | rfl | rfl | rfl | rfl | rfl
          · obtain ⟨av, ev, f', hba⟩ := both_add f HP.out.tab.uniq ⟨p, v, q, dd, m⟩ ⟨HD.out.2.2.1, HD.out.2.2.2.1, HD.out.2.2.2.2⟩
            have HBA := Lib.hid (show BothAdd f ⟨p, v, q, dd, m⟩ av ev f' from hba)
            clear hba
            have hi9 : i < 1000000 := by omega
            have QP := fun (N T M : Nat) (w : World) h1 h2 => HBA.out.prog (N := N) (T := T) (M := M) (w := w) h1 h2
            have QR := fun (base X : Nat) (w : World) h => HBA.out.ref (base := base) (X := X) (w := w) h
            unfold Svc.val at QP QR
            dsimp only at QP QR
            have HQP := Lib.hid QP
            have HQR := Lib.hid QR
            clear QP QR
            go_upto_region 18 with (go_at_call 18; refine (HQP.out _ _ _ _ hi9 HP.out.tab).mono ?_; rintro e wp ⟨rfl, ht, h2⟩; clear e0 e1 e2 e3 e4 e5 e6 p0; have HH := Lib.hid (HP.out.half ht h2); replace HUC := Lib.hid (And.intro (HUC.out.1.two h2 hTb hMb) HH.out.ptr); clear ht h2)
            go_region_held3 (fun W : World => (W.cell? ⟨U, 2, none⟩ = some (.int .i64 p) ∧ W.cell? ⟨U, 3, none⟩ = some (.int .u32 (v : Int)) ∧ W.cell? ⟨U, 4, none⟩ = some (.int .i64 q) ∧ W.cell? ⟨U, 5, none⟩ = some (.bool dd) ∧ W.cell? ⟨U, 6, none⟩ = some (.int .u32 (m : Int))) ∧ W.cell? ⟨C, 0, none⟩ = some (.pointer (some ⟨X, 0, none⟩))) (first | exact held_s HUC.out (Below.refl _ _) | exact held_s HUC.out (Below.refl _ _).drew) (first
              | (go_at_call 11; refine (ref11_at _ _ _ _ _ _).mono ?_; rintro e wp2 ⟨rfl, hB⟩; replace HH := Lib.hid ((HH.out.go (below_drewN _ 1)).go hB); replace HUC := Lib.hid (And.intro ((HUC.out.1.go (below_drewN _ 1)).go hB) HH.out.ptr); clear hB)
              | (go_at_call 25; refine (HQR.out _ _ _ HH.out.ref).mono ?_; rintro e wq ⟨rfl, hr, h2⟩; have HQ := Lib.hid (HH.out.whole hr h2); replace HUC := Lib.hid (And.intro (HUC.out.1.two h2 hXb hXb) HQ.out.ptr); clear hr h2))
            all_goals
              go_wp2_with fail
              go_meet
              exact ⟨⟨by simp, rfl, rfl, rfl, rfl, rfl, rfl, rfl, rfl, rfl, rfl, rfl⟩, _, HQ.out⟩
          · obtain ⟨av, ev, f', hba⟩ := both_add f HP.out.tab.uniq ⟨p, v, q, dd, m⟩ ⟨HD.out.2.2.1, HD.out.2.2.2.1, HD.out.2.2.2.2⟩
            have HBA := Lib.hid (show BothAdd f ⟨p, v, q, dd, m⟩ av ev f' from hba)
            clear hba
            have hi9 : i < 1000000 := by omega
            have QP := fun (N T M : Nat) (w : World) h1 h2 => HBA.out.prog (N := N) (T := T) (M := M) (w := w) h1 h2
            have QR := fun (base X : Nat) (w : World) h => HBA.out.ref (base := base) (X := X) (w := w) h
            unfold Svc.val at QP QR
            dsimp only at QP QR
            have HQP := Lib.hid QP
            have HQR := Lib.hid QR
            clear QP QR
            go_upto_region 18 with (go_at_call 18; refine (HQP.out _ _ _ _ hi9 HP.out.tab).mono ?_; rintro e wp ⟨rfl, ht, h2⟩; clear e0 e1 e2 e3 e4 e5 e6 p0; have HH := Lib.hid (HP.out.half ht h2); replace HUC := Lib.hid (And.intro (HUC.out.1.two h2 hTb hMb) HH.out.ptr); clear ht h2)
            go_region_held3 (fun W : World => (W.cell? ⟨U, 2, none⟩ = some (.int .i64 p) ∧ W.cell? ⟨U, 3, none⟩ = some (.int .u32 (v : Int)) ∧ W.cell? ⟨U, 4, none⟩ = some (.int .i64 q) ∧ W.cell? ⟨U, 5, none⟩ = some (.bool dd) ∧ W.cell? ⟨U, 6, none⟩ = some (.int .u32 (m : Int))) ∧ W.cell? ⟨C, 0, none⟩ = some (.pointer (some ⟨X, 0, none⟩))) (first | exact held_s HUC.out (Below.refl _ _) | exact held_s HUC.out (Below.refl _ _).drew) (first
              | (go_at_call 11; refine (ref11_at _ _ _ _ _ _).mono ?_; rintro e wp2 ⟨rfl, hB⟩; replace HH := Lib.hid ((HH.out.go (below_drewN _ 1)).go hB); replace HUC := Lib.hid (And.intro ((HUC.out.1.go (below_drewN _ 1)).go hB) HH.out.ptr); clear hB)
              | (go_at_call 25; refine (HQR.out _ _ _ HH.out.ref).mono ?_; rintro e wq ⟨rfl, hr, h2⟩; have HQ := Lib.hid (HH.out.whole hr h2); replace HUC := Lib.hid (And.intro (HUC.out.1.two h2 hXb hXb) HQ.out.ptr); clear hr h2))
            all_goals
              go_wp2_with fail
              go_meet
              exact ⟨⟨by simp, rfl, rfl, rfl, rfl, rfl, rfl, rfl, rfl, rfl, rfl, rfl⟩, _, HQ.out⟩
          · obtain ⟨av, ev, f', hba⟩ := both_add f HP.out.tab.uniq ⟨p, v, q, dd, m⟩ ⟨HD.out.2.2.1, HD.out.2.2.2.1, HD.out.2.2.2.2⟩
            have HBA := Lib.hid (show BothAdd f ⟨p, v, q, dd, m⟩ av ev f' from hba)
            clear hba
            have hi9 : i < 1000000 := by omega
            have QP := fun (N T M : Nat) (w : World) h1 h2 => HBA.out.prog (N := N) (T := T) (M := M) (w := w) h1 h2
            have QR := fun (base X : Nat) (w : World) h => HBA.out.ref (base := base) (X := X) (w := w) h
            unfold Svc.val at QP QR
            dsimp only at QP QR
            have HQP := Lib.hid QP
            have HQR := Lib.hid QR
            clear QP QR
            go_upto_region 18 with (go_at_call 18; refine (HQP.out _ _ _ _ hi9 HP.out.tab).mono ?_; rintro e wp ⟨rfl, ht, h2⟩; clear e0 e1 e2 e3 e4 e5 e6 p0; have HH := Lib.hid (HP.out.half ht h2); replace HUC := Lib.hid (And.intro (HUC.out.1.two h2 hTb hMb) HH.out.ptr); clear ht h2)
            go_region_held3 (fun W : World => (W.cell? ⟨U, 2, none⟩ = some (.int .i64 p) ∧ W.cell? ⟨U, 3, none⟩ = some (.int .u32 (v : Int)) ∧ W.cell? ⟨U, 4, none⟩ = some (.int .i64 q) ∧ W.cell? ⟨U, 5, none⟩ = some (.bool dd) ∧ W.cell? ⟨U, 6, none⟩ = some (.int .u32 (m : Int))) ∧ W.cell? ⟨C, 0, none⟩ = some (.pointer (some ⟨X, 0, none⟩))) (first | exact held_s HUC.out (Below.refl _ _) | exact held_s HUC.out (Below.refl _ _).drew) (first
              | (go_at_call 11; refine (ref11_at _ _ _ _ _ _).mono ?_; rintro e wp2 ⟨rfl, hB⟩; replace HH := Lib.hid ((HH.out.go (below_drewN _ 1)).go hB); replace HUC := Lib.hid (And.intro ((HUC.out.1.go (below_drewN _ 1)).go hB) HH.out.ptr); clear hB)
              | (go_at_call 25; refine (HQR.out _ _ _ HH.out.ref).mono ?_; rintro e wq ⟨rfl, hr, h2⟩; have HQ := Lib.hid (HH.out.whole hr h2); replace HUC := Lib.hid (And.intro (HUC.out.1.two h2 hXb hXb) HQ.out.ptr); clear hr h2))
            all_goals
              go_wp2_with fail
              go_meet
              exact ⟨⟨by simp, rfl, rfl, rfl, rfl, rfl, rfl, rfl, rfl, rfl, rfl, rfl⟩, _, HQ.out⟩
          · obtain ⟨b, f', hbr⟩ := both_rem f id
            have HBR := Lib.hid hbr
            clear hbr
            go_upto_region 21 with fail
            clear e0 e1 e2 e3 e4 e5 e6 p0
            go_region_held3 (fun W : World => W.cell? ⟨U, 1, none⟩ = some (.int .i64 id) ∧ W.cell? ⟨C, 0, none⟩ = some (.pointer (some ⟨X, 0, none⟩))) (first | exact held_id HUC.out (Below.refl _ _) | exact held_id HUC.out (Below.refl _ _).drew) (first
              | (go_at_call 20; refine (HBR.out.prog (HP.out.go (below_drewN _ 1)).tab).mono ?_; rintro e wp ⟨rfl, ht, h2⟩; have HH := Lib.hid ((HP.out.go (below_drewN _ 1)).half ht h2); replace HUC := Lib.hid (And.intro ((HUC.out.1.go (below_drewN _ 1)).two h2 hTb hMb) HH.out.ptr); clear ht h2)
              | (go_at_call 21; refine (HBR.out.ref HH.out.ref).mono ?_; rintro e wq ⟨rfl, hr, h2⟩; have HQ := Lib.hid (HH.out.whole hr h2); replace HUC := Lib.hid (And.intro (HUC.out.1.two h2 hXb hXb) HQ.out.ptr); clear hr h2))
            all_goals
              go_wp2_with fail
              go_meet
              exact ⟨⟨by simp, rfl, rfl, rfl, rfl, rfl, rfl, rfl, rfl, rfl, rfl, rfl⟩, _, HQ.out⟩
          · obtain ⟨⟨p', v', q', dd', m'⟩, b, hbg⟩ := both_get f id
            have QP := fun (N T M : Nat) (w : World) h => hbg.prog (N := N) (T := T) (M := M) (w := w) h
            have QR := fun (base X : Nat) (w : World) h => hbg.ref (base := base) (X := X) (w := w) h
            dsimp only at QP QR
            have HQP := Lib.hid QP
            have HQR := Lib.hid QR
            clear QP QR hbg
            go_upto_region 25 with (first
              | (go_at_call 22; refine (HQP.out _ _ _ _ HP.out.tab).mono ?_; rintro e wp ⟨rfl, hB⟩; clear e0 e1 e2 e3 e4 e5 e6 p0; replace HP := Lib.hid ((HP.out.go hB).go ((Below.refl _ _).alloc (Nat.le_refl _) (.cells #[.int .i64 p', .int .u32 (v' : Int), .int .i64 q', .bool dd', .int .u32 (m' : Int)] 24))); replace HUC := Lib.hid (And.intro ((HUC.out.1.go hB).go ((Below.refl _ _).alloc (Nat.le_refl _) (.cells #[.int .i64 p', .int .u32 (v' : Int), .int .i64 q', .bool dd', .int .u32 (m' : Int)] 24))) HP.out.ptr); have HX0 := Lib.hid (World.alloc_heap_new wp (.cells #[.int .i64 p', .int .u32 (v' : Int), .int .i64 q', .bool dd', .int .u32 (m' : Int)] 24)); obtain ⟨e1, p0⟩ := held_id HUC.out (Below.refl _ _); clear hB)
              | (go_at_call 23; refine (HQR.out _ _ _ HP.out.ref).mono ?_; rintro e wq ⟨rfl, hB⟩; clear e1 p0; replace HP := Lib.hid ((HP.out.go hB).go ((Below.refl _ _).alloc (Nat.le_refl _) (.cells #[.int .i64 p', .int .u32 (v' : Int), .int .i64 q', .bool dd', .int .u32 (m' : Int)] 28))); have HY0 := Lib.hid (World.alloc_heap_new wq (.cells #[.int .i64 p', .int .u32 (v' : Int), .int .i64 q', .bool dd', .int .u32 (m' : Int)] 28)); replace HX0 := Lib.hid (box_go (box_go HX0.out hB) ((Below.refl _ _).alloc (Nat.le_refl _) (.cells #[.int .i64 p', .int .u32 (v' : Int), .int .i64 q', .bool dd', .int .u32 (m' : Int)] 28))); clear hB))
            have HBB := Lib.hid (And.intro HX0.out HY0.out)
            clear HX0 HY0
            go_region_held3 (fun W : World => (W.cell? ⟨wp.heap.size, 0, none⟩ = some (.int .i64 p') ∧ W.cell? ⟨wp.heap.size, 1, none⟩ = some (.int .u32 (v' : Int)) ∧ W.cell? ⟨wp.heap.size, 2, none⟩ = some (.int .i64 q') ∧ W.cell? ⟨wp.heap.size, 3, none⟩ = some (.bool dd') ∧ W.cell? ⟨wp.heap.size, 4, none⟩ = some (.int .u32 (m' : Int))) ∧ (W.cell? ⟨wq.heap.size, 0, none⟩ = some (.int .i64 p') ∧ W.cell? ⟨wq.heap.size, 1, none⟩ = some (.int .u32 (v' : Int)) ∧ W.cell? ⟨wq.heap.size, 2, none⟩ = some (.int .i64 q') ∧ W.cell? ⟨wq.heap.size, 3, none⟩ = some (.bool dd') ∧ W.cell? ⟨wq.heap.size, 4, none⟩ = some (.int .u32 (m' : Int)))) (first | exact held_bb HBB.out (Below.refl _ _) | exact held_bb HBB.out (Below.refl _ _).drew) (
              (go_at_call 11; refine (ref11_at _ _ _ _ _ _).mono ?_; rintro e wr2 ⟨rfl, hB⟩; replace HP := Lib.hid ((HP.out.go (below_drewN _ 1)).go hB); replace HBB := Lib.hid (And.intro (box_go (box_go HBB.out.1 (below_drewN _ 1)) hB) (box_go (box_go HBB.out.2 (below_drewN _ 1)) hB)); clear hB))
            all_goals
              go_wp2_with fail
              go_meet
              exact ⟨⟨by simp, rfl, rfl, rfl, rfl, rfl, rfl, rfl, rfl, rfl, rfl, rfl⟩, _, HP.out.more⟩
          · obtain ⟨k, b, hbf⟩ := both_find f HP.out.tab.uniq HD.out.2.2.1 HD.out.2.2.2.1 HD.out.2.2.2.2.1
            have QP := fun (N T M : Nat) (w : World) h => hbf.prog (N := N) (T := T) (M := M) (w := w) h
            have QR := fun (base X : Nat) (w : World) h => hbf.ref (base := base) (X := X) (w := w) h
            dsimp only at QP QR
            have HQP := Lib.hid QP
            have HQR := Lib.hid QR
            clear QP QR hbf
            go_wp2_with (first
              | (go_at_call 19; refine (HQP.out _ _ _ _ HP.out.tab).mono ?_; rintro e wp ⟨rfl, hB⟩; clear e0 e1 e2 e3 e4 e5 e6 p0; replace HP := Lib.hid (HP.out.go hB); replace HUC := Lib.hid (And.intro (HUC.out.1.go hB) HP.out.ptr); obtain ⟨⟨e2, e3, e4, e5, e6⟩, p0⟩ := held_s HUC.out (Below.refl _ _); clear hB)
              | (go_at_call 24; refine (HQR.out _ _ _ HP.out.ref).mono ?_; rintro e wq ⟨rfl, hB⟩; clear e2 e3 e4 e5 e6 p0; replace HP := Lib.hid (HP.out.go hB); clear hB))
            go_meet
            exact ⟨⟨by simp, rfl, rfl, rfl, rfl, rfl, rfl, rfl, rfl, rfl, rfl, rfl⟩, _, HP.out.more⟩
        case rest =>
          obtain ⟨⟨rfl, rfl, rfl, rfl, rfl, rfl, rfl, rfl, rfl, rfl, rfl, rfl⟩, f', hP⟩ := hcut
          have HP := Lib.hid hP
          clear hP
          have r0 := (cell1 HP.out.res).1
          have f0 := (cell1 HP.out.res).2
          go_wp2_with fail
          go_roundw
          case rel => exact ⟨i + 1, f', by go_num, by omega, HP.out⟩
          case measure => simp [intOf]; omega
    · obtain ⟨w5, hw5⟩ : ∃ w5, w5 = wr := ⟨_, rfl⟩
      subst hw5
      by_cases hl1 : i < len0
      case' pos =>
        have hi2 : (i : Int) < (len0 : Int) := by omega
        have hi3 : ¬ (i : Int) < 90 := by omega
      case' neg =>
        have hi2 : ¬ (i : Int) < (len0 : Int) := by omega
      all_goals
        go_wp2_with (go_at_call 26; refine callsIn_wide.1 ((all_in Fence.wide 8 trivial rfl _ _).mono ?_); rintro e w' ⟨rfl, rfl⟩)
        refine (wpIn_wide (n := 9)).1 ?_
        refine wpIn_genP _ ?_
        intro W2 hW2
        refine wpIn_genA _ ?_
        intro A hA
        have hs2 : W2.heap.size = w5.heap.size + 2 := by rw [hW2]; simp
        have hb2 : Below w5.heap.size w5 W2 := by rw [hW2]; exact ((Below.refl _ w5).alloc (Nat.le_refl _) _).alloc (by simp) _
        have hAt : W2.heap[w5.heap.size]? = some (.cells #[.int .i64 0] 3 (0, 0)) := by
          rw [hW2]
          exact (Below.heap_alloc _ _ _ (by simp)).trans (World.alloc_heap_new w5 _)
        have hBx2 : W2.heap[w5.heap.size + 1]? = some (.cells #[.pointer (some ⟨T, 0, none⟩)] 36 (0, 0)) := by
          have h5 := World.alloc_heap_new (w5.alloc (.cells #[.int .i64 0] 3)) (.cells #[.pointer (some ⟨T, 0, none⟩)] 36)
          rw [World.size_alloc, ← hW2] at h5
          exact h5
        clear hW2
        have hbW := HP.out.hb
        have hCw := (Array.getElem?_eq_some_iff.1 HP.out.ptr).1
        replace HP := Lib.hid (HP.out.go hb2)
        obtain ⟨S0, hS0⟩ : ∃ S0, w5.heap.size = S0 := ⟨_, rfl⟩
        rw [hS0] at hs2 hb2 hAt hBx2 hA
        have hbS : base ≤ S0 := by omega
        have hCS : S0 ≠ C := by omega
        have hst := all_stops Fence.wide 8 trivial trivial rfl (by omega) (S0 + 1) T M f W2 hBx2 HP.out.tab.tab
        have hHP := HP.out
        refine wpIn_rangeFunc_ownH (α := NumO f) rfl (by omega) (gf := 40) (lb := #[.pointer (some ⟨S0 + 1, 0, none⟩)]) (by rw [hA]; rfl) trivial (enters_of Tryd.func40 (by kernel_rfl) rfl) hst
          (fun h h' => ⟨⟨h'.1.1.trans h.1.1, h'.1.2.trans h.1.2⟩, Nat.le_trans h.2 h'.2⟩) (fun W l o o' hl hlo _ _ => ?keep) (Below.refl _ _) (fun _ => rfl)
          (fun pre W => W.heap[S0]? = some (.cells #[.int .i64 (pre.length : Int)] 3 (0, 0)) ∧ Play w i T M X C base f W ∧ W2.heap.size ≤ W.heap.size ∧ valsO pre <+: listOf f)
          (fun cd pre W => cd = Code.ret ∧ ¬ valsO pre <+: listOf f)
          ?own (fun _ => ?ownx) ⟨hAt, hHP, Nat.le_refl _, List.nil_prefix⟩ (fun x a' W => SBox A W2.heap.size x.val (f x.val) a' W) (fun x a' => ?ownA) ?assign ?body ?done ?stop
        case keep =>
          have hne : ∀ b, b < W2.heap.size → (W.putObj l o').heap[b]? = W.heap[b]? := fun b hb => by
            by_cases hbW : b < W.heap.size
            · exact (grownBy_putObj' W l o').block _ hbW (fun e => by cases e; omega)
            · have := (Array.getElem?_eq_some_iff.1 hlo).1; omega
          exact ⟨⟨hne T (by have := hHP.hT; omega), hne _ (by omega)⟩, (grownBy_putObj' W l o').size⟩
        case own =>
          rintro pre A1 B1 row ⟨h1, h2, h4, h3⟩ hg hr
          exact ⟨(kept_cells h1 hg hr).trans h1, h2.own2 (by omega) hg hr, Nat.le_trans h4 hg.size, h3⟩
        case ownx =>
          rintro pre A1 B1 row h hg hr
          exact h
        case ownA =>
          rintro u A1 B1 row ⟨B, h1, h2, h3⟩ hg hr
          exact ⟨B, h1, (kept_cells h2 hg hr).trans h2, h3⟩
        case assign =>
          rintro l pre x W K ⟨h1, h2, h4, h3⟩ hK
          have H4 := Lib.hid h4
          have HS2 := Lib.hid hs2
          have H1 := Lib.hid h1
          have H2 := Lib.hid h2
          have H3 := Lib.hid h3
          have HK := Lib.hid hK
          have HA := Lib.hid hA
          clear h1 h2 h3 h4 hK hs2
          obtain ⟨s, hs⟩ : ∃ s, f x.val = s := ⟨_, rfl⟩
          have HS := Lib.hid hs
          rw [hs]
          obtain ⟨k, hk⟩ : ∃ k, x.val = k := ⟨_, rfl⟩
          have HKK := Lib.hid hk
          rw [hk]
          clear hs hk
          subst hA
          gi_wp2
          refine HK.out _ _ ((KeepsOthers.alloc _ _).from _) ⟨⟨Below.heap_alloc _ _ _ H2.out.tab.tab.low, Below.heap_alloc _ _ _ (by have := H4.out; have := HS2.out; omega)⟩, by simp⟩ ⟨(Below.heap_alloc _ _ _ (Array.getElem?_eq_some_iff.1 H1.out).1).trans H1.out, H2.out.go ((Below.refl _ _).alloc (Nat.le_refl _) _), Nat.le_trans H4.out (by simp), H3.out⟩ ?_
          rw [HS.out, HKK.out]
          exact ⟨W.heap.size, H4.out, World.alloc_heap_new _ _, rfl⟩
        case stop =>
          rintro D cd pre W hD hsp ⟨_, hne⟩ hKD
          exact absurd hsp hne
        case body =>
          rintro l pre x a' W hl ⟨rc, hrc⟩ ⟨hat, hPW, hsz, hpre⟩ ⟨B, hB, hbx, rfl⟩ hlt
          obtain ⟨A0, c0, hrf⟩ := hPW.ref
          obtain ⟨g, hga⟩ := hrf.addr (by omega)
          subst hga
          obtain ⟨n, hn⟩ : ∃ n, (listOf f).length = n := ⟨_, rfl⟩
          obtain ⟨k, hk⟩ : ∃ k, pre.length = k := ⟨_, rfl⟩
          rw [hn, hk] at hlt
          rw [hk] at hat
          obtain ⟨⟨y, s⟩, hr⟩ : ∃ r, (listOf f)[k]? = some r := ⟨_, List.getElem?_eq_getElem (by rw [hn]; exact hlt)⟩
          have hrow := hrf.row hr
          have hmem := listOf_mem (List.mem_of_getElem? hr)
          dsimp only at hmem
          obtain ⟨j, hj⟩ : ∃ j, x.val = j := ⟨_, rfl⟩
          obtain ⟨sx, hsx⟩ : ∃ sx, f x.val = sx := ⟨_, rfl⟩
          have hord : j = y → sx = s ∧ valsO (pre ++ [x]) <+: listOf f := by
            intro e
            have e1 : sx = s := by rw [← hsx, hmem.2.2.2, hj, e]
            refine ⟨e1, ?_⟩
            have e2 : valsO (pre ++ [x]) = valsO pre ++ [(y, s)] := by simp [valsO]; exact ⟨by rw [hj, e], by rw [hsx, e1]⟩
            rw [e2]
            exact prefix_snoc hpre (by rw [show (valsO pre).length = k by simp [valsO, hk]]; exact hr)
          have hno : j ≠ y → ¬ valsO (pre ++ [x]) <+: listOf f := by
            intro e hp
            have e2 : valsO (pre ++ [x]) = valsO pre ++ [(j, sx)] := by simp [valsO]; exact ⟨hj, hsx⟩
            rw [e2] at hp
            have h3 := prefix_at hp
            rw [show (valsO pre).length = k by simp [valsO, hk], hr] at h3
            simp at h3
            exact e h3.1.symm
          rw [hsx, hj]
          have hb0 := (cell1 hrf.box).1
          rw [hn] at hb0
          have HG := Lib.hid (show W.drew.cell? ⟨S0, 0, none⟩ = some (.int .i64 (k : Int)) ∧ W.drew.cell? ⟨C, 0, none⟩ = some (.pointer (some ⟨X, 0, none⟩)) ∧ W.drew.cell? ⟨X, 0, none⟩ = some (.slice (some ⟨g, 0, none⟩) n c0) ∧ RowAt g k (y, s) W.drew ∧ SvcAt B sx W.drew from ⟨(cell1 hat).1, (cell1 hPW.ptr).1, hb0, hrow.drew, (cells5 (by rw [← hsx]; exact hbx)).1⟩)
          have HPW := Lib.hid hPW
          have HAT := Lib.hid hat
          have HORD := Lib.hid hord
          have HNO := Lib.hid hno
          have HKK := Lib.hid hk
          have HSZ := Lib.hid (And.intro hsz (And.intro hs2 hB))
          have HMEM := Lib.hid hmem
          have hkn : (k : Int) < (n : Int) := by omega
          have hkn2 : ¬ (n : Int) ≤ (k : Int) := by omega
          have hd1 : decide (n ≤ k) = false := by simp; omega
          have hd2 : decide ((n : Int) ≤ (k : Int)) = false := by simp; omega
          have hk3 : (k : Int) ≤ 64 := by have := listOf_len f; omega
          have hST := Lib.hid hst
          clear hPW hat hord hno hk hsz hs2 hB hst hmem hrf hr hrow hpre hbx hj hsx hb0 hb2 hAt hBx2 hHP hn hrc
          subst hA
          simp only [List.setIfInBounds_toArray, List.set_cons_zero, List.set_cons_succ]
          gi_wp2
          by_cases hjy : j = y
          · have HE1 := Lib.hid (HORD.out hjy)
            obtain ⟨hss, _⟩ := HE1.out
            subst hjy hss
            have e0 : ((j : Int) != (j : Int)) = false := by simp
            refine I.wpIn_G (Good := fun W' => W'.cell? ⟨S0, 0, none⟩ = some (.int .i64 (k : Int)) ∧ W'.cell? ⟨C, 0, none⟩ = some (.pointer (some ⟨X, 0, none⟩)) ∧ W'.cell? ⟨X, 0, none⟩ = some (.slice (some ⟨g, 0, none⟩) n c0) ∧ RowAt g k (j, sx) W' ∧ SvcAt B sx W') (fun _ => trivial) 31 2 [0, 1, 2, 3, 4, 5, 6, 7, 8, 9, 10, 11, 12, 13, 14, 15, 16, 17, 18, 19, 20, 22, 23, 24, 25, 26, 27, 28, 29] (by kernel_rfl) (by kernel_rfl) (by kernel_rfl) (by kernel_rfl) (by kernel_rfl) (by kernel_rfl) rfl (fun _ _ _ _ _ h => h) (by kernel_rfl) HG.out ?_
            iterate 29 (refine I.stepsG_cons (v := ?_) rfl rfl rfl (fun wg hw => ?_) ?_; rotate_left; (obtain ⟨q1, q2, q3, ⟨r0, r1, r2, r3, r4, r5, t2, t3, t4, t5⟩, v0, v1, v2, v3, v4⟩ := hw; dsimp only at r0 r1 r2 r3 r4 r5 t2 t3 t4 t5 v0 v1 v2 v3 v4; go_simp; try with_reducible rfl); go_simp)
            refine I.wpG_one (k := 21) (by kernel_rfl) (by omega) rfl rfl (fun K hK => ?_)
            gi_wp2_with (refine ⟨trivial, ?_⟩; gi_at_call 11; refine (CallsIn.inRound l (callsIn_wide.2 (ref11_at _ _ _ _ _ _))).mono ?_; rintro e wz ⟨rfl, hBz⟩)
            have hG2 := good_go HG.out hBz
            have HBZ := Lib.hid hBz
            refine hK _ _ hG2 ?_
            refine I.wpG_one (k := 30) (by kernel_rfl) (by omega) rfl rfl (fun K2 hK2 => ?_)
            go_simp
            refine hK2 _ _ hG2 ?_
            refine ⟨by kernel_rfl, ?_⟩
            have HE2 := body_end HPW.out HAT.out hBz hbS hCS HSZ.out.2.1 HSZ.out.1
            have a0c := hG2.1
            have a0f := (cell1 (box_go HAT.out (below_step ((Below.refl W.heap.size W).drew) hBz))).2
            have HE2 := Lib.hid HE2
            clear hG2 hBz hK hK2
            gi_wp2
            obtain ⟨z1, z2, z3, z4, z5⟩ := HE2.out
            exact ⟨z1, z2, by rw [List.length_append, HKK.out]; exact z3, z4, z5, HE1.out.2⟩
          · have hji : ((j : Int) != (y : Int)) = true := by simp; omega
            refine I.wpIn_G (Good := fun W' => W'.cell? ⟨S0, 0, none⟩ = some (.int .i64 (k : Int)) ∧ W'.cell? ⟨C, 0, none⟩ = some (.pointer (some ⟨X, 0, none⟩)) ∧ W'.cell? ⟨X, 0, none⟩ = some (.slice (some ⟨g, 0, none⟩) n c0) ∧ RowAt g k (y, s) W' ∧ SvcAt B sx W') (fun _ => trivial) 31 0 [0, 1, 2, 3, 4, 5, 6, 7, 8, 9, 10, 11, 12, 13, 14, 15, 16, 17, 18, 19, 20, 21, 22, 23, 24, 25, 26, 27, 28, 29, 30] (by kernel_rfl) (by kernel_rfl) (by kernel_rfl) (by kernel_rfl) (by kernel_rfl) (by kernel_rfl) rfl (fun _ _ _ _ _ h => h) (by kernel_rfl) HG.out ?_
            iterate 20 (refine I.stepsG_cons (v := ?_) rfl rfl rfl (fun wg hw => ?_) ?_; rotate_left; (obtain ⟨q1, q2, q3, ⟨r0, r1, r2, r3, r4, r5, t2, t3, t4, t5⟩, v0, v1, v2, v3, v4⟩ := hw; dsimp only at r0 r1 r2 r3 r4 r5 t2 t3 t4 t5 v0 v1 v2 v3 v4; go_simp; try with_reducible rfl); go_simp)
            iterate 11 (refine I.stepsG_skip rfl rfl ?_; go_simp)
            refine ⟨by kernel_rfl, ?_⟩
            have r0c := (cell1 HPW.out.res).1
            have r0f := (cell1 HPW.out.res).2
            gi_wp2
            exact ⟨leave_keep (by have := HSZ.out.2.1; have := HPW.out.hX; omega), rfl, HNO.out hjy⟩
        case done =>
          rintro D ys W hD hys ⟨hat, hPW, _, _⟩ hKD
          subst hA
          have hlen : (ys.length : Int) = ((listOf f).length : Int) := by rw [← hys]; simp [valsO]
          rw [hlen] at hat
          obtain ⟨A0, c0, hrf⟩ := hPW.ref
          obtain ⟨q0, q0f⟩ := cell1 hat
          obtain ⟨q1, _⟩ := cell1 hPW.ptr
          obtain ⟨q2, _⟩ := cell1 hrf.box
          obtain ⟨q3, q3f⟩ := cell1 hPW.res
          have HPW := Lib.hid hPW
          have HKD := Lib.hid hKD
          have HDD := Lib.hid (show w.heap.size < D from by have := hPW.hX; omega)
          obtain ⟨n, hn⟩ : ∃ n, (listOf f).length = n := ⟨_, rfl⟩
          rw [hn] at q0 q2
          clear hat hPW hKD hD hys hlen hrf hn hs2 hb2 hAt hBx2 hst hHP
          go_upto_region 39 with fail
          refine wp_tail 10 (by kernel_rfl) (by kernel_rfl) ?_
          simp only [List.take_succ_cons, List.take_zero, List.drop_succ_cons, List.drop_zero]
          repeat still_step
          refine wpStill_nil ?_
          go_wp2
          obtain ⟨hk2, d4, hbe⟩ := leave_res HPW.out.res HPW.out.below HKD.out HDD.out
          refine ⟨by simp, .inl ⟨_, _, rfl, run_takeDeferred hk2, ?_⟩⟩
          exact ⟨.bool true, by simp [results, Tryd.f8, go_sem, d4], rfl, hbe⟩
end Go.Proofs.YtbahcpejippcjaaDoor
