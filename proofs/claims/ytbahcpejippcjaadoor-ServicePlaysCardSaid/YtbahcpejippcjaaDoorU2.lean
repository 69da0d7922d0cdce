import Derived.Test.YtbahcpejippcjaaDoorU1
namespace Go.Proofs.YtbahcpejippcjaaDoor
open Go.RowKit Go.Shelf Go.Maps Go.WideShapes Go.ChangeMaps

/-! ### The keys of ends -/
theorem ktype83 : Tryd.prog.keyType 83 = true := by kernel_rfl
theorem cells83 : Tryd.prog.cellsOf 83 = 3 := by kernel_rfl
theorem fields83 : ∃ f0 f1 f2 : Field, Tryd.prog.underlying 83 = some (.struct #[f0, f1, f2]) ∧ (f0.type = 3 ∧ f1.type = 22 ∧ f2.type = 3) ∧ (f0.offset = 0 ∧ f1.offset = 1 ∧ f2.offset = 2) ∧ ((#[f0, f1, f2] : Array Field).all (·.name != "_") = true) :=
  ⟨_, _, _, Tryd.underlying83, ⟨rfl, rfl, rfl⟩, ⟨rfl, rfl, rfl⟩, by kernel_rfl⟩
theorem ck3 : Tryd.prog.cellsOf 3 = 1 := by kernel_rfl
theorem ck22 : Tryd.prog.cellsOf 22 = 1 := by kernel_rfl
theorem lits_int (d : Nat) {t : TypeId} {q : IntKind} {n : Int} (hu : Tryd.prog.underlying t = some (.int q)) (h : (Lit.int q n).wf = true) : Tryd.prog.keyLits (d + 1) t [.int q n] = some [.int q n] := by
  unfold Program.keyLits
  rw [hu]
  simp [h]
/-- An end has a key. -/
theorem end_key (p q : Int) (v : Nat) (hp : (Lit.int .i64 p).wf = true) (hq : (Lit.int .i64 q).wf = true) (hv : (Lit.int .u32 (v : Int)).wf = true) : ∃ kl, keyOf Tryd.prog 83 (endV p v q) = some kl ∧ WideAt.IsKeyLit kl := by
  have h : ∃ kl, keyOf Tryd.prog 83 (endV p v q) = some kl := by
    obtain ⟨f0, f1, f2, hu, ⟨t0, t1, t2⟩, ⟨o0, o1, o2⟩, hn⟩ := fields83
    unfold keyOf endV
    rw [hu]
    simp only [ktype83, Bool.true_and]
    have hf : (Value.agg #[Value.int .i64 p, .int .u32 (v : Int), .int .i64 q]).formed Tryd.prog 83 = true := by
      unfold Value.formed
      rw [hu]
      simp [cells83]
    rw [if_pos hf]
    have hl : ∀ d, Tryd.prog.keyLits (d + 1 + 1) 83 (Value.agg #[Value.int .i64 p, .int .u32 (v : Int), .int .i64 q]).cells.toList = some [.int .i64 p, .int .u32 (v : Int), .int .i64 q] := by
      intro d
      rw [Program.keyLits.eq_def]
      simp only [hu]
      have hc : (Value.agg #[Value.int .i64 p, .int .u32 (v : Int), .int .i64 q]).cells.toList = [.int .i64 p, .int .u32 (v : Int), .int .i64 q] := rfl
      rw [hc, cells83, if_pos ⟨rfl, hn⟩]
      simp [List.mapM_cons, t0, t1, t2, o0, o1, o2, ck3, ck22, lits_int d Tryd.underlying3 hp, lits_int d Tryd.underlying3 hq, lits_int d Tryd.underlying22 hv]
    obtain ⟨d, hd⟩ : ∃ d, Tryd.prog.types.size + 1 = d + 1 + 1 := ⟨Tryd.prog.types.size - 1, by have : 1 ≤ Tryd.prog.types.size := of_decide_eq_true (by kernel_rfl); omega⟩
    rw [hd, hl d]
    exact ⟨_, rfl⟩
  obtain ⟨kl, hk⟩ := h
  exact ⟨kl, hk, end_keys.key hk⟩
theorem end_inj {p p' q q' : Int} {v v' : Nat} {kl : Lit} (h : keyOf Tryd.prog 83 (endV p v q) = some kl) (h' : keyOf Tryd.prog 83 (endV p' v' q') = some kl) : p = p' ∧ v = v' ∧ q = q' := by
  have := end_keys.inj h h'
  unfold endV at this
  simp at this
  omega

/-! ### A table and its map of ends -/
def upd (f : Nat → Svc) (x : Nat) (s : Svc) (k : Nat) : Svc := if k = x then s else f k
theorem upd_same (f : Nat → Svc) (x : Nat) (s : Svc) : upd f x s x = s := if_pos rfl
theorem upd_other (f : Nat → Svc) {x k : Nat} (s : Svc) (h : k ≠ x) : upd f x s k = f k := if_neg h
theorem set_gen {W : World} {T k : Nat} {cs : Array Value} {t : TypeId} (h : W.heap[T]? = some (.cells cs t (0, 0))) (v : Value) : ∃ cs', (W.setCell ⟨T, k, none⟩ v).heap[T]? = some (.cells cs' t (0, 0)) := by
  simp [World.setCell, Array.getElem?_modify, h]
theorem set_is {W : World} {T k : Nat} {u : Value} (h : W.cell? ⟨T, k, none⟩ = some u) (v : Value) : (W.setCell ⟨T, k, none⟩ v).cell? ⟨T, k, none⟩ = some v := World.cell?_setCell_same' _ _ _ (by rw [h]; rfl)
theorem set_not {W : World} {T k b j : Nat} (v : Value) (h : b ≠ T ∨ j ≠ k) : (W.setCell ⟨T, k, none⟩ v).cell? ⟨b, j, none⟩ = W.cell? ⟨b, j, none⟩ := World.cell?_setCell_other _ _ _ _ (by intro e; simp only [Addr.mk.injEq] at e; omega)
/-- A row of the table is written. -/
theorem tab_put {T M x : Nat} {f : Nat → Svc} {W : World} (h : TabM T M f W) (hx : x < 65) (s : Svc) :
    TabM T M (upd f x s) (((((W.setCell ⟨T, x * 5, none⟩ (.int .i64 s.proto)).setCell ⟨T, x * 5 + 1, none⟩ (.int .u32 (s.vip : Int))).setCell ⟨T, x * 5 + 2, none⟩ (.int .i64 s.port)).setCell ⟨T, x * 5 + 3, none⟩ (.bool s.dsr)).setCell ⟨T, x * 5 + 4, none⟩ (.int .u32 (s.nat : Int))) := by
  have hk := five_keep W T (x * 5) (.int .i64 s.proto) (.int .u32 (s.vip : Int)) (.int .i64 s.port) (.bool s.dsr) (.int .u32 (s.nat : Int))
  obtain ⟨c0, c1, c2, c3, c4⟩ := h.at_ x hx
  refine ⟨?_, (hk T 325 (.inr (by omega))).trans h.ids, fun i hi => ?_⟩
  · obtain ⟨cs, hb⟩ := h.blk
    obtain ⟨cs1, h1⟩ := set_gen (k := x * 5) hb (.int .i64 s.proto)
    obtain ⟨cs2, h2⟩ := set_gen (k := x * 5 + 1) h1 (.int .u32 (s.vip : Int))
    obtain ⟨cs3, h3⟩ := set_gen (k := x * 5 + 2) h2 (.int .i64 s.port)
    obtain ⟨cs4, h4⟩ := set_gen (k := x * 5 + 3) h3 (.bool s.dsr)
    exact set_gen h4 _
  · by_cases e : i = x
    · subst e
      rw [upd_same]
      refine ⟨?_, ?_, ?_, ?_, ?_⟩
      · rw [set_not _ (.inr (by omega)), set_not _ (.inr (by omega)), set_not _ (.inr (by omega)), set_not _ (.inr (by omega))]; exact set_is c0 _
      · rw [set_not _ (.inr (by omega)), set_not _ (.inr (by omega)), set_not _ (.inr (by omega))]; exact set_is ((set_not _ (.inr (by omega))).trans c1) _
      · rw [set_not _ (.inr (by omega)), set_not _ (.inr (by omega))]; exact set_is ((set_not _ (.inr (by omega))).trans ((set_not _ (.inr (by omega))).trans c2)) _
      · rw [set_not _ (.inr (by omega))]; exact set_is ((set_not _ (.inr (by omega))).trans ((set_not _ (.inr (by omega))).trans ((set_not _ (.inr (by omega))).trans c3))) _
      · exact set_is ((set_not _ (.inr (by omega))).trans ((set_not _ (.inr (by omega))).trans ((set_not _ (.inr (by omega))).trans ((set_not _ (.inr (by omega))).trans c4)))) _
    · rw [upd_other f s e, hk T _ (.inr (by omega)), hk T _ (.inr (by omega)), hk T _ (.inr (by omega)), hk T _ (.inr (by omega)), hk T _ (.inr (by omega))]
      exact h.at_ i hi
/-- Just the table and its map have turned. -/
structure Two (T M : Nat) (w w' : World) : Prop where
  os : w'.os = w.os
  tape : w'.tape = w.tape
  output : w'.output = w.output
  size : w.heap.size ≤ w'.heap.size
  block : ∀ b, b < w.heap.size → b ≠ T → b ≠ M → w'.heap[b]? = w.heap[b]?
theorem Two.refl (T M : Nat) (w : World) : Two T M w w := ⟨rfl, rfl, rfl, Nat.le_refl _, fun _ _ _ _ => rfl⟩
theorem Two.of {T M : Nat} {w w' : World} (h : Below w.heap.size w w') : Two T M w w' := ⟨h.os, h.tape, h.output, h.size, fun b hb _ _ => h.block b hb⟩
theorem Two.trans {T M : Nat} {w w1 w2 : World} (h : Two T M w w1) (h2 : Two T M w1 w2) : Two T M w w2 :=
  ⟨h2.os.trans h.os, h2.tape.trans h.tape, h2.output.trans h.output, Nat.le_trans h.size h2.size, fun b hb h3 h4 => (h2.block b (Nat.lt_of_lt_of_le hb h.size) h3 h4).trans (h.block b hb h3 h4)⟩
theorem Two.below {T M B : Nat} {w w' : World} (h : Two T M w w') (hT : B ≤ T) (hM : B ≤ M) (hB : B ≤ w.heap.size) : Below B w w' :=
  ⟨h.os, h.tape, h.output, h.size, fun b hb => h.block b (by omega) (by omega) (by omega)⟩
theorem Two.kept {T M b : Nat} {w w' : World} {o : Obj} (h : Two T M w w') (hb : w.heap[b]? = some o) (hT : b ≠ T) (hM : b ≠ M) : w'.heap[b]? = some o := (h.block b (Array.getElem?_eq_some_iff.1 hb).1 hT hM).trans hb
/-- The table's row is written, then the map of ends: all that follows. -/
theorem body_facts2 {T M n x : Nat} {f : Nat → Svc} {g : Lit → Option Value} {w W : World} {s : Svc} (hX : Boxes w T s W) (hT : TabM T M f W) (hM : MapE M n g W) (hTM : T ≠ M) (hn : n < maxLen) (hTl : T < w.heap.size) (hMl : M < w.heap.size) {kl : Lit} (hk : keyOf Tryd.prog 83 (endV s.proto s.vip s.port) = some kl) (hkl : WideAt.IsKeyLit kl) (W1 : World) (hx5 : x < 65) (hW1 : W1 = (((((W.setCell ⟨T, x * 5, none⟩ (.int .i64 s.proto)).setCell ⟨T, x * 5 + 1, none⟩ (.int .u32 (s.vip : Int))).setCell ⟨T, x * 5 + 2, none⟩ (.int .i64 s.port)).setCell ⟨T, x * 5 + 3, none⟩ (.bool s.dsr)).setCell ⟨T, x * 5 + 4, none⟩ (.int .u32 (s.nat : Int))).drew) :
    ∃ (v0 : Value) (st : Nat) (w2 w3 : World), (Instr.mapEntry 78 (.map (some M)) (.agg #[.int .i64 s.proto, .int .u32 (s.vip : Int), .int .i64 s.port])).run Tryd.prog W1 = .ok (.tuple #[v0, .int .i64 (st : Int)]) w2 ∧
      (Instr.entryStore 78 (.map (some M)) (.int .i64 (st : Int)) (.int .i64 (x : Int))).run Tryd.prog w2 = .ok () w3 ∧
      w3.heap[w.heap.size + 1 + 1]? = some (.cells #[.int .i64 0] 3 (0, 0)) ∧ w3.heap[w.heap.size + 1 + 1 + 1]? = some (.cells #[.int .i64 0] 38 (0, 0)) ∧ Two T M w w3 ∧ (∀ b, w.heap.size ≤ b → ∀ o, W.heap[b]? = some o → w3.heap[b]? = some o) ∧ W.heap.size ≤ w3.heap.size ∧ GoodA w T M s W1 ∧ GoodA w T M s w2 ∧ MapE M (n + 1) (open Classical in fun j => if j = kl then some (.int .i64 (x : Int)) else g j) w3 ∧ TabM T M (upd f x s) w3 := by
  have h5 := set_five W T (x * 5) (.int .i64 s.proto) (.int .u32 (s.vip : Int)) (.int .i64 s.port) (.bool s.dsr) (.int .u32 (s.nat : Int))
  have h6 := five_keep W T (x * 5) (.int .i64 s.proto) (.int .u32 (s.vip : Int)) (.int .i64 s.port) (.bool s.dsr) (.int .u32 (s.nat : Int))
  have h7 := tab_put hT hx5 s
  generalize (((((W.setCell ⟨T, x * 5, none⟩ (.int .i64 s.proto)).setCell ⟨T, x * 5 + 1, none⟩ (.int .u32 (s.vip : Int))).setCell ⟨T, x * 5 + 2, none⟩ (.int .i64 s.port)).setCell ⟨T, x * 5 + 3, none⟩ (.bool s.dsr)).setCell ⟨T, x * 5 + 4, none⟩ (.int .u32 (s.nat : Int))) = V at h5 h6 h7 hW1
  obtain ⟨hk0, hs0, ho0, ht0, hu0⟩ := h5
  have hk1 : ∀ b, b ≠ T → W1.heap[b]? = W.heap[b]? := fun b hb => by rw [hW1]; exact hk0 b hb
  have hs1 : W1.heap.size = W.heap.size := by rw [hW1]; exact hs0
  have ho1 : W1.os = W.os ∧ W1.tape = W.tape ∧ W1.output = W.output := by rw [hW1]; exact ⟨ho0, ht0, hu0⟩
  have hM1 : MapE M n g W1 := hM.block (hk1 M hTM.symm)
  obtain ⟨v0, st, w2, r1, g1, fill⟩ := hM1.entry Tryd.underlying78 zero3 hn hk hkl
  obtain ⟨w3, r2, hM3, g2⟩ := fill w2 (.int .i64 (x : Int)) rfl
  have hT3 : w3.heap[T]? = W1.heap[T]? := by
    have e1 := g1.block T (by have := hX.below.size; omega) (by simp; exact hTM)
    have e2 := g2.block T (by have := g1.size; have := hX.below.size; omega) (by simp; exact hTM)
    exact e2.trans e1
  have hk3 : ∀ b, b ≠ T → b ≠ M → ∀ o, W.heap[b]? = some o → w3.heap[b]? = some o := fun b h1 h2 o ho => by
    have hbl := (Array.getElem?_eq_some_iff.1 ho).1
    have e1 := g1.block b (by omega) (by simp; exact h2)
    have e2 := g2.block b (by have := g1.size; omega) (by simp; exact h2)
    exact (e2.trans (e1.trans (hk1 b h1))).trans ho
  have hG0 : GoodA w T M s W := ⟨(cell1 hX.b0).1, hT.ids, cells3 hX.b4, (cells5 hX.b1).1⟩
  have hG1 : GoodA w T M s W1 := hG0.of (fun i off h => by
    rw [hW1]
    exact h6 i off (by omega))
  have hG2 : GoodA w T M s w2 := hG1.of (fun i off h => World.cell?_of_block (w := W1) (a := ⟨i, off, none⟩) (g1.block i (by have := hX.below.size; have := (Array.getElem?_eq_some_iff.1 hX.b4).1; omega) (by simp; omega)))
  have hTW1 : TabM T M (upd f x s) W1 := h7.block (by rw [hW1]; rfl) (by rw [hs1, hs0]; exact Nat.le_refl _)
  refine ⟨v0, st, w2, w3, r1, r2, hk3 _ (by omega) (by omega) _ hX.b2, hk3 _ (by omega) (by omega) _ hX.b3, ⟨g2.os.trans (g1.os.trans (ho1.1.trans hX.below.os)), g2.tape.trans (g1.tape.trans (ho1.2.1.trans hX.below.tape)), g2.output.trans (g1.output.trans (ho1.2.2.trans hX.below.output)), by have := g1.size; have := g2.size; have := hX.below.size; omega, fun b hb hb1 hb2 => ?_⟩, fun b _ o ho => hk3 b (by omega) (by omega) o ho, by have := g1.size; have := g2.size; omega, hG1, hG2, hM3, hTW1.block hT3 (by have := g1.size; have := g2.size; omega)⟩
  have e1 := g1.block b (by have := hX.below.size; omega) (by simp; omega)
  have e2 := g2.block b (by have := g1.size; have := hX.below.size; omega) (by simp; omega)
  exact e2.trans (e1.trans ((hk1 b hb1).trans (hX.below.block b hb)))
end Go.Proofs.YtbahcpejippcjaaDoor
