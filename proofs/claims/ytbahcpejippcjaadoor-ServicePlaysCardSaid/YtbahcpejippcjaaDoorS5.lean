import Derived.Test.YtbahcpejippcjaaDoorS4
import Derived.Deep.CutRange
import Derived.Deep.CutBlock
import Derived.Deep.QuietTactic
import Derived.BigQuiet
import Derived.Test.YtbahcpejippcjaaDoorDH
import Derived.RegionIn
import Derived.OrdersIn
import Derived.BigRegionIn
import Derived.OwnWalkIn
namespace Go.Proofs.YtbahcpejippcjaaDoor
open Go.RowKit Go.Shelf Go.Maps
attribute [local go_sem] Oper.semAt_some

set_option maxRecDepth 100000 in
theorem find_is {T M n : Nat} {g : Lit → Option Value} {w : World} (c1 : w.cell? ⟨T, 325, none⟩ = some (.map (some M))) (hm : MapE M n g w) {p q : Int} {v : Nat} {kl : Lit} (hk : keyOf Tryd.prog 83 (endV p v q) = some kl) (hkl : WideAt.IsKeyLit kl) (x : Int) (ok : Bool) (hg : (g kl).getD (.int .i64 0) = .int .i64 x ∧ (g kl).isSome = ok) :
    Calls Tryd.prog 19 #[.pointer (some ⟨T, 0, none⟩), .int .i64 p, .int .u32 (v : Int), .int .i64 q] w fun e w' => e = .returned (.tuple #[.int .i64 x, .bool ok]) ∧ Below w.heap.size w w' := by
  have q1 := hm.look_ok Tryd.underlying78 (zero3 w) hk hkl
  rw [hg.1, hg.2] at q1
  unfold endV at q1
  have l1 := World.block_lt_of_cell? _ _ c1
  clear hm hk hg
  go_enter Tryd.func19, Tryd.ntmps19
  go_wp2_with fail
  go_ret2
  exact ⟨rfl, Below.refl _ _⟩
/-- What a body that never panics must achieve, marks and all. -/
def endsP (fn : Func) (R : Ending → World → Prop) : Exit → Act → World → Prop
  | .normal, a, w | .ret, a, w => LeavesInM Fence.wide 9 Tryd.prog fn a.tmps R a.defers .returning w
  | _, _, _ => False
theorem calls_of_endsP {f : FuncId} {fn : Func} {c : Code} {args : Array Value} {w : World} {R : Ending → World → Prop} (hf : Tryd.prog.funcs[f]? = some fn) (hb : fn.body = some c)
    (h : c.wp Tryd.prog (endsP fn R) { tmps := args ++ Array.replicate (fn.ntmps - args.size) undef, defers := [] } w) : Calls Tryd.prog f args w R :=
  (callsIn_wide (n := 9)).1 (callsIn_of_wp_marks hf hb trivial (wpIn_wide.2 (wp_mono h (fun e a w hq => by cases e <;> first | exact hq | exact hq.elim))) rfl)
theorem wpIn_genP {F : Fence} {n : Nat} {P : Program} {c : Code} {Q : Exit → Act → World → Prop} {a : Act} (w : World) (h : ∀ W, W = w → c.wpIn F n P Q a W) : c.wpIn F n P Q a w := h w rfl
theorem wpIn_genA {F : Fence} {n : Nat} {P : Program} {c : Code} {Q : Exit → Act → World → Prop} {w : World} (a : Act) (h : ∀ A, A = a → c.wpIn F n P Q A w) : c.wpIn F n P Q a w := h a rfl
abbrev Num := { x : Nat // 1 ≤ x ∧ x ≤ 64 }
def valsN (l : List Num) : List Nat := l.map (·.val)
theorem free_stops (F : Fence) (n : Nat) (h52 : F.fn 52) (h22 : F.fn 22) (hro : F.round = none) (hn : 2 ≤ n) (Bx T M : Nat) (f : Nat → Svc) (hf : ∀ k, 1 ≤ k → k ≤ 64 → (f k).proto = 0) (w : World)
    (hBx : w.heap[Bx]? = some (.cells #[.pointer (some ⟨T, 0, none⟩)] 36 (0, 0))) (hP : TabM T M f w) :
    SeqStopsK F n Tryd.prog 52 #[.pointer (some ⟨Bx, 0, none⟩)] (fun x : Num => #[Value.int .i64 (x.val : Int)]) (KeepT T Bx) (fun ys => valsN ys = freeTo f 65) (fun pre => valsN pre <+: freeTo f 65) (freeTo f 65).length w := by
  intro l J Jx W hW hJ _ hY h0
  have hap : ∀ (a : List Num) (x : Num), valsN (a ++ [x]) = valsN a ++ [x.val] := fun a x => by simp [valsN]
  have hlen : ∀ a : List Num, a.length = (valsN a).length := fun a => by simp [valsN]
  have hres := free1_in F n h52 h22 hro hn l Bx T M f hf (fun p W => ∃ q, valsN q = p ∧ J q W) (fun p W => ∃ q, valsN q = p ∧ Jx q W) W
    (fun s A B row hs hg hr => by obtain ⟨q, h1, h2⟩ := hs; exact ⟨q, h1, hJ q A B row h2 hg hr⟩)
    (fun pre x W2 h1 h2 hp hl => by
      obtain ⟨q, rfl, hq⟩ := hp
      obtain ⟨fn, tmps, assign, body, hy, hR⟩ := hY q ⟨x, h1, h2⟩ W2 hq (by rw [hlen]; exact hl)
      refine ⟨fn, tmps, assign, body, hy, hR.mono ?_⟩
      rintro e W' (⟨he, h3, h4⟩ | ⟨he, h3⟩)
      · exact .inl ⟨he, ⟨_, hap q ⟨x, h1, h2⟩, h3⟩, h4⟩
      · exact .inr ⟨he, ⟨_, hap q ⟨x, h1, h2⟩, h3⟩⟩)
    (box_go hBx hW) (hP.below hW) ⟨[], rfl, h0⟩
  refine hres.mono ?_
  rintro e W' ⟨hv, h | h⟩
  · obtain ⟨ys, h1, q, h2, h3⟩ := h
    exact ⟨hv, .inl ⟨q, h2.trans h1, h3⟩⟩
  · obtain ⟨pre, h1, q, h2, h3⟩ := h
    exact ⟨hv, .inr ⟨q, by show valsN q <+: _; rw [h2]; exact h1, h3⟩⟩
theorem freeTo_one {f : Nat → Svc} (hf : ∀ k, 1 ≤ k → k ≤ 64 → (f k).proto = 0) {x : Nat} (h : [x] <+: freeTo f 65) : x = 1 := by
  have h1 : freeTo f 2 = [1] := by
    have := freeTo_yes f 1 (by omega) (hf 1 (by omega) (by omega))
    rw [this]
    simp [freeTo]
  have h2 := freeTo_le f (show 2 ≤ 65 by omega)
  rw [h1] at h2
  have h3 := List.prefix_of_prefix_length_le h h2 (by simp)
  have h4 := h3.eq_of_length (by simp)
  simpa using h4
theorem wp_genP {P : Program} {c : Code} {Q : Exit → Act → World → Prop} {a : Act} (w : World) (h : ∀ W, W = w → c.wp P Q a W) : c.wp P Q a w := h w rfl
/-- The boxes of Add. -/
structure Boxes (w : World) (T : Nat) (s : Svc) (W : World) : Prop where
  below : Below w.heap.size w W
  b0 : W.heap[w.heap.size]? = some (.cells #[.pointer (some ⟨T, 0, none⟩)] 36 (0, 0))
  b1 : W.heap[w.heap.size + 1]? = some (.cells #[.int .i64 s.proto, .int .u32 (s.vip : Int), .int .i64 s.port, .bool s.dsr, .int .u32 (s.nat : Int)] 24 (0, 0))
  b2 : W.heap[w.heap.size + 1 + 1]? = some (.cells #[.int .i64 0] 3 (0, 0))
  b3 : W.heap[w.heap.size + 1 + 1 + 1]? = some (.cells #[.int .i64 0] 38 (0, 0))
  b4 : W.heap[w.heap.size + 1 + 1 + 1 + 1]? = some (.cells #[.int .i64 s.proto, .int .u32 (s.vip : Int), .int .i64 s.port] 83 (0, 0))
theorem Boxes.go {w W W' : World} {T : Nat} {s : Svc} (h : Boxes w T s W) (hb : Below W.heap.size W W') : Boxes w T s W' :=
  ⟨below_step h.below hb, box_go h.b0 hb, box_go h.b1 hb, box_go h.b2 hb, box_go h.b3 hb, box_go h.b4 hb⟩
theorem Boxes.made (w : World) (T : Nat) (s : Svc) : Boxes w T s (((((w.alloc (.cells #[.pointer (some ⟨T, 0, none⟩)] 36)).alloc (.cells #[.int .i64 s.proto, .int .u32 (s.vip : Int), .int .i64 s.port, .bool s.dsr, .int .u32 (s.nat : Int)] 24)).alloc (.cells #[.int .i64 0] 3)).alloc (.cells #[.int .i64 0] 38)).alloc (.cells #[.int .i64 s.proto, .int .u32 (s.vip : Int), .int .i64 s.port] 83)) := by
  have al : ∀ (W : World) (o : Obj) {b : Nat} {x : Obj}, W.heap[b]? = some x → (W.alloc o).heap[b]? = some x := fun W o b x h => (Below.heap_alloc _ _ _ (Array.getElem?_eq_some_iff.1 h).1).trans h
  have k0 := World.alloc_heap_new w (.cells #[.pointer (some ⟨T, 0, none⟩)] 36)
  have k1 := World.alloc_heap_new (w.alloc (.cells #[.pointer (some ⟨T, 0, none⟩)] 36)) (.cells #[.int .i64 s.proto, .int .u32 (s.vip : Int), .int .i64 s.port, .bool s.dsr, .int .u32 (s.nat : Int)] 24)
  have k2 := World.alloc_heap_new ((w.alloc (.cells #[.pointer (some ⟨T, 0, none⟩)] 36)).alloc (.cells #[.int .i64 s.proto, .int .u32 (s.vip : Int), .int .i64 s.port, .bool s.dsr, .int .u32 (s.nat : Int)] 24)) (.cells #[.int .i64 0] 3)
  have k3 := World.alloc_heap_new (((w.alloc (.cells #[.pointer (some ⟨T, 0, none⟩)] 36)).alloc (.cells #[.int .i64 s.proto, .int .u32 (s.vip : Int), .int .i64 s.port, .bool s.dsr, .int .u32 (s.nat : Int)] 24)).alloc (.cells #[.int .i64 0] 3)) (.cells #[.int .i64 0] 38)
  have k4 := World.alloc_heap_new ((((w.alloc (.cells #[.pointer (some ⟨T, 0, none⟩)] 36)).alloc (.cells #[.int .i64 s.proto, .int .u32 (s.vip : Int), .int .i64 s.port, .bool s.dsr, .int .u32 (s.nat : Int)] 24)).alloc (.cells #[.int .i64 0] 3)).alloc (.cells #[.int .i64 0] 38)) (.cells #[.int .i64 s.proto, .int .u32 (s.vip : Int), .int .i64 s.port] 83)
  simp only [World.size_alloc] at k1 k2 k3 k4
  exact ⟨((((((Below.refl _ w).alloc (Nat.le_refl _) _).alloc (by simp) _).alloc (by simp; omega) _).alloc (by simp; omega) _).alloc (by simp; omega) _), al _ _ (al _ _ (al _ _ (al _ _ k0))), al _ _ (al _ _ (al _ _ k1)), al _ _ (al _ _ k2), al _ _ k3, k4⟩
theorem cell1 {w : World} {b : Nat} {u0 : Value} {t : TypeId} (h : w.heap[b]? = some (.cells #[u0] t (0, 0))) : w.cell? ⟨b, 0, none⟩ = some u0 ∧ w.frozen? ⟨b, 0, none⟩ = false := by
  refine ⟨?_, ?_⟩ <;> simp [World.cell?, World.frozen?, h]
theorem cells3 {w : World} {b : Nat} {u0 u1 u2 : Value} {t : TypeId} (h : w.heap[b]? = some (.cells #[u0, u1, u2] t (0, 0))) : w.cell? ⟨b, 0, none⟩ = some u0 ∧ w.cell? ⟨b, 1, none⟩ = some u1 ∧ w.cell? ⟨b, 2, none⟩ = some u2 := by
  refine ⟨?_, ?_, ?_⟩ <;> simp [World.cell?, h]
theorem set_one (W : World) (p : Addr) (v : Value) : (W.setCell p v).heap.size = W.heap.size ∧ (W.setCell p v).os = W.os ∧ (W.setCell p v).tape = W.tape ∧ (W.setCell p v).output = W.output := ⟨by simp [World.setCell], rfl, rfl, rfl⟩
theorem set_five (W : World) (T k : Nat) (a b c d e : Value) : (∀ i, i ≠ T → (((((W.setCell ⟨T, k, none⟩ a).setCell ⟨T, k + 1, none⟩ b).setCell ⟨T, k + 2, none⟩ c).setCell ⟨T, k + 3, none⟩ d).setCell ⟨T, k + 4, none⟩ e).heap[i]? = W.heap[i]?) ∧
    (((((W.setCell ⟨T, k, none⟩ a).setCell ⟨T, k + 1, none⟩ b).setCell ⟨T, k + 2, none⟩ c).setCell ⟨T, k + 3, none⟩ d).setCell ⟨T, k + 4, none⟩ e).heap.size = W.heap.size ∧
    (((((W.setCell ⟨T, k, none⟩ a).setCell ⟨T, k + 1, none⟩ b).setCell ⟨T, k + 2, none⟩ c).setCell ⟨T, k + 3, none⟩ d).setCell ⟨T, k + 4, none⟩ e).os = W.os ∧
    (((((W.setCell ⟨T, k, none⟩ a).setCell ⟨T, k + 1, none⟩ b).setCell ⟨T, k + 2, none⟩ c).setCell ⟨T, k + 3, none⟩ d).setCell ⟨T, k + 4, none⟩ e).tape = W.tape ∧
    (((((W.setCell ⟨T, k, none⟩ a).setCell ⟨T, k + 1, none⟩ b).setCell ⟨T, k + 2, none⟩ c).setCell ⟨T, k + 3, none⟩ d).setCell ⟨T, k + 4, none⟩ e).output = W.output := by
  refine ⟨fun i hi => ?_, ?_, ?_, ?_, ?_⟩
  · rw [Below.heap_setCell _ _ _ _ hi, Below.heap_setCell _ _ _ _ hi, Below.heap_setCell _ _ _ _ hi, Below.heap_setCell _ _ _ _ hi, Below.heap_setCell _ _ _ _ hi]
  · rw [(set_one _ _ _).1, (set_one _ _ _).1, (set_one _ _ _).1, (set_one _ _ _).1, (set_one _ _ _).1]
  · rw [(set_one _ _ _).2.1, (set_one _ _ _).2.1, (set_one _ _ _).2.1, (set_one _ _ _).2.1, (set_one _ _ _).2.1]
  · rw [(set_one _ _ _).2.2.1, (set_one _ _ _).2.2.1, (set_one _ _ _).2.2.1, (set_one _ _ _).2.2.1, (set_one _ _ _).2.2.1]
  · rw [(set_one _ _ _).2.2.2, (set_one _ _ _).2.2.2, (set_one _ _ _).2.2.2, (set_one _ _ _).2.2.2, (set_one _ _ _).2.2.2]
theorem five_keep (W : World) (T k : Nat) (a b c d e : Value) (i off : Nat) (h : i ≠ T ∨ (off ≠ k ∧ off ≠ k + 1 ∧ off ≠ k + 2 ∧ off ≠ k + 3 ∧ off ≠ k + 4)) : (((((W.setCell ⟨T, k, none⟩ a).setCell ⟨T, k + 1, none⟩ b).setCell ⟨T, k + 2, none⟩ c).setCell ⟨T, k + 3, none⟩ d).setCell ⟨T, k + 4, none⟩ e).cell? ⟨i, off, none⟩ = W.cell? ⟨i, off, none⟩ := by
  rw [World.cell?_setCell_other _ _ _ _ (by intro h; simp only [Addr.mk.injEq] at h; omega), World.cell?_setCell_other _ _ _ _ (by intro h; simp only [Addr.mk.injEq] at h; omega), World.cell?_setCell_other _ _ _ _ (by intro h; simp only [Addr.mk.injEq] at h; omega), World.cell?_setCell_other _ _ _ _ (by intro h; simp only [Addr.mk.injEq] at h; omega), World.cell?_setCell_other _ _ _ _ (by intro h; simp only [Addr.mk.injEq] at h; omega)]
/-- What the region reads. -/
def GoodA (w : World) (T M : Nat) (s : Svc) (W' : World) : Prop :=
  W'.cell? ⟨w.heap.size, 0, none⟩ = some (.pointer (some ⟨T, 0, none⟩)) ∧ W'.cell? ⟨T, 325, none⟩ = some (.map (some M)) ∧ (W'.cell? ⟨w.heap.size + 1 + 1 + 1 + 1, 0, none⟩ = some (.int .i64 s.proto) ∧ W'.cell? ⟨w.heap.size + 1 + 1 + 1 + 1, 1, none⟩ = some (.int .u32 (s.vip : Int)) ∧ W'.cell? ⟨w.heap.size + 1 + 1 + 1 + 1, 2, none⟩ = some (.int .i64 s.port)) ∧ (W'.cell? ⟨w.heap.size + 1, 0, none⟩ = some (.int .i64 s.proto) ∧ W'.cell? ⟨w.heap.size + 1, 1, none⟩ = some (.int .u32 (s.vip : Int)) ∧ W'.cell? ⟨w.heap.size + 1, 2, none⟩ = some (.int .i64 s.port) ∧ W'.cell? ⟨w.heap.size + 1, 3, none⟩ = some (.bool s.dsr) ∧ W'.cell? ⟨w.heap.size + 1, 4, none⟩ = some (.int .u32 (s.nat : Int)))
theorem GoodA.of {w : World} {T M : Nat} {s : Svc} {W W' : World} (h : GoodA w T M s W) (e : ∀ i off, (i = T ∧ off = 325) ∨ (w.heap.size ≤ i ∧ i ≤ w.heap.size + 4) → W'.cell? ⟨i, off, none⟩ = W.cell? ⟨i, off, none⟩) : GoodA w T M s W' := by
  obtain ⟨a, b, ⟨c1, c2, c3⟩, d1, d2, d3, d4, d5⟩ := h
  exact ⟨(e _ _ (.inr (by omega))).trans a, (e _ _ (.inl ⟨rfl, rfl⟩)).trans b, ⟨(e _ _ (.inr (by omega))).trans c1, (e _ _ (.inr (by omega))).trans c2, (e _ _ (.inr (by omega))).trans c3⟩, (e _ _ (.inr (by omega))).trans d1, (e _ _ (.inr (by omega))).trans d2, (e _ _ (.inr (by omega))).trans d3, (e _ _ (.inr (by omega))).trans d4, (e _ _ (.inr (by omega))).trans d5⟩
/-- The table's row is written, then the map of ends. -/
theorem body_facts {T M n x : Nat} {f : Nat → Svc} {g : Lit → Option Value} {w W : World} {s : Svc} (hX : Boxes w T s W) (hT : TabM T M f W) (hM : MapE M n g W) (hTM : T ≠ M) (hn : n < maxLen) (hTl : T < w.heap.size) (hMl : M < w.heap.size) {kl : Lit} (hk : keyOf Tryd.prog 83 (endV s.proto s.vip s.port) = some kl) (hkl : WideAt.IsKeyLit kl) {B : Nat} (hBT : B ≤ T) (hBM : B ≤ M) (_hBw : B ≤ w.heap.size) (W1 : World) (hx5 : x < 65) (hW1 : W1 = (((((W.setCell ⟨T, x * 5, none⟩ (.int .i64 s.proto)).setCell ⟨T, x * 5 + 1, none⟩ (.int .u32 (s.vip : Int))).setCell ⟨T, x * 5 + 2, none⟩ (.int .i64 s.port)).setCell ⟨T, x * 5 + 3, none⟩ (.bool s.dsr)).setCell ⟨T, x * 5 + 4, none⟩ (.int .u32 (s.nat : Int))).drew) :
    ∃ (v0 : Value) (st : Nat) (w2 w3 : World), (Instr.mapEntry 78 (.map (some M)) (.agg #[.int .i64 s.proto, .int .u32 (s.vip : Int), .int .i64 s.port])).run Tryd.prog W1 = .ok (.tuple #[v0, .int .i64 (st : Int)]) w2 ∧
      (Instr.entryStore 78 (.map (some M)) (.int .i64 (st : Int)) (.int .i64 (x : Int))).run Tryd.prog w2 = .ok () w3 ∧
      w3.heap[w.heap.size + 1 + 1]? = some (.cells #[.int .i64 0] 3 (0, 0)) ∧ w3.heap[w.heap.size + 1 + 1 + 1]? = some (.cells #[.int .i64 0] 38 (0, 0)) ∧ Below B w w3 ∧ (∀ b, w.heap.size ≤ b → ∀ o, W.heap[b]? = some o → w3.heap[b]? = some o) ∧ W.heap.size ≤ w3.heap.size ∧ GoodA w T M s W1 ∧ GoodA w T M s w2 ∧ (∃ g', MapE M (n + 1) g' w3 ∧ g' kl = some (.int .i64 (x : Int))) ∧ w3.cell? ⟨T, 325, none⟩ = some (.map (some M)) := by
  have h5 := set_five W T (x * 5) (.int .i64 s.proto) (.int .u32 (s.vip : Int)) (.int .i64 s.port) (.bool s.dsr) (.int .u32 (s.nat : Int))
  have h6 := five_keep W T (x * 5) (.int .i64 s.proto) (.int .u32 (s.vip : Int)) (.int .i64 s.port) (.bool s.dsr) (.int .u32 (s.nat : Int))
  generalize (((((W.setCell ⟨T, x * 5, none⟩ (.int .i64 s.proto)).setCell ⟨T, x * 5 + 1, none⟩ (.int .u32 (s.vip : Int))).setCell ⟨T, x * 5 + 2, none⟩ (.int .i64 s.port)).setCell ⟨T, x * 5 + 3, none⟩ (.bool s.dsr)).setCell ⟨T, x * 5 + 4, none⟩ (.int .u32 (s.nat : Int))) = V at h5 h6 hW1
  obtain ⟨hk0, hs0, ho0, ht0, hu0⟩ := h5
  have hk1 : ∀ b, b ≠ T → W1.heap[b]? = W.heap[b]? := fun b hb => by rw [hW1]; exact hk0 b hb
  have hs1 : W1.heap.size = W.heap.size := by rw [hW1]; exact hs0
  have ho1 : W1.os = W.os ∧ W1.tape = W.tape ∧ W1.output = W.output := by rw [hW1]; exact ⟨ho0, ht0, hu0⟩
  have hM1 : MapE M n g W1 := hM.block (hk1 M hTM.symm)
  obtain ⟨v0, st, w2, r1, g1, fill⟩ := hM1.entry Tryd.underlying78 zero3 hn hk hkl
  obtain ⟨w3, r2, hM3, g2⟩ := fill w2 (.int .i64 (x : Int)) rfl
  have hk3 : ∀ b, b ≠ T → b ≠ M → ∀ o, W.heap[b]? = some o → w3.heap[b]? = some o := fun b h1 h2 o ho => by
    have hbl := (Array.getElem?_eq_some_iff.1 ho).1
    have e1 := g1.block b (by omega) (by simp; exact h2)
    have e2 := g2.block b (by have := g1.size; omega) (by simp; exact h2)
    exact (e2.trans (e1.trans (hk1 b h1))).trans ho
  have hG0 : GoodA w T M s W := ⟨(cell1 hX.b0).1, hT.ids, cells3 hX.b4, (cells5 hX.b1).1⟩
  have hG1 : GoodA w T M s W1 := hG0.of (fun i off h => by
    rw [hW1]
    exact h6 i off (by omega))
  have hG2 : GoodA w T M s w2 := hG1.of (fun i off h => World.cell?_of_block (w := W1) (a := ⟨i, off, none⟩) (g1.block i (by have := hX.below.size; have := (Array.getElem?_eq_some_iff.1 hX.b4).1; omega) (by simp; omega)))
  refine ⟨v0, st, w2, w3, r1, r2, hk3 _ (by omega) (by omega) _ hX.b2, hk3 _ (by omega) (by omega) _ hX.b3, ⟨g2.os.trans (g1.os.trans (ho1.1.trans hX.below.os)), g2.tape.trans (g1.tape.trans (ho1.2.1.trans hX.below.tape)), g2.output.trans (g1.output.trans (ho1.2.2.trans hX.below.output)), by have := g1.size; have := g2.size; have := hX.below.size; omega, fun b hb => ?_⟩, fun b _ o ho => hk3 b (by omega) (by omega) o ho, by have := g1.size; have := g2.size; omega, hG1, hG2, ⟨_, hM3, by simp⟩, (World.cell?_of_block (w := w2) (a := ⟨T, 325, none⟩) (g2.block T (by have := g1.size; have := hX.below.size; omega) (by simp; exact hTM))).trans hG2.2.1⟩
  have e1 := g1.block b (by have := hX.below.size; omega) (by simp; omega)
  have e2 := g2.block b (by have := g1.size; have := hX.below.size; omega) (by simp; omega)
  exact e2.trans (e1.trans ((hk1 b (by omega)).trans (hX.below.block b (by omega))))
set_option maxRecDepth 100000 in
set_option maxHeartbeats 4000000 in
theorem add_first {T M n : Nat} {f : Nat → Svc} {g : Lit → Option Value} {w : World} (h : TabM T M f w) (hm : MapE M n g w) (hTM : T ≠ M) (hn : n < maxLen) (s : Svc) (hr : rightB s = true) (hf : ∀ k, 1 ≤ k → k ≤ 64 → (f k).proto = 0) {kl : Lit} (hk : keyOf Tryd.prog 83 (endV s.proto s.vip s.port) = some kl) (hkl : WideAt.IsKeyLit kl) (hg : g kl = none) {B : Nat} (hBT : B ≤ T) (hBM : B ≤ M) :
    Calls Tryd.prog 18 #[.pointer (some ⟨T, 0, none⟩), s.val] w fun e w' => e = .returned (.tuple #[.int .i64 1, .int .i64 0]) ∧ Below B w w' ∧ (∃ g', MapE M (n + 1) g' w' ∧ g' kl = some (.int .i64 1)) ∧ w'.cell? ⟨T, 325, none⟩ = some (.map (some M)) := by
  have HR := Lib.hid (right_calls s)
  rw [hr] at HR
  have HH := Lib.hid h
  have HM := Lib.hid hm
  have HB := Lib.hid (Below.refl w.heap.size w)
  unfold Svc.val at *
  clear h hm hr
  refine calls_of_endsP Tryd.func18 rfl ?_
  simp only [Tryd.ntmps18, List.size_toArray, List.length_cons, List.length_nil, Nat.reduceAdd, Nat.reduceSub, Array.replicate_succ, Array.replicate_zero, List.push_toArray, List.append_toArray, List.nil_append, List.cons_append]
  go_wp2_with fail
  refine wp_genP _ ?_
  intro W5 hW5
  have HX : Boxes w T s W5 := by rw [hW5]; exact Boxes.made w T s
  have hq : ∀ j, (Instr.lookup 78 (.map (some M)) (.agg #[.int .i64 s.proto, .int .u32 (s.vip : Int), .int .i64 s.port]) true).run Tryd.prog (W5.drewN j) = .ok (.tuple #[.int .i64 0, .bool false]) (W5.drewN j) := fun j => by
    have hE := (HM.out.block (w' := W5.drewN j) (HX.below.block M HM.out.lt)).look_ok Tryd.underlying78 (zero3 _) hk hkl
    rw [hg] at hE
    exact hE
  have hT5 := HH.out.below HX.below
  have c1 := hT5.ids
  obtain ⟨x0, _⟩ := cell1 HX.b0
  obtain ⟨y0, y1, y2⟩ := cells3 HX.b4
  obtain ⟨⟨z0, z1, z2, z3, z4⟩, _⟩ := cells5 HX.b1
  have HBX := Lib.hid HX
  clear hW5 HX hT5
  go_quiet (fail)
  clear hq c1 x0 y0 y1 y2
  go_wp2_with (first
    | (go_at_call 15; refine (HR.out _).mono ?_; rintro e W6 ⟨rfl, hB⟩; replace HBX := Lib.hid ((HBX.out.go (below_drewN _ _)).go hB); obtain ⟨x0, _⟩ := cell1 HBX.out.b0; clear hB)
    | (go_at_call 39; refine callsIn_wide.1 ((free_in Fence.wide 8 trivial rfl T _).mono ?_); rintro e w' ⟨rfl, rfl⟩))
  refine (wpIn_wide (n := 9)).1 ?_
  refine wpIn_genP _ ?_
  intro W7 hW7
  have HX7 : Boxes w T s W7 := by rw [hW7]; exact HBX.out.go ((Below.refl _ _).alloc (Nat.le_refl _) _)
  have hB7 : W7.heap[W6.heap.size]? = some (.cells #[.pointer (some ⟨T, 0, none⟩)] 36 (0, 0)) := by rw [hW7]; exact World.alloc_heap_new W6 _
  have hs7 : W7.heap.size = W6.heap.size + 1 := by rw [hW7]; simp
  clear hW7 x0
  refine wpIn_genA _ ?_
  intro A hA
  have hMl := HM.out.lt
  have hTl := HH.out.low
  have h62 : w.heap.size + 5 ≤ W6.heap.size := by have := (Array.getElem?_eq_some_iff.1 HBX.out.b4).1; omega
  have hst := free_stops Fence.wide 8 trivial trivial rfl (by omega) W6.heap.size T M f hf W7 hB7 (HH.out.below HX7.below)
  have hT7 := HH.out.below HX7.below
  have hM7 := HM.out.block (w' := W7) (HX7.below.block M hMl)
  refine wpIn_rangeFunc_ownG (α := Num) rfl (by omega) (gf := 52) (lb := #[.pointer (some ⟨W6.heap.size, 0, none⟩)]) (by rw [hA]; rfl) trivial (enters_of Tryd.func52 (by kernel_rfl) rfl) hst
    (fun h h' => ⟨⟨h'.1.1.trans h.1.1, h'.1.2.trans h.1.2⟩, Nat.le_trans h.2 h'.2⟩) (fun W l o o' hl hlo _ _ => ?keep) (Below.refl _ _) (fun _ => rfl)
    (fun pre W => (pre = [] ∧ Boxes w T s W ∧ TabM T M f W ∧ MapE M n g W))
    (fun cd pre W => (cd = Code.ret ∧ ∃ x : Num, pre = [x] ∧ W.heap[w.heap.size + 1 + 1]? = some (.cells #[.int .i64 (x.val : Int)] 3 (0, 0)) ∧ W.heap[w.heap.size + 1 + 1 + 1]? = some (.cells #[.int .i64 0] 38 (0, 0)) ∧ Below B w W ∧ (∃ g', MapE M (n + 1) g' W ∧ g' kl = some (.int .i64 (x.val : Int))) ∧ W.cell? ⟨T, 325, none⟩ = some (.map (some M))))
    ?own (fun _ => ?ownx) ⟨rfl, HX7, hT7, hM7⟩
    (fun x => { tmps := (A.tmps.setIfInBounds 34 (.int .i64 (x.val : Int))).setIfInBounds 9 (.int .i64 (x.val : Int)), defers := [] }) ?assign ?body ?done ?stop
  case keep =>
    have hne : ∀ b, b < W7.heap.size → (W.putObj l o').heap[b]? = W.heap[b]? := fun b hb => by
      by_cases hbW : b < W.heap.size
      · exact (grownBy_putObj' W l o').block _ hbW (fun e => by cases e; omega)
      · have := (Array.getElem?_eq_some_iff.1 hlo).1; omega
    exact ⟨⟨hne T (by omega), hne _ (by omega)⟩, (grownBy_putObj' W l o').size⟩
  case own =>
    rintro pre A1 B1 row ⟨h1, h2, h3, h4⟩ hg hr
    have hb : ∀ b, b < W7.heap.size → b < A1.heap.size → B1.heap[b]? = A1.heap[b]? := fun b hb hbA => hg.block b hbA (fun e => by have := (hr _ e.symm).1; omega)
    have q := fun {b : Nat} {o : Obj} (hb7 : b < W7.heap.size) (h : A1.heap[b]? = some o) => (hb b hb7 (Array.getElem?_eq_some_iff.1 h).1).trans h
    exact ⟨h1, ⟨⟨hg.os.trans h2.below.os, hg.tape.trans h2.below.tape, hg.output.trans h2.below.output, Nat.le_trans h2.below.size hg.size, fun b hbb => (hb b (by omega) (Nat.lt_of_lt_of_le hbb h2.below.size)).trans (h2.below.block b hbb)⟩, q (by omega) h2.b0, q (by omega) h2.b1, q (by omega) h2.b2, q (by omega) h2.b3, q (by omega) h2.b4⟩, h3.block (hb T (by omega) h3.low) hg.size, h4.block (hb M (by omega) h4.lt)⟩
  case ownx =>
    rintro pre A1 B1 row ⟨h1, x, h2, h3, h4, h5, ⟨g', h6, h7⟩, h8⟩ hg hr
    have hb : ∀ b, b < W7.heap.size → b < A1.heap.size → B1.heap[b]? = A1.heap[b]? := fun b hb hbA => hg.block b hbA (fun e => by have := (hr _ e.symm).1; omega)
    have q := fun {b : Nat} {o : Obj} (hb7 : b < W7.heap.size) (h : A1.heap[b]? = some o) => (hb b hb7 (Array.getElem?_eq_some_iff.1 h).1).trans h
    exact ⟨h1, x, h2, q (by omega) h3, q (by omega) h4, ⟨hg.os.trans h5.os, hg.tape.trans h5.tape, hg.output.trans h5.output, Nat.le_trans h5.size hg.size, fun b hbb => (hb b (by omega) (by have := h5.size; omega)).trans (h5.block b hbb)⟩, ⟨g', h6.block (hb M (by omega) h6.lt), h7⟩, (World.cell?_of_block (w := A1) (a := ⟨T, 325, none⟩) (hb T (by omega) (World.block_lt_of_cell? _ _ h8))).trans h8⟩
  case assign =>
    intro l x W K hK
    subst hA
    simp only [List.setIfInBounds_toArray, List.set_cons_zero, List.set_cons_succ] at hK
    gi_wp2
    exact hK
  case done =>
    rintro D ys W hD hys ⟨rfl, _⟩ hKD
    have h2 := freeTo_le f (show 2 ≤ 65 by omega)
    have h3 := freeTo_yes f 1 (by omega) (hf 1 (by omega) (by omega))
    rw [← hys, h3] at h2
    simp [valsN] at h2
  case stop =>
    rintro D cd pre W hD hsp ⟨rfl, x, rfl, h3, h4, h5, ⟨g', h6, h7⟩, h8⟩ hKD
    have hx1 : x.val = 1 := freeTo_one hf hsp
    rw [hx1] at h3 h7
    have H678 := Lib.hid (And.intro h6 (And.intro h7 h8))
    clear h6 h7 h8
    obtain ⟨q2, _⟩ := cell1 h3
    obtain ⟨q3, _⟩ := cell1 h4
    have HKD := Lib.hid hKD
    have H5 := Lib.hid h5
    have hDl : w.heap.size + 5 ≤ D := by omega
    subst hA
    gi_wp2
    have d2 := cell_kept q2 (grownBy_putObj' _ D (.deferred none)) (fun r e => by cases e; exact ⟨_, HKD.out, rfl⟩)
    have d3 := cell_kept q3 (grownBy_putObj' _ D (.deferred none)) (fun r e => by cases e; exact ⟨_, HKD.out, rfl⟩)
    refine ⟨by simp, .inl ⟨_, _, rfl, run_takeDeferred HKD.out, ?_⟩⟩
    exact ⟨.tuple #[.int .i64 1, .int .i64 0], by simp [results, Tryd.f18, go_sem, d2, d3], rfl, H5.out.trans (belowK_b (w := w) (by have := HH.out.low; omega) _ D _ _ (by omega) HKD.out rfl rfl), ⟨g', H678.out.1.block ((grownBy_putObj' _ D (.deferred none)).block M H678.out.1.lt (fun e => by cases e; omega)), H678.out.2.1⟩, cell_kept H678.out.2.2 (grownBy_putObj' _ D (.deferred none)) (fun r e => by cases e; exact ⟨_, HKD.out, rfl⟩)⟩
  case body =>
    rintro l pre ⟨x, hx1, hx2⟩ W ⟨rfl, hX, hT, hM⟩ hlen
    subst hA
    simp only [List.setIfInBounds_toArray, List.set_cons_zero, List.set_cons_succ]
    have x1 : (1 : Int) ≤ (x : Int) := by omega
    have x2 : (x : Int) < 65 := by omega
    have x3 : (0 : Int) ≤ (x : Int) := by omega
    obtain ⟨a0, _⟩ := cell1 hX.b0
    obtain ⟨y0, y1, y2⟩ := cells3 hX.b4
    obtain ⟨⟨z0, z1, z2, z3, z4⟩, _⟩ := cells5 hX.b1
    have c1 := hT.ids
    obtain ⟨r0, r1, r2, r3, r4⟩ := hT.at_ x (by omega)
    have f0 := hT.fz (x * 5)
    have f1 := hT.fz (x * 5 + 1)
    have f2 := hT.fz (x * 5 + 2)
    have f3 := hT.fz (x * 5 + 3)
    have f4 := hT.fz (x * 5 + 4)
    obtain ⟨v0, st, w2, w3, e1, e2, k2, k3, kB, kk, ks, kg1, kg2, km, kc⟩ := body_facts (x := x) hX hT hM hTM hn hTl hMl hk hkl hBT hBM (by omega) _ (by omega) rfl
    obtain ⟨m0, m1⟩ := cell1 k2
    obtain ⟨m2, m3⟩ := cell1 k3
    have KK := Lib.hid (And.intro kB (And.intro kk ks))
    have K2 := Lib.hid (And.intro k2 k3)
    have KG := Lib.hid (And.intro kg1 kg2)
    have KM := Lib.hid (And.intro km kc)
    clear kg1 kg2 km kc
    have nT0 : ¬ T = w.heap.size := by omega
    have nT1 : ¬ T = w.heap.size + 1 := by omega
    have nT4 : ¬ T = w.heap.size + 1 + 1 + 1 + 1 := by omega
    have o5 : ¬ (325 : Nat) = x * 5 + 4 := by omega
    have o4 : ¬ (325 : Nat) = x * 5 + 3 := by omega
    have o3 : ¬ (325 : Nat) = x * 5 + 2 := by omega
    have o2 : ¬ (325 : Nat) = x * 5 + 1 := by omega
    have o1 : ¬ (325 : Nat) = x * 5 := by omega
    have HOLD := Lib.hid (And.intro hX (And.intro hT hM))
    have H67 := Lib.hid (And.intro hs7 h62)
    clear k2 k3 kB kk ks hX hT hM hst hT7 hM7 hs7 h62 hTl hMl hlen HX7 hB7
    gi_wp2
    refine H.wpIn_G (Good := fun W' => W'.cell? ⟨w.heap.size, 0, none⟩ = some (.pointer (some ⟨T, 0, none⟩)) ∧ W'.cell? ⟨T, 325, none⟩ = some (.map (some M)) ∧ (W'.cell? ⟨w.heap.size + 1 + 1 + 1 + 1, 0, none⟩ = some (.int .i64 s.proto) ∧ W'.cell? ⟨w.heap.size + 1 + 1 + 1 + 1, 1, none⟩ = some (.int .u32 (s.vip : Int)) ∧ W'.cell? ⟨w.heap.size + 1 + 1 + 1 + 1, 2, none⟩ = some (.int .i64 s.port)) ∧ (W'.cell? ⟨w.heap.size + 1, 0, none⟩ = some (.int .i64 s.proto) ∧ W'.cell? ⟨w.heap.size + 1, 1, none⟩ = some (.int .u32 (s.vip : Int)) ∧ W'.cell? ⟨w.heap.size + 1, 2, none⟩ = some (.int .i64 s.port) ∧ W'.cell? ⟨w.heap.size + 1, 3, none⟩ = some (.bool s.dsr) ∧ W'.cell? ⟨w.heap.size + 1, 4, none⟩ = some (.int .u32 (s.nat : Int)))) 15 3 [0, 1, 2, 3, 4, 5, 6, 7, 8, 9, 10, 11] (by kernel_rfl) (by kernel_rfl) (by kernel_rfl) (by kernel_rfl) (by kernel_rfl) (by kernel_rfl) rfl (fun _ _ _ _ _ h => h) (by kernel_rfl) ⟨a0, c1, ⟨y0, y1, y2⟩, z0, z1, z2, z3, z4⟩ ?_
    (refine H.stepsG_cons (v := ?_) rfl rfl rfl (fun wg hw => ?_) ?_; rotate_left; (obtain ⟨q1, q2, ⟨q3, q4, q5⟩, q6, q7, q8, q9, q10⟩ := hw; go_simp; try with_reducible rfl); go_simp)
    (refine H.stepsG_cons (v := ?_) rfl rfl rfl (fun wg hw => ?_) ?_; rotate_left; (obtain ⟨q1, q2, ⟨q3, q4, q5⟩, q6, q7, q8, q9, q10⟩ := hw; go_simp; try with_reducible rfl); go_simp)
    (refine H.stepsG_cons (v := ?_) rfl rfl rfl (fun wg hw => ?_) ?_; rotate_left; (obtain ⟨q1, q2, ⟨q3, q4, q5⟩, q6, q7, q8, q9, q10⟩ := hw; go_simp; try with_reducible rfl); go_simp)
    (refine H.stepsG_cons (v := ?_) rfl rfl rfl (fun wg hw => ?_) ?_; rotate_left; (obtain ⟨q1, q2, ⟨q3, q4, q5⟩, q6, q7, q8, q9, q10⟩ := hw; go_simp; try with_reducible rfl); go_simp)
    (refine H.stepsG_cons (v := ?_) rfl rfl rfl (fun wg hw => ?_) ?_; rotate_left; (obtain ⟨q1, q2, ⟨q3, q4, q5⟩, q6, q7, q8, q9, q10⟩ := hw; go_simp; try with_reducible rfl); go_simp)
    (refine H.stepsG_cons (v := ?_) rfl rfl rfl (fun wg hw => ?_) ?_; rotate_left; (obtain ⟨q1, q2, ⟨q3, q4, q5⟩, q6, q7, q8, q9, q10⟩ := hw; go_simp; try with_reducible rfl); go_simp)
    (refine H.stepsG_cons (v := ?_) rfl rfl rfl (fun wg hw => ?_) ?_; rotate_left; (obtain ⟨q1, q2, ⟨q3, q4, q5⟩, q6, q7, q8, q9, q10⟩ := hw; go_simp; try with_reducible rfl); go_simp)
    (refine H.stepsG_cons (v := ?_) rfl rfl rfl (fun wg hw => ?_) ?_; rotate_left; (obtain ⟨q1, q2, ⟨q3, q4, q5⟩, q6, q7, q8, q9, q10⟩ := hw; go_simp; try with_reducible rfl); go_simp)
    (refine H.stepsG_cons (v := ?_) rfl rfl rfl (fun wg hw => ?_) ?_; rotate_left; (obtain ⟨q1, q2, ⟨q3, q4, q5⟩, q6, q7, q8, q9, q10⟩ := hw; go_simp; try with_reducible rfl); go_simp)
    (refine H.stepsG_cons (v := ?_) rfl rfl rfl (fun wg hw => ?_) ?_; rotate_left; (obtain ⟨q1, q2, ⟨q3, q4, q5⟩, q6, q7, q8, q9, q10⟩ := hw; go_simp; try with_reducible rfl); go_simp)
    (refine H.stepsG_cons (v := ?_) rfl rfl rfl (fun wg hw => ?_) ?_; rotate_left; (obtain ⟨q1, q2, ⟨q3, q4, q5⟩, q6, q7, q8, q9, q10⟩ := hw; go_simp; try with_reducible rfl); go_simp)
    (refine H.stepsG_cons (v := ?_) rfl rfl rfl (fun wg hw => ?_) ?_; rotate_left; (obtain ⟨q1, q2, ⟨q3, q4, q5⟩, q6, q7, q8, q9, q10⟩ := hw; go_simp; try with_reducible rfl); go_simp)
    refine H.wpG_one (k := 12) (by kernel_rfl) (by omega) rfl rfl (fun K hK => ?_)
    go_simp
    refine hK _ _ KG.out.1 ?_
    refine H.wpG_one (k := 13) (by kernel_rfl) (by omega) rfl rfl (fun K hK => ?_)
    go_simp
    refine hK _ _ KG.out.2 ?_
    refine H.wpG_one (k := 14) (by kernel_rfl) (by omega) rfl rfl (fun K hK => ?_)
    go_simp
    refine hK _ _ KG.out.2 ?_
    refine ⟨by kernel_rfl, ?_⟩
    gi_wp2
    obtain ⟨kB, kk, ks⟩ := KK.out
    obtain ⟨k2, k3⟩ := K2.out
    obtain ⟨hs7, h62⟩ := H67.out
    have u2 : ((w3.setCell ⟨w.heap.size + 1 + 1, 0, none⟩ (.int .i64 (x : Int))).setCell ⟨w.heap.size + 1 + 1 + 1, 0, none⟩ (.int .i64 0)).heap[w.heap.size + 1 + 1]? = some (.cells #[.int .i64 (x : Int)] 3 (0, 0)) := by
      rw [Below.heap_setCell _ _ _ _ (by simp)]
      simp [World.setCell, Array.getElem?_modify, k2]
    have u3 : ((w3.setCell ⟨w.heap.size + 1 + 1, 0, none⟩ (.int .i64 (x : Int))).setCell ⟨w.heap.size + 1 + 1 + 1, 0, none⟩ (.int .i64 0)).heap[w.heap.size + 1 + 1 + 1]? = some (.cells #[.int .i64 0] 38 (0, 0)) := by
      have k4 : (w3.setCell ⟨w.heap.size + 1 + 1, 0, none⟩ (.int .i64 (x : Int))).heap[w.heap.size + 1 + 1 + 1]? = some (.cells #[.int .i64 0] 38 (0, 0)) := (Below.heap_setCell _ _ _ _ (by simp)).trans k3
      simp [World.setCell, Array.getElem?_modify] at k4 ⊢
      simp [k4]
    have hTB := HH.out.low
    have hMB := HM.out.lt
    obtain ⟨⟨g', kg1, kg2⟩, kc⟩ := KM.out
    refine ⟨⟨by rw [(set_one _ _ _).1, (set_one _ _ _).1]; exact ks, fun k o hk ho _ => ?_⟩, rfl, x, ⟨⟨hx1, hx2⟩, rfl⟩, u2, u3, (kB.setCell (p := ⟨w.heap.size + 1 + 1, 0, none⟩) (by simp; omega) _).setCell (p := ⟨w.heap.size + 1 + 1 + 1, 0, none⟩) (by simp; omega) _, ⟨g', kg1.block (by rw [Below.heap_setCell _ _ _ _ (by simp; omega), Below.heap_setCell _ _ _ _ (by simp; omega)]), kg2⟩, ?_⟩
    rotate_left
    · rw [World.cell?_setCell_other _ _ _ _ (by intro h; simp only [Addr.mk.injEq] at h; omega), World.cell?_setCell_other _ _ _ _ (by intro h; simp only [Addr.mk.injEq] at h; omega)]
      exact kc
    rw [Below.heap_setCell _ _ _ _ (by simp; omega), Below.heap_setCell _ _ _ _ (by simp; omega)]
    exact kk k (by omega) o ho
end Go.Proofs.YtbahcpejippcjaaDoor
