import Derived.Test.YtlipkffnllmkgaaH9
import Derived.Deep.CutRange
import Derived.Deep.CutBlock
import Derived.Deep.RegionWith
import Derived.RangeFuncNested
namespace Go.Proofs.Ytlipkffnllmkgaa
open Go.RowKit Go.Shelf Go.Maps
attribute [local go_sem] Oper.semAt_some

/-- What a body that never panics must achieve, marks and all. -/
def endsP (fn : Func) (R : Ending → World → Prop) : Exit → Act → World → Prop
  | .normal, a, w | .ret, a, w => LeavesInM Fence.wide 9 Try.prog fn a.tmps R a.defers .returning w
  | _, _, _ => False
theorem calls_of_endsP {f : FuncId} {fn : Func} {c : Code} {args : Array Value} {w : World} {R : Ending → World → Prop} (hf : Try.prog.funcs[f]? = some fn) (hb : fn.body = some c)
    (h : c.wp Try.prog (endsP fn R) { tmps := args ++ Array.replicate (fn.ntmps - args.size) undef, defers := [] } w) : Calls Try.prog f args w R :=
  (callsIn_wide (n := 9)).1 (callsIn_of_wp_marks hf hb trivial (wpIn_wide.2 (wp_mono h (fun e a w hq => by cases e <;> first | exact hq | exact hq.elim))) rfl)

theorem wpIn_genP {F : Fence} {n : Nat} {P : Program} {c : Code} {Q : Exit → Act → World → Prop} {a : Act} (w : World) (h : ∀ W, W = w → c.wpIn F n P Q a W) : c.wpIn F n P Q a w := h w rfl
theorem add_leave {S Sa : Nat → Prop} {Xp X M O n : Nat} {p : Po} {w W w9 : World} {D : Nat} (hlow : ∀ i, S i → i < w.heap.size) (hBW : Below w.heap.size w W) (hP : PoolIn S Sa Xp X M O n p w9) (hO : Only S W w9) (hD : W.heap[D]? = some (.deferred (some []))) (hDs : w.heap.size ≤ D) (q : Nat) :
    (w9.setCell ⟨Xp, 5, none⟩ (.int .i64 (q : Int))).heap[D]? = some (.deferred (some [])) ∧ PoolIn S Sa Xp X M O n { p with act := q } ((w9.setCell ⟨Xp, 5, none⟩ (.int .i64 (q : Int))).putObj D (.deferred none)) ∧ Only S w ((w9.setCell ⟨Xp, 5, none⟩ (.int .i64 (q : Int))).putObj D (.deferred none)) := by
  obtain ⟨g1, g2⟩ := hP.setAct q
  have hno : ¬ S D := fun e => by have := hlow D e; omega
  have hDW := (Array.getElem?_eq_some_iff.1 hD).1
  have h9 : w9.heap[D]? = some (.deferred (some [])) := (hO.block D hDW hno).trans hD
  have hDX : (w9.setCell ⟨Xp, 5, none⟩ (.int .i64 (q : Int))).heap[D]? = some (.deferred (some [])) := (g2.block D (Array.getElem?_eq_some_iff.1 h9).1 hno).trans h9
  have hO2 : Only S w (w9.setCell ⟨Xp, 5, none⟩ (.int .i64 (q : Int))) := (Only.of_below hBW).trans (hO.trans g2 (fun i _ e => e)) (fun i _ e => e)
  have hb : Below w.heap.size (w9.setCell ⟨Xp, 5, none⟩ (.int .i64 (q : Int))) ((w9.setCell ⟨Xp, 5, none⟩ (.int .i64 (q : Int))).putObj D (.deferred none)) := belowK_b (w := w) (Nat.le_refl _) _ D _ _ hDs hDX rfl rfl
  refine ⟨hDX, g1.kept (fun i hi => hb.block i (hlow i hi)) hb.size, ⟨hb.os.trans hO2.os, hb.tape.trans hO2.tape, hb.output.trans hO2.output, Nat.le_trans hO2.size hb.size, fun i hi hn => (hb.block i hi).trans (hO2.block i hi hn)⟩⟩

/-- The boxes that stand on w when the first one is asked for. -/
theorem first_boxes {w W2 : World} {o1 o2 o3 o4 : Obj} (h : W2 = ((((w.alloc o1).alloc o2).alloc o3).alloc o4).drew.drew) : W2.heap.size = w.heap.size + 4 ∧ Below w.heap.size w W2 ∧ W2.heap[w.heap.size]? = some o1 ∧ W2.heap[w.heap.size + 1 + 1]? = some o3 ∧ W2.heap[w.heap.size + 1 + 1 + 1]? = some o4 := by
  subst h
  have k0 := World.alloc_heap_new w o1
  have k1 : ((w.alloc o1).alloc o2).heap[w.heap.size]? = some o1 := (Below.heap_alloc _ _ _ (by simp)).trans k0
  have k2 : (((w.alloc o1).alloc o2).alloc o3).heap[w.heap.size]? = some o1 := (Below.heap_alloc _ _ _ (by simp; omega)).trans k1
  have k3 := World.alloc_heap_new ((w.alloc o1).alloc o2) o3
  rw [show ((w.alloc o1).alloc o2).heap.size = w.heap.size + 1 + 1 by simp] at k3
  have k4 := World.alloc_heap_new (((w.alloc o1).alloc o2).alloc o3) o4
  rw [show (((w.alloc o1).alloc o2).alloc o3).heap.size = w.heap.size + 1 + 1 + 1 by simp] at k4
  exact ⟨by simp [World.drew], (((((Below.refl _ w).alloc (Nat.le_refl _) _).alloc (by simp) _).alloc (by simp; omega) _).alloc (by simp; omega) _).drew.drew, (Below.heap_alloc _ _ _ (by simp; omega)).trans k2, (Below.heap_alloc _ _ _ (by simp)).trans k3, k4⟩
def boxB (id a pt : Int) (u : Value) : Obj := .cells #[.int .i64 id, .int .u32 a, .int .i64 pt, .int .i64 1, u] 77 (0, 0)

set_option maxRecDepth 100000 in
set_option maxHeartbeats 4000000 in
theorem add_first {S Sa : Nat → Prop} {Xp X M O n : Nat} {p : Po} {w : World} (h : PoolIn S Sa Xp X M O n p w) (hnm : n + 1 < maxLen) {id a pt : Int} (hw : (Lit.int .i64 id).wf = true) (hid : 1 ≤ id ∧ id ≤ 65535) (hpt : 0 ≤ pt ∧ pt ≤ 65535) (hm : p.all id = none) (h0 : p.act = 0) (hr : p.room ≤ 65536) (b : Nat) (hgo : workTo p.anc p.anc.room = [b]) (hwb : (Lit.int .i64 (b : Int)).wf = true) :
    Calls Try.prog 13 #[.pointer (some ⟨Xp, 0, none⟩), .agg #[.int .i64 id, .int .u32 a, .int .i64 pt]] w fun e w' => e = .returned (.int .i64 0) ∧ PoolIn S Sa Xp X M O (n + 1) { (Po.set p id (b : Int) ⟨id, a, pt, 1, (b : Int)⟩) with act := 1 } w' ∧ Only S w w' := by
  have hv : p.allV id = none := by unfold Po.allV; rw [hm]; rfl
  have HQ : ∀ W, Below w.heap.size w W → (Instr.lookup 63 (.map (some M)) (.int .i64 id) true).run Try.prog W = .ok (.tuple #[.agg #[.int .i64 0, .int .u32 0, .int .i64 0, .int .i64 0, .int .i64 0], .bool false]) W := fun W hb => by
    have q1 := (h.below hb).all.look_ok Try.underlying63 (zero104 W) hw
    rw [hv] at q1
    exact q1
  have q1 := HQ _ ((Below.refl _ w).alloc (Nat.le_refl _) (.cells #[.int .i64 id, .int .u32 a, .int .i64 pt] 33)).drew
  have q2 := HQ _ (((Below.refl _ w).alloc (Nat.le_refl _) (.cells #[.int .i64 id, .int .u32 a, .int .i64 pt] 33)).alloc (by simp) (.cells #[.int .i64 0, .int .u32 0, .int .i64 0, .int .i64 0, .int .i64 0] 77)).drew
  clear HQ hv
  obtain ⟨⟨c0, c1, c2, c3, c4, c5⟩, z5⟩ := cells6 h.cells
  have hrp : 1 ≤ p.room := h.anc.choose_spec.choose_spec.choose_spec.2.2.2.1
  have e1 : ((0 : Int) == (p.room : Int)) = false := by simp; omega
  rw [h0] at c5
  have hXl := h.low _ h.mem.1
  obtain ⟨g1, g2⟩ := hid
  obtain ⟨g3, g4⟩ := hpt
  refine calls_of_endsP Try.func13 rfl ?_
  simp only [Try.ntmps13, List.size_toArray, List.length_cons, List.length_nil, Nat.reduceAdd, Nat.reduceSub, Array.replicate_succ, Array.replicate_zero, List.push_toArray, List.append_toArray, List.nil_append, List.cons_append]
  go_wp2_with fail
  go_cut [5, 6] from 8 to 17 (fun s5 s6 w' => s5 = .pointer (some ⟨w.heap.size + 1, 0, none⟩) ∧ s6 = .bool false ∧ w' = ((w.alloc (.cells #[.int .i64 id, .int .u32 a, .int .i64 pt] 33)).alloc (.cells #[.int .i64 0, .int .u32 0, .int .i64 0, .int .i64 0, .int .i64 0] 77)).drew)
  case first =>
    go_region
    all_goals
      go_wp2_with fail
      go_meet
      case rel => exact ⟨rfl, rfl, rfl⟩
  obtain ⟨rfl, rfl, rfl⟩ := hcut
  have hb3 : Below w.heap.size w (((w.alloc (.cells #[.int .i64 id, .int .u32 a, .int .i64 pt] 33)).alloc (.cells #[.int .i64 0, .int .u32 0, .int .i64 0, .int .i64 0, .int .i64 0] 77)).alloc (.cells #[.int .i64 id, .int .u32 a, .int .i64 pt, .int .i64 1, .int .i64 0] 77)) := (((Below.refl _ w).alloc (Nat.le_refl _) _).alloc (by simp) _).alloc (by simp; omega) _
  obtain ⟨⟨x0, x1, x2, x3, x4, x5⟩, xz⟩ := cells6 (h.below hb3).cells
  rw [h0] at x5
  go_wp2_with fail
  go_region
  go_wp2_with (go_at_call 28; refine callsIn_wide.1 ((working_in Fence.wide 8 trivial rfl _ _).mono ?_); rintro e w' ⟨rfl, rfl⟩)
  refine (wpIn_wide (n := 9)).1 ?_
  refine wpIn_genP _ ?_
  intro W2 hW2
  refine wpIn_gen _ ?_
  intro A hA
  obtain ⟨hs2, hb2, k0, k2, k3⟩ := first_boxes hW2
  clear hW2 x0 x1 x2 x3 x4 x5 xz c0 c1 c2 c3 c4 c5 z5 q1 q2 hb3
  obtain ⟨L, base, sv, hL, ⟨hSX, hSL, _⟩, hre, hr1, hr2⟩ := h.anc
  have hXw : X < w.heap.size := h.low _ (h.mem.2.2.2 _ hSX)
  have hLw : L < w.heap.size := h.low _ (h.mem.2.2.2 _ hSL)
  have hroom := (hre.inv hr1).2
  have hA2 := hL.below hb2
  have hst := working_stops Fence.wide 8 trivial rfl (by omega) (w.heap.size + 1 + 1 + 1) X L p.anc (by omega) W2 k3 hA2.fields.1 hA2.places (by omega) (by omega)
  rw [hgo] at hst
  clear hA2 hL hre hgo k3
  refine wpIn_rangeFunc_ownH (α := Nat) rfl (by omega) (gf := 44) (lb := #[.pointer (some ⟨w.heap.size + 1 + 1 + 1, 0, none⟩)]) (by rw [hA]; rfl) trivial (enters_of Try.func44 (by kernel_rfl) rfl) hst
    (fun h h' => ⟨h'.1.trans h.1, Nat.le_trans h.2 h'.2⟩) (fun W l o o' hl hlo _ _ => ?keep) (Below.refl _ _) (fun _ => rfl)
    (fun pre W => (pre = [] ∧ W.heap[w.heap.size]? = some (.cells #[.int .i64 id, .int .u32 a, .int .i64 pt] 33 (0, 0)) ∧ ∃ u, W.heap[w.heap.size + 1 + 1]? = some (boxB id a pt u)) ∧ Below w.heap.size w W)
    (fun cd pre W => (cd = Code.exit 1 ∧ ∃ x : Nat, pre = [x] ∧ W.heap[w.heap.size]? = some (.cells #[.int .i64 id, .int .u32 a, .int .i64 pt] 33 (0, 0)) ∧ W.heap[w.heap.size + 1 + 1]? = some (boxB id a pt (.int .i64 (x : Int)))) ∧ Below w.heap.size w W)
    (OwnFrom.and ?own (ownFrom_below (by omega) (by omega)))
    (fun _ => OwnFrom.and ?ownx (ownFrom_below (by omega) (by omega)))
    ⟨⟨rfl, k0, _, k2⟩, hb2⟩
    (fun x a' W => a' = { tmps := (A.tmps.setIfInBounds 61 (.int .i64 (x : Int))).setIfInBounds 62 (.pointer (some ⟨w.heap.size + 1 + 1, 4, none⟩)), defers := [] } ∧ W.heap[w.heap.size + 1 + 1]? = some (boxB id a pt (.int .i64 (x : Int))))
    ?ownA ?assign ?body ?done ?stop
  case keep =>
    exact ⟨(grownBy_putObj' W l o').block _ (by have := (Array.getElem?_eq_some_iff.1 hlo).1; omega) (fun e => by cases e; omega), (grownBy_putObj' W l o').size⟩
  case own =>
    rintro pre A1 B1 row ⟨h1, hv, u, hv2⟩ hg hr
    exact ⟨h1, (hg.block _ (Array.getElem?_eq_some_iff.1 hv).1 (fun e => by have := (hr _ e.symm).1; omega)).trans hv, u, (hg.block _ (Array.getElem?_eq_some_iff.1 hv2).1 (fun e => by have := (hr _ e.symm).1; omega)).trans hv2⟩
  case ownx =>
    rintro pre A1 B1 row ⟨h1, x, h2, hv, hv2⟩ hg hr
    exact ⟨h1, x, h2, (hg.block _ (Array.getElem?_eq_some_iff.1 hv).1 (fun e => by have := (hr _ e.symm).1; omega)).trans hv, (hg.block _ (Array.getElem?_eq_some_iff.1 hv2).1 (fun e => by have := (hr _ e.symm).1; omega)).trans hv2⟩
  case ownA =>
    rintro x a' u A1 B1 row ⟨h1, hv2⟩ hg hr
    exact ⟨h1, (hg.block _ (Array.getElem?_eq_some_iff.1 hv2).1 (fun e => by have := (hr _ e.symm).1; omega)).trans hv2⟩
  case assign =>
    rintro l pre x W Kc ⟨⟨h1, hv, u, hv2⟩, hBW⟩ hKc
    subst hA
    unfold boxB at hv2
    obtain ⟨⟨y0, y1, y2, y3, y4⟩, f0, f1, f2, f3, f4⟩ := cells5 hv2
    clear hs2
    gi_wp2
    have hv3 : (W.setCell ⟨w.heap.size + 1 + 1, 4, none⟩ (.int .i64 (x : Int))).heap[w.heap.size + 1 + 1]? = some (boxB id a pt (.int .i64 (x : Int))) := by
      unfold boxB
      simp [World.setCell, Array.getElem?_modify, hv2]
    refine hKc _ _ ((KeepsOthers.setCell _ _ _).from _) ⟨Below.heap_setCell _ _ _ _ (by simp; omega), by simp [World.setCell]⟩ ⟨⟨h1, (Below.heap_setCell _ _ _ _ (by simp; omega)).trans hv, _, hv3⟩, hBW.setCell (p := ⟨w.heap.size + 1 + 1, 4, none⟩) (by simp; omega) _⟩ ⟨rfl, hv3⟩
  case body =>
    rintro l pre x a' W hl hlr ⟨⟨h1, hv, u, hv2⟩, hBW⟩ ⟨rfl, hv3⟩ hlen
    subst hA
    subst h1
    clear hs2
    gi_wp2
    exact ⟨KeepsFrom.refl _ _, ⟨rfl, x, rfl, hv, hv3⟩, hBW⟩
  case done =>
    rintro D ys W hD rfl ⟨⟨h1, _⟩, _⟩ hKD
    cases h1
  case stop =>
    rintro D cd pre W hD hsp ⟨⟨rfl, x, rfl, hv, hv2⟩, hBW⟩ hKD
    have exb : x = b := by simpa using hsp.subset (List.mem_singleton_self x)
    rw [exb] at hv2
    have hPW := h.below hBW
    have no : ∀ i, w.heap.size ≤ i → ¬ S i := fun i hi e => by have := h.low i e; omega
    obtain ⟨⟨t0, t1, t2, t3, t4, t5⟩, tz⟩ := cells6 hPW.cells
    obtain ⟨y0, y1, y2⟩ := cell3 hv
    unfold boxB at hv2
    obtain ⟨⟨b0, b1, b2, b3, b4⟩, bz0, bz1, bz2, bz3, bz4⟩ := cells5 hv2
    have F5 : AddF Xp M O w.heap.size (w.heap.size + 1 + 1) id a pt (b : Int) W.drew := ⟨t3, t4, y0, b0, b1, b2, b3, b4⟩
    have hPd : PoolIn S Sa Xp X M O n p W.drew := hPW.kept (fun _ _ => rfl) (Nat.le_refl _)
    obtain ⟨v0, v1, st, st1, w6, w7, w8, w9, r1, r2, r3, r4, ⟨f6, f7, f8, f9⟩, hP9, hO9⟩ := add_maps hPd (by omega) (no _ (Nat.le_refl _)) (no _ (by omega)) (Array.getElem?_eq_some_iff.1 hv).1 (Array.getElem?_eq_some_iff.1 hv2).1 hw hwb F5
    obtain ⟨⟨s0, s1, s2, s3, s4, s5⟩, sz⟩ := cells6 (u5 := .int .i64 (p.act : Int)) hP9.cells
    rw [h0] at s5 t5
    have hOW : Only S W w9 := ⟨hO9.os, hO9.tape, hO9.output, hO9.size, hO9.block⟩
    obtain ⟨hk2, hPF, hOF⟩ := add_leave h.low hBW hP9 hOW hKD (by omega) 1
    have HK2 := Lib.hid hk2
    have HPF := Lib.hid hPF
    have HOF := Lib.hid hOF
    have F5 := Lib.hid F5
    have F6 := Lib.hid f6
    have F7 := Lib.hid f7
    have F8 := Lib.hid f8
    have F9 := Lib.hid f9
    have HKD := Lib.hid hKD
    clear hPW hPd hP9 hO9 hOW hv hv2 hBW hKD hk2 hPF hOF f6 f7 f8 f9 hs2 hb2 k0 k2 hD h hst
    subst hA
    refine wpIn_wide.2 ?_
    go_wp2_with fail
    go_region_held3 (fun W : World => (W.cell? ⟨Xp, 3, none⟩ = some (.map (some M)) ∧ W.cell? ⟨Xp, 4, none⟩ = some (.map (some O)) ∧ W.cell? ⟨w.heap.size, 0, none⟩ = some (.int .i64 id) ∧ W.cell? ⟨w.heap.size + 1 + 1, 0, none⟩ = some (.int .i64 id) ∧ W.cell? ⟨w.heap.size + 1 + 1, 1, none⟩ = some (.int .u32 a) ∧ W.cell? ⟨w.heap.size + 1 + 1, 2, none⟩ = some (.int .i64 pt) ∧ W.cell? ⟨w.heap.size + 1 + 1, 3, none⟩ = some (.int .i64 1) ∧ W.cell? ⟨w.heap.size + 1 + 1, 4, none⟩ = some (.int .i64 (b : Int)))) ((first | exact F5.out | exact F6.out | exact F7.out | exact F8.out | exact F9.out)) (fail)
    all_goals
      go_wp2_with fail
      refine ⟨by simp, .inl ⟨_, _, rfl, run_takeDeferred HK2.out, ?_⟩⟩
      exact ⟨.int .i64 0, by simp [results, Try.f13, go_sem], rfl, HPF.out, HOF.out⟩
end Go.Proofs.Ytlipkffnllmkgaa
