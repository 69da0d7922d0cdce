import Derived.Test.YtbahcpejippcjaaDoorU2
namespace Go.Proofs.YtbahcpejippcjaaDoor
open Go.RowKit Go.Shelf Go.Maps
attribute [local go_sem] Oper.semAt_some

open Classical in
/-- What Add leaves. -/
def Added (T M n : Nat) (f : Nat → Svc) (g : Lit → Option Value) (s : Svc) (kl : Lit) (x : Nat) (w : World) (e : Ending) (w' : World) : Prop :=
  e = .returned (.tuple #[.int .i64 (x : Int), .int .i64 0]) ∧ Two T M w w' ∧ MapE M (n + 1) (fun j => if j = kl then some (.int .i64 (x : Int)) else g j) w' ∧ TabM T M (upd f x s) w'
theorem freeTo_head {f : Nat → Svc} {y : Nat} (h1 : 1 ≤ y) (h64 : y ≤ 64) (h0 : (f y).proto = 0) (hlt : ∀ k, 1 ≤ k → k < y → (f k).proto ≠ 0) : [y] <+: freeTo f 65 := by
  have h2 : ∀ k, k ≤ y → freeTo f k = [] := by
    intro k
    induction k with
    | zero => intro _; rfl
    | succ k ih =>
      intro hk
      by_cases h : k = 0
      · subst h; simp [freeTo]
      · rw [freeTo_no f k (hlt k (by omega) (by omega)), ih (by omega)]
  have h3 := freeTo_le f (show y + 1 ≤ 65 by omega)
  rw [freeTo_yes f y h1 h0, h2 y (Nat.le_refl _)] at h3
  exact h3
theorem freeTo_nil {f : Nat → Svc} (h : ∀ k, 1 ≤ k → k ≤ 64 → (f k).proto ≠ 0) : freeTo f 65 = [] := by
  have h2 : ∀ k, k ≤ 65 → freeTo f k = [] := by
    intro k
    induction k with
    | zero => intro _; rfl
    | succ k ih =>
      intro hk
      by_cases h0 : k = 0
      · subst h0; simp [freeTo]
      · rw [freeTo_no f k (h k (by omega) (by omega)), ih (by omega)]
  exact h2 65 (Nat.le_refl _)
theorem prefix_one {x y : Nat} {l : List Nat} (h : [x] <+: l) (h2 : [y] <+: l) : x = y := by
  have h3 := List.prefix_of_prefix_length_le h h2 (by simp)
  have h4 := h3.eq_of_length (by simp)
  simpa using h4
set_option maxRecDepth 100000 in
set_option maxHeartbeats 4000000 in
theorem add_ok {T M n : Nat} {f : Nat → Svc} {g : Lit → Option Value} {w : World} (h : TabM T M f w) (hm : MapE M n g w) (hTM : T ≠ M) (hn : n < maxLen) (s : Svc) (hr : rightB s = true) {y : Nat} (hfree : [y] <+: freeTo f 65) {kl : Lit} (hk : keyOf Tryd.prog 83 (endV s.proto s.vip s.port) = some kl) (hkl : WideAt.IsKeyLit kl) (hg : g kl = none) :
    Calls Tryd.prog 18 #[.pointer (some ⟨T, 0, none⟩), s.val] w (Added T M n f g s kl y w) := by
  have HR := Lib.hid (right_calls s)
  rw [hr] at HR
  have HH := Lib.hid h
  have HM := Lib.hid hm
  have HB := Lib.hid (Below.refl w.heap.size w)
  unfold Svc.val at *
  clear h hm hr
  refine calls_of_endsP Tryd.func18 rfl ?_
  simp only [Tryd.ntmps18, List.size_toArray, List.length_cons, List.length_nil, Nat.reduceAdd, Nat.reduceSub, Array.replicate_succ, Array.replicate_zero, List.push_toArray, List.append_toArray, List.nil_append, List.cons_append]
  go_wp2_with fail
  refine wp_genP _ ?_
  intro W5 hW5
  have HX : Boxes w T s W5 := by rw [hW5]; exact Boxes.made w T s
  have hq : ∀ j, (Instr.lookup 78 (.map (some M)) (.agg #[.int .i64 s.proto, .int .u32 (s.vip : Int), .int .i64 s.port]) true).run Tryd.prog (W5.drewN j) = .ok (.tuple #[.int .i64 0, .bool false]) (W5.drewN j) := fun j => by
    have hE := (HM.out.block (w' := W5.drewN j) (HX.below.block M HM.out.lt)).look_ok Tryd.underlying78 (zero3 _) hk hkl
    rw [hg] at hE
    exact hE
  have hT5 := HH.out.below HX.below
  have c1 := hT5.ids
  obtain ⟨x0, _⟩ := cell1 HX.b0
  obtain ⟨y0, y1, y2⟩ := cells3 HX.b4
  obtain ⟨⟨z0, z1, z2, z3, z4⟩, _⟩ := cells5 HX.b1
  have HBX := Lib.hid HX
  clear hW5 HX hT5
  go_quiet (fail)
  clear hq c1 x0 y0 y1 y2
  go_wp2_with (first
    | (go_at_call 15; refine (HR.out _).mono ?_; rintro e W6 ⟨rfl, hB⟩; replace HBX := Lib.hid ((HBX.out.go (below_drewN _ _)).go hB); obtain ⟨x0, _⟩ := cell1 HBX.out.b0; clear hB)
    | (go_at_call 39; refine callsIn_wide.1 ((free_in Fence.wide 8 trivial rfl T _).mono ?_); rintro e w' ⟨rfl, rfl⟩))
  refine (wpIn_wide (n := 9)).1 ?_
  refine wpIn_genP _ ?_
  intro W7 hW7
  have HX7 : Boxes w T s W7 := by rw [hW7]; exact HBX.out.go ((Below.refl _ _).alloc (Nat.le_refl _) _)
  have hB7 : W7.heap[W6.heap.size]? = some (.cells #[.pointer (some ⟨T, 0, none⟩)] 36 (0, 0)) := by rw [hW7]; exact World.alloc_heap_new W6 _
  have hs7 : W7.heap.size = W6.heap.size + 1 := by rw [hW7]; simp
  clear hW7 x0
  refine wpIn_genA _ ?_
  intro A hA
  have hMl := HM.out.lt
  have hTl := HH.out.low
  have h62 : w.heap.size + 5 ≤ W6.heap.size := by have := (Array.getElem?_eq_some_iff.1 HBX.out.b4).1; omega
  have hst := free_stops2 Fence.wide 8 trivial trivial rfl (by omega) W6.heap.size T M f W7 hB7 (HH.out.below HX7.below)
  have hT7 := HH.out.below HX7.below
  have hM7 := HM.out.block (w' := W7) (HX7.below.block M hMl)
  refine wpIn_rangeFunc_ownG (α := Num) rfl (by omega) (gf := 52) (lb := #[.pointer (some ⟨W6.heap.size, 0, none⟩)]) (by rw [hA]; rfl) trivial (enters_of Tryd.func52 (by kernel_rfl) rfl) hst
    (fun h h' => ⟨⟨h'.1.1.trans h.1.1, h'.1.2.trans h.1.2⟩, Nat.le_trans h.2 h'.2⟩) (fun W l o o' hl hlo _ _ => ?keep) (Below.refl _ _) (fun _ => rfl)
    (fun pre W => (pre = [] ∧ Boxes w T s W ∧ TabM T M f W ∧ MapE M n g W))
    (fun cd pre W => (cd = Code.ret ∧ ∃ x : Num, pre = [x] ∧ W.heap[w.heap.size + 1 + 1]? = some (.cells #[.int .i64 (x.val : Int)] 3 (0, 0)) ∧ W.heap[w.heap.size + 1 + 1 + 1]? = some (.cells #[.int .i64 0] 38 (0, 0)) ∧ Two T M w W ∧ MapE M (n + 1) (open Classical in fun j => if j = kl then some (.int .i64 (x.val : Int)) else g j) W ∧ TabM T M (upd f x.val s) W))
    ?own (fun _ => ?ownx) ⟨rfl, HX7, hT7, hM7⟩
    (fun x => { tmps := (A.tmps.setIfInBounds 34 (.int .i64 (x.val : Int))).setIfInBounds 9 (.int .i64 (x.val : Int)), defers := [] }) ?assign ?body ?done ?stop
  case keep =>
    have hne : ∀ b, b < W7.heap.size → (W.putObj l o').heap[b]? = W.heap[b]? := fun b hb => by
      by_cases hbW : b < W.heap.size
      · exact (grownBy_putObj' W l o').block _ hbW (fun e => by cases e; omega)
      · have := (Array.getElem?_eq_some_iff.1 hlo).1; omega
    exact ⟨⟨hne T (by omega), hne _ (by omega)⟩, (grownBy_putObj' W l o').size⟩
  case own =>
    rintro pre A1 B1 row ⟨h1, h2, h3, h4⟩ hg hr
    have hb : ∀ b, b < W7.heap.size → b < A1.heap.size → B1.heap[b]? = A1.heap[b]? := fun b hb hbA => hg.block b hbA (fun e => by have := (hr _ e.symm).1; omega)
    have q := fun {b : Nat} {o : Obj} (hb7 : b < W7.heap.size) (h : A1.heap[b]? = some o) => (hb b hb7 (Array.getElem?_eq_some_iff.1 h).1).trans h
    exact ⟨h1, ⟨⟨hg.os.trans h2.below.os, hg.tape.trans h2.below.tape, hg.output.trans h2.below.output, Nat.le_trans h2.below.size hg.size, fun b hbb => (hb b (by omega) (Nat.lt_of_lt_of_le hbb h2.below.size)).trans (h2.below.block b hbb)⟩, q (by omega) h2.b0, q (by omega) h2.b1, q (by omega) h2.b2, q (by omega) h2.b3, q (by omega) h2.b4⟩, h3.block (hb T (by omega) h3.low) hg.size, h4.block (hb M (by omega) h4.lt)⟩
  case ownx =>
    rintro pre A1 B1 row ⟨h1, x, h2, h3, h4, h5, h6, h7⟩ hg hr
    have hb : ∀ b, b < W7.heap.size → b < A1.heap.size → B1.heap[b]? = A1.heap[b]? := fun b hb hbA => hg.block b hbA (fun e => by have := (hr _ e.symm).1; omega)
    have q := fun {b : Nat} {o : Obj} (hb7 : b < W7.heap.size) (h : A1.heap[b]? = some o) => (hb b hb7 (Array.getElem?_eq_some_iff.1 h).1).trans h
    exact ⟨h1, x, h2, q (by omega) h3, q (by omega) h4, ⟨hg.os.trans h5.os, hg.tape.trans h5.tape, hg.output.trans h5.output, Nat.le_trans h5.size hg.size, fun b hbb hb1 hb2 => (hb b (by omega) (by have := h5.size; omega)).trans (h5.block b hbb hb1 hb2)⟩, h6.block (hb M (by omega) h6.lt), h7.block (hb T (by omega) h7.low) hg.size⟩
  case assign =>
    intro l x W K hK
    subst hA
    simp only [List.setIfInBounds_toArray, List.set_cons_zero, List.set_cons_succ] at hK
    gi_wp2
    exact hK
  case done =>
    rintro D ys W hD hys ⟨rfl, _⟩ hKD
    rw [← hys] at hfree
    simp [valsN] at hfree
  case stop =>
    rintro D cd pre W hD hsp ⟨rfl, x, rfl, h3, h4, h5, h6, h7⟩ hKD
    have hx1 : x.val = y := prefix_one hsp hfree
    rw [hx1] at h3 h6 h7
    have H678 := Lib.hid (And.intro h6 h7)
    clear h6 h7
    obtain ⟨q2, _⟩ := cell1 h3
    obtain ⟨q3, _⟩ := cell1 h4
    have HKD := Lib.hid hKD
    have H5 := Lib.hid h5
    have hDl : w.heap.size + 5 ≤ D := by omega
    subst hA
    gi_wp2
    have d2 := cell_kept q2 (grownBy_putObj' _ D (.deferred none)) (fun r e => by cases e; exact ⟨_, HKD.out, rfl⟩)
    have d3 := cell_kept q3 (grownBy_putObj' _ D (.deferred none)) (fun r e => by cases e; exact ⟨_, HKD.out, rfl⟩)
    refine ⟨by simp, .inl ⟨_, _, rfl, run_takeDeferred HKD.out, ?_⟩⟩
    have hG := grownBy_putObj' W D (.deferred none)
    exact ⟨.tuple #[.int .i64 (y : Int), .int .i64 0], by simp [results, Tryd.f18, go_sem, d2, d3], rfl, ⟨hG.os.trans H5.out.os, hG.tape.trans H5.out.tape, hG.output.trans H5.out.output, Nat.le_trans H5.out.size hG.size, fun b hb h1 h2 => (hG.block b (Nat.lt_of_lt_of_le hb H5.out.size) (fun e => by cases e; omega)).trans (H5.out.block b hb h1 h2)⟩, H678.out.1.block (hG.block M H678.out.1.lt (fun e => by cases e; omega)), H678.out.2.block (hG.block T H678.out.2.low (fun e => by cases e; omega)) hG.size⟩
  case body =>
    rintro l pre ⟨x, hx1, hx2⟩ W ⟨rfl, hX, hT, hM⟩ hlen
    subst hA
    simp only [List.setIfInBounds_toArray, List.set_cons_zero, List.set_cons_succ]
    have x1 : (1 : Int) ≤ (x : Int) := by omega
    have x2 : (x : Int) < 65 := by omega
    have x3 : (0 : Int) ≤ (x : Int) := by omega
    obtain ⟨a0, _⟩ := cell1 hX.b0
    obtain ⟨y0, y1, y2⟩ := cells3 hX.b4
    obtain ⟨⟨z0, z1, z2, z3, z4⟩, _⟩ := cells5 hX.b1
    have c1 := hT.ids
    obtain ⟨r0, r1, r2, r3, r4⟩ := hT.at_ x (by omega)
    have f0 := hT.fz (x * 5)
    have f1 := hT.fz (x * 5 + 1)
    have f2 := hT.fz (x * 5 + 2)
    have f3 := hT.fz (x * 5 + 3)
    have f4 := hT.fz (x * 5 + 4)
    obtain ⟨v0, st, w2, w3, e1, e2, k2, k3, kB, kk, ks, kg1, kg2, km, kc⟩ := body_facts2 (x := x) hX hT hM hTM hn hTl hMl hk hkl _ (by omega) rfl
    obtain ⟨m0, m1⟩ := cell1 k2
    obtain ⟨m2, m3⟩ := cell1 k3
    have KK := Lib.hid (And.intro kB (And.intro kk ks))
    have K2 := Lib.hid (And.intro k2 k3)
    have KG := Lib.hid (And.intro kg1 kg2)
    have KM := Lib.hid (And.intro km kc)
    clear kg1 kg2 km kc
    have nT0 : ¬ T = w.heap.size := by omega
    have nT1 : ¬ T = w.heap.size + 1 := by omega
    have nT4 : ¬ T = w.heap.size + 1 + 1 + 1 + 1 := by omega
    have o5 : ¬ (325 : Nat) = x * 5 + 4 := by omega
    have o4 : ¬ (325 : Nat) = x * 5 + 3 := by omega
    have o3 : ¬ (325 : Nat) = x * 5 + 2 := by omega
    have o2 : ¬ (325 : Nat) = x * 5 + 1 := by omega
    have o1 : ¬ (325 : Nat) = x * 5 := by omega
    have HOLD := Lib.hid (And.intro hX (And.intro hT hM))
    have H67 := Lib.hid (And.intro hs7 h62)
    clear k2 k3 kB kk ks hX hT hM hst hT7 hM7 hs7 h62 hTl hMl hlen HX7 hB7
    gi_wp2
    refine H.wpIn_G (Good := fun W' => W'.cell? ⟨w.heap.size, 0, none⟩ = some (.pointer (some ⟨T, 0, none⟩)) ∧ W'.cell? ⟨T, 325, none⟩ = some (.map (some M)) ∧ (W'.cell? ⟨w.heap.size + 1 + 1 + 1 + 1, 0, none⟩ = some (.int .i64 s.proto) ∧ W'.cell? ⟨w.heap.size + 1 + 1 + 1 + 1, 1, none⟩ = some (.int .u32 (s.vip : Int)) ∧ W'.cell? ⟨w.heap.size + 1 + 1 + 1 + 1, 2, none⟩ = some (.int .i64 s.port)) ∧ (W'.cell? ⟨w.heap.size + 1, 0, none⟩ = some (.int .i64 s.proto) ∧ W'.cell? ⟨w.heap.size + 1, 1, none⟩ = some (.int .u32 (s.vip : Int)) ∧ W'.cell? ⟨w.heap.size + 1, 2, none⟩ = some (.int .i64 s.port) ∧ W'.cell? ⟨w.heap.size + 1, 3, none⟩ = some (.bool s.dsr) ∧ W'.cell? ⟨w.heap.size + 1, 4, none⟩ = some (.int .u32 (s.nat : Int)))) 15 3 [0, 1, 2, 3, 4, 5, 6, 7, 8, 9, 10, 11] (by kernel_rfl) (by kernel_rfl) (by kernel_rfl) (by kernel_rfl) (by kernel_rfl) (by kernel_rfl) rfl (fun _ _ _ _ _ h => h) (by kernel_rfl) ⟨a0, c1, ⟨y0, y1, y2⟩, z0, z1, z2, z3, z4⟩ ?_
    (refine H.stepsG_cons (v := ?_) rfl rfl rfl (fun wg hw => ?_) ?_; rotate_left; (obtain ⟨q1, q2, ⟨q3, q4, q5⟩, q6, q7, q8, q9, q10⟩ := hw; go_simp; try with_reducible rfl); go_simp)
    (refine H.stepsG_cons (v := ?_) rfl rfl rfl (fun wg hw => ?_) ?_; rotate_left; (obtain ⟨q1, q2, ⟨q3, q4, q5⟩, q6, q7, q8, q9, q10⟩ := hw; go_simp; try with_reducible rfl); go_simp)
    (refine H.stepsG_cons (v := ?_) rfl rfl rfl (fun wg hw => ?_) ?_; rotate_left; (obtain ⟨q1, q2, ⟨q3, q4, q5⟩, q6, q7, q8, q9, q10⟩ := hw; go_simp; try with_reducible rfl); go_simp)
    (refine H.stepsG_cons (v := ?_) rfl rfl rfl (fun wg hw => ?_) ?_; rotate_left; (obtain ⟨q1, q2, ⟨q3, q4, q5⟩, q6, q7, q8, q9, q10⟩ := hw; go_simp; try with_reducible rfl); go_simp)
    (refine H.stepsG_cons (v := ?_) rfl rfl rfl (fun wg hw => ?_) ?_; rotate_left; (obtain ⟨q1, q2, ⟨q3, q4, q5⟩, q6, q7, q8, q9, q10⟩ := hw; go_simp; try with_reducible rfl); go_simp)
    (refine H.stepsG_cons (v := ?_) rfl rfl rfl (fun wg hw => ?_) ?_; rotate_left; (obtain ⟨q1, q2, ⟨q3, q4, q5⟩, q6, q7, q8, q9, q10⟩ := hw; go_simp; try with_reducible rfl); go_simp)
    (refine H.stepsG_cons (v := ?_) rfl rfl rfl (fun wg hw => ?_) ?_; rotate_left; (obtain ⟨q1, q2, ⟨q3, q4, q5⟩, q6, q7, q8, q9, q10⟩ := hw; go_simp; try with_reducible rfl); go_simp)
    (refine H.stepsG_cons (v := ?_) rfl rfl rfl (fun wg hw => ?_) ?_; rotate_left; (obtain ⟨q1, q2, ⟨q3, q4, q5⟩, q6, q7, q8, q9, q10⟩ := hw; go_simp; try with_reducible rfl); go_simp)
    (refine H.stepsG_cons (v := ?_) rfl rfl rfl (fun wg hw => ?_) ?_; rotate_left; (obtain ⟨q1, q2, ⟨q3, q4, q5⟩, q6, q7, q8, q9, q10⟩ := hw; go_simp; try with_reducible rfl); go_simp)
    (refine H.stepsG_cons (v := ?_) rfl rfl rfl (fun wg hw => ?_) ?_; rotate_left; (obtain ⟨q1, q2, ⟨q3, q4, q5⟩, q6, q7, q8, q9, q10⟩ := hw; go_simp; try with_reducible rfl); go_simp)
    (refine H.stepsG_cons (v := ?_) rfl rfl rfl (fun wg hw => ?_) ?_; rotate_left; (obtain ⟨q1, q2, ⟨q3, q4, q5⟩, q6, q7, q8, q9, q10⟩ := hw; go_simp; try with_reducible rfl); go_simp)
    (refine H.stepsG_cons (v := ?_) rfl rfl rfl (fun wg hw => ?_) ?_; rotate_left; (obtain ⟨q1, q2, ⟨q3, q4, q5⟩, q6, q7, q8, q9, q10⟩ := hw; go_simp; try with_reducible rfl); go_simp)
    refine H.wpG_one (k := 12) (by kernel_rfl) (by omega) rfl rfl (fun K hK => ?_)
    go_simp
    refine hK _ _ KG.out.1 ?_
    refine H.wpG_one (k := 13) (by kernel_rfl) (by omega) rfl rfl (fun K hK => ?_)
    go_simp
    refine hK _ _ KG.out.2 ?_
    refine H.wpG_one (k := 14) (by kernel_rfl) (by omega) rfl rfl (fun K hK => ?_)
    go_simp
    refine hK _ _ KG.out.2 ?_
    refine ⟨by kernel_rfl, ?_⟩
    gi_wp2
    obtain ⟨kB, kk, ks⟩ := KK.out
    obtain ⟨k2, k3⟩ := K2.out
    obtain ⟨hs7, h62⟩ := H67.out
    have u2 : ((w3.setCell ⟨w.heap.size + 1 + 1, 0, none⟩ (.int .i64 (x : Int))).setCell ⟨w.heap.size + 1 + 1 + 1, 0, none⟩ (.int .i64 0)).heap[w.heap.size + 1 + 1]? = some (.cells #[.int .i64 (x : Int)] 3 (0, 0)) := by
      rw [Below.heap_setCell _ _ _ _ (by simp)]
      simp [World.setCell, Array.getElem?_modify, k2]
    have u3 : ((w3.setCell ⟨w.heap.size + 1 + 1, 0, none⟩ (.int .i64 (x : Int))).setCell ⟨w.heap.size + 1 + 1 + 1, 0, none⟩ (.int .i64 0)).heap[w.heap.size + 1 + 1 + 1]? = some (.cells #[.int .i64 0] 38 (0, 0)) := by
      have k4 : (w3.setCell ⟨w.heap.size + 1 + 1, 0, none⟩ (.int .i64 (x : Int))).heap[w.heap.size + 1 + 1 + 1]? = some (.cells #[.int .i64 0] 38 (0, 0)) := (Below.heap_setCell _ _ _ _ (by simp)).trans k3
      simp [World.setCell, Array.getElem?_modify] at k4 ⊢
      simp [k4]
    have hTB := HH.out.low
    have hMB := HM.out.lt
    obtain ⟨km, kc⟩ := KM.out
    have q1 := set_one w3 ⟨w.heap.size + 1 + 1, 0, none⟩ (.int .i64 (x : Int))
    have q2 := set_one (w3.setCell ⟨w.heap.size + 1 + 1, 0, none⟩ (.int .i64 (x : Int))) ⟨w.heap.size + 1 + 1 + 1, 0, none⟩ (.int .i64 0)
    have hbl : ∀ b, b ≠ w.heap.size + 1 + 1 → b ≠ w.heap.size + 1 + 1 + 1 → ((w3.setCell ⟨w.heap.size + 1 + 1, 0, none⟩ (.int .i64 (x : Int))).setCell ⟨w.heap.size + 1 + 1 + 1, 0, none⟩ (.int .i64 0)).heap[b]? = w3.heap[b]? := fun b h1 h2 => by
      rw [Below.heap_setCell _ _ _ _ (by simp; omega), Below.heap_setCell _ _ _ _ (by simp; omega)]
    refine ⟨⟨by rw [q2.1, q1.1]; exact ks, fun k o hk ho _ => ?_⟩, rfl, x, ⟨⟨hx1, hx2⟩, rfl⟩, u2, u3, ⟨q2.2.1.trans (q1.2.1.trans kB.os), q2.2.2.1.trans (q1.2.2.1.trans kB.tape), q2.2.2.2.trans (q1.2.2.2.trans kB.output), by rw [q2.1, q1.1]; exact kB.size, fun b hb h1 h2 => (hbl b (by omega) (by omega)).trans (kB.block b hb h1 h2)⟩, km.block (hbl M (by omega) (by omega)), kc.block (hbl T (by omega) (by omega)) (by rw [q2.1, q1.1]; exact Nat.le_refl _)⟩
    rw [hbl k (by omega) (by omega)]
    exact kk k (by omega) o ho

set_option maxRecDepth 100000 in
set_option maxHeartbeats 4000000 in
theorem add_full {T M n : Nat} {f : Nat → Svc} {g : Lit → Option Value} {w : World} (h : TabM T M f w) (hm : MapE M n g w) (s : Svc) (hr : rightB s = true) (hfull : freeTo f 65 = []) {kl : Lit} (hk : keyOf Tryd.prog 83 (endV s.proto s.vip s.port) = some kl) (hkl : WideAt.IsKeyLit kl) (hg : g kl = none) :
    Calls Tryd.prog 18 #[.pointer (some ⟨T, 0, none⟩), s.val] w fun e w' => e = .returned (.tuple #[.int .i64 0, .int .i64 16]) ∧ Below w.heap.size w w' := by
  have HR := Lib.hid (right_calls s)
  rw [hr] at HR
  have HH := Lib.hid h
  have HM := Lib.hid hm
  have HB := Lib.hid (Below.refl w.heap.size w)
  unfold Svc.val at *
  clear h hm hr
  refine calls_of_endsP Tryd.func18 rfl ?_
  simp only [Tryd.ntmps18, List.size_toArray, List.length_cons, List.length_nil, Nat.reduceAdd, Nat.reduceSub, Array.replicate_succ, Array.replicate_zero, List.push_toArray, List.append_toArray, List.nil_append, List.cons_append]
  go_wp2_with fail
  refine wp_genP _ ?_
  intro W5 hW5
  have HX : Boxes w T s W5 := by rw [hW5]; exact Boxes.made w T s
  have hq : ∀ j, (Instr.lookup 78 (.map (some M)) (.agg #[.int .i64 s.proto, .int .u32 (s.vip : Int), .int .i64 s.port]) true).run Tryd.prog (W5.drewN j) = .ok (.tuple #[.int .i64 0, .bool false]) (W5.drewN j) := fun j => by
    have hE := (HM.out.block (w' := W5.drewN j) (HX.below.block M HM.out.lt)).look_ok Tryd.underlying78 (zero3 _) hk hkl
    rw [hg] at hE
    exact hE
  have hT5 := HH.out.below HX.below
  have c1 := hT5.ids
  obtain ⟨x0, _⟩ := cell1 HX.b0
  obtain ⟨y0, y1, y2⟩ := cells3 HX.b4
  obtain ⟨⟨z0, z1, z2, z3, z4⟩, _⟩ := cells5 HX.b1
  have HBX := Lib.hid HX
  clear hW5 HX hT5
  go_quiet (fail)
  clear hq c1 x0 y0 y1 y2
  go_wp2_with (first
    | (go_at_call 15; refine (HR.out _).mono ?_; rintro e W6 ⟨rfl, hB⟩; replace HBX := Lib.hid ((HBX.out.go (below_drewN _ _)).go hB); obtain ⟨x0, _⟩ := cell1 HBX.out.b0; clear hB)
    | (go_at_call 39; refine callsIn_wide.1 ((free_in Fence.wide 8 trivial rfl T _).mono ?_); rintro e w' ⟨rfl, rfl⟩))
  refine (wpIn_wide (n := 9)).1 ?_
  refine wpIn_genP _ ?_
  intro W7 hW7
  have HX7 : Boxes w T s W7 := by rw [hW7]; exact HBX.out.go ((Below.refl _ _).alloc (Nat.le_refl _) _)
  have hB7 : W7.heap[W6.heap.size]? = some (.cells #[.pointer (some ⟨T, 0, none⟩)] 36 (0, 0)) := by rw [hW7]; exact World.alloc_heap_new W6 _
  have hs7 : W7.heap.size = W6.heap.size + 1 := by rw [hW7]; simp
  clear hW7 x0
  refine wpIn_genA _ ?_
  intro A hA
  have hMl := HM.out.lt
  have hTl := HH.out.low
  have h62 : w.heap.size + 5 ≤ W6.heap.size := by have := (Array.getElem?_eq_some_iff.1 HBX.out.b4).1; omega
  have hst := free_stops2 Fence.wide 8 trivial trivial rfl (by omega) W6.heap.size T M f W7 hB7 (HH.out.below HX7.below)
  have hT7 := HH.out.below HX7.below
  have hM7 := HM.out.block (w' := W7) (HX7.below.block M hMl)
  refine wpIn_rangeFunc_ownG (α := Num) rfl (by omega) (gf := 52) (lb := #[.pointer (some ⟨W6.heap.size, 0, none⟩)]) (by rw [hA]; rfl) trivial (enters_of Tryd.func52 (by kernel_rfl) rfl) hst
    (fun h h' => ⟨⟨h'.1.1.trans h.1.1, h'.1.2.trans h.1.2⟩, Nat.le_trans h.2 h'.2⟩) (fun W l o o' hl hlo _ _ => ?keep) (Below.refl _ _) (fun _ => rfl)
    (fun pre W => (pre = [] ∧ Boxes w T s W ∧ TabM T M f W ∧ MapE M n g W))
    (fun cd pre W => False)
    ?own (fun _ => ?ownx) ⟨rfl, HX7, hT7, hM7⟩
    (fun x => { tmps := (A.tmps.setIfInBounds 34 (.int .i64 (x.val : Int))).setIfInBounds 9 (.int .i64 (x.val : Int)), defers := [] }) ?assign ?body ?done ?stop
  case keep =>
    have hne : ∀ b, b < W7.heap.size → (W.putObj l o').heap[b]? = W.heap[b]? := fun b hb => by
      by_cases hbW : b < W.heap.size
      · exact (grownBy_putObj' W l o').block _ hbW (fun e => by cases e; omega)
      · have := (Array.getElem?_eq_some_iff.1 hlo).1; omega
    exact ⟨⟨hne T (by omega), hne _ (by omega)⟩, (grownBy_putObj' W l o').size⟩
  case own =>
    rintro pre A1 B1 row ⟨h1, h2, h3, h4⟩ hg hr
    have hb : ∀ b, b < W7.heap.size → b < A1.heap.size → B1.heap[b]? = A1.heap[b]? := fun b hb hbA => hg.block b hbA (fun e => by have := (hr _ e.symm).1; omega)
    have q := fun {b : Nat} {o : Obj} (hb7 : b < W7.heap.size) (h : A1.heap[b]? = some o) => (hb b hb7 (Array.getElem?_eq_some_iff.1 h).1).trans h
    exact ⟨h1, ⟨⟨hg.os.trans h2.below.os, hg.tape.trans h2.below.tape, hg.output.trans h2.below.output, Nat.le_trans h2.below.size hg.size, fun b hbb => (hb b (by omega) (Nat.lt_of_lt_of_le hbb h2.below.size)).trans (h2.below.block b hbb)⟩, q (by omega) h2.b0, q (by omega) h2.b1, q (by omega) h2.b2, q (by omega) h2.b3, q (by omega) h2.b4⟩, h3.block (hb T (by omega) h3.low) hg.size, h4.block (hb M (by omega) h4.lt)⟩
  case ownx =>
    rintro pre A1 B1 row h hg hr
    exact h
  case assign =>
    intro l x W K hK
    subst hA
    simp only [List.setIfInBounds_toArray, List.set_cons_zero, List.set_cons_succ] at hK
    gi_wp2
    exact hK
  case done =>
    rintro D ys W hD hys ⟨_, hX, _⟩ hKD
    obtain ⟨q2, q2f⟩ := cell1 hX.b2
    obtain ⟨q3, q3f⟩ := cell1 hX.b3
    have HKD := Lib.hid hKD
    have HXX := Lib.hid hX
    have hDl : w.heap.size + 5 ≤ D := by omega
    subst hA
    clear hX
    gi_wp2
    go_wp2
    obtain ⟨Wf, hWf⟩ : ∃ Wf, (W.setCell ⟨w.heap.size + 1 + 1, 0, none⟩ (.int .i64 0)).setCell ⟨w.heap.size + 1 + 1 + 1, 0, none⟩ (.int .i64 16) = Wf := ⟨_, rfl⟩
    rw [hWf]
    have p2 : Wf.cell? ⟨w.heap.size + 1 + 1, 0, none⟩ = some (.int .i64 0) := by rw [← hWf, set_not _ (.inl (by omega))]; exact set_is q2 _
    have p3 : Wf.cell? ⟨w.heap.size + 1 + 1 + 1, 0, none⟩ = some (.int .i64 16) := by rw [← hWf]; exact set_is ((set_not _ (.inl (by omega))).trans q3) _
    have hKf : Wf.heap[D]? = W.heap[D]? := by rw [← hWf, Below.heap_setCell _ _ _ _ (by simp; omega), Below.heap_setCell _ _ _ _ (by simp; omega)]
    have hKF := hKf.trans HKD.out
    have HBF : Below w.heap.size w Wf := by rw [← hWf]; exact ((HXX.out.below.setCell (p := ⟨w.heap.size + 1 + 1, 0, none⟩) (by simp; omega) _).setCell (p := ⟨w.heap.size + 1 + 1 + 1, 0, none⟩) (by simp; omega) _)
    clear hWf hKf
    have d2 := cell_kept p2 (grownBy_putObj' _ D (.deferred none)) (fun r e => by cases e; exact ⟨_, hKF, rfl⟩)
    have d3 := cell_kept p3 (grownBy_putObj' _ D (.deferred none)) (fun r e => by cases e; exact ⟨_, hKF, rfl⟩)
    have hG := grownBy_putObj' Wf D (.deferred none)
    refine ⟨by simp, .inl ⟨_, _, rfl, run_takeDeferred hKF, ?_⟩⟩
    exact ⟨.tuple #[.int .i64 0, .int .i64 16], by simp [results, Tryd.f18, go_sem, d2, d3], rfl, ⟨hG.os.trans HBF.os, hG.tape.trans HBF.tape, hG.output.trans HBF.output, Nat.le_trans HBF.size hG.size, fun b hb => (hG.block b (Nat.lt_of_lt_of_le hb HBF.size) (fun e => by cases e; omega)).trans (HBF.block b hb)⟩⟩
  case stop =>
    rintro D cd pre W hD hsp h hKD
    exact h.elim
  case body =>
    rintro l pre x W ⟨rfl, hX, hT, hM⟩ hlen
    rw [hfull] at hlen
    exact absurd hlen (by simp)
end Go.Proofs.YtbahcpejippcjaaDoor
