import Derived.Test.YtbahcpejippcjaaDoorV5
namespace Go.Proofs.YtbahcpejippcjaaDoor
open Go.RowKit Go.Shelf

/-! ### The iterator over what is served -/
theorem all_in (F : Fence) (n : Nat) (h26 : F.fn 26) (hro : F.round = none) (T : Nat) (w : World) : CallsIn F n Tryd.prog 26 #[.pointer (some ⟨T, 0, none⟩)] w fun e w' => e = .returned (.func (.func 40) #[] #[.pointer (some ⟨w.heap.size, 0, none⟩)]) ∧ w' = w.alloc (.cells #[.pointer (some ⟨T, 0, none⟩)] 36) := by
  refine callsIn_of_wp Tryd.func26 rfl h26 ?_ hro
  simp only [Tryd.ntmps26, List.size_toArray, List.length_cons, List.length_nil, Nat.reduceAdd, Nat.reduceSub, Array.replicate_succ, Array.replicate_zero, List.push_toArray, List.append_toArray, List.nil_append, List.cons_append]
  gi_wp2
  go_ret
  exact ⟨rfl, rfl⟩
theorem get0_in (F : Fence) (n : Nat) (h22 : F.fn 22) (hro : F.round = none) (T : Nat) (W : World) :
    CallsIn F n Tryd.prog 22 #[.pointer (some ⟨T, 0, none⟩), .int .i64 0] W fun e W' => e = .returned (.tuple #[.agg #[.int .i64 0, .int .u32 0, .int .i64 0, .bool false, .int .u32 0], .bool false]) ∧ W' = W.alloc (.cells #[.int .i64 0, .int .u32 0, .int .i64 0, .bool false, .int .u32 0] 24) := by
  refine callsIn_of_wp Tryd.func22 rfl h22 ?_ hro
  simp only [Tryd.ntmps22, List.size_toArray, List.length_cons, List.length_nil, Nat.reduceAdd, Nat.reduceSub, Array.replicate_succ, Array.replicate_zero, List.push_toArray, List.append_toArray, List.nil_append, List.cons_append]
  gi_wp2
  obtain ⟨⟨d0, d1, d2, d3, d4⟩, _⟩ := cells5 (World.alloc_heap_new W (.cells #[.int .i64 0, .int .u32 0, .int .i64 0, .bool false, .int .u32 0] 24))
  exact ⟨rfl, .tuple #[.agg #[.int .i64 0, .int .u32 0, .int .i64 0, .bool false, .int .u32 0], .bool false], by simp [results, Tryd.f22, go_sem, d0, d1, d2, d3, d4], rfl, rfl⟩
theorem getN_in (F : Fence) (n : Nat) (h22 : F.fn 22) (hro : F.round = none) (T M k : Nat) (f : Nat → Svc) (W : World) (h : TabM T M f W) (h2 : k ≤ 64) (h0 : occ f k = none) :
    CallsIn F n Tryd.prog 22 #[.pointer (some ⟨T, 0, none⟩), .int .i64 (k : Int)] W fun e W' => e = .returned (.tuple #[.agg #[.int .i64 0, .int .u32 0, .int .i64 0, .bool false, .int .u32 0], .bool false]) ∧ W' = W.alloc (.cells #[.int .i64 0, .int .u32 0, .int .i64 0, .bool false, .int .u32 0] 24) := by
  by_cases h1 : 1 ≤ k
  · refine get_in F n h22 hro T M k f W h h1 h2 ?_
    refine Decidable.of_not_not fun e => ?_
    rw [occ_some h1 e] at h0
    cases h0
  · obtain rfl : k = 0 := by omega
    exact get0_in F n h22 hro T W
theorem listTo_pre (f : Nat → Svc) {j n : Nat} (h : j ≤ n) : listTo f j <+: listTo f n := by
  obtain ⟨d, rfl⟩ : ∃ d, n = j + d := ⟨n - j, by omega⟩
  unfold listTo
  rw [List.range_add, List.filterMap_append]
  exact List.prefix_append _ _
/-- A service as one value. -/
def Svc.av (s : Svc) : Value := .agg #[.int .i64 s.proto, .int .u32 (s.vip : Int), .int .i64 s.port, .bool s.dsr, .int .u32 (s.nat : Int)]

set_option maxRecDepth 100000 in
set_option maxHeartbeats 2000000 in
theorem all1_in (F : Fence) (n : Nat) (h40 : F.fn 40) (h22 : F.fn 22) (hro : F.round = none) (hn : 2 ≤ n) (l Bx T M : Nat) (f : Nat → Svc) (J Jx : List (Nat × Svc) → World → Prop) (W0 : World)
    (hJ : AbidesFrom W0.heap.size J)
    (hY : ∀ pre x W, occ f x = some (x, f x) → x ≤ 64 → J pre W → pre.length < (listOf f).length → YieldAt F (n - 1) Tryd.prog l #[.int .i64 (x : Nat), .agg #[.int .i64 (f x).proto, .int .u32 ((f x).vip : Int), .int .i64 (f x).port, .bool (f x).dsr, .int .u32 ((f x).nat : Int)]] W fun e W' =>
      (e = .returned (.bool true) ∧ J (pre ++ [(x, f x)]) W' ∧ KeepT T Bx W W') ∨ (e = .returned (.bool false) ∧ Jx (pre ++ [(x, f x)]) W'))
    (hBx : W0.heap[Bx]? = some (.cells #[.pointer (some ⟨T, 0, none⟩)] 36 (0, 0))) (hP : TabM T M f W0) (h0 : J [] W0) :
    CallsIn F n Tryd.prog 40 #[.func (.yield l) #[] #[], .pointer (some ⟨Bx, 0, none⟩)] W0 fun e W' => (∃ v, e = .returned v) ∧
      ((∃ ys, ys = listOf f ∧ J ys W') ∨ (∃ pre, pre <+: listOf f ∧ Jx pre W')) := by
  have HY := Lib.hid hY
  have HJ := Lib.hid hJ
  have HP := Lib.hid hP
  have H0 := Lib.hid h0
  have HBX := Lib.hid hBx
  clear hY hJ hP h0 hBx
  refine callsIn_of_wp Tryd.func40 rfl h40 ?_ hro
  simp only [Tryd.ntmps40, List.size_toArray, List.length_cons, List.length_nil, Nat.reduceAdd, Nat.reduceSub, Array.replicate_succ, Array.replicate_zero, List.push_toArray, List.append_toArray, List.nil_append, List.cons_append]
  gi_wp2
  gi_loopw [6] (fun i wr => ∃ j : Nat, j ≤ 65 ∧ i = .int .i64 (j : Int) ∧ wr.heap[T]? = W0.heap[T]? ∧ W0.heap.size ≤ wr.heap.size ∧ wr.heap[Bx]? = some (.cells #[.pointer (some ⟨T, 0, none⟩)] 36 (0, 0)) ∧ J (listTo f j) wr)
    (fun i _ => 66 - (intOf i).toNat)
  case atStart => exact ⟨0, Nat.zero_le _, rfl, rfl, Nat.le_refl _, HBX.out, H0.out⟩
  case round =>
    obtain ⟨j, hk, rfl, hTk, hsz, hbx, hJk⟩ := hrel
    have HTK := Lib.hid hTk
    have HJK := Lib.hid hJk
    have HSZ := Lib.hid hsz
    have HBK := Lib.hid hbx
    have c1 : wr.cell? ⟨Bx, 0, none⟩ = some (.pointer (some ⟨T, 0, none⟩)) := by simp [World.cell?, hbx]
    clear hTk hJk hsz hbx
    by_cases hlt : j ≤ 64
    · have hjl : (j : Int) < 65 := by omega
      have HTB := Lib.hid (HP.out.block HTK.out HSZ.out)
      cases hoc : occ f j with
      | none =>
        have hG := getN_in F (n - 1) h22 hro T M j f wr HTB.out hlt hoc
        have hJ2 := HJ.out _ _ _ none HJK.out (World.grownBy_alloc wr (.cells #[.int .i64 0, .int .u32 0, .int .i64 0, .bool false, .int .u32 0] 24) none) (fun r e => by cases e)
        have hJ3 := HJ.out _ _ _ none hJ2 (World.grownBy_alloc (wr.alloc (.cells #[.int .i64 0, .int .u32 0, .int .i64 0, .bool false, .int .u32 0] 24)) (.cells #[.int .i64 0, .int .u32 0, .int .i64 0, .bool false, .int .u32 0] 24) none) (fun r e => by cases e)
        have hB2 : Hid (((wr.alloc (.cells #[.int .i64 0, .int .u32 0, .int .i64 0, .bool false, .int .u32 0] 24)).alloc (.cells #[.int .i64 0, .int .u32 0, .int .i64 0, .bool false, .int .u32 0] 24)).heap[Bx]? = some (.cells #[.pointer (some ⟨T, 0, none⟩)] 36 (0, 0))) := Lib.hid (((Below.heap_alloc _ _ _ (by have := (Array.getElem?_eq_some_iff.1 HBK.out).1; simp; omega)).trans (Below.heap_alloc _ _ _ (Array.getElem?_eq_some_iff.1 HBK.out).1)).trans HBK.out)
        have hT2 : Hid (((wr.alloc (.cells #[.int .i64 0, .int .u32 0, .int .i64 0, .bool false, .int .u32 0] 24)).alloc (.cells #[.int .i64 0, .int .u32 0, .int .i64 0, .bool false, .int .u32 0] 24)).heap[T]? = W0.heap[T]? ∧ W0.heap.size ≤ ((wr.alloc (.cells #[.int .i64 0, .int .u32 0, .int .i64 0, .bool false, .int .u32 0] 24)).alloc (.cells #[.int .i64 0, .int .u32 0, .int .i64 0, .bool false, .int .u32 0] 24)).heap.size) := Lib.hid ⟨((Below.heap_alloc _ _ _ (by have := HTB.out.low; simp; omega)).trans (Below.heap_alloc _ _ _ HTB.out.low)).trans HTK.out, by have := HSZ.out; simp; omega⟩
        have HJ3 := Lib.hid hJ3
        have HG := Lib.hid hG
        have HOC := Lib.hid (show listTo f (j + 1) = listTo f j from by rw [listTo_succ, hoc]; simp)
        clear hJ2 hJ3 hoc hG
        gi_wp2_with (refine ⟨fun _ => by omega, ?_⟩; gi_at_call 22; refine HG.out.mono ?_; rintro e W2 ⟨rfl, rfl⟩)
        refine ⟨fun _ h => (by cases h), ?_⟩
        gi_wp2
        go_roundw
        case rel => exact ⟨j + 1, by omega, by go_num, hT2.out.1, hT2.out.2, hB2.out, by rw [HOC.out]; exact HJ3.out⟩
        case measure => simp [intOf]; omega
      | some r =>
        have hr : r = (j, f j) ∧ 1 ≤ j ∧ (f j).proto ≠ 0 := by
          unfold occ at hoc
          split at hoc
          · rename_i hc
            exact ⟨(Option.some.inj hoc).symm, hc.1, hc.2⟩
          · cases hoc
        obtain ⟨rfl, hj1, hjp⟩ := hr
        have hG := getY_in F (n - 1) h22 hro T M j f wr HTB.out hj1 hlt hjp
        have hYj := fun pre W => HY.out pre j W hoc hlt
        have hlen : (listTo f j).length < (listOf f).length := by
          have h1 : (listTo f (j + 1)).length ≤ (listOf f).length := (listTo_pre f (show j + 1 ≤ 65 by omega)).length_le
          rw [listTo_succ, hoc] at h1
          simp at h1
          omega
        have HOC := Lib.hid (show listTo f (j + 1) = listTo f j ++ [(j, f j)] from by rw [listTo_succ, hoc]; simp)
        obtain ⟨sj, hsj⟩ : ∃ sj, f j = sj := ⟨_, rfl⟩
        rw [hsj] at hG HOC
        have hYj2 : ∀ pre W, J pre W → pre.length < (listOf f).length → YieldAt F (n - 1) Tryd.prog l #[.int .i64 (j : Nat), .agg #[.int .i64 sj.proto, .int .u32 (sj.vip : Int), .int .i64 sj.port, .bool sj.dsr, .int .u32 (sj.nat : Int)]] W fun e W' => (e = .returned (.bool true) ∧ J (pre ++ [(j, sj)]) W' ∧ KeepT T Bx W W') ∨ (e = .returned (.bool false) ∧ Jx (pre ++ [(j, sj)]) W') := by
          intro pre W h1 h2
          have := hYj pre W h1 h2
          rw [hsj] at this
          exact this
        obtain ⟨p, v, q, d, m⟩ := sj
        dsimp only at hG hYj2
        have hJ2 := HJ.out _ _ _ none HJK.out (World.grownBy_alloc wr (.cells #[.int .i64 p, .int .u32 (v : Int), .int .i64 q, .bool d, .int .u32 (m : Int)] 24) none) (fun r e => by cases e)
        have hJ3 := HJ.out _ _ _ none hJ2 (World.grownBy_alloc (wr.alloc (.cells #[.int .i64 p, .int .u32 (v : Int), .int .i64 q, .bool d, .int .u32 (m : Int)] 24)) (.cells #[.int .i64 p, .int .u32 (v : Int), .int .i64 q, .bool d, .int .u32 (m : Int)] 24) none) (fun r e => by cases e)
        have hB2 : Hid (((wr.alloc (.cells #[.int .i64 p, .int .u32 (v : Int), .int .i64 q, .bool d, .int .u32 (m : Int)] 24)).alloc (.cells #[.int .i64 p, .int .u32 (v : Int), .int .i64 q, .bool d, .int .u32 (m : Int)] 24)).heap[Bx]? = some (.cells #[.pointer (some ⟨T, 0, none⟩)] 36 (0, 0))) := Lib.hid (((Below.heap_alloc _ _ _ (by have := (Array.getElem?_eq_some_iff.1 HBK.out).1; simp; omega)).trans (Below.heap_alloc _ _ _ (Array.getElem?_eq_some_iff.1 HBK.out).1)).trans HBK.out)
        have hT2 : Hid (((wr.alloc (.cells #[.int .i64 p, .int .u32 (v : Int), .int .i64 q, .bool d, .int .u32 (m : Int)] 24)).alloc (.cells #[.int .i64 p, .int .u32 (v : Int), .int .i64 q, .bool d, .int .u32 (m : Int)] 24)).heap[T]? = W0.heap[T]? ∧ ((wr.alloc (.cells #[.int .i64 p, .int .u32 (v : Int), .int .i64 q, .bool d, .int .u32 (m : Int)] 24)).alloc (.cells #[.int .i64 p, .int .u32 (v : Int), .int .i64 q, .bool d, .int .u32 (m : Int)] 24)).heap.size = wr.heap.size + 2) := Lib.hid ⟨((Below.heap_alloc _ _ _ (by have := HTB.out.low; simp; omega)).trans (Below.heap_alloc _ _ _ HTB.out.low)).trans HTK.out, by simp⟩
        obtain ⟨fn, tmps, assign, body, hy, hR⟩ := hYj2 _ _ hJ3 hlen
        have HG := Lib.hid hG
        have HR := Lib.hid hR
        clear hJ2 hJ3 hlen hoc hG hYj hYj2 hsj hjp hR
        gi_wp2_with (refine ⟨fun _ => by omega, ?_⟩; gi_at_call 22; refine HG.out.mono ?_; rintro e W2 ⟨rfl, rfl⟩)
        refine ⟨fun _ => by omega, HR.out.mono ?_⟩
        rintro e W3 (⟨rfl, hJ4, hk4⟩ | ⟨rfl, hJx4⟩)
        · have HJ4 := Lib.hid hJ4
          have HT4 : Hid (W3.heap[T]? = W0.heap[T]?) := Lib.hid (hk4.1.1.trans hT2.out.1)
          have HB4 : Hid (W3.heap[Bx]? = some (.cells #[.pointer (some ⟨T, 0, none⟩)] 36 (0, 0))) := Lib.hid (hk4.1.2.trans hB2.out)
          have HS4 : Hid (W0.heap.size ≤ W3.heap.size) := Lib.hid (by have h1 := hk4.2; have h2 := HSZ.out; have h3 := hT2.out.2; omega)
          clear hJ4 hk4
          gi_wp2
          go_roundw
          case rel => exact ⟨j + 1, by omega, by go_num, HT4.out, HS4.out, HB4.out, by rw [HOC.out]; exact HJ4.out⟩
          case measure => simp [intOf]; omega
        · gi_wp2
          refine bodyPost_ret (results_none rfl _ _ _) rfl ?_
          refine ⟨⟨_, rfl⟩, .inr ⟨_, ?_, hJx4⟩⟩
          rw [← HOC.out]
          exact listTo_pre f (by omega)
    · have hjl : ¬ (j : Int) < 65 := by omega
      gi_wp2
      go_end0
      obtain rfl : j = 65 := by omega
      exact ⟨⟨_, rfl⟩, .inl HJK.out⟩
abbrev NumO (f : Nat → Svc) := { x : Nat // occ f x = some (x, f x) ∧ x ≤ 64 }
def valsO {f : Nat → Svc} (l : List (NumO f)) : List (Nat × Svc) := l.map fun x => (x.val, f x.val)
theorem all_stops (F : Fence) (n : Nat) (h40 : F.fn 40) (h22 : F.fn 22) (hro : F.round = none) (hn : 2 ≤ n) (Bx T M : Nat) (f : Nat → Svc) (w : World)
    (hBx : w.heap[Bx]? = some (.cells #[.pointer (some ⟨T, 0, none⟩)] 36 (0, 0))) (hP : TabM T M f w) :
    SeqStopsK F n Tryd.prog 40 #[.pointer (some ⟨Bx, 0, none⟩)] (fun x : NumO f => #[Value.int .i64 (x.val : Int), .agg #[.int .i64 (f x.val).proto, .int .u32 ((f x.val).vip : Int), .int .i64 (f x.val).port, .bool (f x.val).dsr, .int .u32 ((f x.val).nat : Int)]]) (KeepT T Bx) (fun ys => valsO ys = listOf f) (fun pre => valsO pre <+: listOf f) (listOf f).length w := by
  intro l J Jx W hW hJ _ hY h0
  have hap : ∀ (a : List (NumO f)) (x : NumO f), valsO (a ++ [x]) = valsO a ++ [(x.val, f x.val)] := fun a x => by simp [valsO]
  have hlen : ∀ a : List (NumO f), a.length = (valsO a).length := fun a => by simp [valsO]
  have hres := all1_in F n h40 h22 hro hn l Bx T M f (fun p W => ∃ q, valsO q = p ∧ J q W) (fun p W => ∃ q, valsO q = p ∧ Jx q W) W
    (fun s A B row hs hg hr => by obtain ⟨q, h1, h2⟩ := hs; exact ⟨q, h1, hJ q A B row h2 hg hr⟩)
    (fun pre x W2 h1 h2 hp hl => by
      obtain ⟨q, rfl, hq⟩ := hp
      obtain ⟨fn, tmps, assign, body, hy, hR⟩ := hY q ⟨x, h1, h2⟩ W2 hq (by rw [hlen]; exact hl)
      refine ⟨fn, tmps, assign, body, hy, hR.mono ?_⟩
      rintro e W' (⟨he, h3, h4⟩ | ⟨he, h3⟩)
      · exact .inl ⟨he, ⟨_, hap q ⟨x, h1, h2⟩, h3⟩, h4⟩
      · exact .inr ⟨he, ⟨_, hap q ⟨x, h1, h2⟩, h3⟩⟩)
    (box_go hBx hW) (hP.below hW) ⟨[], rfl, h0⟩
  refine hres.mono ?_
  rintro e W' ⟨hv, h | h⟩
  · obtain ⟨ys, h1, q, h2, h3⟩ := h
    exact ⟨hv, .inl ⟨q, h2.trans h1, h3⟩⟩
  · obtain ⟨pre, h1, q, h2, h3⟩ := h
    exact ⟨hv, .inr ⟨q, by show valsO q <+: _; rw [h2]; exact h1, h3⟩⟩
end Go.Proofs.YtbahcpejippcjaaDoor
