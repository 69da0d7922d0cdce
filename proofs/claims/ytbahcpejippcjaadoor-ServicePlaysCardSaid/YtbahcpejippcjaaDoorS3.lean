import Derived.Test.YtbahcpejippcjaaDoorS2
import Derived.LoopIn
import Derived.LoopNIn
import Derived.TacticsInMore
import Derived.RangeFuncBound
import Derived.RangeFuncBox
import Derived.RangeFuncCalls
import Derived.RangeFuncKeeps
import Derived.RangeFuncLeaves
import Derived.RangeFuncNested
import Derived.RangeFuncWrites
namespace Go.Proofs.YtbahcpejippcjaaDoor
open Go.RowKit Go.Shelf

def zeroS : Svc := ⟨0, 0, 0, false, 0⟩
/-- The table T: the services by their numbers; M: the map of their ends. -/
structure TabM (T M : Nat) (f : Nat → Svc) (W : World) : Prop where
  blk : ∃ cs, W.heap[T]? = some (.cells cs 81 (0, 0))
  ids : W.cell? ⟨T, 325, none⟩ = some (.map (some M))
  at_ : ∀ i, i < 65 → W.cell? ⟨T, i * 5, none⟩ = some (.int .i64 (f i).proto) ∧ W.cell? ⟨T, i * 5 + 1, none⟩ = some (.int .u32 ((f i).vip : Int)) ∧ W.cell? ⟨T, i * 5 + 2, none⟩ = some (.int .i64 (f i).port) ∧ W.cell? ⟨T, i * 5 + 3, none⟩ = some (.bool (f i).dsr) ∧ W.cell? ⟨T, i * 5 + 4, none⟩ = some (.int .u32 ((f i).nat : Int))
theorem TabM.low {T M : Nat} {f : Nat → Svc} {W : World} (h : TabM T M f W) : T < W.heap.size := by
  obtain ⟨cs, h⟩ := h.blk
  exact (Array.getElem?_eq_some_iff.1 h).1
theorem TabM.fz {T M : Nat} {f : Nat → Svc} {W : World} (h : TabM T M f W) (k : Nat) : W.frozen? ⟨T, k, none⟩ = false := by
  obtain ⟨cs, h⟩ := h.blk
  simp [World.frozen?, h]
theorem TabM.block {T M : Nat} {f : Nat → Svc} {W W' : World} (h : TabM T M f W) (hb : W'.heap[T]? = W.heap[T]?) (_hs : W.heap.size ≤ W'.heap.size) : TabM T M f W' := by
  have e : ∀ k, W'.cell? ⟨T, k, none⟩ = W.cell? ⟨T, k, none⟩ := fun k => World.cell?_of_block (w := W) (a := ⟨T, k, none⟩) hb
  exact ⟨by obtain ⟨cs, h1⟩ := h.blk; exact ⟨cs, hb.trans h1⟩, (e _).trans h.ids, fun i hi => by rw [e, e, e, e, e]; exact h.at_ i hi⟩
theorem TabM.below {T M : Nat} {f : Nat → Svc} {W W' : World} (h : TabM T M f W) (hb : Below W.heap.size W W') : TabM T M f W' := h.block (hb.block T h.low) hb.size

def isI : Option Value → Bool | some (.int .i64 0) => true | _ => false
def isU : Option Value → Bool | some (.int .u32 0) => true | _ => false
def isB : Option Value → Bool | some (.bool false) => true | _ => false
theorem isI_eq {v : Option Value} (h : isI v = true) : v = some (.int .i64 0) := by unfold isI at h; split at h; rfl; cases h
theorem isU_eq {v : Option Value} (h : isU v = true) : v = some (.int .u32 0) := by unfold isU at h; split at h; rfl; cases h
theorem isB_eq {v : Option Value} (h : isB v = true) : v = some (.bool false) := by unfold isB at h; split at h; rfl; cases h
theorem zero_all : ((List.range 65).all fun i => isI Tryd.zeroCells81[i * 5]? && isU Tryd.zeroCells81[i * 5 + 1]? && isI Tryd.zeroCells81[i * 5 + 2]? && isB Tryd.zeroCells81[i * 5 + 3]? && isU Tryd.zeroCells81[i * 5 + 4]?) = true := by kernel_rfl
theorem zero_size : Tryd.zeroCells81.size = 326 := by kernel_rfl
theorem zero_at (i : Nat) (h : i < 65) : Tryd.zeroCells81[i * 5]? = some (.int .i64 0) ∧ Tryd.zeroCells81[i * 5 + 1]? = some (.int .u32 0) ∧ Tryd.zeroCells81[i * 5 + 2]? = some (.int .i64 0) ∧ Tryd.zeroCells81[i * 5 + 3]? = some (.bool false) ∧ Tryd.zeroCells81[i * 5 + 4]? = some (.int .u32 0) := by
  have h2 := List.all_eq_true.1 zero_all i (List.mem_range.2 h)
  simp only [Bool.and_eq_true] at h2
  exact ⟨isI_eq h2.1.1.1.1, isU_eq h2.1.1.1.2, isI_eq h2.1.1.2, isB_eq h2.1.2, isU_eq h2.2⟩
theorem tab_new {M : Nat} {W W' : World} (h : W'.heap[W.heap.size]? = some (.cells (Tryd.zeroCells81.setIfInBounds 325 (.map (some M))) 81 (0, 0))) : TabM W.heap.size M (fun _ => zeroS) W' := by
  have e : ∀ k, W'.cell? ⟨W.heap.size, k, none⟩ = (Tryd.zeroCells81.setIfInBounds 325 (.map (some M)))[k]? := fun k => by simp [World.cell?, h]
  have e2 : ∀ k, k ≠ 325 → (Tryd.zeroCells81.setIfInBounds 325 (.map (some M)))[k]? = Tryd.zeroCells81[k]? := fun k hk => by
    rw [Array.getElem?_setIfInBounds]
    rw [if_neg (fun e => hk e.symm)]
  refine ⟨⟨_, h⟩, ?_, fun i hi => ?_⟩
  · rw [e, Array.getElem?_setIfInBounds, if_pos rfl, if_pos (by rw [zero_size]; omega)]
  · rw [e, e, e, e, e, e2 _ (by omega), e2 _ (by omega), e2 _ (by omega), e2 _ (by omega), e2 _ (by omega)]
    exact zero_at i hi
set_option maxRecDepth 100000 in
theorem new_calls (w : World) : Calls Tryd.prog 17 #[] w fun e w' => e = .returned (.pointer (some ⟨w.heap.size + 1, 0, none⟩)) ∧ TabM (w.heap.size + 1) w.heap.size (fun _ => zeroS) w' ∧ w'.heap[w.heap.size]? = some (.map #[] 0) ∧ Below w.heap.size w w' := by
  have hmm := @run_makeMap Tryd.prog
  go_enter Tryd.func17, Tryd.ntmps17
  go_wp2_with fail
  go_ret
  have k1 := World.alloc_heap_new w (.map #[] 0)
  have k2 := World.alloc_heap_new (w.alloc (.map #[] 0)) (.cells (Tryd.zeroCells81.setIfInBounds 325 (.map (some w.heap.size))) 81)
  have hz : (w.alloc (.map #[] 0)).heap.size = w.heap.size + 1 := by simp
  refine ⟨rfl, ?_, (Below.heap_alloc _ _ _ (by simp)).trans k1, ((Below.refl _ w).alloc (Nat.le_refl _) _).alloc (by simp) _⟩
  have := tab_new (W := w.alloc (.map #[] 0)) k2
  rw [hz] at this
  exact this
theorem get_in (F : Fence) (n : Nat) (h22 : F.fn 22) (hro : F.round = none) (T M k : Nat) (f : Nat → Svc) (W : World) (h : TabM T M f W) (h1 : 1 ≤ k) (h2 : k ≤ 64) (h0 : (f k).proto = 0) :
    CallsIn F n Tryd.prog 22 #[.pointer (some ⟨T, 0, none⟩), .int .i64 (k : Int)] W fun e W' => e = .returned (.tuple #[.agg #[.int .i64 0, .int .u32 0, .int .i64 0, .bool false, .int .u32 0], .bool false]) ∧ W' = W.alloc (.cells #[.int .i64 0, .int .u32 0, .int .i64 0, .bool false, .int .u32 0] 24) := by
  refine callsIn_of_wp Tryd.func22 rfl h22 ?_ hro
  simp only [Tryd.ntmps22, List.size_toArray, List.length_cons, List.length_nil, Nat.reduceAdd, Nat.reduceSub, Array.replicate_succ, Array.replicate_zero, List.push_toArray, List.append_toArray, List.nil_append, List.cons_append]
  obtain ⟨c0, c1, c2, c3, c4⟩ := h.at_ k (by omega)
  rw [h0] at c0
  have hl := h.low
  have k1 : ¬ (k : Int) < 1 := by omega
  have k2 : ¬ (64 : Int) < (k : Int) := by omega
  have k3 : (k : Int) < 65 := by omega
  clear h
  gi_wp2
  obtain ⟨⟨d0, d1, d2, d3, d4⟩, _⟩ := cells5 (World.alloc_heap_new W (.cells #[.int .i64 0, .int .u32 0, .int .i64 0, .bool false, .int .u32 0] 24))
  exact ⟨rfl, .tuple #[.agg #[.int .i64 0, .int .u32 0, .int .i64 0, .bool false, .int .u32 0], .bool false], by simp [results, Tryd.f22, go_sem, d0, d1, d2, d3, d4], rfl, rfl⟩
/-- Which numbers below k are free. -/
def freeTo (f : Nat → Svc) (k : Nat) : List Nat := (List.range k).filter fun i => decide (1 ≤ i) && decide ((f i).proto = 0)
theorem freeTo_yes (f : Nat → Svc) (k : Nat) (h1 : 1 ≤ k) (h : (f k).proto = 0) : freeTo f (k + 1) = freeTo f k ++ [k] := by
  unfold freeTo; rw [List.range_succ, List.filter_append]; simp [h, h1]
theorem freeTo_no (f : Nat → Svc) (k : Nat) (h : (f k).proto ≠ 0) : freeTo f (k + 1) = freeTo f k := by
  unfold freeTo; rw [List.range_succ, List.filter_append]; simp [h]
theorem freeTo_le (f : Nat → Svc) {k n : Nat} (h : k ≤ n) : freeTo f k <+: freeTo f n := by
  obtain ⟨d, rfl⟩ : ∃ d, n = k + d := ⟨n - k, by omega⟩
  unfold freeTo
  rw [List.range_add, List.filter_append]
  exact List.prefix_append _ _
/-- What a round keeps: the table. -/
def KeepT (T Bx : Nat) (W W' : World) : Prop := (W'.heap[T]? = W.heap[T]? ∧ W'.heap[Bx]? = W.heap[Bx]?) ∧ W.heap.size ≤ W'.heap.size
theorem free_in (F : Fence) (n : Nat) (h39 : F.fn 39) (hro : F.round = none) (T : Nat) (w : World) : CallsIn F n Tryd.prog 39 #[.pointer (some ⟨T, 0, none⟩)] w fun e w' => e = .returned (.func (.func 52) #[] #[.pointer (some ⟨w.heap.size, 0, none⟩)]) ∧ w' = w.alloc (.cells #[.pointer (some ⟨T, 0, none⟩)] 36) := by
  refine callsIn_of_wp Tryd.func39 rfl h39 ?_ hro
  simp only [Tryd.ntmps39, List.size_toArray, List.length_cons, List.length_nil, Nat.reduceAdd, Nat.reduceSub, Array.replicate_succ, Array.replicate_zero, List.push_toArray, List.append_toArray, List.nil_append, List.cons_append]
  gi_wp2
  go_ret
  exact ⟨rfl, rfl⟩
set_option maxRecDepth 100000 in
set_option maxHeartbeats 2000000 in
/-- The numbers that are free, where the first ones are: told one by one. -/
theorem free1_in (F : Fence) (n : Nat) (h52 : F.fn 52) (h22 : F.fn 22) (hro : F.round = none) (hn : 2 ≤ n) (l Bx T M : Nat) (f : Nat → Svc) (hf : ∀ k, 1 ≤ k → k ≤ 64 → (f k).proto = 0) (J Jx : List Nat → World → Prop) (W0 : World)
    (hJ : AbidesFrom W0.heap.size J)
    (hY : ∀ pre x W, 1 ≤ x → x ≤ 64 → J pre W → pre.length < (freeTo f 65).length → YieldAt F (n - 1) Tryd.prog l #[.int .i64 (x : Nat)] W fun e W' =>
      (e = .returned (.bool true) ∧ J (pre ++ [x]) W' ∧ KeepT T Bx W W') ∨ (e = .returned (.bool false) ∧ Jx (pre ++ [x]) W'))
    (hBx : W0.heap[Bx]? = some (.cells #[.pointer (some ⟨T, 0, none⟩)] 36 (0, 0))) (hP : TabM T M f W0) (h0 : J [] W0) :
    CallsIn F n Tryd.prog 52 #[.func (.yield l) #[] #[], .pointer (some ⟨Bx, 0, none⟩)] W0 fun e W' => (∃ v, e = .returned v) ∧
      ((∃ ys, ys = freeTo f 65 ∧ J ys W') ∨ (∃ pre, pre <+: freeTo f 65 ∧ Jx pre W')) := by
  have HY := Lib.hid hY
  have HJ := Lib.hid hJ
  have HP := Lib.hid hP
  have H0 := Lib.hid h0
  have HBX := Lib.hid hBx
  clear hY hJ hP h0 hBx
  refine callsIn_of_wp Tryd.func52 rfl h52 ?_ hro
  simp only [Tryd.ntmps52, List.size_toArray, List.length_cons, List.length_nil, Nat.reduceAdd, Nat.reduceSub, Array.replicate_succ, Array.replicate_zero, List.push_toArray, List.append_toArray, List.nil_append, List.cons_append]
  gi_wp2
  gi_loopw [3] (fun i wr => ∃ k : Nat, k ≤ 64 ∧ i = .int .i64 ((k + 1 : Nat) : Int) ∧ wr.heap[T]? = W0.heap[T]? ∧ W0.heap.size ≤ wr.heap.size ∧ wr.heap[Bx]? = some (.cells #[.pointer (some ⟨T, 0, none⟩)] 36 (0, 0)) ∧ J (freeTo f (k + 1)) wr)
    (fun i _ => 65 - (intOf i).toNat)
  case atStart => exact ⟨0, Nat.zero_le _, rfl, rfl, Nat.le_refl _, HBX.out, H0.out⟩
  case round =>
    obtain ⟨k, hk, rfl, hTk, hsz, hbx, hJk⟩ := hrel
    have HTK := Lib.hid hTk
    have HJK := Lib.hid hJk
    have HSZ := Lib.hid hsz
    have HBK := Lib.hid hbx
    have c1 : wr.cell? ⟨Bx, 0, none⟩ = some (.pointer (some ⟨T, 0, none⟩)) := by simp [World.cell?, hbx]
    obtain ⟨j, hj⟩ : ∃ j, k + 1 = j := ⟨_, rfl⟩
    rw [hj] at HJK ⊢
    clear hTk hJk hsz hbx
    by_cases hlt : j ≤ 64
    · have hjl : (j : Int) ≤ 64 := by omega
      have HTB := Lib.hid (HP.out.block HTK.out HSZ.out)
      have HF0 := Lib.hid (hf j (by omega) hlt)
      have hJ2 := HJ.out _ _ _ none HJK.out (World.grownBy_alloc wr (.cells #[.int .i64 0, .int .u32 0, .int .i64 0, .bool false, .int .u32 0] 24) none) (fun r e => by cases e)
      have hJ3 := HJ.out _ _ _ none hJ2 (World.grownBy_alloc (wr.alloc (.cells #[.int .i64 0, .int .u32 0, .int .i64 0, .bool false, .int .u32 0] 24)) (.cells #[.int .i64 0, .int .u32 0, .int .i64 0, .bool false, .int .u32 0] 24) none) (fun r e => by cases e)
      have hlen : (freeTo f j).length < (freeTo f 65).length := by
        have h1 := (freeTo_le f (show j + 1 ≤ 65 by omega)).length_le
        rw [freeTo_yes _ _ (by omega) HF0.out] at h1
        simp at h1
        omega
      have hB2 : Hid (((wr.alloc (.cells #[.int .i64 0, .int .u32 0, .int .i64 0, .bool false, .int .u32 0] 24)).alloc (.cells #[.int .i64 0, .int .u32 0, .int .i64 0, .bool false, .int .u32 0] 24)).heap[Bx]? = some (.cells #[.pointer (some ⟨T, 0, none⟩)] 36 (0, 0))) := Lib.hid (((Below.heap_alloc _ _ _ (by have := (Array.getElem?_eq_some_iff.1 HBK.out).1; simp; omega)).trans (Below.heap_alloc _ _ _ (Array.getElem?_eq_some_iff.1 HBK.out).1)).trans HBK.out)
      have hT2 : Hid (((wr.alloc (.cells #[.int .i64 0, .int .u32 0, .int .i64 0, .bool false, .int .u32 0] 24)).alloc (.cells #[.int .i64 0, .int .u32 0, .int .i64 0, .bool false, .int .u32 0] 24)).heap[T]? = W0.heap[T]? ∧ ((wr.alloc (.cells #[.int .i64 0, .int .u32 0, .int .i64 0, .bool false, .int .u32 0] 24)).alloc (.cells #[.int .i64 0, .int .u32 0, .int .i64 0, .bool false, .int .u32 0] 24)).heap.size = wr.heap.size + 2) := Lib.hid ⟨((Below.heap_alloc _ _ _ (by have := HTB.out.low; simp; omega)).trans (Below.heap_alloc _ _ _ HTB.out.low)).trans HTK.out, by simp⟩
      obtain ⟨fn, tmps, assign, body, hy, hR⟩ := HY.out _ j _ (by omega) hlt hJ3 hlen
      clear hJ2 hJ3 hlen
      gi_wp2_with (refine ⟨fun _ => by omega, ?_⟩; gi_at_call 22; refine (get_in F (n - 1) h22 hro T M j f wr HTB.out (by omega) hlt HF0.out).mono ?_; rintro e W2 ⟨rfl, rfl⟩)
      refine ⟨fun _ => by omega, hR.mono ?_⟩
      rintro e W3 (⟨rfl, hJ4, hk4⟩ | ⟨rfl, hJx4⟩)
      · have HJ4 := Lib.hid hJ4
        have HT4 : Hid (W3.heap[T]? = W0.heap[T]?) := Lib.hid (hk4.1.1.trans hT2.out.1)
        have HB4 : Hid (W3.heap[Bx]? = some (.cells #[.pointer (some ⟨T, 0, none⟩)] 36 (0, 0))) := Lib.hid (hk4.1.2.trans hB2.out)
        have HS4 : Hid (W0.heap.size ≤ W3.heap.size) := Lib.hid (by have h1 := hk4.2; have h2 := HSZ.out; have h3 := hT2.out.2; omega)
        clear hJ4 hk4
        gi_wp2
        go_roundw
        all_goals first
          | exact ⟨j, by omega, by go_num, HT4.out, HS4.out, HB4.out, by rw [freeTo_yes _ _ (by omega) HF0.out]; exact HJ4.out⟩
          | (simp [intOf]; omega)
      · gi_wp2
        refine bodyPost_ret (results_none rfl _ _ _) rfl ?_
        exact ⟨⟨_, rfl⟩, .inr ⟨_, by rw [← freeTo_yes _ _ (by omega) HF0.out]; exact freeTo_le f (by omega), hJx4⟩⟩
    · gi_wp2
      go_end0
      obtain rfl : k = 64 := by omega
      subst hj
      exact ⟨⟨_, rfl⟩, .inl HJK.out⟩
end Go.Proofs.YtbahcpejippcjaaDoor
