import Derived.Test.YtlipkffnllmkgaaD4
namespace Go.Proofs.Ytlipkffnllmkgaa
open Go.RowKit Go.Shelf
attribute [local go_sem] Oper.semAt_some

/-- Those below k that work, rising. -/
def workTo (a : Anc) (k : Nat) : List Nat := (List.range k).filter fun b => a.gone b == 0
theorem workTo_yes (a : Anc) (k : Nat) (h : a.gone k = 0) : workTo a (k + 1) = workTo a k ++ [k] := by
  unfold workTo; rw [List.range_succ, List.filter_append]; simp [h]
theorem workTo_no (a : Anc) (k : Nat) (h : a.gone k ≠ 0) : workTo a (k + 1) = workTo a k := by
  unfold workTo; rw [List.range_succ, List.filter_append]; simp [h]
theorem workTo_prefix (a : Anc) (k : Nat) : ∀ d, workTo a k <+: workTo a (k + d)
  | 0 => List.prefix_rfl
  | d + 1 => by
    refine (workTo_prefix a k d).trans ?_
    rw [← Nat.add_assoc]
    by_cases h : a.gone (k + d) = 0
    · rw [workTo_yes _ _ h]; exact List.prefix_append _ _
    · rw [workTo_no _ _ h]; exact List.prefix_rfl
theorem workTo_le (a : Anc) {k n : Nat} (h : k ≤ n) : workTo a k <+: workTo a n := by
  have := workTo_prefix a k (n - k)
  rwa [show k + (n - k) = n from by omega] at this

theorem working_in (F : Fence) (n : Nat) (h30 : F.fn 28) (hro : F.round = none) (X : Nat) (w : World) :
    CallsIn F n Try.prog 28 #[.pointer (some ⟨X, 0, none⟩)] w fun e w' => e = .returned (.func (.func 44) #[] #[.pointer (some ⟨w.heap.size, 0, none⟩)]) ∧ w' = w.alloc (.cells #[.pointer (some ⟨X, 0, none⟩)] 60) := by
  refine callsIn_of_wp Try.func28 rfl h30 ?_ hro
  simp only [Try.ntmps28, List.size_toArray, List.length_cons, List.length_nil, Nat.reduceAdd, Nat.reduceSub, Array.replicate_succ, Array.replicate_zero, List.push_toArray, List.append_toArray, List.nil_append, List.cons_append]
  gi_wp2
  go_ret
  exact ⟨rfl, rfl⟩

/-- What a round keeps: the places. -/
def KeepOne (L : Nat) (W W' : World) : Prop := W'.heap[L]? = W.heap[L]? ∧ W.heap.size ≤ W'.heap.size

set_option maxRecDepth 100000 in
set_option maxHeartbeats 2000000 in
theorem working1_in (F : Fence) (n : Nat) (h48 : F.fn 44) (hro : F.round = none) (hn : 1 ≤ n) (l Bx X L : Nat) (a : Anc) (hr2 : a.room ≤ 65536) (J Jx : List Nat → World → Prop) (W0 : World)
    (hJ : AbidesFrom W0.heap.size J)
    (hY : ∀ pre x W, J pre W → pre.length < (workTo a a.room).length → YieldAt F (n - 1) Try.prog l #[.int .i64 (x : Nat)] W fun e W' =>
      (e = .returned (.bool true) ∧ J (pre ++ [x]) W' ∧ KeepOne L W W') ∨ (e = .returned (.bool false) ∧ Jx (pre ++ [x]) W'))
    (hBx : W0.cell? ⟨Bx, 0, none⟩ = some (.pointer (some ⟨X, 0, none⟩))) (hX : W0.cell? ⟨X, 0, none⟩ = some (.slice (some ⟨L, 0, none⟩) a.room a.room)) (hP : Places L a W0) (hL : L < W0.heap.size) (h0 : J [] W0) :
    CallsIn F n Try.prog 44 #[.func (.yield l) #[] #[], .pointer (some ⟨Bx, 0, none⟩)] W0 fun e W' => (∃ v, e = .returned v) ∧
      ((∃ ys, ys = workTo a a.room ∧ J ys W') ∨ (∃ pre, pre <+: workTo a a.room ∧ Jx pre W')) := by
  have HY := Lib.hid hY
  have HJ := Lib.hid hJ
  have HP := Lib.hid hP
  have H0 := Lib.hid h0
  clear hY hJ hP h0
  refine callsIn_of_wp Try.func44 rfl h48 ?_ hro
  simp only [Try.ntmps44, List.size_toArray, List.length_cons, List.length_nil, Nat.reduceAdd, Nat.reduceSub, Array.replicate_succ, Array.replicate_zero, List.push_toArray, List.append_toArray, List.nil_append, List.cons_append]
  gi_wp2
  gi_loopw [10] (fun i wr => ∃ k : Nat, k ≤ a.room ∧ i = .int .i64 (k : Int) ∧ wr.heap[L]? = W0.heap[L]? ∧ W0.heap.size ≤ wr.heap.size ∧ J (workTo a k) wr)
    (fun i _ => a.room - (intOf i).toNat)
  case atStart => exact ⟨0, Nat.zero_le _, rfl, rfl, Nat.le_refl _, H0.out⟩
  case round =>
    obtain ⟨k, hk, rfl, hLk, hsz, hJk⟩ := hrel
    have HLK := Lib.hid hLk
    have HJK := Lib.hid hJk
    have HSZ := Lib.hid hsz
    clear hLk hJk hsz
    by_cases hlt : k < a.room
    · obtain ⟨⟨p0, p1, p2, p3⟩, _⟩ := (HP.out.block HLK.out) k hlt
      by_cases hg : a.gone k = 0
      · rw [hg] at p0
        have hJ2 := HJ.out _ _ _ none HJK.out (World.grownBy_alloc wr (.cells #[.int .i64 0, .int .i64 (a.works k : Int), .int .i64 (a.at_ k : Int), .int .i64 (a.next k : Int)] 93) none) (fun r e => by cases e)
        have hlen : (workTo a k).length < (workTo a a.room).length := by
          have h1 := (workTo_le a (show k + 1 ≤ a.room by omega)).length_le
          rw [workTo_yes _ _ hg] at h1
          simp at h1
          omega
        obtain ⟨fn, tmps, assign, body, hy, hR⟩ := HY.out _ k _ hJ2 hlen
        have HG := Lib.hid hg
        clear hg hJ2 hlen
        gi_wp2
        refine hR.mono ?_
        rintro e W3 (⟨rfl, hJ3, hk3⟩ | ⟨rfl, hJx3⟩)
        · have HJ3 := Lib.hid hJ3
          have HL3 : Hid (W3.heap[L]? = W0.heap[L]?) := Lib.hid (hk3.1.trans ((Below.heap_alloc wr _ L (by have := HSZ.out; omega)).trans HLK.out))
          have HS3 : Hid (W0.heap.size ≤ W3.heap.size) := Lib.hid (by have h1 := hk3.2; have h2 := HSZ.out; simp at h1; omega)
          clear hJ3 hk3
          gi_wp2
          go_roundw
          case rel => exact ⟨k + 1, by omega, by go_num, HL3.out, HS3.out, by rw [workTo_yes _ _ HG.out]; exact HJ3.out⟩
          case measure => simp [intOf]; omega
        · gi_wp2
          refine bodyPost_ret (results_none rfl _ _ _) rfl ?_
          exact ⟨⟨_, rfl⟩, .inr ⟨_, by rw [← workTo_yes _ _ HG.out]; exact workTo_le a (by omega), hJx3⟩⟩
      · have hgi : ((a.gone k : Int) == 0) = false := by simp; omega
        have hJ2 := HJ.out _ _ _ none HJK.out (World.grownBy_alloc wr (.cells #[.int .i64 (a.gone k : Int), .int .i64 (a.works k : Int), .int .i64 (a.at_ k : Int), .int .i64 (a.next k : Int)] 93) none) (fun r e => by cases e)
        have HG := Lib.hid hg
        have HJ2 := Lib.hid hJ2
        clear hg hJ2
        gi_wp2
        refine ⟨fun _ h => (by cases h), ?_⟩
        gi_wp2
        go_roundw
        case rel => exact ⟨k + 1, by omega, by go_num, (Below.heap_alloc wr _ L (by have := HSZ.out; omega)).trans HLK.out, by have := HSZ.out; simp; omega, by rw [workTo_no _ _ HG.out]; exact HJ2.out⟩
        case measure => simp [intOf]; omega
    · gi_wp2
      go_end0
      obtain rfl : k = a.room := by omega
      exact ⟨⟨_, rfl⟩, .inl ⟨_, rfl, HJK.out⟩⟩
end Go.Proofs.Ytlipkffnllmkgaa
