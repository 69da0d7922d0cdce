/- The statement 'PoolAllSaid' of the function PoolAll is proved: for every input it returns true and its arguments read afterwards as before. Conditions: none beside the statement's own. The frame is the kit's shell, written by program; the walk stands in YtlipkffnllmkgaaQK. -/
import Derived.Test.YtlipkffnllmkgaaQM
import Derived.Test.YtlipkffnllmkgaaRows
import Derived.WalkKit
import Derived.ProofKit
import Derived.OpenShut
import Derived.ShutString
import Derived.ChangeOld
import Derived.Below
namespace Go.Proofs.Ytlipkffnllmkgaa
open Go.RowKit Go.Shelf Go.Maps
attribute [local go_sem] Oper.semAt_some

/-- The last ID that came. -/
def lastId (l : List Mem) : Int := (l.map Mem.id).getLastD 0
def actOf (l : List Mem) : Nat := (l.filter (fun m => decide (m.state = 1))).length
def Rises (l : List Mem) : Prop := (l.map Mem.id).Pairwise (· < ·) ∧ ∀ m ∈ l, 1 ≤ m.id
theorem Rises.last {l : List Mem} {m : Mem} (h : Rises (l ++ [m])) : lastId l < m.id := by
  obtain ⟨h1, h2⟩ := h
  unfold lastId
  rw [List.map_append, List.pairwise_append] at h1
  cases hl : (l.map Mem.id).getLast? with
  | none =>
    rw [List.getLastD_eq_getLast?, hl]
    have := h2 m (by simp)
    show (0 : Int) < m.id
    omega
  | some x =>
    rw [List.getLastD_eq_getLast?, hl]
    exact h1.2.2 x (List.mem_of_getLast? hl) m.id (by simp)
theorem last_snoc (l : List Mem) (m : Mem) : lastId (l ++ [m]) = m.id := by unfold lastId; simp
theorem actOf_snoc (l : List Mem) (m : Mem) : actOf (l ++ [m]) = actOf l + (if m.state = 1 then 1 else 0) := by
  unfold actOf
  rw [List.filter_append, List.length_append]
  by_cases h : m.state = 1
  · rw [if_pos h, List.filter_cons_of_pos (by simp [h])]; rfl
  · rw [if_neg h, List.filter_cons_of_neg (by simp [h])]; rfl
theorem four_boxes {w W2 : World} {o1 o2 o3 o4 : Obj} (h : W2 = (((w.alloc o1).alloc o2).alloc o3).alloc o4) : W2.heap[w.heap.size]? = some o1 ∧ W2.heap[w.heap.size + 1]? = some o2 ∧ W2.heap[w.heap.size + 2]? = some o3 ∧ W2.heap[w.heap.size + 3]? = some o4 := by
  have k1 := World.alloc_heap_new w o1
  have k2 := World.alloc_heap_new (w.alloc o1) o2
  rw [World.size_alloc] at k2
  have k3 := World.alloc_heap_new ((w.alloc o1).alloc o2) o3
  rw [World.size_alloc, World.size_alloc] at k3
  have k4 := World.alloc_heap_new (((w.alloc o1).alloc o2).alloc o3) o4
  rw [World.size_alloc, World.size_alloc, World.size_alloc] at k4
  subst h
  exact ⟨(Below.heap_alloc _ _ _ (by simp; omega)).trans ((Below.heap_alloc _ _ _ (by simp; omega)).trans ((Below.heap_alloc _ _ _ (by simp)).trans k1)), (Below.heap_alloc _ _ _ (by simp)).trans ((Below.heap_alloc _ _ _ (by simp)).trans k2), (Below.heap_alloc _ _ _ (by simp)).trans k3, k4⟩
theorem set_three {W wr : World} {Q n0 : Nat} {a b c a' b' c' : Int} (hn0 : Q + 4 = n0) (hwr : wr.heap.size = Q) (h1 : W.heap[Q]? = some (.cells #[.int .i64 a] 3 (0, 0))) (h2 : W.heap[Q + 1]? = some (.cells #[.int .i64 b] 3 (0, 0))) (h3 : W.heap[Q + 2]? = some (.cells #[.int .i64 c] 3 (0, 0))) (hB : Below wr.heap.size wr W) :
    (KeepsFrom n0 W (((W.setCell ⟨Q, 0, none⟩ (.int .i64 a')).setCell ⟨Q + 1, 0, none⟩ (.int .i64 b')).setCell ⟨Q + 2, 0, none⟩ (.int .i64 c')) ∧ KeepP n0 (fun b => b = Q ∨ b = Q + 1 ∨ b = Q + 2) W (((W.setCell ⟨Q, 0, none⟩ (.int .i64 a')).setCell ⟨Q + 1, 0, none⟩ (.int .i64 b')).setCell ⟨Q + 2, 0, none⟩ (.int .i64 c'))) ∧
      ((((W.setCell ⟨Q, 0, none⟩ (.int .i64 a')).setCell ⟨Q + 1, 0, none⟩ (.int .i64 b')).setCell ⟨Q + 2, 0, none⟩ (.int .i64 c')).heap[Q]? = some (.cells #[.int .i64 a'] 3 (0, 0)) ∧ (((W.setCell ⟨Q, 0, none⟩ (.int .i64 a')).setCell ⟨Q + 1, 0, none⟩ (.int .i64 b')).setCell ⟨Q + 2, 0, none⟩ (.int .i64 c')).heap[Q + 1]? = some (.cells #[.int .i64 b'] 3 (0, 0)) ∧ (((W.setCell ⟨Q, 0, none⟩ (.int .i64 a')).setCell ⟨Q + 1, 0, none⟩ (.int .i64 b')).setCell ⟨Q + 2, 0, none⟩ (.int .i64 c')).heap[Q + 2]? = some (.cells #[.int .i64 c'] 3 (0, 0)) ∧
        W.heap.size ≤ (((W.setCell ⟨Q, 0, none⟩ (.int .i64 a')).setCell ⟨Q + 1, 0, none⟩ (.int .i64 b')).setCell ⟨Q + 2, 0, none⟩ (.int .i64 c')).heap.size) ∧ Below wr.heap.size wr (((W.setCell ⟨Q, 0, none⟩ (.int .i64 a')).setCell ⟨Q + 1, 0, none⟩ (.int .i64 b')).setCell ⟨Q + 2, 0, none⟩ (.int .i64 c')) := by
  have hk : ∀ i, i ≠ Q → i ≠ Q + 1 → i ≠ Q + 2 → (((W.setCell ⟨Q, 0, none⟩ (.int .i64 a')).setCell ⟨Q + 1, 0, none⟩ (.int .i64 b')).setCell ⟨Q + 2, 0, none⟩ (.int .i64 c')).heap[i]? = W.heap[i]? := fun i g1 g2 g3 => (Below.heap_setCell _ _ _ _ g3).trans ((Below.heap_setCell _ _ _ _ g2).trans (Below.heap_setCell _ _ _ _ g1))
  have hs : (((W.setCell ⟨Q, 0, none⟩ (.int .i64 a')).setCell ⟨Q + 1, 0, none⟩ (.int .i64 b')).setCell ⟨Q + 2, 0, none⟩ (.int .i64 c')).heap.size = W.heap.size := by simp [World.setCell]
  refine ⟨⟨⟨by rw [hs]; exact Nat.le_refl _, fun i o hi ho _ => (hk i (by omega) (by omega) (by omega)).trans ho⟩, by rw [hs]; exact Nat.le_refl _, fun i o ho hne _ => (hk i (fun e => hne (.inl e)) (fun e => hne (.inr (.inl e))) (fun e => hne (.inr (.inr e)))).trans ho⟩, ⟨?_, ?_, ?_, by rw [hs]; exact Nat.le_refl _⟩, ?_⟩
  · simp [World.setCell, Array.getElem?_modify, h1]
  · simp [World.setCell, Array.getElem?_modify, h2]
  · simp [World.setCell, Array.getElem?_modify, h3]
  · exact ((hB.setCell (p := ⟨Q, 0, none⟩) (by simp; omega) _).setCell (p := ⟨Q + 1, 0, none⟩) (by simp; omega) _).setCell (p := ⟨Q + 2, 0, none⟩) (by simp; omega) _
theorem set_two {W wr : World} {Q n0 : Nat} {a b c a' b' : Int} (hn0 : Q + 4 = n0) (hwr : wr.heap.size = Q) (h1 : W.heap[Q]? = some (.cells #[.int .i64 a] 3 (0, 0))) (h2 : W.heap[Q + 1]? = some (.cells #[.int .i64 b] 3 (0, 0))) (h3 : W.heap[Q + 2]? = some (.cells #[.int .i64 c] 3 (0, 0))) (hB : Below wr.heap.size wr W) :
    (KeepsFrom n0 W ((W.setCell ⟨Q, 0, none⟩ (.int .i64 a')).setCell ⟨Q + 1, 0, none⟩ (.int .i64 b')) ∧ KeepP n0 (fun b => b = Q ∨ b = Q + 1 ∨ b = Q + 2) W ((W.setCell ⟨Q, 0, none⟩ (.int .i64 a')).setCell ⟨Q + 1, 0, none⟩ (.int .i64 b'))) ∧
      (((W.setCell ⟨Q, 0, none⟩ (.int .i64 a')).setCell ⟨Q + 1, 0, none⟩ (.int .i64 b')).heap[Q]? = some (.cells #[.int .i64 a'] 3 (0, 0)) ∧ ((W.setCell ⟨Q, 0, none⟩ (.int .i64 a')).setCell ⟨Q + 1, 0, none⟩ (.int .i64 b')).heap[Q + 1]? = some (.cells #[.int .i64 b'] 3 (0, 0)) ∧ ((W.setCell ⟨Q, 0, none⟩ (.int .i64 a')).setCell ⟨Q + 1, 0, none⟩ (.int .i64 b')).heap[Q + 2]? = some (.cells #[.int .i64 c] 3 (0, 0)) ∧
        W.heap.size ≤ ((W.setCell ⟨Q, 0, none⟩ (.int .i64 a')).setCell ⟨Q + 1, 0, none⟩ (.int .i64 b')).heap.size) ∧ Below wr.heap.size wr ((W.setCell ⟨Q, 0, none⟩ (.int .i64 a')).setCell ⟨Q + 1, 0, none⟩ (.int .i64 b')) := by
  have hk : ∀ i, i ≠ Q → i ≠ Q + 1 → i ≠ Q + 2 → ((W.setCell ⟨Q, 0, none⟩ (.int .i64 a')).setCell ⟨Q + 1, 0, none⟩ (.int .i64 b')).heap[i]? = W.heap[i]? := fun i g1 g2 _ => (Below.heap_setCell _ _ _ _ g2).trans (Below.heap_setCell _ _ _ _ g1)
  have hs : ((W.setCell ⟨Q, 0, none⟩ (.int .i64 a')).setCell ⟨Q + 1, 0, none⟩ (.int .i64 b')).heap.size = W.heap.size := by simp [World.setCell]
  refine ⟨⟨⟨by rw [hs]; exact Nat.le_refl _, fun i o hi ho _ => (hk i (by omega) (by omega) (by omega)).trans ho⟩, by rw [hs]; exact Nat.le_refl _, fun i o ho hne _ => (hk i (fun e => hne (.inl e)) (fun e => hne (.inr (.inl e))) (fun e => hne (.inr (.inr e)))).trans ho⟩, ⟨?_, ?_, ?_, by rw [hs]; exact Nat.le_refl _⟩, ?_⟩
  · simp [World.setCell, Array.getElem?_modify, h1]
  · simp [World.setCell, Array.getElem?_modify, h2]
  · simp [World.setCell, Array.getElem?_modify, h3]
  · exact (hB.setCell (p := ⟨Q, 0, none⟩) (by simp; omega) _).setCell (p := ⟨Q + 1, 0, none⟩) (by simp; omega) _
def box1 (v : Int) : Obj := .cells #[.int .i64 v] 3 (0, 0)

set_option maxRecDepth 100000 in
set_option maxHeartbeats 40000000 in
theorem walk_PoolAll (a0 : Option Addr) (len0 cap0 : Nat) (z0 : List Int) (a1 : Int) (w : World) (w0 : RowIn .u8 w a0 len0 cap0 z0) (w1 : (Lit.int .i64 a1).wf = true) :
    Calls Try.prog 5 #[.slice a0 len0 cap0, .int .i64 a1] w fun e w' => e = .returned (.bool true) ∧ Below w.heap.size w w' := by
  have W0 := Lib.hid w0
  have W1 := Lib.hid w1
  have hl1 : len0 ≤ cap0 := w0.len.1
  have hl2 : cap0 ≤ 9223372036854775807 := w0.len.2
  clear w0 w1
  have hmm := @run_makeMap Try.prog
  refine calls_of_endsP Try.func5 rfl ?_
  simp only [Try.ntmps5, List.size_toArray, List.length_cons, List.length_nil, Nat.reduceAdd, Nat.reduceSub, Array.replicate_succ, Array.replicate_zero, List.push_toArray, List.append_toArray, List.nil_append, List.cons_append]
  go_wp2_with (first
    | (go_at_call 6; refine (examples13 _).mono ?_; rintro e wx ⟨rfl, hB⟩; have HBX := Lib.hid (((Below.refl w.heap.size w).alloc (Nat.le_refl _) boxR).trans (hB.mono (by simp))); have HRX := Lib.hid ((hB.block w.heap.size (by simp)).trans (World.alloc_heap_new w boxR)); clear hB)
    | (go_at_call 7; refine (at_new 30 (by omega) (by omega) poKey rfl _).mono ?_; rintro e wa ⟨X, rfl, hP, hb⟩; have HA := Lib.hid (allM_start HBX.out.size HRX.out hP hb); have HB := Lib.hid (((HBX.out.trans (hb.mono HBX.out.size)).alloc (by have := HBX.out.size; have := hb.size; omega) (.map #[] 0)).alloc (by have := HBX.out.size; have := hb.size; simp; omega) (.cells #[.map (some wa.heap.size)] 56)); have HMB := Lib.hid (show w.heap.size < wa.heap.size from by have := (Array.getElem?_eq_some_iff.1 HRX.out).1; have := hb.size; omega); clear hP hb))
  obtain ⟨Ms, hMs⟩ : ∃ Ms, wa.heap.size = Ms := ⟨_, rfl⟩
  rw [hMs] at HA HB HMB
  rw [hMs]
  obtain ⟨C, hC⟩ : ∃ C, Ms + 1 = C := ⟨_, rfl⟩
  rw [hC] at HA
  rw [hC]
  have HORD := Lib.hid (show w.heap.size ≠ Ms ∧ C ≠ Ms ∧ w.heap.size ≤ Ms from ⟨by have := HMB.out; omega, by omega, by have := HMB.out; omega⟩)
  have HCM := Lib.hid hC
  clear hMs hC
  go_loopw [9] (fun vi wr => ∃ (i : Nat) (p : Po) (f : Int → Option Value), vi = .int .i64 (i : Int) ∧ i ≤ 12 ∧ AllM w.heap.size X i p w.heap.size C Ms i f wr ∧ InvA i p f ∧ Below w.heap.size w wr) (fun vi _ => 13 - (intOf vi).toNat)
  case atStart => exact ⟨0, _, _, rfl, by omega, HA.out, ⟨Cnt.new 20 30 (by omega) (by omega) poKey rfl, Nat.zero_le _, rfl, fun _ _ => rfl⟩, HB.out⟩
  case round =>
    obtain ⟨i, p, f, rfl, hi, hA, hI, hB⟩ := hrel
    clear HA HB
    have HA := Lib.hid hA
    have HI := Lib.hid hI
    have HB := Lib.hid hB
    clear hA hI hB
    by_cases hlt : i < len0 ∧ i < 12
    · obtain ⟨x, rfl, _, _, hc, hw⟩ := W0.out.read HB.out hlt.1
      obtain ⟨z, hz, hz2⟩ := u8_nat hw
      rw [hz] at hc
      have hi2 : (i : Int) < (len0 : Int) := by omega
      have hi3 : (i : Int) < 12 := by omega
      obtain ⟨id, hid⟩ : ∃ id : Nat, 1 + z % 20 = id := ⟨_, rfl⟩
      have hid2 : (1 : Int) + (z : Int) % 20 = (id : Int) := by omega
      have hid3 : 1 ≤ (id : Int) ∧ (id : Int) ≤ 20 := by omega
      have c8 := HA.out.cell
      have hw' : (Lit.int .i64 (id : Int)).wf = true := i64_wf' (by omega) (by omega)
      obtain ⟨t, ht⟩ : ∃ t : Nat, z / 20 % 3 = t := ⟨_, rfl⟩
      have ht2 : (z : Int) / 20 % 3 = (t : Int) := by omega
      have ht3 : t = 0 ∨ t = 1 ∨ t = 2 := by omega
      clear hw hz hid ht
      go_upto_block 2 with fail
      have c0 := HA.out.cell
      have HN := Lib.hid (show i + 1 < maxLen from by unfold maxLen; omega)
      have HIB := Lib.hid (show -9223372036854775808 ≤ (id : Int) ∧ (id : Int) ≤ 9223372036854775807 from ⟨by omega, by omega⟩)
      rcases ht3 with rfl | rfl | rfl
      · obtain ⟨r, st, hr, hst, hcase⟩ := invA_add HI.out (by omega) (id := (id : Int)) hid3
        have HR := Lib.hid hr
        have HST := Lib.hid hst
        clear hr hst
        rcases hcase with ⟨rfl, rfl, hI2⟩ | ⟨rfl, rfl, hI2⟩ | ⟨rfl, rfl, hI2⟩
        · have HI2 := Lib.hid hI2
          clear hI2
          go_wp2_with (go_at_call 13; refine ((HA.out.call (fun S hS => at_add_any (a := 7) hS HI.out.cnt.good HN.out hw')).mono ?_); rw [HR.out]; rintro e w1 ⟨rfl, hA, hB1⟩; have hq := hA.look HI.out.st hw' HST.out; have c9 := hA.cell; obtain ⟨w2, hrun, hA2, hB2⟩ := hA.store (Nat.lt_of_succ_lt HN.out) HORD.out hw' (.int .i64 1); replace HA := Lib.hid (hA2.more (N' := i + 1) (by omega) (Nat.le_refl _)); replace HB := Lib.hid ((HB.out.trans hB1).trans hB2); clear c0 c8 hA hA2 hB1 hB2)
          go_roundw
          case rel => exact ⟨i + 1, _, _, by go_num, by omega, HA.out, HI2.out, HB.out⟩
          case measure => simp [intOf]; omega
        · have HI2 := Lib.hid hI2
          clear hI2
          go_wp2_with (go_at_call 13; refine ((HA.out.call (fun S hS => at_add_any (a := 7) hS HI.out.cnt.good HN.out hw')).mono ?_); rw [HR.out]; rintro e w1 ⟨rfl, hA, hB1⟩; have hq := hA.look HI.out.st hw' HST.out; have c9 := hA.cell; replace HA := Lib.hid (hA.more (N' := i + 1) (nn' := i + 1) (by omega) (by omega)); replace HB := Lib.hid (HB.out.trans hB1); clear c0 c8 hA hB1)
          go_roundw
          case rel => exact ⟨i + 1, _, _, by go_num, by omega, HA.out, HI2.out, HB.out⟩
          case measure => simp [intOf]; omega
        · have HI2 := Lib.hid hI2
          clear hI2
          go_wp2_with (go_at_call 13; refine ((HA.out.call (fun S hS => at_add_any (a := 7) hS HI.out.cnt.good HN.out hw')).mono ?_); rw [HR.out]; rintro e w1 ⟨rfl, hA, hB1⟩; have hq := hA.look HI.out.st hw' HST.out; have c9 := hA.cell; replace HA := Lib.hid (hA.more (N' := i + 1) (nn' := i + 1) (by omega) (by omega)); replace HB := Lib.hid (HB.out.trans hB1); clear c0 c8 hA hB1)
          go_roundw
          case rel => exact ⟨i + 1, _, _, by go_num, by omega, HA.out, HI2.out, HB.out⟩
          case measure => simp [intOf]; omega
      · obtain ⟨r, st, hr, hst, hcase⟩ := invA_drain HI.out (id := (id : Int))
        have HR := Lib.hid hr
        have HST := Lib.hid hst
        clear hr hst
        rcases hcase with ⟨rfl, rfl, hI2⟩ | ⟨rfl, rfl, hI2⟩ | ⟨rfl, rfl, hI2⟩
        · have HI2 := Lib.hid hI2
          clear hI2
          go_wp2_with (go_at_call 14; refine ((HA.out.call (fun S hS => at_drain_any hS HI.out.cnt.good (Nat.lt_of_succ_lt HN.out) HIB.out)).mono ?_); rw [HR.out]; rintro e w1 ⟨rfl, hA, hB1⟩; have hq := hA.look HI.out.st hw' HST.out; have c9 := hA.cell; obtain ⟨w2, hrun, hA2, hB2⟩ := hA.store (Nat.lt_of_succ_lt HN.out) HORD.out hw' (.int .i64 2); replace HA := Lib.hid (hA2.more (N' := i + 1) (by omega) (Nat.le_refl _)); replace HB := Lib.hid ((HB.out.trans hB1).trans hB2); clear c0 c8 hA hA2 hB1 hB2)
          go_roundw
          case rel => exact ⟨i + 1, _, _, by go_num, by omega, HA.out, HI2.out, HB.out⟩
          case measure => simp [intOf]; omega
        · have HI2 := Lib.hid hI2
          clear hI2
          go_wp2_with (go_at_call 14; refine ((HA.out.call (fun S hS => at_drain_any hS HI.out.cnt.good (Nat.lt_of_succ_lt HN.out) HIB.out)).mono ?_); rw [HR.out]; rintro e w1 ⟨rfl, hA, hB1⟩; have hq := hA.look HI.out.st hw' HST.out; have c9 := hA.cell; replace HA := Lib.hid (hA.more (N' := i + 1) (nn' := i + 1) (by omega) (by omega)); replace HB := Lib.hid (HB.out.trans hB1); clear c0 c8 hA hB1)
          go_roundw
          case rel => exact ⟨i + 1, _, _, by go_num, by omega, HA.out, HI2.out, HB.out⟩
          case measure => simp [intOf]; omega
        · have HI2 := Lib.hid hI2
          clear hI2
          go_wp2_with (go_at_call 14; refine ((HA.out.call (fun S hS => at_drain_any hS HI.out.cnt.good (Nat.lt_of_succ_lt HN.out) HIB.out)).mono ?_); rw [HR.out]; rintro e w1 ⟨rfl, hA, hB1⟩; have hq := hA.look HI.out.st hw' HST.out; have c9 := hA.cell; replace HA := Lib.hid (hA.more (N' := i + 1) (nn' := i + 1) (by omega) (by omega)); replace HB := Lib.hid (HB.out.trans hB1); clear c0 c8 hA hB1)
          go_roundw
          case rel => exact ⟨i + 1, _, _, by go_num, by omega, HA.out, HI2.out, HB.out⟩
          case measure => simp [intOf]; omega
      · obtain ⟨r, st, hr, hst, hcase, hI2⟩ := invA_remove HI.out (id := (id : Int))
        have HR := Lib.hid hr
        have HST := Lib.hid hst
        have HI2 := Lib.hid hI2
        clear hr hst hI2
        rcases hcase with ⟨rfl, rfl⟩ | ⟨rfl, rfl⟩ | ⟨rfl, rfl⟩
        · go_wp2_with (go_at_call 16; refine ((HA.out.call (fun S hS => at_remove_any hS HI.out.cnt.good HIB.out)).mono ?_); rw [HR.out]; rintro e w1 ⟨rfl, hA, hB1⟩; have hq := hA.look HI.out.st hw' HST.out; have c9 := hA.cell; obtain ⟨w2, hrun, hA2, hB2⟩ := hA.store (Nat.lt_of_succ_lt HN.out) HORD.out hw' (.int .i64 0); replace HA := Lib.hid (hA2.more (N' := i + 1) (by omega) (Nat.le_refl _)); replace HB := Lib.hid ((HB.out.trans hB1).trans hB2); clear c0 c8 hA hA2 hB1 hB2)
          go_roundw
          case rel => exact ⟨i + 1, _, _, by go_num, by omega, HA.out, HI2.out, HB.out⟩
          case measure => simp [intOf]; omega
        · go_wp2_with (go_at_call 16; refine ((HA.out.call (fun S hS => at_remove_any hS HI.out.cnt.good HIB.out)).mono ?_); rw [HR.out]; rintro e w1 ⟨rfl, hA, hB1⟩; have hq := hA.look HI.out.st hw' HST.out; have c9 := hA.cell; obtain ⟨w2, hrun, hA2, hB2⟩ := hA.store (Nat.lt_of_succ_lt HN.out) HORD.out hw' (.int .i64 0); replace HA := Lib.hid (hA2.more (N' := i + 1) (by omega) (Nat.le_refl _)); replace HB := Lib.hid ((HB.out.trans hB1).trans hB2); clear c0 c8 hA hA2 hB1 hB2)
          go_roundw
          case rel => exact ⟨i + 1, _, _, by go_num, by omega, HA.out, HI2.out, HB.out⟩
          case measure => simp [intOf]; omega
        · go_wp2_with (go_at_call 16; refine ((HA.out.call (fun S hS => at_remove_any hS HI.out.cnt.good HIB.out)).mono ?_); rw [HR.out]; rintro e w1 ⟨rfl, hA, hB1⟩; have hq := hA.look HI.out.st hw' HST.out; have c9 := hA.cell; obtain ⟨w2, hrun, hA2, hB2⟩ := hA.store (Nat.lt_of_succ_lt HN.out) HORD.out hw' (.int .i64 0); replace HA := Lib.hid (hA2.more (N' := i + 1) (by omega) (Nat.le_refl _)); replace HB := Lib.hid ((HB.out.trans hB1).trans hB2); clear c0 c8 hA hA2 hB1 hB2)
          go_roundw
          case rel => exact ⟨i + 1, _, _, by go_num, by omega, HA.out, HI2.out, HB.out⟩
          case measure => simp [intOf]; omega
    · have hex : ¬ ((i : Int) < (len0 : Int)) ∨ ((i : Int) < (len0 : Int) ∧ ¬ (i : Int) < 12) := by omega
      have HRL := Lib.hid (show w.heap.size < wr.heap.size from by obtain ⟨o, hg, _⟩ := HA.out; exact (Array.getElem?_eq_some_iff.1 (hg.has (b := w.heap.size) (o := boxR) (by simp))).1)
      rcases hex with hc1 | ⟨hc1, hc2⟩
      · skip
        obtain ⟨wo, hwo⟩ : ∃ wo : World, wo = wr := ⟨_, rfl⟩
        subst hwo
        go_wp2_with (go_at_call 12; refine callsIn_wide.1 ((all12 _ _).mono ?_); rintro e w8 ⟨rfl, rfl⟩)
        refine (wpIn_wide (n := 9)).1 ?_
        refine wpIn_genP _ ?_
        intro W2 hW2
        refine wpIn_gen _ ?_
        intro A hA9
        obtain ⟨Q, hQ⟩ : ∃ Q, wo.heap.size = Q := ⟨_, rfl⟩
        have hs2 : W2.heap.size = Q + 4 := by rw [hW2, ← hQ]; simp
        have hb2 : Below wo.heap.size wo W2 := by rw [hW2]; exact ((((Below.refl _ wo).alloc (Nat.le_refl _) _).alloc (by simp) _).alloc (by simp; omega) _).alloc (by simp; omega) _
        obtain ⟨k1, k2, k3, k4⟩ := four_boxes hW2
        rw [hQ] at k1 k2 k3 k4
        rw [hQ] at hA9
        clear hW2
        have hks := keys_upTo HI.out.cnt (by omega)
        obtain ⟨ks, hkse⟩ : ∃ ks, (upTo 20).filter (fun k => (p.all k).isSome) = ks := ⟨_, rfl⟩
        rw [hkse] at hks
        have hkl : ks.length ≤ 20 := by rw [← hkse]; exact Nat.le_trans (List.length_filter_le _ _) (by simp [upTo])
        clear hkse
        have hst : SeqStopsK Fence.wide 8 Try.prog 25 #[.pointer (some ⟨Q + 3, 0, none⟩)] (fun m : MemO p ks => #[Value.agg #[.int .i64 m.val.id, .int .u32 m.val.addr, .int .i64 m.val.port], .int .i64 m.val.state]) (KeepP W2.heap.size (fun b => b = Q ∨ b = Q + 1 ∨ b = Q + 2)) (fun ys => valsM ys = ks.filterMap p.all) (fun pre => valsM pre <+: ks.filterMap p.all) ks.length W2 := by
          obtain ⟨o, ⟨S, hP, hg⟩, hm⟩ := HA.out
          exact all_stops_at (at_below hP hb2) k4 hks (by omega) (fun i e => by omega) (by omega) (fun i e hi => by have := hP.low.1 i hi; omega)
        have HKS := Lib.hid hks
        have HB2 := Lib.hid hb2
        have HQ := Lib.hid hQ
        have hQw : w.heap.size < Q := by have := HRL.out; omega
        clear hks hb2 hQ
        refine wpIn_rangeFunc_ownH (α := MemO p ks) rfl (by omega) (gf := 25) (lb := #[.pointer (some ⟨Q + 3, 0, none⟩)]) (by rw [hA9]; rfl) trivial (enters_of Try.func25 (by kernel_rfl) rfl) hst
          (fun h h' => h.trans h') (fun W l o o' hl hlo hcf _ => KeepP.book W l o o' hl hlo hcf) (Below.refl _ _) (fun _ => rfl)
          (fun pre W => (W.heap[Q]? = some (box1 (lastId (valsM pre))) ∧ W.heap[Q + 1]? = some (box1 (pre.length : Int)) ∧ W.heap[Q + 2]? = some (box1 (actOf (valsM pre) : Int)) ∧ Q + 4 ≤ W.heap.size) ∧ Below wo.heap.size wo W)
          (fun c pre _ => c = Code.ret ∧ ¬ Rises (valsM pre))
          (OwnFrom.and ?own (ownFrom_below (by have := HQ.out; omega) (by have := HQ.out; omega)))
          (fun _ s A1 B1 row hs _ _ => hs)
          ⟨⟨k1, k2, k3, by omega⟩, HB2.out⟩
          (fun x a' W => ∃ Bx, Q + 4 ≤ Bx ∧ W.heap[Bx]? = some (.cells #[.int .i64 x.val.id, .int .u32 x.val.addr, .int .i64 x.val.port] 33 (0, 0)) ∧ a' = { tmps := (((A.tmps.setIfInBounds 115 (.agg #[.int .i64 x.val.id, .int .u32 x.val.addr, .int .i64 x.val.port])).setIfInBounds 116 (.int .i64 x.val.state)).setIfInBounds 17 (.pointer (some ⟨Bx, 0, none⟩))).setIfInBounds 18 (.int .i64 x.val.state), defers := [] })
          ?ownA ?assign ?body ?done ?stop
        case own =>
          rintro pre A1 B1 row ⟨h1, h2, h3, h4⟩ hg hr
          have hne : ∀ b, b < Q + 4 → some b ≠ row := fun b hb e => by have := (hr b e.symm).1; omega
          exact ⟨(hg.block _ (Array.getElem?_eq_some_iff.1 h1).1 (hne _ (by omega))).trans h1, (hg.block _ (Array.getElem?_eq_some_iff.1 h2).1 (hne _ (by omega))).trans h2, (hg.block _ (Array.getElem?_eq_some_iff.1 h3).1 (hne _ (by omega))).trans h3, Nat.le_trans h4 hg.size⟩
        case ownA =>
          rintro x a' u A1 B1 row ⟨Bx, h1, h2, h3⟩ hg hr
          exact ⟨Bx, h1, (hg.block _ (Array.getElem?_eq_some_iff.1 h2).1 (fun e => by obtain ⟨_, o, ho, hoc⟩ := hr _ e.symm; rw [h2] at ho; cases ho; cases hoc)).trans h2, h3⟩
        case stop =>
          rintro D c pre W hD hsp ⟨_, hno⟩ _
          exact absurd (ids_rise HI.out.cnt.good HKS.out hsp) hno
        case assign =>
          rintro l pre x W K ⟨⟨h1, h2, h3, h4⟩, hBW⟩ hK
          have HK := Lib.hid hK
          have H1 := Lib.hid h1
          have H2 := Lib.hid h2
          have H3 := Lib.hid h3
          have H4 := Lib.hid h4
          have HBW := Lib.hid hBW
          clear hK h1 h2 h3 h4 hBW hst
          subst hA9
          gi_wp2
          refine HK.out _ _ ((KeepsOthers.alloc _ _).from _) (KeepP.of_below ((Below.refl _ _).alloc (Nat.le_refl _) _)) ⟨⟨(Below.heap_alloc _ _ _ (Array.getElem?_eq_some_iff.1 H1.out).1).trans H1.out, (Below.heap_alloc _ _ _ (Array.getElem?_eq_some_iff.1 H2.out).1).trans H2.out, (Below.heap_alloc _ _ _ (Array.getElem?_eq_some_iff.1 H3.out).1).trans H3.out, Nat.le_trans H4.out (by simp)⟩, HBW.out.alloc HBW.out.size _⟩ ?_
          exact ⟨W.heap.size, H4.out, World.alloc_heap_new _ _, rfl⟩
        case body =>
          rintro l pre x a' W hl ⟨rr, hlr⟩ ⟨⟨h1, h2, h3, h4⟩, hBW⟩ ⟨Bx, hBx, hbx, rfl⟩ hlen
          obtain ⟨⟨xi, xa, xp, xs, xb⟩, kx, hkx, hmx⟩ := x
          dsimp only at hbx
          obtain ⟨la, hla⟩ : ∃ la, lastId (valsM pre) = la := ⟨_, rfl⟩
          obtain ⟨n, hn⟩ : ∃ n, pre.length = n := ⟨_, rfl⟩
          obtain ⟨c, hc⟩ : ∃ c, actOf (valsM pre) = c := ⟨_, rfl⟩
          rw [hla] at h1
          rw [hn] at h2
          rw [hc] at h3
          obtain ⟨d1, f1⟩ := cell1 h1
          obtain ⟨d2, f2⟩ := cell1 h2
          obtain ⟨d3, f3⟩ := cell1 h3
          obtain ⟨⟨y0, y1, y2⟩, _⟩ := cells3 hbx
          have hAW := HA.out.below hBW
          have d8 := hAW.cell
          have hrx : (box1 0 = box1 0) := rfl
          clear hrx
          subst hA9
          by_cases hle : xi ≤ la
          · have hR0 : W.cell? ⟨w.heap.size, 0, none⟩ = some (.bool false) ∧ W.frozen? ⟨w.heap.size, 0, none⟩ = false := by
              obtain ⟨o, hg, _⟩ := hAW
              exact cell1 (hg.has (b := w.heap.size) (o := boxR) (by simp))
            obtain ⟨r0, rf⟩ := hR0
            have HNO := Lib.hid (show ¬ Rises (valsM (pre ++ [(⟨⟨xi, xa, xp, xs, xb⟩, kx, hkx, hmx⟩ : MemO p ks)])) from fun hr => by
              have e : valsM (pre ++ [(⟨⟨xi, xa, xp, xs, xb⟩, kx, hkx, hmx⟩ : MemO p ks)]) = valsM pre ++ [⟨xi, xa, xp, xs, xb⟩] := by simp [valsM]
              rw [e] at hr
              have := hr.last
              rw [hla] at this
              have h9 : la < xi := this
              omega)
            clear hAW h1 h2 h3 h4 hBW hbx hla hn hc hlr
            simp only [List.setIfInBounds_toArray, List.set_cons_zero, List.set_cons_succ]
            gi_wp2
            exact ⟨(KeepsOthers.setCell _ _ _).from _, rfl, HNO.out⟩
          · have hgt : la < xi := by omega
            obtain ⟨i1, i2, i3⟩ := HI.out.cnt.good.all kx _ hmx
            have hik : xi = kx := i1
            have hwx : (Lit.int .i64 xi).wf = true := i64_wf' (by omega) (by omega)
            have hsx : stP p xi = xs := by unfold stP; rw [hik, hmx]
            have hq := hAW.look HI.out.st hwx hsx
            have h2s : xs = 1 ∨ xs = 2 := HI.out.cnt.two kx _ hmx
            have hn20 : (n : Int) < 20 := by omega
            have hcn : c ≤ n := by rw [← hc, ← hn]; unfold actOf; exact Nat.le_trans (List.length_filter_le _ _) (by simp [valsM])
            have hc20 : (c : Int) < 21 := by omega
            have e9 : valsM (pre ++ [(⟨⟨xi, xa, xp, xs, xb⟩, kx, hkx, hmx⟩ : MemO p ks)]) = valsM pre ++ [⟨xi, xa, xp, xs, xb⟩] := by simp [valsM]
            have E1 := Lib.hid (show lastId (valsM (pre ++ [(⟨⟨xi, xa, xp, xs, xb⟩, kx, hkx, hmx⟩ : MemO p ks)])) = xi from by rw [e9, last_snoc])
            have E2 := Lib.hid (show (pre ++ [(⟨⟨xi, xa, xp, xs, xb⟩, kx, hkx, hmx⟩ : MemO p ks)]).length = n + 1 from by rw [List.length_append, hn]; rfl)
            have E3 := Lib.hid (show actOf (valsM (pre ++ [(⟨⟨xi, xa, xp, xs, xb⟩, kx, hkx, hmx⟩ : MemO p ks)])) = c + (if xs = 1 then 1 else 0) from by rw [e9, actOf_snoc, hc])
            have T3 := Lib.hid (set_three (a' := xi) (b' := (n : Int) + 1) (c' := (c : Int) + 1) rfl HQ.out h1 h2 h3 hBW)
            have T2 := Lib.hid (set_two (a' := xi) (b' := (n : Int) + 1) rfl HQ.out h1 h2 h3 hBW)
            have H4 := Lib.hid h4
            clear hAW h1 h2 h3 h4 hBW hbx hla hn hc hlr hsx hik e9 i1 hcn
            simp only [List.setIfInBounds_toArray, List.set_cons_zero, List.set_cons_succ]
            rcases h2s with rfl | rfl
            · gi_wp2
              refine ⟨T3.out.1.1, T3.out.1.2, ⟨?_, T3.out.2.2⟩⟩
              rw [E1.out, E2.out, E3.out]
              exact ⟨T3.out.2.1.1, T3.out.2.1.2.1, T3.out.2.1.2.2.1, Nat.le_trans H4.out T3.out.2.1.2.2.2⟩
            · gi_wp2
              refine ⟨T2.out.1.1, T2.out.1.2, ⟨?_, T2.out.2.2⟩⟩
              rw [E1.out, E2.out, E3.out]
              exact ⟨T2.out.2.1.1, T2.out.2.1.2.1, T2.out.2.1.2.2.1, Nat.le_trans H4.out T2.out.2.1.2.2.2⟩
        case done =>
          rintro D ys W hD hys ⟨⟨h1, h2, h3, h4⟩, hBW⟩ hKD
          have hlen : ys.length = ks.length := by
            have e1 := congrArg List.length hys
            have e2 := HKS.out.taken ks.length (Nat.le_refl _)
            rw [List.take_length] at e2
            rw [e2] at e1
            simpa [valsM] using e1
          have hact : actOf (valsM ys) = p.act := by rw [hys]; exact HI.out.cnt.active (by omega) HKS.out
          have hmany := HI.out.cnt.many (by omega) HKS.out
          rw [hlen, hmany] at h2
          rw [hact] at h3
          have HG := Lib.hid (And.intro h2 (And.intro h3 (And.intro hBW hKD)))
          have HD := Lib.hid hD
          clear h1 h2 h3 h4 hBW hKD hD hys hlen hact hmany hst
          subst hA9
          obtain ⟨f0, hf0⟩ : ∃ g : Nat → Bool, (fun i : Nat => decide (0 < stP p ((i + 1 : Nat) : Int))) = g := ⟨_, rfl⟩
          have HF0 := Lib.hid hf0
          rw [hf0] at HG
          clear hf0
          obtain ⟨T0, hT0⟩ : ∃ T0 : Int, ((cntTo f0 20 : Nat) : Int) = T0 := ⟨_, rfl⟩
          have HT0 := Lib.hid hT0
          rw [hT0] at HG
          clear hT0
          obtain ⟨A0, hA0⟩ : ∃ A0 : Int, ((p.act : Nat) : Int) = A0 := ⟨_, rfl⟩
          have HA0 := Lib.hid hA0
          rw [hA0] at HG
          clear hA0
          have HDQ := Lib.hid (show Q + 3 < D ∧ w.heap.size < D from by have := HD.out; omega)
          go_wp2_with fail
          go_loopw [19] (fun vi wr2 => ∃ (j : Nat) (x : Int), vi = .int .i64 ((j + 1 : Nat) : Int) ∧ j ≤ 20 ∧ x + (cntTo f0 j : Int) = T0 ∧ (wr2.heap[Q + 1]? = some (.cells #[.int .i64 x] 3 (0, 0)) ∧ wr2.heap[Q + 1 + 1]? = some (.cells #[.int .i64 A0] 3 (0, 0)) ∧ wr2.heap[D]? = some (.deferred (some []))) ∧ Below wo.heap.size wo wr2) (fun vi _ => 21 - (intOf vi).toNat)
          case atStart => exact ⟨0, T0, rfl, by omega, by rw [show cntTo f0 0 = 0 from rfl]; omega, ⟨HG.out.1, HG.out.2.1, HG.out.2.2.2⟩, HG.out.2.2.1⟩
          case round =>
            obtain ⟨j, x, rfl, hj, hx, ⟨g1, g2, g3⟩, hBz⟩ := hrel
            have hAz := HA.out.below hBz
            obtain ⟨jj, hjj⟩ : ∃ jj, j + 1 = jj := ⟨_, rfl⟩
            have hx1 : 0 ≤ x ∧ x ≤ 20 := by
              have h1 := cntTo_le f0 20
              have h2 := cntTo_up f0 j (20 - j)
              rw [show j + (20 - j) = 20 from by omega] at h2
              have h3 := HT0.out
              omega
            rw [hjj]
            have d8 := hAz.cell
            obtain ⟨e1, k1⟩ := cell1 g1
            obtain ⟨e2, k2⟩ := cell1 g2
            by_cases hlt : j < 20
            · have hc : (jj : Int) ≤ 20 := by omega
              have hwj : (Lit.int .i64 (jj : Int)).wf = true := i64_wf' (by omega) (by omega)
              obtain ⟨st, hst⟩ : ∃ st, stP p (jj : Int) = st := ⟨_, rfl⟩
              have hq := hAz.look HI.out.st hwj hst
              have hfj : f0 j = decide (0 < st) := by rw [← HF0.out]; dsimp only; rw [hjj, hst]
              have HX := Lib.hid hx
              have HFJ := Lib.hid hfj
              have HJJ := Lib.hid hjj
              have HBZ := Lib.hid hBz
              have HGG := Lib.hid (And.intro g1 (And.intro g2 g3))
              clear hx hfj hjj hBz g1 g2 g3 hAz hst hwj
              by_cases hs : 0 < st
              · have hxm : 1 ≤ x := by
                  have h1 := cntTo_yes (f := f0) (n := j) (by rw [HFJ.out]; exact decide_eq_true hs)
                  have h2 := cntTo_up f0 (j + 1) (20 - (j + 1))
                  rw [show j + 1 + (20 - (j + 1)) = 20 from by omega] at h2
                  have h3 := HT0.out
                  have h4 := HX.out
                  omega
                have HNX := Lib.hid (box_set (y := x - 1) HGG.out.1 HGG.out.2.1 HGG.out.2.2 HBZ.out (by rw [HQ.out]; omega) (by have := HDQ.out; omega))
                go_wp2_with fail
                go_roundw
                case rel => exact ⟨j + 1, x - 1, by rw [HJJ.out]; go_num, by omega, by rw [cntTo_yes (by rw [HFJ.out]; exact decide_eq_true hs)]; have := HX.out; omega, HNX.out.1, HNX.out.2⟩
                case measure => simp [intOf]; omega
              · go_wp2_with fail
                go_roundw
                case rel => exact ⟨j + 1, x, by rw [HJJ.out]; go_num, by omega, by rw [cntTo_no (by rw [HFJ.out]; exact decide_eq_false hs)]; exact HX.out, HGG.out, HBZ.out⟩
                case measure => simp [intOf]; omega
            · obtain rfl : j = 20 := by omega
              have hx0 : x = 0 := by have := HT0.out; omega
              subst hx0
              have hc : ¬ (jj : Int) ≤ 20 := by omega
              have HBZ := Lib.hid hBz
              have HAZ := Lib.hid hAz
              have HJJ := Lib.hid hjj
              have HGG := Lib.hid (And.intro g1 (And.intro g2 g3))
              have d0 : wr.cell? ⟨w.heap.size, 0, none⟩ = some (.bool false) ∧ wr.frozen? ⟨w.heap.size, 0, none⟩ = false := cell1 hAz.res
              obtain ⟨d0, k0⟩ := d0
              have hsays := hAz.says HI.out.cnt.good a1
              rw [HA0.out] at hsays
              have hways : (∃ ok, ok = true ∧ (0 < A0 ∧ 0 ≤ a1 ∧ a1 ≤ 65535) ∧ ∃ S, PoolAt w.heap.size S X i p wr ∧ ChooseSays w.heap.size X i S p a1 ok) ∨ (∃ ok, ok = false ∧ (A0 = 0 ∨ (0 < A0 ∧ a1 < 0) ∨ (0 < A0 ∧ 0 ≤ a1 ∧ 65535 < a1)) ∧ ∃ S, PoolAt w.heap.size S X i p wr ∧ ChooseSays w.heap.size X i S p a1 ok) := by
                have := HA0.out
                rcases hsays with ⟨p1, p2, p3, hr⟩ | ⟨p1, hr⟩
                · exact .inl ⟨true, rfl, ⟨p1, p2, p3⟩, hr⟩
                · exact .inr ⟨false, rfl, by omega, hr⟩
              clear hsays hBz hAz hjj g1 g2 g3
              rcases hways with ⟨ok, hok, p1, S, hS, ci, ca, cq, hcs⟩ | ⟨ok, hok, p1, S, hS, ci, ca, cq, hcs⟩
              case' inl => obtain ⟨p1, p2, p3⟩ := p1
              case' inr => obtain rfl | ⟨p1, p2⟩ | ⟨p1, p2, p3⟩ := p1
              case' inr.inr.inl => have p4 : decide (0 ≤ a1) = false := decide_eq_false (by omega)
              case' inr.inr.inr => have p4 : decide (a1 ≤ 65535) = false := decide_eq_false (by omega)
              all_goals
                subst hok
                have HCS := Lib.hid hcs
                have HS := Lib.hid hS
                clear hcs hS
                go_upto_region 47 with (go_at_call 17; refine (HCS.out _ HS.out).mono ?_; rintro e w1 ⟨rfl, hb⟩; have HB1 := Lib.hid hb; clear hb)
                obtain ⟨w2, hw2⟩ : ∃ w2, w1.alloc (.cells #[.int .i64 ci, .int .u32 ca, .int .i64 cq] 33) = w2 := ⟨_, rfl⟩
                rw [hw2]
                have hb2 : Below wr.heap.size wr w2 := by rw [← hw2]; exact HB1.out.alloc HB1.out.size _
                have HAW := Lib.hid (HAZ.out.below hb2)
                have HAD := Lib.hid (HAZ.out.below hb2.drew)
                obtain ⟨d0, k0⟩ := cell1 HAW.out.res
                obtain ⟨e1, k1⟩ := cell1 (box_go HGG.out.1 hb2)
                obtain ⟨e2, k2⟩ := cell1 (box_go HGG.out.2.1 hb2)
                have HKD := Lib.hid (box_go HGG.out.2.2 hb2)
                have HBW := Lib.hid ((HB.out.trans (HBZ.out.mono HB.out.size)).trans (hb2.mono (Nat.le_trans HB.out.size HBZ.out.size)))
                clear hw2 hb2
                refine wp_tail 25 (by kernel_rfl) (by kernel_rfl) ?_
                simp only [List.take_succ_cons, List.take_zero, List.drop_succ_cons, List.drop_zero]
                still_step
                repeat (first | still_step | still_call (HAD.out.act _ HA0.out))
                refine wpStill_nil ?_
                go_wp2_with fail
                obtain ⟨hk2, d4, hbe⟩ := leave_res HAW.out.res HBW.out HKD.out HDQ.out.2
                refine ⟨by simp, .inl ⟨_, _, rfl, run_takeDeferred hk2, ?_⟩⟩
                exact ⟨.bool true, by simp [results, Try.f5, go_sem, d4], rfl, hbe⟩
      · skip
        obtain ⟨wo, hwo⟩ : ∃ wo : World, wo = wr := ⟨_, rfl⟩
        subst hwo
        go_wp2_with (go_at_call 12; refine callsIn_wide.1 ((all12 _ _).mono ?_); rintro e w8 ⟨rfl, rfl⟩)
        refine (wpIn_wide (n := 9)).1 ?_
        refine wpIn_genP _ ?_
        intro W2 hW2
        refine wpIn_gen _ ?_
        intro A hA9
        obtain ⟨Q, hQ⟩ : ∃ Q, wo.heap.size = Q := ⟨_, rfl⟩
        have hs2 : W2.heap.size = Q + 4 := by rw [hW2, ← hQ]; simp
        have hb2 : Below wo.heap.size wo W2 := by rw [hW2]; exact ((((Below.refl _ wo).alloc (Nat.le_refl _) _).alloc (by simp) _).alloc (by simp; omega) _).alloc (by simp; omega) _
        obtain ⟨k1, k2, k3, k4⟩ := four_boxes hW2
        rw [hQ] at k1 k2 k3 k4
        rw [hQ] at hA9
        clear hW2
        have hks := keys_upTo HI.out.cnt (by omega)
        obtain ⟨ks, hkse⟩ : ∃ ks, (upTo 20).filter (fun k => (p.all k).isSome) = ks := ⟨_, rfl⟩
        rw [hkse] at hks
        have hkl : ks.length ≤ 20 := by rw [← hkse]; exact Nat.le_trans (List.length_filter_le _ _) (by simp [upTo])
        clear hkse
        have hst : SeqStopsK Fence.wide 8 Try.prog 25 #[.pointer (some ⟨Q + 3, 0, none⟩)] (fun m : MemO p ks => #[Value.agg #[.int .i64 m.val.id, .int .u32 m.val.addr, .int .i64 m.val.port], .int .i64 m.val.state]) (KeepP W2.heap.size (fun b => b = Q ∨ b = Q + 1 ∨ b = Q + 2)) (fun ys => valsM ys = ks.filterMap p.all) (fun pre => valsM pre <+: ks.filterMap p.all) ks.length W2 := by
          obtain ⟨o, ⟨S, hP, hg⟩, hm⟩ := HA.out
          exact all_stops_at (at_below hP hb2) k4 hks (by omega) (fun i e => by omega) (by omega) (fun i e hi => by have := hP.low.1 i hi; omega)
        have HKS := Lib.hid hks
        have HB2 := Lib.hid hb2
        have HQ := Lib.hid hQ
        have hQw : w.heap.size < Q := by have := HRL.out; omega
        clear hks hb2 hQ
        refine wpIn_rangeFunc_ownH (α := MemO p ks) rfl (by omega) (gf := 25) (lb := #[.pointer (some ⟨Q + 3, 0, none⟩)]) (by rw [hA9]; rfl) trivial (enters_of Try.func25 (by kernel_rfl) rfl) hst
          (fun h h' => h.trans h') (fun W l o o' hl hlo hcf _ => KeepP.book W l o o' hl hlo hcf) (Below.refl _ _) (fun _ => rfl)
          (fun pre W => (W.heap[Q]? = some (box1 (lastId (valsM pre))) ∧ W.heap[Q + 1]? = some (box1 (pre.length : Int)) ∧ W.heap[Q + 2]? = some (box1 (actOf (valsM pre) : Int)) ∧ Q + 4 ≤ W.heap.size) ∧ Below wo.heap.size wo W)
          (fun c pre _ => c = Code.ret ∧ ¬ Rises (valsM pre))
          (OwnFrom.and ?own (ownFrom_below (by have := HQ.out; omega) (by have := HQ.out; omega)))
          (fun _ s A1 B1 row hs _ _ => hs)
          ⟨⟨k1, k2, k3, by omega⟩, HB2.out⟩
          (fun x a' W => ∃ Bx, Q + 4 ≤ Bx ∧ W.heap[Bx]? = some (.cells #[.int .i64 x.val.id, .int .u32 x.val.addr, .int .i64 x.val.port] 33 (0, 0)) ∧ a' = { tmps := (((A.tmps.setIfInBounds 115 (.agg #[.int .i64 x.val.id, .int .u32 x.val.addr, .int .i64 x.val.port])).setIfInBounds 116 (.int .i64 x.val.state)).setIfInBounds 17 (.pointer (some ⟨Bx, 0, none⟩))).setIfInBounds 18 (.int .i64 x.val.state), defers := [] })
          ?ownA ?assign ?body ?done ?stop
        case own =>
          rintro pre A1 B1 row ⟨h1, h2, h3, h4⟩ hg hr
          have hne : ∀ b, b < Q + 4 → some b ≠ row := fun b hb e => by have := (hr b e.symm).1; omega
          exact ⟨(hg.block _ (Array.getElem?_eq_some_iff.1 h1).1 (hne _ (by omega))).trans h1, (hg.block _ (Array.getElem?_eq_some_iff.1 h2).1 (hne _ (by omega))).trans h2, (hg.block _ (Array.getElem?_eq_some_iff.1 h3).1 (hne _ (by omega))).trans h3, Nat.le_trans h4 hg.size⟩
        case ownA =>
          rintro x a' u A1 B1 row ⟨Bx, h1, h2, h3⟩ hg hr
          exact ⟨Bx, h1, (hg.block _ (Array.getElem?_eq_some_iff.1 h2).1 (fun e => by obtain ⟨_, o, ho, hoc⟩ := hr _ e.symm; rw [h2] at ho; cases ho; cases hoc)).trans h2, h3⟩
        case stop =>
          rintro D c pre W hD hsp ⟨_, hno⟩ _
          exact absurd (ids_rise HI.out.cnt.good HKS.out hsp) hno
        case assign =>
          rintro l pre x W K ⟨⟨h1, h2, h3, h4⟩, hBW⟩ hK
          have HK := Lib.hid hK
          have H1 := Lib.hid h1
          have H2 := Lib.hid h2
          have H3 := Lib.hid h3
          have H4 := Lib.hid h4
          have HBW := Lib.hid hBW
          clear hK h1 h2 h3 h4 hBW hst
          subst hA9
          gi_wp2
          refine HK.out _ _ ((KeepsOthers.alloc _ _).from _) (KeepP.of_below ((Below.refl _ _).alloc (Nat.le_refl _) _)) ⟨⟨(Below.heap_alloc _ _ _ (Array.getElem?_eq_some_iff.1 H1.out).1).trans H1.out, (Below.heap_alloc _ _ _ (Array.getElem?_eq_some_iff.1 H2.out).1).trans H2.out, (Below.heap_alloc _ _ _ (Array.getElem?_eq_some_iff.1 H3.out).1).trans H3.out, Nat.le_trans H4.out (by simp)⟩, HBW.out.alloc HBW.out.size _⟩ ?_
          exact ⟨W.heap.size, H4.out, World.alloc_heap_new _ _, rfl⟩
        case body =>
          rintro l pre x a' W hl ⟨rr, hlr⟩ ⟨⟨h1, h2, h3, h4⟩, hBW⟩ ⟨Bx, hBx, hbx, rfl⟩ hlen
          obtain ⟨⟨xi, xa, xp, xs, xb⟩, kx, hkx, hmx⟩ := x
          dsimp only at hbx
          obtain ⟨la, hla⟩ : ∃ la, lastId (valsM pre) = la := ⟨_, rfl⟩
          obtain ⟨n, hn⟩ : ∃ n, pre.length = n := ⟨_, rfl⟩
          obtain ⟨c, hc⟩ : ∃ c, actOf (valsM pre) = c := ⟨_, rfl⟩
          rw [hla] at h1
          rw [hn] at h2
          rw [hc] at h3
          obtain ⟨d1, f1⟩ := cell1 h1
          obtain ⟨d2, f2⟩ := cell1 h2
          obtain ⟨d3, f3⟩ := cell1 h3
          obtain ⟨⟨y0, y1, y2⟩, _⟩ := cells3 hbx
          have hAW := HA.out.below hBW
          have d8 := hAW.cell
          have hrx : (box1 0 = box1 0) := rfl
          clear hrx
          subst hA9
          by_cases hle : xi ≤ la
          · have hR0 : W.cell? ⟨w.heap.size, 0, none⟩ = some (.bool false) ∧ W.frozen? ⟨w.heap.size, 0, none⟩ = false := by
              obtain ⟨o, hg, _⟩ := hAW
              exact cell1 (hg.has (b := w.heap.size) (o := boxR) (by simp))
            obtain ⟨r0, rf⟩ := hR0
            have HNO := Lib.hid (show ¬ Rises (valsM (pre ++ [(⟨⟨xi, xa, xp, xs, xb⟩, kx, hkx, hmx⟩ : MemO p ks)])) from fun hr => by
              have e : valsM (pre ++ [(⟨⟨xi, xa, xp, xs, xb⟩, kx, hkx, hmx⟩ : MemO p ks)]) = valsM pre ++ [⟨xi, xa, xp, xs, xb⟩] := by simp [valsM]
              rw [e] at hr
              have := hr.last
              rw [hla] at this
              have h9 : la < xi := this
              omega)
            clear hAW h1 h2 h3 h4 hBW hbx hla hn hc hlr
            simp only [List.setIfInBounds_toArray, List.set_cons_zero, List.set_cons_succ]
            gi_wp2
            exact ⟨(KeepsOthers.setCell _ _ _).from _, rfl, HNO.out⟩
          · have hgt : la < xi := by omega
            obtain ⟨i1, i2, i3⟩ := HI.out.cnt.good.all kx _ hmx
            have hik : xi = kx := i1
            have hwx : (Lit.int .i64 xi).wf = true := i64_wf' (by omega) (by omega)
            have hsx : stP p xi = xs := by unfold stP; rw [hik, hmx]
            have hq := hAW.look HI.out.st hwx hsx
            have h2s : xs = 1 ∨ xs = 2 := HI.out.cnt.two kx _ hmx
            have hn20 : (n : Int) < 20 := by omega
            have hcn : c ≤ n := by rw [← hc, ← hn]; unfold actOf; exact Nat.le_trans (List.length_filter_le _ _) (by simp [valsM])
            have hc20 : (c : Int) < 21 := by omega
            have e9 : valsM (pre ++ [(⟨⟨xi, xa, xp, xs, xb⟩, kx, hkx, hmx⟩ : MemO p ks)]) = valsM pre ++ [⟨xi, xa, xp, xs, xb⟩] := by simp [valsM]
            have E1 := Lib.hid (show lastId (valsM (pre ++ [(⟨⟨xi, xa, xp, xs, xb⟩, kx, hkx, hmx⟩ : MemO p ks)])) = xi from by rw [e9, last_snoc])
            have E2 := Lib.hid (show (pre ++ [(⟨⟨xi, xa, xp, xs, xb⟩, kx, hkx, hmx⟩ : MemO p ks)]).length = n + 1 from by rw [List.length_append, hn]; rfl)
            have E3 := Lib.hid (show actOf (valsM (pre ++ [(⟨⟨xi, xa, xp, xs, xb⟩, kx, hkx, hmx⟩ : MemO p ks)])) = c + (if xs = 1 then 1 else 0) from by rw [e9, actOf_snoc, hc])
            have T3 := Lib.hid (set_three (a' := xi) (b' := (n : Int) + 1) (c' := (c : Int) + 1) rfl HQ.out h1 h2 h3 hBW)
            have T2 := Lib.hid (set_two (a' := xi) (b' := (n : Int) + 1) rfl HQ.out h1 h2 h3 hBW)
            have H4 := Lib.hid h4
            clear hAW h1 h2 h3 h4 hBW hbx hla hn hc hlr hsx hik e9 i1 hcn
            simp only [List.setIfInBounds_toArray, List.set_cons_zero, List.set_cons_succ]
            rcases h2s with rfl | rfl
            · gi_wp2
              refine ⟨T3.out.1.1, T3.out.1.2, ⟨?_, T3.out.2.2⟩⟩
              rw [E1.out, E2.out, E3.out]
              exact ⟨T3.out.2.1.1, T3.out.2.1.2.1, T3.out.2.1.2.2.1, Nat.le_trans H4.out T3.out.2.1.2.2.2⟩
            · gi_wp2
              refine ⟨T2.out.1.1, T2.out.1.2, ⟨?_, T2.out.2.2⟩⟩
              rw [E1.out, E2.out, E3.out]
              exact ⟨T2.out.2.1.1, T2.out.2.1.2.1, T2.out.2.1.2.2.1, Nat.le_trans H4.out T2.out.2.1.2.2.2⟩
        case done =>
          rintro D ys W hD hys ⟨⟨h1, h2, h3, h4⟩, hBW⟩ hKD
          have hlen : ys.length = ks.length := by
            have e1 := congrArg List.length hys
            have e2 := HKS.out.taken ks.length (Nat.le_refl _)
            rw [List.take_length] at e2
            rw [e2] at e1
            simpa [valsM] using e1
          have hact : actOf (valsM ys) = p.act := by rw [hys]; exact HI.out.cnt.active (by omega) HKS.out
          have hmany := HI.out.cnt.many (by omega) HKS.out
          rw [hlen, hmany] at h2
          rw [hact] at h3
          have HG := Lib.hid (And.intro h2 (And.intro h3 (And.intro hBW hKD)))
          have HD := Lib.hid hD
          clear h1 h2 h3 h4 hBW hKD hD hys hlen hact hmany hst
          subst hA9
          obtain ⟨f0, hf0⟩ : ∃ g : Nat → Bool, (fun i : Nat => decide (0 < stP p ((i + 1 : Nat) : Int))) = g := ⟨_, rfl⟩
          have HF0 := Lib.hid hf0
          rw [hf0] at HG
          clear hf0
          obtain ⟨T0, hT0⟩ : ∃ T0 : Int, ((cntTo f0 20 : Nat) : Int) = T0 := ⟨_, rfl⟩
          have HT0 := Lib.hid hT0
          rw [hT0] at HG
          clear hT0
          obtain ⟨A0, hA0⟩ : ∃ A0 : Int, ((p.act : Nat) : Int) = A0 := ⟨_, rfl⟩
          have HA0 := Lib.hid hA0
          rw [hA0] at HG
          clear hA0
          have HDQ := Lib.hid (show Q + 3 < D ∧ w.heap.size < D from by have := HD.out; omega)
          go_wp2_with fail
          go_loopw [19] (fun vi wr2 => ∃ (j : Nat) (x : Int), vi = .int .i64 ((j + 1 : Nat) : Int) ∧ j ≤ 20 ∧ x + (cntTo f0 j : Int) = T0 ∧ (wr2.heap[Q + 1]? = some (.cells #[.int .i64 x] 3 (0, 0)) ∧ wr2.heap[Q + 1 + 1]? = some (.cells #[.int .i64 A0] 3 (0, 0)) ∧ wr2.heap[D]? = some (.deferred (some []))) ∧ Below wo.heap.size wo wr2) (fun vi _ => 21 - (intOf vi).toNat)
          case atStart => exact ⟨0, T0, rfl, by omega, by rw [show cntTo f0 0 = 0 from rfl]; omega, ⟨HG.out.1, HG.out.2.1, HG.out.2.2.2⟩, HG.out.2.2.1⟩
          case round =>
            obtain ⟨j, x, rfl, hj, hx, ⟨g1, g2, g3⟩, hBz⟩ := hrel
            have hAz := HA.out.below hBz
            obtain ⟨jj, hjj⟩ : ∃ jj, j + 1 = jj := ⟨_, rfl⟩
            have hx1 : 0 ≤ x ∧ x ≤ 20 := by
              have h1 := cntTo_le f0 20
              have h2 := cntTo_up f0 j (20 - j)
              rw [show j + (20 - j) = 20 from by omega] at h2
              have h3 := HT0.out
              omega
            rw [hjj]
            have d8 := hAz.cell
            obtain ⟨e1, k1⟩ := cell1 g1
            obtain ⟨e2, k2⟩ := cell1 g2
            by_cases hlt : j < 20
            · have hc : (jj : Int) ≤ 20 := by omega
              have hwj : (Lit.int .i64 (jj : Int)).wf = true := i64_wf' (by omega) (by omega)
              obtain ⟨st, hst⟩ : ∃ st, stP p (jj : Int) = st := ⟨_, rfl⟩
              have hq := hAz.look HI.out.st hwj hst
              have hfj : f0 j = decide (0 < st) := by rw [← HF0.out]; dsimp only; rw [hjj, hst]
              have HX := Lib.hid hx
              have HFJ := Lib.hid hfj
              have HJJ := Lib.hid hjj
              have HBZ := Lib.hid hBz
              have HGG := Lib.hid (And.intro g1 (And.intro g2 g3))
              clear hx hfj hjj hBz g1 g2 g3 hAz hst hwj
              by_cases hs : 0 < st
              · have hxm : 1 ≤ x := by
                  have h1 := cntTo_yes (f := f0) (n := j) (by rw [HFJ.out]; exact decide_eq_true hs)
                  have h2 := cntTo_up f0 (j + 1) (20 - (j + 1))
                  rw [show j + 1 + (20 - (j + 1)) = 20 from by omega] at h2
                  have h3 := HT0.out
                  have h4 := HX.out
                  omega
                have HNX := Lib.hid (box_set (y := x - 1) HGG.out.1 HGG.out.2.1 HGG.out.2.2 HBZ.out (by rw [HQ.out]; omega) (by have := HDQ.out; omega))
                go_wp2_with fail
                go_roundw
                case rel => exact ⟨j + 1, x - 1, by rw [HJJ.out]; go_num, by omega, by rw [cntTo_yes (by rw [HFJ.out]; exact decide_eq_true hs)]; have := HX.out; omega, HNX.out.1, HNX.out.2⟩
                case measure => simp [intOf]; omega
              · go_wp2_with fail
                go_roundw
                case rel => exact ⟨j + 1, x, by rw [HJJ.out]; go_num, by omega, by rw [cntTo_no (by rw [HFJ.out]; exact decide_eq_false hs)]; exact HX.out, HGG.out, HBZ.out⟩
                case measure => simp [intOf]; omega
            · obtain rfl : j = 20 := by omega
              have hx0 : x = 0 := by have := HT0.out; omega
              subst hx0
              have hc : ¬ (jj : Int) ≤ 20 := by omega
              have HBZ := Lib.hid hBz
              have HAZ := Lib.hid hAz
              have HJJ := Lib.hid hjj
              have HGG := Lib.hid (And.intro g1 (And.intro g2 g3))
              have d0 : wr.cell? ⟨w.heap.size, 0, none⟩ = some (.bool false) ∧ wr.frozen? ⟨w.heap.size, 0, none⟩ = false := cell1 hAz.res
              obtain ⟨d0, k0⟩ := d0
              have hsays := hAz.says HI.out.cnt.good a1
              rw [HA0.out] at hsays
              have hways : (∃ ok, ok = true ∧ (0 < A0 ∧ 0 ≤ a1 ∧ a1 ≤ 65535) ∧ ∃ S, PoolAt w.heap.size S X i p wr ∧ ChooseSays w.heap.size X i S p a1 ok) ∨ (∃ ok, ok = false ∧ (A0 = 0 ∨ (0 < A0 ∧ a1 < 0) ∨ (0 < A0 ∧ 0 ≤ a1 ∧ 65535 < a1)) ∧ ∃ S, PoolAt w.heap.size S X i p wr ∧ ChooseSays w.heap.size X i S p a1 ok) := by
                have := HA0.out
                rcases hsays with ⟨p1, p2, p3, hr⟩ | ⟨p1, hr⟩
                · exact .inl ⟨true, rfl, ⟨p1, p2, p3⟩, hr⟩
                · exact .inr ⟨false, rfl, by omega, hr⟩
              clear hsays hBz hAz hjj g1 g2 g3
              rcases hways with ⟨ok, hok, p1, S, hS, ci, ca, cq, hcs⟩ | ⟨ok, hok, p1, S, hS, ci, ca, cq, hcs⟩
              case' inl => obtain ⟨p1, p2, p3⟩ := p1
              case' inr => obtain rfl | ⟨p1, p2⟩ | ⟨p1, p2, p3⟩ := p1
              case' inr.inr.inl => have p4 : decide (0 ≤ a1) = false := decide_eq_false (by omega)
              case' inr.inr.inr => have p4 : decide (a1 ≤ 65535) = false := decide_eq_false (by omega)
              all_goals
                subst hok
                have HCS := Lib.hid hcs
                have HS := Lib.hid hS
                clear hcs hS
                go_upto_region 47 with (go_at_call 17; refine (HCS.out _ HS.out).mono ?_; rintro e w1 ⟨rfl, hb⟩; have HB1 := Lib.hid hb; clear hb)
                obtain ⟨w2, hw2⟩ : ∃ w2, w1.alloc (.cells #[.int .i64 ci, .int .u32 ca, .int .i64 cq] 33) = w2 := ⟨_, rfl⟩
                rw [hw2]
                have hb2 : Below wr.heap.size wr w2 := by rw [← hw2]; exact HB1.out.alloc HB1.out.size _
                have HAW := Lib.hid (HAZ.out.below hb2)
                have HAD := Lib.hid (HAZ.out.below hb2.drew)
                obtain ⟨d0, k0⟩ := cell1 HAW.out.res
                obtain ⟨e1, k1⟩ := cell1 (box_go HGG.out.1 hb2)
                obtain ⟨e2, k2⟩ := cell1 (box_go HGG.out.2.1 hb2)
                have HKD := Lib.hid (box_go HGG.out.2.2 hb2)
                have HBW := Lib.hid ((HB.out.trans (HBZ.out.mono HB.out.size)).trans (hb2.mono (Nat.le_trans HB.out.size HBZ.out.size)))
                clear hw2 hb2
                refine wp_tail 25 (by kernel_rfl) (by kernel_rfl) ?_
                simp only [List.take_succ_cons, List.take_zero, List.drop_succ_cons, List.drop_zero]
                still_step
                repeat (first | still_step | still_call (HAD.out.act _ HA0.out))
                refine wpStill_nil ?_
                go_wp2_with fail
                obtain ⟨hk2, d4, hbe⟩ := leave_res HAW.out.res HBW.out HKD.out HDQ.out.2
                refine ⟨by simp, .inl ⟨_, _, rfl, run_takeDeferred hk2, ?_⟩⟩
                exact ⟨.bool true, by simp [results, Try.f5, go_sem, d4], rfl, hbe⟩
end Go.Proofs.Ytlipkffnllmkgaa

namespace Go.Proofs.Ytlipkffnllmkgaa.poolAll
open Go.ChangeShapes Go.WideShapes Go.ChangeAt Go.RowKit
open Go.ChangeMaps (open_string shut_string)
set_option linter.unusedVariables false

theorem own : ownKnob Try.prog.godebug = none := by kernel_rfl
theorem laidOut : laidOutB Try.prog = true := by kernel_rfl

/-- WHAT THE WALK IS TOLD OF A SLICE OF INTEGERS THAT CAME IN: it is nil; or it leads to a row of 'cap' cells, the numbers 'zs' (the first 'len' are its elements, the rest its spare room), each fitting its kind. -/
def IsRow (k : IntKind) (w : World) (a : Option Addr) (len cap : Nat) (zs : List Int) : Prop :=
  (a = none ∧ len = 0 ∧ cap = 0 ∧ zs = []) ∨
  ∃ x, a = some x ∧ len ≤ cap ∧ cap ≤ maxLen ∧ zs.length = cap ∧ (∀ i, i < zs.length → w.cell? (x.add i) = some (.int k (zs.getD i 0))) ∧ ∀ n ∈ zs, (Lit.int k n).wf = true

theorem walk (a0 : Option Addr) (len0 cap0 : Nat) (z0 : List Int) (a1 : Int) (w : World) (w0 : IsRow .u8 w a0 len0 cap0 z0) (w1 : (Lit.int .i64 a1).wf = true) :
    Calls Try.prog 5 #[.slice a0 len0 cap0, .int .i64 a1] w fun e w' => e = .returned (.bool true) ∧ Below w.heap.size w w' := by
  exact Go.Proofs.Ytlipkffnllmkgaa.walk_PoolAll a0 len0 cap0 z0 a1 w w0 w1

set_option maxRecDepth 100000 in
theorem lifted (os : Os) (started : os.Started) (H : Type) (enc : TypeId × Value → H) :
    ReturnsInHanded {} Try.checked os 5 .any (Rows.poolAllSpec.pre6 enc Try.prog Try.f5 Rows.poolAllRow.domain false) (Rows.poolAllSpec.post enc Try.prog Try.f5 false true false false) := by
  refine returnsInHanded_of_change (C := Try.checked) own started (by kernel_rfl) Try.func5
    (ChangeSpec.witness6 (enc := enc) (C := Try.checked) false ⟨#[], #[.slice none 0 0, .int .i64 0], []⟩ 8 (by kernel_rfl) (by kernel_rfl) (by kernel_rfl) (by kernel_rfl)) ?_
  intro W base args ds gs before hval0 hW hcnd _
  have hval : ∀ (j : Nat) t v, Try.f5.params[j]? = some t → args[j]? = some v → Value.okWide Try.prog W .any base t v := hval0
  have hW' := hW
  obtain ⟨p, q, hA0, hV, rfl, hfz, hnd⟩ := hW
  have hA : DataW.TrodAll enc Try.prog W 0 (fun _ => true) true Try.f5.params.toList args.toList ds p := hA0
  rw [Try.params5] at hA hval
  obtain ⟨v0, vs0, d0, ds0, p0, q0, hargs, rfl, rfl, h0, r0⟩ := trodAll_cons hA
  obtain ⟨v1, vs1, d1, ds1, p1, q1, rfl, rfl, rfl, h1, r1⟩ := trodAll_cons r0
  obtain ⟨rfl, rfl, rfl⟩ := trodAll_nil r1
  obtain rfl : args = #[v0, v1] := by cases args; simp_all
  obtain ⟨rfl, rfl⟩ := trodVars_none hV
  obtain ⟨a0, len0, cap0, rfl⟩ := okWide_slice Try.underlying55 (hval 0 55 v0 rfl rfl)
  have k0 := h0
  have lt0 : ∀ x ∈ p0, x.block < W.heap.size := by obtain ⟨m, hm⟩ := k0; exact DataW.trod_lt m _ _ _ hm
  obtain ⟨z0, w0⟩ : ∃ zs, IsRow .u8 W a0 len0 cap0 zs := by
    obtain ⟨fuel, hf⟩ := h0
    rcases open_ints Try.underlying55 Try.underlying5 (by kernel_rfl) hf with ⟨hcs, _⟩ | ⟨x, l, c, zs, hcs, _, hl, hm, hz, _, hcell, hwz⟩
    · simp [Value.cells] at hcs
      obtain ⟨rfl, rfl, rfl⟩ := hcs
      exact ⟨[], .inl ⟨rfl, rfl, rfl, rfl⟩⟩
    · simp [Value.cells] at hcs
      obtain ⟨rfl, rfl, rfl⟩ := hcs
      exact ⟨zs, .inr ⟨_, rfl, hl, hm, by simpa using hz, hcell, hwz⟩⟩
  obtain ⟨a1, rfl, rfl, rfl, w1⟩ := open_int Try.underlying3 (hval 1 3 v1 rfl rfl) h1
  clear hA0 hval0
  refine (walk a0 len0 cap0 z0 a1 W w0 w1).mono fun e W' ⟨he, bel⟩ => ?_
  subst he
  exact ⟨_, rfl, _, _, _, [], _, [], hW', trodAll_mk1 (shut_bool Try.underlying4 _), (trodAll_cons_mk (Below.trod laidOut (by kernel_rfl) (of_decide_eq_true (by kernel_rfl)) k0 bel lt0) (trodAll_cons_mk (shut_int Try.underlying3 w1) trodAll_mk0)), rfl, bel.frame _, fun h => by cases h⟩

theorem over : Rows.poolAllRow.holds Try.pinned (OpenSpec.ofChange Rows.poolAllSpec) :=
  OpenClaim.holds_of_wide 5 Try.f5 rfl rfl rfl rfl rfl rfl rfl ⟨rfl, rfl, rfl, rfl, rfl⟩ rfl rfl rfl rfl rfl (by kernel_rfl) Try.func5 (by kernel_rfl)
    (of_decide_eq_true (by kernel_rfl)) (by unfold Func.isWrapper; first | (rw [if_pos (by decide +kernel)]; kernel_rfl) | (rw [if_neg (by decide +kernel)]; exact ⟨rfl, rfl⟩))
    (fun os started H enc _ => lifted os started H enc)

/-- ████ THE STATEMENT ████ -/
theorem proved : Rows.PoolAllSaid := over
#print axioms proved
end Go.Proofs.Ytlipkffnllmkgaa.poolAll
