import Derived.Test.YtlipkffnllmkgaaD3
import Derived.RangeFuncKeeps
import Derived.RangeFuncWrites
import Derived.RangeFuncNested
import Derived.RangeFuncBound
import Derived.RangeFuncCalls
import Derived.RangeFuncLeaves
import Derived.Shelf.Abstract
import Derived.OwnWalkIn
import Derived.TacticsInMore
import Derived.LoopNIn
import Derived.LoopIn
namespace Go.Proofs.Ytlipkffnllmkgaa
open Go.RowKit Go.Shelf
attribute [local go_sem] Oper.semAt_some

/-- What falling hands on: from - 1 down to to. -/
def fallList (f t : Nat) : List Nat := (List.range (f - t)).map fun i => f - 1 - i
theorem fallList_take (f t k : Nat) (hk : k < f - t) : (fallList f t).take (k + 1) = (fallList f t).take k ++ [f - 1 - k] := by
  have h : k < (fallList f t).length := by simp [fallList]; exact hk
  rw [List.take_succ_eq_append_getElem h]
  simp [fallList]

theorem falling_in (F : Fence) (n : Nat) (h46 : F.fn 34) (hro : F.round = none) (f t : Int) (w : World) :
    CallsIn F n Try.prog 34 #[.int .i64 f, .int .i64 t] w fun e w' => e = .returned (.func (.func 51) #[] #[.pointer (some ⟨w.heap.size, 0, none⟩), .pointer (some ⟨w.heap.size + 1, 0, none⟩)]) ∧ w' = (w.alloc (.cells #[.int .i64 f] 3)).alloc (.cells #[.int .i64 t] 3) := by
  refine callsIn_of_wp Try.func34 rfl h46 ?_ hro
  simp only [Try.ntmps34, List.size_toArray, List.length_cons, List.length_nil, Nat.reduceAdd, Nat.reduceSub, Array.replicate_succ, Array.replicate_zero, List.push_toArray, List.append_toArray, List.nil_append, List.cons_append]
  gi_wp2
  go_ret
  exact ⟨rfl, rfl⟩

/-- What a round keeps: the two boxes. -/
def KeepTwo (a b : Nat) (W W' : World) : Prop := W'.heap[a]? = W.heap[a]? ∧ W'.heap[b]? = W.heap[b]?

set_option maxHeartbeats 1000000 in
theorem falling1_in (F : Fence) (n : Nat) (h54 : F.fn 51) (hro : F.round = none) (hn : 1 ≤ n) (l B1 B2 : Nat) (f t : Nat) (hft : t ≤ f) (ht : 1 ≤ t) (hf : f ≤ 65536) (J Jx : List Nat → World → Prop)
    (hY : ∀ pre x W, x < f → J pre W → pre.length < f - t → YieldAt F (n - 1) Try.prog l #[.int .i64 (x : Nat)] W fun e W' =>
      (e = .returned (.bool true) ∧ J (pre ++ [x]) W' ∧ KeepTwo B1 B2 W W') ∨ (e = .returned (.bool false) ∧ Jx (pre ++ [x]) W'))
    (W : World) (hB1 : W.heap[B1]? = some (.cells #[.int .i64 (f : Int)] 3 (0, 0))) (hB2 : W.heap[B2]? = some (.cells #[.int .i64 (t : Int)] 3 (0, 0))) (h0 : J [] W) :
    CallsIn F n Try.prog 51 #[.func (.yield l) #[] #[], .pointer (some ⟨B1, 0, none⟩), .pointer (some ⟨B2, 0, none⟩)] W fun e W' => (∃ v, e = .returned v) ∧
      ((∃ ys, ys = fallList f t ∧ J ys W') ∨ (∃ pre, pre <+: fallList f t ∧ Jx pre W')) := by
  have c1 : W.cell? ⟨B1, 0, none⟩ = some (.int .i64 (f : Int)) := by simp [World.cell?, hB1]
  obtain ⟨g, hg⟩ : ∃ g, f = g + 1 := ⟨f - 1, by omega⟩
  have c1' : W.cell? ⟨B1, 0, none⟩ = some (.int .i64 ((g : Int) + 1)) := by rw [c1, hg]; rfl
  have hgb : (g : Int) ≤ 65536 := by omega
  have HC := Lib.hid c1
  have HY := Lib.hid hY
  have HB1 := Lib.hid hB1
  have HB2 := Lib.hid hB2
  have HG := Lib.hid hg
  have HJ := Lib.hid h0
  clear c1 hY hB1 hB2 h0 hg
  refine callsIn_of_wp Try.func51 rfl h54 ?_ hro
  simp only [Try.ntmps51, List.size_toArray, List.length_cons, List.length_nil, Nat.reduceAdd, Nat.reduceSub, Array.replicate_succ, Array.replicate_zero, List.push_toArray, List.append_toArray, List.nil_append, List.cons_append]
  gi_wp2
  gi_loopw [4] (fun b wr => ∃ k c : Nat, c + k = g ∧ k ≤ f - t ∧ b = .int .i64 (c : Int) ∧ wr.heap[B1]? = some (.cells #[.int .i64 (f : Int)] 3 (0, 0)) ∧ wr.heap[B2]? = some (.cells #[.int .i64 (t : Int)] 3 (0, 0)) ∧ J ((fallList f t).take k) wr)
    (fun b _ => (intOf b).toNat)
  case atStart => exact ⟨0, g, rfl, Nat.zero_le _, rfl, HB1.out, HB2.out, HJ.out⟩
  case round =>
    obtain ⟨k, c, hck, hk, rfl, hb1, hb2, hJk⟩ := hrel
    have c2 : wr.cell? ⟨B2, 0, none⟩ = some (.int .i64 (t : Int)) := by simp [World.cell?, hb2]
    have hcb : (c : Int) ≤ 65536 := by omega
    have HK := Lib.hid hck
    have HB1 := Lib.hid hb1
    have HB2 := Lib.hid hb2
    clear hck hb1 hb2
    by_cases hlt : t ≤ c
    · obtain ⟨fn, tmps, assign, body, hy, hR⟩ := HY.out _ c wr (by have := HK.out; have := HG.out; omega) hJk (by have := HK.out; have := HG.out; simp [fallList]; omega)
      have hlti : (t : Int) ≤ (c : Int) := by omega
      have hc1 : (1 : Int) ≤ (c : Int) := by omega
      gi_wp2
      refine hR.mono ?_
      rintro e W3 (⟨rfl, hJ3, hk3⟩ | ⟨rfl, hJx3⟩)
      · have hJ4 := Lib.hid hJ3
        have hb13 := Lib.hid (hk3.1.trans HB1.out)
        have hb23 := Lib.hid (hk3.2.trans HB2.out)
        clear hJ3 hk3
        gi_wp2
        go_roundw
        case rel =>
          have h1 := HK.out
          have h2 := HG.out
          have e := fallList_take f t k (by omega)
          rw [show f - 1 - k = c from by omega] at e
          exact ⟨k + 1, c - 1, by omega, by omega, by congr 1; omega, hb13.out, hb23.out, by rw [e]; exact hJ4.out⟩
        case measure => simp [intOf]; omega
      · gi_wp2
        refine bodyPost_ret (results_none rfl _ _ _) rfl ?_
        have h1 := HK.out
        have h2 := HG.out
        have e := fallList_take f t k (by omega)
        rw [show f - 1 - k = c from by omega] at e
        exact ⟨⟨_, rfl⟩, .inr ⟨_, by rw [← e]; exact List.take_prefix _ _, hJx3⟩⟩
    · have hlti : ¬ (t : Int) ≤ (c : Int) := by omega
      gi_wp2
      go_end0
      have h1 := HK.out
      have h2 := HG.out
      have e : k = (fallList f t).length := by simp [fallList]; omega
      rw [e, List.take_length] at hJk
      exact ⟨⟨_, rfl⟩, .inl hJk⟩

/-- What falling hands back goes down through f-1, ..., t. -/
theorem falling_stops (F : Fence) (n : Nat) (h54 : F.fn 51) (hro : F.round = none) (hn : 1 ≤ n) (B1 B2 f t : Nat) (hft : t ≤ f) (ht : 1 ≤ t) (hf : f ≤ 65536) (w : World) (hB1 : w.heap[B1]? = some (.cells #[.int .i64 (f : Int)] 3 (0, 0))) (hB2 : w.heap[B2]? = some (.cells #[.int .i64 (t : Int)] 3 (0, 0))) :
    SeqStopsK F n Try.prog 51 #[.pointer (some ⟨B1, 0, none⟩), .pointer (some ⟨B2, 0, none⟩)] (fun x : {x : Nat // x < f} => #[Value.int .i64 (x.1 : Int)]) (KeepTwo B1 B2) (fun xs => xs.map (·.1) = fallList f t) (fun _ => True) (f - t) w := by
  intro l J Jx W hW _ _ hY h0
  have l1 : B1 < w.heap.size := (Array.getElem?_eq_some_iff.1 hB1).1
  have l2 : B2 < w.heap.size := (Array.getElem?_eq_some_iff.1 hB2).1
  refine (falling1_in F n h54 hro hn l B1 B2 f t hft ht hf (fun ys W => ∃ xs : List {x : Nat // x < f}, xs.map (·.1) = ys ∧ J xs W) (fun _ W => ∃ xs, Jx xs W) ?_ W ((hW.block _ l1).trans hB1) ((hW.block _ l2).trans hB2) ⟨[], rfl, h0⟩).mono ?_
  · rintro pre x W1 hx ⟨xs, rfl, hJ⟩ hlen
    obtain ⟨fn, tmps, assign, body, hy, hR⟩ := hY xs ⟨x, hx⟩ W1 hJ (by simpa using hlen)
    refine ⟨fn, tmps, assign, body, hy, hR.mono ?_⟩
    rintro e W3 (⟨rfl, h1, h2⟩ | ⟨rfl, h1⟩)
    · exact .inl ⟨rfl, ⟨xs ++ [⟨x, hx⟩], by simp, h1⟩, h2⟩
    · exact .inr ⟨rfl, _, h1⟩
  · rintro e W3 ⟨hv, (⟨ys, rfl, xs, hxs, hJ⟩ | ⟨pre, _, xs, hJ⟩)⟩
    · exact ⟨hv, .inl ⟨xs, hxs, hJ⟩⟩
    · exact ⟨hv, .inr ⟨xs, trivial, hJ⟩⟩
end Go.Proofs.Ytlipkffnllmkgaa
