import Derived.Test.YtaeiaoldlebhaaaDoorWE
import Derived.Lib.SliceRun
namespace Go.Proofs.YtaeiaoldlebhaaaDoor
open Go.RowKit Go.Maps Go.Lib

theorem set3_cells {w : World} {g o : Nat} {a b c : Value} : w.setCells g o [a, b, c] = ((w.setCell ⟨g, o, none⟩ a).setCell ⟨g, o + 1, none⟩ b).setCell ⟨g, o + 1 + 1, none⟩ c := rfl
theorem zero109 (w : World) : (zeroValue 109).run Tryd.prog w = .ok (.agg #[.int .i64 0, .int .i64 0, .int .i64 0]) w := by kernel_rfl
/-- 'clear' of one entry. -/
theorem run_clear1 (w : World) (ty : TypeId) (g o c : Nat) (hc : ∀ j, j < 3 → (w.cell? ⟨g, o + j, none⟩).isSome = true) (hf : ∀ j, j < 3 → w.frozen? ⟨g, o + j, none⟩ = false) :
    (Builtin.clear_ #[100] ty #[.slice (some ⟨g, o, none⟩) 1 c]).run Tryd.prog w = .ok (.tuple #[]) (w.setCells g o [.int .i64 0, .int .i64 0, .int .i64 0]) := by
  have hzc : (Builtin.zeroCells (Value.agg #[.int .i64 0, .int .i64 0, .int .i64 0]).cells 1).toList = [.int .i64 0, .int .i64 0, .int .i64 0] := by kernel_rfl
  have hst := run_storeCells_cells (P := Tryd.prog) g o [.int .i64 0, .int .i64 0, .int .i64 0] 0 w (by simpa using hc) (by simpa using hf) (by simp [Value.oneCell'])
  simp only [Nat.add_zero] at hst
  simp [Builtin.clear_, run_underlying Tryd.underlying100, hzc, hst]
/-- An entry of a row is written anew. -/
theorem row_set {w : World} {base g n cap : Nat} {l : List Ent} (h : w.ownsRow base 109 3 (.slice (some ⟨g, 0, none⟩) n cap) n (entsC l)) (hn : l.length = n) (i : Nat) (x : Ent) :
    ((((w.setCell ⟨g, i * 3, none⟩ (.int .i64 x.key)).setCell ⟨g, i * 3 + 1, none⟩ (.int .i64 (x.due : Int))).setCell ⟨g, i * 3 + 2, none⟩ (.int .i64 (x.ord : Int)))).ownsRow base 109 3 (.slice (some ⟨g, 0, none⟩) n cap) n (entsC (l.set i x)) ∧
      w.grownBy (((w.setCell ⟨g, i * 3, none⟩ (.int .i64 x.key)).setCell ⟨g, i * 3 + 1, none⟩ (.int .i64 (x.due : Int))).setCell ⟨g, i * 3 + 2, none⟩ (.int .i64 (x.ord : Int))) (some g) := by
  rcases h.2 with ⟨hv, _⟩ | ⟨g', cap', cur, hv, hb, hg, hle, hm, hsz, htk⟩
  · cases hv
  · cases hv
    have hle2 : n * 3 ≤ cap * 3 := Nat.mul_le_mul_right _ hle
    refine ⟨⟨by rw [entsC_len, List.length_set, hn], .inr ⟨g, cap, ((cur.setIfInBounds (i * 3) (.int .i64 x.key)).setIfInBounds (i * 3 + 1) (.int .i64 (x.due : Int))).setIfInBounds (i * 3 + 2) (.int .i64 (x.ord : Int)), rfl, hb, ?_, hle, hm, by simp [hsz], ?_⟩⟩, ⟨rfl, rfl, rfl, by simp [World.setCell], fun k hk hne => ?_⟩⟩
    · simp [World.setCell, Array.getElem?_modify, hg]
    · refine List.ext_getElem? (fun t => ?_)
      by_cases ht : t < n * 3
      · rw [List.getElem?_take, if_pos ht, entsC_get (by rw [List.length_set, hn]; exact ht)]
        have htc : t < cur.size := by omega
        have hold : cur[t]? = some ((entC (l.toArray[t / 3]!))[t % 3]!) := by
          have e1 : (cur.toList.take (n * 3))[t]? = cur[t]? := by rw [List.getElem?_take, if_pos ht]; simp
          rw [← e1, htk, entsC_get (by rw [hn]; exact ht)]
        have hl : t / 3 < l.length := by omega
        have hset : (l.set i x).toArray[t / 3]! = if i = t / 3 then x else l.toArray[t / 3]! := by
          rw [getElem!_pos (l.set i x).toArray (t / 3) (by simpa using hl), getElem!_pos l.toArray (t / 3) (by simpa using hl)]
          simp [List.getElem_set]
        rw [hset, Array.getElem?_toList]
        by_cases e : i = t / 3
        · rw [if_pos e]
          have hm3 : t % 3 = 0 ∨ t % 3 = 1 ∨ t % 3 = 2 := by omega
          rcases hm3 with hm3 | hm3 | hm3
          · obtain rfl : t = i * 3 := by omega
            rw [hm3]; simp [htc, entC]
          · obtain rfl : t = i * 3 + 1 := by omega
            rw [hm3]; simp [htc, entC]
          · obtain rfl : t = i * 3 + 2 := by omega
            rw [hm3]; simp [htc, entC]
        · rw [if_neg e, ← hold]
          rw [Array.getElem?_setIfInBounds_ne (by omega), Array.getElem?_setIfInBounds_ne (by omega), Array.getElem?_setIfInBounds_ne (by omega)]
      · rw [List.getElem?_take, if_neg ht, List.getElem?_eq_none (by rw [entsC_len, List.length_set]; omega)]
    · have hkg : k ≠ g := fun e => hne (by rw [e])
      exact (Below.heap_setCell _ _ _ _ hkg).trans ((Below.heap_setCell _ _ _ _ hkg).trans (Below.heap_setCell _ _ _ _ hkg))
theorem row_free {w : World} {base g n cap : Nat} {xs : List Value} (h : w.ownsRow base 109 3 (.slice (some ⟨g, 0, none⟩) n cap) n xs) (k : Nat) : w.frozen? ⟨g, k, none⟩ = false := by
  rcases h.2 with ⟨hv, _⟩ | ⟨g', cap', cur, hv, hb, hg, hle, hm, hsz, htk⟩
  · cases hv
  · cases hv; simp [World.frozen?, hg]
/-- The row cut to its first entries. -/
theorem row_cut {w : World} {base g n cap : Nat} {l : List Ent} (h : w.ownsRow base 109 3 (.slice (some ⟨g, 0, none⟩) n cap) n (entsC l)) (hn : l.length = n) {m : Nat} (hm : m ≤ n) : w.ownsRow base 109 3 (.slice (some ⟨g, 0, none⟩) m cap) m (entsC (l.take m)) := by
  rcases h.2 with ⟨hv, _⟩ | ⟨g', cap', cur, hv, hb, hg, hle, hmx, hsz, htk⟩
  · cases hv
  · cases hv
    refine ⟨by rw [entsC_len, List.length_take, hn]; congr 1; omega, .inr ⟨g, cap, cur, rfl, hb, hg, by omega, hmx, hsz, ?_⟩⟩
    have e : entsC (l.take m) = (entsC l).take (m * 3) := by
      refine List.ext_getElem? (fun t => ?_)
      rw [List.getElem?_take]
      by_cases ht : t < m * 3
      · rw [if_pos ht, entsC_get (by rw [List.length_take, hn]; omega), entsC_get (by omega)]
        have h1 : t / 3 < (l.take m).length := by rw [List.length_take, hn]; omega
        rw [getElem!_pos (l.take m).toArray (t / 3) (by simpa using h1), getElem!_pos l.toArray (t / 3) (by simp; omega)]
        simp
      · rw [if_neg ht, List.getElem?_eq_none (by rw [entsC_len, List.length_take]; omega)]
    rw [e, ← htk, List.take_take, Nat.min_eq_left (Nat.mul_le_mul_right _ hm)]

set_option maxHeartbeats 400000 in
/-- The closure of Cancel. -/
theorem same_ok (k : Int) (t d : Nat) (X : Nat) (d0 : Nat) (w : World) (h : w.cell? ⟨X, 2, none⟩ = some (.int .i64 (d0 : Int))) (hX : X < w.heap.size) :
    Calls Tryd.prog 88 #[.agg #[.int .i64 k, .int .i64 (t : Int), .int .i64 (d : Int)], .pointer (some ⟨X, 0, none⟩)] w fun e w' => e = .returned (.bool (decide (d = d0))) ∧ Below w.heap.size w w' := by
  by_cases e : d = d0
  · subst e
    rw [decide_eq_true rfl]
    go_enter Tryd.func88, Tryd.ntmps88
    go_wp2
    go_ret
    exact ⟨rfl, (Below.refl _ _).alloc (Nat.le_refl _) _⟩
  · have hne : ((d : Int) == (d0 : Int)) = false := by rw [beq_eq_false_iff_ne]; omega
    rw [decide_eq_false e]
    go_enter Tryd.func88, Tryd.ntmps88
    go_wp2
    go_ret
    exact ⟨rfl, (Below.refl _ _).alloc (Nat.le_refl _) _⟩

set_option maxRecDepth 100000 in
set_option maxHeartbeats 1000000 in
theorem index_ok {w : World} {base g n cap X d0 : Nat} {E1 E2 : List Ent} {x0 : Ent} (h : w.ownsRow base 109 3 (.slice (some ⟨g, 0, none⟩) n cap) n (entsC (E1 ++ x0 :: E2))) (hn : (E1 ++ x0 :: E2).length = n) (h1 : ∀ y ∈ E1, y.ord ≠ d0) (h0 : x0.ord = d0) (hX : w.cell? ⟨X, 2, none⟩ = some (.int .i64 (d0 : Int))) (hXl : X < w.heap.size) (hsz : n < 1099511627776) :
    Calls Tryd.prog 114 #[.slice (some ⟨g, 0, none⟩) n cap, .func (.func 88) #[] #[.pointer (some ⟨X, 0, none⟩)]] w fun e w' => e = .returned (.int .i64 (E1.length : Int)) ∧ Below w.heap.size w w' := by
  have H := Lib.hid h
  have HX := Lib.hid hX
  have hn2 : E1.length < n := by rw [← hn]; simp
  have hnI : (n : Int) < 1099511627776 := by omega
  have H1 := Lib.hid h1
  have H0 := Lib.hid h0
  clear h hX hn h1 h0
  go_enter Tryd.func114, Tryd.ntmps114
  go_wp2_with fail
  go_loopw [8] (fun vi wr => ∃ k : Nat, vi = .int .i64 (k : Int) ∧ k ≤ E1.length ∧ Below w.heap.size w wr) (fun vi _ => n - (intOf vi).toNat)
  case atStart => exact ⟨0, rfl, by omega, Below.refl _ _⟩
  case round =>
    obtain ⟨k, rfl, hk, hB⟩ := hrel
    have hkn : (k : Int) < (n : Int) := by omega
    have hk2 : k < n := by omega
    have hrow : wr.ownsRow base 109 3 (.slice (some ⟨g, 0, none⟩) n cap) n (entsC (E1 ++ x0 :: E2)) := ownsRow_kept H.out (fun g' hg => hB.block g' (H.out.lt g' hg).2)
    have hXr : wr.cell? ⟨X, 2, none⟩ = some (.int .i64 (d0 : Int)) := (World.cell?_of_block (hB.block X hXl)).trans HX.out
    have hXr2 : X < wr.heap.size := Nat.lt_of_lt_of_le hXl hB.size
    have HB := Lib.hid hB
    by_cases e : k < E1.length
    · obtain ⟨x, hx⟩ : ∃ x, E1[k]? = some x := ⟨_, List.getElem?_eq_getElem e⟩
      have hxE : (E1 ++ x0 :: E2)[k]? = some x := by rw [List.getElem?_append_left e]; exact hx
      obtain ⟨c0, c1, c2⟩ := row_at hrow hxE
      have hne := H1.out x (List.mem_of_getElem? hx)
      have HC := Lib.hid (same_ok x.key x.due x.ord X d0 wr hXr hXr2)
      rw [decide_eq_false hne] at HC
      clear hrow hB hx hxE hne hXr
      go_wp2_with (refine HC.out.mono ?_; rintro e wx ⟨rfl, hb⟩; have HB2 := Lib.hid (HB.out.trans (hb.mono HB.out.size)); clear hb)
      go_roundw
      case rel => exact ⟨k + 1, by go_num, by omega, HB2.out⟩
      case measure => simp [intOf]; omega
    · obtain rfl : k = E1.length := by omega
      have hxE : (E1 ++ x0 :: E2)[E1.length]? = some x0 := by rw [List.getElem?_append_right (Nat.le_refl _)]; simp
      obtain ⟨c0, c1, c2⟩ := row_at hrow hxE
      have HC := Lib.hid (same_ok x0.key x0.due x0.ord X d0 wr hXr hXr2)
      rw [decide_eq_true H0.out] at HC
      clear hrow hB hxE hXr
      go_wp2_with (refine HC.out.mono ?_; rintro e wx ⟨rfl, hb⟩; have HB2 := Lib.hid (HB.out.trans (hb.mono HB.out.size)); clear hb)
      go_ret
      exact ⟨rfl, HB2.out⟩
end Go.Proofs.YtaeiaoldlebhaaaDoor
