/- Texts of this proof, put together: WG WH WI WJ WK WL. -/
import Derived.Test.YtpbknbnhljjjcaaDoorME
import Derived.Lib.SliceRun
import Derived.Deep.RegionWith
namespace Go.Proofs.YtpbknbnhljjjcaaDoor
open Go.RowKit Go.Maps Go.Lib

theorem set3_cells {w : World} {g o : Nat} {a b c : Value} : w.setCells g o [a, b, c] = ((w.setCell ⟨g, o, none⟩ a).setCell ⟨g, o + 1, none⟩ b).setCell ⟨g, o + 1 + 1, none⟩ c := rfl
theorem zero109 (w : World) : (zeroValue 154).run Tryd.prog w = .ok (.agg #[.int .i64 0, .int .i64 0, .int .i64 0]) w := by kernel_rfl
/-- 'clear' of one entry. -/
theorem run_clear1 (w : World) (ty : TypeId) (g o c : Nat) (hc : ∀ j, j < 3 → (w.cell? ⟨g, o + j, none⟩).isSome = true) (hf : ∀ j, j < 3 → w.frozen? ⟨g, o + j, none⟩ = false) :
    (Builtin.clear_ #[112] ty #[.slice (some ⟨g, o, none⟩) 1 c]).run Tryd.prog w = .ok (.tuple #[]) (w.setCells g o [.int .i64 0, .int .i64 0, .int .i64 0]) := by
  have hzc : (Builtin.zeroCells (Value.agg #[.int .i64 0, .int .i64 0, .int .i64 0]).cells 1).toList = [.int .i64 0, .int .i64 0, .int .i64 0] := by kernel_rfl
  have hst := run_storeCells_cells (P := Tryd.prog) g o [.int .i64 0, .int .i64 0, .int .i64 0] 0 w (by simpa using hc) (by simpa using hf) (by simp [Value.oneCell'])
  simp only [Nat.add_zero] at hst
  simp [Builtin.clear_, run_underlying Tryd.underlying112, hzc, hst]
/-- An entry of a row is written anew. -/
theorem row_set {w : World} {base g n cap : Nat} {l : List Ent} (h : w.ownsRow base 154 3 (.slice (some ⟨g, 0, none⟩) n cap) n (entsC l)) (hn : l.length = n) (i : Nat) (x : Ent) :
    ((((w.setCell ⟨g, i * 3, none⟩ (.int .i64 x.key)).setCell ⟨g, i * 3 + 1, none⟩ (.int .i64 (x.due : Int))).setCell ⟨g, i * 3 + 2, none⟩ (.int .i64 (x.ord : Int)))).ownsRow base 154 3 (.slice (some ⟨g, 0, none⟩) n cap) n (entsC (l.set i x)) ∧
      w.grownBy (((w.setCell ⟨g, i * 3, none⟩ (.int .i64 x.key)).setCell ⟨g, i * 3 + 1, none⟩ (.int .i64 (x.due : Int))).setCell ⟨g, i * 3 + 2, none⟩ (.int .i64 (x.ord : Int))) (some g) := by
  rcases h.2 with ⟨hv, _⟩ | ⟨g', cap', cur, hv, hb, hg, hle, hm, hsz, htk⟩
  · cases hv
  · cases hv
    have hle2 : n * 3 ≤ cap * 3 := Nat.mul_le_mul_right _ hle
    refine ⟨⟨by rw [entsC_len, List.length_set, hn], .inr ⟨g, cap, ((cur.setIfInBounds (i * 3) (.int .i64 x.key)).setIfInBounds (i * 3 + 1) (.int .i64 (x.due : Int))).setIfInBounds (i * 3 + 2) (.int .i64 (x.ord : Int)), rfl, hb, ?_, hle, hm, by simp [hsz], ?_⟩⟩, ⟨rfl, rfl, rfl, by simp [World.setCell], fun k hk hne => ?_⟩⟩
    · simp [World.setCell, Array.getElem?_modify, hg]
    · refine List.ext_getElem? (fun t => ?_)
      by_cases ht : t < n * 3
      · rw [List.getElem?_take, if_pos ht, entsC_get (by rw [List.length_set, hn]; exact ht)]
        have htc : t < cur.size := by omega
        have hold : cur[t]? = some ((entC (l.toArray[t / 3]!))[t % 3]!) := by
          have e1 : (cur.toList.take (n * 3))[t]? = cur[t]? := by rw [List.getElem?_take, if_pos ht]; simp
          rw [← e1, htk, entsC_get (by rw [hn]; exact ht)]
        have hl : t / 3 < l.length := by omega
        have hset : (l.set i x).toArray[t / 3]! = if i = t / 3 then x else l.toArray[t / 3]! := by
          rw [getElem!_pos (l.set i x).toArray (t / 3) (by simpa using hl), getElem!_pos l.toArray (t / 3) (by simpa using hl)]
          simp [List.getElem_set]
        rw [hset, Array.getElem?_toList]
        by_cases e : i = t / 3
        · rw [if_pos e]
          have hm3 : t % 3 = 0 ∨ t % 3 = 1 ∨ t % 3 = 2 := by omega
          rcases hm3 with hm3 | hm3 | hm3
          · obtain rfl : t = i * 3 := by omega
            rw [hm3]; simp [htc, entC]
          · obtain rfl : t = i * 3 + 1 := by omega
            rw [hm3]; simp [htc, entC]
          · obtain rfl : t = i * 3 + 2 := by omega
            rw [hm3]; simp [htc, entC]
        · rw [if_neg e, ← hold]
          rw [Array.getElem?_setIfInBounds_ne (by omega), Array.getElem?_setIfInBounds_ne (by omega), Array.getElem?_setIfInBounds_ne (by omega)]
      · rw [List.getElem?_take, if_neg ht, List.getElem?_eq_none (by rw [entsC_len, List.length_set]; omega)]
    · have hkg : k ≠ g := fun e => hne (by rw [e])
      exact (Below.heap_setCell _ _ _ _ hkg).trans ((Below.heap_setCell _ _ _ _ hkg).trans (Below.heap_setCell _ _ _ _ hkg))
theorem row_free {w : World} {base g n cap : Nat} {xs : List Value} (h : w.ownsRow base 154 3 (.slice (some ⟨g, 0, none⟩) n cap) n xs) (k : Nat) : w.frozen? ⟨g, k, none⟩ = false := by
  rcases h.2 with ⟨hv, _⟩ | ⟨g', cap', cur, hv, hb, hg, hle, hm, hsz, htk⟩
  · cases hv
  · cases hv; simp [World.frozen?, hg]
/-- The row cut to its first entries. -/
theorem row_cut {w : World} {base g n cap : Nat} {l : List Ent} (h : w.ownsRow base 154 3 (.slice (some ⟨g, 0, none⟩) n cap) n (entsC l)) (hn : l.length = n) {m : Nat} (hm : m ≤ n) : w.ownsRow base 154 3 (.slice (some ⟨g, 0, none⟩) m cap) m (entsC (l.take m)) := by
  rcases h.2 with ⟨hv, _⟩ | ⟨g', cap', cur, hv, hb, hg, hle, hmx, hsz, htk⟩
  · cases hv
  · cases hv
    refine ⟨by rw [entsC_len, List.length_take, hn]; congr 1; omega, .inr ⟨g, cap, cur, rfl, hb, hg, by omega, hmx, hsz, ?_⟩⟩
    have e : entsC (l.take m) = (entsC l).take (m * 3) := by
      refine List.ext_getElem? (fun t => ?_)
      rw [List.getElem?_take]
      by_cases ht : t < m * 3
      · rw [if_pos ht, entsC_get (by rw [List.length_take, hn]; omega), entsC_get (by omega)]
        have h1 : t / 3 < (l.take m).length := by rw [List.length_take, hn]; omega
        rw [getElem!_pos (l.take m).toArray (t / 3) (by simpa using h1), getElem!_pos l.toArray (t / 3) (by simp; omega)]
        simp
      · rw [if_neg ht, List.getElem?_eq_none (by rw [entsC_len, List.length_take]; omega)]
    rw [e, ← htk, List.take_take, Nat.min_eq_left (Nat.mul_le_mul_right _ hm)]

set_option maxHeartbeats 400000 in
/-- The closure of Cancel. -/
theorem same_ok (k : Int) (t d : Nat) (X : Nat) (d0 : Nat) (w : World) (h : w.cell? ⟨X, 2, none⟩ = some (.int .i64 (d0 : Int))) (hX : X < w.heap.size) :
    Calls Tryd.prog 84 #[.agg #[.int .i64 k, .int .i64 (t : Int), .int .i64 (d : Int)], .pointer (some ⟨X, 0, none⟩)] w fun e w' => e = .returned (.bool (decide (d = d0))) ∧ Below w.heap.size w w' := by
  by_cases e : d = d0
  · subst e
    rw [decide_eq_true rfl]
    go_enter Tryd.func84, Tryd.ntmps84
    go_wp2
    go_ret
    exact ⟨rfl, (Below.refl _ _).alloc (Nat.le_refl _) _⟩
  · have hne : ((d : Int) == (d0 : Int)) = false := by rw [beq_eq_false_iff_ne]; omega
    rw [decide_eq_false e]
    go_enter Tryd.func84, Tryd.ntmps84
    go_wp2
    go_ret
    exact ⟨rfl, (Below.refl _ _).alloc (Nat.le_refl _) _⟩

set_option maxRecDepth 100000 in
set_option maxHeartbeats 1000000 in
theorem index_ok {w : World} {base g n cap X d0 : Nat} {E1 E2 : List Ent} {x0 : Ent} (h : w.ownsRow base 154 3 (.slice (some ⟨g, 0, none⟩) n cap) n (entsC (E1 ++ x0 :: E2))) (hn : (E1 ++ x0 :: E2).length = n) (h1 : ∀ y ∈ E1, y.ord ≠ d0) (h0 : x0.ord = d0) (hX : w.cell? ⟨X, 2, none⟩ = some (.int .i64 (d0 : Int))) (hXl : X < w.heap.size) (hsz : n < 1099511627776) :
    Calls Tryd.prog 91 #[.slice (some ⟨g, 0, none⟩) n cap, .func (.func 84) #[] #[.pointer (some ⟨X, 0, none⟩)]] w fun e w' => e = .returned (.int .i64 (E1.length : Int)) ∧ Below w.heap.size w w' := by
  have H := Lib.hid h
  have HX := Lib.hid hX
  have hn2 : E1.length < n := by rw [← hn]; simp
  have hnI : (n : Int) < 1099511627776 := by omega
  have H1 := Lib.hid h1
  have H0 := Lib.hid h0
  clear h hX hn h1 h0
  go_enter Tryd.func91, Tryd.ntmps91
  go_wp2_with fail
  go_loopw [8] (fun vi wr => ∃ k : Nat, vi = .int .i64 (k : Int) ∧ k ≤ E1.length ∧ Below w.heap.size w wr) (fun vi _ => n - (intOf vi).toNat)
  case atStart => exact ⟨0, rfl, by omega, Below.refl _ _⟩
  case round =>
    obtain ⟨k, rfl, hk, hB⟩ := hrel
    have hkn : (k : Int) < (n : Int) := by omega
    have hk2 : k < n := by omega
    have hrow : wr.ownsRow base 154 3 (.slice (some ⟨g, 0, none⟩) n cap) n (entsC (E1 ++ x0 :: E2)) := ownsRow_kept H.out (fun g' hg => hB.block g' (H.out.lt g' hg).2)
    have hXr : wr.cell? ⟨X, 2, none⟩ = some (.int .i64 (d0 : Int)) := (World.cell?_of_block (hB.block X hXl)).trans HX.out
    have hXr2 : X < wr.heap.size := Nat.lt_of_lt_of_le hXl hB.size
    have HB := Lib.hid hB
    by_cases e : k < E1.length
    · obtain ⟨x, hx⟩ : ∃ x, E1[k]? = some x := ⟨_, List.getElem?_eq_getElem e⟩
      have hxE : (E1 ++ x0 :: E2)[k]? = some x := by rw [List.getElem?_append_left e]; exact hx
      obtain ⟨c0, c1, c2⟩ := row_at hrow hxE
      have hne := H1.out x (List.mem_of_getElem? hx)
      have HC := Lib.hid (same_ok x.key x.due x.ord X d0 wr hXr hXr2)
      rw [decide_eq_false hne] at HC
      clear hrow hB hx hxE hne hXr
      go_wp2_with (refine HC.out.mono ?_; rintro e wx ⟨rfl, hb⟩; have HB2 := Lib.hid (HB.out.trans (hb.mono HB.out.size)); clear hb)
      go_roundw
      case rel => exact ⟨k + 1, by go_num, by omega, HB2.out⟩
      case measure => simp [intOf]; omega
    · obtain rfl : k = E1.length := by omega
      have hxE : (E1 ++ x0 :: E2)[E1.length]? = some x0 := by rw [List.getElem?_append_right (Nat.le_refl _)]; simp
      obtain ⟨c0, c1, c2⟩ := row_at hrow hxE
      have HC := Lib.hid (same_ok x0.key x0.due x0.ord X d0 wr hXr hXr2)
      rw [decide_eq_true H0.out] at HC
      clear hrow hB hxE hXr
      go_wp2_with (refine HC.out.mono ?_; rintro e wx ⟨rfl, hb⟩; have HB2 := Lib.hid (HB.out.trans (hb.mono HB.out.size)); clear hb)
      go_ret
      exact ⟨rfl, HB2.out⟩
end Go.Proofs.YtpbknbnhljjjcaaDoor

namespace Go.Proofs.YtpbknbnhljjjcaaDoor
open Go.RowKit Go.Maps Go.Lib

theorem set_mid (A : List Ent) (y z : Ent) (Bs : List Ent) : (A ++ y :: z :: Bs).set A.length z = (A ++ [z]) ++ z :: Bs := by
  rw [List.set_append_right _ _ (Nat.le_refl _)]; simp
theorem row_of_grown {wr : World} {base g n cap : Nat} {xs : List Value} (h : wr.ownsRow base 154 3 (.slice (some ⟨g, 0, none⟩) n cap) n xs) {w2 : World} (hb : Below wr.heap.size wr w2) : w2.ownsRow base 154 3 (.slice (some ⟨g, 0, none⟩) n cap) n xs := ownsRow_kept h (fun g' hg => hb.block g' (h.lt g' hg).2)
theorem grown_below {w wr w2 : World} {row : Option Nat} (h : w.grownBy wr row) (hb : Below wr.heap.size wr w2) : w.grownBy w2 row :=
  ⟨hb.os.trans h.os, hb.tape.trans h.tape, hb.output.trans h.output, Nat.le_trans h.size hb.size, fun i hi hne => (hb.block i (Nat.lt_of_lt_of_le hi h.size)).trans (h.block i hi hne)⟩
theorem grown_trans' {a b c : World} {row : Option Nat} (h : a.grownBy b row) (k : b.grownBy c row) : a.grownBy c row :=
  ⟨k.os.trans h.os, k.tape.trans h.tape, k.output.trans h.output, Nat.le_trans h.size k.size, fun i hi hne => (k.block i (Nat.lt_of_lt_of_le hi h.size) hne).trans (h.block i hi hne)⟩
set_option maxRecDepth 100000 in
set_option maxHeartbeats 2000000 in
theorem delete_ok {w : World} {base g n cap X d0 : Nat} {E1 E2 : List Ent} {x0 : Ent} (h : w.ownsRow base 154 3 (.slice (some ⟨g, 0, none⟩) n cap) n (entsC (E1 ++ x0 :: E2))) (hn : (E1 ++ x0 :: E2).length = n) (h1 : ∀ y ∈ E1 ++ E2, y.ord ≠ d0) (h0 : x0.ord = d0) (hX : w.cell? ⟨X, 2, none⟩ = some (.int .i64 (d0 : Int))) (hXl : X < w.heap.size) (hXg : X ≠ g) (hsz : n < 1099511627776) :
    Calls Tryd.prog 82 #[.slice (some ⟨g, 0, none⟩) n cap, .func (.func 84) #[] #[.pointer (some ⟨X, 0, none⟩)]] w fun e w' => e = .returned (.slice (some ⟨g, 0, none⟩) (E1 ++ E2).length cap) ∧ w'.ownsRow base 154 3 (.slice (some ⟨g, 0, none⟩) (E1 ++ E2).length cap) (E1 ++ E2).length (entsC (E1 ++ E2)) ∧ w.grownBy w' (some g) := by
  have HI := Lib.hid (index_ok h hn (fun y hy => h1 y (List.mem_append_left _ hy)) h0 hX hXl hsz)
  have H := Lib.hid h
  have HX := Lib.hid hX
  have hnc : n ≤ cap ∧ cap ≤ maxLen := by
    rcases h.2 with ⟨hv, _⟩ | ⟨g', cap', cur, hv, hb, hg, hle, hm, hr⟩
    · cases hv
    · cases hv; exact ⟨hle, hm⟩
  obtain ⟨hnc, hcm⟩ := hnc
  unfold maxLen at hcm
  have HN := Lib.hid hn
  have H1 := Lib.hid h1
  have H0 := Lib.hid h0
  have hneg : ((E1.length : Int) == -1) = false := by rw [beq_eq_false_iff_ne]; omega
  have hE1 : (E1.length : Int) < 1099511627776 := by
    have : E1.length < n := by rw [← hn]; simp
    omega
  clear h hX hn h1 h0
  go_enter Tryd.func82, Tryd.ntmps82
  go_wp2_with (go_at_call 91; refine HI.out.mono ?_; rintro e wi ⟨rfl, hbi⟩; have HBI := Lib.hid hbi; clear hbi)
  go_loopw [5, 6] (fun vi vj wr => ∃ (A Bs : List Ent) (y : Ent), vi = .int .i64 (A.length : Int) ∧ vj = .int .i64 ((A.length : Int) + 1) ∧ A ++ Bs = E1 ++ E2 ∧ A.length + Bs.length + 1 = n ∧ wr.ownsRow base 154 3 (.slice (some ⟨g, 0, none⟩) n cap) n (entsC (A ++ y :: Bs)) ∧ w.grownBy wr (some g)) (fun _ vj _ => n - (intOf vj).toNat)
  case atStart =>
    refine ⟨E1, E2, x0, rfl, rfl, rfl, by have := HN.out; simp at this; omega, row_of_grown H.out HBI.out, ⟨HBI.out.os, HBI.out.tape, HBI.out.output, HBI.out.size, fun i hi _ => HBI.out.block i hi⟩⟩
  case round =>
    obtain ⟨A, Bs, y, rfl, rfl, hAB, hlen, hrow, hgr⟩ := hrel
    have HAB := Lib.hid hAB
    have HROW := Lib.hid hrow
    have HGR := Lib.hid hgr
    have hXr : wr.cell? ⟨X, 2, none⟩ = some (.int .i64 (d0 : Int)) := (World.cell?_of_block (hgr.block X hXl (by simp; exact hXg))).trans HX.out
    have hXr2 : X < wr.heap.size := Nat.lt_of_lt_of_le hXl hgr.size
    clear hAB hgr
    cases Bs with
    | cons z Bs =>
      have hlt : (A.length : Int) + 1 < (n : Int) := by simp at hlen; omega
      have hAl : (A.length : Int) < 1099511627776 := by omega
      have hz : (A ++ y :: z :: Bs)[A.length + 1]? = some z := by rw [List.getElem?_append_right (by omega)]; simp
      obtain ⟨c0, c1, c2⟩ := row_at hrow hz
      have hb4 : Below wr.heap.size wr (wr.alloc (.cells #[.int .i64 z.key, .int .i64 (z.due : Int), .int .i64 (z.ord : Int)] 154)) := (Below.refl _ _).alloc (Nat.le_refl _) _
      have hne := H1.out z (by rw [← HAB.out]; simp)
      have HC := Lib.hid (same_ok z.key z.due z.ord X d0 (wr.alloc (.cells #[.int .i64 z.key, .int .i64 (z.due : Int), .int .i64 (z.ord : Int)] 154)) ((World.cell?_of_block (hb4.block X hXr2)).trans hXr) (by simp; omega))
      rw [decide_eq_false hne] at HC
      have HLEN := Lib.hid hlen
      clear hrow hz hne hXr hlen hb4
      go_wp2_with fail
      refine HC.out.mono ?_
      rintro e wx ⟨rfl, hb⟩
      obtain ⟨hb5, hbox⟩ := box3 (w := wr) (by simpa using hb)
      obtain ⟨⟨b0, b1, b2⟩, _⟩ := cells3 hbox
      have HROW2 := Lib.hid (row_of_grown HROW.out hb5)
      have HGR2 := Lib.hid (grown_below HGR.out hb5)
      have r0 := row_free HROW2.out (A.length * 3)
      have r1 := row_free HROW2.out (A.length * 3 + 1)
      have r2 := row_free HROW2.out (A.length * 3 + 2)
      obtain ⟨s0, s1, s2⟩ := row_at HROW2.out (k := A.length) (x := y) (by rw [List.getElem?_append_right (Nat.le_refl _)]; simp)
      have hAn : (A.length : Int) < (n : Int) := by have := HLEN.out; simp at this; omega
      clear hb hb5 hbox
      go_wp2_with fail
      have hset := row_set HROW2.out (by have := HLEN.out; simp at this ⊢; omega) A.length z
      rw [set_mid] at hset
      refine ⟨⟨A ++ [z], Bs, z, by simp, by simp, by rw [List.append_assoc]; exact HAB.out, by have := HLEN.out; simp at this ⊢; omega, hset.1, grown_trans' HGR2.out hset.2⟩, by have := HLEN.out; simp [intOf] at this ⊢; omega⟩
    | nil =>
      have hnA : n = A.length + 1 := by simp at hlen; omega
      clear hlen
      subst hnA
      have hAE : A = E1 ++ E2 := by have := HAB.out; simpa using this
      have hAl : (A.length : Int) < 1099511627776 := by omega
      have hcap : A.length < cap := by omega
      have hcapI : (A.length : Int) < (cap : Int) := by omega
      have hcapJ : (A.length : Int) ≤ (cap : Int) := by omega
      obtain ⟨s0, s1, s2⟩ := row_at hrow (k := A.length) (x := y) (by rw [List.getElem?_append_right (Nat.le_refl _)]; simp)
      have hcl := fun ty => run_clear1 wr ty g (A.length * 3) (cap - A.length) (fun j hj => by
        have hj3 : j = 0 ∨ j = 1 ∨ j = 2 := by omega
        rcases hj3 with rfl | rfl | rfl
        · rw [Nat.add_zero, s0]; rfl
        · rw [s1]; rfl
        · rw [s2]; rfl) (fun j _ => row_free hrow _)
      have hsub : A.length + 1 - A.length = 1 := by omega
      have hset := row_set hrow (by simp) A.length ⟨0, 0, 0⟩
      have HSET := Lib.hid hset
      have HAE := Lib.hid hAE
      clear hrow hXr s0 s1 s2 hset hAE
      go_wp2_with fail
      go_ret
      have hAE2 := HAE.out
      have hlen2 : (E1.length + E2.length) = A.length := by rw [hAE2]; simp
      rw [hlen2, ← hAE2]
      have hcut := row_cut HSET.out.1 (by simp) (m := A.length) (by omega)
      have htk : ((A ++ [y]).set A.length ⟨0, 0, 0⟩).take A.length = A := by
        rw [List.set_append_right _ _ (Nat.le_refl _)]; simp
      rw [htk] at hcut
      exact ⟨rfl, hcut, grown_trans' HGR.out HSET.out.2⟩
end Go.Proofs.YtpbknbnhljjjcaaDoor

namespace Go.Proofs.YtpbknbnhljjjcaaDoor
open Go.RowKit Go.Maps Go.Lib

/-- One slot gets a new row. -/
theorem slot_put {S : Nat → Prop} {W M now o : Nat} {A P P' : List Ent} {sm sm' : Nat → Nat} {sv : Nat → Value} {rows : Nat → List Ent} {w w4 w6 : World} {v : Value} {q : Nat} {xs : List Ent} (h : WhAt S W M now o A P sm sv rows w) (hb : Below w.heap.size w w4) (hown : w4.ownsRow w.heap.size 154 3 v xs.length (entsC xs))
    (hW : w6.heap[W]? = some (wheelObj 118 now o M sm' (updF sv q v))) (h6 : ∀ i, i ≠ W → w6.heap[i]? = w4.heap[i]?) (hs6 : w6.heap.size = w4.heap.size) (ho6 : w6.os = w4.os ∧ w6.tape = w4.tape ∧ w6.output = w4.output) (hP : Placed now (updF rows q xs) P') (hsub : ∀ x ∈ P', x ∈ P) (hbit : SomeOk sm' (updF rows q xs)) :
    ∃ S', WhAt S' W M now o A P' sm' (updF sv q v) (updF rows q xs) w6 ∧ Only S w w6 ∧ ∀ i, S' i → S i ∨ w.heap.size ≤ i := by
  have hsz := hb.size
  have hWl := h.low W h.mem.1
  have hMl := h.low M h.mem.2.1
  have k1 : ∀ i, i < w.heap.size → i ≠ W → w6.heap[i]? = w.heap[i]? := fun i hi hne => (h6 i hne).trans (hb.block i hi)
  have hrows := (h.rws.mono (T := fun i => S i ∨ (w.heap.size ≤ i ∧ i < w4.heap.size)) (fun i hi => .inl hi)).put (q := q) (xs := xs) (v := v) (w' := w4) (ownsRow_base hown (Nat.zero_le _))
    (fun r b hr hne hv => hb.block b (h.low b (h.rws.own r b hr hv).1))
    (fun b hv => by
      obtain ⟨h1, h2⟩ := hown.lt b hv
      refine ⟨⟨.inr ⟨h1, h2⟩, by omega, by omega⟩, fun r hr hne hv2 => ?_⟩
      have := h.low b (h.rws.own r b hr hv2).1
      omega)
  refine ⟨fun i => S i ∨ (w.heap.size ≤ i ∧ i < w4.heap.size), ⟨hW, h.map.block (k1 M hMl (fun e => h.mem.2.2 e.symm)), hrows.kept (fun r b hr hv => h6 b (hrows.own r b hr hv).2.1), ⟨.inl h.mem.1, .inl h.mem.2.1, h.mem.2.2⟩, fun i hi => ?_, hP, hbit, h.tm, fun x hx => h.due x (hsub x hx)⟩, ⟨ho6.1.trans hb.os, ho6.2.1.trans hb.tape, ho6.2.2.trans hb.output, by rw [hs6]; exact hsz, fun i hi hn => k1 i hi (fun e => hn (e ▸ h.mem.1))⟩, fun i hi => ?_⟩
  · rw [hs6]
    rcases hi with hi | hi
    · have := h.low i hi; omega
    · exact hi.2
  · rcases hi with hi | hi
    · exact .inl hi
    · exact .inr hi.1
/-- Somebody is disarmed. -/
theorem WhAt.dropKey {S : Nat → Prop} {W M now o : Nat} {A P : List Ent} {sm : Nat → Nat} {sv : Nat → Value} {rows : Nat → List Ent} {w : World} {k : Int} (h : WhAt S W M now o A P sm sv rows w) (hk : (A.map Ent.key).Nodup) {x : Ent} (hx : hasKey k A = some x) (hw : (Lit.int .i64 k).wf = true) (ty : TypeId) :
    ∃ w', (Builtin.delete_ #[110, 3] ty #[.map (some M), .int .i64 k]).run Tryd.prog w = .ok (.tuple #[]) w' ∧ WhAt S W M now o (without k A) P sm sv rows w' ∧ Only S w w' := by
  obtain ⟨w', c', hrun, hm, hg, hc⟩ := h.map.drop (E := kI) Tryd.underlying110 (k := k) hw ty
  have hkp : ∀ i, i < w.heap.size → i ≠ M → w'.heap[i]? = w.heap[i]? := fun i hi hne => hg.block i hi (by simp; exact hne)
  have e1 : armF A k = some (entV x) := by unfold armF; rw [hx]; rfl
  rw [e1] at hc
  obtain ⟨hxA, hxk⟩ := hasKey_some hx
  have hlen : (without k A).length + 1 = A.length := by
    obtain ⟨A1, A2, rfl⟩ := List.append_of_mem hxA
    rw [List.map_append, List.map_cons, List.nodup_append] at hk
    obtain ⟨_, hk2, hk3⟩ := hk
    have hk4 := (List.nodup_cons.1 hk2).1
    unfold without
    rw [List.filter_append, List.filter_cons_of_neg (by simpa using hxk)]
    have f1 : A1.filter (fun x : Ent => decide (x.key ≠ k)) = A1 := List.filter_eq_self.2 (fun y hy => decide_eq_true (fun e => hk3 y.key (List.mem_map_of_mem hy) x.key (List.mem_cons_self ..) (e.trans hxk.symm)))
    have f2 : A2.filter (fun x : Ent => decide (x.key ≠ k)) = A2 := List.filter_eq_self.2 (fun y hy => decide_eq_true (fun e => hk4 (by rw [hxk, ← e]; exact List.mem_map_of_mem hy)))
    rw [f1, f2]
    simp; omega
  have hc' : c' = (without k A).length := by simp at hc; omega
  subst hc'
  refine ⟨w', hrun, ⟨(hkp W (h.low W h.mem.1) h.mem.2.2).trans h.cells, hm.ext (fun j _ => ?_), h.rws.kept (fun q b hq hv => hkp b (h.low b (h.rws.own q b hq hv).1) (h.rws.own q b hq hv).2.2), h.mem, fun i hi => Nat.lt_of_lt_of_le (h.low i hi) hg.size, h.placed, h.bits, h.tm, h.due⟩, (Only.refl S w).grown hg (fun g e _ => by cases e; exact h.mem.2.1)⟩
  by_cases e : j = k
  · subst e
    rw [if_pos rfl]
    unfold armF
    rw [hasKey_not (fun y hy => (mem_without.1 hy).2)]; rfl
  · rw [if_neg e]
    show (hasKey j A).map entV = (hasKey j (without k A)).map entV
    refine congrArg (Option.map entV) ?_
    have hk2 : ((without k A).map Ent.key).Nodup := hk.sublist (List.Sublist.map _ List.filter_sublist)
    cases hj : hasKey j A with
    | none => exact (hasKey_not (fun y hy => hasKey_none hj y (mem_without.1 hy).1)).symm
    | some y =>
      obtain ⟨h1, h2⟩ := hasKey_some hj
      exact (hasKey_of hk2 (mem_without.2 ⟨h1, by rw [h2]; exact e⟩) h2).symm
theorem zero109v (w : World) : (zeroValue 154).run Tryd.prog w = .ok (.agg #[.int .i64 0, .int .i64 0, .int .i64 0]) w := zero109 w
set_option maxRecDepth 100000 in
set_option maxHeartbeats 1000000 in
theorem cancel_none {S : Nat → Prop} {W M now o : Nat} {A P : List Ent} {sm : Nat → Nat} {sv : Nat → Value} {rows : Nat → List Ent} {w : World} (h : WhAt S W M now o A P sm sv rows w) {k : Int} (hw : (Lit.int .i64 k).wf = true) (hk : hasKey k A = none) :
    Calls Tryd.prog 68 #[.pointer (some ⟨W, 0, none⟩), .int .i64 k] w fun e w' => e = .returned (.bool false) ∧ Below w.heap.size w w' := by
  have c0 := wh_map h.cells
  have hq := h.map.look_ok (E := kI) Tryd.underlying110 (zero109 w) (k := k) hw
  have e1 : armF A k = none := by unfold armF; rw [hk]; rfl
  rw [e1] at hq
  simp only [Option.getD_none, Option.isSome_none] at hq
  have hq : (Instr.lookup 110 (.map (some M)) (.int .i64 k) true).run Tryd.prog w = .ok (.tuple #[.agg #[.int .i64 0, .int .i64 0, .int .i64 0], .bool false]) w := hq
  clear h hk e1
  go_enter Tryd.func68, Tryd.ntmps68
  go_wp2_with fail
  go_ret
  exact ⟨rfl, (Below.refl _ _).alloc (Nat.le_refl _) _⟩
end Go.Proofs.YtpbknbnhljjjcaaDoor

namespace Go.Proofs.YtpbknbnhljjjcaaDoor
open Go.RowKit Go.Maps Go.Lib

/-- A row's copy. -/
theorem clone_ok {w : World} {base g n cap : Nat} {l : List Ent} (h : w.ownsRow base 154 3 (.slice (some ⟨g, 0, none⟩) n cap) n (entsC l)) (hn : l.length = n) (h0 : 0 < n) (hsz : n < 1099511627776) :
    Calls Tryd.prog 83 #[.slice (some ⟨g, 0, none⟩) n cap] w fun e w' => ∃ g2 cap2, e = .returned (.slice (some ⟨g2, 0, none⟩) n cap2) ∧ w'.ownsRow w.heap.size 154 3 (.slice (some ⟨g2, 0, none⟩) n cap2) n (entsC l) ∧ Below w.heap.size w w' := by
  obtain ⟨i0, hi, hz0, hz1, hz2⟩ := info_parts Tryd.info154
  have hc := AnyE.slices_Clone Tryd.cloneE i0 (.agg #[.int .i64 0, .int .i64 0, .int .i64 0]) 3 24 hi hz0 hz1 hz2 rfl (by decide) Tryd.sizeOf154 g 0 n cap (entsC l) w (by rw [entsC_len, hn]) (by unfold maxLen; omega) (by omega) (fun j u hj => by
    have := h.cells (g := g) rfl j u hj
    rw [Addr.add_lit] at this
    exact this) (fun u hu => by
      unfold entsC at hu
      obtain ⟨y, _, hu⟩ := List.mem_flatMap.1 hu
      simp [entC] at hu
      rcases hu with rfl | rfl | rfl <;> rfl)
  change Calls Tryd.prog 83 _ _ _ at hc
  refine hc.mono ?_
  rintro e w' ⟨v', he, ho, _, hb⟩
  obtain ⟨g2, cap2, rfl, _, _⟩ := World.ownsRow.form ho h0
  exact ⟨g2, cap2, he, ho, hb⟩
theorem delete_m {w : World} {base g n cap X d0 m : Nat} {E1 E2 : List Ent} {x0 : Ent} (hm : (E1 ++ E2).length = m) (h : w.ownsRow base 154 3 (.slice (some ⟨g, 0, none⟩) n cap) n (entsC (E1 ++ x0 :: E2))) (hn : (E1 ++ x0 :: E2).length = n) (h1 : ∀ y ∈ E1 ++ E2, y.ord ≠ d0) (h0 : x0.ord = d0) (hX : w.cell? ⟨X, 2, none⟩ = some (.int .i64 (d0 : Int))) (hXl : X < w.heap.size) (hXg : X ≠ g) (hsz : n < 1099511627776) :
    Calls Tryd.prog 82 #[.slice (some ⟨g, 0, none⟩) n cap, .func (.func 84) #[] #[.pointer (some ⟨X, 0, none⟩)]] w fun e w' => e = .returned (.slice (some ⟨g, 0, none⟩) m cap) ∧ w'.ownsRow base 154 3 (.slice (some ⟨g, 0, none⟩) m cap) m (entsC (E1 ++ E2)) ∧ w.grownBy w' (some g) := by
  subst hm
  exact delete_ok h hn h1 h0 hX hXl hXg hsz
set_option maxRecDepth 100000 in
set_option maxHeartbeats 8000000 in
theorem cancel_some {S : Nat → Prop} {W M now o : Nat} {A P : List Ent} {sm : Nat → Nat} {sv : Nat → Value} {rows : Nat → List Ent} {w : World} {k : Int} {x : Ent} (h : WhAt S W M now o A P sm sv rows w) (hp : P.Perm A) (hL : Wh now o A) (ho : o < 1099511627776) (hw : (Lit.int .i64 k).wf = true) (hx : hasKey k A = some x) :
    Calls Tryd.prog 68 #[.pointer (some ⟨W, 0, none⟩), .int .i64 k] w fun e w' => e = .returned (.bool true) ∧ ∃ S' P', Adv S S' W now o (without k A) P' w w' ∧ P'.Perm (without k A) := by
  have c0 := wh_map h.cells
  have hq := h.map.look_ok (E := kI) Tryd.underlying110 (zero109 w) (k := k) hw
  have e1 : armF A k = some (entV x) := by unfold armF; rw [hx]; rfl
  rw [e1] at hq
  have hq : (Instr.lookup 110 (.map (some M)) (.int .i64 k) true).run Tryd.prog w = .ok (.tuple #[.agg #[.int .i64 x.key, .int .i64 (x.due : Int), .int .i64 (x.ord : Int)], .bool true]) w := hq
  have hb1 : Below w.heap.size w (w.alloc (.cells #[.int .i64 x.key, .int .i64 (x.due : Int), .int .i64 (x.ord : Int)] 154)) := (Below.refl _ _).alloc (Nat.le_refl _) _
  have h1 := h.below hb1
  obtain ⟨w2, hrun, h2, ho2⟩ := h1.dropKey hL.keys hx hw 0
  have c1 := wh_map h1.cells
  have hbox : w2.heap[w.heap.size]? = some (.cells #[.int .i64 x.key, .int .i64 (x.due : Int), .int .i64 (x.ord : Int)] 154 (0, 0)) :=
    (ho2.block w.heap.size (by simp) (fun hS => by have := h.low _ hS; omega)).trans (heap_alloc_new w _)
  obtain ⟨⟨b0, b1, b2⟩, _⟩ := cells3 hbox
  obtain ⟨hxA, hxk⟩ := hasKey_some hx
  have hxP : x ∈ P := hp.symm.subset hxA
  have ht := h.tm
  have hd := h.due x hxP
  have hn4 : now < 4398046511104 := by omega
  have ht4 : x.due < 4398046511104 := by omega
  have h7 := lvl_six ht4 hn4
  have hs64 := slt_lt now x.due
  have HP := Lib.hid (place_ok h2.cells x.due hn4 ht4)
  have HH := Lib.hid h
  have HPP := Lib.hid hp
  have HL := Lib.hid hL
  have HX := Lib.hid hx
  have H2 := Lib.hid h2
  have HO2 := Lib.hid ((Only.of_below (S := S) hb1).trans ho2 (fun _ _ hS => hS))
  have HBX := Lib.hid hbox
  have HXP := Lib.hid hxP
  clear h hp hL hx h1 h2 ho2 hbox hxA hxk hxP e1 hb1
  obtain ⟨lv, hlv⟩ : ∃ lv, lvl x.due now = lv := ⟨_, rfl⟩
  obtain ⟨s, hs⟩ : ∃ s, slt now x.due = s := ⟨_, rfl⟩
  rw [hlv] at h7 HP
  rw [hs] at hs64 HP
  have HQ := Lib.hid (show qOf now x.due = lv * 64 + s from by unfold qOf; rw [hlv, hs])
  clear hlv hs
  have h7I : (lv : Int) < 7 := by omega
  have hsI : (s : Int) < 64 := by omega
  go_enter Tryd.func68, Tryd.ntmps68
  go_wp2_with (go_at_call 81; refine HP.out.mono ?_; rintro e wx ⟨rfl, nq, rfl⟩)
  obtain ⟨w3, hw3⟩ : ∃ w3, w2.drewN nq = w3 := ⟨_, rfl⟩
  have hb3 : Below w2.heap.size w2 w3 := by rw [← hw3]; exact below_drewN (Below.refl _ _) nq
  rw [hw3]
  clear hw3 HP hrun
  have HW3 := Lib.hid (H2.out.below hb3)
  have HBX3 := Lib.hid ((hb3.block w.heap.size (by have := (Array.getElem?_eq_some_iff.1 HBX.out).1; exact this)).trans HBX.out)
  have HO3 := Lib.hid (HO2.out.trans (Only.of_below (S := S) hb3) (fun _ _ hS => hS))
  have hxq : x ∈ rows (lv * 64 + s) := (HH.out.placed _ (by omega)).symm.subset (mem_ofQ.2 ⟨HXP.out, HQ.out⟩)
  obtain ⟨E1, E2, hE⟩ := List.append_of_mem hxq
  have hrow := HW3.out.rws.row (lv * 64 + s) (by omega)
  rw [hE] at hrow
  have hElen : (E1 ++ x :: E2).length < 1099511627776 := by
    rw [← hE]
    have h3 := (HH.out.placed (lv * 64 + s) (by omega)).length_eq
    have h4 : (ofQ now (lv * 64 + s) P).length ≤ P.length := List.length_filter_le _ _
    have h5 := HPP.out.length_eq
    have h6 := HL.out.len
    omega
  have hEo : ∀ y ∈ E1 ++ E2, y.ord ≠ x.ord := by
    have h1 : ((rows (lv * 64 + s)).map Ent.ord).Nodup := by
      refine (((HH.out.placed (lv * 64 + s) (by omega)).map Ent.ord).nodup_iff).2 ?_
      have h2 : (P.map Ent.ord).Nodup := ((HPP.out.map Ent.ord).nodup_iff).2 HL.out.ords
      exact h2.sublist (List.Sublist.map _ List.filter_sublist)
    rw [hE, List.map_append, List.map_cons, List.nodup_append] at h1
    obtain ⟨_, g2, g3⟩ := h1
    have g4 := (List.nodup_cons.1 g2).1
    intro y hy e
    rcases List.mem_append.1 hy with hy | hy
    · exact g3 y.ord (List.mem_map_of_mem hy) x.ord (List.mem_cons_self ..) e
    · exact g4 (by rw [← e]; exact List.mem_map_of_mem hy)
  obtain ⟨q, hq⟩ : ∃ q, lv * 64 + s = q := ⟨_, rfl⟩
  have c2 := wh_sv HW3.out.cells h7 hs64
  have f2 := wh_free HW3.out.cells (3 + lv * 65 + 1 + s)
  rw [hq] at c2 hrow hE HQ
  have HPL := Lib.hid (show Placed now (updF rows q (E1 ++ E2)) (P.filter (fun y => decide (y.ord ≠ x.ord))) from by
    have h1 := HH.out.placed.cancel x HQ.out (fun y hy e => by
      have h2 : (P.map Ent.ord).Nodup := ((HPP.out.map Ent.ord).nodup_iff).2 HL.out.ords
      by_cases e2 : y = x
      · rw [e2]; exact HQ.out
      · exact (pair_ord (List.pairwise_map.1 h2) hy HXP.out e2 e).elim)
    have h3 : (rows q).filter (fun y => decide (y.ord ≠ x.ord)) = E1 ++ E2 := by
      rw [hE, List.filter_append, List.filter_cons_of_neg (by simp)]
      rw [List.filter_eq_self.2 (fun y hy => decide_eq_true (hEo y (List.mem_append_left _ hy))), List.filter_eq_self.2 (fun y hy => decide_eq_true (hEo y (List.mem_append_right _ hy)))]
    rw [h3] at h1
    exact h1)
  have HPW := Lib.hid (show (P.filter (fun y => decide (y.ord ≠ x.ord))).Perm (without k A) from by
    obtain ⟨hxA, hxk⟩ := hasKey_some HX.out
    rw [← hxk, ← without_ord HL.out.keys HL.out.ords hxA]
    exact HPP.out.filter _)
  have HRN := Lib.hid (show rows q ≠ [] from by rw [hE]; simp)
  have HB3 := Lib.hid hb3
  obtain ⟨v, hv⟩ : ∃ v, sv q = v := ⟨_, rfl⟩
  rw [hv] at c2 hrow
  obtain ⟨g, cap, rfl, _, hgl⟩ := hrow.form (by simp; omega)
  have HE := Lib.hid hE
  have HEO := Lib.hid hEo
  have HROW := Lib.hid hrow
  have HQQ := Lib.hid hq
  have HV := Lib.hid hv
  obtain ⟨n, hn⟩ : ∃ n, (E1 ++ x :: E2).length = n := ⟨_, rfl⟩
  rw [hn] at HROW c2 hElen
  have HN := Lib.hid hn
  have hn0 : 0 < n := by rw [← hn]; simp; omega
  clear hE hEo hrow hq hv hxq hn hb3 c0 c1 b0 b1 b2
  have HC := Lib.hid (clone_ok (w := w3.drew) (row_of_grown HROW.out (Below.refl _ _).drew) HN.out hn0 hElen)
  obtain ⟨m, hm⟩ : ∃ m, (E1 ++ E2).length = m := ⟨_, rfl⟩
  have HM := Lib.hid hm
  clear hm
  have HXL := Lib.hid (show w.heap.size < w3.heap.size from (Array.getElem?_eq_some_iff.1 HBX3.out).1)
  go_region_with (first
    | (go_at_call 83; refine HC.out.mono ?_; rintro e w5 ⟨g2, cap2, rfl, ho5, hb5⟩; have HB5 := Lib.hid hb5; have HO5 := Lib.hid ho5; have HC5 := Lib.hid (HW3.out.below ((Below.refl w3.heap.size w3).drew.trans hb5)).cells; have HBX5 := Lib.hid ((hb5.block w.heap.size HXL.out).trans HBX3.out); clear ho5 hb5)
    | (go_at_call 82; refine (delete_m HM.out HO5.out HN.out HEO.out rfl (cells3 HBX5.out).1.2.2 (Array.getElem?_eq_some_iff.1 HBX5.out).1 (fun e => by have := (HO5.out.lt g2 rfl).1; have := HXL.out; have e : w.heap.size = g2 := e; have h9 : w3.drew.heap.size = w3.heap.size := rfl; omega) hElen).mono ?_; rintro e w6 ⟨rfl, ho6, hg6⟩; have HO6 := Lib.hid ho6; have HG6 := Lib.hid hg6; have HC6 := Lib.hid ((hg6.block W (Array.getElem?_eq_some_iff.1 HC5.out).1 (fun e => by have h8 := (HO5.out.lt g2 rfl).1; have h9 : w3.drew.heap.size = w3.heap.size := rfl; have h10 := HW3.out.low W HW3.out.mem.1; have e : W = g2 := Option.some.inj e; omega)).trans HC5.out); have f6 := wh_free HC6.out (3 + lv * 65 + 1 + s); have c6 := wh_sv HC6.out h7 hs64; clear ho6 hg6))
  all_goals
    obtain ⟨w7, hw7⟩ : ∃ w7, w6.setCell ⟨W, 3 + lv * 65 + 1 + s, none⟩ (.slice (some ⟨g2, 0, none⟩) m cap2) = w7 := ⟨_, rfl⟩
    have hc7 : w7.heap[W]? = some (wheelObj 118 now o M sm (updF sv q (.slice (some ⟨g2, 0, none⟩) m cap2))) := by
      rw [← hw7, ← HQQ.out]
      exact wh_setSv HC6.out lv hs64 _
    rw [hw7]
    have HW7 := Lib.hid hw7
    clear hw7 c2 f2 c6 f6
    have c7 := wh_sv hc7 h7 hs64
    rw [HQQ.out, updF_same] at c7
    have c8 := wh_sm hc7 h7
    have f8 := wh_free hc7 (3 + lv * 65)
    have HC7 := Lib.hid hc7
    clear hc7
    have HB6 := Lib.hid (show Below w2.heap.size w2 w6 from by
      have h1 : Below w2.heap.size w2 w5 := (HB3.out.trans ((Below.refl w3.heap.size w3).drew.mono HB3.out.size)).trans (HB5.out.mono HB3.out.size)
      exact h1.grown HG6.out h1.size (fun b e => by
        have h2 := (HO5.out.lt g2 rfl).1
        have h3 : w3.drew.heap.size = w3.heap.size := rfl
        have h4 := HB3.out.size
        cases e
        omega))
    have hso : w7.heap.size = w6.heap.size ∧ (w7.os = w6.os ∧ w7.tape = w6.tape ∧ w7.output = w6.output) := by rw [← HW7.out]; exact ⟨by simp [World.setCell], rfl, rfl, rfl⟩
    have hk7 : ∀ i, i ≠ W → w7.heap[i]? = w6.heap[i]? := fun i hi => by rw [← HW7.out]; exact Below.heap_setCell _ _ _ _ hi
    have hown6 : w6.ownsRow w2.heap.size 154 3 (.slice (some ⟨g2, 0, none⟩) m cap2) (E1 ++ E2).length (entsC (E1 ++ E2)) := by
      rw [HM.out]
      exact ownsRow_base HO6.out HB3.out.size
    by_cases hm0 : m = 0
    · have hnil : E1 ++ E2 = [] := List.eq_nil_of_length_eq_zero (HM.out.trans hm0)
      obtain ⟨a, ha⟩ : ∃ a, sm lv = a := ⟨_, rfl⟩
      rw [ha] at c8
      obtain ⟨nb, hn1, hn2, hn3⟩ := andNot_bit a s hs64
      have HF := Lib.hid (show ∃ S' P', Adv S S' W now o (without k A) P' w ((w7.setCell ⟨W, 3 + lv * 65, none⟩ (.int .u64 (nb : Int))).drew) ∧ P'.Perm (without k A) from by
        obtain ⟨S', hw8, ho8, hs8⟩ := slot_put (w6 := (w7.setCell ⟨W, 3 + lv * 65, none⟩ (.int .u64 (nb : Int))).drew) (sm' := updF sm lv nb) H2.out HB6.out hown6 (wh_setSm HC7.out lv nb) (fun i hi => (Below.heap_setCell _ _ _ _ hi).trans (hk7 i hi)) (by rw [← hso.1]; simp [World.setCell, World.drew]) hso.2 HPL.out (fun y hy => (List.mem_filter.1 hy).1) (by
          rw [hnil, ← HQQ.out]
          exact HH.out.bits.clear h7 hs64 hn2 (by rw [ha]; exact hn3))
        exact ⟨S', _, ⟨⟨M, _, _, _, hw8⟩, HO2.out.trans ho8 (fun _ _ hS => hS), fun i hi => by
          rcases hs8 i hi with e | e
          · exact .inl e
          · exact .inr (Nat.le_trans HO2.out.size e)⟩, HPW.out⟩)
      have HWT := Lib.hid (wrap_two s hs64)
      have HN1 := Lib.hid hn1
      subst hm0
      clear hn1 hn3 hnil hso hk7 hown6 ha
      go_wp2_with fail
      go_region
      all_goals
        go_wp2
        go_ret
        rw [HWT.out, HN1.out]
        exact ⟨rfl, HF.out⟩
    · have hmI : ((m : Int) == 0) = false := by rw [beq_eq_false_iff_ne]; omega
      have HF := Lib.hid (show ∃ S' P', Adv S S' W now o (without k A) P' w w7 ∧ P'.Perm (without k A) from by
        obtain ⟨S', hw8, ho8, hs8⟩ := slot_put (w6 := w7) (sm' := sm) H2.out HB6.out hown6 HC7.out hk7 hso.1 hso.2 HPL.out (fun y hy => (List.mem_filter.1 hy).1) (HH.out.bits.stay (fun e => hm0 (by rw [← HM.out, e]; rfl)) HRN.out)
        exact ⟨S', _, ⟨⟨M, _, _, _, hw8⟩, HO2.out.trans ho8 (fun _ _ hS => hS), fun i hi => by
          rcases hs8 i hi with e | e
          · exact .inl e
          · exact .inr (Nat.le_trans HO2.out.size e)⟩, HPW.out⟩)
      clear hso hk7 hown6
      go_wp2_with fail
      go_ret
      exact ⟨rfl, HF.out⟩
end Go.Proofs.YtpbknbnhljjjcaaDoor

namespace Go.Proofs.YtpbknbnhljjjcaaDoor
open Go.RowKit Go.Maps Go.Lib

/-- A wheel in memory, at rest. -/
structure Whl (S : Nat → Prop) (W now o : Nat) (L : List Ent) (w : World) : Prop where
  st : ∃ M P sm sv rows, WhAt S W M now o L P sm sv rows w ∧ P.Perm L
  wh : Wh now o L
  ob : o < 549755813888
theorem Whl.kept {S : Nat → Prop} {W now o : Nat} {L : List Ent} {w w' : World} (h : Whl S W now o L w) (hb : ∀ b, S b → w'.heap[b]? = w.heap[b]?) (hs : w.heap.size ≤ w'.heap.size) : Whl S W now o L w' := by
  obtain ⟨⟨M, P, sm, sv, rows, h1, h2⟩, h3, h4⟩ := h
  exact ⟨⟨M, P, sm, sv, rows, h1.kept hb hs, h2⟩, h3, h4⟩
theorem Whl.low {S : Nat → Prop} {W now o : Nat} {L : List Ent} {w : World} (h : Whl S W now o L w) : ∀ i, S i → i < w.heap.size := by
  obtain ⟨⟨M, P, sm, sv, rows, h1, _⟩, _⟩ := h
  exact h1.low
theorem Whl.tm {S : Nat → Prop} {W now o : Nat} {L : List Ent} {w : World} (h : Whl S W now o L w) : now ≤ 1099511627776 := by
  obtain ⟨⟨M, P, sm, sv, rows, h1, _⟩, _⟩ := h
  exact h1.tm
theorem Whl.below {S : Nat → Prop} {W now o : Nat} {L : List Ent} {w w' : World} (h : Whl S W now o L w) (hb : Below w.heap.size w w') : Whl S W now o L w' :=
  h.kept (fun b hS => hb.block b (h.low b hS)) hb.size
/-- The wheel has turned; nothing else that was there has. -/
def Trn (S : Nat → Prop) (W now o : Nat) (L : List Ent) (w w' : World) : Prop := ∃ S', Whl S' W now o L w' ∧ Only S w w' ∧ ∀ i, S' i → S i ∨ w.heap.size ≤ i
theorem Trn.of_below {S : Nat → Prop} {W now o : Nat} {L : List Ent} {w w' : World} (h : Whl S W now o L w) (hb : Below w.heap.size w w') : Trn S W now o L w w' := ⟨S, h.below hb, Only.of_below hb, fun _ hi => .inl hi⟩

def zOk (k : Nat) : Option Value → Bool
  | some (.int .i64 n) => decide (k < 2) && (n == 0)
  | some (.map none) => decide (k = 2)
  | some (.int .u64 n) => decide (3 ≤ k) && decide ((k - 3) % 65 = 0) && (n == 0)
  | some (.slice none n c) => decide (3 ≤ k) && decide ((k - 3) % 65 ≠ 0) && (n == 0) && (c == 0)
  | _ => false
theorem zero_all : ((List.range 458).all fun k => zOk k Tryd.zeroCells118[k]?) = true := by kernel_rfl
theorem zero_size : Tryd.zeroCells118.size = 458 := by kernel_rfl
theorem zero_cells (M : Nat) : Tryd.zeroCells118.setIfInBounds 2 (.map (some M)) = Array.ofFn (n := 458) fun i => wheelF 0 0 M (fun _ => 0) (fun _ => .slice none 0 0) i.val := by
  refine Array.ext (by simp) (fun k h1 h2 => ?_)
  have hk : k < 458 := by simpa using h2
  have hz : k < Tryd.zeroCells118.size := by rw [zero_size]; exact hk
  have h3 := List.all_eq_true.1 zero_all k (List.mem_range.2 hk)
  rw [Array.getElem?_eq_getElem hz] at h3
  rw [Array.getElem_ofFn, Array.getElem_setIfInBounds hz]
  unfold wheelF
  by_cases e2 : k = 2
  · subst e2; simp
  · rw [if_neg (fun e => e2 e.symm)]
    generalize Tryd.zeroCells118[k] = v at h3
    unfold zOk at h3
    split at h3
    · rename_i n e
      cases e
      simp at h3
      obtain ⟨a, rfl⟩ := h3
      rw [if_pos (show k < 3 by omega)]
      have : k = 0 ∨ k = 1 := by omega
      rcases this with rfl | rfl <;> rfl
    · rename_i e
      cases e
      simp at h3
      exact (e2 h3).elim
    · rename_i n e
      cases e
      simp at h3
      obtain ⟨⟨a, b⟩, rfl⟩ := h3
      rw [if_neg (show ¬ k < 3 by omega), if_pos b]; rfl
    · rename_i n c e
      cases e
      simp at h3
      obtain ⟨⟨⟨a, b⟩, rfl⟩, rfl⟩ := h3
      rw [if_neg (show ¬ k < 3 by omega), if_neg b]
    · cases h3
set_option maxRecDepth 100000 in
set_option maxHeartbeats 1000000 in
theorem new_whl (w : World) : Calls Tryd.prog 30 #[] w fun e w' => ∃ W S, e = .returned (.pointer (some ⟨W, 0, none⟩)) ∧ Whl S W 0 0 [] w' ∧ Below w.heap.size w w' ∧ ∀ i, S i → w.heap.size ≤ i := by
  have hmm := @run_makeMap Tryd.prog
  go_enter Tryd.func30, Tryd.ntmps30
  go_wp2_with fail
  go_ret
  have hb : Below w.heap.size w ((w.alloc (.map #[] 0)).alloc (.cells (Tryd.zeroCells118.setIfInBounds 2 (.map (some w.heap.size))) 118)) := ((Below.refl _ w).alloc (Nat.le_refl _) _).alloc (by simp) _
  have h1 := heap_alloc_new (w.alloc (.map #[] 0)) (.cells (Tryd.zeroCells118.setIfInBounds 2 (.map (some w.heap.size))) 118)
  have hs : (w.alloc (.map #[] 0)).heap.size = w.heap.size + 1 := by simp
  rw [hs] at h1
  have hm := (MapG.made kI w).block (w' := (w.alloc (.map #[] 0)).alloc (.cells (Tryd.zeroCells118.setIfInBounds 2 (.map (some w.heap.size))) 118)) (Below.heap_alloc _ _ _ (by simp))
  refine ⟨w.heap.size + 1, fun i => i = w.heap.size ∨ i = w.heap.size + 1, rfl, ⟨⟨w.heap.size, [], fun _ => 0, fun _ => .slice none 0 0, fun _ => [], ⟨?_, hm.ext (fun k _ => rfl), ⟨fun q _ => World.ownsRow_nil _ _ _ _, (fun q b _ hv => by cases hv), (fun q r b _ _ hv => by cases hv)⟩, ⟨.inr rfl, .inl rfl, by omega⟩, fun i hi => ?_, Placed.new, fun lv _ => ⟨by decide, fun s _ => by simp⟩, by omega, (fun x hx => by cases hx)⟩, List.Perm.refl _⟩, Wh.new, by omega⟩, hb, fun i hi => ?_⟩
  · rw [h1]
    exact congrArg some (congrArg (fun c => Obj.cells c 118 (0, 0)) (zero_cells w.heap.size))
  · simp; omega
  · omega
section
variable {S : Nat → Prop} {W now o : Nat} {L : List Ent} {w : World}
set_option maxHeartbeats 400000 in
theorem now_whl (h : Whl S W now o L w) : Calls Tryd.prog 50 #[.pointer (some ⟨W, 0, none⟩)] w fun e w' => e = .returned (.int .i64 (now : Int)) ∧ w' = w := by
  obtain ⟨⟨M, P, sm, sv, rows, h1, _⟩, _⟩ := h
  have c0 := wh_now h1.cells
  clear h1
  go_enter Tryd.func50, Tryd.ntmps50
  go_wp2
  go_ret
  exact ⟨rfl, rfl⟩
end
end Go.Proofs.YtpbknbnhljjjcaaDoor

namespace Go.Proofs.YtpbknbnhljjjcaaDoor
open Go.RowKit Go.Maps Go.Lib

theorem hasKey_perm {A B : List Ent} (hA : (A.map Ent.key).Nodup) (hp : A.Perm B) (k : Int) : hasKey k A = hasKey k B := by
  have hB : (B.map Ent.key).Nodup := ((hp.map Ent.key).nodup_iff).1 hA
  cases h : hasKey k A with
  | none => exact (hasKey_not (fun x hx => hasKey_none h x (hp.symm.subset hx))).symm
  | some x =>
    obtain ⟨h1, h2⟩ := hasKey_some h
    exact (hasKey_of hB (hp.subset h1) h2).symm
section
variable {S : Nat → Prop} {W M now o : Nat} {A P : List Ent} {sm : Nat → Nat} {sv : Nat → Value} {rows : Nat → List Ent} {w : World}
theorem WhAt.putKey (h : WhAt S W M now o A P sm sv rows w) {x : Ent} {A' : List Ent} (hn : hasKey x.key A = none) (hp : A'.Perm (x :: A)) (hk : (A'.map Ent.key).Nodup) (hw : (Lit.int .i64 x.key).wf = true) (hl : A.length < 1099511627776) :
    ∃ w', (Instr.mapUpdate 110 (.map (some M)) (.int .i64 x.key) (.agg #[.int .i64 x.key, .int .i64 (x.due : Int), .int .i64 (x.ord : Int)])).run Tryd.prog w = .ok () w' ∧ WhAt S W M now o A' P sm sv rows w' ∧ Only S w w' := by
  obtain ⟨w', hrun, hm, hg⟩ := h.map.store (E := kI) Tryd.underlying110 (by unfold maxLen; omega) (k := x.key) hw (entV x)
  have hkp : ∀ i, i < w.heap.size → i ≠ M → w'.heap[i]? = w.heap[i]? := fun i hi hne => hg.block i hi (by simp; exact hne)
  have e1 : armF A x.key = none := by unfold armF; rw [hn]; rfl
  rw [e1] at hm
  have hm2 : MapG kI M A'.length (armF A') w' := by
    have h1 := hp.length_eq
    rw [h1]
    refine MapG.ext (E := kI) hm (fun j _ => ?_)
    show (if j = x.key then some (entV x) else armF A j) = (hasKey j A').map entV
    rw [hasKey_perm hk hp j]
    by_cases e : j = x.key
    · rw [if_pos e, e, hasKey_cons_eq]; rfl
    · rw [if_neg e, hasKey_cons_ne (fun e2 => e e2.symm)]; rfl
  exact ⟨w', hrun, ⟨(hkp W (h.low W h.mem.1) h.mem.2.2).trans h.cells, hm2, h.rws.kept (fun q b hq hv => hkp b (h.low b (h.rws.own q b hq hv).1) (h.rws.own q b hq hv).2.2), h.mem, fun i hi => Nat.lt_of_lt_of_le (h.low i hi) hg.size, h.placed, h.bits, h.tm, h.due⟩, (Only.refl S w).grown hg (fun g e _ => by cases e; exact h.mem.2.1)⟩
theorem WhAt.setOrders (h : WhAt S W M now o A P sm sv rows w) (n : Nat) : WhAt S W M now n A P sm sv rows (w.setCell ⟨W, 1, none⟩ (.int .i64 (n : Int))) ∧ Only S w (w.setCell ⟨W, 1, none⟩ (.int .i64 (n : Int))) := by
  have hk : ∀ i, i ≠ W → (w.setCell ⟨W, 1, none⟩ (.int .i64 (n : Int))).heap[i]? = w.heap[i]? := fun i hi => Below.heap_setCell _ _ _ _ hi
  exact ⟨⟨wh_setOrders h.cells _, h.map.block (hk M (fun e => h.mem.2.2 e.symm)), h.rws.kept (fun q b hq hv => hk b (h.rws.own q b hq hv).2.1), h.mem, fun i hi => by have := h.low i hi; simpa [World.setCell] using this, h.placed, h.bits, h.tm, h.due⟩, (Only.refl S w).set (p := ⟨W, 1, none⟩) h.mem.1 _⟩
end
section
variable {S : Nat → Prop} {W now o : Nat} {L : List Ent} {w : World}
theorem cancel_whl (h : Whl S W now o L w) {k : Int} (hw : (Lit.int .i64 k).wf = true) : Calls Tryd.prog 68 #[.pointer (some ⟨W, 0, none⟩), .int .i64 k] w fun e w' => e = .returned (.bool (hasKey k L).isSome) ∧ Trn S W now o (without k L) w w' := by
  have hh := h
  obtain ⟨⟨M, P, sm, sv, rows, h1, h2⟩, h3, h4⟩ := h
  cases hk : hasKey k L with
  | none =>
    refine (cancel_none h1 hw hk).mono ?_
    rintro e w' ⟨he, hb⟩
    rw [without_none (hasKey_none hk)]
    exact ⟨he, Trn.of_below hh hb⟩
  | some x =>
    refine (cancel_some h1 h2 h3 (by omega) hw hk).mono ?_
    rintro e w' ⟨he, S', P', hA, hp⟩
    obtain ⟨⟨M', sm', sv', rows', hw'⟩, ho, hs⟩ := hA
    exact ⟨he, S', ⟨⟨M', P', sm', sv', rows', hw', hp⟩, h3.without k, h4⟩, ho, hs⟩
set_option maxRecDepth 100000 in
set_option maxHeartbeats 1000000 in
theorem advance_back (h : Whl S W now o L w) (a : Int) (ha : a < (now : Int)) : Calls Tryd.prog 43 #[.pointer (some ⟨W, 0, none⟩), .int .i64 a] w fun e w' => e = .returned (.slice none 0 0) ∧ w' = w := by
  obtain ⟨⟨M, P, sm, sv, rows, h1, h2⟩, h3, h4⟩ := h
  have c0 := wh_now h1.cells
  clear h1 h2 h3
  go_enter Tryd.func43, Tryd.ntmps43
  go_wp2
  go_ret
  exact ⟨rfl, rfl⟩
/-- Advance: who is due is told, in order. -/
theorem advance_whl (h : Whl S W now o L w) (hT : TabAt 0 Lib.deBruijn64tab w) (hS0 : ¬ S 0 ∧ 0 < w.heap.size) (a : Int) (ha : ¬ a < (now : Int)) (te : Nat) (hte : min a 1099511627776 = (te : Int)) :
    Calls Tryd.prog 43 #[.pointer (some ⟨W, 0, none⟩), .int .i64 a] w fun e w' => ∃ v S', e = .returned v ∧ Whl S' W te o (past te L) w' ∧ Only S w w' ∧ (∀ i, S' i → S i ∨ w.heap.size ≤ i) ∧ Off S' w.heap.size 3 1 v (upTil te L).length (keysC (upTil te L)) w' := by
  obtain ⟨⟨M, P, sm, sv, rows, h1, h2⟩, h3, h4⟩ := h
  have ht := h1.tm
  refine (advance_loop h1 h2 h3 (by omega) hT hS0 a te hte (by omega) ha).mono ?_
  rintro e w' ⟨v, S', P', he, hA, hp, hO⟩
  obtain ⟨⟨M', sm', sv', rows', hw'⟩, ho, hs⟩ := hA
  exact ⟨v, S', he, ⟨⟨M', P', sm', sv', rows', hw', hp⟩, h3.past te (by omega), h4⟩, ho, hs, hO⟩
set_option maxRecDepth 100000 in
set_option maxHeartbeats 1000000 in
theorem arm_bad (h : Whl S W now o L w) (k a : Int) (ha : a ≤ (now : Int) ∨ 1099511627776 < a) : Calls Tryd.prog 65 #[.pointer (some ⟨W, 0, none⟩), .int .i64 k, .int .i64 a] w fun e w' => e = .returned (.int .i64 1) ∧ w' = w := by
  obtain ⟨⟨M, P, sm, sv, rows, h1, h2⟩, h3, h4⟩ := h
  have c0 := wh_now h1.cells
  have ht : (now : Int) ≤ 1099511627776 := by have := h1.tm; omega
  clear h1 h2 h3
  by_cases h5 : a ≤ (now : Int)
  · clear ha
    go_enter Tryd.func65, Tryd.ntmps65
    go_wp2
    go_ret
    exact ⟨rfl, rfl⟩
  · have h6 : 1099511627776 < a := by omega
    clear ha
    go_enter Tryd.func65, Tryd.ntmps65
    go_wp2
    go_ret
    exact ⟨rfl, rfl⟩
set_option maxRecDepth 100000 in
set_option maxHeartbeats 1000000 in
theorem arm_ok (h : Whl S W now o L w) {k : Int} (hkb : -9223372036854775808 ≤ k ∧ k ≤ 9223372036854775807) (t : Nat) (h1 : now < t) (h2 : t ≤ 1099511627776) (ho : o < 549755813887) : Calls Tryd.prog 65 #[.pointer (some ⟨W, 0, none⟩), .int .i64 k, .int .i64 (t : Int)] w fun e w' => e = .returned (.int .i64 0) ∧ Trn S W now (o + 1) (armL k t (o + 1) L) w w' := by
  have hw := i64_wf' hkb.1 hkb.2
  have HC := Lib.hid (cancel_whl h hw)
  have HH := Lib.hid h
  obtain ⟨⟨M, P, sm, sv, rows, g1, g2⟩, g3, g4⟩ := h
  have c0 := wh_now g1.cells
  have h1I : (now : Int) < (t : Int) := by omega
  have h2I : (t : Int) ≤ 1099511627776 := by omega
  have h3N : ¬ t ≤ now := by omega
  clear g1 g2 g3 g4
  go_enter Tryd.func65, Tryd.ntmps65
  go_wp2_with fail
  refine HC.out.mono ?_
  rintro e w1 ⟨rfl, S1, hW1, ho1, hs1⟩
  obtain ⟨⟨M1, P1, sm1, sv1, rows1, k1, k2⟩, k3, k4⟩ := hW1
  have c1 := wh_orders k1.cells
  have f1 := wh_free k1.cells 1
  obtain ⟨k5, ho5⟩ := k1.setOrders (o + 1)
  have hob : (o : Int) < 549755813887 := by omega
  have hWn := HH.out.wh.arm hkb h1 h2
  have hp := armL_perm (k := k) (t := t) (o := o + 1) HH.out.wh.up
  obtain ⟨w2, hw2⟩ : ∃ w2, w1.setCell ⟨W, 1, none⟩ (.int .i64 ((o : Int) + 1)) = w2 := ⟨_, rfl⟩
  have k5 : WhAt S1 W M1 now (o + 1) (without k L) P1 sm1 sv1 rows1 w2 := by rw [← hw2]; exact k5
  have ho5 : Only S1 w1 w2 := by rw [← hw2]; exact ho5
  have hb6 : Below w2.heap.size w2 (w2.alloc (.cells #[.int .i64 k, .int .i64 (t : Int), .int .i64 ((o : Int) + 1)] 154)).drew := ((Below.refl _ _).alloc (Nat.le_refl _) _).drew
  have k6 := k5.below hb6
  have hlen : (without k L).length < 1099511627776 := by have := k3.len; omega
  obtain ⟨w3, hrun, k7, ho7⟩ := k6.putKey (x := ⟨k, t, o + 1⟩) (hasKey_not (fun y hy => (mem_without.1 hy).2)) hp hWn.keys hw hlen
  have hrun : (Instr.mapUpdate 110 (.map (some M1)) (.int .i64 k) (.agg #[.int .i64 k, .int .i64 (t : Int), .int .i64 ((o : Int) + 1)])).run Tryd.prog (w2.alloc (.cells #[.int .i64 k, .int .i64 (t : Int), .int .i64 ((o : Int) + 1)] 154)).drew = .ok () w3 := hrun
  have c2 := wh_map k6.cells
  have hbox : w3.heap[w2.heap.size]? = some (.cells #[.int .i64 k, .int .i64 (t : Int), .int .i64 ((o : Int) + 1)] 154 (0, 0)) := by
    have hn : ¬ S1 w2.heap.size := fun hS => by have := k5.low _ hS; omega
    exact (ho7.block w2.heap.size (by simp) hn).trans (heap_alloc_new w2 _)
  obtain ⟨⟨b0, b1, b2⟩, _⟩ := cells3 hbox
  have HLAY := Lib.hid (lay_ok k7 ⟨k, t, o + 1⟩ ⟨Nat.le_of_lt h1, h2⟩ (by have := k2.length_eq; omega))
  have hs2 : w1.heap.size = w2.heap.size := by rw [← hw2]; simp [World.setCell]
  have HFIN := Lib.hid (show ∀ (w4 : World) S4 sm4 sv4 rows4, WhAt S4 W M1 now (o + 1) (armL k t (o + 1) L) (⟨k, t, o + 1⟩ :: P1) sm4 sv4 rows4 w4 → Only S1 w3 w4 → (∀ i, S4 i → S1 i ∨ w3.heap.size ≤ i) → Trn S W now (o + 1) (armL k t (o + 1) L) w w4 from fun w4 S4 sm4 sv4 rows4 a b c => by
    have o1 : Only S1 w1 w3 := (ho5.trans (Only.of_below (S := S1) hb6) (fun _ _ hS => hS)).trans ho7 (fun _ _ hS => hS)
    have o2 : Only S1 w1 w4 := o1.trans b (fun _ _ hS => hS)
    have hsz := ho1.size
    refine ⟨S4, ⟨⟨M1, _, sm4, sv4, rows4, a, ((List.perm_cons _).2 k2).trans hp.symm⟩, hWn, by omega⟩, ho1.trans o2 (fun i hi hS => by rcases hs1 i hS with e | e; exact e; omega), fun i hi => ?_⟩
    rcases c i hi with e | e
    · exact hs1 i e
    · have := o1.size; exact .inr (by omega))
  have HW2 := Lib.hid hw2
  have HRUN := Lib.hid hrun
  have HS2 := Lib.hid hs2
  have HCS := Lib.hid (And.intro c2 (And.intro b0 (And.intro b1 b2)))
  clear k1 k2 k3 k4 k5 k6 k7 ho5 ho7 hb6 hbox hWn hp hlen hs2 ho1 hs1 hw2 hrun c2 b0 b1 b2
  go_wp2_with fail
  rw [HW2.out, HS2.out]
  clear c1 f1
  have hrun := HRUN.out
  obtain ⟨c2, b0, b1, b2⟩ := HCS.out
  refine wp_tail 6 (by kernel_rfl) (by kernel_rfl) ?_
  simp only [List.take_succ_cons, List.take_zero, List.drop_succ_cons, List.drop_zero]
  repeat still_step
  refine wpStill_nil ?_
  go_wp2_with (go_at_call 71; refine HLAY.out.mono ?_; rintro e w4 ⟨rfl, S4, sm4, sv4, rows4, q1, q2, q3⟩; have HT := Lib.hid (HFIN.out w4 S4 sm4 sv4 rows4 q1 q2 q3); clear q1 q2 q3)
  go_ret
  exact ⟨rfl, HT.out⟩
end
end Go.Proofs.YtpbknbnhljjjcaaDoor
