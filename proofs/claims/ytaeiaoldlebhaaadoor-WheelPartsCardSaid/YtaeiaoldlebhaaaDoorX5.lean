import Derived.Test.YtaeiaoldlebhaaaDoorX4
namespace Go.Proofs.YtaeiaoldlebhaaaDoor
open Go.RowKit Go.Maps Go.Lib

theorem u64_nat {a : Int} (h : (Lit.int .u64 a).wf = true) : ∃ n : Nat, a = (n : Int) ∧ n < 18446744073709551616 := by
  simp [Lit.wf, IntKind.min, IntKind.max, IntKind.signed, IntKind.bits] at h
  exact ⟨a.toNat, by omega, by omega⟩
/-- Two parts are the whole. -/
theorem parts_up {l : List Ent} (h : Up l) {s t : Nat} (hst : s ≤ t) : upTil t l = upTil s l ++ upTil t (past s l) ∧ past t l = past t (past s l) := by
  have h1 := up_split h s
  constructor
  · conv => lhs; rw [h1]
    rw [upTil_append, upTil_all (fun x hx => Nat.le_trans (mem_upTil.1 hx).2 hst)]
  · conv => lhs; rw [h1]
    rw [past_append, past_none (fun x hx => Nat.le_trans (mem_upTil.1 hx).2 hst), List.nil_append]
/-- One row behind another. -/
theorem row_append {w : World} {b1 b2 n m : Nat} {v u : Value} {xs ys : List Value} (h1 : w.ownsRow b1 3 1 v n xs) (h2 : w.ownsRow b2 3 1 u m ys) (hys : ∀ y ∈ ys, y.oneCell' = true) (hnm : n + m < 1099511627776) (hb : b1 ≤ w.heap.size) :
    ∃ v' w', (∀ ty, (Builtin.append_ #[30, 30] ty #[v, u]).run Tryd.prog w = .ok v' w') ∧ w'.ownsRow b1 3 1 v' (n + m) (xs ++ ys) ∧ w.grownBy w' v.ownBlock := by
  have hi3' := Tryd.info3
  obtain ⟨i3, hi3, hz, hs, hby⟩ := info_parts hi3'
  rcases h2.2 with ⟨rfl, rfl⟩ | ⟨g, cap, cur, rfl, _⟩
  · have hy : ys = [] := List.eq_nil_of_length_eq_zero (by have := h2.1; omega)
    subst hy
    rw [List.append_nil]
    refine ⟨v, w, fun ty => run_append_owned_none w b1 30 ty 3 i3 1 Tryd.underlying30 hi3 v n xs h1, h1, ⟨rfl, rfl, rfl, Nat.le_refl _, fun _ _ _ => rfl⟩⟩
  · have hrun := fun ty => run_append_own w b1 30 ty 3 i3 (.int .i64 0) 1 8 Tryd.underlying30 hi3 hz hs hby (by rfl) (by decide) v n xs h1 ⟨g, 0, none⟩ m cap ys (by have := h2.1; omega) (fun j y hj => h2.cells rfl j y hj) hys (by unfold maxLen; omega) (by omega) hb
    obtain ⟨v', w', e, h3, h4, _⟩ := hrun 30
    exact ⟨v', w', fun ty => e, h3, h4⟩
theorem wpList_row_append {w : World} {ops : Array Oper} {rest : List Oper} {o : Oper} {a : Act} {Q : Exit → Act → World → Prop} (hgd : o.guard = none) (s x : Operand)
    (ho : o.op = .call { callee := .builtin .append, args := #[s, x], argTypes := #[30, 30] }) (v u v' : Value) (w' : World) (hs : a.eval s = v) (hx : a.eval x = u)
    (hrun : ∀ ty, (Builtin.append_ #[30, 30] ty #[v, u]).run Tryd.prog w = .ok v' w') (h : wpList Tryd.prog ops Q rest (a.put o.dst v') w') : wpList Tryd.prog ops Q (o :: rest) a w := by
  refine wpList_plain hgd fun K hK => ?_
  have hrun := hrun o.type
  unfold Oper.wp
  simp [execOp, ho, resolve, invoke, builtin, hs, hx, hrun, Result.andThen]
  exact hK _ _ h
/-- Advance beside blocks that it does not know. -/
theorem adv_pair {B W now o : Nat} {L : List Ent} {S X : Nat → Prop} {w : World} (h : Whl S W now o L w) (hx : ∀ i, S i → B ≤ i ∧ ¬ X i) (hl : ∀ i, X i → i < w.heap.size) (hT : TabAt 0 Lib.deBruijn64tab w) (hB : 0 < B) (te : Nat) (ha : now ≤ te) (hte : te ≤ 1099511627776) (n : Nat) (hn : (upTil te L).length = n) :
    Calls Tryd.prog 18 #[.pointer (some ⟨W, 0, none⟩), .int .i64 (te : Int)] w fun e w' => ∃ p cap S', e = .returned (.slice p n cap) ∧ Whl S' W te o (past te L) w' ∧ (∀ i, S' i → B ≤ i ∧ ¬ X i) ∧ (∀ i, S' i → S i ∨ w.heap.size ≤ i) ∧ Only S w w' ∧ Below B w w' ∧ Off S' w.heap.size 3 1 (.slice p n cap) n (keysC (upTil te L)) w' := by
  have k : OneW B W now o L [] w := ⟨S, h, fun i hi => (hx i hi).1, fun i hi => by cases hi⟩
  have hs := k.size.1
  refine (advance_whl h hT ⟨fun hS => by have := (hx 0 hS).1; omega, by omega⟩ (te : Int) (by omega) te (by omega)).mono ?_
  rintro e w' ⟨v, S', he, g1, g2, g3, g4⟩
  rw [hn] at g4
  have hf : ∃ p cap, v = .slice p n cap := by
    rcases g4.1.2 with ⟨rfl, rfl⟩ | ⟨g, cap, cur, rfl, _⟩
    · exact ⟨none, 0, rfl⟩
    · exact ⟨_, cap, rfl⟩
  obtain ⟨p, cap, rfl⟩ := hf
  refine ⟨p, cap, S', he, g1, fun i hi => ?_, g3, g2, g2.below hs (fun i hi => (hx i hi).1), g4⟩
  rcases g3 i hi with e | e
  · exact hx i e
  · exact ⟨by omega, fun hX => by have := hl i hX; omega⟩
theorem row_form {w : World} {b n : Nat} {v : Value} {xs : List Value} (h : w.ownsRow b 3 1 v n xs) : ∃ p cap, v = .slice p n cap := by
  rcases h.2 with ⟨rfl, rfl⟩ | ⟨g, cap, cur, rfl, _⟩
  · exact ⟨none, 0, rfl⟩
  · exact ⟨_, cap, rfl⟩
theorem keysC_nums (D : List Ent) : keysC D = (D.map Ent.key).map fun x => .int .i64 x := by
  unfold keysC
  rw [List.map_map]
  rfl
theorem keysC_one {D : List Ent} : ∀ y ∈ keysC D, y.oneCell' = true := fun y hy => by
  unfold keysC at hy
  obtain ⟨x, _, rfl⟩ := List.mem_map.1 hy
  rfl
set_option maxRecDepth 100000 in
set_option maxHeartbeats 8000000 in
theorem walk_WheelParts (a0 : Option Addr) (len0 cap0 : Nat) (z0 : List Int) (a1 : Int) (a2 : Int) (w : World) (w0 : RowIn .u64 w a0 len0 cap0 z0) (w1 : (Lit.int .u64 a1).wf = true) (w2 : (Lit.int .u64 a2).wf = true) (hE : TabAt 0 Lib.deBruijn64tab w ∧ 0 < w.heap.size) :
    Calls Tryd.prog 4 #[.slice a0 len0 cap0, .int .u64 a1, .int .u64 a2] w fun e w' => e = .returned (.bool true) ∧ Below w.heap.size w w' := by
  obtain ⟨hT, h0⟩ := hE
  obtain ⟨m1, rfl, hm1⟩ := u64_nat w1
  obtain ⟨m2, rfl, hm2⟩ := u64_nat w2
  obtain ⟨s, hs⟩ : ∃ s : Nat, min ((m1 : Int) % 1099511627776) ((m2 : Int) % 1099511627776) = (s : Int) := ⟨(min ((m1 : Int) % 1099511627776) ((m2 : Int) % 1099511627776)).toNat, by omega⟩
  obtain ⟨te, hte⟩ : ∃ te : Nat, max ((m1 : Int) % 1099511627776) ((m2 : Int) % 1099511627776) = (te : Int) := ⟨(max ((m1 : Int) % 1099511627776) ((m2 : Int) % 1099511627776)).toNat, by omega⟩
  have hst : s ≤ te ∧ te < 1099511627776 := by omega
  have HT := Lib.hid hT
  have W0 := Lib.hid w0
  have hl0 := w0.len
  unfold maxLen at hl0
  clear hT w0 w1 w2
  go_enter Tryd.func4, Tryd.ntmps4
  go_wp2_with fail
  refine (examples16 w HT.out h0).mono ?_
  rintro e wx ⟨rfl, hb⟩
  have HB := Lib.hid hb
  clear hb
  go_wp2_with fail
  refine (one_new w.heap.size wx HB.out.size).mono ?_
  rintro e wa ⟨W1, rfl, hA, hb⟩
  have HA := Lib.hid hA
  replace HB := Lib.hid (HB.out.trans (hb.mono HB.out.size))
  clear hA hb
  go_wp2_with fail
  refine (two_new HA.out).mono ?_
  rintro e wb ⟨W2, rfl, hA, hb⟩
  replace HB := Lib.hid (HB.out.trans (hb.mono HA.out.size.1))
  replace HA := Lib.hid hA
  clear hA hb
  go_wp2_with fail
  go_loopw [10] (fun vi wr => ∃ (i : Nat) (L : List Ent), vi = .int .i64 (i : Int) ∧ i ≤ 60 ∧ TwoW w.heap.size W1 W2 0 0 i i L L [] wr ∧ Below w.heap.size w wr) (fun vi _ => 61 - (intOf vi).toNat)
  case atStart => exact ⟨0, [], rfl, by omega, HA.out, HB.out⟩
  case round =>
    obtain ⟨i, L, rfl, hi, hA, hB⟩ := hrel
    clear HA HB
    have HA := Lib.hid hA
    have HB := Lib.hid hB
    clear hA hB
    by_cases hlt : i < len0 ∧ i < 60
    · obtain ⟨x, rfl, _, _, hc, hw⟩ := W0.out.read HB.out hlt.1
      obtain ⟨m, hm, hm2⟩ := u64_nat hw
      rw [hm] at hc
      have hltI : (i : Int) < (len0 : Int) ∧ (i : Int) < 60 := by omega
      obtain ⟨t, ht⟩ : ∃ t : Nat, 1 + m % 1099511627776 = t := ⟨_, rfl⟩
      obtain ⟨d, hd⟩ : ∃ d : Nat, m % 1099511627776 = d := ⟨_, rfl⟩
      have hd2 : (m : Int) % 1099511627776 = (d : Int) := by omega
      have ht2 : (1 : Int) + (d : Int) = (t : Int) := by omega
      have ht3 : 0 < t ∧ t ≤ 1099511627776 ∧ d < 1099511627776 := by omega
      clear hw hm ht hd
      have HA1 := Lib.hid (two_arm HA.out (k := (i : Int)) (by omega) t ht3.1 ht3.2.1 (by omega))
      go_wp2_with fail
      refine HA1.out.mono ?_
      rintro e wc ⟨rfl, hA, hb, _⟩
      have HA2 := Lib.hid hA
      have HB2 := Lib.hid (HB.out.trans hb)
      clear hA hb
      have HA3 := Lib.hid (two_arm HA2.out.swap (k := (i : Int)) (by omega) t ht3.1 ht3.2.1 (by omega))
      go_wp2_with fail
      refine HA3.out.mono ?_
      rintro e wd ⟨rfl, hA, hb, _⟩
      have HA4 := Lib.hid hA
      have HB4 := Lib.hid (HB2.out.trans hb)
      clear hA hb
      go_wp2_with fail
      go_roundw
      case rel => exact ⟨i + 1, _, by go_num, by omega, HA4.out.swap, HB4.out⟩
      case measure => simp [intOf]; omega
    · have hwh := HA.out.size.2.1
      have hup := parts_up hwh.up hst.1
      have hll := hwh.len
      have HUP := Lib.hid hup
      obtain ⟨n1, hn1⟩ : ∃ n1, (upTil s L).length = n1 := ⟨_, rfl⟩
      obtain ⟨n2, hn2⟩ : ∃ n2, (upTil te (past s L)).length = n2 := ⟨_, rfl⟩
      have hnn : n1 + n2 ≤ 60 := by
        have h1 := congrArg List.length (up_split hwh.up s)
        have h2 : n2 ≤ (past s L).length := by rw [← hn2]; exact List.length_filter_le _ _
        rw [List.length_append, hn1] at h1
        omega
      have hlt2 := (congrArg List.length hup.1)
      obtain ⟨nt, hnt⟩ : ∃ nt, (upTil te L).length = nt := ⟨_, rfl⟩
      rw [List.length_append, hn1, hn2, hnt] at hlt2
      obtain ⟨S1, S2, a1, a2, a3, a4, _⟩ := HA.out
      have l2 := a2.low
      have hbw := HA.out.size.1
      have HADV := Lib.hid (adv_pair a1 a3 l2 (tab_below HT.out h0 HB.out) h0 s (by omega) (by omega) n1 hn1)
      have HN2 := Lib.hid hn2
      have HN1 := Lib.hid hn1
      have HNT := Lib.hid hnt
      have HA2 := Lib.hid a2
      have HX := Lib.hid (And.intro a3 (And.intro a4 l2))
      have HLT := Lib.hid hlt2
      clear hwh hup hll hn1 hn2 hnt a1 a2 a3 a4 l2 hlt2
      go_wp2_with fail
      all_goals
        refine HADV.out.mono ?_
        rintro e wc ⟨p, cap, S1a, rfl, g1, g2, g3, g4, g5, g6⟩
        have hB1 := HB.out.trans g5
        have hk2 : ∀ i, S2 i → wc.heap[i]? = wr.heap[i]? := fun i hi => g4.block i (HX.out.2.2 i hi) (fun h => (HX.out.1 i h).2 hi)
        have hnil : wc.ownsRow wc.heap.size 3 1 (.slice none 0 0) 0 [] := ⟨rfl, .inl ⟨rfl, rfl⟩⟩
        obtain ⟨v1, w1, hap, hv1, hg1⟩ := row_append hnil g6.1 keysC_one (by omega) (Nat.le_refl _)
        have hB2 : Below w.heap.size wc w1 := (Below.refl _ _).grown hg1 (by have := g4.size; omega) (fun k e => by cases e)
        go_wp2_with (at_builtin; go_must (refine wpList_row_append rfl _ _ (by rfl) _ _ _ _ (by rfl) (by rfl) hap ?_))
        have hw1 : Whl S1a W1 s i (past s L) w1 := g1.below ((Below.refl _ _).grown hg1 (Nat.le_refl _) (fun k e => by cases e))
        have hs4 := g4.size
        have hs5 := hg1.size
        have hX1 : ∀ i, S2 i → i < w1.heap.size := fun i hi => by have := HX.out.2.2 i hi; omega
        have HG2 := Lib.hid g2
        have HG := Lib.hid (And.intro hk2 (And.intro hg1 (And.intro g1.low hv1)))
        clear hk2 g1 g3 g4 g5 g6 hap hnil
        refine (adv_pair hw1 g2 hX1 (tab_below HT.out h0 (hB1.trans hB2)) h0 te hst.1 (by omega) n2 HN2.out).mono ?_
        rintro e wd ⟨p2, cap2, S1b, rfl, q1, q2, q3, q4, q5, q6⟩
        have hB3 := (hB1.trans hB2).trans q5
        have hv1d := ownsRow_kept hv1 (fun g hg => q4.block g (hv1.lt g hg).2 (fun hS => by have := HG.out.2.2.1 g hS; have := (hv1.lt g hg).1; omega))
        have hs6 := q4.size
        obtain ⟨v3, w3, hap3, hv3, hg3⟩ := row_append hv1d q6.1 keysC_one (by omega) (by omega)
        have hs7 := hg3.size
        have hB4 : Below w.heap.size w w3 := hB3.grown hg3 (by omega) (fun k e => by have := (hv1.lt k e).1; omega)
        have hrl : ([] ++ keysC (upTil s L)) ++ keysC (upTil te (past s L)) = ((upTil te L).map Ent.key).map fun x => .int .i64 x := by
          rw [← keysC_nums, HUP.out.1]
          unfold keysC
          rw [List.map_append]
          rfl
        have hnq : 0 + n1 + n2 = nt := by have := HLT.out; omega
        rw [hrl, hnq] at hv3
        obtain ⟨p4, cap4, rfl⟩ := row_form hv3
        have HV3 := Lib.hid hv3
        have HG3 := Lib.hid hg3
        have HQ := Lib.hid (And.intro q1 (And.intro q2 (And.intro q3 q4)))
        have HV1 := Lib.hid hv1
        clear hrl hv3 hg3 q1 q2 q3 q4 q5 q6 hv1 hv1d hw1 g2 hX1 hg1 hB1 hB2 hB3
        go_wp2_with (at_builtin; go_must (refine wpList_row_append rfl _ _ (by rfl) _ _ _ _ (by rfl) (by rfl) hap3 ?_))
        clear hap3
        have hk3 : ∀ i, S2 i → w3.heap[i]? = wr.heap[i]? := fun i hi => by
          have h1 := HX.out.2.2 i hi
          have h2 := HG3.out.block i (by omega) (fun e => by have := (HV1.out.lt i e.symm).1; omega)
          have h3 := HQ.out.2.2.2.block i (by omega) (fun hS => (HG2.out i hS).2 hi)
          have h4 := HG.out.2.1.block i (by omega) (fun e => by cases e)
          exact h2.trans (h3.trans (h4.trans (HG.out.1 i hi)))
        have hw3b : Whl S2 W2 0 i L w3 := HA2.out.kept hk3 (by omega)
        have hw3a : Whl S1b W1 te i (past te (past s L)) w3 := HQ.out.1.kept (fun b hb => HG3.out.block b (HQ.out.1.low b hb) (fun e => by
          have h1 := HV1.out.lt b e.symm
          rcases HQ.out.2.2.1 b hb with h2 | h2
          · have := HG.out.2.2.1 b h2; omega
          · omega)) hs7
        have hx2 : ∀ i, S2 i → w.heap.size ≤ i ∧ ¬ S1b i := fun i hi => ⟨HX.out.2.1 i hi, fun hS => (HQ.out.2.1 i hS).2 hi⟩
        refine (adv_pair hw3b hx2 hw3a.low (tab_below HT.out h0 hB4) h0 te (by omega) (by omega) nt HNT.out).mono ?_
        rintro e we ⟨p3, cap3, S2b, rfl, r1, r2, r3, r4, r5, r6⟩
        have hB5 := hB4.trans r5
        have hs8 := r4.size
        have hwa : Whl S1b W1 te i (past te (past s L)) we := hw3a.kept (fun b hb => r4.block b (hw3a.low b hb) (fun hS => (hx2 b hS).2 hb)) hs8
        have hv3e := ownsRow_kept HV3.out (fun g hg => r4.block g (HV3.out.lt g hg).2 (fun hS => by have := HX.out.2.2 g hS; have := (HV3.out.lt g hg).1; omega))
        have hr6 := r6.1
        rw [keysC_nums] at hr6
        have HNS := Lib.hid (numbers_same hv3e hr6 (by rw [List.length_map]; exact HNT.out) (by have := HLT.out; omega))
        have HWA := Lib.hid hwa
        have HWB := Lib.hid r1
        have HB5 := Lib.hid hB5
        obtain ⟨na, hna⟩ : ∃ na, (past te L).length = na := ⟨_, rfl⟩
        have hna2 : (past te (past s L)).length = na := by rw [← HUP.out.2]; exact hna
        have HNA := Lib.hid (And.intro hna hna2)
        clear hnq hx2 hw3a hw3b hk3 r1 r2 r3 r4 r5 r6 hv3e hr6 hwa hB5 hna hna2 hB4
        go_wp2_with fail
        refine HNS.out.mono ?_
        rintro e wf ⟨rfl, q, hq⟩
        have hbq : Below we.heap.size we wf := by rw [hq]; exact below_drewN (Below.refl _ _) q
        have HA9 := Lib.hid (HWA.out.below hbq)
        have HB9 := Lib.hid (HWB.out.below hbq)
        have HZ := Lib.hid (HB5.out.trans (hbq.mono (by have := HB5.out.size; omega)))
        clear hq hbq HNS HWA HWB HB5
        go_wp2_with fail
        refine (now_whl HA9.out).mono ?_
        rintro e wg ⟨rfl, rfl⟩
        go_wp2_with fail
        refine (now_whl HB9.out).mono ?_
        rintro e wg ⟨rfl, rfl⟩
        go_wp2_with fail
        have hl1 := len_whl HA9.out
        rw [HNA.out.2] at hl1
        have hl2 := len_whl HB9.out
        rw [HNA.out.1] at hl2
        have HL2 := Lib.hid hl2
        refine hl1.mono ?_
        rintro e wg ⟨rfl, rfl⟩
        clear hl1 hl2
        go_wp2_with fail
        refine HL2.out.mono ?_
        rintro e wg ⟨rfl, rfl⟩
        go_wp2_with fail
        go_ret
        exact ⟨rfl, HZ.out⟩
end Go.Proofs.YtaeiaoldlebhaaaDoor
