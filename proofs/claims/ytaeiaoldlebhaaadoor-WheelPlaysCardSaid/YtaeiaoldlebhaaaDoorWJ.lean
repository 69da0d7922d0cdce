import Derived.Test.YtaeiaoldlebhaaaDoorWI
import Derived.Deep.RegionWith
namespace Go.Proofs.YtaeiaoldlebhaaaDoor
open Go.RowKit Go.Maps Go.Lib

/-- A row's copy. -/
theorem clone_ok {w : World} {base g n cap : Nat} {l : List Ent} (h : w.ownsRow base 109 3 (.slice (some ⟨g, 0, none⟩) n cap) n (entsC l)) (hn : l.length = n) (h0 : 0 < n) (hsz : n < 1099511627776) :
    Calls Tryd.prog 87 #[.slice (some ⟨g, 0, none⟩) n cap] w fun e w' => ∃ g2 cap2, e = .returned (.slice (some ⟨g2, 0, none⟩) n cap2) ∧ w'.ownsRow w.heap.size 109 3 (.slice (some ⟨g2, 0, none⟩) n cap2) n (entsC l) ∧ Below w.heap.size w w' := by
  obtain ⟨i0, hi, hz0, hz1, hz2⟩ := info_parts Tryd.info109
  have hc := AnyE.slices_Clone Tryd.cloneE i0 (.agg #[.int .i64 0, .int .i64 0, .int .i64 0]) 3 24 hi hz0 hz1 hz2 rfl (by decide) Tryd.sizeOf109 g 0 n cap (entsC l) w (by rw [entsC_len, hn]) (by unfold maxLen; omega) (by omega) (fun j u hj => by
    have := h.cells (g := g) rfl j u hj
    rw [Addr.add_lit] at this
    exact this) (fun u hu => by
      unfold entsC at hu
      obtain ⟨y, _, hu⟩ := List.mem_flatMap.1 hu
      simp [entC] at hu
      rcases hu with rfl | rfl | rfl <;> rfl)
  change Calls Tryd.prog 87 _ _ _ at hc
  refine hc.mono ?_
  rintro e w' ⟨v', he, ho, _, hb⟩
  obtain ⟨g2, cap2, rfl, _, _⟩ := World.ownsRow.form ho h0
  exact ⟨g2, cap2, he, ho, hb⟩
theorem delete_m {w : World} {base g n cap X d0 m : Nat} {E1 E2 : List Ent} {x0 : Ent} (hm : (E1 ++ E2).length = m) (h : w.ownsRow base 109 3 (.slice (some ⟨g, 0, none⟩) n cap) n (entsC (E1 ++ x0 :: E2))) (hn : (E1 ++ x0 :: E2).length = n) (h1 : ∀ y ∈ E1 ++ E2, y.ord ≠ d0) (h0 : x0.ord = d0) (hX : w.cell? ⟨X, 2, none⟩ = some (.int .i64 (d0 : Int))) (hXl : X < w.heap.size) (hXg : X ≠ g) (hsz : n < 1099511627776) :
    Calls Tryd.prog 86 #[.slice (some ⟨g, 0, none⟩) n cap, .func (.func 88) #[] #[.pointer (some ⟨X, 0, none⟩)]] w fun e w' => e = .returned (.slice (some ⟨g, 0, none⟩) m cap) ∧ w'.ownsRow base 109 3 (.slice (some ⟨g, 0, none⟩) m cap) m (entsC (E1 ++ E2)) ∧ w.grownBy w' (some g) := by
  subst hm
  exact delete_ok h hn h1 h0 hX hXl hXg hsz
set_option maxRecDepth 100000 in
set_option maxHeartbeats 8000000 in
theorem cancel_some {S : Nat → Prop} {W M now o : Nat} {A P : List Ent} {sm : Nat → Nat} {sv : Nat → Value} {rows : Nat → List Ent} {w : World} {k : Int} {x : Ent} (h : WhAt S W M now o A P sm sv rows w) (hp : P.Perm A) (hL : Wh now o A) (ho : o < 1099511627776) (hw : (Lit.int .i64 k).wf = true) (hx : hasKey k A = some x) :
    Calls Tryd.prog 43 #[.pointer (some ⟨W, 0, none⟩), .int .i64 k] w fun e w' => e = .returned (.bool true) ∧ ∃ S' P', Adv S S' W now o (without k A) P' w w' ∧ P'.Perm (without k A) := by
  have c0 := wh_map h.cells
  have hq := h.map.look_ok (E := kI) Tryd.underlying99 (zero109 w) (k := k) hw
  have e1 : armF A k = some (entV x) := by unfold armF; rw [hx]; rfl
  rw [e1] at hq
  have hq : (Instr.lookup 99 (.map (some M)) (.int .i64 k) true).run Tryd.prog w = .ok (.tuple #[.agg #[.int .i64 x.key, .int .i64 (x.due : Int), .int .i64 (x.ord : Int)], .bool true]) w := hq
  have hb1 : Below w.heap.size w (w.alloc (.cells #[.int .i64 x.key, .int .i64 (x.due : Int), .int .i64 (x.ord : Int)] 109)) := (Below.refl _ _).alloc (Nat.le_refl _) _
  have h1 := h.below hb1
  obtain ⟨w2, hrun, h2, ho2⟩ := h1.dropKey hL.keys hx hw 0
  have c1 := wh_map h1.cells
  have hbox : w2.heap[w.heap.size]? = some (.cells #[.int .i64 x.key, .int .i64 (x.due : Int), .int .i64 (x.ord : Int)] 109 (0, 0)) :=
    (ho2.block w.heap.size (by simp) (fun hS => by have := h.low _ hS; omega)).trans (heap_alloc_new w _)
  obtain ⟨⟨b0, b1, b2⟩, _⟩ := cells3 hbox
  obtain ⟨hxA, hxk⟩ := hasKey_some hx
  have hxP : x ∈ P := hp.symm.subset hxA
  have ht := h.tm
  have hd := h.due x hxP
  have hn4 : now < 4398046511104 := by omega
  have ht4 : x.due < 4398046511104 := by omega
  have h7 := lvl_six ht4 hn4
  have hs64 := slt_lt now x.due
  have HP := Lib.hid (place_ok h2.cells x.due hn4 ht4)
  have HH := Lib.hid h
  have HPP := Lib.hid hp
  have HL := Lib.hid hL
  have HX := Lib.hid hx
  have H2 := Lib.hid h2
  have HO2 := Lib.hid ((Only.of_below (S := S) hb1).trans ho2 (fun _ _ hS => hS))
  have HBX := Lib.hid hbox
  have HXP := Lib.hid hxP
  clear h hp hL hx h1 h2 ho2 hbox hxA hxk hxP e1 hb1
  obtain ⟨lv, hlv⟩ : ∃ lv, lvl x.due now = lv := ⟨_, rfl⟩
  obtain ⟨s, hs⟩ : ∃ s, slt now x.due = s := ⟨_, rfl⟩
  rw [hlv] at h7 HP
  rw [hs] at hs64 HP
  have HQ := Lib.hid (show qOf now x.due = lv * 64 + s from by unfold qOf; rw [hlv, hs])
  clear hlv hs
  have h7I : (lv : Int) < 7 := by omega
  have hsI : (s : Int) < 64 := by omega
  go_enter Tryd.func43, Tryd.ntmps43
  go_wp2_with (go_at_call 85; refine HP.out.mono ?_; rintro e wx ⟨rfl, nq, rfl⟩)
  obtain ⟨w3, hw3⟩ : ∃ w3, w2.drewN nq = w3 := ⟨_, rfl⟩
  have hb3 : Below w2.heap.size w2 w3 := by rw [← hw3]; exact below_drewN (Below.refl _ _) nq
  rw [hw3]
  clear hw3 HP hrun
  have HW3 := Lib.hid (H2.out.below hb3)
  have HBX3 := Lib.hid ((hb3.block w.heap.size (by have := (Array.getElem?_eq_some_iff.1 HBX.out).1; exact this)).trans HBX.out)
  have HO3 := Lib.hid (HO2.out.trans (Only.of_below (S := S) hb3) (fun _ _ hS => hS))
  have hxq : x ∈ rows (lv * 64 + s) := (HH.out.placed _ (by omega)).symm.subset (mem_ofQ.2 ⟨HXP.out, HQ.out⟩)
  obtain ⟨E1, E2, hE⟩ := List.append_of_mem hxq
  have hrow := HW3.out.rws.row (lv * 64 + s) (by omega)
  rw [hE] at hrow
  have hElen : (E1 ++ x :: E2).length < 1099511627776 := by
    rw [← hE]
    have h3 := (HH.out.placed (lv * 64 + s) (by omega)).length_eq
    have h4 : (ofQ now (lv * 64 + s) P).length ≤ P.length := List.length_filter_le _ _
    have h5 := HPP.out.length_eq
    have h6 := HL.out.len
    omega
  have hEo : ∀ y ∈ E1 ++ E2, y.ord ≠ x.ord := by
    have h1 : ((rows (lv * 64 + s)).map Ent.ord).Nodup := by
      refine (((HH.out.placed (lv * 64 + s) (by omega)).map Ent.ord).nodup_iff).2 ?_
      have h2 : (P.map Ent.ord).Nodup := ((HPP.out.map Ent.ord).nodup_iff).2 HL.out.ords
      exact h2.sublist (List.Sublist.map _ List.filter_sublist)
    rw [hE, List.map_append, List.map_cons, List.nodup_append] at h1
    obtain ⟨_, g2, g3⟩ := h1
    have g4 := (List.nodup_cons.1 g2).1
    intro y hy e
    rcases List.mem_append.1 hy with hy | hy
    · exact g3 y.ord (List.mem_map_of_mem hy) x.ord (List.mem_cons_self ..) e
    · exact g4 (by rw [← e]; exact List.mem_map_of_mem hy)
  obtain ⟨q, hq⟩ : ∃ q, lv * 64 + s = q := ⟨_, rfl⟩
  have c2 := wh_sv HW3.out.cells h7 hs64
  have f2 := wh_free HW3.out.cells (3 + lv * 65 + 1 + s)
  rw [hq] at c2 hrow hE HQ
  have HPL := Lib.hid (show Placed now (updF rows q (E1 ++ E2)) (P.filter (fun y => decide (y.ord ≠ x.ord))) from by
    have h1 := HH.out.placed.cancel x HQ.out (fun y hy e => by
      have h2 : (P.map Ent.ord).Nodup := ((HPP.out.map Ent.ord).nodup_iff).2 HL.out.ords
      by_cases e2 : y = x
      · rw [e2]; exact HQ.out
      · exact (pair_ord (List.pairwise_map.1 h2) hy HXP.out e2 e).elim)
    have h3 : (rows q).filter (fun y => decide (y.ord ≠ x.ord)) = E1 ++ E2 := by
      rw [hE, List.filter_append, List.filter_cons_of_neg (by simp)]
      rw [List.filter_eq_self.2 (fun y hy => decide_eq_true (hEo y (List.mem_append_left _ hy))), List.filter_eq_self.2 (fun y hy => decide_eq_true (hEo y (List.mem_append_right _ hy)))]
    rw [h3] at h1
    exact h1)
  have HPW := Lib.hid (show (P.filter (fun y => decide (y.ord ≠ x.ord))).Perm (without k A) from by
    obtain ⟨hxA, hxk⟩ := hasKey_some HX.out
    rw [← hxk, ← without_ord HL.out.keys HL.out.ords hxA]
    exact HPP.out.filter _)
  have HRN := Lib.hid (show rows q ≠ [] from by rw [hE]; simp)
  have HB3 := Lib.hid hb3
  obtain ⟨v, hv⟩ : ∃ v, sv q = v := ⟨_, rfl⟩
  rw [hv] at c2 hrow
  obtain ⟨g, cap, rfl, _, hgl⟩ := hrow.form (by simp; omega)
  have HE := Lib.hid hE
  have HEO := Lib.hid hEo
  have HROW := Lib.hid hrow
  have HQQ := Lib.hid hq
  have HV := Lib.hid hv
  obtain ⟨n, hn⟩ : ∃ n, (E1 ++ x :: E2).length = n := ⟨_, rfl⟩
  rw [hn] at HROW c2 hElen
  have HN := Lib.hid hn
  have hn0 : 0 < n := by rw [← hn]; simp; omega
  clear hE hEo hrow hq hv hxq hn hb3 c0 c1 b0 b1 b2
  have HC := Lib.hid (clone_ok (w := w3.drew) (row_of_grown HROW.out (Below.refl _ _).drew) HN.out hn0 hElen)
  obtain ⟨m, hm⟩ : ∃ m, (E1 ++ E2).length = m := ⟨_, rfl⟩
  have HM := Lib.hid hm
  clear hm
  have HXL := Lib.hid (show w.heap.size < w3.heap.size from (Array.getElem?_eq_some_iff.1 HBX3.out).1)
  go_region_with (first
    | (go_at_call 87; refine HC.out.mono ?_; rintro e w5 ⟨g2, cap2, rfl, ho5, hb5⟩; have HB5 := Lib.hid hb5; have HO5 := Lib.hid ho5; have HC5 := Lib.hid (HW3.out.below ((Below.refl w3.heap.size w3).drew.trans hb5)).cells; have HBX5 := Lib.hid ((hb5.block w.heap.size HXL.out).trans HBX3.out); clear ho5 hb5)
    | (go_at_call 86; refine (delete_m HM.out HO5.out HN.out HEO.out rfl (cells3 HBX5.out).1.2.2 (Array.getElem?_eq_some_iff.1 HBX5.out).1 (fun e => by have := (HO5.out.lt g2 rfl).1; have := HXL.out; have e : w.heap.size = g2 := e; have h9 : w3.drew.heap.size = w3.heap.size := rfl; omega) hElen).mono ?_; rintro e w6 ⟨rfl, ho6, hg6⟩; have HO6 := Lib.hid ho6; have HG6 := Lib.hid hg6; have HC6 := Lib.hid ((hg6.block W (Array.getElem?_eq_some_iff.1 HC5.out).1 (fun e => by have h8 := (HO5.out.lt g2 rfl).1; have h9 : w3.drew.heap.size = w3.heap.size := rfl; have h10 := HW3.out.low W HW3.out.mem.1; have e : W = g2 := Option.some.inj e; omega)).trans HC5.out); have f6 := wh_free HC6.out (3 + lv * 65 + 1 + s); have c6 := wh_sv HC6.out h7 hs64; clear ho6 hg6))
  all_goals
    obtain ⟨w7, hw7⟩ : ∃ w7, w6.setCell ⟨W, 3 + lv * 65 + 1 + s, none⟩ (.slice (some ⟨g2, 0, none⟩) m cap2) = w7 := ⟨_, rfl⟩
    have hc7 : w7.heap[W]? = some (wheelObj 106 now o M sm (updF sv q (.slice (some ⟨g2, 0, none⟩) m cap2))) := by
      rw [← hw7, ← HQQ.out]
      exact wh_setSv HC6.out lv hs64 _
    rw [hw7]
    have HW7 := Lib.hid hw7
    clear hw7 c2 f2 c6 f6
    have c7 := wh_sv hc7 h7 hs64
    rw [HQQ.out, updF_same] at c7
    have c8 := wh_sm hc7 h7
    have f8 := wh_free hc7 (3 + lv * 65)
    have HC7 := Lib.hid hc7
    clear hc7
    have HB6 := Lib.hid (show Below w2.heap.size w2 w6 from by
      have h1 : Below w2.heap.size w2 w5 := (HB3.out.trans ((Below.refl w3.heap.size w3).drew.mono HB3.out.size)).trans (HB5.out.mono HB3.out.size)
      exact h1.grown HG6.out h1.size (fun b e => by
        have h2 := (HO5.out.lt g2 rfl).1
        have h3 : w3.drew.heap.size = w3.heap.size := rfl
        have h4 := HB3.out.size
        cases e
        omega))
    have hso : w7.heap.size = w6.heap.size ∧ (w7.os = w6.os ∧ w7.tape = w6.tape ∧ w7.output = w6.output) := by rw [← HW7.out]; exact ⟨by simp [World.setCell], rfl, rfl, rfl⟩
    have hk7 : ∀ i, i ≠ W → w7.heap[i]? = w6.heap[i]? := fun i hi => by rw [← HW7.out]; exact Below.heap_setCell _ _ _ _ hi
    have hown6 : w6.ownsRow w2.heap.size 109 3 (.slice (some ⟨g2, 0, none⟩) m cap2) (E1 ++ E2).length (entsC (E1 ++ E2)) := by
      rw [HM.out]
      exact ownsRow_base HO6.out HB3.out.size
    by_cases hm0 : m = 0
    · have hnil : E1 ++ E2 = [] := List.eq_nil_of_length_eq_zero (HM.out.trans hm0)
      obtain ⟨a, ha⟩ : ∃ a, sm lv = a := ⟨_, rfl⟩
      rw [ha] at c8
      obtain ⟨nb, hn1, hn2, hn3⟩ := andNot_bit a s hs64
      have HF := Lib.hid (show ∃ S' P', Adv S S' W now o (without k A) P' w ((w7.setCell ⟨W, 3 + lv * 65, none⟩ (.int .u64 (nb : Int))).drew) ∧ P'.Perm (without k A) from by
        obtain ⟨S', hw8, ho8, hs8⟩ := slot_put (w6 := (w7.setCell ⟨W, 3 + lv * 65, none⟩ (.int .u64 (nb : Int))).drew) (sm' := updF sm lv nb) H2.out HB6.out hown6 (wh_setSm HC7.out lv nb) (fun i hi => (Below.heap_setCell _ _ _ _ hi).trans (hk7 i hi)) (by rw [← hso.1]; simp [World.setCell, World.drew]) hso.2 HPL.out (fun y hy => (List.mem_filter.1 hy).1) (by
          rw [hnil, ← HQQ.out]
          exact HH.out.bits.clear h7 hs64 hn2 (by rw [ha]; exact hn3))
        exact ⟨S', _, ⟨⟨M, _, _, _, hw8⟩, HO2.out.trans ho8 (fun _ _ hS => hS), fun i hi => by
          rcases hs8 i hi with e | e
          · exact .inl e
          · exact .inr (Nat.le_trans HO2.out.size e)⟩, HPW.out⟩)
      have HWT := Lib.hid (wrap_two s hs64)
      have HN1 := Lib.hid hn1
      subst hm0
      clear hn1 hn3 hnil hso hk7 hown6 ha
      go_wp2_with fail
      go_region
      all_goals
        go_wp2
        go_ret
        rw [HWT.out, HN1.out]
        exact ⟨rfl, HF.out⟩
    · have hmI : ((m : Int) == 0) = false := by rw [beq_eq_false_iff_ne]; omega
      have HF := Lib.hid (show ∃ S' P', Adv S S' W now o (without k A) P' w w7 ∧ P'.Perm (without k A) from by
        obtain ⟨S', hw8, ho8, hs8⟩ := slot_put (w6 := w7) (sm' := sm) H2.out HB6.out hown6 HC7.out hk7 hso.1 hso.2 HPL.out (fun y hy => (List.mem_filter.1 hy).1) (HH.out.bits.stay (fun e => hm0 (by rw [← HM.out, e]; rfl)) HRN.out)
        exact ⟨S', _, ⟨⟨M, _, _, _, hw8⟩, HO2.out.trans ho8 (fun _ _ hS => hS), fun i hi => by
          rcases hs8 i hi with e | e
          · exact .inl e
          · exact .inr (Nat.le_trans HO2.out.size e)⟩, HPW.out⟩)
      clear hso hk7 hown6
      go_wp2_with fail
      go_ret
      exact ⟨rfl, HF.out⟩
end Go.Proofs.YtaeiaoldlebhaaaDoor
