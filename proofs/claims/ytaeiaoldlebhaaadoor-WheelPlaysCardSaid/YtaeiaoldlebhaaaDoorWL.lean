import Derived.Test.YtaeiaoldlebhaaaDoorWK
namespace Go.Proofs.YtaeiaoldlebhaaaDoor
open Go.RowKit Go.Maps Go.Lib

theorem hasKey_perm {A B : List Ent} (hA : (A.map Ent.key).Nodup) (hp : A.Perm B) (k : Int) : hasKey k A = hasKey k B := by
  have hB : (B.map Ent.key).Nodup := ((hp.map Ent.key).nodup_iff).1 hA
  cases h : hasKey k A with
  | none => exact (hasKey_not (fun x hx => hasKey_none h x (hp.symm.subset hx))).symm
  | some x =>
    obtain ⟨h1, h2⟩ := hasKey_some h
    exact (hasKey_of hB (hp.subset h1) h2).symm
section
variable {S : Nat → Prop} {W M now o : Nat} {A P : List Ent} {sm : Nat → Nat} {sv : Nat → Value} {rows : Nat → List Ent} {w : World}
theorem WhAt.putKey (h : WhAt S W M now o A P sm sv rows w) {x : Ent} {A' : List Ent} (hn : hasKey x.key A = none) (hp : A'.Perm (x :: A)) (hk : (A'.map Ent.key).Nodup) (hw : (Lit.int .i64 x.key).wf = true) (hl : A.length < 1099511627776) :
    ∃ w', (Instr.mapUpdate 99 (.map (some M)) (.int .i64 x.key) (.agg #[.int .i64 x.key, .int .i64 (x.due : Int), .int .i64 (x.ord : Int)])).run Tryd.prog w = .ok () w' ∧ WhAt S W M now o A' P sm sv rows w' ∧ Only S w w' := by
  obtain ⟨w', hrun, hm, hg⟩ := h.map.store (E := kI) Tryd.underlying99 (by unfold maxLen; omega) (k := x.key) hw (entV x)
  have hkp : ∀ i, i < w.heap.size → i ≠ M → w'.heap[i]? = w.heap[i]? := fun i hi hne => hg.block i hi (by simp; exact hne)
  have e1 : armF A x.key = none := by unfold armF; rw [hn]; rfl
  rw [e1] at hm
  have hm2 : MapG kI M A'.length (armF A') w' := by
    have h1 := hp.length_eq
    rw [h1]
    refine MapG.ext (E := kI) hm (fun j _ => ?_)
    show (if j = x.key then some (entV x) else armF A j) = (hasKey j A').map entV
    rw [hasKey_perm hk hp j]
    by_cases e : j = x.key
    · rw [if_pos e, e, hasKey_cons_eq]; rfl
    · rw [if_neg e, hasKey_cons_ne (fun e2 => e e2.symm)]; rfl
  exact ⟨w', hrun, ⟨(hkp W (h.low W h.mem.1) h.mem.2.2).trans h.cells, hm2, h.rws.kept (fun q b hq hv => hkp b (h.low b (h.rws.own q b hq hv).1) (h.rws.own q b hq hv).2.2), h.mem, fun i hi => Nat.lt_of_lt_of_le (h.low i hi) hg.size, h.placed, h.bits, h.tm, h.due⟩, (Only.refl S w).grown hg (fun g e _ => by cases e; exact h.mem.2.1)⟩
theorem WhAt.setOrders (h : WhAt S W M now o A P sm sv rows w) (n : Nat) : WhAt S W M now n A P sm sv rows (w.setCell ⟨W, 1, none⟩ (.int .i64 (n : Int))) ∧ Only S w (w.setCell ⟨W, 1, none⟩ (.int .i64 (n : Int))) := by
  have hk : ∀ i, i ≠ W → (w.setCell ⟨W, 1, none⟩ (.int .i64 (n : Int))).heap[i]? = w.heap[i]? := fun i hi => Below.heap_setCell _ _ _ _ hi
  exact ⟨⟨wh_setOrders h.cells _, h.map.block (hk M (fun e => h.mem.2.2 e.symm)), h.rws.kept (fun q b hq hv => hk b (h.rws.own q b hq hv).2.1), h.mem, fun i hi => by have := h.low i hi; simpa [World.setCell] using this, h.placed, h.bits, h.tm, h.due⟩, (Only.refl S w).set (p := ⟨W, 1, none⟩) h.mem.1 _⟩
end
section
variable {S : Nat → Prop} {W now o : Nat} {L : List Ent} {w : World}
theorem cancel_whl (h : Whl S W now o L w) {k : Int} (hw : (Lit.int .i64 k).wf = true) : Calls Tryd.prog 43 #[.pointer (some ⟨W, 0, none⟩), .int .i64 k] w fun e w' => e = .returned (.bool (hasKey k L).isSome) ∧ Trn S W now o (without k L) w w' := by
  have hh := h
  obtain ⟨⟨M, P, sm, sv, rows, h1, h2⟩, h3, h4⟩ := h
  cases hk : hasKey k L with
  | none =>
    refine (cancel_none h1 hw hk).mono ?_
    rintro e w' ⟨he, hb⟩
    rw [without_none (hasKey_none hk)]
    exact ⟨he, Trn.of_below hh hb⟩
  | some x =>
    refine (cancel_some h1 h2 h3 (by omega) hw hk).mono ?_
    rintro e w' ⟨he, S', P', hA, hp⟩
    obtain ⟨⟨M', sm', sv', rows', hw'⟩, ho, hs⟩ := hA
    exact ⟨he, S', ⟨⟨M', P', sm', sv', rows', hw', hp⟩, h3.without k, h4⟩, ho, hs⟩
set_option maxRecDepth 100000 in
set_option maxHeartbeats 1000000 in
theorem advance_back (h : Whl S W now o L w) (a : Int) (ha : a < (now : Int)) : Calls Tryd.prog 18 #[.pointer (some ⟨W, 0, none⟩), .int .i64 a] w fun e w' => e = .returned (.slice none 0 0) ∧ w' = w := by
  obtain ⟨⟨M, P, sm, sv, rows, h1, h2⟩, h3, h4⟩ := h
  have c0 := wh_now h1.cells
  clear h1 h2 h3
  go_enter Tryd.func18, Tryd.ntmps18
  go_wp2
  go_ret
  exact ⟨rfl, rfl⟩
/-- Advance: who is due is told, in order. -/
theorem advance_whl (h : Whl S W now o L w) (hT : TabAt 0 Lib.deBruijn64tab w) (hS0 : ¬ S 0 ∧ 0 < w.heap.size) (a : Int) (ha : ¬ a < (now : Int)) (te : Nat) (hte : min a 1099511627776 = (te : Int)) :
    Calls Tryd.prog 18 #[.pointer (some ⟨W, 0, none⟩), .int .i64 a] w fun e w' => ∃ v S', e = .returned v ∧ Whl S' W te o (past te L) w' ∧ Only S w w' ∧ (∀ i, S' i → S i ∨ w.heap.size ≤ i) ∧ Off S' w.heap.size 3 1 v (upTil te L).length (keysC (upTil te L)) w' := by
  obtain ⟨⟨M, P, sm, sv, rows, h1, h2⟩, h3, h4⟩ := h
  have ht := h1.tm
  refine (advance_loop h1 h2 h3 (by omega) hT hS0 a te hte (by omega) ha).mono ?_
  rintro e w' ⟨v, S', P', he, hA, hp, hO⟩
  obtain ⟨⟨M', sm', sv', rows', hw'⟩, ho, hs⟩ := hA
  exact ⟨v, S', he, ⟨⟨M', P', sm', sv', rows', hw', hp⟩, h3.past te (by omega), h4⟩, ho, hs, hO⟩
set_option maxRecDepth 100000 in
set_option maxHeartbeats 1000000 in
theorem arm_bad (h : Whl S W now o L w) (k a : Int) (ha : a ≤ (now : Int) ∨ 1099511627776 < a) : Calls Tryd.prog 17 #[.pointer (some ⟨W, 0, none⟩), .int .i64 k, .int .i64 a] w fun e w' => e = .returned (.int .i64 1) ∧ w' = w := by
  obtain ⟨⟨M, P, sm, sv, rows, h1, h2⟩, h3, h4⟩ := h
  have c0 := wh_now h1.cells
  have ht : (now : Int) ≤ 1099511627776 := by have := h1.tm; omega
  clear h1 h2 h3
  by_cases h5 : a ≤ (now : Int)
  · clear ha
    go_enter Tryd.func17, Tryd.ntmps17
    go_wp2
    go_ret
    exact ⟨rfl, rfl⟩
  · have h6 : 1099511627776 < a := by omega
    clear ha
    go_enter Tryd.func17, Tryd.ntmps17
    go_wp2
    go_ret
    exact ⟨rfl, rfl⟩
set_option maxRecDepth 100000 in
set_option maxHeartbeats 1000000 in
theorem arm_ok (h : Whl S W now o L w) {k : Int} (hkb : -9223372036854775808 ≤ k ∧ k ≤ 9223372036854775807) (t : Nat) (h1 : now < t) (h2 : t ≤ 1099511627776) (ho : o < 549755813887) : Calls Tryd.prog 17 #[.pointer (some ⟨W, 0, none⟩), .int .i64 k, .int .i64 (t : Int)] w fun e w' => e = .returned (.int .i64 0) ∧ Trn S W now (o + 1) (armL k t (o + 1) L) w w' := by
  have hw := i64_wf' hkb.1 hkb.2
  have HC := Lib.hid (cancel_whl h hw)
  have HH := Lib.hid h
  obtain ⟨⟨M, P, sm, sv, rows, g1, g2⟩, g3, g4⟩ := h
  have c0 := wh_now g1.cells
  have h1I : (now : Int) < (t : Int) := by omega
  have h2I : (t : Int) ≤ 1099511627776 := by omega
  have h3N : ¬ t ≤ now := by omega
  clear g1 g2 g3 g4
  go_enter Tryd.func17, Tryd.ntmps17
  go_wp2_with fail
  refine HC.out.mono ?_
  rintro e w1 ⟨rfl, S1, hW1, ho1, hs1⟩
  obtain ⟨⟨M1, P1, sm1, sv1, rows1, k1, k2⟩, k3, k4⟩ := hW1
  have c1 := wh_orders k1.cells
  have f1 := wh_free k1.cells 1
  obtain ⟨k5, ho5⟩ := k1.setOrders (o + 1)
  have hob : (o : Int) < 549755813887 := by omega
  have hWn := HH.out.wh.arm hkb h1 h2
  have hp := armL_perm (k := k) (t := t) (o := o + 1) HH.out.wh.up
  obtain ⟨w2, hw2⟩ : ∃ w2, w1.setCell ⟨W, 1, none⟩ (.int .i64 ((o : Int) + 1)) = w2 := ⟨_, rfl⟩
  have k5 : WhAt S1 W M1 now (o + 1) (without k L) P1 sm1 sv1 rows1 w2 := by rw [← hw2]; exact k5
  have ho5 : Only S1 w1 w2 := by rw [← hw2]; exact ho5
  have hb6 : Below w2.heap.size w2 (w2.alloc (.cells #[.int .i64 k, .int .i64 (t : Int), .int .i64 ((o : Int) + 1)] 109)).drew := ((Below.refl _ _).alloc (Nat.le_refl _) _).drew
  have k6 := k5.below hb6
  have hlen : (without k L).length < 1099511627776 := by have := k3.len; omega
  obtain ⟨w3, hrun, k7, ho7⟩ := k6.putKey (x := ⟨k, t, o + 1⟩) (hasKey_not (fun y hy => (mem_without.1 hy).2)) hp hWn.keys hw hlen
  have hrun : (Instr.mapUpdate 99 (.map (some M1)) (.int .i64 k) (.agg #[.int .i64 k, .int .i64 (t : Int), .int .i64 ((o : Int) + 1)])).run Tryd.prog (w2.alloc (.cells #[.int .i64 k, .int .i64 (t : Int), .int .i64 ((o : Int) + 1)] 109)).drew = .ok () w3 := hrun
  have c2 := wh_map k6.cells
  have hbox : w3.heap[w2.heap.size]? = some (.cells #[.int .i64 k, .int .i64 (t : Int), .int .i64 ((o : Int) + 1)] 109 (0, 0)) := by
    have hn : ¬ S1 w2.heap.size := fun hS => by have := k5.low _ hS; omega
    exact (ho7.block w2.heap.size (by simp) hn).trans (heap_alloc_new w2 _)
  obtain ⟨⟨b0, b1, b2⟩, _⟩ := cells3 hbox
  have HLAY := Lib.hid (lay_ok k7 ⟨k, t, o + 1⟩ ⟨Nat.le_of_lt h1, h2⟩ (by have := k2.length_eq; omega))
  have hs2 : w1.heap.size = w2.heap.size := by rw [← hw2]; simp [World.setCell]
  have HFIN := Lib.hid (show ∀ (w4 : World) S4 sm4 sv4 rows4, WhAt S4 W M1 now (o + 1) (armL k t (o + 1) L) (⟨k, t, o + 1⟩ :: P1) sm4 sv4 rows4 w4 → Only S1 w3 w4 → (∀ i, S4 i → S1 i ∨ w3.heap.size ≤ i) → Trn S W now (o + 1) (armL k t (o + 1) L) w w4 from fun w4 S4 sm4 sv4 rows4 a b c => by
    have o1 : Only S1 w1 w3 := (ho5.trans (Only.of_below (S := S1) hb6) (fun _ _ hS => hS)).trans ho7 (fun _ _ hS => hS)
    have o2 : Only S1 w1 w4 := o1.trans b (fun _ _ hS => hS)
    have hsz := ho1.size
    refine ⟨S4, ⟨⟨M1, _, sm4, sv4, rows4, a, ((List.perm_cons _).2 k2).trans hp.symm⟩, hWn, by omega⟩, ho1.trans o2 (fun i hi hS => by rcases hs1 i hS with e | e; exact e; omega), fun i hi => ?_⟩
    rcases c i hi with e | e
    · exact hs1 i e
    · have := o1.size; exact .inr (by omega))
  have HW2 := Lib.hid hw2
  have HRUN := Lib.hid hrun
  have HS2 := Lib.hid hs2
  have HCS := Lib.hid (And.intro c2 (And.intro b0 (And.intro b1 b2)))
  clear k1 k2 k3 k4 k5 k6 k7 ho5 ho7 hb6 hbox hWn hp hlen hs2 ho1 hs1 hw2 hrun c2 b0 b1 b2
  go_wp2_with fail
  rw [HW2.out, HS2.out]
  clear c1 f1
  have hrun := HRUN.out
  obtain ⟨c2, b0, b1, b2⟩ := HCS.out
  refine wp_tail 6 (by kernel_rfl) (by kernel_rfl) ?_
  simp only [List.take_succ_cons, List.take_zero, List.drop_succ_cons, List.drop_zero]
  repeat still_step
  refine wpStill_nil ?_
  go_wp2_with (go_at_call 44; refine HLAY.out.mono ?_; rintro e w4 ⟨rfl, S4, sm4, sv4, rows4, q1, q2, q3⟩; have HT := Lib.hid (HFIN.out w4 S4 sm4 sv4 rows4 q1 q2 q3); clear q1 q2 q3)
  go_ret
  exact ⟨rfl, HT.out⟩
end
end Go.Proofs.YtaeiaoldlebhaaaDoor
