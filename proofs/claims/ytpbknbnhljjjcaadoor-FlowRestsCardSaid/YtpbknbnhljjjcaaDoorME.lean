/- Texts of this proof, put together: WF WE. -/
import Derived.Test.YtpbknbnhljjjcaaDoorMD
namespace Go.Proofs.YtpbknbnhljjjcaaDoor
open Go.RowKit Go.Maps Go.Lib

theorem i64_wf' {x : Int} (h1 : -9223372036854775808 ≤ x) (h2 : x ≤ 9223372036854775807) : (Lit.int .i64 x).wf = true := by
  simp [Lit.wf, IntKind.min, IntKind.max, IntKind.signed, IntKind.bits]
  exact ⟨by omega, by omega⟩
/-- Where the time may go on to with nobody moved, but the first slot's. -/
theorem First.stayQ {now lv s n : Nat} {P : List Ent} (h : First now P lv s) (h1 : now ≤ n) (h2 : n ≤ fromOf now lv s) : ∀ x ∈ notQ now (lv * 64 + s) P, qOf n x.due = qOf now x.due := fun x hx => by
  obtain ⟨hx, hne⟩ := mem_notQ.1 hx
  exact h.stay h1 h2 x hx (fun a b => (hne (by unfold qOf; rw [a, b])).elim)
theorem First.stayAll {now lv s n : Nat} {P : List Ent} (h : First now P lv s) (h1 : now ≤ n) (h2 : n < fromOf now lv s) : ∀ x ∈ P, qOf n x.due = qOf now x.due := fun x hx => h.stay h1 (Nat.le_of_lt h2) x hx (fun _ _ => h2)
theorem mem_ofQ_lv {now lv s : Nat} (hs : s < 64) {P : List Ent} {x : Ent} (hx : x ∈ ofQ now (lv * 64 + s) P) : x ∈ P ∧ lvl x.due now = lv ∧ slt now x.due = s := by
  obtain ⟨h1, h2⟩ := mem_ofQ.1 hx
  have a := qOf_lv (now := now) (t := x.due)
  have b := qOf_sl (now := now) (t := x.due)
  rw [h2] at a b
  exact ⟨h1, by omega, by omega⟩
/-- All get nearer to their end where a slot of a higher level is parted. -/
theorem First.mu_down {now lv s : Nat} {P : List Ent} (h : First now P lv s) (hn : ∀ x ∈ P, now ≤ x.due) (h0 : 0 < lv) : mu (fromOf now lv s) P < mu now P := by
  have hk : ∀ x ∈ P, lvl x.due (fromOf now lv s) ≤ lvl x.due now := fun x hx => by
    by_cases e : qOf now x.due = lv * 64 + s
    · obtain ⟨_, a, b⟩ := mem_ofQ_lv h.s64 (mem_ofQ.2 ⟨hx, e⟩)
      have := h.down h0 x hx a b
      omega
    · have h1 := h.stayQ (h.ge hn) (Nat.le_refl _) x (mem_notQ.2 ⟨hx, e⟩)
      have a := qOf_lv (now := fromOf now lv s) (t := x.due)
      have b := qOf_lv (now := now) (t := x.due)
      rw [h1] at a
      omega
  obtain ⟨x, hx, a, b⟩ := h.some
  exact mu_lt hk ⟨x, hx, by have := h.down h0 x hx a b; omega⟩
/-- .. and where a slot of the lowest level is emptied. -/
theorem mu_cons (now : Nat) (x : Ent) (P : List Ent) : mu now (x :: P) = lvl x.due now + 1 + mu now P := by unfold mu; simp
theorem mu_append (now : Nat) (P Q : List Ent) : mu now (P ++ Q) = mu now P + mu now Q := by unfold mu; simp
theorem mu_pos (now : Nat) {P : List Ent} (h : P ≠ []) : 0 < mu now P := by
  cases P with
  | nil => exact (h rfl).elim
  | cons x P => rw [mu_cons]; omega
theorem First.mu_zero {now s : Nat} {P : List Ent} (h : First now P 0 s) (hn : ∀ x ∈ P, now ≤ x.due) : mu (fromOf now 0 s) (notQ now s P) < mu now P := by
  have e : 0 * 64 + s = s := by omega
  have h1 : mu (fromOf now 0 s) (notQ now s P) ≤ mu now (notQ now s P) := mu_le (fun x hx => by
    have h1 := h.stayQ (h.ge hn) (Nat.le_refl _) x (by rw [e]; exact hx)
    have a := qOf_lv (now := fromOf now 0 s) (t := x.due)
    have b := qOf_lv (now := now) (t := x.due)
    rw [h1] at a
    omega)
  have h2 : mu now P = mu now (notQ now s P) + mu now (ofQ now s P) := by
    rw [← mu_append]; exact (mu_perm (ofQ_perm_notQ P)).symm
  have h3 : ofQ now s P ≠ [] := fun e0 => by
    obtain ⟨x, hx, a, b⟩ := h.some
    have : x ∈ ofQ now s P := mem_ofQ.2 ⟨hx, by unfold qOf; rw [a, b]; omega⟩
    rw [e0] at this
    cases this
  have := mu_pos now h3
  omega
/-- Those of the lowest level's first slot are those who are due first. -/
theorem First.ofQ_due {now s : Nat} {P : List Ent} (h : First now P 0 s) (hn : ∀ x ∈ P, now ≤ x.due) : ofQ now s P = upTil (fromOf now 0 s) P := by
  have e : 0 * 64 + s = s := by omega
  unfold ofQ upTil
  refine List.filter_congr (fun x hx => ?_)
  have hle := h.le hn x hx
  by_cases hq : qOf now x.due = s
  · obtain ⟨_, a, b⟩ := mem_ofQ_lv (lv := 0) h.s64 (P := P) (x := x) (mem_ofQ.2 ⟨hx, by rw [e]; exact hq⟩)
    have h9 := h.zero x hx a b
    rw [decide_eq_true hq, decide_eq_true (by omega)]
  · have hne : ¬ x.due ≤ fromOf now 0 s := fun hle2 => by
      obtain ⟨y, hy, a, b⟩ := h.some
      have h1 := h.zero y hy a b
      have h2 : x.due = y.due := by omega
      refine hq ?_
      unfold qOf
      rw [h2, a, b]
      omega
    rw [decide_eq_false hq, decide_eq_false hne]
theorem notQ_perm_past {now s : Nat} {P L T : List Ent} (hp : P.Perm L) (hT : T.Perm (ofQ now s P)) {L' : List Ent} (hL : L = T ++ L') : (notQ now s P).Perm L' := by
  have h1 := (ofQ_perm_notQ (now := now) (q := s) P).trans hp
  rw [hL] at h1
  have h2 : (notQ now s P ++ T).Perm (T ++ L') := (List.Perm.append_left _ hT).trans h1
  exact (List.perm_append_left_iff T).1 (List.perm_append_comm.trans h2)
theorem row_at {w : World} {base g n cap : Nat} {l : List Ent} (h : w.ownsRow base 154 3 (.slice (some ⟨g, 0, none⟩) n cap) n (entsC l)) {k : Nat} {x : Ent} (hx : l[k]? = some x) :
    w.cell? ⟨g, k * 3, none⟩ = some (.int .i64 x.key) ∧ w.cell? ⟨g, k * 3 + 1, none⟩ = some (.int .i64 (x.due : Int)) ∧ w.cell? ⟨g, k * 3 + 2, none⟩ = some (.int .i64 (x.ord : Int)) := by
  obtain ⟨e0, e1, e2⟩ := entsC_at hx
  have a := h.cells (g := g) rfl _ _ e0
  have b := h.cells (g := g) rfl _ _ e1
  have c := h.cells (g := g) rfl _ _ e2
  rw [Addr.add_lit, Nat.zero_add] at a b c
  exact ⟨a, b, c⟩
theorem Adv.grown {S S' : Nat → Prop} {W now o : Nat} {A P : List Ent} {w wr w2 : World} {row : Option Nat} (h : Adv S S' W now o A P w wr) (hg : wr.grownBy w2 row) (hr : ∀ g, row = some g → ¬ S' g ∧ (g < w.heap.size → S g)) : Adv S S' W now o A P w w2 := by
  obtain ⟨⟨M, sm, sv, rows, hw⟩, h1, h2⟩ := h
  exact ⟨⟨M, sm, sv, rows, hw.kept (fun b hS => hg.block b (hw.low b hS) (fun e => (hr b e.symm).1 hS)) hg.size⟩, h1.grown hg (fun g e hl => (hr g e).2 hl), h2⟩
theorem Off.grown {S : Nat → Prop} {base : Nat} {e : TypeId} {k : Nat} {v : Value} {n : Nat} {xs : List Value} {w w2 : World} {row : Option Nat} (h : Off S base e k v n xs w) (hg : w.grownBy w2 row) (hne : ∀ g, v.ownBlock = some g → row ≠ some g) : Off S base e k v n xs w2 :=
  ⟨ownsRow_kept h.1 (fun g hv => hg.block g (h.1.lt g hv).2 (fun e => hne g hv e.symm)), h.2⟩
theorem take_snoc' {α : Type} {l : List α} {k : Nat} {x : α} (h : l[k]? = some x) : l.take (k + 1) = l.take k ++ [x] := by
  rw [List.take_add_one, h]; rfl
end Go.Proofs.YtpbknbnhljjjcaaDoor

namespace Go.Proofs.YtpbknbnhljjjcaaDoor
open Go.RowKit Go.Maps Go.Lib

/-- What the loop of Advance keeps. -/
structure AdvI (S : Nat → Prop) (W now o te : Nat) (L0 : List Ent) (w : World) (v : Value) (g : Nat) (wr : World) : Prop where
  st : ∃ (S' : Nat → Prop) (n : Nat) (L P D : List Ent), Adv S S' W n o L P w wr ∧ P.Perm L ∧ L0 = D ++ L ∧ (∀ x ∈ D, x.due ≤ te) ∧ now ≤ n ∧ n ≤ te ∧ Off S' w.heap.size 3 1 v D.length (keysC D) wr ∧ mu n P ≤ g
theorem wp_tail {P : Program} {id : Nat} {Q : Exit → Act → World → Prop} {a : Act} {w : World} {l : List Oper} (n : Nat) (hm : P.follows .mixedOrders = true) (hB : Region.lexTailB .any l.toArray n = true)
    (h : wpStill P l.toArray w.drew (fun a' => wpList P l.toArray Q (l.drop n) a' w.drew) (l.take n) a) : (Code.region id l.toArray true).wp P Q a w := wp_region_still_tail n hm hB h
theorem Tryd.info3 : (Tryd.prog.info? 3).map (fun i => (i.zero, i.size, i.bytes)) = some (some (.int .i64 0), 1, 8) := by kernel_rfl
/-- The way out: the time goes on to what was asked for. -/
theorem adv_out {S S' : Nat → Prop} {W n o te : Nat} {L0 L P D : List Ent} {w wr : World} {v : Value} (h : Adv S S' W n o L P w wr) (hp : P.Perm L) (hD : L0 = D ++ L) (hd : ∀ x ∈ D, x.due ≤ te) (hOff : Off S' w.heap.size 3 1 v D.length (keysC D) wr) (hs : ∀ x ∈ P, qOf te x.due = qOf n x.due) (hl : ∀ x ∈ P, te < x.due) (ht : te ≤ 1099511627776) :
    ∃ v' S' P', Ending.returned v = .returned v' ∧ Adv S S' W te o (past te L0) P' w (wr.setCell ⟨W, 0, none⟩ (.int .i64 (te : Int))) ∧ P'.Perm (past te L0) ∧ Off S' w.heap.size 3 1 v' (upTil te L0).length (keysC (upTil te L0)) (wr.setCell ⟨W, 0, none⟩ (.int .i64 (te : Int))) := by
  obtain ⟨h1, h2⟩ := split_of hd (fun x hx => hl x (hp.symm.subset hx))
  rw [hD, h1, h2]
  obtain ⟨M, sm, sv, rows, hw⟩ := h.wh
  have ho := only_setNow hw (.int .i64 (te : Int))
  exact ⟨v, S', P, rfl, h.step ⟨⟨M, sm, sv, rows, hw.setNow hs (fun x hx => Nat.le_of_lt (hl x hx)) ht⟩, ho, fun _ hi => .inl hi⟩, hp, hOff.step ho (fun _ hi => .inl hi)⟩
set_option maxRecDepth 100000 in
set_option maxHeartbeats 4000000 in
theorem advance_loop {S : Nat → Prop} {W M now o : Nat} {L P : List Ent} {sm : Nat → Nat} {sv : Nat → Value} {rows : Nat → List Ent} {w : World} (h : WhAt S W M now o L P sm sv rows w) (hp : P.Perm L) (hL : Wh now o L) (ho : o < 1099511627776) (hT : TabAt 0 Lib.deBruijn64tab w) (hS0 : ¬ S 0 ∧ 0 < w.heap.size) (a : Int) (te : Nat) (ha : min a 1099511627776 = (te : Int)) (hte : now ≤ te) (hlt : ¬ a < (now : Int)) :
    Calls Tryd.prog 43 #[.pointer (some ⟨W, 0, none⟩), .int .i64 a] w fun e w' => ∃ v S' P', e = .returned v ∧ Adv S S' W te o (past te L) P' w w' ∧ P'.Perm (past te L) ∧ Off S' w.heap.size 3 1 v (upTil te L).length (keysC (upTil te L)) w' := by
  have HI := Lib.hid (show AdvI S W now o te L w (.slice none 0 0) (mu now P) w from ⟨S, now, L, P, [], Adv.start h, hp, rfl, (fun x hx => by cases hx), Nat.le_refl _, hte, Off.nil _ _ _ _ _, Nat.le_refl _⟩)
  have HT := Lib.hid hT
  have HL := Lib.hid hL
  have c0 := wh_now h.cells
  have hte2 : te ≤ 1099511627776 := by omega
  have HP := Lib.hid hp
  have HA := Lib.hid ha
  clear h hp hT hL ha
  go_enter Tryd.func43, Tryd.ntmps43
  go_wp2_with fail
  rw [HA.out]
  go_loopg [4] (mu now P) (fun g v wr => AdvI S W now o te L w v g wr)
  case atStart => exact HI.out
  case round =>
    obtain ⟨S', n, L', P', D, hAdv, hp, hD, hd, hn1, hn2, hOff, hmu⟩ := hrel.st
    obtain ⟨M', sm', sv', rows', hw⟩ := hAdv.wh
    have HNX := Lib.hid (next_ok hw.cells (TabAt.kept HT.out (hAdv.only.block 0 hS0.2 hS0.1)) (by omega) (fun i hi => (hw.bits i hi).1))
    have HW := Lib.hid hw
    have HPP := Lib.hid hp
    have HADV := Lib.hid hAdv
    have HOFF := Lib.hid hOff
    have HMU := Lib.hid hmu
    have HD := Lib.hid hD
    have HDD := Lib.hid hd
    clear hrel hAdv hp hD hd hOff hmu hw HI
    go_wp2_with fail
    refine (HNX.out).mono ?_
    rintro e wx ⟨⟨r, rfl, hr⟩, nq, rfl⟩
    obtain ⟨wy, hwy⟩ : ∃ wy, wr.drewN nq = wy := ⟨_, rfl⟩
    have hby : Below wr.heap.size wr wy := by rw [← hwy]; exact below_drewN (Below.refl _ _) nq
    rw [hwy]
    have HWY := Lib.hid (HW.out.below hby)
    have HAY := Lib.hid (HADV.out.below hby)
    have HOY := Lib.hid (HOFF.out.below hby)
    clear hby hwy HADV HOFF HNX
    have c1 := wh_now HWY.out.cells
    have f1 := wh_free HWY.out.cells 0
    rcases hr with ⟨rfl, hz⟩ | ⟨lv, s, rfl, h7, hz, h64, hb, hlow⟩
    · have h0 : P' = [] := none_of HW.out.placed HW.out.bits hz (by have := HW.out.tm; omega) (fun x hx => by have := (HW.out.due x hx).2; omega)
      have HF := Lib.hid (adv_out (te := te) HAY.out HPP.out HD.out HDD.out HOY.out (by rw [h0]; intro x hx; cases hx) (by rw [h0]; intro x hx; cases hx) hte2)
      clear hz h0
      go_wp2_with fail
      go_ret
      exact HF.out
    · have hF := first_of HW.out.placed HW.out.bits h7 hz h64 hb hlow
      have hge := hF.ge (fun x hx => (HW.out.due x hx).1)
      obtain ⟨f, hf⟩ : ∃ f, fromOf n lv s = f := ⟨_, rfl⟩
      rw [hf] at hge
      rw [hf]
      have HFF := Lib.hid hf
      have HFI := Lib.hid hF
      have HB := Lib.hid hb
      clear hz hlow hF hf hb
      by_cases hft : te < f
      · have hfI : (te : Int) < (f : Int) := by omega
        have HF := Lib.hid (adv_out (te := te) HAY.out HPP.out HD.out HDD.out HOY.out (HFI.out.stayAll hn2 (by rw [HFF.out]; exact hft)) (fun x hx => by have := HFI.out.le (fun x hx => (HW.out.due x hx).1) x hx; rw [HFF.out] at this; omega) hte2)
        go_wp2_with fail
        go_ret
        exact HF.out
      · have hfI : ¬ ((te : Int) < (f : Int)) := by omega
        go_wp2_with fail
        have hE0 : rows' (lv * 64 + s) ≠ [] := ((HW.out.bits lv h7).2 s h64).1 HB.out
        have hEp := HW.out.placed (lv * 64 + s) (by omega)
        refine (take_ok HWY.out rfl h7 h64).mono ?_
        rintro e w2 ⟨rfl, sm2, sv2, rows2, hw2, ho2, hrow⟩
        obtain ⟨q, hq⟩ : ∃ q, lv * 64 + s = q := ⟨_, rfl⟩
        rw [hq] at hE0 hEp hw2 hrow
        rw [hq]
        have HQ := Lib.hid hq
        clear hq
        obtain ⟨E, hE⟩ : ∃ E, rows' q = E := ⟨_, rfl⟩
        obtain ⟨v9, hv9⟩ : ∃ v9, sv' q = v9 := ⟨_, rfl⟩
        rw [hE] at hE0 hEp hrow
        rw [hv9] at hw2 hrow
        rw [hv9]
        have hne : 0 < E.length := List.length_pos_iff.2 hE0
        have hvS : ∀ g, v9.ownBlock = some g → S' g := fun g hg => (HW.out.rws.own q g (by have := HQ.out; omega) (by rw [hv9]; exact hg)).1
        obtain ⟨ge, cape, rfl, _, hgel⟩ := hrow.form hne
        clear hE hv9 hE0
        have HEP := Lib.hid hEp
        have hA2 := HAY.out.step (w2 := w2) ⟨⟨M', sm2, sv2, rows2, hw2⟩, ho2, fun i hi => .inl hi.1⟩
        have hO2 := HOY.out.step (S' := fun i => S' i ∧ (Value.slice (some ⟨ge, 0, none⟩) E.length cape).ownBlock ≠ some i) ho2 (fun i hi => .inl hi.1)
        have hR2 : Off (fun i => S' i ∧ (Value.slice (some ⟨ge, 0, none⟩) E.length cape).ownBlock ≠ some i) 0 154 3 (.slice (some ⟨ge, 0, none⟩) E.length cape) E.length (entsC E) w2 := ⟨hrow, fun g hg hS => hS.2 hg⟩
        have hvg : u4.ownBlock ≠ some ge := fun e => HOY.out.2 ge e (hvS ge rfl)
        have hstay : ∀ x ∈ notQ n q P', qOf f x.due = qOf n x.due := by
          rw [← HQ.out, ← HFF.out]; exact HFI.out.stayQ (by rw [HFF.out]; exact hge) (Nat.le_refl _)
        have hle : ∀ x ∈ P', f ≤ x.due := fun x hx => by rw [← HFF.out]; exact HFI.out.le (fun x hx => (HW.out.due x hx).1) x hx
        have hf40 : f ≤ 1099511627776 := by omega
        have hw3 := hw2.setNow hstay (fun x hx => hle x (mem_notQ.1 hx).1) hf40
        have ho3 := only_setNow hw2 (.int .i64 (f : Int))
        have c2 := wh_now hw2.cells
        have f2 := wh_free hw2.cells 0
        have HA3 := Lib.hid (hA2.step (w2 := w2.setCell ⟨W, 0, none⟩ (.int .i64 (f : Int))) ⟨⟨M', sm2, sv2, rows2, hw3⟩, ho3, fun i hi => .inl hi⟩)
        have HO3 := Lib.hid (hO2.step ho3 (fun i hi => .inl hi))
        have HR3 := Lib.hid (hR2.step ho3 (fun i hi => .inl hi))
        have HLE := Lib.hid hle
        clear hA2 hO2 hR2 hw3 ho3 hw2 ho2 hrow hstay hle hEp
        obtain ⟨S1, hS1⟩ : ∃ S1 : Nat → Prop, (fun i => S' i ∧ (Value.slice (some ⟨ge, 0, none⟩) E.length cape).ownBlock ≠ some i) = S1 := ⟨_, rfl⟩
        rw [hS1] at HA3 HO3 HR3
        have HS1 := Lib.hid hS1
        clear hS1
        have hneI : 0 < (E.length : Int) := by omega
        have hElN : E.length < 1099511627776 := by
          have h2 := (ofQ_perm_notQ (now := n) (q := q) P').length_eq
          have h3 := HEP.out.length_eq
          have h5 := HPP.out.length_eq
          have h6 := congrArg List.length HD.out
          have h7 := HL.out.len
          rw [List.length_append] at h2 h6
          omega
        have hEl : (E.length : Int) < 1099511627776 := by omega
        by_cases hlv : lv = 0
        · subst hlv
          have hqs : q = s := by have := HQ.out; omega
          have hSge : S' ge := hvS ge rfl
          have hub := HAY.out.sub
          have HVG := Lib.hid hvg
          have hEo : (E.map Ent.ord).Nodup := by
            refine ((HEP.out.map Ent.ord).nodup_iff).2 ?_
            have h1 : (P'.map Ent.ord).Nodup := ((HPP.out.map Ent.ord).nodup_iff).2 (by
              have h2 := HL.out.ords
              rw [HD.out, List.map_append] at h2
              exact (List.nodup_append.1 h2).2.1)
            exact h1.sublist (List.Sublist.map _ List.filter_sublist)
          have HSO := Lib.hid (sort_ok HR3.out.1 rfl hEo hne hElN)
          have HQS := Lib.hid hqs
          have HSG := Lib.hid (And.intro hSge hub)
          clear hvg hvS hEo hqs hSge hub
          go_wp2_with fail
          refine HSO.out.mono ?_
          rintro e w4 ⟨rfl, T, hTu, hTp, hTr, hTg⟩
          have hrow4 : ∀ g, (Value.slice (some ⟨ge, 0, none⟩) E.length cape).ownBlock = some g → ¬ S1 g ∧ (g < w.heap.size → S g) := fun g hg => by
            refine ⟨HR3.out.2 g hg, fun hl => ?_⟩
            have hgg : ge = g := by cases hg; rfl
            have h9 := HSG.out.2 ge HSG.out.1
            rw [hgg] at h9
            exact h9.resolve_right (Nat.not_le.2 hl)
          have HA4 := Lib.hid (HA3.out.grown hTg hrow4)
          have HO4 := Lib.hid (HO3.out.grown hTg (fun g hg e => HVG.out (by rw [hg]; exact e.symm)))
          have HR4 := Lib.hid (show Off S1 0 154 3 (.slice (some ⟨ge, 0, none⟩) E.length cape) E.length (entsC T) w4 from ⟨hTr, HR3.out.2⟩)
          have HTL := Lib.hid (show L' = T ++ past f L' from by
            have hLu : Up L' := by
              have h2 := HL.out.up
              rw [HD.out] at h2
              exact (List.pairwise_append.1 h2).2.1
            have h1 : T = upTil f L' := by
              refine up_one hTu (hLu.filter _) (hTp.trans (HEP.out.trans ?_))
              have h3 := HFI.out.ofQ_due (fun x hx => (HW.out.due x hx).1)
              rw [HFF.out] at h3
              rw [HQS.out, h3]
              exact upTil_perm HPP.out
            rw [h1]
            exact up_split hLu f)
          have HTP := Lib.hid hTp
          clear hTu hTp hTr hTg hrow4
          go_wp2_with fail
          have hTlen : T.length = E.length := HTP.out.length_eq
          have HTN := Lib.hid hTlen
          have HPT := Lib.hid (notQ_perm_past HPP.out (HTP.out.trans HEP.out) HTL.out)
          have hi3 := Tryd.info3
          obtain ⟨i3, hi, hz0, hz1, hz2⟩ := info_parts hi3
          have HI3 := Lib.hid (And.intro hi (And.intro hz0 (And.intro hz1 hz2)))
          clear hi3 hi hz0 hz1 hz2 hTlen
          go_loopw [4, 65] (fun vo vi wz => ∃ k : Nat, vi = .int .i64 (k : Int) ∧ k ≤ E.length ∧ Adv S S1 W f o (T.drop k ++ past f L') (notQ n q P') w wz ∧ Off S1 0 154 3 (.slice (some ⟨ge, 0, none⟩) E.length cape) E.length (entsC T) wz ∧ Off S1 w.heap.size 3 1 vo (D.length + k) (keysC (D ++ T.take k)) wz ∧ vo.ownBlock ≠ some ge) (fun _ vi _ => E.length - (intOf vi).toNat)
          case atStart => exact ⟨0, rfl, by omega, by rw [List.drop_zero, ← HTL.out]; exact HA4.out, HR4.out, by rw [List.take_zero, List.append_nil]; exact HO4.out, HVG.out⟩
          case round =>
            obtain ⟨k, rfl, hk, hAk, hRk, hOk, hvk⟩ := hrel
            have HAK := Lib.hid hAk
            have HRK := Lib.hid hRk
            have HOK := Lib.hid hOk
            have HVK := Lib.hid hvk
            clear hAk hRk hOk hvk
            by_cases hkl : k < E.length
            · have hkI : (k : Int) < (E.length : Int) := by omega
              obtain ⟨x, hx⟩ : ∃ x, T[k]? = some x := ⟨_, List.getElem?_eq_getElem (by rw [HTN.out]; exact hkl)⟩
              obtain ⟨d0, d1, d2⟩ := row_at HRK.out.1 hx
              have hb5 : Below wr.heap.size wr (wr.alloc (.cells #[.int .i64 x.key, .int .i64 (x.due : Int), .int .i64 (x.ord : Int)] 154)) := (Below.refl _ _).alloc (Nat.le_refl _) _
              have HB5 := Lib.hid hb5
              have HX := Lib.hid hx
              clear hx hb5
              have hdrop : T.drop k = x :: T.drop (k + 1) := by
                obtain ⟨hk2, hx2⟩ := List.getElem?_eq_some_iff.1 HX.out
                rw [← hx2]; exact (List.getElem_cons_drop hk2).symm
              have hb6 : Below wr.heap.size wr (wr.alloc (.cells #[.int .i64 x.key, .int .i64 (x.due : Int), .int .i64 (x.ord : Int)] 154)).drew := HB5.out.drew
              obtain ⟨M6, sm6, sv6, rows6, hw6⟩ := (HAK.out.below hb6).wh
              rw [hdrop, List.cons_append] at hw6
              have hkd : (∀ y ∈ T.drop (k + 1) ++ past f L', y.key ≠ x.key) ∧ (Lit.int .i64 x.key).wf = true := by
                have h1 := HL.out.keys
                have h2 := HL.out.kb x (by rw [HD.out, HTL.out]; exact List.mem_append_right _ (List.mem_append_left _ (List.mem_of_getElem? HX.out)))
                refine ⟨fun y hy => ?_, i64_wf' h2.1 h2.2⟩
                have h3 : ((x :: (T.drop (k + 1) ++ past f L')).map Ent.key).Nodup := by
                  refine h1.sublist (List.Sublist.map _ ?_)
                  rw [HD.out, HTL.out, ← List.cons_append, ← hdrop]
                  have e2 : past f (T ++ past f L') = past f L' := by rw [← HTL.out]
                  rw [e2]
                  exact ((List.drop_sublist k T).append_right _).trans (List.sublist_append_right _ _)
                have h4 := (List.nodup_cons.1 (show (x.key :: (T.drop (k + 1) ++ past f L').map Ent.key).Nodup from h3)).1
                intro e
                exact h4 (by rw [← e]; exact List.mem_map_of_mem hy)
              obtain ⟨w7, hrun, hw7, ho7⟩ := hw6.dropHead hkd.1 hkd.2 0
              have c5 := wh_map hw6.cells
              have hbox : w7.heap[wr.heap.size]? = some (.cells #[.int .i64 x.key, .int .i64 (x.due : Int), .int .i64 (x.ord : Int)] 154 (0, 0)) := by
                have hnS : ¬ S1 wr.heap.size := fun hS => by
                  obtain ⟨M8, sm8, sv8, rows8, hw8⟩ := HAK.out.wh
                  have := hw8.low _ hS
                  omega
                exact (ho7.block wr.heap.size (by simp) hnS).trans (heap_alloc_new wr _)
              have c6 := (cells3 hbox).1.1
              have HO7 := Lib.hid ho7
              have HW7 := Lib.hid hw7
              have HDR := Lib.hid hdrop
              clear hw6 hkd hw7 ho7 hdrop hbox
              go_upto_region 20 with fail
              refine wp_tail 6 (by kernel_rfl) (by kernel_rfl) ?_
              simp only [List.take_succ_cons, List.take_zero, List.drop_succ_cons, List.drop_zero]
              repeat still_step
              refine wpStill_nil ?_
              have HA7 := Lib.hid ((HAK.out.below HB5.out.drew).step (w2 := w7) ⟨⟨M6, sm6, sv6, rows6, HW7.out⟩, HO7.out, fun _ hi => .inl hi⟩)
              have HR7 := Lib.hid ((HRK.out.below HB5.out.drew).step HO7.out (fun _ hi => .inl hi))
              have HOO7 := Lib.hid ((HOK.out.below HB5.out.drew).step HO7.out (fun _ hi => .inl hi))
              have hlen : D.length + k < 1099511627776 := by
                have h6 := congrArg List.length HD.out
                have h8 := congrArg List.length HTL.out
                have h9 := HTN.out
                have h7 := HL.out.len
                rw [List.length_append] at h6 h8
                omega
              have hbs : w.heap.size ≤ w7.heap.size := HA7.out.only.size
              have HBS := Lib.hid hbs
              go_wp2_with (at_builtin; go_must (refine wpList_append_lies _ rfl _ _ 94 (by rfl) w.heap.size 3 i3 (.int .i64 0) 1 8 Tryd.underlying94 HI3.out.1 HI3.out.2.1 HI3.out.2.2.1 HI3.out.2.2.2 (by rfl) (by decide) u4 (D.length + k) (keysC (D ++ T.take k)) (by rfl) (ownsRow_kept HOO7.out.1 (fun g hg => Below.heap_alloc _ _ _ (HOO7.out.1.lt g hg).2)) ⟨w7.heap.size, 0, none⟩ 1 1 [.int .i64 x.key] (by rfl) rfl (World.news_of_block (heap_alloc_new _ _)) (by simp [Value.oneCell']) (by decide) (by unfold maxLen; omega) (by omega) (by simp; exact Nat.le_succ_of_le HBS.out) _ rfl ?_); intro g cap w8 hown8 hgrow8 hat8 hlt8)
              have hb8 : Below w7.heap.size w7 (w7.alloc (.cells #[.int .i64 x.key] 3)) := (Below.refl _ _).alloc (Nat.le_refl _) _
              have hrow8 : ∀ g', u4.ownBlock = some g' → ¬ S1 g' ∧ (g' < w.heap.size → S g') := fun g' hg' => ⟨HOO7.out.2 g' hg', fun hl => by have := (HOO7.out.1.lt g' hg').1; omega⟩
              have HA8 := (HA7.out.below hb8).grown hgrow8 hrow8
              have HR8 := (HR7.out.below hb8).grown hgrow8 (fun g' hg' e => by cases hg'; exact HVK.out e)
              obtain ⟨M8, sm8, sv8, rows8, hw8⟩ := (HA7.out.below hb8).wh
              have hgS : ¬ S1 g ∧ g ≠ ge := by
                rcases hat8 with e | e
                · exact ⟨HOO7.out.2 g e, fun e2 => HVK.out (by rw [e, e2])⟩
                · have e : g = w7.heap.size + 1 := by rw [e]; simp
                  refine ⟨fun hS => ?_, fun e2 => ?_⟩
                  · have := hw8.low g hS
                    have h9 : (w7.alloc (.cells #[.int .i64 x.key] 3)).heap.size = w7.heap.size + 1 := by simp
                    omega
                  · have := (HR7.out.1.lt ge rfl).2; omega
              have hkey : keysC (D ++ T.take k) ++ [.int .i64 x.key] = keysC (D ++ T.take (k + 1)) := by
                rw [take_snoc' HX.out, ← List.append_assoc]
                unfold keysC
                rw [List.map_append (l₂ := [x])]
                rfl
              rw [hkey] at hown8
              have hA9 : Adv S S1 W f o (T.drop (k + 1) ++ past f L') (notQ n q P') w w8 := HA8
              exact ⟨⟨k + 1, by go_num, by omega, hA9, HR8, ⟨hown8, fun g' hg' => by cases hg'; exact hgS.1⟩, fun e => hgS.2 (by cases e; rfl)⟩, by simp [intOf]; omega⟩
            · obtain rfl : k = E.length := by omega
              have HF := Lib.hid (show AdvI S W now o te L w u4 (mu f (notQ n q P')) wr from by
                have h1 := HAK.out
                rw [← HTN.out, List.drop_length, List.nil_append] at h1
                have h2 := HOK.out
                rw [← HTN.out, List.take_length] at h2
                refine ⟨S1, f, past f L', notQ n q P', D ++ T, h1, HPT.out, by rw [List.append_assoc, ← HTL.out]; exact HD.out, fun y hy => ?_, by omega, by omega, by rw [List.length_append]; exact h2, Nat.le_refl _⟩
                rcases List.mem_append.1 hy with hy | hy
                · exact HDD.out y hy
                · have h3 := HEP.out.subset (HTP.out.subset hy)
                  rw [HQS.out, HFI.out.ofQ_due (fun x hx => (HW.out.due x hx).1), HFF.out] at h3
                  have := (mem_upTil.1 h3).2
                  omega)
              have HM := Lib.hid (show mu f (notQ n q P') < gk from by
                have h1 := HFI.out.mu_zero (fun x hx => (HW.out.due x hx).1)
                rw [HFF.out, ← HQS.out] at h1
                have h3 := HMU.out
                omega)
              go_wp2_with fail
              go_roundg (mu f (notQ n q P'))
              case measure => exact HM.out
              case rel => exact HF.out
        · have hlvI : 0 < lv := by omega
          go_wp2_with fail
          have HVG := Lib.hid hvg
          clear hvg hvS
          go_loopw [53] (fun vi wz => ∃ (k : Nat) (S2 : Nat → Prop) (Pk : List Ent), vi = .int .i64 (k : Int) ∧ k ≤ E.length ∧ Adv S S2 W f o L' Pk w wz ∧ Pk.Perm (notQ n q P' ++ E.take k) ∧ Off S2 0 154 3 (.slice (some ⟨ge, 0, none⟩) E.length cape) E.length (entsC E) wz ∧ Off S2 w.heap.size 3 1 u4 D.length (keysC D) wz) (fun vi _ => E.length - (intOf vi).toNat)
          case atStart => exact ⟨0, S1, _, rfl, by omega, HA3.out, by simp, HR3.out, HO3.out⟩
          case round =>
            obtain ⟨k, S2, Pk, rfl, hk, hAk, hPk, hRk, hOk⟩ := hrel
            have HAK := Lib.hid hAk
            have HPK := Lib.hid hPk
            have HRK := Lib.hid hRk
            have HOK := Lib.hid hOk
            clear hAk hPk hRk hOk
            by_cases hkl : k < E.length
            · have hkI : (k : Int) < (E.length : Int) := by omega
              obtain ⟨x, hx⟩ : ∃ x, E[k]? = some x := ⟨_, List.getElem?_eq_getElem hkl⟩
              have hxP : x ∈ P' := (mem_ofQ.1 (HEP.out.subset (List.mem_of_getElem? hx))).1
              have hx2 : f ≤ x.due ∧ x.due ≤ 1099511627776 := ⟨HLE.out x hxP, (HW.out.due x hxP).2⟩
              have HX := Lib.hid hx
              obtain ⟨d0, d1, d2⟩ := row_at HRK.out.1 hx
              have hb4 : Below wr.heap.size wr (wr.alloc (.cells #[.int .i64 x.key, .int .i64 (x.due : Int), .int .i64 (x.ord : Int)] 154)) := (Below.refl _ _).alloc (Nat.le_refl _) _
              have HA4 := Lib.hid (HAK.out.below hb4)
              have HR4 := Lib.hid (HRK.out.below hb4)
              have HO4 := Lib.hid (HOK.out.below hb4)
              have hlen : Pk.length < 1099511627776 := by
                have h1 := HPK.out.length_eq
                have h2 := (ofQ_perm_notQ (now := n) (q := q) P').length_eq
                have h3 := HEP.out.length_eq
                have h4 : (E.take k).length ≤ E.length := by rw [List.length_take]; omega
                have h5 := HPP.out.length_eq
                have h6 := congrArg List.length HD.out
                have h7 := HL.out.len
                rw [List.length_append] at h1 h2 h6
                omega
              obtain ⟨M4, sm4, sv4, rows4, hw4⟩ := HA4.out.wh
              have HLAY := Lib.hid (lay_ok hw4 x hx2 hlen)
              clear hx hw4 hlen hb4
              go_wp2_with (go_at_call 71; refine HLAY.out.mono ?_; rintro e w5 ⟨rfl, S5, sm5, sv5, rows5, hw5, ho5, hs5⟩; have HA5 := Lib.hid (HA4.out.step ⟨⟨M4, sm5, sv5, rows5, hw5⟩, ho5, hs5⟩); have HR5 := Lib.hid (HR4.out.step ho5 hs5); have HO5 := Lib.hid (HO4.out.step ho5 hs5); clear hw5 ho5 hs5)
              have HP5 := Lib.hid (show (x :: Pk).Perm (notQ n q P' ++ E.take (k + 1)) from by
                rw [take_snoc' HX.out, ← List.append_assoc]
                exact ((List.perm_cons x).2 HPK.out).trans (List.perm_append_comm (l₁ := [x])))
              go_roundw
              case rel => exact ⟨k + 1, S5, x :: Pk, by go_num, by omega, HA5.out, HP5.out, HR5.out, HO5.out⟩
              case measure => simp [intOf]; omega
            · obtain rfl : k = E.length := by omega
              have HPE := Lib.hid (show Pk.Perm P' from HPK.out.trans (show (notQ n q P' ++ E.take E.length).Perm P' from by rw [List.take_length]; exact (List.Perm.append_left _ HEP.out).trans (ofQ_perm_notQ P')))
              have HF := Lib.hid (show AdvI S W now o te L w u4 (mu f Pk) wr from ⟨S2, f, L', Pk, D, HAK.out, HPE.out.trans HPP.out, HD.out, HDD.out, by omega, by omega, HOK.out, Nat.le_refl _⟩)
              have HM := Lib.hid (show mu f Pk < gk from by
                have h1 := mu_perm (now := f) HPE.out
                have h2 := HFI.out.mu_down (fun x hx => (HW.out.due x hx).1) (by omega)
                rw [HFF.out] at h2
                have h3 := HMU.out
                omega)
              go_wp2_with fail
              go_roundg (mu f Pk)
              case measure => exact HM.out
              case rel => exact HF.out
end Go.Proofs.YtpbknbnhljjjcaaDoor
