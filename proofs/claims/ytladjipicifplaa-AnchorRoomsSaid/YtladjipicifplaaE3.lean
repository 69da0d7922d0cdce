import Derived.Test.YtladjipicifplaaE1
namespace Go.Proofs.Ytladjipicifplaa
open Go.RowKit Go.Shelf
attribute [local go_sem] Oper.semAt_some

theorem workTo_new (r k : Nat) (h1 : 1 ≤ k) (h : k ≤ r) : workTo (newAnc r (r - k)) r = List.range k := by
  unfold workTo newAnc
  dsimp only
  rw [show r - (r - k) = k from by omega]
  have e : List.range r = List.range k ++ (List.range (r - k)).map (fun i => k + i) := by
    rw [← List.range_add, show k + (r - k) = r from by omega]
  rw [e, List.filter_append]
  rw [List.filter_eq_self.2 (by intro b hb; have := List.mem_range.1 hb; simp; omega)]
  rw [List.filter_eq_nil_iff.2 (by
    intro b hb
    obtain ⟨i, hi, rfl⟩ := List.mem_map.1 hb
    have := List.mem_range.1 hi
    simp
    omega)]
  simp

theorem box_set {W : World} {B : Nat} {u : Value} {t : TypeId} (h : W.heap[B]? = some (.cells #[u] t (0, 0))) (v : Value) : (W.setCell ⟨B, 0, none⟩ v).heap[B]? = some (.cells #[v] t (0, 0)) := by
  simp [World.setCell, Array.getElem?_modify, h]

theorem wpIn_genw {F : Fence} {n : Nat} {P : Program} {c : Code} {Q : Exit → Act → World → Prop} {a : Act} (w : World) (h : ∀ W, W = w → c.wpIn F n P Q a W) : c.wpIn F n P Q a w := h w rfl

theorem box_cell {W : World} {B : Nat} {v : Value} {t : TypeId} (h : W.heap[B]? = some (.cells #[v] t (0, 0))) : W.cell? ⟨B, 0, none⟩ = some v ∧ W.frozen? ⟨B, 0, none⟩ = false := by
  constructor <;> simp [World.cell?, World.frozen?, h]

set_option maxRecDepth 100000 in
set_option maxHeartbeats 2000000 in
theorem walk_AnchorRooms (a0 : Int) (a1 : Int) (a2 : Int) (w : World) (_w0 : (Lit.int .i64 a0).wf = true) (_w1 : (Lit.int .i64 a1).wf = true) (w2 : (Lit.int .u64 a2).wf = true) :
    Calls Try.prog 11 #[.int .i64 a0, .int .i64 a1, .int .u64 a2] w fun e w' => e = .returned (.bool true) ∧ Below w.heap.size w w' := by
  obtain ⟨key, rfl, _⟩ := u64_nat w2
  have HB := Lib.hid (Below.refl w.heap.size w)
  clear _w0 _w1 w2
  refine (callsIn_wide (n := 9)).1 ?_
  by_cases h5 : 500 < a0 ∧ a0 ≤ 65536
  case' pos =>
    obtain ⟨h51, h52⟩ := h5
    obtain ⟨rm, hrm⟩ : ∃ rm, a0.tmod 500 = rm := ⟨_, rfl⟩
    have hrl : 0 ≤ rm ∧ rm < 500 := by rw [← hrm, Int.tmod_eq_emod_of_nonneg (by omega)]; omega
  case' neg =>
    generalize a0 = rm at *
    have h51 : 500 < rm → 65536 < rm := by omega
  all_goals
    by_cases hok : 1 ≤ a1 ∧ a1 ≤ rm ∧ rm ≤ 65536
    · obtain ⟨R, rfl⟩ : ∃ R : Nat, rm = (R : Int) := ⟨rm.toNat, by omega⟩
      obtain ⟨K, rfl⟩ : ∃ K : Nat, a1 = (K : Int) := ⟨a1.toNat, by omega⟩
      have hk1 : 1 ≤ K := by omega
      have hk2 : K ≤ R := by omega
      have hk3 : R ≤ 65536 := by omega
      have g1 : ¬ (R : Int) < 1 := by omega
      have g2 : ¬ 65536 < (R : Int) := by omega
      have g3 : ¬ (K : Int) < 1 := by omega
      have g4 : ¬ (R : Int) < (K : Int) := by omega
      clear hok
      refine callsIn_of_wp_marks Try.func11 rfl trivial ?_ rfl
      simp only [Try.ntmps11, List.size_toArray, List.length_cons, List.length_nil, Nat.reduceAdd, Nat.reduceSub, Array.replicate_succ, Array.replicate_zero, List.push_toArray, List.append_toArray, List.nil_append, List.cons_append]
      gi_wp2_with (first
        | (refine ⟨trivial, ?_⟩; gi_at_call 20; refine callsIn_wide.2 ?_; refine (examples12 _).mono ?_; rintro e wx ⟨rfl, hB⟩; replace HB := Lib.hid (HB.out.trans (((Below.refl _ w).alloc (Nat.le_refl _) _).trans (hB.mono (by simp)))); have hres := (hB.block w.heap.size (by simp)).trans (World.alloc_heap_new w (.cells #[.bool false] 4)); have HRES := Lib.hid hres; have hc0 := (box_cell hres).1; have hf0 := (box_cell hres).2; clear hB hres)
        | (refine ⟨trivial, ?_⟩; gi_at_call 21; refine callsIn_wide.2 ?_; refine (lies_new R K _ hk1 hk2 hk3).mono ?_; rintro e wx ⟨X, rfl, hA, hB⟩; have HA := Lib.hid (hA.mono HB.out.size); replace HB := Lib.hid (HB.out.trans (hB.mono HB.out.size)); replace HRES := Lib.hid ((hB.block w.heap.size (Array.getElem?_eq_some_iff.1 HRES.out).1).trans HRES.out); clear hA hB hc0 hf0)
        | (refine ⟨trivial, ?_⟩; gi_at_call 30; refine (working_in Fence.wide 8 trivial rfl _ _).mono ?_; rintro e w' ⟨rfl, rfl⟩))
      refine wpIn_genw _ ?_
      intro W2 hW2
      refine wpIn_gen _ ?_
      intro A hA
      have hK2 : W2.heap[wx.heap.size]? = some (.cells #[.int .i64 0] 3 (0, 0)) := by
        rw [hW2]
        exact (Below.heap_alloc _ _ _ (by simp)).trans (World.alloc_heap_new wx _)
      have hBx2 : W2.heap[wx.heap.size + 1]? = some (.cells #[.pointer (some ⟨X, 0, none⟩)] 35 (0, 0)) := by
        have h5 := World.alloc_heap_new (wx.alloc (.cells #[.int .i64 0] 3)) (.cells #[.pointer (some ⟨X, 0, none⟩)] 35)
        rw [World.size_alloc, ← hW2] at h5
        exact h5
      have hs2 : W2.heap.size = wx.heap.size + 2 := by rw [hW2]; simp
      have hb2 : Below wx.heap.size wx W2 := by
        rw [hW2]
        exact ((Below.refl _ wx).alloc (Nat.le_refl _) _).alloc (by simp) _
      clear hW2
      have hroom := HA.out.inv.2
      obtain ⟨L, base, sv, hAt, hBX, hBL, hre, _, _⟩ := HA.out
      have hXw : X < wx.heap.size := by have := hAt.hX; have := hAt.hb; omega
      have hLw : L < wx.heap.size := by have := hAt.hL; have := hAt.hb; omega
      have hA2 := hAt.below hb2
      have hwk : workTo (newAnc R (R - K)) (newAnc R (R - K)).room = List.range K := workTo_new R K hk1 hk2
      have hst := working_stops Fence.wide 8 trivial rfl (by omega) (wx.heap.size + 1) X L (newAnc R (R - K)) (by rw [hroom]; omega) W2 hBx2 hA2.fields.1 hA2.places (by omega) (by omega)
      rw [hwk, List.length_range] at hst
      have hhx : w.heap.size < wx.heap.size := (Array.getElem?_eq_some_iff.1 HRES.out).1
      have HS2 := Lib.hid hs2
      clear hBX hBL hre hAt hA2 hBx2
      refine wpIn_rangeFunc_ownG (α := Nat) rfl (by omega) (gf := 48) (lb := #[.pointer (some ⟨wx.heap.size + 1, 0, none⟩)]) (by rw [hA]; rfl) trivial (enters_of Try.func48 (by kernel_rfl) rfl) hst
        (fun h h' => ⟨h'.1.trans h.1, Nat.le_trans h.2 h'.2⟩) (fun W l o o' hl hlo _ _ => ?keep) (Below.refl _ _) (fun _ => rfl)
        (fun pre W => W.heap[wx.heap.size]? = some (.cells #[.int .i64 (pre.length : Int)] 3 (0, 0)) ∧ Below wx.heap.size wx W)
        (fun c pre W => (c = Code.ret ∧ ∃ pre' x, pre = pre' ++ [x] ∧ x ≠ pre'.length) ∧ Below wx.heap.size wx W)
        (OwnFrom.and ?own (ownFrom_below (Nat.le_refl _) (by omega)))
        (fun c => OwnFrom.and ?ownx (ownFrom_below (Nat.le_refl _) (by omega)))
        ⟨by simpa using hK2, hb2⟩
        (fun x => { tmps := (A.tmps.setIfInBounds 62 (.int .i64 (x : Int))).setIfInBounds 11 (.int .i64 (x : Int)), defers := [] }) ?assign ?body ?done ?stop
      case keep =>
        exact ⟨(grownBy_putObj' W l o').block _ (by have := (Array.getElem?_eq_some_iff.1 hlo).1; omega) (fun e => by cases e; omega), (grownBy_putObj' W l o').size⟩
      case own =>
        rintro pre A1 B1 row hv hg hr
        exact (hg.block _ (Array.getElem?_eq_some_iff.1 hv).1 (fun e => by have := (hr _ e.symm).1; omega)).trans hv
      case ownx =>
        rintro pre A1 B1 row hs hg hr
        exact hs
      case assign =>
        intro l x W Kc hKc
        subst hA
        clear hs2
        simp only [List.setIfInBounds_toArray, List.set_cons_zero, List.set_cons_succ] at hKc
        gi_wp2
        exact hKc
      case body =>
        rintro l pre x W ⟨hv, hBW⟩ hlen
        subst hA
        have d0 := (box_cell hv).1
        have d1 := (box_cell hv).2
        have hres := (hBW.block w.heap.size hhx).trans HRES.out
        have e0 := (box_cell hres).1
        have e1 := (box_cell hres).2
        have hpl : (pre.length : Int) ≤ 65536 := by omega
        clear hs2 hres
        simp only [List.setIfInBounds_toArray, List.set_cons_zero, List.set_cons_succ]
        by_cases e : x = pre.length
        · subst e
          have HBW := Lib.hid hBW
          have HV := Lib.hid hv
          clear hBW hv
          gi_wp2
          refine ⟨(KeepsOthers.setCell _ _ _).from _, ⟨Below.heap_setCell _ _ _ _ (by simp; omega), by simp [World.setCell]⟩, ?_, HBW.out.setCell (p := ⟨wx.heap.size, 0, none⟩) (Nat.le_refl _) _⟩
          have := box_set HV.out (.int .i64 ((pre.length : Int) + 1))
          simpa using this
        · have E := Lib.hid e
          have e2 : ((x : Int) == (pre.length : Int)) = false := by simp; omega
          have HBW := Lib.hid hBW
          clear hBW hv e
          gi_wp2
          refine ⟨(KeepsOthers.setCell _ _ _).from _, ⟨rfl, pre, x, rfl, E.out⟩, HBW.out.trans ⟨rfl, rfl, rfl, by simp [World.setCell], fun b hb => ?_⟩⟩
          by_cases eb : b = w.heap.size
          · subst eb
            have hh := (HBW.out.block w.heap.size hhx).trans HRES.out
            exact (box_set hh (.bool false)).trans hh.symm
          · exact (Below.heap_setCell _ _ _ _ eb).trans rfl
      case stop =>
        rintro D c pre W hD hsp ⟨⟨rfl, pre', x, rfl, hx⟩, hBW⟩ hKD
        exfalso
        have h1 := hsp.length_le
        simp at h1
        have h2 := hsp.getElem (i := pre'.length) (by simp)
        simp at h2
        exact hx h2
      case done =>
        rintro D ys W hD rfl ⟨hv, hBW⟩ hKD
        subst hA
        have hcN := (box_cell hv).1
        rw [List.length_range] at hcN
        have hres := (hBW.block w.heap.size hhx).trans HRES.out
        have hc := (box_cell hres).1
        have hf := (box_cell hres).2
        have HL := Lib.hid (HA.out.below hBW)
        obtain ⟨bu, hbu⟩ := find_all HA.out.inv.1 key
        have HF := Lib.hid hbu
        have hD2 : wx.heap.size + 2 ≤ D := by rw [HS2.out] at hD; exact hD
        have HKD := Lib.hid hKD
        have HW := Lib.hid hBW
        have ST := Stage.mk 0
        have hbK : bu < K := by
          have h1 := hbu.low
          have h2 : (if R - (R - K) ≤ bu ∧ bu < R then bu else 0) = 0 := h1.1
          have h3 : bu < R := by have := h1.2; rw [hroom] at this; exact this
          by_cases e : K ≤ bu
          · rw [if_pos ⟨by omega, h3⟩] at h2; omega
          · omega
        have b1 : (0 : Int) ≤ (bu : Int) := by omega
        have b2 : (bu : Int) < (K : Int) := by omega
        have HN := Lib.hid (show ((newAnc R (R - K)).n : Int) = (K : Int) from by show ((R - (R - K) : Nat) : Int) = _; omega)
        have HG : Hid ((K : Int) < 0 ∨ ((newAnc R (R - K)).room : Int) ≤ (K : Int) ∨ (newAnc R (R - K)).gone (K : Int).toNat ≠ 0) := Lib.hid (by
          by_cases e : R ≤ K
          · exact .inr (.inl (by show (R : Int) ≤ K; omega))
          · refine .inr (.inr ?_)
            show (if R - (R - K) ≤ (K : Int).toNat ∧ (K : Int).toNat < R then (K : Int).toNat else 0) ≠ 0
            rw [Int.toNat_natCast, if_pos (by omega)]
            omega)
        clear hbu hD hKD hBW hres hv hs2 hK2 hb2 hst hwk hroom
        gi_wp2_with (first
          | (refine ⟨trivial, ?_⟩; gi_at_call 27; refine callsIn_wide.2 ?_; refine (lies_bucket HL.out key bu HF.out).mono ?_; rintro e wy ⟨rfl, hB⟩; replace HL := Lib.hid (HL.out.below hB); replace hcN := (hB.cell (p := ⟨wx.heap.size, 0, none⟩) (World.block_lt_of_cell? _ _ hcN)).trans hcN; replace hf := (hB.frozen (p := ⟨w.heap.size, 0, none⟩) (World.block_lt_of_cell? _ _ hc)).trans hf; replace hc := (hB.cell (p := ⟨w.heap.size, 0, none⟩) (World.block_lt_of_cell? _ _ hc)).trans hc; replace HKD := Lib.hid ((hB.block D (Array.getElem?_eq_some_iff.1 HKD.out).1).trans HKD.out); replace HW := Lib.hid (HW.out.trans (hB.mono HW.out.size)); clear hB)
          | (refine ⟨trivial, ?_⟩; gi_at_call 29; refine callsIn_wide.2 ?_; refine (lies_len' HL.out (K : Int) HN.out).mono ?_; rintro e wy ⟨rfl, rfl⟩)
          | (refine ⟨trivial, ?_⟩; gi_at_call 25; have := (ST : Stage 0); clear this; replace ST := Stage.mk 1; refine callsIn_wide.2 ?_; refine (lies_remove_none HL.out (K : Int) HG.out).mono ?_; rintro e wy ⟨rfl, rfl⟩)
          | (refine ⟨trivial, ?_⟩; gi_at_call 25; have := (ST : Stage 1); clear this; replace ST := Stage.mk 2; refine callsIn_wide.2 ?_; refine (lies_remove_none HL.out (-1) (.inl (by omega))).mono ?_; rintro e wy ⟨rfl, rfl⟩))
        have hk2 : (wy.setCell ⟨w.heap.size, 0, none⟩ (.bool true)).heap[D]? = some (.deferred (some [])) := (Below.heap_setCell wy ⟨w.heap.size, 0, none⟩ _ D (by simp; omega)).trans HKD.out
        have d3 := cell_set_eq (v := Value.bool true) hc
        refine ⟨by simp, .inl ⟨_, _, rfl, run_takeDeferred hk2, ?_⟩⟩
        have d4 := cell_kept d3 (grownBy_putObj' _ D (.deferred none)) (fun r e => by cases e; exact ⟨_, hk2, rfl⟩)
        refine ⟨.bool true, by simp [results, Try.f11, go_sem, d4], rfl, ?_⟩
        exact ((HB.out.trans (HW.out.mono HB.out.size)).setCell (p := ⟨w.heap.size, 0, none⟩) (Nat.le_refl _) _).trans (belowK_b (w := w) (Nat.le_refl _) _ D _ _ (by omega) hk2 rfl rfl)
  
    · have hbad : rm < 1 ∨ 65536 < rm ∨ a1 < 1 ∨ rm < a1 := by omega
      have HBAD := Lib.hid hbad
      clear hbad
      refine callsIn_of_wp_marks Try.func11 rfl trivial ?_ rfl
      simp only [Try.ntmps11, List.size_toArray, List.length_cons, List.length_nil, Nat.reduceAdd, Nat.reduceSub, Array.replicate_succ, Array.replicate_zero, List.push_toArray, List.append_toArray, List.nil_append, List.cons_append]
      gi_wp2_with (first
        | (refine ⟨trivial, ?_⟩; gi_at_call 20; refine callsIn_wide.2 ?_; refine (examples12 _).mono ?_; rintro e wx ⟨rfl, hB⟩; replace HB := Lib.hid (HB.out.trans (((Below.refl _ w).alloc (Nat.le_refl _) _).trans (hB.mono (by simp)))); have hres := (hB.block w.heap.size (by simp)).trans (World.alloc_heap_new w (.cells #[.bool false] 4)); have HRES := Lib.hid hres; have hc0 := (box_cell hres).1; have hf0 := (box_cell hres).2; clear hB hres)
        | (refine ⟨trivial, ?_⟩; gi_at_call 21; refine callsIn_wide.2 ?_; refine (new_bad _ _ _ HBAD.out).mono ?_; rintro e wx ⟨rfl, rfl⟩))
      all_goals
        refine ⟨.bool true, by simp [results, Try.f11, go_sem, cell_set_eq hc0], rfl, HB.out.setCell (p := ⟨w.heap.size, 0, none⟩) (Nat.le_refl _) _⟩
end Go.Proofs.Ytladjipicifplaa
