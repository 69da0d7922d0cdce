import Derived.Test.YtladjipicifplaaE4
namespace Go.Proofs.Ytladjipicifplaa
open Go.RowKit Go.Shelf
attribute [local go_sem] Oper.semAt_some

theorem box_set5 {W : World} {B : Nat} {u : Value} {t : TypeId} (h : W.heap[B]? = some (.cells #[u] t (0, 0))) (v : Value) : (W.setCell ⟨B, 0, none⟩ v).heap[B]? = some (.cells #[v] t (0, 0)) := by
  simp [World.setCell, Array.getElem?_modify, h]
theorem wpIn_genw5 {F : Fence} {n : Nat} {P : Program} {c : Code} {Q : Exit → Act → World → Prop} {a : Act} (w : World) (h : ∀ W, W = w → c.wpIn F n P Q a W) : c.wpIn F n P Q a w := h w rfl
theorem box_cell5 {W : World} {B : Nat} {v : Value} {t : TypeId} (h : W.heap[B]? = some (.cells #[v] t (0, 0))) : W.cell? ⟨B, 0, none⟩ = some v ∧ W.frozen? ⟨B, 0, none⟩ = false := by
  constructor <;> simp [World.cell?, World.frozen?, h]

theorem quiet_call {F : Fence} {n : Nat} {P : Program} {ops : Array Oper} {C : World → Prop} {Q : Act → Prop} {a : Act} {o : Oper} {rest : List Oper} {v : Value} (ha : o.askedIn F P a C) (hw : Region.wanted o (yielded ops a.tmps) = true)
    (hq : ∀ w, C w → o.quietAtIn F n P a C w v) (h : wpQuietIn F n P ops C Q rest (a.put o.dst v)) : wpQuietIn F n P ops C Q (o :: rest) a := ⟨ha, by rw [if_pos hw]; exact ⟨v, hq, h⟩⟩
theorem keep_below {D : Nat} {o : Obj} {w w' : World} (h : w.heap[D]? = some o) (hb : Below w.heap.size w w') : w'.heap[D]? = some o := (hb.block D (Array.getElem?_eq_some_iff.1 h).1).trans h

set_option maxRecDepth 100000 in
set_option maxHeartbeats 1500000 in
theorem walk_AnchorCounts (a0 : Int) (a1 : Option Addr) (len1 cap1 : Nat) (z1 : List Int) (w : World) (w0 : (Lit.int .u8 a0).wf = true) (w1 : RowIn .u8 w a1 len1 cap1 z1) :
    Calls Try.prog 10 #[.int .u8 a0, .slice a1 len1 cap1] w fun e w' => e = .returned (.bool true) ∧ Below w.heap.size w w' := by
  obtain ⟨r, rfl, _⟩ := u8_nat w0
  obtain ⟨n, hn2⟩ : ∃ n, 2 + r % 39 = n := ⟨_, rfl⟩
  have hnI : (2 : Int) + (r : Int) % 39 = (n : Int) := by omega
  have hn1 : 2 ≤ n := by omega
  have hn3 : n ≤ 40 := by omega
  have HNN := Lib.hid hn2
  have W1 := Lib.hid w1
  have HB := Lib.hid (Below.refl w.heap.size w)
  clear w0 w1 hn2
  refine (callsIn_wide (n := 9)).1 ?_
  refine callsIn_of_wp_marks Try.func10 rfl trivial ?_ rfl
  simp only [Try.ntmps10, List.size_toArray, List.length_cons, List.length_nil, Nat.reduceAdd, Nat.reduceSub, Array.replicate_succ, Array.replicate_zero, List.push_toArray, List.append_toArray, List.nil_append, List.cons_append]
  gi_wp2_with (first
    | (refine ⟨trivial, ?_⟩; gi_at_call 20; refine callsIn_wide.2 ?_; refine (examples12 _).mono ?_; rintro e we ⟨rfl, hB⟩; replace HB := Lib.hid (HB.out.trans (((Below.refl _ w).alloc (Nat.le_refl _) _).trans (hB.mono (by simp)))); have hres := (hB.block w.heap.size (by simp)).trans (World.alloc_heap_new w (.cells #[.bool false] 4)); have HRES := Lib.hid hres; clear hB hres)
    | (refine ⟨trivial, ?_⟩; gi_at_call 31; refine callsIn_wide.2 ?_; refine (some_calls r a1 len1 cap1 z1 w _ HB.out W1.out).mono ?_; rintro e wx ⟨X, a, rfl, hA, hB⟩; rw [HNN.out] at hA; have HA := Lib.hid hA; have hhe := (Array.getElem?_eq_some_iff.1 HRES.out).1; replace HB := Lib.hid (HB.out.trans (hB.mono HB.out.size)); replace HRES := Lib.hid ((hB.block w.heap.size (Array.getElem?_eq_some_iff.1 HRES.out).1).trans HRES.out); clear hA hB)
    | (refine ⟨trivial, ?_⟩; gi_at_call 30; refine (working_in Fence.wide 8 trivial rfl _ _).mono ?_; rintro e w' ⟨rfl, rfl⟩))
  refine wpIn_genw5 _ ?_
  intro W2 hW2
  refine wpIn_gen _ ?_
  intro A hA
  have hL2 : W2.heap[wx.heap.size]? = some (.cells #[.int .i64 (-1)] 3 (0, 0)) := by
    rw [hW2]
    exact ((Below.heap_alloc _ _ _ (by simp; omega)).trans (Below.heap_alloc _ _ _ (by simp))).trans (World.alloc_heap_new wx _)
  have hN2 : W2.heap[wx.heap.size + 1]? = some (.cells #[.int .i64 0] 3 (0, 0)) := by
    have h5 := World.alloc_heap_new (wx.alloc (.cells #[.int .i64 (-1)] 3)) (.cells #[.int .i64 0] 3)
    rw [World.size_alloc] at h5
    rw [hW2]
    exact (Below.heap_alloc _ _ _ (by simp)).trans h5
  have hBx2 : W2.heap[wx.heap.size + 2]? = some (.cells #[.pointer (some ⟨X, 0, none⟩)] 35 (0, 0)) := by
    have h5 := World.alloc_heap_new ((wx.alloc (.cells #[.int .i64 (-1)] 3)).alloc (.cells #[.int .i64 0] 3)) (.cells #[.pointer (some ⟨X, 0, none⟩)] 35)
    rw [World.size_alloc, World.size_alloc, ← hW2] at h5
    exact h5
  have hs2 : W2.heap.size = wx.heap.size + 3 := by rw [hW2]; simp
  have hb2 : Below wx.heap.size wx W2 := by
    rw [hW2]
    exact (((Below.refl _ wx).alloc (Nat.le_refl _) _).alloc (by simp) _).alloc (by simp; omega) _
  clear hW2
  have hroom := HA.out.inv.2
  have hI := HA.out.inv.1
  obtain ⟨L, base, sv, hAt, hBX, hBL, hre, hre1, hre2⟩ := HA.out
  have hXw : X < wx.heap.size := by have := hAt.hX; have := hAt.hb; omega
  have hLw : L < wx.heap.size := by have := hAt.hL; have := hAt.hb; omega
  have hA2 := hAt.below hb2
  have hwl := workTo_len hre1 hre
  rw [← hroom] at hwl
  have hst := working_stops Fence.wide 8 trivial rfl (by omega) (wx.heap.size + 2) X L a (by omega) W2 hBx2 hA2.fields.1 hA2.places (by omega) (by omega)
  have hhx : w.heap.size < wx.heap.size := (Array.getElem?_eq_some_iff.1 HRES.out).1
  have HS2 := Lib.hid hs2
  clear hBX hBL hre hAt hA2 hBx2
  refine wpIn_rangeFunc_ownG (α := Nat) rfl (by omega) (gf := 48) (lb := #[.pointer (some ⟨wx.heap.size + 1 + 1, 0, none⟩)]) (by rw [hA]; rfl) trivial (enters_of Try.func48 (by kernel_rfl) rfl) hst
    (fun h h' => ⟨h'.1.trans h.1, Nat.le_trans h.2 h'.2⟩) (fun W l o o' hl hlo _ _ => ?keep) (Below.refl _ _) (fun _ => rfl)
    (fun pre W => (W.heap[wx.heap.size]? = some (.cells #[.int .i64 (lastOf pre)] 3 (0, 0)) ∧ W.heap[wx.heap.size + 1]? = some (.cells #[.int .i64 (pre.length : Int)] 3 (0, 0))) ∧ Below wx.heap.size wx W)
    (fun c pre W => (c = Code.ret ∧ ∃ (pre' : List Nat) (x : Nat), pre = pre' ++ [x] ∧ (x : Int) ≤ lastOf pre') ∧ Below wx.heap.size wx W)
    (OwnFrom.and ?own (ownFrom_below (Nat.le_refl _) (by omega)))
    (fun c => OwnFrom.and ?ownx (ownFrom_below (Nat.le_refl _) (by omega)))
    ⟨⟨hL2, by simpa using hN2⟩, hb2⟩
    (fun x => { tmps := (A.tmps.setIfInBounds 27 (.int .i64 (x : Int))).setIfInBounds 9 (.int .i64 (x : Int)), defers := [] }) ?assign ?body ?done ?stop
  case keep =>
    exact ⟨(grownBy_putObj' W l o').block _ (by have := (Array.getElem?_eq_some_iff.1 hlo).1; omega) (fun e => by cases e; omega), (grownBy_putObj' W l o').size⟩
  case own =>
    rintro pre A1 B1 row ⟨hv, hv2⟩ hg hr
    exact ⟨(hg.block _ (Array.getElem?_eq_some_iff.1 hv).1 (fun e => by have := (hr _ e.symm).1; omega)).trans hv, (hg.block _ (Array.getElem?_eq_some_iff.1 hv2).1 (fun e => by have := (hr _ e.symm).1; omega)).trans hv2⟩
  case ownx =>
    rintro pre A1 B1 row hs hg hr
    exact hs
  case assign =>
    intro l x W Kc hKc
    subst hA
    clear hs2
    simp only [List.setIfInBounds_toArray, List.set_cons_zero, List.set_cons_succ] at hKc
    gi_wp2
    exact hKc
  case stop =>
    rintro D c pre W hD hsp ⟨⟨rfl, pre', x, rfl, hx⟩, hBW⟩ hKD
    have := lastOf_lt hsp
    omega
  case body =>
    rintro l pre x W ⟨⟨hv, hv2⟩, hBW⟩ hlen
    subst hA
    have hpl : (pre.length : Int) ≤ 65536 := by have := hI.le; omega
    obtain ⟨la, hla⟩ : ∃ la, lastOf pre = la := ⟨_, rfl⟩
    rw [hla] at hv
    have HLA := Lib.hid hla
    have d0 := (box_cell5 hv).1
    have d1 := (box_cell5 hv).2
    have d2 := (box_cell5 hv2).1
    have d3 := (box_cell5 hv2).2
    have hres := (hBW.block w.heap.size hhx).trans HRES.out
    have e0 := (box_cell5 hres).1
    have e1 := (box_cell5 hres).2
    have HBW := Lib.hid hBW
    have HV := Lib.hid hv
    have HV2 := Lib.hid hv2
    clear hs2 hres hla hBW hv hv2 hL2 hN2 hb2 hI hwl
    simp only [List.setIfInBounds_toArray, List.set_cons_zero, List.set_cons_succ]
    by_cases e : (x : Int) ≤ la
    · gi_wp2
      refine ⟨(KeepsOthers.setCell _ _ _).from _, ⟨rfl, pre, x, rfl, by rw [HLA.out]; exact e⟩, HBW.out.trans ⟨rfl, rfl, rfl, by simp [World.setCell], fun b hb => ?_⟩⟩
      by_cases eb : b = w.heap.size
      · subst eb
        have hh := (HBW.out.block w.heap.size hhx).trans HRES.out
        exact (box_set5 hh (.bool false)).trans hh.symm
      · exact (Below.heap_setCell _ _ _ _ eb).trans rfl
    · gi_wp2
      have k1 := box_set5 HV.out (.int .i64 (x : Int))
      have k2 := (Below.heap_setCell W ⟨wx.heap.size, 0, none⟩ (.int .i64 (x : Int)) (wx.heap.size + 1) (by simp)).trans HV2.out
      refine ⟨((KeepsOthers.setCell _ _ _).trans (KeepsOthers.setCell _ _ _)).from _, ⟨?_, by simp [World.setCell]⟩, ⟨?_, ?_⟩, (HBW.out.setCell (p := ⟨wx.heap.size, 0, none⟩) (Nat.le_refl _) _).setCell (p := ⟨wx.heap.size + 1, 0, none⟩) (by simp) _⟩
      · exact (Below.heap_setCell _ _ _ _ (by simp; omega)).trans (Below.heap_setCell _ _ _ _ (by simp; omega))
      · rw [lastOf_snoc]
        exact (Below.heap_setCell _ _ _ _ (by simp)).trans k1
      · have := box_set5 k2 (.int .i64 ((pre.length : Int) + 1))
        simpa using this
  case done =>
    rintro D ys W hD rfl ⟨⟨hv, hv2⟩, hBW⟩ hKD
    subst hA
    rw [hwl] at hv2
    obtain ⟨nw, hnw⟩ : ∃ nw, a.n = nw := ⟨_, rfl⟩
    rw [hnw] at hv2
    have hcN := (box_cell5 hv2).1
    have HL := Lib.hid (HA.out.below hBW)
    have HH := Lib.hid ((hBW.block w.heap.size hhx).trans HRES.out)
    have hD2 : wx.heap.size + 3 ≤ D := by rw [HS2.out] at hD; exact hD
    have HD := Lib.hid hKD
    have HW : Hid (Below w.heap.size w W) := Lib.hid (HB.out.trans (hBW.mono HB.out.size))
    have HNW := Lib.hid (show (a.n : Int) = (nw : Int) from by rw [hnw])
    have HNW2 := Lib.hid hnw
    have p1 : 1 ≤ nw := by rw [← hnw]; exact hI.pos
    have p2 : nw ≤ n := by rw [← hnw, ← hroom]; exact hI.le
    have q1 : decide ((nw : Int) < 1) = false := by simp; omega
    have q2 : ¬ n < nw := by omega
    clear hv hv2 hBW hKD hD hs2 hL2 hN2 hb2 hst hI hwl hnw
    gi_wp2_with fail
    refine wpIn_region_quiet_lit rfl (by kernel_rfl) (by kernel_rfl) ?_
    repeat (gi_big_quiet_step (fail))
    refine quiet_call (v := .int .i64 (nw : Int)) (fun _ _ _ _ => trivial) rfl ?_ ?_
    · rintro _ ⟨nd, rfl⟩
      go_simp
      exact callsIn_wide.2 (Calls.quiet_of_same (lies_len' (HL.out.drewN _) _ HNW.out))
    go_simp
    repeat (gi_big_quiet_step (fail))
    refine wpQuietIn_nil ?_
    intro nq
    have hB := below_drewN W nq
    replace hcN := (hB.cell (p := ⟨wx.heap.size + 1, 0, none⟩) (World.block_lt_of_cell? _ _ hcN)).trans hcN
    replace HL := Lib.hid (HL.out.below hB); replace HH := Lib.hid (keep_below HH.out hB); replace HD := Lib.hid (keep_below HD.out hB); replace HW := Lib.hid (HW.out.trans (hB.mono HW.out.size)); clear hB
    gi_wp2_with fail
    gi_loopw [11] (fun ii wr => ∃ (i : Nat) (b : Anc), ii = .int .i64 (i : Int) ∧ i ≤ n ∧ b.n = i ∧ Lies we.heap.size X n b wr ∧ wr.heap[w.heap.size]? = some (.cells #[.bool false] 4 (0, 0)) ∧ wr.heap[D]? = some (.deferred (some [])) ∧ Below w.heap.size w wr) (fun ii _ => n - (intOf ii).toNat)
    case atStart => exact ⟨nw, a, rfl, p2, HNW2.out, HL.out, HH.out, HD.out, HW.out⟩
    case round =>
      obtain ⟨i, b, rfl, hi, hbn, hL, hh, hd, hW⟩ := hrel
      replace HL := Lib.hid hL
      replace HH := Lib.hid hh
      replace HD := Lib.hid hd
      replace HW := Lib.hid hW
      have hcnt := hL.inv.1.cnt
      rw [hL.inv.2, hbn] at hcnt
      have HBN := Lib.hid hbn
      clear hL hh hd hW hbn
      by_cases hlt : i < n
      · obtain ⟨x, st, hst2⟩ : ∃ x st, b.stack = x :: st := by
          cases e : b.stack with
          | nil => rw [e] at hcnt; simp at hcnt; omega
          | cons x st => exact ⟨x, st, rfl⟩
        have HST := Lib.hid hst2
        have hpop : x < (back b x).room ∧ (back b x).gone x = 0 := by
          obtain ⟨_, _, _, _, _, _, hre', h11, _⟩ := HL.out
          obtain ⟨q1, q2, _, q4, _⟩ := hre'.pop h11 hst2
          exact ⟨by rw [(q1.inv h11).2]; exact q2, q4⟩
        have HPOP := Lib.hid hpop
        have hii : (i : Int) < (n : Int) := by omega
        have hi40 : (i : Int) ≤ 40 := by omega
        have HLEN := Lib.hid (show ((back b x).n : Int) = (i : Int) + 1 from by rw [← HBN.out]; rfl)
        have HBN2 := Lib.hid (show (back b x).n = i + 1 from by rw [← HBN.out]; rfl)
        clear hst2 hpop hcnt
        gi_wp2_with (first
          | (refine ⟨trivial, ?_⟩; gi_at_call 23; refine callsIn_wide.2 ?_; refine (lies_add_k HL.out x st HST.out).mono ?_; rintro e wy ⟨rfl, hL, hB, hK⟩; replace HL := Lib.hid hL; replace HH := Lib.hid ((hB.block w.heap.size hhe).trans HH.out); replace HD := Lib.hid (hK.same D _ HD.out rfl); replace HW := Lib.hid (HW.out.trans (hB.mono (Nat.le_of_lt hhe))); clear hL hB hK)
          | (refine ⟨trivial, ?_⟩; gi_at_call 32; refine callsIn_wide.2 ?_; refine (works_yes HL.out x HPOP.out.1 HPOP.out.2).mono ?_; rintro e wy ⟨rfl, hB⟩; replace HL := Lib.hid (HL.out.below hB); replace HH := Lib.hid (keep_below HH.out hB); replace HD := Lib.hid (keep_below HD.out hB); replace HW := Lib.hid (HW.out.trans (hB.mono HW.out.size)); clear hB)
          | (refine ⟨trivial, ?_⟩; gi_at_call 29; refine callsIn_wide.2 ?_; refine (lies_len' HL.out _ HLEN.out).mono ?_; rintro e wy ⟨rfl, rfl⟩))
        go_roundw
        case rel => exact ⟨i + 1, back b x, by go_num, by omega, HBN2.out, HL.out, HH.out, HD.out, HW.out⟩
        case measure => simp [intOf]; omega
      · obtain rfl : i = n := by omega
        have HST : Hid (b.stack = []) := Lib.hid (List.eq_nil_of_length_eq_zero (by omega))
        have hall : ∀ c, c < i → b.gone c = 0 := by
          intro c hc
          have hI2 := HL.out.inv
          by_cases e : b.gone c = 0
          · exact e
          · have := hI2.1.g1 c (by rw [hI2.2]; exact hc) e
            have := HBN.out
            have := hI2.2
            omega
        have HALL := Lib.hid hall
        clear hcnt hall
        gi_wp2_with (refine ⟨trivial, ?_⟩; gi_at_call 23; refine callsIn_wide.2 ?_; refine (lies_add_full HL.out HST.out).mono ?_; rintro e wy ⟨rfl, rfl⟩)
        gi_loopw [16] (fun ii wr => ∃ (k : Nat) (c : Anc), ii = .int .i64 (k : Int) ∧ k ≤ i ∧ (1 ≤ k ∧ c.n = i - k + 1 ∧ ∀ d, d < i → (c.gone d = 0 ↔ (d = 0 ∨ k ≤ d))) ∧ Lies we.heap.size X i c wr ∧ wr.heap[w.heap.size]? = some (.cells #[.bool false] 4 (0, 0)) ∧ wr.heap[D]? = some (.deferred (some [])) ∧ Below w.heap.size w wr) (fun ii _ => i - (intOf ii).toNat)
        case atStart => exact ⟨1, b, rfl, by omega, ⟨by omega, by have := HBN.out; omega, fun c hc => by rw [HALL.out c hc]; omega⟩, HL.out, HH.out, HD.out, HW.out⟩
        case round =>
          obtain ⟨k, c, rfl, hk, ⟨hk1, hcn, hcg⟩, hL, hh, hd, hW⟩ := hrel
          have HCN := Lib.hid hcn
          have HCG := Lib.hid hcg
          have hrm := hL.inv.2
          have HL := Lib.hid hL
          have HH := Lib.hid hh
          have HD := Lib.hid hd
          have HW := Lib.hid hW
          clear hL hh hd hW hcn hcg
          by_cases hlt : k < i
          · have hg : c.gone k = 0 := (HCG.out k hlt).2 (.inr (Nat.le_refl _))
            have hcn2 : 2 ≤ c.n := by have := HCN.out; omega
            have hkc : k < c.room := by omega
            have hrg : (rem c k).gone k ≠ 0 := by
              show upd c.gone k (c.n - 1) k ≠ 0
              rw [upd_same]; omega
            have hri : Inv (rem c k) := rem_inv HL.out.inv.1 hkc hg hcn2
            obtain ⟨v, hv⟩ := find_all hri k
            have hvk : v ≠ k := fun e => hrg (by have h := hv.low.1; rw [e] at h; exact h)
            have hvk2 : ((v : Int) == (k : Int)) = false := by simp; omega
            have hki : (k : Int) < (i : Int) := by omega
            have hk40 : (k : Int) ≤ 40 := by omega
            have hk0 : (0 : Int) ≤ (k : Int) := by omega
            have HG := Lib.hid hg
            have HV := Lib.hid hv
            have HN2 := Lib.hid hcn2
            have HKC := Lib.hid hkc
            clear hg hv hcn2 hrg hri hvk hkc hrm
            gi_wp2_with (first
              | (refine ⟨trivial, ?_⟩; gi_at_call 25; refine callsIn_wide.2 ?_; refine (lies_remove_k HL.out k HKC.out HG.out HN2.out).mono ?_; rintro e wy ⟨rfl, hL, hB, hK⟩; replace HL := Lib.hid hL; replace HH := Lib.hid ((hB.block w.heap.size hhe).trans HH.out); replace HD := Lib.hid (hK.same D _ HD.out rfl); replace HW := Lib.hid (HW.out.trans (hB.mono (Nat.le_of_lt hhe))); clear hL hB hK)
              | (refine ⟨trivial, ?_⟩; gi_at_call 27; refine callsIn_wide.2 ?_; refine (lies_bucket HL.out k v HV.out).mono ?_; rintro e wy ⟨rfl, hB⟩; replace HL := Lib.hid (HL.out.below hB); replace HH := Lib.hid (keep_below HH.out hB); replace HD := Lib.hid (keep_below HD.out hB); replace HW := Lib.hid (HW.out.trans (hB.mono HW.out.size)); clear hB))
            go_roundw
            case rel =>
              refine ⟨k + 1, rem c k, by go_num, by omega, ⟨by omega, ?_, ?_⟩, HL.out, HH.out, HD.out, HW.out⟩
              · have h1 := HCN.out
                show c.n - 1 = _
                omega
              · intro d hd
                show upd c.gone k (c.n - 1) d = 0 ↔ _
                by_cases e : d = k
                · subst e
                  rw [upd_same]
                  have := HN2.out
                  omega
                · rw [upd_ne _ _ e, HCG.out d hd]
                  omega
            case measure => simp [intOf]; omega
          · obtain rfl : k = i := by omega
            have hk1' : c.n = 1 := by have := HCN.out; omega
            have hg0 : c.gone 0 = 0 := (HCG.out 0 (by omega)).2 (.inl rfl)
            obtain ⟨v, hv⟩ := find_all HL.out.inv.1 99
            have hv0 : v = 0 := by
              have h1 := hv.low
              have h2 := (HCG.out v (by have := h1.2; omega)).1 h1.1
              have := h1.2
              omega
            rw [hv0] at hv
            have HG := Lib.hid hg0
            have HV := Lib.hid hv
            have HN1 := Lib.hid hk1'
            have HR0 : Hid (0 < c.room) := Lib.hid (by omega)
            have hc := (box_cell5 HH.out).1
            have hf := (box_cell5 HH.out).2
            clear hg0 hv hv0 hk1' hrm
            gi_wp2_with (first
              | (refine ⟨trivial, ?_⟩; gi_at_call 25; refine callsIn_wide.2 ?_; refine (lies_remove_state HL.out 0 HR0.out HG.out HN1.out).mono ?_; rintro e wz ⟨rfl, rfl⟩)
              | (refine ⟨trivial, ?_⟩; gi_at_call 27; refine callsIn_wide.2 ?_; refine (lies_bucket HL.out 99 0 HV.out).mono ?_; rintro e wz ⟨rfl, hB⟩; replace hf := (hB.frozen (p := ⟨w.heap.size, 0, none⟩) (World.block_lt_of_cell? _ _ hc)).trans hf; replace hc := (hB.cell (p := ⟨w.heap.size, 0, none⟩) (World.block_lt_of_cell? _ _ hc)).trans hc; replace HL := Lib.hid (HL.out.below hB); replace HH := Lib.hid (keep_below HH.out hB); replace HD := Lib.hid (keep_below HD.out hB); replace HW := Lib.hid (HW.out.trans (hB.mono HW.out.size)); clear hB))
            have hk2 : (wz.setCell ⟨w.heap.size, 0, none⟩ (.bool true)).heap[D]? = some (.deferred (some [])) := (Below.heap_setCell wz ⟨w.heap.size, 0, none⟩ _ D (by simp; omega)).trans HD.out
            have d3 := cell_set_eq (v := Value.bool true) hc
            refine ⟨by simp, .inl ⟨_, _, rfl, run_takeDeferred hk2, ?_⟩⟩
            have d4 := cell_kept d3 (grownBy_putObj' _ D (.deferred none)) (fun r e => by cases e; exact ⟨_, hk2, rfl⟩)
            refine ⟨.bool true, by simp [results, Try.f10, go_sem, d4], rfl, ?_⟩
            exact (HW.out.setCell (p := ⟨w.heap.size, 0, none⟩) (Nat.le_refl _) _).trans (belowK_b (w := w) (Nat.le_refl _) _ D _ _ (by omega) hk2 rfl rfl)
end Go.Proofs.Ytladjipicifplaa
