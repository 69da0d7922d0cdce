import Derived.Test.YtaeiaoldlebhaaaDoorV4
namespace Go.Proofs.YtaeiaoldlebhaaaDoor
open Go.RowKit Go.Shelf Go.Maps Go.Lib
attribute [local go_sem] Oper.semAt_some

set_option maxRecDepth 100000 in
set_option maxHeartbeats 8000000 in
theorem walk_WheelLeaves (a0 : Option Addr) (len0 cap0 : Nat) (z0 : List Int) (a1 : Int) (w : World) (w0 : RowIn .u32 w a0 len0 cap0 z0) (w1 : (Lit.int .u8 a1).wf = true) (hE : TabAt 0 Lib.deBruijn64tab w ∧ 0 < w.heap.size) :
    Calls Tryd.prog 8 #[.slice a0 len0 cap0, .int .u8 a1] w fun e w' => e = .returned (.bool true) ∧ Below w.heap.size w w' := by
  obtain ⟨hT, h0⟩ := hE
  have HT := Lib.hid hT
  have W0 := Lib.hid w0
  have hl0 := w0.len
  unfold maxLen at hl0
  obtain ⟨n8, rfl, hn8⟩ : ∃ n : Nat, a1 = (n : Int) ∧ n < 256 := by
    simp [Lit.wf, IntKind.min, IntKind.max, IntKind.signed, IntKind.bits] at w1
    exact ⟨a1.toNat, by omega, by omega⟩
  clear hT w0 w1
  obtain ⟨n, hn⟩ : ∃ n : Nat, min (len0 : Int) 40 = (n : Int) := ⟨(min (len0 : Int) 40).toNat, by omega⟩
  have hn40 : n ≤ 40 := by omega
  have hnl : n ≤ len0 := by omega
  obtain ⟨T, hTT⟩ : ∃ T : Nat → Nat, T = fun i => 1 + (z0.getD i 0).toNat % 1048576 := ⟨_, rfl⟩
  have HTT := Lib.hid hTT
  clear hTT
  have HB0 := Lib.hid ((Below.refl w.heap.size w).alloc (Nat.le_refl _) (.cells #[.int .u8 (n8 : Int)] 5))
  have HBX := Lib.hid (heap_alloc_new w (.cells #[.int .u8 (n8 : Int)] 5))
  refine calls_of_endsP Tryd.func8 rfl ?_
  simp only [Tryd.ntmps8, List.size_toArray, List.length_cons, List.length_nil, Nat.reduceAdd, Nat.reduceSub, Array.replicate_succ, Array.replicate_zero, List.push_toArray, List.append_toArray, List.nil_append, List.cons_append]
  go_wp2_with fail
  obtain ⟨wb, hwb⟩ : ∃ wb, w.alloc (.cells #[.int .u8 (n8 : Int)] 5) = wb := ⟨_, rfl⟩
  have hsb : w.heap.size < wb.heap.size := by rw [← hwb]; simp
  rw [hwb] at HB0 HBX
  rw [hwb]
  clear hwb
  obtain ⟨b3, hb3⟩ : ∃ b3, w.heap.size = b3 := ⟨_, rfl⟩
  have HB3 := Lib.hid hb3
  rw [hb3] at HBX
  rw [hb3]
  have hb3l : b3 < wb.heap.size := by omega
  clear hb3
  refine (examples16 wb (tab_below HT.out h0 HB0.out) (by omega)).mono ?_
  rintro e wx ⟨rfl, hb⟩
  have HB := Lib.hid (HB0.out.trans (hb.mono (by omega)))
  replace HBX := Lib.hid ((hb.block b3 hb3l).trans HBX.out)
  have hsx : wb.heap.size ≤ wx.heap.size := hb.size
  clear hb
  go_wp2_with fail
  refine (one_new wx.heap.size wx (Nat.le_refl _)).mono ?_
  rintro e wa ⟨W, rfl, hA, hb⟩
  have HA := Lib.hid (hA.guard (.cells #[.pointer (some ⟨W, 0, none⟩)] 24))
  have HBA := Lib.hid (hb.alloc hb.size (.cells #[.pointer (some ⟨W, 0, none⟩)] 24))
  have HB6 := Lib.hid (heap_alloc_new wa (.cells #[.pointer (some ⟨W, 0, none⟩)] 24))
  have hsa : wx.heap.size ≤ wa.heap.size := hb.size
  clear hA hb
  go_wp2_with fail
  obtain ⟨wg, hwg⟩ : ∃ wg, wa.alloc (.cells #[.pointer (some ⟨W, 0, none⟩)] 24) = wg := ⟨_, rfl⟩
  obtain ⟨b6, hb6⟩ : ∃ b6, wa.heap.size = b6 := ⟨_, rfl⟩
  rw [hwg, hb6] at HA HB6
  rw [hwg] at HBA
  rw [hwg, hb6]
  have hb36 : b3 < b6 := by omega
  have hbx6 : wx.heap.size ≤ b6 := by omega
  have HBXG := Lib.hid ((HBA.out.block b3 (by omega)).trans HBX.out)
  clear hwg hb6 hsa
  go_loopw [8] (fun vi wr => ∃ (i : Nat) (L : List Ent), vi = .int .i64 (i : Int) ∧ i ≤ n ∧ OneW wx.heap.size W 0 i L [b6] wr ∧ Arms T i L ∧ wr.heap[b6]? = some (.cells #[.pointer (some ⟨W, 0, none⟩)] 24 (0, 0)) ∧ Below wx.heap.size wx wr) (fun vi _ => n - (intOf vi).toNat)
  case atStart => exact ⟨0, [], rfl, by omega, HA.out, Arms.none T, HB6.out, HBA.out⟩
  case round =>
    obtain ⟨i, L, rfl, hi, hA, hR, h6, hB⟩ := hrel
    clear HA HB6 HBA
    have HA := Lib.hid hA
    have HBA := Lib.hid hB
    have HR := Lib.hid hR
    have HB6 := Lib.hid h6
    have d6 := (box_cell h6).1
    clear hA hB hR h6
    by_cases hlt : i < n
    · obtain ⟨x, rfl, _, _, hc, hw⟩ := W0.out.read (HB.out.trans (HBA.out.mono HB.out.size)) (show i < len0 by omega)
      obtain ⟨m, hm, hm2⟩ := u32_nat hw
      rw [hm] at hc
      have hltI : (i : Int) < (n : Int) := by omega
      have hlI : (i : Int) < (len0 : Int) := by omega
      obtain ⟨t, ht⟩ : ∃ t : Nat, 1 + m % 1048576 = t := ⟨_, rfl⟩
      have hTi := Lib.hid (show T i = t from by rw [HTT.out]; dsimp only; rw [hm, Int.toNat_natCast]; exact ht)
      have ht2 : (1 : Int) + (m : Int) % 1048576 = (t : Int) := by omega
      have ht3 : 0 < t ∧ t ≤ 1048576 := by omega
      have HST := Lib.hid (HR.out.step HA.out.size.2.2)
      rw [hTi.out] at HST
      clear hw hm ht
      go_upto_region 11 with fail
      refine wp_tail 9 (by kernel_rfl) (by kernel_rfl) ?_
      simp only [List.take_succ_cons, List.take_zero, List.drop_succ_cons, List.drop_zero]
      repeat still_step
      refine wpStill_nil ?_
      have e40 : IntKind.i64.wrap (1 + IntKind.i64.wrap ((m : Int).tmod 1048576)) = (t : Int) := by
        rw [Int.tmod_eq_emod_of_nonneg (by omega), wrap_small .i64 (.inl rfl) ((m : Int) % 1048576) (by omega) (by omega), ht2, wrap_small .i64 (.inl rfl) _ (by omega) (by omega)]
      rw [e40]
      have HAD := Lib.hid (HA.out.below ((Below.refl _ _).drew))
      go_wp2_with (go_at_call 17; refine (one_arm HAD.out (k := (i : Int)) (by omega) t (by omega) (by omega) (by omega)).mono ?_; rintro e wc ⟨rfl, hA, hb, hG⟩; have HA2 := Lib.hid hA; have HB2 := Lib.hid ((HBA.out.drew).trans hb); have HG2 := Lib.hid ((hG b6 (by simp)).trans HB6.out); clear hA hb hG)
      go_roundw
      case rel => exact ⟨i + 1, _, by go_num, by omega, HA2.out, HST.out, HG2.out, HB2.out⟩
      case measure => simp [intOf]; omega
    · obtain rfl : n = i := by omega
      have hb6r : b6 < wr.heap.size := (Array.getElem?_eq_some_iff.1 HB6.out).1
      have HW2 := Lib.hid (((Below.refl wr.heap.size wr).alloc (Nat.le_refl _) (.cells #[.slice none 0 0] 30)).alloc (by simp) (.cells #[.int .i64 0] 3))
      have h62 := (HW2.out.block b6 hb6r).trans HB6.out
      have d62 := (box_cell h62).1
      clear d6
      go_wp2_with (go_at_call 28; refine (all28 _ _).mono ?_; rintro e w8 ⟨rfl, rfl⟩)
      refine (wpIn_wide (n := 9)).1 ?_
      refine wpIn_genP _ ?_
      intro w2 hw2
      refine wpIn_genA _ ?_
      intro A hA
      obtain ⟨S, hWl, hSB, hG⟩ := HA.out
      have hS6 := (hG b6 (by simp)).1
      have hb2 : Below wr.heap.size wr w2 := by rw [hw2]; exact HW2.out.alloc (by simp; omega) _
      have hs2 : w2.heap.size = wr.heap.size + 3 := by rw [hw2]; simp
      have h92 : w2.heap[wr.heap.size]? = some (.cells #[.slice none 0 0] 30 (0, 0)) := by
        rw [hw2]
        exact (Below.heap_alloc _ _ _ (by simp; omega)).trans ((Below.heap_alloc _ _ _ (by simp)).trans (heap_alloc_new wr _))
      have h102 : w2.heap[wr.heap.size + 1]? = some (.cells #[.int .i64 0] 3 (0, 0)) := by
        rw [hw2]
        have h5 := heap_alloc_new (wr.alloc (.cells #[.slice none 0 0] 30)) (.cells #[.int .i64 0] 3)
        rw [World.size_alloc] at h5
        exact (Below.heap_alloc _ _ _ (by simp)).trans h5
      have hx2 : w2.heap[wr.heap.size + 1 + 1]? = some (.cells #[.pointer (some ⟨W, 0, none⟩)] 24 (0, 0)) := by
        rw [hw2]
        have h5 := heap_alloc_new ((wr.alloc (.cells #[.slice none 0 0] 30)).alloc (.cells #[.int .i64 0] 3)) (.cells #[.pointer (some ⟨W, 0, none⟩)] 24)
        rw [World.size_alloc, World.size_alloc] at h5
        exact h5
      have hb6w : w2.heap[b6]? = some (.cells #[.pointer (some ⟨W, 0, none⟩)] 24 (0, 0)) := (hb2.block b6 hb6r).trans HB6.out
      have hb3w : w2.heap[b3]? = some (.cells #[.int .u8 (n8 : Int)] 5 (0, 0)) := (hb2.block b3 (by omega)).trans ((HBA.out.block b3 (by omega)).trans HBX.out)
      have hbw : Below w.heap.size w w2 := HB.out.trans ((HBA.out.trans (hb2.mono HA.out.size.1)).mono HB.out.size)
      have hLB : LvB w w2 S b3 b6 wr.heap.size (wr.heap.size + 1) := by
        have h1 := HA.out.size.1
        have h2 := HB.out.size
        have h3 := HB3.out
        exact ⟨fun i hi => by have := hWl.low i hi; omega, by omega, by omega, ⟨fun hS => by have := hSB b3 hS; omega, hS6, fun hS => by have := hWl.low _ hS; omega, fun hS => by have := hWl.low _ hS; omega⟩, by omega, by omega⟩
      have hI0 := LvI.start (S := S) (W := W) hb3w hb6w h92 h102 hbw
      have hWl2 := hWl.below hb2
      have hst := all62_own (B := w2.heap.size + 2) hx2 hWl2 (by omega)
      have hdone : ∀ x ∈ L, 0 < x.due ∧ x.due ≤ 1048576 := fun x hx => by
        obtain ⟨j, _, _, e⟩ := HR.out.mem x hx
        rw [e, HTT.out]
        dsimp only
        omega
      have HST := Lib.hid hst
      have HLB := Lib.hid hLB
      have HI0 := Lib.hid hI0
      have HWL := Lib.hid hWl2
      have HDU := Lib.hid hdone
      have HLN := Lib.hid HR.out.len
      have HSB := Lib.hid hSB
      clear hWl hSB hG hS6 hb2 h92 h102 hx2 hb6w hb3w hbw hLB hI0 hWl2 hst hdone h62 d62 HA HR HBX HBXG
      refine range_own (α := Ent) rfl (by omega) (gf := 62) (lb := #[.pointer (some ⟨wr.heap.size + 1 + 1, 0, none⟩)]) (by rw [hA]; rfl) trivial (enters_of Tryd.func62 (by kernel_rfl) rfl) HST.out
        (fun h h' => h.trans h') (fun W1 o => (KeepB.put (x := w2.heap.size + 1) W1 o).mono (B := w2.heap.size + 2) (Nat.le_refl _) (.inr (by omega))) (Below.refl _ _) (fun _ => rfl)
        (fun pre X => LvI w w2 S b3 b6 wr.heap.size (wr.heap.size + 1) W n8 pre X)
        (fun c pre X => c = .exit 2 ∧ ∃ p x, pre = p ++ [x] ∧ p.length = n8 ∧ LvI w w2 S b3 b6 wr.heap.size (wr.heap.size + 1) W n8 p X)
        (LvI.own HLB.out)
        (fun c s A1 B1 row hs hg hr => by obtain ⟨hc, p, x, h1, h2, h3⟩ := hs; exact ⟨hc, p, x, h1, h2, LvI.own HLB.out p A1 B1 row h3 hg hr⟩)
        HI0.out
        (fun e a' _ => a' = { tmps := ((((A.tmps.setIfInBounds 44 (.int .i64 e.key)).setIfInBounds 45 (.int .i64 (e.due : Int))).setIfInBounds 11 (.int .i64 e.key)).setIfInBounds 12 (.int .i64 (e.due : Int))), defers := [] })
        (fun e a' _ A1 B1 row hs hg hr => hs)
        ?assign ?body ?done ?stop
      case assign =>
        intro l pre x X K hi hK
        have HK := Lib.hid hK
        clear hK
        gi_wp2
        refine HK.out _ _ (KeepsFrom.refl _ _) (KeepB.of_below (Below.refl _ _)) hi ?_
        rw [hA]
        simp
      case body =>
        rintro l pre ⟨k, d, o2⟩ a' X hI rfl hlt hlen hpre
        have hxL : (⟨k, d, o2⟩ : Ent) ∈ L := hpre.subset (by simp)
        have hkb := HWL.out.wh.kb _ hxL
        have hdu := HDU.out _ hxL
        have hup : Up (pre ++ [⟨k, d, o2⟩]) := List.Pairwise.sublist hpre.sublist HWL.out.wh.up
        have hld := lastDue_le hup
        dsimp only at hkb hdu hld
        have HD := Lib.hid (due_whl (k := k) (HWL.out.kept (fun b hb => hI.wheel b hb) hI.size) (i64_wf' hkb.1 hkb.2))
        rw [show dueV k L = .tuple #[.int .i64 (d : Int), .bool true] from by unfold dueV; rw [hasKey_of HWL.out.wh.keys hxL rfl]] at HD
        obtain ⟨v, hv9, hrow⟩ := hI.row
        have hlen40 : pre.length < 41 := by have := HLN.out; omega
        obtain ⟨t, ht⟩ : ∃ t, pre.length = t := ⟨_, rfl⟩
        have ht41 : t < 41 := by omega
        obtain ⟨la, hla⟩ : ∃ la, lastDue pre = la := ⟨_, rfl⟩
        have hvf : ∃ p cap, v = .slice p t cap := by
          rw [ht] at hrow
          rcases hrow.2 with ⟨rfl, e⟩ | ⟨g, cap, cur, rfl, _⟩
          · have : t = 0 := e
            subst this
            exact ⟨none, 0, rfl⟩
          · exact ⟨_, cap, rfl⟩
        obtain ⟨p, cap, rfl⟩ := hvf
        have c6 := (box_cell hI.box6).1
        have HI := Lib.hid hI
        have HV9 := Lib.hid hv9
        rw [ht] at hrow
        have HROW := Lib.hid hrow
        have HT2 := Lib.hid ht
        have HLA := Lib.hid hla
        have hldI : ¬ (d : Int) < (la : Int) := by omega
        have hdd : ((d : Int) != (d : Int)) = false := by simp
        clear hI hv9 hrow hup hxL hpre hlen ht hla hld
        subst hA
        simp only [List.setIfInBounds_toArray, List.set_cons_zero, List.set_cons_succ]
        by_cases h8 : t = n8
        · have h8I : ((t : Int) == (n8 : Int)) = true := by rw [h8]; simp
          gi_wp2_with (first
            | (refine ⟨trivial, ?_⟩; gi_at_call 26; refine (CallsIn.inRound l (callsIn_wide.2 HD.out)).mono ?_; rintro e X1 ⟨rfl, hb⟩; have HIX := Lib.hid (LvI.go HLB.out HI.out hb); have c3 := (box_cell HIX.out.box3).1; have c9 := (box_cell ((hb.block _ (Array.getElem?_eq_some_iff.1 HV9.out).1).trans HV9.out)).1; have c10 := (box_cell HIX.out.box10).1; rw [HLA.out] at c10; have HBX1 := Lib.hid hb; clear c6 hb)
            | fail)
          exact ⟨keepsFrom_below HBX1.out, KeepB.of_below HBX1.out, rfl, pre, _, rfl, HT2.out.trans h8, HIX.out⟩
        · have h8I : ((t : Int) == (n8 : Int)) = false := by
            rw [beq_eq_false_iff_ne]
            omega
          obtain ⟨i0, hi0, hz0, hz1, hz2⟩ := info_parts Tryd.info3
          have HI3 := Lib.hid (And.intro hi0 (And.intro hz0 (And.intro hz1 hz2)))
          clear hi0 hz0 hz1 hz2
          gi_wp2_with (first
            | (refine ⟨trivial, ?_⟩; gi_at_call 26; refine (CallsIn.inRound l (callsIn_wide.2 HD.out)).mono ?_; rintro e X1 ⟨rfl, hb⟩; have HIX := Lib.hid (LvI.go HLB.out HI.out hb); have c3 := (box_cell HIX.out.box3).1; have h9 := (hb.block _ (Array.getElem?_eq_some_iff.1 HV9.out).1).trans HV9.out; have c9 := (box_cell h9).1; have c10 := (box_cell HIX.out.box10).1; have f10 := (box_cell HIX.out.box10).2; rw [HLA.out] at c10; have HBX1 := Lib.hid hb; have HR1 := Lib.hid (leaves_row HLB.out HROW.out hb HI.out.size d (.int .i64 k)); have HNEW := Lib.hid (leaves_new X1 (wr.heap.size + 1) d (.int .i64 k)); have HSZ := Lib.hid (Nat.le_trans HI.out.size hb.size); clear c6 hb h9)
            | (gi_at_builtin; refine wpListIn_append_own _ rfl _ _ 30 rfl w2.heap.size 3 i0 (.int .i64 0) 1 8 Tryd.underlying30 HI3.out.1 HI3.out.2.1 HI3.out.2.2.1 HI3.out.2.2.2 rfl (by decide) (.slice p t cap) t (keysC pre) rfl HR1.out ⟨X1.heap.size, 0, none⟩ 1 1 [.int .i64 k] rfl rfl (World.news_of_block HNEW.out) (by simp [Value.oneCell']) (by unfold maxLen; omega) (by omega) (by rw [World.size_alloc, set_size]; have := HSZ.out; omega) ?_; intro v' X4 hr4 hg4 _; obtain ⟨g4, cap4, rfl, _, _⟩ := hr4.form (Nat.succ_pos t); have HFIN := Lib.hid (LvI.round (x := ⟨k, d, o2⟩) HLB.out HI.out (by have := HI.out.le; have := HT2.out; omega) HV9.out HROW.out HBX1.out hg4 (by rw [HT2.out]; exact hr4)); obtain ⟨c9b, f9b⟩ := leaves_free HLB.out HV9.out HROW.out HBX1.out hg4; clear hr4 hg4))
          exact HFIN.out
      case done =>
        rintro xs X rfl hI hK
        have hpre : xs <+: xs := List.prefix_refl _
        obtain ⟨kk, hkk⟩ : ∃ kk, xs.length = kk := ⟨_, rfl⟩
        have hkk3 : kk ≤ n ∧ (kk = n8 ∨ kk = n) ∧ kk ≤ n8 := by have := HLN.out; have := hI.le; omega
        have hkn3 : kk ≤ n := hkk3.1
        obtain ⟨vr, hv9, hrow⟩ := hI.row
        rw [hkk] at hrow
        obtain ⟨pr, cr, rfl, _, _⟩ := row_form hrow
        have hone := LvI.one (B := wx.heap.size) (D := w2.heap.size) HLB.out hI HWL.out HSB.out ⟨Nat.le_refl _, (Array.getElem?_eq_some_iff.1 hK).1⟩ hrow
        have HBL := Lib.hid hI.below
        have c6 := (box_cell hI.box6).1
        have HOLD := Lib.hid (And.intro hK (And.intro hv9 (And.intro hI.box3 (And.intro hI.box6 hrow))))
        have HONE := Lib.hid hone
        have HPRE := Lib.hid hpre
        have HUP := Lib.hid (show upTil 1048576 xs = xs from upTil_all (fun x hx => (HDU.out x hx).2))
        have HPA := Lib.hid (show past 1048576 xs = [] from past_none (fun x hx => (HDU.out x hx).2))
        have HTX := Lib.hid (tab_below HT.out h0 hI.below)
        have hminI : min (n8 : Int) (n : Int) = (kk : Int) := by omega
        have hkI : ((kk : Int) != (kk : Int)) = false := by simp
        have hnI : ((n : Int) != (n : Int)) = false := by simp
        have hkn : (kk : Int) ≤ (n : Int) := by omega
        have HKK := Lib.hid hkk
        clear hI hv9 hrow hone hK hpre hkk
        subst hA
        go_wp2_with (go_at_call 18; refine (one_adv HONE.out HTX.out (by omega) 1048576 (by omega) 1048576 (by omega) n (by rw [HUP.out]; exact HLN.out)).mono ?_; rintro e X5 ⟨pl, cl, rfl, hA5, hb5, hG5, hr5⟩; rw [HPA.out] at hA5; rw [HUP.out] at hr5; obtain ⟨hD0, h90, h30, h60, hr0⟩ := HOLD.out; have HD5 := Lib.hid ((hG5 _ (by simp)).trans hD0); have h95 := (hG5 wr.heap.size (by simp)).trans h90; have h35 := (hG5 b3 (by simp)).trans h30; have h65 := (hG5 b6 (by simp)).trans h60; have HR5 := Lib.hid (ownsRow_kept hr0 (w' := X5) (fun g e => hG5 g (by simp [e]))); clear c6; have c6 := (box_cell h65).1; have c3 := (box_cell h35).1; have c9 := (box_cell h95).1; have HA5 := Lib.hid hA5; have HL5 := Lib.hid hr5; have HB5 := Lib.hid (HBL.out.trans (hb5.mono HB.out.size)); clear hA5 hb5 hG5 hr5 hD0 h90 h30 h60 hr0 h95 h35 h65)
        have hcut := rowI_cut HL5.out hkn3
        rw [show (keysC xs).take kk = keysC xs from by rw [← HKK.out]; exact keysC_pre HPRE.out, keysC_ints] at hcut
        have hord := HR5.out
        rw [keysC_ints] at hord
        have HNUM := Lib.hid (numbers_same (w := X5.drew) hord hcut (by rw [List.length_map]; exact HKK.out) (by omega))
        have HSL := Lib.hid (row_slice HL5.out hkn3)
        have hsl2 := fun W' => HSL.out W'
        clear hord hcut
        refine wp_tail 4 (by kernel_rfl) (by kernel_rfl) ?_
        simp only [List.take_succ_cons, List.take_zero, List.drop_succ_cons, List.drop_zero]
        repeat still_step
        refine wpStill_nil ?_
        go_wp2_with (first
          | (go_at_call 20; refine HNUM.out.mono ?_; rintro e X6 ⟨rfl, q, rfl⟩)
          | (go_at_call 19; refine (one_len (HA5.out.below (below_drewN (Below.refl _ X5) (1 + q))) 0 rfl).mono ?_; rintro e X7 ⟨rfl, rfl⟩))
        refine ⟨by simp, .inl ⟨_, _, rfl, run_takeDeferred (show (X5.drewN (1 + q)).heap[wr.heap.size + 1 + 1 + 1]? = _ from by have h9 := HD5.out; rw [hs2] at h9; exact h9), ?_⟩⟩
        exact ⟨.bool true, by simp [results, Tryd.f8, go_sem], rfl, (below_drewN HB5.out (1 + q)).trans (belowK_b (w := w) (Nat.le_refl _) _ (wr.heap.size + 1 + 1 + 1) _ _ (by have := HLB.out.ww; omega) (show (X5.drewN (1 + q)).heap[wr.heap.size + 1 + 1 + 1]? = _ from by have h9 := HD5.out; rw [hs2] at h9; exact h9) rfl rfl)⟩
      case stop =>
        rintro c pq X hsp ⟨rfl, pp, y, rfl, hl8, hI⟩ hK
        have hpre : pp <+: L := (List.prefix_append pp [y]).trans hsp
        obtain ⟨kk, hkk⟩ : ∃ kk, pp.length = kk := ⟨_, rfl⟩
        have hkk3 : kk ≤ n ∧ (kk = n8 ∨ kk = n) ∧ kk ≤ n8 := by have := HLN.out; have := hpre.length_le; omega
        have hkn3 : kk ≤ n := hkk3.1
        refine wpIn_wide.2 ?_
        clear hsp hl8
        obtain ⟨vr, hv9, hrow⟩ := hI.row
        rw [hkk] at hrow
        obtain ⟨pr, cr, rfl, _, _⟩ := row_form hrow
        have hone := LvI.one (B := wx.heap.size) (D := w2.heap.size) HLB.out hI HWL.out HSB.out ⟨Nat.le_refl _, (Array.getElem?_eq_some_iff.1 hK).1⟩ hrow
        have HBL := Lib.hid hI.below
        have c6 := (box_cell hI.box6).1
        have HOLD := Lib.hid (And.intro hK (And.intro hv9 (And.intro hI.box3 (And.intro hI.box6 hrow))))
        have HONE := Lib.hid hone
        have HPRE := Lib.hid hpre
        have HUP := Lib.hid (show upTil 1048576 L = L from upTil_all (fun x hx => (HDU.out x hx).2))
        have HPA := Lib.hid (show past 1048576 L = [] from past_none (fun x hx => (HDU.out x hx).2))
        have HTX := Lib.hid (tab_below HT.out h0 hI.below)
        have hminI : min (n8 : Int) (n : Int) = (kk : Int) := by omega
        have hkI : ((kk : Int) != (kk : Int)) = false := by simp
        have hnI : ((n : Int) != (n : Int)) = false := by simp
        have hkn : (kk : Int) ≤ (n : Int) := by omega
        have HKK := Lib.hid hkk
        clear hI hv9 hrow hone hK hpre hkk
        subst hA
        go_wp2_with (go_at_call 18; refine (one_adv HONE.out HTX.out (by omega) 1048576 (by omega) 1048576 (by omega) n (by rw [HUP.out]; exact HLN.out)).mono ?_; rintro e X5 ⟨pl, cl, rfl, hA5, hb5, hG5, hr5⟩; rw [HPA.out] at hA5; rw [HUP.out] at hr5; obtain ⟨hD0, h90, h30, h60, hr0⟩ := HOLD.out; have HD5 := Lib.hid ((hG5 _ (by simp)).trans hD0); have h95 := (hG5 wr.heap.size (by simp)).trans h90; have h35 := (hG5 b3 (by simp)).trans h30; have h65 := (hG5 b6 (by simp)).trans h60; have HR5 := Lib.hid (ownsRow_kept hr0 (w' := X5) (fun g e => hG5 g (by simp [e]))); clear c6; have c6 := (box_cell h65).1; have c3 := (box_cell h35).1; have c9 := (box_cell h95).1; have HA5 := Lib.hid hA5; have HL5 := Lib.hid hr5; have HB5 := Lib.hid (HBL.out.trans (hb5.mono HB.out.size)); clear hA5 hb5 hG5 hr5 hD0 h90 h30 h60 hr0 h95 h35 h65)
        have hcut := rowI_cut HL5.out hkn3
        rw [show (keysC L).take kk = keysC pp from by rw [← HKK.out]; exact keysC_pre HPRE.out, keysC_ints] at hcut
        have hord := HR5.out
        rw [keysC_ints] at hord
        have HNUM := Lib.hid (numbers_same (w := X5.drew) hord hcut (by rw [List.length_map]; exact HKK.out) (by omega))
        have HSL := Lib.hid (row_slice HL5.out hkn3)
        have hsl2 := fun W' => HSL.out W'
        clear hord hcut
        refine wp_tail 4 (by kernel_rfl) (by kernel_rfl) ?_
        simp only [List.take_succ_cons, List.take_zero, List.drop_succ_cons, List.drop_zero]
        repeat still_step
        refine wpStill_nil ?_
        go_wp2_with (first
          | (go_at_call 20; refine HNUM.out.mono ?_; rintro e X6 ⟨rfl, q, rfl⟩)
          | (go_at_call 19; refine (one_len (HA5.out.below (below_drewN (Below.refl _ X5) (1 + q))) 0 rfl).mono ?_; rintro e X7 ⟨rfl, rfl⟩))
        refine ⟨by simp, .inl ⟨_, _, rfl, run_takeDeferred (show (X5.drewN (1 + q)).heap[wr.heap.size + 1 + 1 + 1]? = _ from by have h9 := HD5.out; rw [hs2] at h9; exact h9), ?_⟩⟩
        exact ⟨.bool true, by simp [results, Tryd.f8, go_sem], rfl, (below_drewN HB5.out (1 + q)).trans (belowK_b (w := w) (Nat.le_refl _) _ (wr.heap.size + 1 + 1 + 1) _ _ (by have := HLB.out.ww; omega) (show (X5.drewN (1 + q)).heap[wr.heap.size + 1 + 1 + 1]? = _ from by have h9 := HD5.out; rw [hs2] at h9; exact h9) rfl rfl)⟩
end Go.Proofs.YtaeiaoldlebhaaaDoor
