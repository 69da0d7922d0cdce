import Derived.Test.YtladjipicifplaaHO
namespace Go.Proofs.Ytladjipicifplaa
open Go.RowKit Go.Shelf Go.Maps

theorem new_cell_on (w : World) (v : Value) (t : TypeId) (s : Nat) (hs : w.heap.size = s) : ∀ (j : Nat) (u : Value), [v][j]? = some u → (w.alloc (.cells #[v] t)).cell? ((⟨s, 0, none⟩ : Addr).add j) = some u := by
  subst hs
  exact new_cell w v t
theorem PR.same {d : Prop} {B C Xp N : Nat} {p : Po} {sw : Value} {ws : List Nat} {w : World} (h : PR d B C Xp N p sw ws w) {f : FuncId} {args : Array Value} {R : Ending} (hc : ∀ S, PoolAt B S Xp N p w → Calls Try.prog f args w fun e w' => e = R ∧ Below w.heap.size w w') :
    Calls Try.prog f args w fun e w' => e = R ∧ Below w.heap.size w w' := by
  obtain ⟨S, h1, _⟩ := h
  exact hc S h1
theorem cell_go {w w' : World} {a : Addr} {v : Value} (h : w.cell? a = some v) (hB : Below w.heap.size w w') : w'.cell? a = some v := (hB.cell (World.block_lt_of_cell? _ _ h)).trans h
theorem seqM_zero' : seqM 0 = newPo 16 poKey := by unfold seqM; rfl
set_option maxRecDepth 100000 in
set_option maxHeartbeats 4000000 in
theorem walk_PoolMoves (a0 : Int) (a1 : Int) (a2 : Option Addr) (len2 cap2 : Nat) (z2 : List Int) (w : World) (w0 : (Lit.int .u8 a0).wf = true) (w1 : (Lit.int .u8 a1).wf = true) (w2 : RowIn .u32 w a2 len2 cap2 z2) :
    Calls Try.prog 13 #[.int .u8 a0, .int .u8 a1, .slice a2 len2 cap2] w fun e w' => e = .returned (.bool true) ∧ Below w.heap.size w w' := by
  obtain ⟨m, rfl, hm⟩ := u8_nat w0
  obtain ⟨q, rfl, hq⟩ := u8_nat w1
  have hl1 : len2 ≤ cap2 := w2.len.1
  have hl2 : cap2 ≤ 9223372036854775807 := w2.len.2
  obtain ⟨i0, hi, hz0, hz1, hz2⟩ := info_parts info3
  have HI := Lib.hid (And.intro hi (And.intro hz0 (And.intro hz1 hz2)))
  clear hi hz0 hz1 hz2
  obtain ⟨n, hn2⟩ : ∃ n, 1 + m % 10 = n := ⟨_, rfl⟩
  have hn : (1 : Int) + (m : Int) % 10 = (n : Int) := by omega
  have hn10 : n ≤ 10 := by omega
  have hn1 : 1 ≤ n := by omega
  have W2 := Lib.hid w2
  have HB := Lib.hid (Below.refl w.heap.size w)
  clear w0 w1 w2 hn2 hm
  go_enter Try.func13, Try.ntmps13
  go_wp2_with (first
    | (go_at_call 33; refine (examples13 _).mono ?_; rintro e wx ⟨rfl, hB⟩; replace HB := Lib.hid (below_step HB.out hB); clear hB)
    | (go_at_call 34; refine (one_new 16 (by omega) (by omega) poKey rfl w.heap.size _ HB.out.size).mono ?_; rintro e wa ⟨X, rfl, hA, hB⟩; have HA := Lib.hid hA; replace HB := Lib.hid (below_step HB.out hB); clear hA hB))
  go_loopw [11] (fun i wr => ∃ k : Nat, k ≤ n ∧ i = .int .i64 ((k + 1 : Nat) : Int) ∧ OneP w.heap.size X k (seqM k) wr ∧ Below w.heap.size w wr) (fun i _ => n + 1 - (intOf i).toNat)
  case atStart => exact ⟨0, Nat.zero_le _, rfl, by rw [seqM_zero']; exact HA.out, HB.out⟩
  case round =>
    obtain ⟨k, hk, rfl, hA, hB⟩ := hrel
    have HA := Lib.hid hA
    have HB := Lib.hid hB
    clear hA hB
    obtain ⟨j, hj⟩ : ∃ j, k + 1 = j := ⟨_, rfl⟩
    rw [hj]
    by_cases hlt : k < n
    · have hjn : (j : Int) ≤ (n : Int) := by omega
      go_wp2_with (first
        | (go_at_call 35; refine (one_add HA.out hj (by omega)).mono ?_; rintro e wx ⟨rfl, hA, hB⟩; replace HA := Lib.hid hA; replace HB := Lib.hid (HB.out.trans hB); clear hA hB))
      subst hj
      exact ⟨⟨k + 1, by omega, by simp, HA.out, HB.out⟩, by simp [intOf]; omega⟩
    · obtain rfl : k = n := by omega
      have hjn : ¬ (j : Int) ≤ (k : Int) := by omega
      obtain ⟨K, hK1⟩ : ∃ K, q % k = K := ⟨_, rfl⟩
      have hK2 : (q : Int) % (k : Int) = (K : Int) := by rw [← hK1, Int.natCast_emod]
      have hK3 : K < k := by rw [← hK1]; exact Nat.mod_lt _ (by omega)
      obtain ⟨kk, hkk⟩ : ∃ kk, 1 + K = kk := ⟨_, rfl⟩
      have hkk2 : (1 : Int) + (K : Int) = (kk : Int) := by omega
      obtain ⟨P2, P3, P4, hmv⟩ := moves_all k kk hn1 hn10 (by omega) (by omega)
      obtain ⟨P, hP⟩ : ∃ P, seqM k = P := ⟨_, rfl⟩
      rw [hP] at HA hmv
      have HM := Lib.hid hmv
      clear hmv hK1 hP
      go_wp2_with fail
      case' inl h =>
        obtain ⟨M, hMd⟩ : ∃ M : Nat, M = 60 := ⟨_, rfl⟩
        have e60 : Value.slice a2 60 cap2 = Value.slice a2 M cap2 := by rw [hMd]
        rw [e60]
        have hM1 : M ≤ 60 := by omega
        have hM2 : M ≤ len2 := by omega
        clear hMd h e60
      case' inr h =>
        generalize hMd : len2 = M
        have hM1 : M ≤ 60 := by omega
        have hM2 : M ≤ len2 := by omega
        clear hMd h
      all_goals
        obtain ⟨R, hR⟩ : ∃ R : Nat → Nat, ∀ i, PickId P (cliK (z2.getD i 0).toNat) (R i : Int) := ⟨fun i => (HM.out.pick _).choose, fun i => (HM.out.pick _).choose_spec⟩
        have HR := Lib.hid hR
        clear hR
        have HT := Lib.hid (PR.start HA.out)
        have hCw : w.heap.size ≤ wr.heap.size := HB.out.size
        generalize hC : wr.heap.size = C at *
        clear hC
        go_loopw [12, 13] (fun sw i wr => ∃ t : Nat, t ≤ M ∧ i = .int .i64 (t : Int) ∧ PR True w.heap.size C X k P sw ((List.range t).map R) wr ∧ Below w.heap.size w wr) (fun _ i _ => M - (intOf i).toNat)
        case atStart => exact ⟨0, Nat.zero_le _, rfl, HT.out, HB.out⟩
        case round =>
          obtain ⟨t, ht, rfl, hT, hB⟩ := hrel
          have HT := Lib.hid hT
          have HB := Lib.hid hB
          clear hT hB
          by_cases hlt : t < M
          · obtain ⟨x, rfl, _, _, hx, hwf⟩ := W2.out.read HB.out (i := t) (by omega)
            obtain ⟨v, hz, hv⟩ := u32_nat hwf
            rw [hz] at hx
            have hp := HR.out t
            rw [hz, Int.toNat_natCast] at hp
            have hrg := HM.out.range _ _ hp
            obtain ⟨s2, s3, hsay⟩ := pick_says HM.out.g HM.out.key v hv hp
            have HSAY := Lib.hid hsay
            have c1 : ¬ (R t : Int) < 1 := by omega
            have c2 : ¬ (k : Int) < (R t : Int) := by omega
            have ht60 : (t : Int) < 60 := by omega
            have htM : (t : Int) < (M : Int) := by omega
            clear hp hsay hwf hz hrg
            go_wp2_with (first
              | (go_at_call 38; refine (tuple_ok v hv _).mono ?_; rintro e wt ⟨rfl, hB⟩; replace HT := Lib.hid (HT.out.below hB); replace HB := Lib.hid (below_step HB.out hB); clear hB)
              | (go_at_call 37; refine (HT.out.says HSAY.out).mono ?_; rintro e wx ⟨rfl, hB⟩; replace HT := Lib.hid (HT.out.below hB); replace HB := Lib.hid (below_step HB.out hB); clear hB)
              | (at_builtin; have HT2 := HT.out.below ((Below.refl _ wx).alloc (Nat.le_refl _) (.cells #[.int .i64 (R t : Int), .int .u32 s2, .int .i64 s3] 71)); have HB2 := HB.out.alloc HB.out.size (.cells #[.int .i64 (R t : Int), .int .u32 s2, .int .i64 s3] 71); go_must (refine wpList_append_own _ rfl _ _ 51 rfl C 3 i0 (.int .i64 0) 1 8 Try.underlying51 HI.out.1 HI.out.2.1 HI.out.2.2.1 HI.out.2.2.2 rfl (by decide) _ _ _ rfl (HT2.row.alloc _) ⟨wx.heap.size + 1, 0, none⟩ 1 1 [.int .i64 (R t : Int)] rfl rfl (new_cell_on _ _ _ _ (by simp)) (by simp [Value.oneCell']) (by simp [maxLen]; omega) (by simp; omega) (by have := HT.out.size; simp; omega) ?_); intro v' w1 hown' hgrow _; replace HB := Lib.hid (Below.grown (HB2.trans ((Below.refl _ _).alloc HB2.size _)) hgrow (by have := HB.out.size; simp; omega) (fun g hg => (by have := ((HT.out.row).lt g hg).1; omega))); replace HT := Lib.hid ((HT2.below ((Below.refl _ _).alloc (Nat.le_refl _) _)).append hgrow v' (R t) hown'); clear hown' hgrow HT2 HB2))
            exact ⟨⟨t + 1, by omega, by simp, by rw [List.range_succ, List.map_append]; exact HT.out, HB.out⟩, by simp [intOf]; omega⟩
          · obtain rfl : t = M := by omega
            go_wp2_with (first
              | (go_at_call 36; refine (HT.out.call (fun S hS => HM.out.drain _ S _ _ _ (by unfold maxLen; omega) hS)).mono ?_; rintro e wx ⟨rfl, hT, hB⟩; replace HT := Lib.hid hT; replace HB := Lib.hid (HB.out.trans hB); have ST := Stage.mk 1; clear hT hB)
              | (go_at_call 36; have := (ST : Stage 1); clear this; refine (HT.out.same (fun S hS => HM.out.again _ S _ _ _ hS)).mono ?_; rintro e wx ⟨rfl, hB⟩; replace HT := Lib.hid (HT.out.below hB); replace HB := Lib.hid (below_step HB.out hB); clear hB)
              | (go_at_call 39; refine (HT.out.act _ HM.out.act2).mono ?_; rintro e wu ⟨rfl, rfl⟩))
            clear ST
            go_loopw [17] (fun ii wr => ∃ i : Nat, i ≤ t ∧ ii = .int .i64 (i : Int) ∧ PR False w.heap.size C X (k + 1) P2 u12 ((List.range t).map R) wr ∧ Below w.heap.size w wr) (fun ii _ => t - (intOf ii).toNat)
            case atStart => exact ⟨0, Nat.zero_le _, rfl, HT.out, HB.out⟩
            case round =>
              obtain ⟨i, hi, rfl, hT, hB⟩ := hrel
              have HT := Lib.hid hT
              have HB := Lib.hid hB
              clear hT hB
              by_cases hlt : i < t
              · obtain ⟨x, rfl, _, _, hx, hwf⟩ := W2.out.read HB.out (i := i) (by omega)
                obtain ⟨v, hz, hv⟩ := u32_nat hwf
                rw [hz] at hx
                have hp := HR.out i
                rw [hz, Int.toNat_natCast] at hp
                obtain ⟨g, cap, rfl, hgc, hgm, hgr⟩ := HT.out.read i hlt
                obtain ⟨ri, hri⟩ : ∃ ri, R i = ri := ⟨_, rfl⟩
                rw [hri] at hp hgr
                have hi60 : (i : Int) < 60 := by omega
                have hltc : (i : Int) < (t : Int) := by omega
                by_cases hk1 : k = 1
                · have hsay := HM.out.none2 hk1 v hv
                  have HSAY := Lib.hid hsay
                  have c1 : decide ((1 : Int) < (k : Int)) = false := by simp; omega
                  clear hp hsay hwf hz hri hk1
                  go_upto_region 29 with (first
                    | (go_at_call 38; refine (tuple_ok v hv _).mono ?_; rintro e wt ⟨rfl, hB⟩; replace HT := Lib.hid (HT.out.below hB); replace HB := Lib.hid (below_step HB.out hB); replace hgr := cell_go hgr hB; clear hB)
                    | (go_at_call 37; refine (HT.out.says HSAY.out).mono ?_; rintro e wx ⟨rfl, hB⟩; replace HT := Lib.hid (HT.out.below hB); replace HB := Lib.hid (below_step HB.out hB); replace hgr := cell_go (cell_go hgr hB) ((Below.refl _ wx).alloc (Nat.le_refl _) (.cells #[.int .i64 0, .int .u32 0, .int .i64 0] 71)); clear hB))
                  go_quiet (fail)
                  go_wp2_with fail
                  exact ⟨⟨i + 1, by omega, by simp, (HT.out.below ((Below.refl _ _).alloc (Nat.le_refl _) _)).below (below_drewN _ _), below_step (HB.out.alloc HB.out.size _) (below_drewN _ _)⟩, by simp [intOf]; omega⟩
                · obtain ⟨b, s2, s3, hsay, hbk, hbr⟩ := HM.out.says2 (by omega) v ri hv hp
                  have HSAY := Lib.hid hsay
                  have c1 : (1 : Int) < (k : Int) := by omega
                  have hbk2 : ((b : Int) == (kk : Int)) = false := by simp; omega
                  have hbki : ¬ (b : Int) = (kk : Int) := by omega
                  by_cases hrk : ri = kk
                  case' pos =>
                    subst hrk
                  case' neg =>
                    have hb2 := hbr hrk
                    subst hb2
                    have hrk2 : ((b : Int) == (kk : Int)) = false := by simp; omega
                    clear hrk
                  all_goals
                    clear hp hsay hwf hz hri hbr hbk
                    go_upto_region 29 with (first
                      | (go_at_call 38; refine (tuple_ok v hv _).mono ?_; rintro e wt ⟨rfl, hB⟩; replace HT := Lib.hid (HT.out.below hB); replace HB := Lib.hid (below_step HB.out hB); replace hgr := cell_go hgr hB; clear hB)
                      | (go_at_call 37; refine (HT.out.says HSAY.out).mono ?_; rintro e wx ⟨rfl, hB⟩; replace HT := Lib.hid (HT.out.below hB); replace HB := Lib.hid (below_step HB.out hB); replace hgr := cell_go (cell_go hgr hB) ((Below.refl _ wx).alloc (Nat.le_refl _) (.cells #[.int .i64 (b : Int), .int .u32 s2, .int .i64 s3] 71)); clear hB))
                    go_quiet (fail)
                    go_wp2_with fail
                    exact ⟨⟨i + 1, by omega, by simp, (HT.out.below ((Below.refl _ _).alloc (Nat.le_refl _) _)).below (below_drewN _ _), below_step (HB.out.alloc HB.out.size _) (below_drewN _ _)⟩, by simp [intOf]; omega⟩
              · obtain rfl : i = t := by omega
                go_wp2_with (first
                  | (go_at_call 40; refine (HT.out.call (fun S hS => HM.out.remove _ S _ _ _ hS)).mono ?_; rintro e wx ⟨rfl, hT, hB⟩; replace HT := Lib.hid hT; replace HB := Lib.hid (HB.out.trans hB); clear hT hB)
                  | (go_at_call 35; refine (HT.out.call (fun S hS => HM.out.add _ S _ _ _ (by unfold maxLen; omega) hS)).mono ?_; rintro e wx ⟨rfl, hT, hB⟩; replace HT := Lib.hid hT; replace HB := Lib.hid (HB.out.trans hB); clear hT hB))
                go_loopw [20] (fun ii wr => ∃ s : Nat, s ≤ i ∧ ii = .int .i64 (s : Int) ∧ PR False w.heap.size C X (k + 1 + 1) P4 u12 ((List.range i).map R) wr ∧ Below w.heap.size w wr) (fun ii _ => i - (intOf ii).toNat)
                case atStart => exact ⟨0, Nat.zero_le _, rfl, HT.out, HB.out⟩
                case round =>
                  obtain ⟨s, hs, rfl, hT, hB⟩ := hrel
                  have HT := Lib.hid hT
                  have HB := Lib.hid hB
                  clear hT hB
                  by_cases hlt : s < i
                  · obtain ⟨x, rfl, _, _, hx, hwf⟩ := W2.out.read HB.out (i := s) (by omega)
                    obtain ⟨v, hz, hv⟩ := u32_nat hwf
                    rw [hz] at hx
                    have hp := HR.out s
                    rw [hz, Int.toNat_natCast] at hp
                    obtain ⟨g, cap, rfl, hgc, hgm, hgr⟩ := HT.out.read s hlt
                    obtain ⟨ri, hri⟩ : ∃ ri, R s = ri := ⟨_, rfl⟩
                    rw [hri] at hp hgr
                    have hi60 : (s : Int) < 60 := by omega
                    have hltc : (s : Int) < (i : Int) := by omega
                    obtain ⟨s2, s3, hsay⟩ := HM.out.says4 v ri hv hp
                    have HSAY := Lib.hid hsay
                    clear hp hsay hwf hz hri
                    go_upto_region 37 with (first
                      | (go_at_call 38; refine (tuple_ok v hv _).mono ?_; rintro e wt ⟨rfl, hB⟩; replace HT := Lib.hid (HT.out.below hB); replace HB := Lib.hid (below_step HB.out hB); replace hgr := cell_go hgr hB; clear hB)
                      | (go_at_call 37; refine (HT.out.says HSAY.out).mono ?_; rintro e wx ⟨rfl, hB⟩; replace HT := Lib.hid (HT.out.below hB); replace HB := Lib.hid (below_step HB.out hB); replace hgr := cell_go (cell_go hgr hB) ((Below.refl _ wx).alloc (Nat.le_refl _) (.cells #[.int .i64 (ri : Int), .int .u32 s2, .int .i64 s3] 71)); clear hB))
                    go_quiet (fail)
                    go_wp2_with fail
                    exact ⟨⟨s + 1, by omega, by simp, (HT.out.below ((Below.refl _ _).alloc (Nat.le_refl _) _)).below (below_drewN _ _), below_step (HB.out.alloc HB.out.size _) (below_drewN _ _)⟩, by simp [intOf]; omega⟩
                  · go_wp2_with (go_at_call 39; refine (HT.out.act _ HM.out.act4).mono ?_; rintro e wu ⟨rfl, rfl⟩)
                    go_ret
                    exact ⟨rfl, HB.out⟩
end Go.Proofs.Ytladjipicifplaa
