import Derived.Test.YtladjipicifplaaE1
namespace Go.Proofs.Ytladjipicifplaa
open Go.RowKit Go.Shelf

set_option maxRecDepth 100000 in
set_option maxHeartbeats 1000000 in
theorem walk_AnchorMoves (a0 : Int) (a1 : Option Addr) (len1 cap1 : Nat) (z1 : List Int) (a2 : Int) (a3 : Option Addr) (len3 cap3 : Nat) (z3 : List Int) (w : World) (w0 : (Lit.int .u8 a0).wf = true) (w1 : RowIn .u8 w a1 len1 cap1 z1) (w2 : (Lit.int .u8 a2).wf = true) (w3 : RowIn .u64 w a3 len3 cap3 z3) :
    Calls Try.prog 9 #[.int .u8 a0, .slice a1 len1 cap1, .int .u8 a2, .slice a3 len3 cap3] w fun e w' => e = .returned (.bool true) ∧ Below w.heap.size w w' := by
  obtain ⟨r, rfl, _⟩ := u8_nat w0
  obtain ⟨q, rfl, hq⟩ := u8_nat w2
  have hl1 : len3 ≤ cap3 := w3.len.1
  have hl2 : cap3 ≤ 9223372036854775807 := w3.len.2
  obtain ⟨i0, hi, hz0, hz1, hz2⟩ := info_parts info3
  have HI := Lib.hid (And.intro hi (And.intro hz0 (And.intro hz1 hz2)))
  clear hi hz0 hz1 hz2
  have W1 := Lib.hid w1
  have W3 := Lib.hid w3
  have HB := Lib.hid (Below.refl w.heap.size w)
  clear w0 w1 w2 w3
  go_enter Try.func9, Try.ntmps9
  go_wp2_with (first
    | (go_at_call 20; refine (examples12 _).mono ?_; rintro e wx ⟨rfl, hB⟩; replace HB := Lib.hid (below_step HB.out hB); clear hB)
    | (go_at_call 31; refine (some_calls r a1 len1 cap1 z1 w _ HB.out W1.out).mono ?_; rintro e wx ⟨X, a, rfl, hA, hB⟩; have HA := Lib.hid (Two.start (hA.mono HB.out.size)); replace HB := Lib.hid (below_step HB.out hB); clear hA hB))
  case' inl h =>
    generalize hM : (60 : Nat) = M
    have hM1 : M ≤ 60 := by omega
    have hM2 : M ≤ len3 := by omega
    clear hM h
  case' inr h =>
    generalize hM : len3 = M
    have hM1 : M ≤ 60 := by omega
    have hM2 : M ≤ len3 := by omega
    clear hM h
  all_goals
    obtain ⟨R, hR⟩ : ∃ R : Nat → Nat, ∀ i, Find a (z3.getD i 0).toNat (drawN (z3.getD i 0).toNat a.room a.room) (R i) := ⟨fun i => (find_all HA.out.lies.inv.1 (z3.getD i 0).toNat).choose, fun i => (find_all HA.out.lies.inv.1 (z3.getD i 0).toNat).choose_spec⟩
    have HR := Lib.hid hR
    clear hR
    have hCw : w.heap.size ≤ wx.heap.size := HB.out.size
    generalize hC : wx.heap.size = C at *
    clear hC
    go_loopw [11, 12] (fun sw i wr => ∃ j : Nat, j ≤ M ∧ i = .int .i64 (j : Int) ∧ Two True w.heap.size C X (2 + r % 39) a sw ((List.range j).map R) wr ∧ Below w.heap.size w wr) (fun _ i _ => M - (intOf i).toNat)
    case atStart => exact ⟨0, Nat.zero_le _, rfl, HA.out, HB.out⟩
    case round =>
      obtain ⟨j, hj, rfl, hT, hB⟩ := hrel
      have HT := Lib.hid hT
      have HB := Lib.hid hB
      clear hT hB
      by_cases hlt : j < M
      · obtain ⟨x, rfl, _, _, hx, hwf⟩ := W3.out.read HB.out (i := j) (by omega)
        obtain ⟨k, hk, _⟩ := u64_nat hwf
        have hf := HR.out j
        rw [hk, Int.toNat_natCast] at hf
        rw [hk] at hx
        have HF := Lib.hid hf
        have hj60 : (j : Int) < 60 := by omega
        clear hf hwf hk
        go_wp2_with (first
          | (go_at_call 27; refine (lies_bucket HT.out.lies k (R j) HF.out).mono ?_; rintro e wx ⟨rfl, hB⟩; replace HT := Lib.hid (HT.out.below hB); replace HB := Lib.hid (below_step HB.out hB); clear hB)
          | (go_at_call 32; refine (works_yes HT.out.lies (R j) HF.out.low.2 HF.out.low.1).mono ?_; rintro e wx ⟨rfl, hB⟩; replace HT := Lib.hid (HT.out.below hB); replace HB := Lib.hid (below_step HB.out hB); clear hB)
          | (at_builtin; go_must (refine wpList_append_own _ rfl _ _ 51 rfl C 3 i0 (.int .i64 0) 1 8 Try.underlying51 HI.out.1 HI.out.2.1 HI.out.2.2.1 HI.out.2.2.2 rfl (by decide) _ _ _ rfl (HT.out.row.alloc _) ⟨wx.heap.size, 0, none⟩ 1 1 [.int .i64 (R j : Int)] rfl rfl (new_cell _ _ _) (by simp [Value.oneCell']) (by simp [maxLen]; omega) (by simp; omega) (by have := HT.out.size; simp; omega) ?_); intro v' w1 hown' hgrow _; replace HB := Lib.hid (Below.grown (HB.out.trans ((Below.refl _ _).alloc HB.out.size _)) hgrow (by have := HB.out.size; simp; omega) (fun g hg => (by have := ((HT.out.row).lt g hg).1; omega))); replace HT := Lib.hid ((HT.out.below ((Below.refl _ _).alloc (Nat.le_refl _) _)).append hgrow v' (R j) hown'); clear hown' hgrow))
        go_roundw
        case rel => exact ⟨j + 1, by omega, by go_num, by rw [List.range_succ, List.map_append]; exact HT.out, HB.out⟩
        case measure => simp [intOf]; omega
      · obtain rfl : j = M := by omega
        obtain ⟨k, hkd⟩ : ∃ k, q % (2 + r % 39) = k := ⟨_, rfl⟩
        have hk : (q : Int) % (2 + (r : Int) % 39) = (k : Int) := by rw [← hkd, Int.natCast_emod, Int.natCast_add, Int.natCast_emod]; rfl
        have hkr : k < a.room := by rw [HT.out.lies.inv.2, ← hkd]; exact Nat.mod_lt _ (by omega)
        clear hkd
        by_cases hg : a.gone k ≠ 0
        · have HG := Lib.hid hg
          clear hg
          go_wp2_with (go_at_call 25; refine (lies_remove_none HT.out.lies (k : Int) (.inr (.inr (by simpa using HG.out)))).mono ?_; rintro e wx ⟨rfl, rfl⟩)
          go_loopw [16] (fun ii wr => ∃ i : Nat, i ≤ j ∧ ii = .int .i64 (i : Int) ∧ Two True w.heap.size C X (2 + r % 39) a u11 ((List.range j).map R) wr ∧ Below w.heap.size w wr) (fun ii _ => j - (intOf ii).toNat)
          case atStart => exact ⟨0, Nat.zero_le _, rfl, HT.out, HB.out⟩
          case round =>
            obtain ⟨i, hi, rfl, hT, hB⟩ := hrel
            have HT := Lib.hid hT
            have HB := Lib.hid hB
            clear hT hB
            by_cases hlt : i < j
            · obtain ⟨x, rfl, _, _, hx, hwf⟩ := W3.out.read HB.out (i := i) (by omega)
              obtain ⟨v, hv, _⟩ := u64_nat hwf
              have hf := HR.out i
              rw [hv, Int.toNat_natCast] at hf
              rw [hv] at hx
              obtain ⟨g, cap, rfl, hgc, hgm, hgr⟩ := HT.out.read' i hlt
              obtain ⟨ri, hri⟩ : ∃ ri, R i = ri := ⟨_, rfl⟩
              rw [hri] at hf hgr
              have HF := Lib.hid hf
              have hi60 : (i : Int) < 60 := by omega
              have hltc : (i : Int) < (j : Int) := by omega
              clear hf hwf hv hri
              by_cases hrk : ri = k
              case' pos => subst hrk
              case' neg =>
                have hrk2 : ((ri : Int) == (k : Int)) = false := by simp; omega
                clear hrk
              all_goals
                go_wp2_with (first
                  | (go_at_call 27; refine (lies_bucket HT.out.lies v ri HF.out).mono ?_; rintro e wx ⟨rfl, hB⟩; replace HT := Lib.hid (HT.out.below hB); replace hgr := (World.cell?_of_block (w := wr) (a := ⟨g, i, none⟩) (hB.block g (World.block_lt_of_cell? _ _ hgr))).trans hgr; replace HB := Lib.hid (below_step HB.out hB); clear hB)
                  | (go_at_call 32; refine (works_yes HT.out.lies ri HF.out.low.2 HF.out.low.1).mono ?_; rintro e wx ⟨rfl, hB⟩; replace HT := Lib.hid (HT.out.below hB); replace hgr := (World.cell?_of_block (w := _) (a := ⟨g, i, none⟩) (hB.block g (World.block_lt_of_cell? _ _ hgr))).trans hgr; replace HB := Lib.hid (below_step HB.out hB); clear hB))
                all_goals go_roundw
                all_goals first | exact ⟨i + 1, by omega, by go_num, HT.out, HB.out⟩ | (simp [intOf]; omega)
            · go_wp2_with (go_at_call 32; refine (works_no HT.out.lies k HG.out).mono ?_; rintro e wx ⟨rfl, hB⟩; replace HB := Lib.hid (below_step HB.out hB); clear hB)
              go_ret
              exact ⟨rfl, HB.out⟩
        · have hg : a.gone k = 0 := by omega
          by_cases hn : a.n = 1
          · have HG := Lib.hid hg
            have HN := Lib.hid hn
            clear hg hn
            go_wp2_with (go_at_call 25; refine (lies_remove_state HT.out.lies k hkr HG.out HN.out).mono ?_; rintro e wx ⟨rfl, rfl⟩)
            go_loopw [16] (fun ii wr => ∃ i : Nat, i ≤ j ∧ ii = .int .i64 (i : Int) ∧ Two True w.heap.size C X (2 + r % 39) a u11 ((List.range j).map R) wr ∧ Below w.heap.size w wr) (fun ii _ => j - (intOf ii).toNat)
            case atStart => exact ⟨0, Nat.zero_le _, rfl, HT.out, HB.out⟩
            case round =>
              obtain ⟨i, hi, rfl, hT, hB⟩ := hrel
              have HT := Lib.hid hT
              have HB := Lib.hid hB
              clear hT hB
              by_cases hlt : i < j
              · obtain ⟨x, rfl, _, _, hx, hwf⟩ := W3.out.read HB.out (i := i) (by omega)
                obtain ⟨v, hv, _⟩ := u64_nat hwf
                have hf := HR.out i
                rw [hv, Int.toNat_natCast] at hf
                rw [hv] at hx
                obtain ⟨g, cap, rfl, hgc, hgm, hgr⟩ := HT.out.read' i hlt
                obtain ⟨ri, hri⟩ : ∃ ri, R i = ri := ⟨_, rfl⟩
                rw [hri] at hf hgr
                have HF := Lib.hid hf
                have hi60 : (i : Int) < 60 := by omega
                have hltc : (i : Int) < (j : Int) := by omega
                clear hf hwf hv hri
                by_cases hrk : ri = k
                case' pos => subst hrk
                case' neg =>
                  have hrk2 : ((ri : Int) == (k : Int)) = false := by simp; omega
                  clear hrk
                all_goals
                  go_wp2_with (first
                    | (go_at_call 27; refine (lies_bucket HT.out.lies v ri HF.out).mono ?_; rintro e wx ⟨rfl, hB⟩; replace HT := Lib.hid (HT.out.below hB); replace hgr := (World.cell?_of_block (w := wr) (a := ⟨g, i, none⟩) (hB.block g (World.block_lt_of_cell? _ _ hgr))).trans hgr; replace HB := Lib.hid (below_step HB.out hB); clear hB)
                    | (go_at_call 32; refine (works_yes HT.out.lies ri HF.out.low.2 HF.out.low.1).mono ?_; rintro e wx ⟨rfl, hB⟩; replace HT := Lib.hid (HT.out.below hB); replace hgr := (World.cell?_of_block (w := _) (a := ⟨g, i, none⟩) (hB.block g (World.block_lt_of_cell? _ _ hgr))).trans hgr; replace HB := Lib.hid (below_step HB.out hB); clear hB))
                  all_goals go_roundw
                  all_goals first | exact ⟨i + 1, by omega, by go_num, HT.out, HB.out⟩ | (simp [intOf]; omega)
              · go_wp2_with (go_at_call 32; refine (works_yes HT.out.lies k hkr HG.out).mono ?_; rintro e wx ⟨rfl, hB⟩; replace HB := Lib.hid (below_step HB.out hB); clear hB)
                go_ret
                exact ⟨rfl, HB.out⟩
          · have hn2 : 2 ≤ a.n := by have := HT.out.lies.inv.1.pos; omega
            have HG := Lib.hid hg
            have HN := Lib.hid hn2
            have HLI := Lib.hid HT.out.lies
            have hback : back (rem a k) k = a := back_rem HT.out.lies.inv.1 hkr hg hn2
            have HBK := Lib.hid hback
            clear hg hn hn2 hback
            go_wp2_with (go_at_call 25; refine (two_remove HT.out k hkr HG.out HN.out).mono ?_; rintro e wx ⟨rfl, hT, hB⟩; replace HT := Lib.hid hT; replace HB := Lib.hid (HB.out.trans hB); clear hT hB)
            go_loopw [16] (fun ii wr => ∃ i : Nat, i ≤ j ∧ ii = .int .i64 (i : Int) ∧ Two False w.heap.size C X (2 + r % 39) (rem a k) u11 ((List.range j).map R) wr ∧ Below w.heap.size w wr) (fun ii _ => j - (intOf ii).toNat)
            case atStart => exact ⟨0, Nat.zero_le _, rfl, HT.out, HB.out⟩
            case round =>
              obtain ⟨i, hi, rfl, hT, hB⟩ := hrel
              have HT := Lib.hid hT
              have HB := Lib.hid hB
              clear hT hB
              by_cases hlt : i < j
              · obtain ⟨x, rfl, _, _, hx, hwf⟩ := W3.out.read HB.out (i := i) (by omega)
                obtain ⟨v, hv, _⟩ := u64_nat hwf
                have hf := HR.out i
                rw [hv, Int.toNat_natCast] at hf
                rw [hv] at hx
                obtain ⟨g, cap, rfl, hgc, hgm, hgr⟩ := HT.out.read' i hlt
                obtain ⟨ri, hri⟩ : ∃ ri, R i = ri := ⟨_, rfl⟩
                rw [hri] at hf hgr
                obtain ⟨b, hfb, hbk, hbr⟩ := after_rem HLI.out k hkr HG.out HN.out v ri hf
                have HF := Lib.hid hfb
                have hi60 : (i : Int) < 60 := by omega
                have hltc : (i : Int) < (j : Int) := by omega
                have hbk2 : ((b : Int) == (k : Int)) = false := by simp; omega
                have hbki : ¬ (b : Int) = (k : Int) := by omega
                by_cases hrk : ri = k
                case' pos => subst hrk
                case' neg =>
                  have hb2 := hbr hrk
                  subst hb2
                  have hrk2 : ((b : Int) == (k : Int)) = false := by simp; omega
                  clear hrk
                all_goals
                  clear hf hwf hv hri hbr hfb hbk
                  go_wp2_with (first
                    | (go_at_call 27; refine (lies_bucket HT.out.lies v b HF.out).mono ?_; rintro e wx ⟨rfl, hB⟩; replace HT := Lib.hid (HT.out.below hB); replace hgr := (World.cell?_of_block (w := wr) (a := ⟨g, i, none⟩) (hB.block g (World.block_lt_of_cell? _ _ hgr))).trans hgr; replace HB := Lib.hid (below_step HB.out hB); clear hB)
                    | (go_at_call 32; refine (works_yes HT.out.lies b HF.out.low.2 HF.out.low.1).mono ?_; rintro e wx ⟨rfl, hB⟩; replace HT := Lib.hid (HT.out.below hB); replace hgr := (World.cell?_of_block (w := _) (a := ⟨g, i, none⟩) (hB.block g (World.block_lt_of_cell? _ _ hgr))).trans hgr; replace HB := Lib.hid (below_step HB.out hB); clear hB))
                  all_goals go_roundw
                  all_goals first | exact ⟨i + 1, by omega, by go_num, HT.out, HB.out⟩ | (simp [intOf]; omega)
              · go_wp2_with (go_at_call 23; refine (two_add HT.out k a.stack rfl).mono ?_; rintro e wx ⟨rfl, hT, hB⟩; rw [HBK.out] at hT; replace HT := Lib.hid hT; replace HB := Lib.hid (HB.out.trans hB); clear hT hB)
                go_loopw [20] (fun ii wr => ∃ i : Nat, i ≤ j ∧ ii = .int .i64 (i : Int) ∧ Two False w.heap.size C X (2 + r % 39) a u11 ((List.range j).map R) wr ∧ Below w.heap.size w wr) (fun ii _ => j - (intOf ii).toNat)
                case atStart => exact ⟨0, Nat.zero_le _, rfl, HT.out, HB.out⟩
                case round =>
                  obtain ⟨i, hi, rfl, hT, hB⟩ := hrel
                  have HT := Lib.hid hT
                  have HB := Lib.hid hB
                  clear hT hB
                  by_cases hlt : i < j
                  · obtain ⟨x, rfl, _, _, hx, hwf⟩ := W3.out.read HB.out (i := i) (by omega)
                    obtain ⟨v, hv, _⟩ := u64_nat hwf
                    have hf := HR.out i
                    rw [hv, Int.toNat_natCast] at hf
                    rw [hv] at hx
                    obtain ⟨g, cap, rfl, hgc, hgm, hgr⟩ := HT.out.read' i hlt
                    obtain ⟨ri, hri⟩ : ∃ ri, R i = ri := ⟨_, rfl⟩
                    rw [hri] at hf hgr
                    have HF := Lib.hid hf
                    have hi60 : (i : Int) < 60 := by omega
                    have hltc : (i : Int) < (j : Int) := by omega
                    clear hf hwf hv hri
                    go_wp2_with fail
                    go_quiet ((go_at_call 27; exact Calls.quiet_of (lies_bucket_q (HT.out.lies.drewN _) v ri HF.out)))
                    go_wp2_with fail
                    exact ⟨⟨i + 1, by omega, by go_num, HT.out.below (below_drewN _ _), below_step HB.out (below_drewN _ _)⟩, by simp [intOf]; omega⟩
                  · go_wp2
                    go_ret
                    exact ⟨rfl, HB.out⟩
end Go.Proofs.Ytladjipicifplaa
