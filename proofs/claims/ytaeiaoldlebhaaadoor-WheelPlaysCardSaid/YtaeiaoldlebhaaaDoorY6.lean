import Derived.Test.YtaeiaoldlebhaaaDoorY5
namespace Go.Proofs.YtaeiaoldlebhaaaDoor
open Go.RowKit Go.Shelf Go.Maps Go.Lib

theorem Both.guard {B W X np o nr : Nat} {Lp Lr : List Ent} {G : List Nat} {Y : World} (h : Both B W X np o Lp nr Lr G Y) (ob : Obj) : Both B W X np o Lp nr Lr (Y.heap.size :: G) (Y.alloc ob) := by
  obtain ⟨S, A, c, h1, h2, h3, h4, h5, h6⟩ := h
  have hb : Below Y.heap.size Y (Y.alloc ob) := (Below.refl _ _).alloc (Nat.le_refl _) _
  refine ⟨S, A, c, h1.below hb, h2.below hb, h3, h4, fun g off e => ?_, fun i hi => ?_⟩
  · obtain ⟨q1, q2, q3, q4⟩ := h5 g off e
    refine ⟨q1, by simp; omega, q3, fun hm => ?_⟩
    rcases List.mem_cons.1 hm with e2 | e2
    · omega
    · exact q4 e2
  · rcases List.mem_cons.1 hi with rfl | hi
    · exact ⟨fun hS => by have := h1.low _ hS; omega, by have := h2.lt; omega, by simp⟩
    · have := h6 i hi
      exact ⟨this.1, this.2.1, by simp; omega⟩
theorem Both.drop {B W X np o nr x : Nat} {Lp Lr : List Ent} {G : List Nat} {Y : World} (h : Both B W X np o Lp nr Lr (x :: G) Y) : Both B W X np o Lp nr Lr G Y := by
  obtain ⟨S, A, c, h1, h2, h3, h4, h5, h6⟩ := h
  exact ⟨S, A, c, h1, h2, h3, h4, fun g off e => ⟨(h5 g off e).1, (h5 g off e).2.1, (h5 g off e).2.2.1, fun hm => (h5 g off e).2.2.2 (List.mem_cons_of_mem _ hm)⟩, fun i hi => h6 i (List.mem_cons_of_mem _ hi)⟩
theorem DBox.go {U : Nat} {kd k a : Int} {far : Bool} {Y Y' : World} (h : Y.heap[U]? = some (.cells #[.int .i64 kd, .int .i64 k, .int .i64 a, .bool far] 55 (0, 0))) (he : Y'.heap[U]? = Y.heap[U]?) : Y'.heap[U]? = some (.cells #[.int .i64 kd, .int .i64 k, .int .i64 a, .bool far] 55 (0, 0)) := he.trans h
/-- The deed's box. -/
def DBox (U : Nat) (kd k a : Int) (far : Bool) (Y : World) : Prop := Y.heap[U]? = some (.cells #[.int .i64 kd, .int .i64 k, .int .i64 a, .bool far] 55 (0, 0))
theorem DBox.cells {U : Nat} {kd k a : Int} {far : Bool} {Y : World} (h : DBox U kd k a far Y) : Y.cell? ⟨U, 0, none⟩ = some (.int .i64 kd) ∧ Y.cell? ⟨U, 1, none⟩ = some (.int .i64 k) ∧ Y.cell? ⟨U, 2, none⟩ = some (.int .i64 a) ∧ Y.cell? ⟨U, 3, none⟩ = some (.bool far) := by
  unfold DBox at h
  refine ⟨?_, ?_, ?_, ?_⟩ <;> simp [World.cell?, h]
set_option maxRecDepth 100000 in
set_option maxHeartbeats 8000000 in
theorem does27 {B W X now o : Nat} {L : List Ent} {G : List Nat} {Y : World} (h : Both B W X now o L now L G Y) (hT : TabAt 0 Lib.deBruijn64tab Y) (hB : 0 < B) (ho : o < 1000) (kd k a : Int) (far : Bool) (wd : (Lit.int .i64 kd).wf = true) (wk : (Lit.int .i64 k).wf = true) (wa : (Lit.int .i64 a).wf = true) :
    Calls Tryd.prog 27 #[.pointer (some ⟨W, 0, none⟩), .pointer (some ⟨X, 0, none⟩), .agg #[.int .i64 kd, .int .i64 k, .int .i64 a, .bool far]] Y fun e Y' => e = .returned (.bool true) ∧ ∃ now' o' L', Both B W X now' o' L' now' L' G Y' ∧ o' ≤ o + 1 ∧ Below B Y Y' ∧ ∀ i ∈ G, Y'.heap[i]? = Y.heap[i]? := by
  have HH := Lib.hid (h.guard (.cells #[.int .i64 kd, .int .i64 k, .int .i64 a, .bool far] 55))
  have HU := Lib.hid (show DBox Y.heap.size kd k a far (Y.alloc (.cells #[.int .i64 kd, .int .i64 k, .int .i64 a, .bool far] 55)) from heap_alloc_new Y _)
  have hkb := i64_bounds wk
  have hab := i64_bounds wa
  have hdb := i64_bounds wd
  obtain ⟨hs1, hs2, hs3, hs4⟩ := h.size
  have HB0 := Lib.hid ((Below.refl Y.heap.size Y).alloc (Nat.le_refl _) (.cells #[.int .i64 kd, .int .i64 k, .int .i64 a, .bool far] 55))
  have HT := Lib.hid hT
  have HWH := Lib.hid hs3
  have hlen : L.length < 1000 := by have := hs3.len; omega
  obtain ⟨d0, d1, d2, d3⟩ := HU.out.cells
  have HGL := Lib.hid (show ∀ i ∈ G, i < Y.heap.size from fun i hi => by obtain ⟨_, _, _, _, _, _, _, _, h6⟩ := h; exact (h6 i hi).2.2)
  clear h hT hs3
  go_enter Tryd.func27, Tryd.ntmps27
  go_upto_if 17 with fail
  obtain ⟨U, hUe⟩ : ∃ U, Y.heap.size = U := ⟨_, rfl⟩
  obtain ⟨Y1, hY1⟩ : ∃ Y1, Y.alloc (.cells #[.int .i64 kd, .int .i64 k, .int .i64 a, .bool far] 55) = Y1 := ⟨_, rfl⟩
  have HUE := Lib.hid hUe
  rw [hUe, hY1] at HH HU d0 d1 d2 d3
  rw [hY1, hUe] at HB0
  rw [hY1, hUe]
  clear hY1 hUe
  go_cut [7] from 18 to 92 (fun s7 wz => (∃ kk : Nat, s7 = .int .i64 (kk : Int)) ∧ wz = Y1)
  case first =>
    by_cases hk : kd < 0
    · obtain ⟨kn, rfl⟩ : ∃ kn : Nat, kd = -(kn : Int) - 1 := ⟨(-kd - 1).toNat, by omega⟩
      have hk3 : (kn : Int) ≤ 9223372036854775807 := by omega
      go_wp2_with fail
      go_meet
      exact ⟨⟨kn, rfl⟩, rfl⟩
    · go_wp2_with fail
      go_meet
      exact ⟨⟨kd.toNat, by congr; omega⟩, rfl⟩
  case rest =>
    obtain ⟨⟨kk, rfl⟩, hwz⟩ := hcut
    rw [hwz]
    clear hwz
    go_upto_if 25 with fail
    go_cut [8] from 26 to 92 (fun s8 wz => (∃ b : Int, s8 = .int .i64 b ∧ -9223372036854775808 ≤ b ∧ b ≤ 9223372036854775807) ∧ ∃ q, wz = Y1.drewN q)
    case first =>
      cases far with
      | true =>
        go_wp2_with fail
        go_meet
        exact ⟨⟨a, rfl, hab⟩, 0, rfl⟩
      | false =>
        obtain ⟨p1, p2, p3, p4⟩ := both_ptr HH.out
        have hm : a.tmod 10000 < 10000 ∧ -10000 < a.tmod 10000 := ⟨Int.tmod_lt_of_pos a (by omega), by have := Int.lt_tmod_of_pos a (show (0 : Int) < 10000 by omega); omega⟩
        obtain ⟨a2, ha2⟩ : ∃ a2, a.tmod 10000 = a2 := ⟨_, rfl⟩
        rw [ha2] at hm
        have hb : -9223372036854775808 ≤ (now : Int) + a2 ∧ (now : Int) + a2 ≤ 9223372036854775807 := by omega
        go_wp2_with fail
        go_quiet (fail)
        go_wp2_with fail
        go_meet
        exact ⟨⟨_, rfl, hb⟩, nq, rfl⟩
    case rest =>
      obtain ⟨⟨b, rfl, hb1, hb2⟩, q, hwz⟩ := hcut
      rw [hwz]
      clear hwz
      have HH1 := Lib.hid (HH.out.below (below_drewN (Below.refl _ Y1) q))
      have HU1 := Lib.hid (show DBox U kd k a far (Y1.drewN q) from HU.out)
      have HB1 := Lib.hid (below_drewN HB0.out q)
      have HT1 := Lib.hid (show TabAt 0 Lib.deBruijn64tab (Y1.drewN q) from by have h9 := HB1.out; rw [← HUE.out] at h9; exact tab_below HT.out (by omega) h9)
      obtain ⟨Y2, hY2⟩ : ∃ Y2, Y1.drewN q = Y2 := ⟨_, rfl⟩
      rw [hY2] at HH1 HU1 HB1 HT1
      rw [hY2]
      clear HH HU HB0 hY2 d0 d1 d2 d3
      have HFIN := Lib.hid (show ∀ (Y' : World) (now' o' : Nat) (L' : List Ent), Both B W X now' o' L' now' L' (U :: G) Y' → o' ≤ o + 1 → Below B Y2 Y' → (∀ i ∈ U :: G, Y'.heap[i]? = Y2.heap[i]?) → ∃ now' o' L', Both B W X now' o' L' now' L' G Y' ∧ o' ≤ o + 1 ∧ Below B Y Y' ∧ ∀ i ∈ G, Y'.heap[i]? = Y.heap[i]? from fun Y' now' o' L' q1 q2 q3 q4 =>
        ⟨now', o', L', q1.drop, q2, (HB1.out.mono (by have := HUE.out; omega)).trans q3, fun i hi => (q4 i (List.mem_cons_of_mem _ hi)).trans (HB1.out.block i (by have := HGL.out i hi; have := HUE.out; omega))⟩)
      obtain ⟨d0, d1, d2, d3⟩ := HU1.out.cells
      obtain ⟨r, hm⟩ : ∃ r, (kk : Int).tmod 7 = r := ⟨_, rfl⟩
      have hm7 : r = 0 ∨ r = 1 ∨ r = 2 ∨ r = 3 ∨ r = 4 ∨ r = 5 ∨ r = 6 := by rw [← hm, Int.tmod_eq_emod_of_nonneg (by omega)]; omega
      have HM := Lib.hid hm
      rcases hm7 with rfl | rfl | rfl | rfl | rfl | rfl | rfl
      · by_cases hgood : (now : Int) < b ∧ b ≤ 1099511627776
        · obtain ⟨t, rfl⟩ : ∃ t : Nat, b = (t : Int) := ⟨b.toNat, by omega⟩
          have ht1 : now < t := by omega
          have ht2 : t ≤ 1099511627776 := by omega
          clear hgood
          go_upto_region 18 with fail
          clear d0 d1 d2 d3
          go_region_held3 (fun W' : World => W'.cell? ⟨U, 1, none⟩ = some (.int .i64 k)) (exact HU1.out.cells.2.1) (first
            | (go_at_call 17; refine (both_arm (HH1.out.below (below_drewN (Below.refl _ Y2) 1)) hkb t ht1 ht2 (by omega)).mono ?_; rintro e wp ⟨rfl, hc, hb, hg⟩; have HC := Lib.hid hc; have HCB := Lib.hid (show Below B Y2 wp from (below_drewN (Below.refl B Y2) 1).trans hb); have HCG := Lib.hid (show ∀ i ∈ U :: G, wp.heap[i]? = Y2.heap[i]? from hg); replace HU1 := Lib.hid (show DBox U kd k a far wp from (hg U (by simp)).trans HU1.out); clear hc hb hg)
            | (go_at_call 61; refine (both_refarm HC.out HWH.out.up (by omega) k t (o + 1) ht1 ht2).mono ?_; rintro e wq ⟨rfl, hc, hb, hg⟩; have HQ := Lib.hid (HFIN.out wq now (o + 1) _ hc (Nat.le_refl _) (HCB.out.trans hb) (fun i hi => (hg i hi).trans (HCG.out i hi))); replace HU1 := Lib.hid (show DBox U kd k a far wq from (hg U (by simp)).trans HU1.out); clear hc hb hg))
          all_goals
            go_wp2_with fail
            go_ret
            exact ⟨rfl, HQ.out⟩
        · have hbad : b ≤ (now : Int) ∨ 1099511627776 < b := by omega
          have HBAD := Lib.hid hbad
          clear hgood hbad
          go_upto_region 18 with fail
          clear d0 d1 d2 d3
          go_region_held3 (fun W' : World => W'.cell? ⟨U, 1, none⟩ = some (.int .i64 k)) (exact HU1.out.cells.2.1) (first
            | (go_at_call 17; refine (both_bad (HH1.out.below (below_drewN (Below.refl _ Y2) 1)) k b HBAD.out).mono ?_; rintro e wp ⟨rfl, rfl⟩)
            | (go_at_call 61; refine (both_refbad (HH1.out.below (below_drewN (Below.refl _ Y2) 1)) k b HBAD.out).mono ?_; rintro e wq ⟨rfl, rfl⟩))
          all_goals
            go_wp2_with fail
            go_ret
            exact ⟨rfl, HFIN.out _ now o _ (HH1.out.below (below_drewN (Below.refl _ Y2) 1)) (by omega) (below_drewN (Below.refl B Y2) 1) (fun i _ => rfl)⟩
      · by_cases hgood : (now : Int) < b ∧ b ≤ 1099511627776
        · obtain ⟨t, rfl⟩ : ∃ t : Nat, b = (t : Int) := ⟨b.toNat, by omega⟩
          have ht1 : now < t := by omega
          have ht2 : t ≤ 1099511627776 := by omega
          clear hgood
          go_upto_region 18 with fail
          clear d0 d1 d2 d3
          go_region_held3 (fun W' : World => W'.cell? ⟨U, 1, none⟩ = some (.int .i64 k)) (exact HU1.out.cells.2.1) (first
            | (go_at_call 17; refine (both_arm (HH1.out.below (below_drewN (Below.refl _ Y2) 1)) hkb t ht1 ht2 (by omega)).mono ?_; rintro e wp ⟨rfl, hc, hb, hg⟩; have HC := Lib.hid hc; have HCB := Lib.hid (show Below B Y2 wp from (below_drewN (Below.refl B Y2) 1).trans hb); have HCG := Lib.hid (show ∀ i ∈ U :: G, wp.heap[i]? = Y2.heap[i]? from hg); replace HU1 := Lib.hid (show DBox U kd k a far wp from (hg U (by simp)).trans HU1.out); clear hc hb hg)
            | (go_at_call 61; refine (both_refarm HC.out HWH.out.up (by omega) k t (o + 1) ht1 ht2).mono ?_; rintro e wq ⟨rfl, hc, hb, hg⟩; have HQ := Lib.hid (HFIN.out wq now (o + 1) _ hc (Nat.le_refl _) (HCB.out.trans hb) (fun i hi => (hg i hi).trans (HCG.out i hi))); replace HU1 := Lib.hid (show DBox U kd k a far wq from (hg U (by simp)).trans HU1.out); clear hc hb hg))
          all_goals
            go_wp2_with fail
            go_ret
            exact ⟨rfl, HQ.out⟩
        · have hbad : b ≤ (now : Int) ∨ 1099511627776 < b := by omega
          have HBAD := Lib.hid hbad
          clear hgood hbad
          go_upto_region 18 with fail
          clear d0 d1 d2 d3
          go_region_held3 (fun W' : World => W'.cell? ⟨U, 1, none⟩ = some (.int .i64 k)) (exact HU1.out.cells.2.1) (first
            | (go_at_call 17; refine (both_bad (HH1.out.below (below_drewN (Below.refl _ Y2) 1)) k b HBAD.out).mono ?_; rintro e wp ⟨rfl, rfl⟩)
            | (go_at_call 61; refine (both_refbad (HH1.out.below (below_drewN (Below.refl _ Y2) 1)) k b HBAD.out).mono ?_; rintro e wq ⟨rfl, rfl⟩))
          all_goals
            go_wp2_with fail
            go_ret
            exact ⟨rfl, HFIN.out _ now o _ (HH1.out.below (below_drewN (Below.refl _ Y2) 1)) (by omega) (below_drewN (Below.refl B Y2) 1) (fun i _ => rfl)⟩
      · by_cases hgood : (now : Int) < b ∧ b ≤ 1099511627776
        · obtain ⟨t, rfl⟩ : ∃ t : Nat, b = (t : Int) := ⟨b.toNat, by omega⟩
          have ht1 : now < t := by omega
          have ht2 : t ≤ 1099511627776 := by omega
          clear hgood
          go_upto_region 18 with fail
          clear d0 d1 d2 d3
          go_region_held3 (fun W' : World => W'.cell? ⟨U, 1, none⟩ = some (.int .i64 k)) (exact HU1.out.cells.2.1) (first
            | (go_at_call 17; refine (both_arm (HH1.out.below (below_drewN (Below.refl _ Y2) 1)) hkb t ht1 ht2 (by omega)).mono ?_; rintro e wp ⟨rfl, hc, hb, hg⟩; have HC := Lib.hid hc; have HCB := Lib.hid (show Below B Y2 wp from (below_drewN (Below.refl B Y2) 1).trans hb); have HCG := Lib.hid (show ∀ i ∈ U :: G, wp.heap[i]? = Y2.heap[i]? from hg); replace HU1 := Lib.hid (show DBox U kd k a far wp from (hg U (by simp)).trans HU1.out); clear hc hb hg)
            | (go_at_call 61; refine (both_refarm HC.out HWH.out.up (by omega) k t (o + 1) ht1 ht2).mono ?_; rintro e wq ⟨rfl, hc, hb, hg⟩; have HQ := Lib.hid (HFIN.out wq now (o + 1) _ hc (Nat.le_refl _) (HCB.out.trans hb) (fun i hi => (hg i hi).trans (HCG.out i hi))); replace HU1 := Lib.hid (show DBox U kd k a far wq from (hg U (by simp)).trans HU1.out); clear hc hb hg))
          all_goals
            go_wp2_with fail
            go_ret
            exact ⟨rfl, HQ.out⟩
        · have hbad : b ≤ (now : Int) ∨ 1099511627776 < b := by omega
          have HBAD := Lib.hid hbad
          clear hgood hbad
          go_upto_region 18 with fail
          clear d0 d1 d2 d3
          go_region_held3 (fun W' : World => W'.cell? ⟨U, 1, none⟩ = some (.int .i64 k)) (exact HU1.out.cells.2.1) (first
            | (go_at_call 17; refine (both_bad (HH1.out.below (below_drewN (Below.refl _ Y2) 1)) k b HBAD.out).mono ?_; rintro e wp ⟨rfl, rfl⟩)
            | (go_at_call 61; refine (both_refbad (HH1.out.below (below_drewN (Below.refl _ Y2) 1)) k b HBAD.out).mono ?_; rintro e wq ⟨rfl, rfl⟩))
          all_goals
            go_wp2_with fail
            go_ret
            exact ⟨rfl, HFIN.out _ now o _ (HH1.out.below (below_drewN (Below.refl _ Y2) 1)) (by omega) (below_drewN (Below.refl B Y2) 1) (fun i _ => rfl)⟩
      · go_upto_region 9 with fail
        obtain ⟨bb, hbb⟩ : ∃ bb, (hasKey k L).isSome = bb := ⟨_, rfl⟩
        have HBB := Lib.hid hbb
        clear d0 d1 d2 d3 hbb
        go_region_held3 (fun W' : World => W'.cell? ⟨U, 1, none⟩ = some (.int .i64 k)) (exact HU1.out.cells.2.1) (first
          | (go_at_call 43; refine (both_cancel (HH1.out.below (below_drewN (Below.refl _ Y2) 1)) wk).mono ?_; rw [HBB.out]; rintro e wp ⟨rfl, hc, hb, hg⟩; have HC := Lib.hid hc; have HCB := Lib.hid (show Below B Y2 wp from (below_drewN (Below.refl B Y2) 1).trans hb); have HCG := Lib.hid (show ∀ i ∈ U :: G, wp.heap[i]? = Y2.heap[i]? from hg); replace HU1 := Lib.hid (show DBox U kd k a far wp from (hg U (by simp)).trans HU1.out); clear hc hb hg)
          | (go_at_call 58; refine (both_refcancel HC.out (by omega) k).mono ?_; rw [HBB.out]; rintro e wq ⟨rfl, hc, hb, hg⟩; have HQ := Lib.hid (HFIN.out wq now o _ hc (by omega) (HCB.out.trans hb) (fun i hi => (hg i hi).trans (HCG.out i hi))); replace HU1 := Lib.hid (show DBox U kd k a far wq from (hg U (by simp)).trans HU1.out); clear hc hb hg))
        all_goals
          go_wp2_with fail
          go_ret
          exact ⟨rfl, HQ.out⟩
      · obtain ⟨d, bb, hd⟩ : ∃ (d : Int) (bb : Bool), dueV k L = .tuple #[.int .i64 d, .bool bb] := by
          unfold dueV
          cases hk : hasKey k L with
          | none => exact ⟨0, false, rfl⟩
          | some x => exact ⟨_, true, rfl⟩
        have HDU := Lib.hid hd
        clear hd
        go_wp2_with (first
          | (go_at_call 26; refine (both_due HH1.out wk).mono ?_; rw [HDU.out]; rintro e wp ⟨rfl, hb⟩; have HC := Lib.hid (HH1.out.below hb); have HCB := Lib.hid (hb.mono (by have := HH1.out.size.1; omega : B ≤ Y2.heap.size)); have HCG := Lib.hid (show ∀ i ∈ U :: G, wp.heap[i]? = Y2.heap[i]? from fun i hi => hb.block i (by obtain ⟨_, _, _, _, _, _, _, _, h6⟩ := HH1.out; exact (h6 i hi).2.2)); clear d0 d1 d2 d3; replace HU1 := Lib.hid (show DBox U kd k a far wp from (HCG.out U (by simp)).trans HU1.out); have d1 := HU1.out.cells.2.1; clear hb)
          | (go_at_call 59; refine (both_refdue HC.out k).mono ?_; rw [HDU.out]; rintro e wq ⟨rfl, rfl⟩))
        go_ret
        exact ⟨rfl, HFIN.out _ now o _ HC.out (by omega) HCB.out HCG.out⟩
      · by_cases hback : b < (now : Int)
        · have HBK := Lib.hid hback
          have HNUM := Lib.hid (numbers_same (w := Y2) (xs := []) (World.ownsRow_nil Y2 0 3 1) (World.ownsRow_nil Y2 0 3 1) rfl (by omega))
          clear hback
          go_wp2_with (first
            | (go_at_call 18; refine (both_back HH1.out b HBK.out).mono ?_; rintro e wp ⟨rfl, rfl⟩)
            | (go_at_call 60; refine (both_refback HH1.out b HBK.out).mono ?_; rintro e wq ⟨rfl, rfl⟩)
            | (go_at_call 20; refine HNUM.out.mono ?_; rintro e wr ⟨rfl, q, rfl⟩))
          go_ret
          exact ⟨rfl, HFIN.out _ now o _ (HH1.out.below (below_drewN (Below.refl _ _) q)) (by omega) (below_drewN (Below.refl B _) q) (fun i _ => rfl)⟩
        · obtain ⟨te, hte⟩ : ∃ te : Nat, min b 1099511627776 = (te : Int) := ⟨(min b 1099511627776).toNat, by omega⟩
          obtain ⟨n, hn⟩ : ∃ n, (upTil te L).length = n := ⟨_, rfl⟩
          have hn9 : n < 1000 := by have : (upTil te L).length ≤ L.length := List.length_filter_le _ _; omega
          have HBK := Lib.hid hback
          have HTE := Lib.hid hte
          have HNN := Lib.hid hn
          clear hback hte hn
          go_wp2_with (first
            | (go_at_call 18; refine (both_adv HH1.out HT1.out hB b (by have := HBK.out; omega) te HTE.out n HNN.out).mono ?_; rintro e wp ⟨pa, ca, rfl, hc, hb, hg, hr⟩; have HC := Lib.hid hc; have HCB := Lib.hid hb; have HCG := Lib.hid hg; have HR1 := Lib.hid hr; clear hc hb hg hr)
            | (go_at_call 60; refine (both_refadv HC.out HWH.out.up (by omega) b (by have := HBK.out; omega) te HTE.out n HNN.out).mono ?_; rintro e wq ⟨pb, cb, rfl, hc, hb, hg, hr, hgr⟩; have HC2 := Lib.hid hc; have HC2B := Lib.hid hb; have HC2G := Lib.hid hg; have HXL := Lib.hid (both_ptr HH1.out).1; have HR2 := Lib.hid hr; have HR3 := Lib.hid (ownsRow_kept HR1.out (w' := wq) (fun g e => hgr.block g (HR1.out.lt g e).2 (fun e2 => by have := (HR1.out.lt g e).1; have := HXL.out; have := Option.some.inj e2; omega))); have HNUM := Lib.hid (numbers_same (by have := HR3.out; rw [keysC_ints] at this; exact this) (by have := HR2.out; rw [keysC_ints] at this; exact this) (by rw [List.length_map]; exact HNN.out) (by omega)); clear hc hb hg hr hgr)
            | (go_at_call 20; refine HNUM.out.mono ?_; rintro e wr ⟨rfl, q, rfl⟩))
          go_ret
          exact ⟨rfl, HFIN.out _ te o _ (HC2.out.below (below_drewN (Below.refl _ _) q)) (by omega) (below_drewN (HCB.out.trans HC2B.out) q) (fun i hi => (HC2G.out i hi).trans (HCG.out i hi))⟩
      · by_cases hback : b < (now : Int)
        · have HBK := Lib.hid hback
          have HNUM := Lib.hid (numbers_same (w := Y2) (xs := []) (World.ownsRow_nil Y2 0 3 1) (World.ownsRow_nil Y2 0 3 1) rfl (by omega))
          clear hback
          go_wp2_with (first
            | (go_at_call 18; refine (both_back HH1.out b HBK.out).mono ?_; rintro e wp ⟨rfl, rfl⟩)
            | (go_at_call 60; refine (both_refback HH1.out b HBK.out).mono ?_; rintro e wq ⟨rfl, rfl⟩)
            | (go_at_call 20; refine HNUM.out.mono ?_; rintro e wr ⟨rfl, q, rfl⟩))
          go_ret
          exact ⟨rfl, HFIN.out _ now o _ (HH1.out.below (below_drewN (Below.refl _ _) q)) (by omega) (below_drewN (Below.refl B _) q) (fun i _ => rfl)⟩
        · obtain ⟨te, hte⟩ : ∃ te : Nat, min b 1099511627776 = (te : Int) := ⟨(min b 1099511627776).toNat, by omega⟩
          obtain ⟨n, hn⟩ : ∃ n, (upTil te L).length = n := ⟨_, rfl⟩
          have hn9 : n < 1000 := by have : (upTil te L).length ≤ L.length := List.length_filter_le _ _; omega
          have HBK := Lib.hid hback
          have HTE := Lib.hid hte
          have HNN := Lib.hid hn
          clear hback hte hn
          go_wp2_with (first
            | (go_at_call 18; refine (both_adv HH1.out HT1.out hB b (by have := HBK.out; omega) te HTE.out n HNN.out).mono ?_; rintro e wp ⟨pa, ca, rfl, hc, hb, hg, hr⟩; have HC := Lib.hid hc; have HCB := Lib.hid hb; have HCG := Lib.hid hg; have HR1 := Lib.hid hr; clear hc hb hg hr)
            | (go_at_call 60; refine (both_refadv HC.out HWH.out.up (by omega) b (by have := HBK.out; omega) te HTE.out n HNN.out).mono ?_; rintro e wq ⟨pb, cb, rfl, hc, hb, hg, hr, hgr⟩; have HC2 := Lib.hid hc; have HC2B := Lib.hid hb; have HC2G := Lib.hid hg; have HXL := Lib.hid (both_ptr HH1.out).1; have HR2 := Lib.hid hr; have HR3 := Lib.hid (ownsRow_kept HR1.out (w' := wq) (fun g e => hgr.block g (HR1.out.lt g e).2 (fun e2 => by have := (HR1.out.lt g e).1; have := HXL.out; have := Option.some.inj e2; omega))); have HNUM := Lib.hid (numbers_same (by have := HR3.out; rw [keysC_ints] at this; exact this) (by have := HR2.out; rw [keysC_ints] at this; exact this) (by rw [List.length_map]; exact HNN.out) (by omega)); clear hc hb hg hr hgr)
            | (go_at_call 20; refine HNUM.out.mono ?_; rintro e wr ⟨rfl, q, rfl⟩))
          go_ret
          exact ⟨rfl, HFIN.out _ te o _ (HC2.out.below (below_drewN (Below.refl _ _) q)) (by omega) (below_drewN (HCB.out.trans HC2B.out) q) (fun i hi => (HC2G.out i hi).trans (HCG.out i hi))⟩
end Go.Proofs.YtaeiaoldlebhaaaDoor
