import Derived.Test.YtlipkffnllmkgaaPH
import Derived.Deep.Slices
import Derived.ChangeArms
import Derived.Deep.Fields23
import Derived.RangeFuncWrites
import Derived.Test.YtlipkffnllmkgaaHF
import Derived.Test.YtlipkffnllmkgaaDI
namespace Go.Proofs.Ytlipkffnllmkgaa
open Go.RowKit Go.Shelf Go.Maps Go.Lib

theorem After.up {B Xp XP N : Nat} {p q : Po} {G : List Nat} {Y Y' : World} (h : After B Xp XP N p q G Y Y') : After B Xp XP (N + 1) p q G Y Y' := ⟨h.1.more (by omega), h.2⟩
/-- A deed. -/
structure Dd where
  kind : Int
  id : Int
  a : Int
  pt : Int
  pr : Int
  s : Int
  d : Int
  x : Int
  y : Int
def Dd.row (d : Dd) : List Value := [.int .i64 d.kind, .int .i64 d.id, .int .u32 d.a, .int .i64 d.pt, .int .i64 d.pr, .int .u32 d.s, .int .u32 d.d, .int .i64 d.x, .int .i64 d.y]
def Dd.wide (d : Dd) : Prop := ((Lit.int .i64 d.kind).wf = true ∧ (Lit.int .i64 d.id).wf = true) ∧ (Lit.int .u32 d.s).wf = true ∧ (Lit.int .u32 d.d).wf = true
def Dd.obj (d : Dd) : Obj := .cells #[.int .i64 d.kind, .int .i64 d.id, .int .u32 d.a, .int .i64 d.pt, .int .i64 d.pr, .int .u32 d.s, .int .u32 d.d, .int .i64 d.x, .int .i64 d.y] 37 (0, 0)
def DBox (U : Nat) (d : Dd) (Y : World) : Prop := Y.heap[U]? = some d.obj
structure DC (U : Nat) (d : Dd) (Y : World) : Prop where
  c0 : Y.cell? ⟨U, 0, none⟩ = some (.int .i64 d.kind)
  c1 : Y.cell? ⟨U, 1, none⟩ = some (.int .i64 d.id)
  c2 : Y.cell? ⟨U, 2, none⟩ = some (.int .u32 d.a)
  c3 : Y.cell? ⟨U, 3, none⟩ = some (.int .i64 d.pt)
  c4 : Y.cell? ⟨U, 4, none⟩ = some (.int .i64 d.pr)
  c5 : Y.cell? ⟨U, 5, none⟩ = some (.int .u32 d.s)
  c6 : Y.cell? ⟨U, 6, none⟩ = some (.int .u32 d.d)
  c7 : Y.cell? ⟨U, 7, none⟩ = some (.int .i64 d.x)
  c8 : Y.cell? ⟨U, 8, none⟩ = some (.int .i64 d.y)
theorem DBox.cells {U : Nat} {d : Dd} {Y : World} (h : DBox U d Y) : DC U d Y := by
  unfold DBox Dd.obj at h
  constructor <;> simp [World.cell?, h]
theorem After.fin {B Xp XP N U : Nat} {p q : Po} {G : List Nat} {Y Y2 Y' : World} (h : After B Xp XP N p q (U :: G) Y2 Y') (hb : Below Y.heap.size Y Y2) (hB : B ≤ Y.heap.size) (hG : ∀ i ∈ G, i < Y.heap.size) : After B Xp XP N p q G Y Y' :=
  ⟨h.1.drop, (hb.mono hB).trans h.2.1, fun i hi => (h.2.2 i (List.mem_cons_of_mem _ hi)).trans (hb.block i (hG i hi))⟩
theorem i64_bounds {a : Int} (h : (Lit.int .i64 a).wf = true) : -9223372036854775808 ≤ a ∧ a ≤ 9223372036854775807 := by
  simp [Lit.wf, IntKind.min, IntKind.max, IntKind.signed, IntKind.bits] at h
  omega
theorem u32_bounds {a : Int} (h : (Lit.int .u32 a).wf = true) : 0 ≤ a ∧ a < 4294967296 := by
  simp [Lit.wf, IntKind.min, IntKind.max, IntKind.signed, IntKind.bits] at h
  omega
theorem add_bad {p : Po} {id a pt : Int} (h : ¬ id ≤ 65535) : addG p id a pt = p := by
  unfold addG addE
  rw [if_neg (fun hx : 1 ≤ id ∧ id ≤ 65535 ∧ 0 ≤ pt ∧ pt ≤ 65535 => h hx.2.1)]
  rfl
theorem cnt_add {p : Po} (h : Cnt 65535 p) (id a pt : Int) : Cnt 65535 (addG p id a pt) := by
  by_cases hid : id ≤ 65535
  · exact h.addG id a pt hid
  · rw [add_bad hid]; exact h
theorem After.stay {B Xp XP N N' : Nat} {p q : Po} {G : List Nat} {Y Y' : World} (h : Both B Xp XP N p q G Y) (hN : N ≤ N') (hb : Below Y.heap.size Y Y') : After B Xp XP N' p q G Y Y' := by
  refine ⟨(h.below hb).more hN, hb.mono h.size, fun i hi => ?_⟩
  obtain ⟨S, Q, _, _, _, h4⟩ := h
  exact hb.block i (h4 i hi).2.2
set_option maxRecDepth 100000 in
set_option maxHeartbeats 8000000 in
theorem does9 {B Xp XP N : Nat} {p : Po} {G : List Nat} {Y : World} (h : Both B Xp XP N p p G Y) (c : Cnt 65535 p) (hN : N < 500000) (D : Dd) (hD : D.wide) :
    Calls Try.prog 9 #[.pointer (some ⟨Xp, 0, none⟩), .pointer (some ⟨XP, 0, none⟩), .agg #[.int .i64 D.kind, .int .i64 D.id, .int .u32 D.a, .int .i64 D.pt, .int .i64 D.pr, .int .u32 D.s, .int .u32 D.d, .int .i64 D.x, .int .i64 D.y]] Y fun e Y' => e = .returned (.bool true) ∧ ∃ p', After B Xp XP (N + 2) p' p' G Y Y' ∧ Cnt 65535 p' := by
  have HH := Lib.hid (h.guard D.obj)
  have HU := Lib.hid (show DBox Y.heap.size D (Y.alloc D.obj) from World.alloc_heap_new Y _)
  have HB0 := Lib.hid ((Below.refl Y.heap.size Y).alloc (Nat.le_refl _) D.obj)
  have HSZ := Lib.hid h.size
  have HGL := Lib.hid (show ∀ i ∈ G, i < Y.heap.size from fun i hi => by obtain ⟨_, _, _, _, _, h4⟩ := h; exact (h4 i hi).2.2)
  have HC := Lib.hid c
  have HD := Lib.hid hD
  obtain ⟨d0, _, _, _, _, _, _, _, _⟩ := HU.out.cells
  have hdb := i64_bounds hD.1.1
  obtain ⟨kd, id, a, pt, pr, s, d, x, y⟩ := D
  unfold Dd.obj at HH HU HB0 d0
  dsimp only at HH HU HB0 hdb d0 ⊢
  clear h c hD
  obtain ⟨bk, hbk⟩ : ∃ bk, decide (kd < 0) = bk := ⟨_, rfl⟩
  go_enter Try.func9, Try.ntmps9
  go_upto_if 21 with fail
  have HBK := Lib.hid hbk
  clear hbk
  obtain ⟨U, hUe⟩ : ∃ U, Y.heap.size = U := ⟨_, rfl⟩
  obtain ⟨Y1, hY1⟩ : ∃ Y1, Y.alloc (.cells #[.int .i64 kd, .int .i64 id, .int .u32 a, .int .i64 pt, .int .i64 pr, .int .u32 s, .int .u32 d, .int .i64 x, .int .i64 y] 37) = Y1 := ⟨_, rfl⟩
  have HUE := Lib.hid hUe
  rw [hUe, hY1] at HH HU d0
  rw [hY1, hUe] at HB0
  rw [hY1, hUe]
  clear hY1 hUe
  go_cut [7] from 22 to 120 (fun s7 wz => (∃ kk : Nat, s7 = .int .i64 (kk : Int)) ∧ wz = Y1)
  case first =>
    cases bk
    case true =>
      have hk : kd < 0 := of_decide_eq_true HBK.out
      clear HBK
      obtain ⟨kn, rfl⟩ : ∃ kn : Nat, kd = -(kn : Int) - 1 := ⟨(-kd - 1).toNat, by omega⟩
      have hk3 : (kn : Int) ≤ 9223372036854775807 := by omega
      go_wp2_with fail
      go_meet
      exact ⟨⟨kn, rfl⟩, rfl⟩
    case false =>
      have hk : ¬ kd < 0 := of_decide_eq_false HBK.out
      clear HBK
      go_wp2_with fail
      go_meet
      exact ⟨⟨kd.toNat, by congr; omega⟩, rfl⟩
  case rest =>
    obtain ⟨⟨kk, rfl⟩, hwz⟩ := hcut
    rw [hwz]
    clear hwz d0
    have HFIN := Lib.hid (show ∀ (Y' : World) (p' : Po), After B Xp XP (N + 2) p' p' (U :: G) Y1 Y' → Cnt 65535 p' → After B Xp XP (N + 2) p' p' G Y Y' ∧ Cnt 65535 p' from fun Y' p' h1 h2 =>
      ⟨h1.fin (by rw [HUE.out]; exact HB0.out) HSZ.out HGL.out, h2⟩)
    have HDR := Lib.hid (show Both B Xp XP N p p (U :: G) Y1.drew from HH.out.below ⟨rfl, rfl, rfl, Nat.le_refl _, fun _ _ => rfl⟩)
    have HD0 := Lib.hid (show ∀ (N' : Nat) (p' q' : Po) (Y' : World), After B Xp XP N' p' q' (U :: G) Y1.drew Y' → After B Xp XP N' p' q' (U :: G) Y1 Y' from fun _ _ _ _ h => ⟨h.1, ⟨h.2.1.os, h.2.1.tape, h.2.1.output, h.2.1.size, h.2.1.block⟩, h.2.2⟩)
    obtain ⟨r, hm⟩ : ∃ r, (kk : Int).tmod 7 = r := ⟨_, rfl⟩
    have hm7 : r = 0 ∨ r = 1 ∨ r = 2 ∨ r = 3 ∨ r = 4 ∨ r = 5 ∨ r = 6 := by rw [← hm, Int.tmod_eq_emod_of_nonneg (by omega)]; omega
    have HM := Lib.hid hm
    have hidb := i64_bounds HD.out.1.2
    have hsb := u32_bounds HD.out.2.1
    have hdb2 := u32_bounds HD.out.2.2
    dsimp only at hidb hsb hdb2
    have g := HC.out.good
    have HG := Lib.hid g
    clear g
    rcases hm7 with rfl | rfl | rfl | rfl | rfl | rfl | rfl
    · obtain ⟨v, hv⟩ : ∃ v, addE p id pt = v := ⟨_, rfl⟩
      have HV := Lib.hid hv
      have hvv : (v == v) = true := by simp
      clear hv
      go_upto_region 7 with fail
      go_region_held3 (fun W' : World => W'.cell? ⟨U, 1, none⟩ = some (.int .i64 id) ∧ W'.cell? ⟨U, 2, none⟩ = some (.int .u32 a) ∧ W'.cell? ⟨U, 3, none⟩ = some (.int .i64 pt)) (exact ⟨HU.out.cells.c1, HU.out.cells.c2, HU.out.cells.c3⟩) (first
        | (go_at_call 13; refine (both_add HDR.out HG.out (by unfold maxLen; omega) HD.out.1.2).mono ?_; rw [HV.out]; rintro e wp ⟨rfl, ha⟩; have HA := Lib.hid ha; replace HU := Lib.hid (show DBox U ⟨kd, id, a, pt, pr, s, d, x, y⟩ wp from (ha.2.2 U (by simp)).trans HU.out); clear ha)
        | (go_at_call 20; refine (both_radd HA.out.1 HC.out (by omega) id a pt).mono ?_; rw [HV.out]; rintro e wq ⟨rfl, ha⟩; have HQ := Lib.hid (HFIN.out _ _ (HD0.out _ _ _ _ (After.trans HA.out ha)) (cnt_add HC.out id a pt)); replace HU := Lib.hid (show DBox U ⟨kd, id, a, pt, pr, s, d, x, y⟩ wq from (ha.2.2 U (by simp)).trans HU.out); clear ha))
      all_goals
        go_wp2_with fail
        go_ret
        exact ⟨rfl, _, HQ.out.1, HQ.out.2⟩
    · obtain ⟨v, hv⟩ : ∃ v, addE p id pt = v := ⟨_, rfl⟩
      have HV := Lib.hid hv
      have hvv : (v == v) = true := by simp
      clear hv
      go_upto_region 7 with fail
      go_region_held3 (fun W' : World => W'.cell? ⟨U, 1, none⟩ = some (.int .i64 id) ∧ W'.cell? ⟨U, 2, none⟩ = some (.int .u32 a) ∧ W'.cell? ⟨U, 3, none⟩ = some (.int .i64 pt)) (exact ⟨HU.out.cells.c1, HU.out.cells.c2, HU.out.cells.c3⟩) (first
        | (go_at_call 13; refine (both_add HDR.out HG.out (by unfold maxLen; omega) HD.out.1.2).mono ?_; rw [HV.out]; rintro e wp ⟨rfl, ha⟩; have HA := Lib.hid ha; replace HU := Lib.hid (show DBox U ⟨kd, id, a, pt, pr, s, d, x, y⟩ wp from (ha.2.2 U (by simp)).trans HU.out); clear ha)
        | (go_at_call 20; refine (both_radd HA.out.1 HC.out (by omega) id a pt).mono ?_; rw [HV.out]; rintro e wq ⟨rfl, ha⟩; have HQ := Lib.hid (HFIN.out _ _ (HD0.out _ _ _ _ (After.trans HA.out ha)) (cnt_add HC.out id a pt)); replace HU := Lib.hid (show DBox U ⟨kd, id, a, pt, pr, s, d, x, y⟩ wq from (ha.2.2 U (by simp)).trans HU.out); clear ha))
      all_goals
        go_wp2_with fail
        go_ret
        exact ⟨rfl, _, HQ.out.1, HQ.out.2⟩
    · obtain ⟨v, hv⟩ : ∃ v, drainE p id = v := ⟨_, rfl⟩
      have HV := Lib.hid hv
      have hvv : (v == v) = true := by simp
      clear hv
      go_upto_region 9 with fail
      go_region_held3 (fun W' : World => W'.cell? ⟨U, 1, none⟩ = some (.int .i64 id)) (exact HU.out.cells.c1) (first
        | (go_at_call 14; refine (both_drain HDR.out HG.out (by unfold maxLen; omega) hidb).mono ?_; rw [HV.out]; rintro e wp ⟨rfl, ha⟩; have HA := Lib.hid ha; replace HU := Lib.hid (show DBox U ⟨kd, id, a, pt, pr, s, d, x, y⟩ wp from (ha.2.2 U (by simp)).trans HU.out); clear ha)
        | (go_at_call 21; refine (both_rdrain HA.out.1 HC.out id).mono ?_; rw [HV.out]; rintro e wq ⟨rfl, ha⟩; have HQ := Lib.hid (HFIN.out _ _ (HD0.out _ _ _ _ (After.up (After.trans HA.out ha))) (HC.out.drainG id)); replace HU := Lib.hid (show DBox U ⟨kd, id, a, pt, pr, s, d, x, y⟩ wq from (ha.2.2 U (by simp)).trans HU.out); clear ha))
      all_goals
        go_wp2_with fail
        go_ret
        exact ⟨rfl, _, HQ.out.1, HQ.out.2⟩
    · obtain ⟨v, hv⟩ : ∃ v, removeE p id = v := ⟨_, rfl⟩
      have HV := Lib.hid hv
      have hvv : (v == v) = true := by simp
      clear hv
      go_upto_region 11 with fail
      go_region_held3 (fun W' : World => W'.cell? ⟨U, 1, none⟩ = some (.int .i64 id)) (exact HU.out.cells.c1) (first
        | (go_at_call 16; refine (both_remove HDR.out HG.out hidb).mono ?_; rw [HV.out]; rintro e wp ⟨rfl, ha⟩; have HA := Lib.hid ha; replace HU := Lib.hid (show DBox U ⟨kd, id, a, pt, pr, s, d, x, y⟩ wp from (ha.2.2 U (by simp)).trans HU.out); clear ha)
        | (go_at_call 22; refine (both_rremove HA.out.1 HC.out (by omega) id).mono ?_; rw [HV.out]; rintro e wq ⟨rfl, ha⟩; have HQ := Lib.hid (HFIN.out _ _ (HD0.out _ _ _ _ (After.up (After.up (After.trans HA.out ha)))) (HC.out.removeG id)); replace HU := Lib.hid (show DBox U ⟨kd, id, a, pt, pr, s, d, x, y⟩ wq from (ha.2.2 U (by simp)).trans HU.out); clear ha))
      all_goals
        go_wp2_with fail
        go_ret
        exact ⟨rfl, _, HQ.out.1, HQ.out.2⟩
    · obtain ⟨sn, rfl⟩ : ∃ k : Nat, s = (k : Int) := ⟨s.toNat, by omega⟩
      obtain ⟨dn, rfl⟩ : ∃ k : Nat, d = (k : Int) := ⟨d.toNat, by omega⟩
      obtain ⟨vi, va, vq, ok, hch⟩ := both_choose HH.out HC.out pr x y sn dn (by omega) (by omega)
      have HCH := Lib.hid hch
      have e1 : (vi == vi) = true := by simp
      have e2 : (va == va) = true := by simp
      have e3 : (vq == vq) = true := by simp
      have e4 : (ok == ok) = true := by simp
      obtain ⟨_, _, _, _, c4, c5, c6, c7, c8⟩ := HU.out.cells
      clear hch
      go_wp2_with (first
        | (go_at_call 17; refine (HCH.out _ (Below.refl _ _)).1.mono ?_; rintro e wx ⟨rfl, hb⟩; have HX := Lib.hid hb; clear c4 c5 c6 c7 c8; have hUx : U < wx.heap.size := (by have := (Array.getElem?_eq_some_iff.1 HU.out).1; have := hb.size; omega); obtain ⟨_, _, _, _, c4, c5, c6, c7, c8⟩ := DBox.cells (show DBox U ⟨kd, id, a, pt, pr, sn, dn, x, y⟩ wx from (hb.block U (Array.getElem?_eq_some_iff.1 HU.out).1).trans HU.out); clear hb)
        | (go_at_call 24; refine (HCH.out _ (HX.out.alloc HX.out.size _)).2.mono ?_; rintro e wy ⟨rfl, hb⟩; have HY := Lib.hid hb; have hs2 := hb.size; rw [World.size_alloc] at hs2; have hXy : wx.heap.size < wy.heap.size := (by omega); obtain ⟨⟨r0, r1, r2⟩, _⟩ := cells3 ((hb.block wx.heap.size (by simp)).trans (World.alloc_heap_new wx _)); clear hb c4 c5 c6 c7 c8 hs2))
      go_ret
      have hbx := HX.out.alloc HX.out.size (.cells #[.int .i64 vi, .int .u32 va, .int .i64 vq] 33)
      have hby := hbx.trans (HY.out.mono (by simp; have := HX.out.size; omega))
      have hbz := hby.alloc hby.size (.cells #[.int .i64 vi, .int .u32 va, .int .i64 vq] 33)
      obtain ⟨q1, q2⟩ := HFIN.out _ p (After.stay HH.out (by omega) hbz) HC.out
      exact ⟨rfl, p, q1, q2⟩
    · obtain ⟨sn, rfl⟩ : ∃ k : Nat, s = (k : Int) := ⟨s.toNat, by omega⟩
      obtain ⟨dn, rfl⟩ : ∃ k : Nat, d = (k : Int) := ⟨d.toNat, by omega⟩
      obtain ⟨vi, va, vq, ok, hch⟩ := both_choose HH.out HC.out pr x y sn dn (by omega) (by omega)
      have HCH := Lib.hid hch
      have e1 : (vi == vi) = true := by simp
      have e2 : (va == va) = true := by simp
      have e3 : (vq == vq) = true := by simp
      have e4 : (ok == ok) = true := by simp
      obtain ⟨_, _, _, _, c4, c5, c6, c7, c8⟩ := HU.out.cells
      clear hch
      go_wp2_with (first
        | (go_at_call 17; refine (HCH.out _ (Below.refl _ _)).1.mono ?_; rintro e wx ⟨rfl, hb⟩; have HX := Lib.hid hb; clear c4 c5 c6 c7 c8; have hUx : U < wx.heap.size := (by have := (Array.getElem?_eq_some_iff.1 HU.out).1; have := hb.size; omega); obtain ⟨_, _, _, _, c4, c5, c6, c7, c8⟩ := DBox.cells (show DBox U ⟨kd, id, a, pt, pr, sn, dn, x, y⟩ wx from (hb.block U (Array.getElem?_eq_some_iff.1 HU.out).1).trans HU.out); clear hb)
        | (go_at_call 24; refine (HCH.out _ (HX.out.alloc HX.out.size _)).2.mono ?_; rintro e wy ⟨rfl, hb⟩; have HY := Lib.hid hb; have hs2 := hb.size; rw [World.size_alloc] at hs2; have hXy : wx.heap.size < wy.heap.size := (by omega); obtain ⟨⟨r0, r1, r2⟩, _⟩ := cells3 ((hb.block wx.heap.size (by simp)).trans (World.alloc_heap_new wx _)); clear hb c4 c5 c6 c7 c8 hs2))
      go_ret
      have hbx := HX.out.alloc HX.out.size (.cells #[.int .i64 vi, .int .u32 va, .int .i64 vq] 33)
      have hby := hbx.trans (HY.out.mono (by simp; have := HX.out.size; omega))
      have hbz := hby.alloc hby.size (.cells #[.int .i64 vi, .int .u32 va, .int .i64 vq] 33)
      obtain ⟨q1, q2⟩ := HFIN.out _ p (After.stay HH.out (by omega) hbz) HC.out
      exact ⟨rfl, p, q1, q2⟩
    · obtain ⟨vi, va, vq, st, er, hv⟩ : ∃ vi va vq st er : Int, getV p id = .tuple #[.agg #[.int .i64 vi, .int .u32 va, .int .i64 vq], .int .i64 st, .int .i64 er] := by
        unfold getV
        cases p.all id with
        | none => exact ⟨_, _, _, _, _, rfl⟩
        | some m => exact ⟨_, _, _, _, _, rfl⟩
      have HV := Lib.hid hv
      have e1 : (vi == vi) = true := by simp
      have e2 : (va == va) = true := by simp
      have e3 : (vq == vq) = true := by simp
      have e4 : (st == st) = true := by simp
      have e5 : (er == er) = true := by simp
      obtain ⟨_, c1, _, _, _, _, _, _, _⟩ := HU.out.cells
      clear hv
      go_wp2_with (first
        | (go_at_call 15; refine (both_get HH.out hidb).mono ?_; rw [HV.out]; rintro e wx ⟨rfl, hb⟩; have HX := Lib.hid hb; clear c1; have hUx : U < wx.heap.size := (by have := (Array.getElem?_eq_some_iff.1 HU.out).1; have := hb.size; omega); obtain ⟨_, c1, _, _, _, _, _, _, _⟩ := DBox.cells (show DBox U ⟨kd, id, a, pt, pr, s, d, x, y⟩ wx from (hb.block U (Array.getElem?_eq_some_iff.1 HU.out).1).trans HU.out); clear hb)
        | (go_at_call 23; refine (both_rget (HH.out.below (HX.out.alloc HX.out.size _)) HC.out id).mono ?_; rw [HV.out]; rintro e wy ⟨rfl, hb⟩; have HY := Lib.hid hb; have hs2 := hb.size; rw [World.size_alloc] at hs2; have hXy : wx.heap.size < wy.heap.size := (by omega); obtain ⟨⟨r0, r1, r2⟩, _⟩ := cells3 ((hb.block wx.heap.size (by simp)).trans (World.alloc_heap_new wx _)); clear hb c1 hs2))
      go_ret
      have hbx := HX.out.alloc HX.out.size (.cells #[.int .i64 vi, .int .u32 va, .int .i64 vq] 33)
      have hby := hbx.trans (HY.out.mono (by simp; have := HX.out.size; omega))
      have hbz := hby.alloc hby.size (.cells #[.int .i64 vi, .int .u32 va, .int .i64 vq] 33)
      obtain ⟨q1, q2⟩ := HFIN.out _ p (After.stay HH.out (by omega) hbz) HC.out
      exact ⟨rfl, p, q1, q2⟩
end Go.Proofs.Ytlipkffnllmkgaa

namespace Go.Proofs.Ytlipkffnllmkgaa
open Go.RowKit Go.Shelf Go.ChangeShapes Go.Deep Go.Lib

/-- A row of deeds that came in. -/
def DeedsIn (w : World) (a : Option Addr) (len cap : Nat) : Prop :=
  (a = none ∧ len = 0 ∧ cap = 0) ∨
  ∃ x, a = some x ∧ len ≤ cap ∧ cap ≤ maxLen ∧ ∀ i, i < len → ∃ d : Dd, d.wide ∧ ∀ j v, d.row[j]? = some v → w.cell? (x.add (i * 9 + j)) = some v
theorem deed_fields : ∃ f0 f1 f2 : Field, Try.prog.underlying 37 = some (.struct #[f0, f1, f2]) ∧ (f0.type = 3 ∧ f1.type = 33 ∧ f2.type = 35) ∧ (f0.offset = 0 ∧ f1.offset = 1 ∧ f2.offset = 4) :=
  ⟨_, _, _, Try.underlying37, ⟨rfl, rfl, rfl⟩, ⟨rfl, rfl, rfl⟩⟩
theorem back_fields : ∃ f0 f1 f2 : Field, Try.prog.underlying 33 = some (.struct #[f0, f1, f2]) ∧ (f0.type = 3 ∧ f1.type = 31 ∧ f2.type = 3) ∧ (f0.offset = 0 ∧ f1.offset = 1 ∧ f2.offset = 2) :=
  ⟨_, _, _, Try.underlying33, ⟨rfl, rfl, rfl⟩, ⟨rfl, rfl, rfl⟩⟩
theorem tup_fields : ∃ f0 f1 f2 f3 f4 : Field, Try.prog.underlying 35 = some (.struct #[f0, f1, f2, f3, f4]) ∧ (f0.type = 3 ∧ f1.type = 31 ∧ f2.type = 31 ∧ f3.type = 3 ∧ f4.type = 3) ∧ (f0.offset = 0 ∧ f1.offset = 1 ∧ f2.offset = 2 ∧ f3.offset = 3 ∧ f4.offset = 4) :=
  ⟨_, _, _, _, _, Try.underlying35, ⟨rfl, rfl, rfl, rfl, rfl⟩, ⟨rfl, rfl, rfl, rfl, rfl⟩⟩
theorem c37 : Try.prog.cellsOf 37 = 9 := by kernel_rfl
theorem c33 : Try.prog.cellsOf 33 = 3 := by kernel_rfl
theorem c35 : Try.prog.cellsOf 35 = 5 := by kernel_rfl
theorem c31' : Try.prog.cellsOf 31 = 1 := by kernel_rfl
theorem c3' : Try.prog.cellsOf 3 = 1 := by kernel_rfl
theorem back_open {H : Type} {enc : TypeId × Value → H} {w : World} {base : Nat} {spare : Nat → Bool} {held : Bool} {fuel : Nat} {v0 v1 v2 : Value} {x : DataW H × List MemPlace}
    (h : DataW.trod enc Try.prog w base spare held fuel 33 [v0, v1, v2] = some x) : ∃ k0 k1 k2 : Int, (v0 = .int .i64 k0 ∧ v1 = .int .u32 k1 ∧ v2 = .int .i64 k2) ∧ (Lit.int .i64 k0).wf = true := by
  obtain ⟨f0, f1, f2, hu, ⟨t0, t1, t2⟩, ⟨o0, o1, o2⟩⟩ := back_fields
  obtain ⟨xs, k, hk, hxy, _, hxl, hf⟩ := DataW.trod_struct hu h
  match xs, hxl with
  | [y0, y1, y2], _ =>
    have g0 := hf 0 f0 rfl
    have g1 := hf 1 f1 rfl
    have g2 := hf 2 f2 rfl
    rw [t0, o0, c3'] at g0
    rw [t1, o1, c31'] at g1
    rw [t2, o2, c3'] at g2
    obtain ⟨k0, e0, _, w0⟩ := DataW.trod_int Try.underlying3 (show DataW.trod enc Try.prog w base spare held k 3 [v0] = some y0 from g0)
    obtain ⟨k1, e1, _, w1⟩ := DataW.trod_int Try.underlying31 (show DataW.trod enc Try.prog w base spare held k 31 [v1] = some y1 from g1)
    obtain ⟨k2, e2, _, w2⟩ := DataW.trod_int Try.underlying3 (show DataW.trod enc Try.prog w base spare held k 3 [v2] = some y2 from g2)
    simp only [List.cons.injEq, and_true] at e0 e1 e2
    exact ⟨k0, k1, k2, ⟨e0, e1, e2⟩, w0⟩
theorem tup_open {H : Type} {enc : TypeId × Value → H} {w : World} {base : Nat} {spare : Nat → Bool} {held : Bool} {fuel : Nat} {v0 v1 v2 v3 v4 : Value} {x : DataW H × List MemPlace}
    (h : DataW.trod enc Try.prog w base spare held fuel 35 [v0, v1, v2, v3, v4] = some x) : ∃ k0 k1 k2 k3 k4 : Int, (v0 = .int .i64 k0 ∧ v1 = .int .u32 k1 ∧ v2 = .int .u32 k2 ∧ v3 = .int .i64 k3 ∧ v4 = .int .i64 k4) ∧ (Lit.int .u32 k1).wf = true ∧ (Lit.int .u32 k2).wf = true := by
  obtain ⟨f0, f1, f2, f3, f4, hu, ⟨t0, t1, t2, t3, t4⟩, ⟨o0, o1, o2, o3, o4⟩⟩ := tup_fields
  obtain ⟨xs, k, hk, hxy, _, hxl, hf⟩ := DataW.trod_struct hu h
  match xs, hxl with
  | [y0, y1, y2, y3, y4], _ =>
    have g0 := hf 0 f0 rfl
    have g1 := hf 1 f1 rfl
    have g2 := hf 2 f2 rfl
    have g3 := hf 3 f3 rfl
    have g4 := hf 4 f4 rfl
    rw [t0, o0, c3'] at g0
    rw [t1, o1, c31'] at g1
    rw [t2, o2, c31'] at g2
    rw [t3, o3, c3'] at g3
    rw [t4, o4, c3'] at g4
    obtain ⟨k0, e0, _, w0⟩ := DataW.trod_int Try.underlying3 (show DataW.trod enc Try.prog w base spare held k 3 [v0] = some y0 from g0)
    obtain ⟨k1, e1, _, w1⟩ := DataW.trod_int Try.underlying31 (show DataW.trod enc Try.prog w base spare held k 31 [v1] = some y1 from g1)
    obtain ⟨k2, e2, _, w2⟩ := DataW.trod_int Try.underlying31 (show DataW.trod enc Try.prog w base spare held k 31 [v2] = some y2 from g2)
    obtain ⟨k3, e3, _, w3⟩ := DataW.trod_int Try.underlying3 (show DataW.trod enc Try.prog w base spare held k 3 [v3] = some y3 from g3)
    obtain ⟨k4, e4, _, w4⟩ := DataW.trod_int Try.underlying3 (show DataW.trod enc Try.prog w base spare held k 3 [v4] = some y4 from g4)
    simp only [List.cons.injEq, and_true] at e0 e1 e2 e3 e4
    exact ⟨k0, k1, k2, k3, k4, ⟨e0, e1, e2, e3, e4⟩, w1, w2⟩
set_option maxRecDepth 100000 in
theorem open_deeds {H : Type} {enc : TypeId × Value → H} {w : World} {base : Nat} {spare : Nat → Bool} {held : Bool} {fuel : Nat} {a : Option Addr} {len cap : Nat} {x : DataW H × List MemPlace}
    (h : DataW.trod enc Try.prog w base spare held fuel 22 [.slice a len cap] = some x) : DeedsIn w a len cap := by
  rcases open_slice Try.underlying22 h with ⟨h0, _⟩ | ⟨a', len', cap', m, n, D, Pl, h0, hb, hl, hm, hmm, rfl, hx⟩
  · simp at h0
    exact .inl h0
  · simp at h0
    obtain ⟨rfl, rfl, rfl⟩ := h0
    refine .inr ⟨_, rfl, hl, hm, fun i hi => ?_⟩
    obtain ⟨cs', h1, h2⟩ := hx i (by rw [hmm]; split <;> omega)
    rw [c37] at h1
    obtain ⟨_, hlen, hcell⟩ := World.cells?_some h1
    obtain ⟨f0, f1, f2, hu, ⟨t0, t1, t2⟩, ⟨o0, o1, o2⟩⟩ := deed_fields
    obtain ⟨xs, k, hk, hxy, _, hxl, hf⟩ := DataW.trod_struct hu h2
    match xs, hxl, cs', hlen with
    | [y0, y1, y2], _, [v0, v1, v2, v3, v4, v5, v6, v7, v8], _ =>
      have g0 := hf 0 f0 rfl
      have g1 := hf 1 f1 rfl
      have g2 := hf 2 f2 rfl
      rw [t0, o0, c3'] at g0
      rw [t1, o1, c33] at g1
      rw [t2, o2, c35] at g2
      obtain ⟨k0, e0, _, w0⟩ := DataW.trod_int Try.underlying3 (show DataW.trod enc Try.prog w base spare held k 3 [v0] = some y0 from g0)
      obtain ⟨k1, k2, k3, ⟨e1, e2, e3⟩, w1⟩ := back_open (show DataW.trod enc Try.prog w base spare held k 33 [v1, v2, v3] = some y1 from g1)
      obtain ⟨k4, k5, k6, k7, k8, ⟨e4, e5, e6, e7, e8⟩, w5, w6⟩ := tup_open (show DataW.trod enc Try.prog w base spare held k 35 [v4, v5, v6, v7, v8] = some y2 from g2)
      simp only [List.cons.injEq, and_true] at e0
      subst e0 e1 e2 e3 e4 e5 e6 e7 e8
      refine ⟨⟨k0, k1, k2, k3, k4, k5, k6, k7, k8⟩, ⟨⟨w0, w1⟩, w5, w6⟩, fun j v hv => ?_⟩
      have hj : j < 9 := by have := (List.getElem?_eq_some_iff.1 hv).1; simpa [Dd.row] using this
      have e := hcell j (by omega)
      rw [add_add] at e
      rw [e]
      simp only [Dd.row] at hv
      exact hv
theorem DeedsIn.len {w : World} {a : Option Addr} {len cap : Nat} (h : DeedsIn w a len cap) : len ≤ cap ∧ cap ≤ maxLen := by
  rcases h with ⟨_, rfl, rfl⟩ | ⟨x, _, h1, h2, _⟩
  · exact ⟨Nat.le_refl _, by decide⟩
  · exact ⟨h1, h2⟩
theorem add_off (x : Addr) (i j : Nat) : ({ block := (x.add i).block, off := (x.add i).off + (j + 1) } : Addr) = x.add (i + (j + 1)) := by
  by_cases e : i = 0
  · subst e; simp [Addr.add]
  · simp [Addr.add, e, Nat.add_assoc]
/-- A deed's cells, as they are read. -/
structure DCells (y : Addr) (d : Dd) (W : World) : Prop where
  c0 : W.cell? y = some (.int .i64 d.kind)
  c1 : W.cell? { block := y.block, off := y.off + 1 } = some (.int .i64 d.id)
  c2 : W.cell? { block := y.block, off := y.off + 2 } = some (.int .u32 d.a)
  c3 : W.cell? { block := y.block, off := y.off + 3 } = some (.int .i64 d.pt)
  c4 : W.cell? { block := y.block, off := y.off + 4 } = some (.int .i64 d.pr)
  c5 : W.cell? { block := y.block, off := y.off + 5 } = some (.int .u32 d.s)
  c6 : W.cell? { block := y.block, off := y.off + 6 } = some (.int .u32 d.d)
  c7 : W.cell? { block := y.block, off := y.off + 7 } = some (.int .i64 d.x)
  c8 : W.cell? { block := y.block, off := y.off + 8 } = some (.int .i64 d.y)
theorem DeedsIn.read {w wr : World} {a : Option Addr} {len cap i : Nat} (h : DeedsIn w a len cap) (hb : Below w.heap.size w wr) (hi : i < len) : ∃ (x : Addr) (d : Dd), a = some x ∧ d.wide ∧ DCells (x.add (i * 9)) d wr := by
  rcases h with ⟨_, e, _⟩ | ⟨x, rfl, _, _, h⟩
  · omega
  · obtain ⟨d, hd, hc⟩ := h i hi
    have q := fun (j : Nat) (v : Value) (hv : d.row[j]? = some v) => (hb.cell (World.block_lt_of_cell? _ _ (hc j v hv))).trans (hc j v hv)
    exact ⟨x, d, rfl, hd, q 0 _ rfl, by rw [add_off]; exact q 1 _ rfl, by rw [add_off]; exact q 2 _ rfl, by rw [add_off]; exact q 3 _ rfl, by rw [add_off]; exact q 4 _ rfl, by rw [add_off]; exact q 5 _ rfl, by rw [add_off]; exact q 6 _ rfl, by rw [add_off]; exact q 7 _ rfl, by rw [add_off]; exact q 8 _ rfl⟩
/-- A mark of a loop that has been left. -/
def mark (D : Nat) : Deferred := { target := .collected D, args := #[] }
end Go.Proofs.Ytlipkffnllmkgaa

namespace Go.Proofs.Ytlipkffnllmkgaa
open Go Go.RowKit

/-- An iterator's contract for callers whose invariants abide whatever turn of a later block that is no cells: an iterator that hands on what another one hands it has it, too. -/
def SeqOwn {α : Type} (F : Fence) (n : Nat) (P : Program) (g : Nat) (lb : Array Value) (encs : α → Array Value) (Kp : World → World → Prop) (S Sp : List α → Prop) (N : Nat) (w : World) : Prop :=
  ∀ (l : Nat) (J Jx : List α → World → Prop) (W : World), Below w.heap.size w W → w.heap.size + 2 ≤ W.heap.size → OwnFrom W.heap.size J → OwnFrom W.heap.size Jx →
    (∀ pre x W1, Sp (pre ++ [x]) → J pre W1 → pre.length < N → YieldAt F (n - 1) P l (encs x) W1 fun e W' =>
      (e = .returned (.bool true) ∧ J (pre ++ [x]) W' ∧ Kp W1 W') ∨ (e = .returned (.bool false) ∧ Jx (pre ++ [x]) W' ∧ Kp W1 W')) →
    J [] W →
    CallsIn F n P g (#[.func (.yield l) #[] #[]] ++ lb) W fun e W' => (∃ v, e = .returned v) ∧ ((∃ xs, S xs ∧ J xs W') ∨ (∃ pre, Sp pre ∧ Jx pre W'))

/-- A loop's two blocks: where the rounds' deferred calls go, and the record in a state. -/
def LoopAt (L : Nat) (r : Loop) (W : World) : Prop := W.heap[L + 1]? = some (.loop r) ∧ W.heap[L]? = some (.deferred (some []))
theorem LoopAt.turn {L : Nat} {r : Loop} {W W' : World} {row : Option Nat} (h : LoopAt L r W) (hg : W.grownBy W' row) (hr : ∀ j, row = some j → L + 2 ≤ j) : LoopAt L r W' := by
  have h1 := (Array.getElem?_eq_some_iff.1 h.1).1
  exact ⟨(hg.block _ h1 (fun e => by have := hr _ e.symm; omega)).trans h.1, (hg.block _ (by omega) (fun e => by have := hr _ e.symm; omega)).trans h.2⟩
theorem LoopAt.kept {L : Nat} {r : Loop} {W W' : World} (h : LoopAt L r W) (hk : KeepsFrom L W W') : LoopAt L r W' := ⟨hk.same _ _ (by omega) h.1 rfl, hk.same _ _ (Nat.le_refl _) h.2 rfl⟩
theorem LoopAt.put {L : Nat} {r : Loop} {W : World} (h : LoopAt L r W) (r' : Loop) : LoopAt L r' (W.putObj (L + 1) (.loop r')) :=
  ⟨World.putObj_heap_same (Array.getElem?_eq_some_iff.1 h.1).1, (World.putObj_heap_other (by omega)).trans h.2⟩
/-- How a round's body is left: its word is kept in every way. -/
def OwnEnd {α : Type} (L : Nat) (Kp : World → World → Prop) (I : List α → World → Prop) (Ix : Code → List α → World → Prop) (xs : List α) (W : World) : Exit → Act → World → Prop
  | .normal, _, W' => KeepsFrom L W W' ∧ Kp W W' ∧ I xs W'
  | .ret, _, W' => KeepsFrom L W W' ∧ Kp W W' ∧ Ix .ret xs W'
  | .exit id, _, W' => KeepsFrom L W W' ∧ Kp W W' ∧ Ix (.exit id) xs W'
  | .goto t, _, W' => KeepsFrom L W W' ∧ Kp W W' ∧ Ix (.goto t) xs W'
  | _, _, _ => False
variable {F : Fence} {n : Nat} {P : Program}
/-- The loop over such an iterator. -/
theorem range_own {α : Type} {g : Operand} {ps : Array Tmp} {assign body : Code} {Q : Exit → Act → World → Prop} {a : Act} {w : World}
    (hro : F.round = none) (h1 : 1 ≤ n) {gf : Nat} {lb : Array Value} (hg : a.eval g = .func (.func gf) #[] lb) (hFg : F.fn gf) (eg : ∀ args w, (callFunc gf args).run P w = .ok (.enter gf args) w)
    {encs : α → Array Value} {Kp : World → World → Prop} {S Sp : List α → Prop} {N : Nat} {w0 : World} (hseq : SeqOwn F (n - 1) P gf lb encs Kp S Sp N w0)
    (hKt : ∀ {A B C : World}, Kp A B → Kp B C → Kp A C) (hKb : ∀ (W : World) (o : Obj), Kp W (W.putObj (w.heap.size + 1) o)) (hb0 : Below w0.heap.size w0 w) (hps : ∀ x, (encs x).size = ps.size)
    (I : List α → World → Prop) (Ix : Code → List α → World → Prop) (hI : OwnFrom w.heap.size I) (hIx : ∀ c, OwnFrom w.heap.size (Ix c)) (h0 : I [] w) (Ax : α → Act → World → Prop) (hAx : ∀ x a', OwnFrom w.heap.size (fun (_ : Unit) W => Ax x a' W))
    (hassign : ∀ (l : Nat) (pre : List α) (x : α) (W : World) (K : Act → World → Prop), I pre W → (∀ a' W', KeepsFrom w.heap.size W W' → Kp W W' → I pre W' → Ax x a' W' → K a' W') →
      assign.wpIn (F.inRound l) (n - 1 - 1) P (Exit.then K (fun _ _ _ => False)) { tmps := (ps.zip (encs x)).foldl (fun t (p, v) => t.setIfInBounds p v) a.tmps, defers := [] } W)
    (hbody : ∀ (l : Nat) (pre : List α) (x : α) (a' : Act) (W : World), I pre W → Ax x a' W → w.heap.size + 1 < W.heap.size → pre.length < N → Sp (pre ++ [x]) → body.wpIn (F.inRound l) (n - 1 - 1) P (OwnEnd w.heap.size Kp I Ix (pre ++ [x]) W) a' W)
    (hdone : ∀ (xs : List α) (W : World), S xs → I xs W → W.heap[w.heap.size]? = some (.deferred (some [])) → Q .normal { a with defers := { target := .collected w.heap.size, args := #[] } :: a.defers } W)
    (hstop : ∀ (c : Code) (pre : List α) (W : World), Sp pre → Ix c pre W → W.heap[w.heap.size]? = some (.deferred (some [])) → c.wpIn F n P Q { a with defers := { target := .collected w.heap.size, args := #[] } :: a.defers } W) :
    (Code.rangeFunc g ps assign body).wpIn F n P Q a w := by
  refine wpIn_rangeFunc fun fn hfn => ?_
  rw [hro]
  obtain ⟨L, hL⟩ : ∃ L, w.heap.size = L := ⟨_, rfl⟩
  obtain ⟨R, hR⟩ : ∃ R : LoopState → Option Code → Loop, R = fun st pe => { state := st, pending := pe, fn, tmps := a.tmps, params := ps, assign, body, defers := L } := ⟨_, rfl⟩
  obtain ⟨Wl, hWl⟩ : ∃ Wl, (w.alloc (.deferred (some []))).alloc (.loop (R .ready none)) = Wl := ⟨_, rfl⟩
  have hsz : Wl.heap.size = L + 2 := by rw [← hWl, World.size_alloc, World.size_alloc, hL]
  have hrun := run_enterLoop_outer (P := P) (w := w) fn a.tmps ps assign body
  have hat : LoopAt L (R .ready none) Wl := by
    have e1 := World.alloc_heap_new w (.deferred (some []))
    have e2 := World.alloc_heap_new (w.alloc (.deferred (some []))) (.loop (R .ready none))
    rw [World.size_alloc, hL] at e2
    rw [hL] at e1
    rw [← hWl]
    exact ⟨e2, (Below.heap_alloc _ _ _ (by simp; omega)).trans e1⟩
  have hbel : Below w.heap.size w Wl := by rw [← hWl]; exact ((Below.refl _ w).alloc (Nat.le_refl _) _).alloc (by simp) _
  have hIl : I [] Wl := by rw [← hWl]; exact hI.alloc _ (hI.alloc _ h0)
  rw [hL] at hI hIx hAx hassign hbody hdone hstop hKb hrun
  have hrunR : (Instr.enterLoop fn a.tmps ps assign body none).run P w = .ok (L + 1, [{ target := .collected L, args := #[] }]) Wl := by rw [hrun, ← hWl, hR]
  refine ⟨L + 1, [{ target := .collected L, args := #[] }], Wl, { target := .fn (.func gf) lb, args := #[.func (.yield (L + 1)) #[] #[]] }, Wl, gf, #[.func (.yield (L + 1)) #[] #[]] ++ lb, Wl, hrunR, ?_, ?_, ?_, fun _ => h1, ?_⟩
  · simp only [resolve, hg]
    simp [go_sem]
  · intro f' hf'
    simp [Target.leads] at hf'
    subst hf'
    exact hFg
  · simp [invoke, go_sem, eg]
  · have hnc : ∀ {A : World} {row : Option Nat}, (∀ r, row = some r → Wl.heap.size ≤ r ∧ ∃ o : Obj, A.heap[r]? = some o ∧ o.isCells = false) → (∀ r, row = some r → L ≤ r ∧ ∃ o : Obj, A.heap[r]? = some o ∧ o.isCells = false) :=
      fun h r e => ⟨by have := (h r e).1; omega, (h r e).2⟩
    have hlo : ∀ {A : World} {row : Option Nat}, (∀ r, row = some r → Wl.heap.size ≤ r ∧ ∃ o : Obj, A.heap[r]? = some o ∧ o.isCells = false) → (∀ r, row = some r → L + 2 ≤ r) :=
      fun h r e => by have := (h r e).1; omega
    have hc := hseq (L + 1) (fun pre W => I pre W ∧ LoopAt L (R .ready none) W) (fun pre W => ∃ c, Ix c pre W ∧ LoopAt L (R .done (some c)) W) Wl (hb0.trans (hbel.mono hb0.size)) (by have := hb0.size; omega)
      (fun s A B row hs hg' hr => ⟨hI s A B row hs.1 hg' (hnc hr), hs.2.turn hg' (hlo hr)⟩)
      (fun s A B row hs hg' hr => by
        obtain ⟨c, h2, h3⟩ := hs
        exact ⟨c, hIx c s A B row h2 hg' (hnc hr), h3.turn hg' (hlo hr)⟩)
      (fun pre x W hsp hJ hlen => ?round) ⟨hIl, hat⟩
    case round =>
      obtain ⟨hi, hl⟩ := hJ
      have hps2 : (encs x).size = (R .ready none).params.size := by rw [hR]; exact hps x
      have hy := run_yield (P := P) (args := encs x) hl.1 hps2
      rw [hR] at hy
      refine ⟨fn, _, assign, body, hy, roundIn_of_wpIn hfn (hassign _ pre x W _ hi fun a' Wa hka hpa hia hax => ⟨_, run_beginRound (hl.kept hka).1 (by rw [hR]), ?_⟩)⟩
      have hla := hl.kept hka
      have hlt := (Array.getElem?_eq_some_iff.1 hla.1).1
      have hl2 : LoopAt L (R .busy none) (Wa.putObj (L + 1) (.loop (R .busy none))) := hla.put _
      have hi2 := hI.putObj (.loop (R .busy none)) hia (by omega) hla.1 rfl
      have hax2 := (hAx x a').putObj (s := ()) (.loop (R .busy none)) hax (by omega) hla.1 rfl
      have hbusy : ({ R .ready none with state := LoopState.busy } : Loop) = R .busy none := by rw [hR]
      rw [hbusy]
      have hbd := hbody (L + 1) pre x a' _ hi2 hax2 (by simp; omega) hlen hsp
      refine wpIn_mono hbd ?_
      have hend : ∀ (jump : Option Code) (W3 : World), KeepsFrom L (Wa.putObj (L + 1) (.loop (R .busy none))) W3 → LoopAt L (R .busy none) W3 ∧
          (Instr.endRound (L + 1) jump).run P W3 = .ok (.bool jump.isNone) (W3.putObj (L + 1) (.loop (R (if jump.isNone then .ready else .done) jump))) := fun jump W3 hk => by
        have h3 := hl2.kept hk
        have := run_endRound (P := P) jump h3.1
        rw [hR] at this ⊢
        exact ⟨by rw [hR] at h3; exact h3, this⟩
      have hout : ∀ (c : Code) (W3 : World), KeepsFrom L (Wa.putObj (L + 1) (.loop (R .busy none))) W3 → Ix c (pre ++ [x]) W3 → ∃ c', Ix c' (pre ++ [x]) (W3.putObj (L + 1) (.loop (R .done (some c)))) ∧ LoopAt L (R .done (some c')) (W3.putObj (L + 1) (.loop (R .done (some c)))) := fun c W3 hk h4 =>
        ⟨c, (hIx c).putObj _ h4 (by omega) (hl2.kept hk).1 rfl, (hl2.kept hk).put _⟩
      rintro e a3 W3 hp
      cases e with
      | normal =>
        obtain ⟨hk3, hkp3, hi3⟩ := hp
        obtain ⟨h3, hr⟩ := hend none W3 hk3
        exact ⟨_, _, hr, .inl ⟨rfl, ⟨hI.putObj _ hi3 (by omega) h3.1 rfl, h3.put _⟩, hKt hpa (hKt (hKt (hKb _ _) hkp3) (hKb _ _))⟩⟩
      | ret =>
        obtain ⟨hk3, hkp3, hi3⟩ := hp
        exact ⟨_, _, (hend (some .ret) W3 hk3).2, .inr ⟨rfl, hout _ _ hk3 hi3, hKt hpa (hKt (hKt (hKb _ _) hkp3) (hKb _ _))⟩⟩
      | exit id =>
        obtain ⟨hk3, hkp3, hi3⟩ := hp
        exact ⟨_, _, (hend (some (.exit id)) W3 hk3).2, .inr ⟨rfl, hout _ _ hk3 hi3, hKt hpa (hKt (hKt (hKb _ _) hkp3) (hKb _ _))⟩⟩
      | goto t =>
        obtain ⟨hk3, hkp3, hi3⟩ := hp
        exact ⟨_, _, (hend (some (.goto t)) W3 hk3).2, .inr ⟨rfl, hout _ _ hk3 hi3, hKt hpa (hKt (hKt (hKb _ _) hkp3) (hKb _ _))⟩⟩
      | panic ch => exact hp.elim
      | outgrown => exact hp.elim
    refine hc.mono ?_
    rintro e W2 ⟨⟨v, rfl⟩, (⟨xs, hS, hi, hl⟩ | ⟨pre, hSp, c, hi, hl⟩)⟩
    · have hfin := run_endLoop (P := P) hl.1 (by rw [hR]; simp)
      have hd := hdone xs _ hS (hI.putObj (.loop { R .ready none with state := .exhausted }) hi (by omega) hl.1 rfl) ((World.putObj_heap_other (by omega)).trans hl.2)
      refine ⟨none, _, ?_, hd⟩
      rw [hfin, hR]
    · have hfin := run_endLoop (P := P) hl.1 (by rw [hR]; simp)
      have hd := hstop c pre _ hSp ((hIx c).putObj (.loop { R .done (some c) with state := .exhausted }) hi (by omega) hl.1 rfl) ((World.putObj_heap_other (by omega)).trans hl.2)
      refine ⟨some c, _, ?_, hd⟩
      rw [hfin, hR]
end Go.Proofs.Ytlipkffnllmkgaa

namespace Go.Proofs.Ytlipkffnllmkgaa
open Go.RowKit Go.Shelf Go.Maps Go.Sort
attribute [local go_sem] Oper.semAt_some

set_option maxRecDepth 100000 in
set_option maxHeartbeats 2000000 in
theorem all1_next (l B Bx Xp X M O nn : Nat) (E : Nat → Prop) (p : Po) (ks : List Int) (J Jx : List Mem → World → Prop) (W0 : World)
    (hJ : AbidesFrom W0.heap.size J)
    (hY : ∀ pre x m W, x ∈ ks → p.all x = some m → (pre ++ [m]) <+: ks.filterMap p.all → J pre W → pre.length < ks.length → YieldAt Fence.wide 7 Try.prog l #[.agg #[.int .i64 m.id, .int .u32 m.addr, .int .i64 m.port], .int .i64 m.state] W fun e W' =>
      (e = .returned (.bool true) ∧ J (pre ++ [m]) W' ∧ KeepP B E W W') ∨ (e = .returned (.bool false) ∧ Jx (pre ++ [m]) W'))
    (hBx : W0.heap[Bx]? = some (.cells #[.pointer (some ⟨Xp, 0, none⟩)] 24 (0, 0))) (hXp : W0.heap[Xp]? = some (poolCells p X M O)) (hM : MapIs M nn p.allV W0) (hks : KeysOf p.all ks) (hn : nn ≤ 1000000)
    (hB : M < B ∧ B ≤ W0.heap.size) (hE : ¬ E Bx ∧ ¬ E Xp ∧ ¬ E M ∧ ∀ i, E i → i < B) (h0 : J [] W0) :
    CallsIn Fence.wide 8 Try.prog 25 #[.func (.yield l) #[] #[], .pointer (some ⟨Bx, 0, none⟩)] W0 fun e W' => (∃ v, e = .returned v) ∧
      (J (ks.filterMap p.all) W' ∨ (∃ pre, pre <+: ks.filterMap p.all ∧ Jx pre W')) := by
  have hksV : KeysOf p.allV ks := hks.of (fun x => by unfold Po.allV; cases p.all x <;> rfl)
  have HJ := Lib.hid hJ
  have HY := Lib.hid hY
  have HM := Lib.hid hM
  have HK := Lib.hid hks
  have H0 := Lib.hid h0
  have HXP := Lib.hid hXp
  have HBX := Lib.hid hBx
  have c0 := (cell1 hBx).1
  have c3 := (cells6 hXp).1.2.2.2.1
  have hsz := (Array.getElem?_eq_some_iff.1 hBx).1
  have hMl := hM.lt
  have hkl : ks.length ≤ 1000000 := by
    obtain ⟨D, ks', _, h1, h2, _⟩ := hM.keys
    rw [h1.one hksV] at h2
    omega
  by_cases hk0 : ks = []
  · subst hk0
    have HS := Lib.hid (sorted26_nil hM hn hksV)
    clear hJ hY hBx hXp hM hks h0 hksV
    refine callsIn_of_wp Try.func25 rfl trivial ?_ rfl
    simp only [Try.ntmps25, List.size_toArray, List.length_cons, List.length_nil, Nat.reduceAdd, Nat.reduceSub, Array.replicate_succ, Array.replicate_zero, List.push_toArray, List.append_toArray, List.nil_append, List.cons_append]
    gi_wp2_with (first
      | (refine ⟨trivial, ?_⟩; gi_at_call 27; refine (keys27 _ _).mono ?_; rintro e w1 ⟨rfl, rfl⟩)
      | (refine ⟨trivial, ?_⟩; gi_at_call 26; refine HS.out.mono ?_; rintro e w2 ⟨rfl, hb⟩; have HHB := Lib.hid hb; clear hb))
    have HJ1 := Lib.hid (HJ.out _ _ w2 none H0.out ⟨HHB.out.os, HHB.out.tape, HHB.out.output, HHB.out.size, fun k hk _ => HHB.out.block k hk⟩ (fun r e => by cases e))
    gi_loopw [12] (fun i wr => i = .int .i64 0 ∧ J [] wr) (fun _ _ => 0)
    case atStart => exact ⟨rfl, HJ1.out⟩
    case round =>
      obtain ⟨rfl, hJr⟩ := hrel
      have HJR := Lib.hid hJr
      clear hJr
      gi_wp2
      go_end0
      exact ⟨⟨_, rfl⟩, .inl HJR.out⟩
  · have HS := Lib.hid (sorted26_some hM hn hksV hk0)
    clear hJ hY hBx hXp hM hks h0 hksV
    refine callsIn_of_wp Try.func25 rfl trivial ?_ rfl
    simp only [Try.ntmps25, List.size_toArray, List.length_cons, List.length_nil, Nat.reduceAdd, Nat.reduceSub, Array.replicate_succ, Array.replicate_zero, List.push_toArray, List.append_toArray, List.nil_append, List.cons_append]
    gi_wp2_with (first
      | (refine ⟨trivial, ?_⟩; gi_at_call 27; refine (keys27 _ _).mono ?_; rintro e w1 ⟨rfl, rfl⟩)
      | (refine ⟨trivial, ?_⟩; gi_at_call 26; refine HS.out.mono ?_; rintro e w2 ⟨g, cap, cur, rfl, hgW, hat, hcl, hcm, hcr, hb⟩; have HHB := Lib.hid hb; have HAT := Lib.hid hat; have HCR := Lib.hid hcr; clear hb hat hcr))
    have HJ1 := Lib.hid (HJ.out _ _ w2 none H0.out ⟨HHB.out.os, HHB.out.tape, HHB.out.output, HHB.out.size, fun k hk _ => HHB.out.block k hk⟩ (fun r e => by cases e))
    have hXl := (Array.getElem?_eq_some_iff.1 HXP.out).1
    have HA0 := Lib.hid (show AllHeld Bx Xp X M O p g cur W0 w2 from ⟨(HHB.out.block _ hsz).trans HBX.out, (HHB.out.block _ hXl).trans HXP.out, HHB.out.block _ hMl, HAT.out⟩)
    clear c0 c3
    gi_loopw [12] (fun i wr => ∃ j : Nat, j ≤ ks.length ∧ i = .int .i64 (j : Int) ∧ AllHeld Bx Xp X M O p g cur W0 wr ∧ J ((ks.take j).filterMap p.all) wr) (fun i _ => ks.length - (intOf i).toNat)
    case atStart => exact ⟨0, Nat.zero_le _, rfl, HA0.out, HJ1.out⟩
    case round =>
      obtain ⟨j, hj, rfl, hA, hJr⟩ := hrel
      have HA := Lib.hid hA
      have HJR := Lib.hid hJr
      clear hA hJr
      by_cases hlt : j < ks.length
      · obtain ⟨x, m, e1, e2, e3, e4⟩ := HK.out.get hlt
        have hlt2 : (j : Int) < (ks.length : Int) := by omega
        have hj6 : (j : Int) < 1000000 := by omega
        have d0 := row_cell HA.out.row HCR.out e1
        have hlen : ((ks.take j).filterMap p.all).length < ks.length := by rw [HK.out.taken j hj]; exact hlt
        have HT := Lib.hid (take_more (f := p.all) e1 e4)
        have HP1 := Lib.hid (take_pre p.all ks (j + 1))
        have hv : p.allV x = some m.val := by unfold Po.allV; rw [e4]; rfl
        obtain ⟨mi, ma, mp, ms, mb⟩ := m
        have HG := Lib.hid (show wr.drew.cell? ⟨Bx, 0, none⟩ = some (.pointer (some ⟨Xp, 0, none⟩)) ∧ wr.drew.cell? ⟨Xp, 3, none⟩ = some (.map (some M)) ∧ (Instr.lookup 63 (.map (some M)) (.int .i64 x) false).run Try.prog wr.drew = .ok (.agg #[.int .i64 mi, .int .u32 ma, .int .i64 mp, .int .i64 ms, .int .i64 mb]) wr.drew from ⟨(cell1 HA.out.bx).1, (cells6 HA.out.xp).1.2.2.2.1, lookD HA.out.m HM.out e3 hv⟩)
        have hJd := HJ.out _ _ wr.drew none HJR.out ⟨rfl, rfl, rfl, Nat.le_refl _, fun _ _ _ => rfl⟩ (fun r e => by cases e)
        obtain ⟨fn, tmps, assign, body, hy, hR⟩ := HY.out _ x _ wr.drew e2 e4 (by rw [← HT.out]; exact HP1.out) hJd hlen
        dsimp only at hy
        have HR := Lib.hid hR
        clear hv hR hJd hlen e1 e4
        gi_wp2
        refine I.wpIn_G (Good := fun W : World => W.cell? ⟨Bx, 0, none⟩ = some (.pointer (some ⟨Xp, 0, none⟩)) ∧ W.cell? ⟨Xp, 3, none⟩ = some (.map (some M)) ∧ (Instr.lookup 63 (.map (some M)) (.int .i64 x) false).run Try.prog W = .ok (.agg #[.int .i64 mi, .int .u32 ma, .int .i64 mp, .int .i64 ms, .int .i64 mb]) W) (fun _ => trivial) 15 0 [0, 1, 2, 3, 4, 5, 6, 7, 8, 9, 10, 11, 12, 13, 14] (by kernel_rfl) (by kernel_rfl) (by kernel_rfl) (by kernel_rfl) (by kernel_rfl) (by kernel_rfl) rfl (fun o _ _ _ _ h => by cases o <;> exact h) (by kernel_rfl) HG.out ?_
        iterate 15 (refine I.stepsG_cons (v := ?_) rfl rfl rfl (fun wg hw => ?_) ?_; rotate_left; (obtain ⟨g1, g2, g3⟩ := hw; have hf0 := (field77 mi ma mp ms mb wg).1; have hf1 := (field77 mi ma mp ms mb wg).2; go_simp; try with_reducible rfl); go_simp)
        refine ⟨by kernel_rfl, ?_⟩
        gi_wp2
        refine HR.out.mono ?_
        rintro e W3 (⟨rfl, hJ4, hk4⟩ | ⟨rfl, hJx4⟩)
        · have hEg : ¬ E g := fun e => by have := hE.2.2.2 g e; omega
          have HJ4 := Lib.hid hJ4
          have HA4 := Lib.hid ((show AllHeld Bx Xp X M O p g cur W0 wr.drew from ⟨HA.out.bx, HA.out.xp, HA.out.m, HA.out.row⟩).keep hk4 hMl hB.1 hE.1 hE.2.1 hE.2.2.1 hEg)
          clear hJ4 hk4
          gi_wp2
          go_roundw
          case rel => exact ⟨j + 1, by omega, by go_num, HA4.out, by rw [HT.out]; exact HJ4.out⟩
          case measure => simp [intOf]; omega
        · gi_wp2
          refine bodyPost_ret (results_none rfl _ _ _) rfl ?_
          refine ⟨⟨_, rfl⟩, .inr ⟨_, ?_, hJx4⟩⟩
          rw [← HT.out]
          exact HP1.out
      · have hge : ¬ (j : Int) < (ks.length : Int) := by omega
        gi_wp2
        go_end0
        obtain rfl : j = ks.length := by omega
        refine ⟨⟨_, rfl⟩, .inl ?_⟩
        have := HJR.out
        rwa [List.take_length] at this
end Go.Proofs.Ytlipkffnllmkgaa

namespace Go.Proofs.Ytlipkffnllmkgaa
open Go.RowKit Go.Shelf Go.Maps

theorem walk_cells {o : Obj} (h : o.isWalk = true) : o.isCells = false := by cases o <;> first | rfl | cases h
theorem own_abides {β : Type} {B : Nat} {J : β → World → Prop} (h : OwnFrom B J) : AbidesFrom B J := fun s W W' row hs hg hr => h s W W' row hs hg (fun r e => by
  obtain ⟨h1, o, h2, h3⟩ := hr r e
  exact ⟨h1, o, h2, walk_cells h3⟩)
/-- The iterator of All: a round is told that what it is handed is the next one. -/
theorem all25_own {B Xp N Bx : Nat} {S : Nat → Prop} {p : Po} {w : World} {ks : List Int} (h : PoolAt B S Xp N p w) (hBx : w.heap[Bx]? = some (.cells #[.pointer (some ⟨Xp, 0, none⟩)] 24 (0, 0))) (hks : KeysOf p.all ks) (hN : N ≤ 1000000) {E : Nat → Prop} (hE1 : ∀ i, E i → i < w.heap.size + 2) (hE2 : ¬ E Bx) (hE3 : ∀ i, E i → ¬ S i) :
    SeqOwn Fence.wide 8 Try.prog 25 #[.pointer (some ⟨Bx, 0, none⟩)] (fun m : Mem => #[Value.agg #[.int .i64 m.id, .int .u32 m.addr, .int .i64 m.port], .int .i64 m.state]) (KeepP (w.heap.size + 2) E) (fun ys => ys = ks.filterMap p.all) (fun pre => pre <+: ks.filterMap p.all) ks.length w := by
  intro lp J Jx W1 hb hl hJ hJx hY h0
  obtain ⟨Sa, X, M, O, n, hP, hn, hB⟩ := h
  have hP1 := hP.below hb
  have hMl := hP.low _ hP.mem.2.1
  refine (all1_next lp (w.heap.size + 2) Bx Xp X M O n E p ks J Jx W1 (own_abides hJ) (fun pre x m W hx hm hpre hj hlen => ?_) ((hb.block _ (Array.getElem?_eq_some_iff.1 hBx).1).trans hBx) hP1.cells hP1.all hks (Nat.le_trans hn hN) ⟨by omega, hl⟩ ⟨hE2, fun e => hE3 _ e hP.mem.1, fun e => hE3 _ e hP.mem.2.1, hE1⟩ h0).mono ?_
  · refine YieldAt.mono (hY pre m W hpre hj hlen) ?_
    rintro e W' (⟨h1, h2, h3⟩ | ⟨h1, h2, _⟩)
    · exact .inl ⟨h1, h2, h3⟩
    · exact .inr ⟨h1, h2⟩
  · rintro e W' ⟨hv, h⟩
    refine ⟨hv, ?_⟩
    rcases h with h | ⟨pre, h1, h2⟩
    · exact .inl ⟨_, rfl, h⟩
    · exact .inr ⟨pre, h1, h2⟩
end Go.Proofs.Ytlipkffnllmkgaa

namespace Go.Proofs.Ytlipkffnllmkgaa
open Go.RowKit Go.Shelf Go.Maps Go.Lib
attribute [local go_sem] Oper.semAt_some

theorem wpIn_genA {F : Fence} {n : Nat} {P : Program} {c : Code} {Q : Exit → Act → World → Prop} {w : World} (a : Act) (h : ∀ A, A = a → c.wpIn F n P Q A w) : c.wpIn F n P Q a w := h a rfl
theorem box_cell {w : World} {b : Nat} {v : Value} {t : TypeId} (h : w.heap[b]? = some (.cells #[v] t (0, 0))) : w.cell? ⟨b, 0, none⟩ = some v ∧ w.frozen? ⟨b, 0, none⟩ = false := by
  constructor <;> simp [World.cell?, World.frozen?, h]
theorem boxSet {w : World} {b : Nat} {v : Value} {t : TypeId} (h : w.heap[b]? = some (.cells #[v] t (0, 0))) (u : Value) : (w.setCell ⟨b, 0, none⟩ u).heap[b]? = some (.cells #[u] t (0, 0)) := by
  simp [World.setCell, Array.getElem?_modify, h]
theorem set_else (w : World) (b : Nat) (u : Value) {k : Nat} (h : k ≠ b) : (w.setCell ⟨b, 0, none⟩ u).heap[k]? = w.heap[k]? := Below.heap_setCell _ _ _ _ h
theorem set_size (w : World) (b : Nat) (u : Value) : (w.setCell ⟨b, 0, none⟩ u).heap.size = w.heap.size := by simp [World.setCell]
/-- A function leaves with the marks of its loops. -/
theorem leaves_marks {fn : Func} {tmps : Array Value} {R : Ending → World → Prop} : ∀ (Ds : List Nat) (Y : World), Ds.Nodup → (∀ D ∈ Ds, Y.heap[D]? = some (.deferred (some []))) →
    (∀ Y' : World, Y'.os = Y.os → Y'.tape = Y.tape → Y'.output = Y.output → Y'.heap.size = Y.heap.size → (∀ i, i ∉ Ds → Y'.heap[i]? = Y.heap[i]?) → LeavesIn Fence.wide 9 Try.prog fn tmps R [] .returning Y') → LeavesInM Fence.wide 9 Try.prog fn tmps R (Ds.map mark) .returning Y
  | [], Y, _, _, h => h Y rfl rfl rfl rfl (fun _ _ => rfl)
  | D :: Ds, Y, hn, hd, h => by
    have hn2 := List.nodup_cons.1 hn
    refine ⟨by simp, .inl ⟨D, _, rfl, run_takeDeferred (hd D (List.mem_cons_self ..)), ?_⟩⟩
    refine leaves_marks Ds _ hn2.2 (fun D' hD' => ?_) (fun Y' h1 h2 h3 h4 h5 => ?_)
    · rw [World.putObj_heap_other (fun (e : D' = D) => hn2.1 (e ▸ hD'))]
      exact hd D' (List.mem_cons_of_mem _ hD')
    · refine h Y' h1 h2 h3 (h4.trans (by simp)) (fun i hi => ?_)
      rw [h5 i (fun e => hi (List.mem_cons_of_mem _ e)), World.putObj_heap_other (fun (e : i = D) => hi (e ▸ List.mem_cons_self ..))]
/-- What the law's loop keeps. -/
structure PlI (w : World) (B Xp XP C b2 i : Nat) (Ds : List Nat) (Y : World) : Prop where
  both : ∃ p N, Both B Xp XP N p p (Ds ++ [C, b2]) Y ∧ Cnt 65535 p ∧ N ≤ 2 * i
  boxC : Y.heap[C]? = some (.cells #[.pointer (some ⟨XP, 0, none⟩)] 28 (0, 0))
  boxR : Y.heap[b2]? = some (.cells #[.bool false] 4 (0, 0))
  nd : Ds.Nodup
  marks : ∀ D ∈ Ds, Y.heap[D]? = some (.deferred (some []))
  hi : ∀ D ∈ Ds, w.heap.size ≤ D
  below : Below w.heap.size w Y
  wb : w.heap.size ≤ B
theorem PlI.step {w : World} {B Xp XP C b2 i N : Nat} {p : Po} {Ds : List Nat} {Y Y' : World} (h : PlI w B Xp XP C b2 i Ds Y) (hq : Both B Xp XP N p p (Ds ++ [C, b2]) Y') (c : Cnt 65535 p) (ho : N ≤ 2 * (i + 1)) (hb : Below B Y Y') (hg : ∀ j ∈ Ds ++ [C, b2], Y'.heap[j]? = Y.heap[j]?) : PlI w B Xp XP C b2 (i + 1) Ds Y' :=
  ⟨⟨p, N, hq, c, ho⟩, (hg C (by simp)).trans h.boxC, (hg b2 (by simp)).trans h.boxR, h.nd, fun D hD => (hg D (List.mem_append_left _ hD)).trans (h.marks D hD), h.hi, h.below.trans (hb.mono h.wb), h.wb⟩
/-- The range's own: the count's box; all else lies. -/
structure AtI (w2 : World) (S0 m : Nat) (Y : World) : Prop where
  grown : w2.grownBy Y (some S0)
  box : Y.heap[S0]? = some (.cells #[.int .i64 (m : Int)] 3 (0, 0))
theorem AtI.own {α : Type} {w2 : World} {S0 : Nat} (h0 : S0 < w2.heap.size) : OwnFrom w2.heap.size (fun (pre : List α) Y => AtI w2 S0 pre.length Y) := by
  intro pre Y Y' row h hg hr
  refine ⟨⟨hg.os.trans h.grown.os, hg.tape.trans h.grown.tape, hg.output.trans h.grown.output, Nat.le_trans h.grown.size hg.size, fun i hi hne => ?_⟩, ?_⟩
  · exact (hg.block i (Nat.lt_of_lt_of_le hi h.grown.size) (fun e => by have := (hr i e.symm).1; omega)).trans (h.grown.block i hi hne)
  · exact (hg.block S0 (Nat.lt_of_lt_of_le h0 h.grown.size) (fun e => by have := (hr S0 e.symm).1; omega)).trans h.box
theorem AtI.alloc {w2 : World} {S0 m : Nat} {Y : World} (h0 : S0 < w2.heap.size) (h : AtI w2 S0 m Y) (o : Obj) : AtI w2 S0 m (Y.alloc o) :=
  ⟨⟨h.grown.os, h.grown.tape, h.grown.output, by have := h.grown.size; simp; omega, fun i hi hne => (Below.heap_alloc _ _ _ (Nat.lt_of_lt_of_le hi h.grown.size)).trans (h.grown.block i hi hne)⟩, (Below.heap_alloc _ _ _ (Nat.lt_of_lt_of_le h0 h.grown.size)).trans h.box⟩
theorem AtI.next {w2 : World} {S0 m : Nat} {Y : World} (h : AtI w2 S0 m Y) : KeepsFrom w2.heap.size Y (Y.setCell ⟨S0, 0, none⟩ (.int .i64 ((m : Int) + 1))) ∧ KeepP (w2.heap.size + 2) (fun i => i = S0 ∨ i = w2.heap.size + 1) Y (Y.setCell ⟨S0, 0, none⟩ (.int .i64 ((m : Int) + 1))) ∧ AtI w2 S0 (m + 1) (Y.setCell ⟨S0, 0, none⟩ (.int .i64 ((m : Int) + 1))) := by
  refine ⟨(KeepsOthers.setCell _ _ _).from _, ⟨by rw [set_size]; exact Nat.le_refl _, fun k o ho hk _ => (set_else _ _ _ (fun e => hk (.inl e))).trans ho⟩, ⟨⟨h.grown.os, h.grown.tape, h.grown.output, by rw [set_size]; exact h.grown.size, fun i hi hne => (set_else _ _ _ (fun e => hne (by rw [e]))).trans (h.grown.block i hi hne)⟩, ?_⟩⟩
  exact boxSet h.box _
theorem KeepP.rec {B L : Nat} {E : Nat → Prop} (h : E L) (W : World) (o : Obj) : KeepP B E W (W.putObj L o) := by
  refine ⟨by simp, fun b u hb hE _ => ?_⟩
  rw [World.putObj_heap_other (fun (e : b = L) => hE (e ▸ h))]
  exact hb
/-- What a round is handed lies in a box of its own. -/
def BoxM (lo bb : Nat) (m : Mem) (W : World) : Prop := W.heap[bb]? = some (.cells #[.int .i64 m.id, .int .u32 m.addr, .int .i64 m.port] 33 (0, 0)) ∧ lo ≤ bb
theorem BoxM.own {lo : Nat} {m : Mem} {a : Act} {f : Nat → Act} : OwnFrom lo (fun (_ : Unit) W => ∃ bb, a = f bb ∧ BoxM lo bb m W) := by
  rintro s Y Y' row ⟨bb, h1, h2, h3⟩ hg hr
  refine ⟨bb, h1, (hg.block bb (Array.getElem?_eq_some_iff.1 h2).1 (fun e => ?_)).trans h2, h3⟩
  obtain ⟨_, o, ho, hc⟩ := hr bb e.symm
  rw [h2] at ho
  cases ho
  cases hc
theorem BoxM.cells {lo bb : Nat} {m : Mem} {W : World} (h : BoxM lo bb m W) : W.cell? ⟨bb, 0, none⟩ = some (.int .i64 m.id) ∧ W.cell? ⟨bb, 1, none⟩ = some (.int .u32 m.addr) ∧ W.cell? ⟨bb, 2, none⟩ = some (.int .i64 m.port) := by
  have h1 := h.1
  refine ⟨?_, ?_, ?_⟩ <;> simp [World.cell?, h1]
theorem keepsFrom_below {B : Nat} {W W' : World} (h : Below W.heap.size W W') : KeepsFrom B W W' := ⟨h.size, fun k _ _ hk _ => (h.block k (Array.getElem?_eq_some_iff.1 hk).1).trans hk⟩
theorem Both.carry {B Xp XP N D S0 : Nat} {p q : Po} {G : List Nat} {w2 Y : World} (h : Both B Xp XP N p q (S0 :: G) w2) (hg : w2.grownBy Y (some S0)) (hD : w2.heap.size ≤ D ∧ D < Y.heap.size) : Both B Xp XP N p q (D :: G) Y := by
  obtain ⟨S, Q, h1, h2, h3, h4⟩ := h
  have h60 := h4 S0 (List.mem_cons_self ..)
  have hk : ∀ i, i < w2.heap.size → i ≠ S0 → Y.heap[i]? = w2.heap[i]? := fun i hi hne => hg.block i hi (fun e => hne (Option.some.inj e))
  have hl1 := h1.low.1
  have hl2 := h2.size.2.2
  refine ⟨S, Q, h1.kept (fun b hb => hk b (hl1 b hb) (fun e => h60.1 (e ▸ hb))) hg.size, h2.kept (fun b hb => hk b (hl2 b hb) (fun e => h60.2.1 (e ▸ hb))) hg.size, h3, fun i hi => ?_⟩
  rcases List.mem_cons.1 hi with rfl | hi
  · exact ⟨fun hS => by have := hl1 _ hS; omega, fun hQ => by have := hl2 _ hQ; omega, hD.2⟩
  · have := h4 i (List.mem_cons_of_mem _ hi)
    exact ⟨this.1, this.2.1, Nat.lt_of_lt_of_le this.2.2 hg.size⟩
/-- The reference's row, as it is read. -/
structure RowR (XP : Nat) (v : Value) (l : List Mem) (Y : World) : Prop where
  lt : XP < Y.heap.size
  cell : Y.cell? ⟨XP, 2, none⟩ = some v
  row : Y.ownsRow 0 48 5 v l.length (rowsM (l.map refM))
theorem Both.rows {B Xp XP N : Nat} {p q : Po} {G : List Nat} {Y : World} (h : Both B Xp XP N p q G Y) : ∃ l v, ListOf q l ∧ RowR XP v l Y ∧ XP ∉ G ∧ ∀ g, v.ownBlock = some g → g ∉ G := by
  obtain ⟨S, Q, h1, ⟨l, Qa, Z, gO, lv, k1, k2, hR, k3⟩, h3, h4⟩ := h
  obtain ⟨⟨_, _, b2, _, _⟩, _⟩ := hR.cells
  refine ⟨l, lv, k1, ⟨hR.low _ hR.mem.1, by rw [b2], by have := hR.row; rwa [List.length_map] at this⟩, fun hm => (h4 XP hm).2.1 hR.mem.1, fun g e hm => (h4 g hm).2.1 (hR.mem.2.2.1 g e)⟩
theorem PlI.leave {w : World} {B Xp XP C i : Nat} {Ds : List Nat} {Y : World} {b2 : Nat} (h : PlI w B Xp XP C b2 i Ds Y) (hb : w.heap.size = b2) {tmps : Array Value} (hr : ∀ Z : World, Z.cell? ⟨b2, 0, none⟩ = some (.bool true) → (results Try.f3 tmps).run Try.prog Z = .ok (.bool true) Z) :
    LeavesInM Fence.wide 9 Try.prog Try.f3 tmps (fun e w' => e = .returned (.bool true) ∧ Below w.heap.size w w') (Ds.map mark) .returning (Y.setCell ⟨b2, 0, none⟩ (.bool true)) := by
  have hne : ∀ D ∈ Ds, D ≠ b2 := fun D hD e => by
    have h1 := h.marks D hD
    rw [e, h.boxR] at h1
    cases h1
  refine leaves_marks Ds _ h.nd (fun D hD => (set_else _ _ _ (hne D hD)).trans (h.marks D hD)) (fun Y' h1 h2 h3 h4 h5 => ⟨.bool true, hr Y' ?_, rfl, ?_⟩)
  · have h6 := h5 b2 (fun hm => hne b2 hm rfl)
    exact (World.cell?_of_block h6).trans (box_cell (boxSet h.boxR (.bool true))).1
  · refine ⟨h1.trans h.below.os, h2.trans h.below.tape, h3.trans h.below.output, by rw [h4, set_size]; exact h.below.size, fun j hj => ?_⟩
    rw [h5 j (fun hm => by have := h.hi j hm; omega), set_else _ _ _ (by omega)]
    exact h.below.block j hj
theorem leave_plain {w Y : World} {b2 : Nat} {tmps : Array Value} (h1 : Y.cell? ⟨b2, 0, none⟩ = some (.bool true)) (h2 : Below w.heap.size w Y) (hr : ∀ Z : World, Z.cell? ⟨b2, 0, none⟩ = some (.bool true) → (results Try.f3 tmps).run Try.prog Z = .ok (.bool true) Z) :
    LeavesInM Fence.wide 9 Try.prog Try.f3 tmps (fun e w' => e = .returned (.bool true) ∧ Below w.heap.size w w') [] .returning Y := by
  refine leaves_marks [] _ List.nodup_nil (fun D hD => by cases hD) (fun Y' k1 k2 k3 k4 k5 => ⟨.bool true, hr Y' ?_, rfl, ?_⟩)
  · exact (World.cell?_of_block (k5 b2 (by simp))).trans h1
  · exact ⟨k1.trans h2.os, k2.trans h2.tape, k3.trans h2.output, by rw [k4]; exact h2.size, fun j hj => (k5 j (by simp)).trans (h2.block j hj)⟩
/-- Both pools, new. -/
theorem play_new {Xp XP r : Nat} {key : ByteArray} {wx wa wz : World} {G : List Nat} (h1 : PoolAt wx.heap.size (fun b => wx.heap.size ≤ b ∧ b < wa.heap.size) Xp 0 (newPo r key) wa) (hb : Below wx.heap.size wx wa) (h2 : NewR r key XP wa wz) (hG : ∀ i ∈ G, i < wx.heap.size) :
    Both wx.heap.size Xp XP 0 (newPo r key) (newPo r key) G wz := by
  have hb2 := h2.2
  have hs := hb.size
  have hs2 := hb2.size
  refine ⟨_, _, at_below h1 hb2, rat_new h2 hs, fun i hi hQ => ?_, fun i hi => ⟨fun hS => ?_, fun hQ => ?_, ?_⟩⟩
  · have := hi.2; have := hQ.1; omega
  · have := hS.1; have := hG i hi; omega
  · have := hQ.1; have := hG i hi; omega
  · have := hG i hi; omega
theorem pool_none (r : Int) (hr : r < 1 ∨ 65536 < r) (key : ByteArray) (w : World) :
    Calls Try.prog 7 #[.int .i64 r, .string key] w fun e w' => e = .returned (.tuple #[.pointer none, .int .i64 1]) ∧ Below w.heap.size w w' := by
  have HN := Lib.hid (fun w => new_bad r 1 w (by omega))
  go_enter Try.func7, Try.ntmps7
  go_wp2_with (go_at_call 18; refine (HN.out _).mono ?_; rintro e w2 h2; obtain ⟨rfl, hb⟩ := h2; have HB := Lib.hid hb; clear hb)
  go_ret2
  exact ⟨rfl, by rw [HB.out]; exact Below.refl _ _⟩
end Go.Proofs.Ytlipkffnllmkgaa

namespace Go.Proofs.Ytlipkffnllmkgaa
open Go.RowKit Go.Shelf Go.Maps Go.Lib
attribute [local go_sem] Oper.semAt_some

def keyK : ByteArray := { data := #[48, 49, 50, 51, 52, 53, 54, 55, 56, 57, 97, 98, 99, 100, 101, 102] }
theorem keyK_size : keyK.size = 16 := rfl
set_option maxRecDepth 100000 in
set_option maxHeartbeats 8000000 in
theorem plays_bad (room r : Int) (a1 : Option Addr) (len1 cap1 : Nat) (w : World) (hrb : -9223372036854775808 ≤ room ∧ room ≤ 9223372036854775807) (hr : r < 1 ∨ 65536 < r)
    (hcase : (r = room ∧ ¬ 12 < room) ∨ (12 < room ∧ room ≤ 65536 ∧ room.tmod 13 = r) ∨ (r = room ∧ 12 < room ∧ ¬ room ≤ 65536)) :
    Calls Try.prog 3 #[.int .i64 room, .slice a1 len1 cap1] w fun e w' => e = .returned (.bool true) ∧ Below w.heap.size w w' := by
  have HB0 := Lib.hid ((Below.refl w.heap.size w).alloc (Nat.le_refl _) (.cells #[.bool false] 4))
  have HR0 := Lib.hid (World.alloc_heap_new w (.cells #[.bool false] 4))
  refine calls_of_endsP Try.func3 rfl ?_
  simp only [Try.ntmps3, List.size_toArray, List.length_cons, List.length_nil, Nat.reduceAdd, Nat.reduceSub, Array.replicate_succ, Array.replicate_zero, List.push_toArray, List.append_toArray, List.nil_append, List.cons_append]
  go_wp2_with fail
  obtain ⟨wb, hwb⟩ : ∃ wb, w.alloc (.cells #[.bool false] 4) = wb := ⟨_, rfl⟩
  have hsb : w.heap.size < wb.heap.size := by rw [← hwb]; simp
  rw [hwb] at HB0 HR0
  rw [hwb]
  clear hwb
  obtain ⟨b2, hb2⟩ : ∃ b2, w.heap.size = b2 := ⟨_, rfl⟩
  have HB2 := Lib.hid hb2
  rw [hb2] at HR0
  rw [hb2]
  have hb2l : b2 < wb.heap.size := by omega
  clear hb2
  refine (examples13 wb).mono ?_
  rintro e wx ⟨rfl, hb⟩
  have HB := Lib.hid (HB0.out.trans (hb.mono (by omega)))
  have HRX := Lib.hid ((hb.block b2 hb2l).trans HR0.out)
  have hsx : wb.heap.size ≤ wx.heap.size := hb.size
  clear hb
  have HN7 := Lib.hid (fun W => pool_none r hr keyK W)
  have HN8 := Lib.hid (fun W => rnew_bad r hr keyK W)
  unfold keyK at HN7 HN8
  clear hr
  rcases hcase with ⟨rfl, h12⟩ | ⟨h12, h65, hmod⟩ | ⟨rfl, h12, h65⟩
  all_goals
    go_wp2_with (first
      | (go_at_call 7; refine (HN7.out _).mono ?_; rintro e wa ⟨rfl, hb⟩; have HA := Lib.hid hb; clear hb)
      | (go_at_call 8; refine (HN8.out _).mono ?_; rintro e wc ⟨rfl, hb⟩; have HC := Lib.hid hb; have c1 := (box_cell (World.alloc_heap_new wc (.cells #[.pointer none] 28))).1; have c0 := (box_cell ((hb.block b2 (by have := HA.out.size; omega)).trans ((HA.out.block b2 (by omega)).trans HRX.out))).1; have f0 := (box_cell ((hb.block b2 (by have := HA.out.size; omega)).trans ((HA.out.block b2 (by omega)).trans HRX.out))).2; have hs3 : b2 < wc.heap.size := (by have h1 := HA.out.size; have h2 := hb.size; omega); clear hb))
  all_goals
    have h1 := HB.out.size
    have h2 := HA.out.size
    have h3 := HC.out.size
    have hbw : Below w.heap.size w wc := HB.out.trans ((HA.out.mono h1).trans (HC.out.mono (by omega)))
    have hbx : wc.heap[b2]? = some (.cells #[.bool false] 4 (0, 0)) := (HC.out.block b2 (by omega)).trans ((HA.out.block b2 (by omega)).trans HRX.out)
    refine leave_plain (b2 := b2) ?_ ?_ ?_
    · exact (World.cell?_of_block (Below.heap_alloc _ _ _ (by rw [set_size]; omega))).trans (box_cell (boxSet hbx (.bool true))).1
    · have hset : Below w.heap.size w (wc.setCell ⟨b2, 0, none⟩ (.bool true)) := ⟨hbw.os, hbw.tape, hbw.output, by rw [set_size]; exact hbw.size, fun j hj => (set_else _ _ _ (by have := HB2.out; omega)).trans (hbw.block j hj)⟩
      exact hset.alloc (by rw [set_size]; omega) _
    · intro Z hZ
      simp [results, Try.f3, go_sem, hZ]

set_option maxRecDepth 100000 in
set_option maxHeartbeats 8000000 in
theorem plays_ok (room : Int) (r : Nat) (a1 : Option Addr) (len1 cap1 : Nat) (w : World) (w1 : DeedsIn w a1 len1 cap1) (hrb : -9223372036854775808 ≤ room ∧ room ≤ 9223372036854775807) (hr1 : 1 ≤ r) (hr2 : r ≤ 12)
    (hcase : ((r : Int) = room ∧ ¬ 12 < room) ∨ (12 < room ∧ room ≤ 65536 ∧ room.tmod 13 = (r : Int))) :
    Calls Try.prog 3 #[.int .i64 room, .slice a1 len1 cap1] w fun e w' => e = .returned (.bool true) ∧ Below w.heap.size w w' := by
  have W0 := Lib.hid w1
  have hl0 := w1.len
  unfold maxLen at hl0
  clear w1
  have HB0 := Lib.hid ((Below.refl w.heap.size w).alloc (Nat.le_refl _) (.cells #[.bool false] 4))
  have HR0 := Lib.hid (World.alloc_heap_new w (.cells #[.bool false] 4))
  refine calls_of_endsP Try.func3 rfl ?_
  simp only [Try.ntmps3, List.size_toArray, List.length_cons, List.length_nil, Nat.reduceAdd, Nat.reduceSub, Array.replicate_succ, Array.replicate_zero, List.push_toArray, List.append_toArray, List.nil_append, List.cons_append]
  go_wp2_with fail
  obtain ⟨wb, hwb⟩ : ∃ wb, w.alloc (.cells #[.bool false] 4) = wb := ⟨_, rfl⟩
  have hsb : w.heap.size < wb.heap.size := by rw [← hwb]; simp
  rw [hwb] at HB0 HR0
  rw [hwb]
  clear hwb
  obtain ⟨b2, hb2⟩ : ∃ b2, w.heap.size = b2 := ⟨_, rfl⟩
  have HB2 := Lib.hid hb2
  rw [hb2] at HR0
  rw [hb2]
  have hb2l : b2 < wb.heap.size := by omega
  clear hb2
  refine (examples13 wb).mono ?_
  rintro e wx ⟨rfl, hb⟩
  have HB := Lib.hid (HB0.out.trans (hb.mono (by omega)))
  have HRX := Lib.hid ((hb.block b2 hb2l).trans HR0.out)
  have hsx : wb.heap.size ≤ wx.heap.size := hb.size
  clear hb
  have HN7 := Lib.hid (fun W => at_new r hr1 (by omega) keyK keyK_size W)
  have HN8 := Lib.hid (fun W => rnew_ok r hr1 (by omega) keyK keyK_size W)
  have HK := Lib.hid (show keyK = { data := #[48, 49, 50, 51, 52, 53, 54, 55, 56, 57, 97, 98, 99, 100, 101, 102] } from rfl)
  have HKS := Lib.hid keyK_size
  rw [HK.out] at HN7 HN8 HKS
  rcases hcase with ⟨rfl, h12⟩ | ⟨h12, h65, hmod⟩
  all_goals
    go_wp2_with (first
      | (go_at_call 7; refine (HN7.out _).mono ?_; rintro e wa ⟨Xp, rfl, hA, hb⟩; have HA := Lib.hid hA; have HBA := Lib.hid hb; clear hA hb)
      | (go_at_call 8; refine (HN8.out _).mono ?_; rintro e wz ⟨XP, rfl, hA⟩; have HZ := Lib.hid hA; clear hA; have c9 := (box_cell (World.alloc_heap_new wz (.cells #[.pointer (some ⟨XP, 0, none⟩)] 28))).1))
  all_goals
    obtain ⟨C, hC⟩ : ∃ C, wz.heap.size = C := ⟨_, rfl⟩
    obtain ⟨B, hBB⟩ : ∃ B, wx.heap.size = B := ⟨_, rfl⟩
    obtain ⟨wy, hwy⟩ : ∃ wy, wz.alloc (.cells #[.pointer (some ⟨XP, 0, none⟩)] 28) = wy := ⟨_, rfl⟩
    have hPL : PlI w B Xp XP C b2 0 [] wy := by
      have e1 := World.alloc_heap_new wz (.cells #[.pointer (some ⟨XP, 0, none⟩)] 28)
      have hs := HBA.out.size
      have hZ2 := HZ.out.2
      have hs3 := hZ2.size
      have hs2 := HB.out.size
      have hN := play_new (G := [b2]) HA.out HBA.out HZ.out (fun i hi => by simp at hi; omega)
      have hN2 := hN.guard (.cells #[.pointer (some ⟨XP, 0, none⟩)] 28)
      rw [hwy, hC, hBB] at hN2
      refine ⟨⟨_, 0, hN2, Cnt.new 65535 r hr1 (by omega) _ HKS.out, by omega⟩, ?_, ?_, List.nodup_nil, (fun D hD => by cases hD), (fun D hD => by cases hD), ?_, by omega⟩
      · rw [← hwy, ← hC]
        exact e1
      · rw [← hwy]
        exact (Below.heap_alloc _ _ _ (by omega)).trans ((hZ2.block b2 (by omega)).trans ((HBA.out.block b2 (by omega)).trans HRX.out))
      · rw [← hwy]
        exact (HB.out.trans ((HBA.out.mono hs2).trans (hZ2.mono (by omega)))).alloc (by omega) _
    rw [hwy, hC] at c9 ⊢
    have HPL := Lib.hid hPL
    have HBB := Lib.hid hBB
    have hB0 : 0 < B := by omega
    clear hPL hwy hC c9
    refine wp_loop (fun a' wr => ∃ (i : Nat) (Ds : List Nat) (u10 u11 u12 u13 u14 u15 u16 u17 u18 u19 u20 u21 u22 u23 u24 u25 u26 u27 u28 u29 u30 u31 u32 u33 u34 u35 u36 u37 u38 u39 u40 u41 u42 u43 u44 u45 u46 u47 u48 u49 u50 u51 u52 u53 u54 u55 u56 u57 u58 u59 u60 u61 u62 u63 u64 u65 u66 u67 u68 u69 u70 u71 u72 u73 u74 u75 u76 u77 u78 u79 u80 u81 u82 u83 u84 u85 u86 u87 u88 u89 u90 u91 u92 u93 u94 u95 u96 u97 u98 u99 u100 u101 u102 u103 u104 u105 u106 u107 u108 u109 u110 u111 u112 u113 u114 u115 u116 u117 u118 u119 : Value), a' = { tmps := #[.int .i64 (r : Int), .slice a1 len1 cap1, undef, undef, .pointer (some ⟨b2, 0, none⟩), .bool true, .pointer (some ⟨Xp, 0, none⟩), .int .i64 0, .pointer (some ⟨C, 0, none⟩), .int .i64 (i : Int), u10, u11, u12, u13, u14, u15, u16, u17, u18, u19, u20, u21, u22, u23, u24, u25, u26, u27, u28, u29, u30, u31, u32, u33, u34, u35, u36, u37, u38, u39, u40, u41, u42, u43, u44, u45, u46, u47, u48, u49, u50, u51, u52, u53, u54, u55, u56, u57, u58, u59, u60, u61, u62, u63, u64, u65, u66, u67, u68, u69, u70, u71, u72, u73, u74, u75, u76, u77, u78, u79, u80, u81, u82, u83, u84, u85, u86, u87, u88, u89, u90, u91, u92, u93, u94, u95, u96, u97, u98, u99, u100, u101, u102, u103, u104, u105, u106, u107, u108, u109, u110, u111, u112, u113, u114, u115, u116, u117, u118, u119], defers := Ds.map mark } ∧ i ≤ 60 ∧ PlI w B Xp XP C b2 i Ds wr) (fun a' _ => 61 - (intOf (a'.tmps.getD 9 undef)).toNat) ?_ ?_
    · refine ⟨0, [], ?_⟩
      (repeat apply Exists.intro)
      exact ⟨rfl, by omega, HPL.out⟩
    intro a' wr hinv
    obtain ⟨i, hinv⟩ := hinv
    obtain ⟨Ds, hinv⟩ := hinv
    obtain ⟨u10, hinv⟩ := hinv
    obtain ⟨u11, hinv⟩ := hinv
    obtain ⟨u12, hinv⟩ := hinv
    obtain ⟨u13, hinv⟩ := hinv
    obtain ⟨u14, hinv⟩ := hinv
    obtain ⟨u15, hinv⟩ := hinv
    obtain ⟨u16, hinv⟩ := hinv
    obtain ⟨u17, hinv⟩ := hinv
    obtain ⟨u18, hinv⟩ := hinv
    obtain ⟨u19, hinv⟩ := hinv
    obtain ⟨u20, hinv⟩ := hinv
    obtain ⟨u21, hinv⟩ := hinv
    obtain ⟨u22, hinv⟩ := hinv
    obtain ⟨u23, hinv⟩ := hinv
    obtain ⟨u24, hinv⟩ := hinv
    obtain ⟨u25, hinv⟩ := hinv
    obtain ⟨u26, hinv⟩ := hinv
    obtain ⟨u27, hinv⟩ := hinv
    obtain ⟨u28, hinv⟩ := hinv
    obtain ⟨u29, hinv⟩ := hinv
    obtain ⟨u30, hinv⟩ := hinv
    obtain ⟨u31, hinv⟩ := hinv
    obtain ⟨u32, hinv⟩ := hinv
    obtain ⟨u33, hinv⟩ := hinv
    obtain ⟨u34, hinv⟩ := hinv
    obtain ⟨u35, hinv⟩ := hinv
    obtain ⟨u36, hinv⟩ := hinv
    obtain ⟨u37, hinv⟩ := hinv
    obtain ⟨u38, hinv⟩ := hinv
    obtain ⟨u39, hinv⟩ := hinv
    obtain ⟨u40, hinv⟩ := hinv
    obtain ⟨u41, hinv⟩ := hinv
    obtain ⟨u42, hinv⟩ := hinv
    obtain ⟨u43, hinv⟩ := hinv
    obtain ⟨u44, hinv⟩ := hinv
    obtain ⟨u45, hinv⟩ := hinv
    obtain ⟨u46, hinv⟩ := hinv
    obtain ⟨u47, hinv⟩ := hinv
    obtain ⟨u48, hinv⟩ := hinv
    obtain ⟨u49, hinv⟩ := hinv
    obtain ⟨u50, hinv⟩ := hinv
    obtain ⟨u51, hinv⟩ := hinv
    obtain ⟨u52, hinv⟩ := hinv
    obtain ⟨u53, hinv⟩ := hinv
    obtain ⟨u54, hinv⟩ := hinv
    obtain ⟨u55, hinv⟩ := hinv
    obtain ⟨u56, hinv⟩ := hinv
    obtain ⟨u57, hinv⟩ := hinv
    obtain ⟨u58, hinv⟩ := hinv
    obtain ⟨u59, hinv⟩ := hinv
    obtain ⟨u60, hinv⟩ := hinv
    obtain ⟨u61, hinv⟩ := hinv
    obtain ⟨u62, hinv⟩ := hinv
    obtain ⟨u63, hinv⟩ := hinv
    obtain ⟨u64, hinv⟩ := hinv
    obtain ⟨u65, hinv⟩ := hinv
    obtain ⟨u66, hinv⟩ := hinv
    obtain ⟨u67, hinv⟩ := hinv
    obtain ⟨u68, hinv⟩ := hinv
    obtain ⟨u69, hinv⟩ := hinv
    obtain ⟨u70, hinv⟩ := hinv
    obtain ⟨u71, hinv⟩ := hinv
    obtain ⟨u72, hinv⟩ := hinv
    obtain ⟨u73, hinv⟩ := hinv
    obtain ⟨u74, hinv⟩ := hinv
    obtain ⟨u75, hinv⟩ := hinv
    obtain ⟨u76, hinv⟩ := hinv
    obtain ⟨u77, hinv⟩ := hinv
    obtain ⟨u78, hinv⟩ := hinv
    obtain ⟨u79, hinv⟩ := hinv
    obtain ⟨u80, hinv⟩ := hinv
    obtain ⟨u81, hinv⟩ := hinv
    obtain ⟨u82, hinv⟩ := hinv
    obtain ⟨u83, hinv⟩ := hinv
    obtain ⟨u84, hinv⟩ := hinv
    obtain ⟨u85, hinv⟩ := hinv
    obtain ⟨u86, hinv⟩ := hinv
    obtain ⟨u87, hinv⟩ := hinv
    obtain ⟨u88, hinv⟩ := hinv
    obtain ⟨u89, hinv⟩ := hinv
    obtain ⟨u90, hinv⟩ := hinv
    obtain ⟨u91, hinv⟩ := hinv
    obtain ⟨u92, hinv⟩ := hinv
    obtain ⟨u93, hinv⟩ := hinv
    obtain ⟨u94, hinv⟩ := hinv
    obtain ⟨u95, hinv⟩ := hinv
    obtain ⟨u96, hinv⟩ := hinv
    obtain ⟨u97, hinv⟩ := hinv
    obtain ⟨u98, hinv⟩ := hinv
    obtain ⟨u99, hinv⟩ := hinv
    obtain ⟨u100, hinv⟩ := hinv
    obtain ⟨u101, hinv⟩ := hinv
    obtain ⟨u102, hinv⟩ := hinv
    obtain ⟨u103, hinv⟩ := hinv
    obtain ⟨u104, hinv⟩ := hinv
    obtain ⟨u105, hinv⟩ := hinv
    obtain ⟨u106, hinv⟩ := hinv
    obtain ⟨u107, hinv⟩ := hinv
    obtain ⟨u108, hinv⟩ := hinv
    obtain ⟨u109, hinv⟩ := hinv
    obtain ⟨u110, hinv⟩ := hinv
    obtain ⟨u111, hinv⟩ := hinv
    obtain ⟨u112, hinv⟩ := hinv
    obtain ⟨u113, hinv⟩ := hinv
    obtain ⟨u114, hinv⟩ := hinv
    obtain ⟨u115, hinv⟩ := hinv
    obtain ⟨u116, hinv⟩ := hinv
    obtain ⟨u117, hinv⟩ := hinv
    obtain ⟨u118, hinv⟩ := hinv
    obtain ⟨u119, hinv⟩ := hinv
    obtain ⟨ha', hi, hP⟩ := hinv
    subst ha'
    clear HPL
    have HPL := Lib.hid hP
    clear hP
    have c5 := (box_cell HPL.out.boxC).1
    obtain ⟨ds, hds⟩ : ∃ ds, Ds.map mark = ds := ⟨_, rfl⟩
    have HDS := Lib.hid hds
    rw [hds]
    clear hds
    by_cases hlt : i < len1 ∧ i < 60
    · obtain ⟨x, d, rfl, hd, hdc⟩ := W0.out.read HPL.out.below hlt.1
      obtain ⟨hl1, hl2⟩ := hlt
      have hi2 : (i : Int) < (len1 : Int) := by omega
      have hi3 : (i : Int) < 60 := by omega
      obtain ⟨kd, id, av, pt, pr, sv, dv, xv, yv⟩ := d
      obtain ⟨d0, d1, d2, d3, d4, d5, d6, d7, d8⟩ := hdc
      dsimp only at d0 d1 d2 d3 d4 d5 d6 d7 d8
      have HD := Lib.hid hd
      clear hd
      go_upto_region 15 with fail
      obtain ⟨p, N, hboth, hcnt, ho⟩ := HPL.out.both
      have HDO := Lib.hid (does9 (hboth.below ((Below.refl _ wr).drew)) hcnt (by omega) _ HD.out)
      have HO := Lib.hid ho
      have HPL1 := Lib.hid ((Below.refl B wr).drew)
      clear hboth ho hcnt
      refine wp_tail 6 (by kernel_rfl) (by kernel_rfl) ?_
      simp only [List.take_succ_cons, List.take_zero, List.drop_succ_cons, List.drop_zero]
      repeat still_step
      refine wpStill_nil ?_
      go_upto_region 16 with (go_at_call 9; refine HDO.out.mono ?_; rintro e wd ⟨rfl, p2, ⟨hq, hb2, hg2⟩, hc2⟩; have HP1 := Lib.hid (HPL.out.step hq hc2 (by have := HO.out; omega) (HPL1.out.trans hb2) hg2); have HQ := Lib.hid hq; have HCN := Lib.hid hc2; clear hq hb2 hg2 hc2)
      clear c5 d0 d1 d2 d3 d4 d5 d6 d7 d8
      have c5 := (box_cell HP1.out.boxC).1
      obtain ⟨ac, hac⟩ : ∃ ac, p2.act = ac := ⟨_, rfl⟩
      have HAC := Lib.hid hac
      clear hac
      have hnn : ((ac : Int) != (ac : Int)) = false := by simp
      have HA10 := Lib.hid (fun n => both_active (HQ.out.below (below_drewN wd n)))
      have HA11 := Lib.hid (fun n => both_ractive (HQ.out.below (below_drewN wd n)) HCN.out)
      rw [HAC.out] at HA10 HA11
      go_quiet ((first
        | (go_at_call 10; exact Calls.quiet_of_same (HA10.out _))
        | (go_at_call 11; exact Calls.quiet_of_same (HA11.out _))))
      clear HA10 HA11
      have HQ2 := Lib.hid (HQ.out.below (below_drewN wd nq))
      clear c5 hnn
      obtain ⟨wq, hwq⟩ : ∃ wq, wd.drewN nq = wq := ⟨_, rfl⟩
      have HP2 := Lib.hid (show PlI w B Xp XP C b2 (i + 1) Ds wq from by rw [← hwq]; exact ⟨⟨p2, N + 2, HQ2.out, HCN.out, by have := HO.out; omega⟩, HP1.out.boxC, HP1.out.boxR, HP1.out.nd, HP1.out.marks, HP1.out.hi, HP1.out.below.trans ((below_drewN wd nq).mono HP1.out.below.size), HP1.out.wb⟩)
      rw [hwq] at HQ2
      rw [hwq]
      clear hwq
      have HALL := Lib.hid (fun W => (callsIn_wide (n := 8)).1 (all12 Xp W))
      go_wp2_with (go_at_call 12; refine (HALL.out _).mono ?_; rintro e w8 ⟨rfl, rfl⟩)
      refine (wpIn_wide (n := 9)).1 ?_
      refine wpIn_genP _ ?_
      intro w2 hw2
      refine wpIn_genA _ ?_
      intro Ac hA
      obtain ⟨S0, hS0⟩ : ∃ S0, wq.heap.size = S0 := ⟨_, rfl⟩
      have hs2 : w2.heap.size = S0 + 2 := by rw [hw2, ← hS0]; simp
      have hbq : Below wq.heap.size wq w2 := by rw [hw2]; exact ((Below.refl _ wq).alloc (Nat.le_refl _) _).alloc (by simp) _
      have h02 : w2.heap[S0]? = some (.cells #[.int .i64 0] 3 (0, 0)) := by
        rw [hw2, ← hS0]
        exact (Below.heap_alloc _ _ _ (by simp)).trans (World.alloc_heap_new wq _)
      have hx2 : w2.heap[S0 + 1]? = some (.cells #[.pointer (some ⟨Xp, 0, none⟩)] 24 (0, 0)) := by
        rw [hw2, ← hS0]
        have h5 := World.alloc_heap_new (wq.alloc (.cells #[.int .i64 0] 3)) (.cells #[.pointer (some ⟨Xp, 0, none⟩)] 24)
        rwa [World.size_alloc] at h5
      obtain ⟨N2, hB2W0⟩ : ∃ N2, Both B Xp XP N2 p2 p2 (S0 :: (Ds ++ [C, b2])) w2 ∧ N2 ≤ 2 * (i + 1) := by
        have h1 := HQ2.out.guard (.cells #[.int .i64 0] 3)
        rw [hS0] at h1
        refine ⟨N + 2, ?_, by have := HO.out; omega⟩
        rw [hw2]
        exact h1.below ((Below.refl _ _).alloc (Nat.le_refl _) _)
      have hB2 := hB2W0.1
      have HB2W := Lib.hid hB2W0
      obtain ⟨l, v, hlo, hrow, hXG, hgG⟩ := hB2.rows
      have HR3 := Lib.hid hrow
      have HX3 := Lib.hid (show XP ≠ S0 from fun e => hXG (e ▸ List.mem_cons_self ..))
      have HG3 := Lib.hid (show ∀ g, v.ownBlock = some g → g ≠ S0 from fun g e e2 => hgG g e (e2 ▸ List.mem_cons_self ..))
      obtain ⟨hk1, hk2⟩ := hlo.keys HCN.out.good
      obtain ⟨S, Q, hpool, href, hdis, hgd⟩ := hB2
      have hst := all25_own (E := fun i => i = S0 ∨ i = w2.heap.size + 1) hpool hx2 hk1 (by have := HB2W.out.2; omega) (fun i hi => by rcases hi with e | e <;> omega) (fun e => by rcases e with e | e <;> omega) (fun i hi hS => by
        rcases hi with e | e
        · exact (hgd S0 (List.mem_cons_self ..)).1 (e ▸ hS)
        · have := hpool.low.1 i hS; omega)
      rw [hk2, List.length_map] at hst
      have HST2 := Lib.hid hst
      have HBQ := Lib.hid hbq
      have HC2 := Lib.hid ((hbq.block C ((Array.getElem?_eq_some_iff.1 HP2.out.boxC).1)).trans HP2.out.boxC)
      have HS0 := Lib.hid hS0
      obtain ⟨pv, c3, hv, hcb3, hcm3⟩ := row_form hrow.row
      obtain ⟨n, hn⟩ : ∃ n, l.length = n := ⟨_, rfl⟩
      have HN := Lib.hid hn
      rw [hn] at hv hcb3
      have HV := Lib.hid hv
      clear hbq hx2 hst hrow hgG hXG hlo hk1 hk2 hpool href hdis hgd hB2W0 hn hv
      refine range_own (α := Mem) rfl (by omega) (gf := 25) (lb := #[.pointer (some ⟨S0 + 1, 0, none⟩)]) (by rw [hA, ← hS0]; rfl) trivial (enters_of Try.func25 (by kernel_rfl) rfl) HST2.out
        (fun h h' => h.trans h') (KeepP.rec (.inr rfl)) (Below.refl _ _) (fun _ => rfl)
        (fun pre Y => AtI w2 S0 pre.length Y)
        (fun _ _ _ => False)
        (AtI.own (by omega))
        (fun _ s A1 B1 row hs _ _ => hs)
        ⟨⟨rfl, rfl, rfl, Nat.le_refl _, fun _ _ _ => rfl⟩, h02⟩
        (fun m a' W => ∃ bb, a' = { tmps := ((((Ac.tmps.setIfInBounds 77 (.agg #[.int .i64 m.id, .int .u32 m.addr, .int .i64 m.port])).setIfInBounds 78 (.int .i64 m.state)).setIfInBounds 12 (.pointer (some ⟨bb, 0, none⟩))).setIfInBounds 13 (.int .i64 m.state)), defers := [] } ∧ BoxM w2.heap.size bb m W)
        (fun _ _ => BoxM.own)
        ?assign ?body ?done ?stop
      case assign =>
        intro l' pre y Y K hi2 hK
        have HK := Lib.hid hK
        have HI2 := Lib.hid hi2
        clear hK hi2
        gi_wp2
        refine HK.out _ _ (keepsFrom_below ((Below.refl _ Y).alloc (Nat.le_refl _) _)) (KeepP.of_below ((Below.refl _ Y).alloc (Nat.le_refl _) _)) (HI2.out.alloc (by omega) _) ⟨Y.heap.size, ?_, World.alloc_heap_new Y _, HI2.out.grown.size⟩
        rw [hA]
        simp
      case body =>
        rintro l' pre ⟨mi, ma, mp, ms, mb⟩ a' Y hI ⟨bb, rfl, hbb⟩ hlt hlen hpre
        obtain ⟨m, hm⟩ : ∃ m, pre.length = m := ⟨_, rfl⟩
        have hget : l[m]? = some ⟨mi, ma, mp, ms, mb⟩ := by
          obtain ⟨q, hq⟩ := hpre
          rw [← hq, ← hm, List.append_assoc, List.getElem?_append_right (Nat.le_refl _), Nat.sub_self]
          rfl
        rw [hm] at hI
        have hmn : m < n := by have := HN.out; omega
        have hgetR : (l.map refM)[m]? = some (refM ⟨mi, ma, mp, ms, mb⟩) := by rw [List.getElem?_map, hget]; rfl
        obtain ⟨g, cap, hvg, ⟨r0, r1, r2, r3, _⟩, _⟩ := own_cells HR3.out.row hgetR
        obtain ⟨e1, e2, e3, e4⟩ := refM_id ⟨mi, ma, mp, ms, mb⟩
        rw [e1] at r0
        rw [e2] at r1
        rw [e3] at r2
        rw [e4] at r3
        dsimp only at r0 r1 r2 r3
        obtain ⟨q0, q1, q2⟩ := hbb.cells
        dsimp only at q0 q1 q2
        have hgl : g < w2.heap.size := World.block_lt_of_cell? _ _ r0
        have hgS := HG3.out g (by rw [hvg]; rfl)
        have hvc := HR3.out.cell
        rw [hvg, HN.out] at hvc
        have hkp : ∀ b, b < w2.heap.size → b ≠ S0 → Y.heap[b]? = w2.heap[b]? := fun b hb hne => hI.grown.block b hb (fun e => hne (Option.some.inj e))
        have s0 := (box_cell hI.box).1
        have sf := (box_cell hI.box).2
        have s1 : Y.cell? ⟨XP, 2, none⟩ = some (.slice (some ⟨g, 0, none⟩) n cap) := (World.cell?_of_block (hkp XP HR3.out.lt HX3.out)).trans hvc
        have s2 : Y.cell? ⟨C, 0, none⟩ = some (.pointer (some ⟨XP, 0, none⟩)) := (World.cell?_of_block (hkp C (Array.getElem?_eq_some_iff.1 HC2.out).1 (fun e => by have h7 := HC2.out; rw [e, h02] at h7; cases h7))).trans (box_cell HC2.out).1
        have s3 : Y.cell? ⟨g, m * 5, none⟩ = some (.int .i64 mi) := (World.cell?_of_block (hkp g hgl hgS)).trans r0
        have s4 : Y.cell? ⟨g, m * 5 + 1, none⟩ = some (.int .u32 ma) := (World.cell?_of_block (hkp g hgl hgS)).trans r1
        have s5 : Y.cell? ⟨g, m * 5 + 2, none⟩ = some (.int .i64 mp) := (World.cell?_of_block (hkp g hgl hgS)).trans r2
        have s6 : Y.cell? ⟨g, m * 5 + 3, none⟩ = some (.int .i64 ms) := (World.cell?_of_block (hkp g hgl hgS)).trans r3
        have hmI : ¬ (n : Int) ≤ (m : Int) := by omega
        have hmI2 : (m : Int) < (n : Int) := by omega
        have hc5 : cap = c3 := by have h7 := HV.out; rw [hvg] at h7; cases h7; rfl
        have hcI : (n : Int) ≤ (cap : Int) := by omega
        have hcI2 : (cap : Int) ≤ 9223372036854775807 := by omega
        have hk1 : (mi == mi) = true := by simp
        have hk2 : (ma == ma) = true := by simp
        have hk3 : (mp == mp) = true := by simp
        have hk4 : (ms == ms) = true := by simp
        have hk5 : (ms != ms) = false := by simp
        have hge : decide ((n : Int) ≤ (m : Int)) = false := decide_eq_false hmI
        have hge2 : decide (n ≤ m) = false := decide_eq_false (by omega)
        have HNX := Lib.hid (AtI.next hI)
        have HMM := Lib.hid hm
        clear hI hkp r0 r1 r2 r3 hget hgetR hpre hlen hm h02 hvg hvc hc5 e1 e2 e3 e4 hbb
        subst hA
        simp only [List.setIfInBounds_toArray, List.set_cons_zero, List.set_cons_succ]
        gi_wp2
        refine I.wpIn_G (Good := fun W' => (W'.cell? ⟨S0, 0, none⟩ = some (.int .i64 (m : Int)) ∧ W'.cell? ⟨C, 0, none⟩ = some (.pointer (some ⟨XP, 0, none⟩)) ∧ W'.cell? ⟨XP, 2, none⟩ = some (.slice (some ⟨g, 0, none⟩) n cap)) ∧ (W'.cell? ⟨g, m * 5, none⟩ = some (.int .i64 mi) ∧ W'.cell? ⟨g, m * 5 + 1, none⟩ = some (.int .u32 ma) ∧ W'.cell? ⟨g, m * 5 + 2, none⟩ = some (.int .i64 mp) ∧ W'.cell? ⟨g, m * 5 + 3, none⟩ = some (.int .i64 ms)) ∧ W'.cell? ⟨bb, 0, none⟩ = some (.int .i64 mi) ∧ W'.cell? ⟨bb, 1, none⟩ = some (.int .u32 ma) ∧ W'.cell? ⟨bb, 2, none⟩ = some (.int .i64 mp)) (fun _ => trivial) 30 0 [0, 1, 2, 3, 4, 5, 6, 7, 8, 9, 10, 11, 12, 13, 14, 15, 16, 17, 18, 19, 20, 21, 22, 23, 24, 25, 26, 27, 28, 29] (by kernel_rfl) (by kernel_rfl) (by kernel_rfl) (by kernel_rfl) (by kernel_rfl) (by kernel_rfl) rfl (fun _ _ _ _ _ h => h) (by kernel_rfl) ⟨⟨s0, s2, s1⟩, ⟨s3, s4, s5, s6⟩, q0, q1, q2⟩ ?_
        iterate 30 (refine I.stepsG_cons (v := ?_) rfl rfl rfl (fun wg hw => ?_) ?_; rotate_left; (obtain ⟨⟨t0, t2, t1⟩, ⟨t3, t4, t5, t6⟩, p0, p1, p2⟩ := hw; go_simp; try with_reducible rfl); go_simp)
        refine ⟨by kernel_rfl, ?_⟩
        gi_wp2
        refine ⟨⟨HNX.out.1.size, HNX.out.1.same⟩, HNX.out.2.1, ?_⟩
        dsimp only
        rw [List.length_append, HMM.out]
        exact ⟨⟨HNX.out.2.2.grown.os, HNX.out.2.2.grown.tape, HNX.out.2.2.grown.output, HNX.out.2.2.grown.size, HNX.out.2.2.grown.block⟩, HNX.out.2.2.box⟩
      case done =>
        rintro xs Y hxs hI hK
        rw [hxs, HN.out] at hI
        clear hxs xs
        have hkp : ∀ b, b < w2.heap.size → b ≠ S0 → Y.heap[b]? = w2.heap[b]? := fun b hb hne => hI.grown.block b hb (fun e => hne (Option.some.inj e))
        have s0 := (box_cell hI.box).1
        have hvc := HR3.out.cell
        rw [HV.out] at hvc
        have s1 : Y.cell? ⟨XP, 2, none⟩ = some (.slice pv n c3) := (World.cell?_of_block (hkp XP HR3.out.lt HX3.out)).trans hvc
        have hCl := (Array.getElem?_eq_some_iff.1 HC2.out).1
        have hCne : C ≠ S0 := fun e => by have h7 := HC2.out; rw [e, h02] at h7; cases h7
        have s2 : Y.cell? ⟨C, 0, none⟩ = some (.pointer (some ⟨XP, 0, none⟩)) := (World.cell?_of_block (hkp C hCl hCne)).trans (box_cell HC2.out).1
        have hll : ((n : Int) != (n : Int)) = false := by simp
        have hDl := (Array.getElem?_eq_some_iff.1 hK).1
        have HPN := Lib.hid (show PlI w B Xp XP C b2 (i + 1) (w2.heap.size :: Ds) Y from by
          have hq : ∀ b, b < wq.heap.size → Y.heap[b]? = wq.heap[b]? := fun b hb => (hkp b (by have := HBQ.out.size; omega) (by have := HS0.out; omega)).trans (HBQ.out.block b hb)
          have hbw : Below w.heap.size w Y := (HP2.out.below.trans (HBQ.out.mono HP2.out.below.size)).trans ⟨hI.grown.os, hI.grown.tape, hI.grown.output, hI.grown.size, fun b hb => hkp b (by have := HP2.out.below.size; have := HBQ.out.size; omega) (by have := HP2.out.below.size; have := HS0.out; omega)⟩
          refine ⟨⟨p2, N2, by have h8 := HB2W.out.1.carry hI.grown ⟨Nat.le_refl _, hDl⟩; simpa using h8, HCN.out, HB2W.out.2⟩, (hq C ((Array.getElem?_eq_some_iff.1 HP2.out.boxC).1)).trans HP2.out.boxC, (hq b2 ((Array.getElem?_eq_some_iff.1 HP2.out.boxR).1)).trans HP2.out.boxR, List.nodup_cons.2 ⟨fun hm => by have := (Array.getElem?_eq_some_iff.1 (HP2.out.marks _ hm)).1; have := HBQ.out.size; omega, HP2.out.nd⟩, fun D hD => ?_, fun D hD => ?_, hbw, HP2.out.wb⟩
          · rcases List.mem_cons.1 hD with rfl | hD
            · exact hK
            · exact (hq D ((Array.getElem?_eq_some_iff.1 (HP2.out.marks D hD)).1)).trans (HP2.out.marks D hD)
          · rcases List.mem_cons.1 hD with rfl | hD
            · have := HP2.out.below.size; have := HBQ.out.size; omega
            · exact HP2.out.hi D hD)
        clear hI hkp hK h02 hCne hCl hDl hvc
        subst hA
        go_upto_region 25 with fail
        go_quiet (fail)
        have HPM := Lib.hid (show PlI w B Xp XP C b2 (i + 1) (w2.heap.size :: Ds) (Y.drewN nq) from ⟨by obtain ⟨a1, a2, q1, q2⟩ := HPN.out.both; exact ⟨a1, a2, q1.below (below_drewN Y nq), q2⟩, HPN.out.boxC, HPN.out.boxR, HPN.out.nd, HPN.out.marks, HPN.out.hi, HPN.out.below.trans ((below_drewN Y nq).mono HPN.out.below.size), HPN.out.wb⟩)
        go_wp2_with fail
        have eI : (i : Int) + 1 = ((i + 1 : Nat) : Int) := by omega
        rw [eI, ← HDS.out]
        refine ⟨⟨i + 1, w2.heap.size :: Ds, ?_⟩, ?_⟩
        · (repeat apply Exists.intro)
          exact ⟨rfl, by omega, HPM.out⟩
        · simp [intOf]
          omega
      case stop =>
        rintro c pre X2 _ h
        exact h.elim
    · have r0 := (box_cell HPL.out.boxR).1
      have rf := (box_cell HPL.out.boxR).2
      by_cases hl : i < len1
      · have hi2 : (i : Int) < (len1 : Int) := by omega
        have hi3 : ¬ (i : Int) < 60 := by omega
        go_wp2_with fail
        rw [← HDS.out]
        exact HPL.out.leave HB2.out (fun Z hZ => by simp [results, Try.f3, go_sem, hZ])
      · have hi2 : ¬ (i : Int) < (len1 : Int) := by omega
        go_wp2_with fail
        rw [← HDS.out]
        exact HPL.out.leave HB2.out (fun Z hZ => by simp [results, Try.f3, go_sem, hZ])
theorem walk_PoolPlays (room : Int) (a1 : Option Addr) (len1 cap1 : Nat) (w : World) (hroom : (Lit.int .i64 room).wf = true) (w1 : DeedsIn w a1 len1 cap1) :
    Calls Try.prog 3 #[.int .i64 room, .slice a1 len1 cap1] w fun e w' => e = .returned (.bool true) ∧ Below w.heap.size w w' := by
  have hrb := i64_bounds hroom
  obtain ⟨r, hcase⟩ : ∃ r : Int, (r = room ∧ ¬ 12 < room) ∨ (12 < room ∧ room ≤ 65536 ∧ room.tmod 13 = r) ∨ (r = room ∧ 12 < room ∧ ¬ room ≤ 65536) := by
    by_cases h1 : 12 < room
    · by_cases h2 : room ≤ 65536
      · exact ⟨_, .inr (.inl ⟨h1, h2, rfl⟩)⟩
      · exact ⟨_, .inr (.inr ⟨rfl, h1, h2⟩)⟩
    · exact ⟨_, .inl ⟨rfl, h1⟩⟩
  by_cases hr : r < 1 ∨ 65536 < r
  · exact plays_bad room r a1 len1 cap1 w hrb hr hcase
  · have hr12 : r ≤ 12 := by
      rcases hcase with ⟨rfl, h⟩ | ⟨h1, h2, rfl⟩ | ⟨rfl, h1, h2⟩
      · omega
      · rw [Int.tmod_eq_emod_of_nonneg (by omega)]; omega
      · omega
    obtain ⟨k, rfl⟩ : ∃ k : Nat, r = (k : Int) := ⟨r.toNat, by omega⟩
    refine plays_ok room k a1 len1 cap1 w w1 hrb (by omega) (by omega) ?_
    rcases hcase with h | h | ⟨rfl, h1, h2⟩
    · exact .inl h
    · exact .inr h
    · omega
end Go.Proofs.Ytlipkffnllmkgaa
