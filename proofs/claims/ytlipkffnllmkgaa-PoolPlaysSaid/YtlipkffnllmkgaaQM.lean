import Derived.Test.YtlipkffnllmkgaaH4
import Derived.Test.YtlipkffnllmkgaaQR
namespace Go.Proofs.Ytlipkffnllmkgaa
open Go.RowKit Go.Shelf

/-- What Put answers, whatever the number. -/
def PutSays (m : Int) (n : Int) (T : ByteArray) (ok : Bool) : Prop := T.size ≤ 4 ∧ (ok = false → T = ⟨#[]⟩) ∧ ∀ w, Calls Try.prog 46 #[.int .i64 m, .int .i64 n] w fun e w' => e = .returned (.tuple #[.string T, .bool ok]) ∧ Below w.heap.size w w'
theorem put1_any (n : Int) : ∃ T ok, PutSays 1 n T ok ∧ (ok = true → 0 ≤ n ∧ n < 256) := by
  by_cases h : 0 ≤ n ∧ n < 256
  · obtain ⟨k, rfl⟩ : ∃ k : Nat, n = (k : Int) := ⟨n.toNat, by omega⟩
    exact ⟨putS 1 k, true, ⟨by rw [putS_size]; omega, (fun e => Bool.noConfusion e), fun w => put1_ok k (by omega) w⟩, fun _ => h⟩
  · refine ⟨⟨#[]⟩, false, ⟨Nat.zero_le _, fun _ => rfl, fun w => (put1_bad n (by omega) w).mono ?_⟩, (fun e => Bool.noConfusion e)⟩
    rintro e w' ⟨he, rfl⟩
    exact ⟨he, Below.refl _ _⟩
theorem put2_any (n : Int) : ∃ T ok, PutSays 2 n T ok ∧ (ok = true → 0 ≤ n ∧ n < 65536) := by
  by_cases h : 0 ≤ n ∧ n < 65536
  · obtain ⟨k, rfl⟩ : ∃ k : Nat, n = (k : Int) := ⟨n.toNat, by omega⟩
    exact ⟨putS 2 k, true, ⟨by rw [putS_size]; omega, (fun e => Bool.noConfusion e), fun w => put2_ok k (by omega) w⟩, fun _ => h⟩
  · refine ⟨⟨#[]⟩, false, ⟨Nat.zero_le _, fun _ => rfl, fun w => (put2_bad n (by omega) w).mono ?_⟩, (fun e => Bool.noConfusion e)⟩
    rintro e w' ⟨he, rfl⟩
    exact ⟨he, Below.refl _ _⟩
theorem put4_any (n : Nat) (hn : n < 4294967296) : ∃ T ok, PutSays 4 (n : Int) T ok ∧ ok = true := ⟨putS 4 n, true, ⟨by rw [putS_size]; omega, (fun e => Bool.noConfusion e), fun w => put4_ok n hn w⟩, rfl⟩
def keyRowI (p s d x y : Int) : Obj := .cells #[.int .i64 1, .int .i64 p, .int .i64 4, .int .i64 s, .int .i64 4, .int .i64 d, .int .i64 2, .int .i64 x, .int .i64 2, .int .i64 y] 104 (0, 0)

set_option maxRecDepth 100000 in
set_option maxHeartbeats 1000000 in
theorem key_bad (p x y : Int) (s d : Nat) (hs : s < 4294967296) (hd : d < 4294967296) (hbad : ¬ ((0 ≤ p ∧ p < 256) ∧ (0 ≤ x ∧ x < 65536) ∧ 0 ≤ y ∧ y < 65536)) (w : World) :
    Calls Try.prog 31 #[.agg #[.int .i64 p, .int .u32 (s : Int), .int .u32 (d : Int), .int .i64 x, .int .i64 y]] w fun e w' => e = .returned (.tuple #[.string ⟨#[]⟩, .bool false]) ∧ Below w.heap.size w w' := by
  obtain ⟨T0, o0, P0, g0⟩ := put1_any p
  obtain ⟨T1, o1, P1, g1⟩ := put4_any s hs
  obtain ⟨T2, o2, P2, g2⟩ := put4_any d hd
  obtain ⟨T3, o3, P3, g3⟩ := put2_any x
  obtain ⟨T4, o4, P4, g4⟩ := put2_any y
  have HP0 := Lib.hid P0
  have HP1 := Lib.hid P1
  have HP2 := Lib.hid P2
  have HP3 := Lib.hid P3
  have HP4 := Lib.hid P4
  have HG := Lib.hid (show ¬ (o0 = true ∧ o3 = true ∧ o4 = true) from fun ⟨h0, h3, h4⟩ => hbad ⟨g0 h0, g3 h3, g4 h4⟩)
  subst g1 g2
  clear P0 P1 P2 P3 P4 g0 g3 g4 hbad
  go_enter Try.func31, Try.ntmps31
  go_wp2_with fail
  go_loopw [28, 4] (fun vi vo wr => ∃ (k : Nat) (T : ByteArray), k ≤ 5 ∧ vi = .int .i64 (k : Int) ∧ vo = .string T ∧ T.size ≤ 4 * k ∧ Below w.heap.size w wr ∧ wr.heap[w.heap.size + 1]? = some (keyRowI p s d x y) ∧ ((1 ≤ k → o0 = true) ∧ (4 ≤ k → o3 = true) ∧ (5 ≤ k → o4 = true))) (fun vi _ _ => 5 - (intOf vi).toNat)
  case atStart =>
    refine ⟨0, ⟨#[]⟩, Nat.zero_le _, rfl, rfl, Nat.zero_le _, ((Below.refl _ _).alloc (Nat.le_refl _) _).alloc (by simp) _, ?_, fun h => by omega, fun h => by omega, fun h => by omega⟩
    have h := World.alloc_heap_new (w.alloc (.cells #[.int .i64 p, .int .u32 (s : Int), .int .u32 (d : Int), .int .i64 x, .int .i64 y] 35)) (.cells #[.int .i64 1, .int .i64 p, .int .i64 4, .int .i64 (s : Int), .int .i64 4, .int .i64 (d : Int), .int .i64 2, .int .i64 x, .int .i64 2, .int .i64 y] 104)
    simp only [World.size_alloc] at h
    exact h
  case round =>
    obtain ⟨k, A, hk, rfl, rfl, hsz, hB, hrow, hg⟩ := hrel
    have HB := Lib.hid hB
    have HROW := Lib.hid hrow
    have HGG := Lib.hid hg
    clear hB hg
    have hszI : (A.size : Int) ≤ 20 := by omega
    by_cases hlt : k < 5
    · obtain rfl | rfl | rfl | rfl | rfl : k = 0 ∨ k = 1 ∨ k = 2 ∨ k = 3 ∨ k = 4 := by omega
      case' inl =>
        have c0 : wr.cell? ⟨w.heap.size + 1, 0, none⟩ = some (.int .i64 1) := by simp [World.cell?, hrow, keyRowI]
        have c1 : wr.cell? ⟨w.heap.size + 1, 1, none⟩ = some (.int .i64 p) := by simp [World.cell?, hrow, keyRowI]
        have HP := HP0
        generalize T0 = T at *
        cases o0
      case' inr.inl =>
        have c0 : wr.cell? ⟨w.heap.size + 1, 2, none⟩ = some (.int .i64 4) := by simp [World.cell?, hrow, keyRowI]
        have c1 : wr.cell? ⟨w.heap.size + 1, 3, none⟩ = some (.int .i64 (s : Int)) := by simp [World.cell?, hrow, keyRowI]
        have HP := HP1
        generalize T1 = T at *
      case' inr.inr.inl =>
        have c0 : wr.cell? ⟨w.heap.size + 1, 4, none⟩ = some (.int .i64 4) := by simp [World.cell?, hrow, keyRowI]
        have c1 : wr.cell? ⟨w.heap.size + 1, 5, none⟩ = some (.int .i64 (d : Int)) := by simp [World.cell?, hrow, keyRowI]
        have HP := HP2
        generalize T2 = T at *
      case' inr.inr.inr.inl =>
        have c0 : wr.cell? ⟨w.heap.size + 1, 6, none⟩ = some (.int .i64 2) := by simp [World.cell?, hrow, keyRowI]
        have c1 : wr.cell? ⟨w.heap.size + 1, 7, none⟩ = some (.int .i64 x) := by simp [World.cell?, hrow, keyRowI]
        have HP := HP3
        generalize T3 = T at *
        cases o3
      case' inr.inr.inr.inr =>
        have c0 : wr.cell? ⟨w.heap.size + 1, 8, none⟩ = some (.int .i64 2) := by simp [World.cell?, hrow, keyRowI]
        have c1 : wr.cell? ⟨w.heap.size + 1, 9, none⟩ = some (.int .i64 y) := by simp [World.cell?, hrow, keyRowI]
        have HP := HP4
        generalize T4 = T at *
        cases o4
      all_goals
        clear hrow
        have hT4 := HP.out.1
        have hTI : (T.size : Int) ≤ 4 := by omega
      all_goals
        go_wp2_with (go_at_call 46; refine (HP.out.2.2 _).mono ?_; rintro e wx ⟨rfl, hb⟩; replace hb := boxN hb; replace HROW := Lib.hid ((hb.block _ (Array.getElem?_eq_some_iff.1 HROW.out).1).trans HROW.out); replace HB := Lib.hid (stepB HB.out hb); clear hb)
        first
          | (go_ret2; exact ⟨rfl, HB.out⟩)
          | exact ⟨⟨1, _, by omega, rfl, rfl, by rw [ByteArray.size_append]; omega, HB.out, HROW.out, (fun _ => by first | trivial | rfl), fun h => by omega, fun h => by omega⟩, by simp [intOf]⟩
          | exact ⟨⟨2, _, by omega, rfl, rfl, by rw [ByteArray.size_append]; omega, HB.out, HROW.out, fun _ => HGG.out.1 (by omega), fun h => by omega, fun h => by omega⟩, by simp [intOf]⟩
          | exact ⟨⟨3, _, by omega, rfl, rfl, by rw [ByteArray.size_append]; omega, HB.out, HROW.out, fun _ => HGG.out.1 (by omega), fun h => by omega, fun h => by omega⟩, by simp [intOf]⟩
          | exact ⟨⟨4, _, by omega, rfl, rfl, by rw [ByteArray.size_append]; omega, HB.out, HROW.out, fun _ => HGG.out.1 (by omega), (fun _ => by first | trivial | rfl), fun h => by omega⟩, by simp [intOf]⟩
          | exact ⟨⟨5, _, by omega, rfl, rfl, by rw [ByteArray.size_append]; omega, HB.out, HROW.out, fun _ => HGG.out.1 (by omega), fun _ => HGG.out.2.1 (by omega), (fun _ => by first | trivial | rfl)⟩, by simp [intOf]⟩
    · obtain rfl : k = 5 := by omega
      exact (HG.out ⟨HGG.out.1 (by omega), HGG.out.2.1 (by omega), HGG.out.2.2 (by omega)⟩).elim

set_option maxRecDepth 100000 in
set_option maxHeartbeats 1000000 in
theorem choose_bad {S Sa : Nat → Prop} {Xp X M O n : Nat} {po : Po} {w : World} (h : PoolIn S Sa Xp X M O n po w) (p x y : Int) (s d : Nat) (hs : s < 4294967296) (hd : d < 4294967296) (hbad : ¬ ((0 ≤ p ∧ p < 256) ∧ (0 ≤ x ∧ x < 65536) ∧ 0 ≤ y ∧ y < 65536)) :
    Calls Try.prog 17 #[.pointer (some ⟨Xp, 0, none⟩), .agg #[.int .i64 p, .int .u32 (s : Int), .int .u32 (d : Int), .int .i64 x, .int .i64 y]] w fun e w' => e = .returned (.tuple #[.agg #[.int .i64 0, .int .u32 0, .int .i64 0], .bool false]) ∧ Below w.heap.size w w' := by
  have HK := Lib.hid (key_bad p x y s d hs hd hbad)
  have HH := Lib.hid h
  have HB := Lib.hid (Below.refl w.heap.size w)
  clear h hbad
  go_enter Try.func17, Try.ntmps17
  go_wp2_with (go_at_call 31; refine (HK.out _).mono ?_; rintro e wx ⟨rfl, hb⟩; obtain ⟨hb2, hbox⟩ := two_boxes hb; obtain ⟨⟨c0, c1, c2, c3, c4, c5⟩, _⟩ := cells6 (HH.out.below hb2).cells; obtain ⟨⟨r0, r1, r2⟩, z0, z1, z2⟩ := cells3 hbox; replace HB := Lib.hid (And.intro hb2 hbox); clear hb hb2 hbox)
  obtain ⟨d0, d1, d2, hbe⟩ := put3 HB.out.2 (by omega) HB.out.1 (.int .i64 0) (.int .u32 0) (.int .i64 0)
  refine ⟨rfl, .tuple #[.agg #[.int .i64 0, .int .u32 0, .int .i64 0], .bool false], by simp [results, Try.f17, go_sem, d0, d1, d2], rfl, hbe⟩
end Go.Proofs.Ytlipkffnllmkgaa

namespace Go.Proofs.Ytlipkffnllmkgaa
open Go.RowKit Go.Shelf Go.Maps

/-- A member's state by its ID; 0: nobody. -/
def stP (p : Po) (k : Int) : Int := match p.all k with
  | none => 0
  | some m => m.state
/-- How many of the first n do. -/
def cntTo (f : Nat → Bool) : Nat → Nat
  | 0 => 0
  | n + 1 => cntTo f n + (if f n then 1 else 0)
theorem cntTo_ext {f g : Nat → Bool} : ∀ n, (∀ i, i < n → f i = g i) → cntTo f n = cntTo g n
  | 0, _ => rfl
  | n + 1, h => by
    unfold cntTo
    rw [cntTo_ext n (fun i hi => h i (by omega)), h n (by omega)]
theorem cntTo_more {f g : Nat → Bool} {j : Nat} (h : ∀ i, i ≠ j → f i = g i) (hf : f j = false) (hg : g j = true) : ∀ n, j < n → cntTo g n = cntTo f n + 1
  | 0, h0 => by omega
  | n + 1, h0 => by
    unfold cntTo
    by_cases e : j = n
    · subst e
      rw [cntTo_ext j (fun i hi => (h i (by omega)).symm), hf, hg]
      simp
    · rw [cntTo_more h hf hg n (by omega), h n (by omega)]
      omega
theorem cntTo_list (f : Nat → Bool) : ∀ n, cntTo f n = ((List.range n).filter f).length
  | 0 => rfl
  | n + 1 => by
    have h1 := cntTo_list f n
    rw [List.range_succ, List.filter_append, List.length_append]
    unfold cntTo
    rw [h1]
    cases h : f n
    · rw [List.filter_cons_of_neg (by rw [h]; exact Bool.noConfusion)]; rfl
    · rw [List.filter_cons_of_pos h]; rfl
theorem cntTo_none {f : Nat → Bool} : ∀ n, (∀ i, i < n → f i = false) → cntTo f n = 0
  | 0, _ => rfl
  | n + 1, h => by unfold cntTo; rw [cntTo_none n (fun i hi => h i (by omega)), h n (by omega)]; rfl

/-- What the pools of chapter 13's laws keep: IDs of 1 to M, as many active as Active says, two states. -/
structure Cnt (M : Nat) (p : Po) : Prop where
  good : Good p
  two : ∀ k m, p.all k = some m → m.state = 1 ∨ m.state = 2
  ids : ∀ k m, p.all k = some m → 1 ≤ k ∧ k ≤ (M : Int)
  act : cntTo (fun i => decide (stP p ((i + 1 : Nat) : Int) = 1)) M = p.act
theorem Cnt.new (M r : Nat) (h1 : 1 ≤ r) (h2 : r ≤ 65536) (key : ByteArray) (hk : key.size = 16) : Cnt M (newPo r key) :=
  ⟨Good.new h1 h2 hk, (fun _ _ h => by cases h), (fun _ _ h => by cases h), cntTo_none _ (fun _ _ => rfl)⟩
theorem st_other {p q : Po} {k : Int} (h : p.all k = q.all k) : stP p k = stP q k := by unfold stP; rw [h]
theorem Cnt.addG {M : Nat} {p : Po} (h : Cnt M p) (id a pt : Int) (hid : id ≤ (M : Int)) : Cnt M (addG p id a pt) := by
  by_cases e : addE p id pt = 0
  · obtain ⟨g1, g2, g3, g4⟩ := addE_zero e
    have ea : Ytlipkffnllmkgaa.addG p id a pt = addP p id a pt := by unfold Ytlipkffnllmkgaa.addG; rw [if_pos e]
    have hall : ∀ k, (addP p id a pt).all k = if k = id then some ⟨id, a, pt, 1, (newB p : Int)⟩ else p.all k := fun _ => rfl
    refine ⟨h.good.addG id a pt, fun k m hm => ?_, fun k m hm => ?_, ?_⟩
    · rw [ea, hall] at hm
      split at hm
      · cases hm; exact .inl rfl
      · exact h.two k m hm
    · rw [ea, hall] at hm
      split at hm
      · next e => exact ⟨by omega, by omega⟩
      · exact h.ids k m hm
    · rw [ea]
      have h5 : (addP p id a pt).act = p.act + 1 := rfl
      rw [h5, ← h.act]
      obtain ⟨j, hj⟩ : ∃ j : Nat, id = ((j + 1 : Nat) : Int) := ⟨id.toNat - 1, by omega⟩
      refine cntTo_more (j := j) (fun i hi => ?_) ?_ ?_ M (by omega)
      · rw [st_other (p := addP p id a pt) (q := p) (by rw [hall, if_neg (by omega)])]
      · have h6 : stP p ((j + 1 : Nat) : Int) = 0 := by unfold stP; rw [← hj, g3]
        rw [h6]; rfl
      · have h6 : stP (addP p id a pt) ((j + 1 : Nat) : Int) = 1 := by unfold stP; rw [hall, if_pos hj.symm]
        rw [h6]; rfl
  · have ea : Ytlipkffnllmkgaa.addG p id a pt = p := by unfold Ytlipkffnllmkgaa.addG; rw [if_neg e]
    rw [ea]
    exact h
theorem drain_cnt {M : Nat} {p q : Po} (h : Cnt M p) {id : Int} {m : Mem} (hm : p.all id = some m) (hs : m.state = 1) (hq : q.act + 1 = p.act) (hst : ∀ k, k ≠ id → stP q k = stP p k) (hid : stP q id ≠ 1) :
    cntTo (fun i => decide (stP q ((i + 1 : Nat) : Int) = 1)) M = q.act := by
  obtain ⟨i1, i2⟩ := h.ids id m hm
  obtain ⟨j, hj⟩ : ∃ j : Nat, id = ((j + 1 : Nat) : Int) := ⟨id.toNat - 1, by omega⟩
  have h1 := cntTo_more (f := fun i => decide (stP q ((i + 1 : Nat) : Int) = 1)) (g := fun i => decide (stP p ((i + 1 : Nat) : Int) = 1)) (j := j) (fun i hi => by
      rw [hst _ (by omega)])
    (by rw [← hj]; simp [hid])
    (by rw [← hj]; unfold stP; rw [hm]; simp [hs]) M (by omega)
  rw [h.act] at h1
  omega
theorem drainP_st {p : Po} {id : Int} {m : Mem} : (∀ k, k ≠ id → stP (drainP p id m) k = stP p k) ∧ stP (drainP p id m) id = 2 := by
  refine ⟨fun k hk => st_other (by rw [drain_all]; dsimp only; rw [if_neg hk]), ?_⟩
  unfold stP
  rw [drained_all]
theorem Cnt.drainG {M : Nat} {p : Po} (h : Cnt M p) (id : Int) : Cnt M (drainG p id) := by
  cases hm : p.all id with
  | none =>
    have e2 : Ytlipkffnllmkgaa.drainG p id = p := by unfold Ytlipkffnllmkgaa.drainG; rw [hm]
    rw [e2]; exact h
  | some m =>
    by_cases hs : m.state = 1
    · have e2 : Ytlipkffnllmkgaa.drainG p id = drainP p id m := by unfold Ytlipkffnllmkgaa.drainG; rw [hm]; dsimp only; rw [if_pos hs]
      rw [e2]
      obtain ⟨s1, s2⟩ := drainP_st (p := p) (id := id) (m := m)
      refine ⟨h.good.drain hm hs, fun k x hx => ?_, fun k x hx => ?_, drain_cnt h hm hs (drain_act h.good hm hs) s1 (by rw [s2]; omega)⟩
      · rw [drain_all] at hx
        dsimp only at hx
        split at hx
        · cases hx; exact .inr rfl
        · exact h.two k x hx
      · rw [drain_all] at hx
        dsimp only at hx
        split at hx
        · next e => subst e; exact h.ids _ m hm
        · exact h.ids k x hx
    · have e2 : Ytlipkffnllmkgaa.drainG p id = p := by unfold Ytlipkffnllmkgaa.drainG; rw [hm]; dsimp only; rw [if_neg hs]
      rw [e2]; exact h
theorem gone_st {p : Po} {id : Int} : (∀ k, k ≠ id → stP (p.gone id) k = stP p k) ∧ stP (p.gone id) id = 0 := by
  refine ⟨fun k hk => st_other (by show (if k = id then none else p.all k) = _; rw [if_neg hk]), ?_⟩
  unfold stP
  have : (p.gone id).all id = none := by show (if id = id then none else p.all id) = none; rw [if_pos rfl]
  rw [this]
theorem Cnt.removeG {M : Nat} {p : Po} (h : Cnt M p) (id : Int) : Cnt M (removeG p id) := by
  have hg := h.good.removeG id
  cases hm : p.all id with
  | none =>
    have e2 : Ytlipkffnllmkgaa.removeG p id = p := by unfold Ytlipkffnllmkgaa.removeG; rw [hm]
    rw [e2]; exact h
  | some m =>
    obtain ⟨j1, j2⟩ := h.ids id m hm
    by_cases hs : m.state = 1
    · have e2 : Ytlipkffnllmkgaa.removeG p id = (drainP p id m).gone id := by unfold Ytlipkffnllmkgaa.removeG; rw [hm]; dsimp only; rw [if_pos hs]
      rw [e2] at hg ⊢
      obtain ⟨s1, _⟩ := drainP_st (p := p) (id := id) (m := m)
      obtain ⟨t1, t2⟩ := gone_st (p := drainP p id m) (id := id)
      have hall : ∀ k x, ((drainP p id m).gone id).all k = some x → p.all k = some x := fun k x hx => by
        have hx : (if k = id then none else (drainP p id m).all k) = some x := hx
        split at hx
        · cases hx
        · next e => rw [drain_all] at hx; dsimp only at hx; rw [if_neg e] at hx; exact hx
      exact ⟨hg, fun k x hx => h.two k x (hall k x hx), fun k x hx => h.ids k x (hall k x hx), drain_cnt h hm hs (drain_act h.good hm hs) (fun k hk => (t1 k hk).trans (s1 k hk)) (by rw [t2]; omega)⟩
    · have e2 : Ytlipkffnllmkgaa.removeG p id = p.gone id := by unfold Ytlipkffnllmkgaa.removeG; rw [hm]; dsimp only; rw [if_neg hs]
      rw [e2] at hg ⊢
      obtain ⟨t1, t2⟩ := gone_st (p := p) (id := id)
      have hall : ∀ k x, (p.gone id).all k = some x → p.all k = some x := fun k x hx => by
        have hx : (if k = id then none else p.all k) = some x := hx
        split at hx
        · cases hx
        · exact hx
      refine ⟨hg, fun k x hx => h.two k x (hall k x hx), fun k x hx => h.ids k x (hall k x hx), ?_⟩
      have ha : (p.gone id).act = p.act := rfl
      rw [ha, ← h.act]
      refine cntTo_ext M (fun i _ => ?_)
      by_cases e : ((i + 1 : Nat) : Int) = id
      · rw [e, t2]
        unfold stP
        rw [hm]
        dsimp only
        simp [hs]
      · rw [t1 _ e]
end Go.Proofs.Ytlipkffnllmkgaa

namespace Go.Proofs.Ytlipkffnllmkgaa
open Go.RowKit Go.Shelf Go.Maps

/-- The numbers of 1 to M. -/
def upTo (M : Nat) : List Int := (List.range M).map (fun i => ((i + 1 : Nat) : Int))
theorem keys_upTo {M : Nat} {p : Po} (h : Cnt M p) (hM : M ≤ 65535) : KeysOf p.all ((upTo M).filter (fun k => (p.all k).isSome)) := by
  have hup : (upTo M).Pairwise (· < ·) := by
    unfold upTo
    refine List.pairwise_map.2 (List.pairwise_lt_range.imp ?_)
    intro a b h
    omega
  refine ⟨hup.sublist List.filter_sublist, fun x hx => ?_, fun x _ => ?_⟩
  · have hx := (List.mem_filter.1 hx).1
    unfold upTo at hx
    simp at hx
    exact i64_wf' (by omega) (by omega)
  · rw [List.mem_filter]
    refine ⟨fun h => h.2, fun hs => ⟨?_, hs⟩⟩
    obtain ⟨m, hm⟩ := Option.isSome_iff_exists.1 hs
    obtain ⟨i1, i2⟩ := h.ids x m hm
    unfold upTo
    rw [List.mem_map]
    exact ⟨x.toNat - 1, List.mem_range.2 (by omega), by omega⟩
theorem filter_len {α : Type} (f : Int → Option α) (q : α → Bool) : ∀ L : List Int, (((L.filter (fun k => (f k).isSome)).filterMap f).filter q).length = (L.filter (fun k => match f k with | none => false | some m => q m)).length
  | [] => rfl
  | k :: L => by
    have ih := filter_len f q L
    cases h : f k with
    | none => rw [List.filter_cons_of_neg (by rw [h]; simp), List.filter_cons_of_neg (by rw [h]; simp)]; exact ih
    | some m =>
      rw [List.filter_cons_of_pos (by rw [h]; rfl), List.filterMap_cons, h]
      dsimp only
      cases hq : q m with
      | false => rw [List.filter_cons_of_neg (by rw [hq]; simp), List.filter_cons_of_neg (by rw [h]; dsimp only; rw [hq]; simp)]; exact ih
      | true => rw [List.filter_cons_of_pos hq, List.filter_cons_of_pos (by rw [h]; exact hq), List.length_cons, List.length_cons, ih]
theorem upTo_len (M : Nat) (g : Int → Bool) : ((upTo M).filter g).length = cntTo (fun i => g ((i + 1 : Nat) : Int)) M := by
  unfold upTo
  rw [List.filter_map, List.length_map, cntTo_list]
  rfl
/-- As many are active as Active says. -/
theorem Cnt.active {M : Nat} {p : Po} (h : Cnt M p) (hM : M ≤ 65535) {ks : List Int} (hk : KeysOf p.all ks) : ((ks.filterMap p.all).filter (fun m => decide (m.state = 1))).length = p.act := by
  rw [hk.one (keys_upTo h hM), filter_len, upTo_len, ← h.act]
  refine cntTo_ext M (fun i _ => ?_)
  unfold stP
  cases p.all ((i + 1 : Nat) : Int) <;> rfl
theorem Cnt.many {M : Nat} {p : Po} (h : Cnt M p) (hM : M ≤ 65535) {ks : List Int} (hk : KeysOf p.all ks) : ks.length = cntTo (fun i => decide (0 < stP p ((i + 1 : Nat) : Int))) M := by
  rw [hk.one (keys_upTo h hM), upTo_len]
  refine cntTo_ext M (fun i _ => ?_)
  unfold stP
  cases hm : p.all ((i + 1 : Nat) : Int) with
  | none => rfl
  | some m =>
    dsimp only
    have hp : 0 < m.state := by rcases h.two _ m hm with e | e <;> omega
    exact (decide_eq_true hp).symm
/-- Those who are handed on have their keys for IDs. -/
theorem ids_of {p : Po} (h : Good p) {ks : List Int} (hk : ∀ x ∈ ks, (p.all x).isSome = true) : (ks.filterMap p.all).map Mem.id = ks := by
  induction ks with
  | nil => rfl
  | cons k ks ih =>
    obtain ⟨m, hm⟩ := Option.isSome_iff_exists.1 (hk k (List.mem_cons_self ..))
    rw [List.filterMap_cons, hm]
    dsimp only
    rw [List.map_cons, ih (fun x hx => hk x (List.mem_cons_of_mem _ hx)), (h.all k m hm).1]
theorem Good.ids {p : Po} (h : Good p) {ks : List Int} (hk : KeysOf p.all ks) : (ks.filterMap p.all).map Mem.id = ks := ids_of h (fun x hx => (hk.mem x (hk.wf x hx)).1 hx)
/-- Whatever comes first of them rises. -/
theorem ids_rise {p : Po} (h : Good p) {ks : List Int} (hk : KeysOf p.all ks) {pre : List Mem} (hp : pre <+: ks.filterMap p.all) : (pre.map Mem.id).Pairwise (· < ·) ∧ ∀ m ∈ pre, 1 ≤ m.id := by
  have h1 : pre.map Mem.id <+: ks := by
    have := hp.map Mem.id
    rw [h.ids hk] at this
    exact this
  refine ⟨hk.up.sublist h1.sublist, fun m hm => ?_⟩
  have h2 : m ∈ ks.filterMap p.all := hp.subset hm
  obtain ⟨k, _, hk2⟩ := List.mem_filterMap.1 h2
  obtain ⟨e, e1, _⟩ := h.all k m hk2
  omega
end Go.Proofs.Ytlipkffnllmkgaa

namespace Go.Proofs.Ytlipkffnllmkgaa
open Go.RowKit Go.Shelf Go.Maps

def boxR : Obj := .cells #[.bool false] 4 (0, 0)
def boxM (Ms : Nat) : Obj := .cells #[.map (some Ms)] 56 (0, 0)
/-- The pool, the law's result, its own map and the box of it. -/
def AllM (B X N : Nat) (p : Po) (R C Ms nn : Nat) (f : Int → Option Value) (w : World) : Prop := ∃ o, OneG B X N p [(R, boxR), (C, boxM Ms), (Ms, o)] w ∧ MapIs Ms nn f w
theorem AllM.call {B X N N' R C Ms nn : Nat} {p p' : Po} {f : Int → Option Value} {w : World} (h : AllM B X N p R C Ms nn f w) {fn : FuncId} {args : Array Value} {Rr : Ending} (hc : ∀ S, PoolAt B S X N p w → Calls Try.prog fn args w fun e w' => e = Rr ∧ Turned B S X N' p' w w') :
    Calls Try.prog fn args w fun e w' => e = Rr ∧ AllM B X N' p' R C Ms nn f w' ∧ Below B w w' := by
  obtain ⟨o, hg, hm⟩ := h
  have h0 := hg.has (b := Ms) (o := o) (by simp)
  refine (hg.call hc).mono ?_
  rintro e w' ⟨he, h1, h2⟩
  have h3 := h1.has (b := Ms) (o := o) (by simp)
  exact ⟨he, ⟨o, h1, hm.block (h3.trans h0.symm)⟩, h2⟩
theorem AllM.below {B X N R C Ms nn : Nat} {p : Po} {f : Int → Option Value} {w w' : World} (h : AllM B X N p R C Ms nn f w) (hb : Below w.heap.size w w') : AllM B X N p R C Ms nn f w' := by
  obtain ⟨o, hg, hm⟩ := h
  have h0 := hg.has (b := Ms) (o := o) (by simp)
  have h3 := (hg.below hb).has (b := Ms) (o := o) (by simp)
  exact ⟨o, hg.below hb, hm.block (h3.trans h0.symm)⟩
theorem AllM.more {B X N N' R C Ms nn nn' : Nat} {p : Po} {f : Int → Option Value} {w : World} (h : AllM B X N p R C Ms nn f w) (h1 : N ≤ N') (h2 : nn ≤ nn') : AllM B X N' p R C Ms nn' f w := by
  obtain ⟨o, ⟨S, hS, hg⟩, hm⟩ := h
  exact ⟨o, ⟨S, hS.more h1, hg⟩, hm.mono h2⟩
theorem AllM.cell {B X N R C Ms nn : Nat} {p : Po} {f : Int → Option Value} {w : World} (h : AllM B X N p R C Ms nn f w) : w.cell? ⟨C, 0, none⟩ = some (.map (some Ms)) := by
  obtain ⟨o, hg, hm⟩ := h
  exact (cell1 (hg.has (b := C) (o := boxM Ms) (by simp))).1
/-- What the law's map says of the pool. -/
def StOf (p : Po) (f : Int → Option Value) : Prop := ∀ k, (Lit.int .i64 k).wf = true → (f k).getD (.int .i64 0) = .int .i64 (stP p k)
theorem AllM.look {B X N R C Ms nn : Nat} {p q : Po} {f : Int → Option Value} {w : World} (h : AllM B X N p R C Ms nn f w) (hs : StOf q f) {id st : Int} (hw : (Lit.int .i64 id).wf = true) (he : stP q id = st) :
    (Instr.lookup 56 (.map (some Ms)) (.int .i64 id) false).run Try.prog w = .ok (.int .i64 st) w := by
  obtain ⟨o, hg, hm⟩ := h
  rw [hm.look Try.underlying56 (zero3 w) hw, hs id hw, he]
theorem AllM.store {B X N R C Ms nn : Nat} {p : Po} {f : Int → Option Value} {w : World} (h : AllM B X N p R C Ms nn f w) (hn : nn < maxLen) (hne : R ≠ Ms ∧ C ≠ Ms ∧ B ≤ Ms) {id : Int} (hw : (Lit.int .i64 id).wf = true) (v : Value) :
    ∃ w', (Instr.mapUpdate 56 (.map (some Ms)) (.int .i64 id) v).run Try.prog w = .ok () w' ∧ AllM B X N p R C Ms (nn + 1) (fun j => if j = id then some v else f j) w' ∧ Below B w w' := by
  obtain ⟨o, ⟨S, hS, hg⟩, hm⟩ := h
  obtain ⟨w', hrun, hm', hgr⟩ := hm.store Try.underlying56 hn hw v
  have hSM := (hg (Ms, o) (by simp)).1
  have hMl := hm'.lt
  have hk : ∀ i, i < w.heap.size → i ≠ Ms → w'.heap[i]? = w.heap[i]? := fun i hi hne => hgr.block i hi (by simp; exact hne)
  refine ⟨w', hrun, ⟨w'.heap[Ms], ⟨S, hS.kept (fun i hi => hk i (hS.low.1 i hi) (fun e => hSM (e ▸ hi))) hgr.size, fun q hq => ?_⟩, hm'⟩, ⟨hgr.os, hgr.tape, hgr.output, hgr.size, fun i hi => hk i (by have := hS.low.2.2; omega) (by omega)⟩⟩
  simp at hq
  rcases hq with rfl | rfl | rfl
  · obtain ⟨q1, q2⟩ := hg (R, boxR) (by simp)
    exact ⟨q1, (hk R (Array.getElem?_eq_some_iff.1 q2).1 hne.1).trans q2⟩
  · obtain ⟨q1, q2⟩ := hg (C, boxM Ms) (by simp)
    exact ⟨q1, (hk C (Array.getElem?_eq_some_iff.1 q2).1 hne.2.1).trans q2⟩
  · exact ⟨hSM, Array.getElem?_eq_getElem hMl⟩
theorem allM_start {X R : Nat} {p : Po} {w0 wx wa : World} (hB : w0.heap.size ≤ wx.heap.size) (hR : wx.heap[R]? = some boxR) (hP : PoolAt wx.heap.size (fun b => wx.heap.size ≤ b ∧ b < wa.heap.size) X 0 p wa) (hb : Below wx.heap.size wx wa) :
    AllM w0.heap.size X 0 p R (wa.heap.size + 1) wa.heap.size 0 (fun _ => none) ((wa.alloc (.map #[] 0)).alloc (.cells #[.map (some wa.heap.size)] 56)) := by
  have hm := MapIs.made wa
  have h1 : Below wa.heap.size wa ((wa.alloc (.map #[] 0)).alloc (.cells #[.map (some wa.heap.size)] 56)) := ((Below.refl _ wa).alloc (Nat.le_refl _) _).alloc (by simp) _
  have hRl := (Array.getElem?_eq_some_iff.1 hR).1
  have hMs : ((wa.alloc (.map #[] 0)).alloc (.cells #[.map (some wa.heap.size)] 56)).heap[wa.heap.size]? = some (.map #[] 0) := (Below.heap_alloc _ _ _ (by simp)).trans (World.alloc_heap_new wa _)
  refine ⟨.map #[] 0, ⟨_, (at_below hP h1).down hB, fun q hq => ?_⟩, hm.block (Below.heap_alloc _ _ _ (by simp))⟩
  simp at hq
  rcases hq with rfl | rfl | rfl
  · exact ⟨fun e => by have := e.1; omega, ((h1.block R (by have := hb.size; omega)).trans (hb.block R hRl)).trans hR⟩
  · refine ⟨fun e => by have := e.2; omega, ?_⟩
    have h5 := World.alloc_heap_new (wa.alloc (.map #[] 0)) (.cells #[.map (some wa.heap.size)] 56)
    rw [World.size_alloc] at h5
    exact h5
  · exact ⟨fun e => by have := e.2; omega, hMs⟩

/-- What the loop of deeds keeps. -/
structure InvA (i : Nat) (p : Po) (f : Int → Option Value) : Prop where
  cnt : Cnt 20 p
  act : p.act ≤ i
  room : p.room = 30
  st : StOf p f
theorem StOf.put {p q : Po} {f : Int → Option Value} (h : StOf p f) {id v : Int} (h1 : ∀ k, k ≠ id → stP q k = stP p k) (h2 : stP q id = v) : StOf q (fun j => if j = id then some (.int .i64 v) else f j) := fun k hk => by
  by_cases e : k = id
  · subst e; dsimp only; rw [if_pos rfl, h2]; rfl
  · dsimp only; rw [if_neg e, h1 k e]; exact h k hk
theorem invA_add {i : Nat} {p : Po} {f : Int → Option Value} (h : InvA i p f) (hi : i < 12) {id : Int} (h1 : 1 ≤ id ∧ id ≤ 20) :
    ∃ r st : Int, addE p id 0 = r ∧ stP p id = st ∧ ((r = 0 ∧ st = 0 ∧ InvA (i + 1) (addG p id 7 0) (fun j => if j = id then some (.int .i64 1) else f j)) ∨ (r = 20 ∧ st = 1 ∧ InvA (i + 1) (addG p id 7 0) f) ∨ (r = 20 ∧ st = 2 ∧ InvA (i + 1) (addG p id 7 0) f)) := by
  have hc := h.cnt.addG id 7 0 (by omega)
  have ha := h.act
  have hr := h.room
  cases hm : p.all id with
  | none =>
    have e : addE p id 0 = 0 := by unfold addE; rw [if_pos (by omega), hm, if_neg (by simp), if_neg (by omega)]
    have ea : addG p id 7 0 = addP p id 7 0 := by unfold addG; rw [if_pos e]
    have hall : ∀ k, (addP p id 7 0).all k = if k = id then some ⟨id, 7, 0, 1, (newB p : Int)⟩ else p.all k := fun _ => rfl
    rw [ea] at hc ⊢
    refine ⟨0, 0, e, by unfold stP; rw [hm], .inl ⟨rfl, rfl, hc, ?_, hr, h.st.put (fun k hk => st_other (by rw [hall, if_neg hk])) (by unfold stP; rw [hall, if_pos rfl])⟩⟩
    show p.act + 1 ≤ i + 1
    omega
  | some m =>
    have e : addE p id 0 = 20 := by unfold addE; rw [if_pos (by omega), hm]; rfl
    have ea : addG p id 7 0 = p := by unfold addG; rw [if_neg (by omega)]
    rw [ea] at hc ⊢
    have hst : stP p id = m.state := by unfold stP; rw [hm]
    rcases h.cnt.two id m hm with h2 | h2
    · exact ⟨20, 1, e, hst.trans h2, .inr (.inl ⟨rfl, rfl, hc, by omega, hr, h.st⟩)⟩
    · exact ⟨20, 2, e, hst.trans h2, .inr (.inr ⟨rfl, rfl, hc, by omega, hr, h.st⟩)⟩
theorem invA_drain {i : Nat} {p : Po} {f : Int → Option Value} (h : InvA i p f) {id : Int} :
    ∃ r st : Int, drainE p id = r ∧ stP p id = st ∧ ((r = 0 ∧ st = 1 ∧ InvA (i + 1) (drainG p id) (fun j => if j = id then some (.int .i64 2) else f j)) ∨ (r = 19 ∧ st = 0 ∧ InvA (i + 1) (drainG p id) f) ∨ (r = 15 ∧ st = 2 ∧ InvA (i + 1) (drainG p id) f)) := by
  have hc := h.cnt.drainG id
  have ha := h.act
  have hr := h.room
  cases hm : p.all id with
  | none =>
    have e : drainE p id = 19 := by unfold drainE; rw [hm]
    have ea : drainG p id = p := by unfold drainG; rw [hm]
    rw [ea] at hc ⊢
    exact ⟨19, 0, e, by unfold stP; rw [hm], .inr (.inl ⟨rfl, rfl, hc, by omega, hr, h.st⟩)⟩
  | some m =>
    have hst : stP p id = m.state := by unfold stP; rw [hm]
    rcases h.cnt.two id m hm with h2 | h2
    · have e : drainE p id = 0 := by unfold drainE; rw [hm]; dsimp only; rw [if_pos h2]
      have ea : drainG p id = drainP p id m := by unfold drainG; rw [hm]; dsimp only; rw [if_pos h2]
      rw [ea] at hc ⊢
      obtain ⟨s1, s2⟩ := drainP_st (p := p) (id := id) (m := m)
      have h5 := drain_act h.cnt.good hm h2
      exact ⟨0, 1, e, hst.trans h2, .inl ⟨rfl, rfl, hc, by omega, drain_key.2.trans hr, h.st.put s1 s2⟩⟩
    · have e : drainE p id = 15 := by unfold drainE; rw [hm]; dsimp only; rw [if_neg (by omega)]
      have ea : drainG p id = p := by unfold drainG; rw [hm]; dsimp only; rw [if_neg (by omega)]
      rw [ea] at hc ⊢
      exact ⟨15, 2, e, hst.trans h2, .inr (.inr ⟨rfl, rfl, hc, by omega, hr, h.st⟩)⟩
theorem invA_remove {i : Nat} {p : Po} {f : Int → Option Value} (h : InvA i p f) {id : Int} :
    ∃ r st : Int, removeE p id = r ∧ stP p id = st ∧ ((r = 19 ∧ st = 0) ∨ (r = 0 ∧ st = 1) ∨ (r = 0 ∧ st = 2)) ∧ InvA (i + 1) (removeG p id) (fun j => if j = id then some (.int .i64 0) else f j) := by
  have hc := h.cnt.removeG id
  have ha := h.act
  have hr := h.room
  cases hm : p.all id with
  | none =>
    have e : removeE p id = 19 := by unfold removeE; rw [hm]; rfl
    have ea : removeG p id = p := by unfold removeG; rw [hm]
    have hst : stP p id = 0 := by unfold stP; rw [hm]
    rw [ea] at hc ⊢
    exact ⟨19, 0, e, hst, .inl ⟨rfl, rfl⟩, hc, by omega, hr, h.st.put (fun _ _ => rfl) hst⟩
  | some m =>
    have hst : stP p id = m.state := by unfold stP; rw [hm]
    have e : removeE p id = 0 := by unfold removeE; rw [hm]; rfl
    rcases h.cnt.two id m hm with h2 | h2
    · have ea : removeG p id = (drainP p id m).gone id := by unfold removeG; rw [hm]; dsimp only; rw [if_pos h2]
      rw [ea] at hc ⊢
      obtain ⟨s1, _⟩ := drainP_st (p := p) (id := id) (m := m)
      obtain ⟨t1, t2⟩ := gone_st (p := drainP p id m) (id := id)
      have h5 := drain_act h.cnt.good hm h2
      refine ⟨0, 1, e, hst.trans h2, .inr (.inl ⟨rfl, rfl⟩), hc, ?_, ?_, h.st.put (fun k hk => (t1 k hk).trans (s1 k hk)) t2⟩
      · show (drainP p id m).act ≤ i + 1
        omega
      · exact drain_key.2.trans hr
    · have ea : removeG p id = p.gone id := by unfold removeG; rw [hm]; dsimp only; rw [if_neg (by omega)]
      rw [ea] at hc ⊢
      obtain ⟨t1, t2⟩ := gone_st (p := p) (id := id)
      refine ⟨0, 2, e, hst.trans h2, .inr (.inr ⟨rfl, rfl⟩), hc, ?_, hr, h.st.put t1 t2⟩
      show p.act ≤ i + 1
      omega
end Go.Proofs.Ytlipkffnllmkgaa

namespace Go.Proofs.Ytlipkffnllmkgaa
open Go.RowKit Go.Shelf Go.Maps

theorem cntTo_mono (f : Nat → Bool) : ∀ n, cntTo f n ≤ cntTo f (n + 1) := fun n => by
  show cntTo f n ≤ cntTo f n + _
  omega
theorem cntTo_up (f : Nat → Bool) (n : Nat) : ∀ d, cntTo f n ≤ cntTo f (n + d)
  | 0 => Nat.le_refl _
  | d + 1 => Nat.le_trans (cntTo_up f n d) (cntTo_mono f _)
theorem cntTo_le (f : Nat → Bool) : ∀ n, cntTo f n ≤ n
  | 0 => Nat.le_refl _
  | n + 1 => by
    have := cntTo_le f n
    show cntTo f n + _ ≤ n + 1
    split <;> omega
theorem cntTo_yes {f : Nat → Bool} {n : Nat} (h : f n = true) : cntTo f (n + 1) = cntTo f n + 1 := by
  show cntTo f n + _ = _
  rw [if_pos h]
theorem cntTo_no {f : Nat → Bool} {n : Nat} (h : f n = false) : cntTo f (n + 1) = cntTo f n := by
  show cntTo f n + _ = _
  rw [if_neg (by rw [h]; simp)]; rfl

/-- The tuple of a port alone, chosen. -/
def ChooseSays (B Xp N : Nat) (S : Nat → Prop) (p : Po) (a1 : Int) (ok : Bool) : Prop := ∃ i a q : Int, ∀ W, PoolAt B S Xp N p W →
  Calls Try.prog 17 #[.pointer (some ⟨Xp, 0, none⟩), .agg #[.int .i64 6, .int .u32 0, .int .u32 0, .int .i64 a1, .int .i64 0]] W fun e w' => e = .returned (.tuple #[.agg #[.int .i64 i, .int .u32 a, .int .i64 q], .bool ok]) ∧ Below W.heap.size W w'
theorem choose_says {B Xp N : Nat} {S : Nat → Prop} {p : Po} (g : Good p) (a1 : Int) :
    (0 < (p.act : Int) ∧ 0 ≤ a1 ∧ a1 ≤ 65535 ∧ ChooseSays B Xp N S p a1 true) ∨ (((p.act : Int) = 0 ∨ a1 < 0 ∨ 65535 < a1) ∧ ChooseSays B Xp N S p a1 false) := by
  by_cases hp : 0 ≤ a1 ∧ a1 ≤ 65535
  · obtain ⟨x, rfl⟩ : ∃ x : Nat, a1 = (x : Int) := ⟨a1.toNat, by omega⟩
    by_cases h0 : p.act = 0
    · refine .inr ⟨.inl (by omega), 0, 0, 0, fun W hW => ?_⟩
      exact at_choose_none hW h0 6 0 0 x 0 (by omega) (by omega) (by omega) (by omega) (by omega)
    · refine .inl ⟨by omega, hp.1, hp.2, ?_⟩
      obtain ⟨id, hpick⟩ := g.pickId h0 (tupK p.key 6 0 0 x 0)
      obtain ⟨m, hm, _⟩ := hpick.mem g
      exact ⟨id, m.addr, m.port, fun W hW => at_choose hW g h0 6 0 0 x 0 (by omega) (by omega) (by omega) (by omega) (by omega) hpick hm⟩
  · refine .inr ⟨.inr (by omega), 0, 0, 0, fun W hW => ?_⟩
    obtain ⟨Sa, X, M, O, n, hP, hn, hB⟩ := hW
    exact choose_bad hP 6 a1 0 0 0 (by omega) (by omega) (by omega)
theorem AllM.says {B X N R C Ms nn : Nat} {p : Po} {f : Int → Option Value} {w : World} (h : AllM B X N p R C Ms nn f w) (g : Good p) (a1 : Int) :
    (0 < (p.act : Int) ∧ 0 ≤ a1 ∧ a1 ≤ 65535 ∧ ∃ S, PoolAt B S X N p w ∧ ChooseSays B X N S p a1 true) ∨ (((p.act : Int) = 0 ∨ a1 < 0 ∨ 65535 < a1) ∧ ∃ S, PoolAt B S X N p w ∧ ChooseSays B X N S p a1 false) := by
  obtain ⟨o, ⟨S, hS, hg⟩, hm⟩ := h
  rcases choose_says (B := B) (Xp := X) (N := N) (S := S) g a1 with ⟨h1, h2, h3, h4⟩ | ⟨h1, h4⟩
  · exact .inl ⟨h1, h2, h3, S, hS, h4⟩
  · exact .inr ⟨h1, S, hS, h4⟩
theorem AllM.act {B X N R C Ms nn : Nat} {p : Po} {f : Int → Option Value} {w : World} (h : AllM B X N p R C Ms nn f w) (A : Int) (hA : (p.act : Int) = A) : Calls Try.prog 10 #[.pointer (some ⟨X, 0, none⟩)] w fun e w' => e = .returned (.int .i64 A) ∧ w' = w := by
  obtain ⟨o, hg, hm⟩ := h
  exact one_act hg.one A hA
theorem AllM.res {B X N R C Ms nn : Nat} {p : Po} {f : Int → Option Value} {w : World} (h : AllM B X N p R C Ms nn f w) : w.heap[R]? = some boxR := by
  obtain ⟨o, hg, hm⟩ := h
  exact hg.has (b := R) (o := boxR) (by simp)
theorem leave_res {w W : World} {D : Nat} (hr : W.heap[w.heap.size]? = some (.cells #[.bool false] 4 (0, 0))) (hB : Below w.heap.size w W) (hD : W.heap[D]? = some (.deferred (some []))) (hl : w.heap.size < D) :
    (W.setCell ⟨w.heap.size, 0, none⟩ (.bool true)).drew.heap[D]? = some (.deferred (some [])) ∧
    ((W.setCell ⟨w.heap.size, 0, none⟩ (.bool true)).drew.putObj D (.deferred none)).cell? ⟨w.heap.size, 0, none⟩ = some (.bool true) ∧
    Below w.heap.size w ((W.setCell ⟨w.heap.size, 0, none⟩ (.bool true)).drew.putObj D (.deferred none)) := by
  have hk2 : (W.setCell ⟨w.heap.size, 0, none⟩ (.bool true)).drew.heap[D]? = some (.deferred (some [])) := (Below.heap_setCell _ ⟨w.heap.size, 0, none⟩ _ D (by simp; omega)).trans hD
  have d3 : (W.setCell ⟨w.heap.size, 0, none⟩ (.bool true)).drew.heap[w.heap.size]? = some (.cells #[.bool true] 4 (0, 0)) := by
    simp [World.setCell, World.drew, Array.getElem?_modify, hr]
  have hb1 : Below w.heap.size w (W.setCell ⟨w.heap.size, 0, none⟩ (.bool true)).drew := (hB.setCell (p := ⟨w.heap.size, 0, none⟩) (by simp) _).drew
  have hG := grownBy_putObj' (W.setCell ⟨w.heap.size, 0, none⟩ (.bool true)).drew D (.deferred none)
  have d4 := (hG.block w.heap.size (Array.getElem?_eq_some_iff.1 d3).1 (fun e => by cases e; omega)).trans d3
  exact ⟨hk2, (cell1 d4).1, ⟨hG.os.trans hb1.os, hG.tape.trans hb1.tape, hG.output.trans hb1.output, Nat.le_trans hb1.size hG.size, fun b hb => (hG.block b (Nat.lt_of_lt_of_le hb hb1.size) (fun e => by cases e; omega)).trans (hb1.block b hb)⟩⟩
/-- One off, in its box. -/
theorem box_set {W wr : World} {q D Q : Nat} {x y A : Int} (hq : W.heap[q]? = some (.cells #[.int .i64 x] 3 (0, 0))) (hA : W.heap[q + 1]? = some (.cells #[.int .i64 A] 3 (0, 0))) (hD : W.heap[D]? = some (.deferred (some []))) (hB : Below Q wr W) (h1 : Q ≤ q) (h2 : q ≠ D) :
    ((W.setCell ⟨q, 0, none⟩ (.int .i64 y)).heap[q]? = some (.cells #[.int .i64 y] 3 (0, 0)) ∧ (W.setCell ⟨q, 0, none⟩ (.int .i64 y)).heap[q + 1]? = some (.cells #[.int .i64 A] 3 (0, 0)) ∧ (W.setCell ⟨q, 0, none⟩ (.int .i64 y)).heap[D]? = some (.deferred (some []))) ∧ Below Q wr (W.setCell ⟨q, 0, none⟩ (.int .i64 y)) :=
  ⟨⟨by simp [World.setCell, Array.getElem?_modify, hq], (Below.heap_setCell _ _ _ _ (by simp)).trans hA, (Below.heap_setCell _ _ _ _ (by simp; exact fun e => h2 e.symm)).trans hD⟩, hB.setCell (p := ⟨q, 0, none⟩) h1 _⟩
end Go.Proofs.Ytlipkffnllmkgaa
