/- Texts of this proof, put together: GT GU GQ GV. -/
import Derived.Test.YtpbknbnhljjjcaaDoorML
import Derived.Maps.RangeWalk
import Derived.Deep.Grids
namespace Go.Proofs.YtpbknbnhljjjcaaDoor
open Go.RowKit Go.Maps Go.Lib
set_option maxRecDepth 100000 in
set_option maxHeartbeats 2000000 in
theorem right_bad (t : Tms) (s0 n0 : Int) (h0 : t.of s0 = some n0) (hw0 : (Lit.int .i64 s0).wf = true) (hb0 : n0 < 1 ∨ 1073741824 < n0) (w : World) : Calls Tryd.prog 29 #[t.v] w fun e w' => e = .returned (.bool false) ∧ Below w.heap.size w w' := by
  have HA := Lib.hid (fun W => all_ok t W)
  have HS0 := Lib.hid (And.intro h0 (And.intro hw0 hb0))
  clear h0 hw0 hb0
  unfold Tms.v at *
  go_enter Tryd.func29, Tryd.ntmps29
  go_wp2_with (first
    | (go_at_call 51; refine (HA.out _).mono ?_; rintro e wx ⟨rfl, ⟨c, D, hown, hsz, hD⟩, hb⟩; have HB := Lib.hid ((below_box w (boxM t)).trans (hb.mono (by rw [World.size_alloc]; omega))); have HD := Lib.hid hD; clear hsz hD hb; rw [World.size_alloc] at hown)
    | (at_range; refine wpList_range_own _ rfl _ 108 rfl 3 3 (int_keyed int3) Tryd.underlying108 heldR (w.heap.size + 1 + 1) c _ rfl hown ?_; intro w2 hrg2 hg2 hs2))
  go_frame
  obtain ⟨r, hr⟩ : ∃ r, wx.heap.size = r := ⟨_, rfl⟩
  obtain ⟨M, hM⟩ : ∃ M, w.heap.size + 1 + 1 = M := ⟨_, rfl⟩
  rw [hr] at hrg2 hs2 ⊢
  rw [hM] at hrg2
  have HB2 := Lib.hid (HB.out.grown hg2 HB.out.size (fun j e => by cases e))
  have HRW := Lib.hid (show w.heap.size ≤ r from by rw [← hr]; exact HB.out.size)
  have HRG2 := Lib.hid hrg2
  clear hown hg2 hs2 hr hM hrg2 HA
  go_loopw [4] (fun _ wr => ∃ (left : Lit → Bool) (cnt : Nat), wr.ranges Tryd.prog 3 heldR M r c D left cnt ∧ (∀ kl, left kl = true → Maps.has D kl = true) ∧ left (.int .i64 s0) = true ∧ Below w.heap.size w wr) (fun _ wr => wr.rangeLeft M r)
  case atStart => exact ⟨_, _, HRG2.out, fun kl h => h, by have h2 := (HD.out s0 HS0.out.2.1).2; rw [HS0.out.1] at h2; exact h2, HB2.out⟩
  case round =>
    obtain ⟨left, cnt, hrg, hle, hs0, hbr⟩ := hrel
    have HLS := Lib.hid hs0
    clear hs0
    have HLE := Lib.hid hle
    have HBR := Lib.hid hbr
    have HRG := Lib.hid hrg
    clear hle hbr hrg
    go_wp2_with (at_next; refine wpList_next_ranges wr rfl (.tmp 7) rfl 3 (int_keyed int3) heldR (Value.int .i64) (id : Value → Value) (fun key kl hk => by obtain ⟨x, rfl, _⟩ := Maps.keyOf_int_inv int3 hk; exact ⟨x, rfl⟩) heldR_inv9 M r c D left cnt (by rfl) HRG.out ?_ ?_)
    · intro _ hnone
      have h9 := HLS.out
      rw [hnone] at h9
      cases h9
    · intro x v kl y1 y2 w3 cnt1 hkey hlk hRv hat hrg3 hlt3 hg3 hs3 hen
      obtain ⟨x', ex, rfl, hwx⟩ := Maps.keyOf_int_inv int3 hkey
      cases ex
      obtain ⟨hd1, hd2⟩ := HD.out x hwx
      have hh : ((t.of x).map (Value.int .i64)).isSome = true := by
        rw [← hd2]
        exact HLE.out _ hlk
      cases hof : t.of x with
      | none => rw [hof] at hh; cases hh
      | some n =>
        have hav : v = .int .i64 n := by
          have h1 := hat (.held v)
          have h2 := hd1 v
          rw [hof] at h2
          have h3 : D.atKey (.int .i64 x) (.held v) = .held (Value.int .i64 n) := h2
          rw [h3] at h1
          cases hRv
          have h1 : DataW.held (Value.int .i64 n) = DataW.held v := h1
          cases h1
          rfl
        subst hav
        by_cases hgood : 1 ≤ n ∧ n ≤ 1073741824
        · have hn1 : ¬ n < 1 := by omega
          have hn2 : ¬ 1073741824 < n := by omega
          have hxs : s0 ≠ x := fun e => by
            have h3 := HS0.out.1
            rw [e, hof] at h3
            cases h3
            have := HS0.out.2.2
            omega
          have hen : (Instr.entry (.pointer (some ⟨r, 0, none⟩))).run Tryd.prog w3 = .ok (.tuple #[.int .i64 x, .int .i64 n]) w3 := hen
          have HR3 := Lib.hid hrg3
          have HB3 := Lib.hid (HBR.out.grown hg3 HBR.out.size (fun j e => by cases e; exact HRW.out))
          have HL3 := Lib.hid hlt3
          have HL4 := Lib.hid (show (left (.int .i64 s0) && !(Lit.int .i64 s0).sameKey (.int .i64 x)) = true from by rw [HLS.out]; simp [Lit.sameKey, hxs])
          clear hkey hlk hRv hat hrg3 hlt3 hg3 hs3 hh hof hd1 hd2 hxs
          go_wp2_with fail
          go_roundw
          case rel => exact ⟨_, cnt1, HR3.out, fun kl h => HLE.out kl (by simp only [Bool.and_eq_true] at h; exact h.1), HL4.out, HB3.out⟩
          case measure => rw [HR3.out.left_eq, HRG.out.left_eq]; exact HL3.out
        · have hen : (Instr.entry (.pointer (some ⟨r, 0, none⟩))).run Tryd.prog w3 = .ok (.tuple #[.int .i64 x, .int .i64 n]) w3 := hen
          have HB3 := Lib.hid (HBR.out.grown hg3 HBR.out.size (fun j e => by cases e; exact HRW.out))
          clear hkey hlk hRv hat hrg3 hlt3 hg3 hs3 hh hof hd1 hd2
          by_cases hn1 : n < 1
          · clear hgood
            go_wp2_with fail
            go_ret
            exact ⟨rfl, HB3.out⟩
          · have hn2 : 1073741824 < n := by omega
            clear hgood
            go_wp2_with fail
            go_ret
            exact ⟨rfl, HB3.out⟩

theorem not_right {t : Tms} (h : ¬ t.right) : ∃ s n, t.of s = some n ∧ (Lit.int .i64 s).wf = true ∧ (n < 1 ∨ 1073741824 < n) := by
  by_cases k : ∃ s n, t.of s = some n ∧ (n < 1 ∨ 1073741824 < n)
  · obtain ⟨s, n, h1, h2⟩ := k
    refine ⟨s, n, h1, ?_, h2⟩
    unfold Tms.of at h1
    have hs : 1 ≤ s ∧ s ≤ 8 := by
      repeat' split at h1
      all_goals first | omega | (cases h1)
    exact i64_wf' (by omega) (by omega)
  · exact (h (fun s n hs => by
      by_cases e : n < 1 ∨ 1073741824 < n
      · exact (k ⟨s, n, hs, e⟩).elim
      · omega)).elim
/-- May flows be made so? -/
def MakeOk (r l m t : Int) (tm : Tms) : Prop := (1 ≤ r ∧ r ≤ 65536) ∧ ¬ PortsBad l m t ∧ tm.right
set_option maxRecDepth 100000 in
set_option maxHeartbeats 4000000 in
theorem new_refused (r l m t : Int) (tm : Tms) (hl : -9223372036854775808 ≤ l ∧ l ≤ 9223372036854775807) (hbad : ¬ MakeOk r l m t tm) (w : World) :
    Calls Tryd.prog 12 #[.agg #[.int .i64 r, .int .i64 l, .int .i64 m, .int .i64 t, .int .i64 tm.op, .int .i64 tm.on, .int .i64 tm.cl, .int .i64 tm.wa, .int .i64 tm.ud]] w fun e w' => e = .returned (.tuple #[.pointer none, .int .i64 1]) ∧ Below w.heap.size w w' := by
  have HT : ∃ v e : Int, ∃ p, RowKit.Hid (∀ W : World, Calls Tryd.prog 27 #[.int .i64 r] W fun x w' => ∃ q, x = .returned (.tuple #[.pointer q, .int .i64 e]) ∧ Below W.heap.size W w') ∧ v = e ∧ p = (e = 0) ∧ (p ↔ 1 ≤ r ∧ r ≤ 65536) ∧ (e = 0 ∨ e = 1) := by
    by_cases hr : 1 ≤ r ∧ r ≤ 65536
    · obtain ⟨R, rfl⟩ : ∃ R : Nat, r = R := ⟨r.toNat, by omega⟩
      exact ⟨0, 0, _, Lib.hid (fun W => (tab_new R (by omega) (by omega) W).mono (fun e w' k => ⟨_, k.1, k.2.2⟩)), rfl, rfl, by simp; omega, .inl rfl⟩
    · exact ⟨1, 1, _, Lib.hid (fun W => (tab_bad r (by omega) W).mono (fun e w' k => ⟨_, k.1, by rw [k.2]; exact Below.refl _ _⟩)), rfl, rfl, by simp; omega, .inr rfl⟩
  obtain ⟨_, ea, _, HT, _, rfl, hra, hea⟩ := HT
  have HP : ∃ e : Int, RowKit.Hid (∀ W : World, Calls Tryd.prog 28 #[.int .i64 l, .int .i64 m, .int .i64 t] W fun x w' => ∃ q, x = .returned (.tuple #[.pointer q, .int .i64 e]) ∧ Below W.heap.size W w') ∧ (e = 0 ↔ ¬ PortsBad l m t) ∧ (e = 0 ∨ e = 1) := by
    by_cases hp : PortsBad l m t
    · exact ⟨1, Lib.hid (fun W => (ports_bad l m t hl hp W).mono (fun e w' k => ⟨_, k.1, by rw [k.2]; exact Below.refl _ _⟩)), by simp [hp], .inr rfl⟩
    · have hq := hp
      unfold PortsBad at hq
      obtain ⟨L, rfl⟩ : ∃ L : Nat, l = L := ⟨l.toNat, by omega⟩
      obtain ⟨M, rfl⟩ : ∃ L : Nat, m = L := ⟨m.toNat, by omega⟩
      obtain ⟨T, rfl⟩ : ∃ L : Nat, t = L := ⟨t.toNat, by omega⟩
      exact ⟨0, Lib.hid (fun W => (ports_new L M T hp W).mono (fun e w' k => ⟨_, k.1, k.2.2⟩)), by simp [hp], .inl rfl⟩
  obtain ⟨eb, HP, hpb, heb⟩ := HP
  have HR : tm.right ∨ RowKit.Hid (∀ W : World, Calls Tryd.prog 29 #[tm.v] W fun e w' => e = .returned (.bool false) ∧ Below W.heap.size W w') := by
    by_cases hr : tm.right
    · exact .inl hr
    · obtain ⟨s, n, h1, h2, h3⟩ := not_right hr
      exact .inr (Lib.hid (fun W => right_bad tm s n h1 h2 h3 W))
  obtain ⟨w1, hw1⟩ : ∃ w1, w.alloc (boxCI r l m t tm.op tm.on tm.cl tm.wa tm.ud) = w1 := ⟨_, rfl⟩
  have hb1 : Below w.heap.size w w1 := by rw [← hw1]; exact (Below.refl _ w).alloc (Nat.le_refl _) _
  have hx1 : w1.heap[w.heap.size]? = some (boxCI r l m t tm.op tm.on tm.cl tm.wa tm.ud) := by rw [← hw1]; exact heap_alloc_new w _
  have hlt := (Array.getElem?_eq_some_iff.1 hx1).1
  have HS := Lib.hid (show ∀ W : World, Below w1.heap.size w1 W → (W.cell? ⟨w.heap.size, 0, none⟩ = some (.int .i64 r) ∧ W.cell? ⟨w.heap.size, 1, none⟩ = some (.int .i64 l) ∧ W.cell? ⟨w.heap.size, 2, none⟩ = some (.int .i64 m) ∧ W.cell? ⟨w.heap.size, 3, none⟩ = some (.int .i64 t) ∧ W.cell? ⟨w.heap.size, 4, none⟩ = some (.int .i64 tm.op) ∧ W.cell? ⟨w.heap.size, 5, none⟩ = some (.int .i64 tm.on) ∧ W.cell? ⟨w.heap.size, 6, none⟩ = some (.int .i64 tm.cl) ∧ W.cell? ⟨w.heap.size, 7, none⟩ = some (.int .i64 tm.wa) ∧ W.cell? ⟨w.heap.size, 8, none⟩ = some (.int .i64 tm.ud)) from fun W hb => by
    have e := (hb.block _ hlt).trans hx1
    unfold boxCI at e
    refine ⟨?_, ?_, ?_, ?_, ?_, ?_, ?_, ?_, ?_⟩ <;> simp [World.cell?, e])
  have HB1 := Lib.hid hb1
  have HW := Lib.hid hw1
  unfold boxCI at HW
  have HBAD := Lib.hid (show ea = 0 → eb = 0 → tm.right → False from fun e1 e2 e3 => hbad ⟨hra.1 e1, hpb.1 e2, e3⟩)
  clear hw1 hb1 hx1 hlt hl hbad hra hpb
  unfold Tms.v at HR
  rcases hea with rfl | rfl
  · rcases heb with rfl | rfl
    · rcases HR with hr | HR
      · exact (HBAD.out rfl rfl hr).elim
      · clear HBAD
        go_enter Tryd.func12, Tryd.ntmps12
        go_upto_region 1 with fail
        refine wp_world w1 HW.out ?_
        obtain ⟨c0, c1, c2, c3, c4, c5, c6, c7, c8⟩ := HS.out _ (Below.refl _ _)
        go_upto_region 2 with (go_at_call 27; refine (HT.out _).mono ?_; rintro e w2 ⟨q, rfl, hb⟩; have HB2 := Lib.hid hb; clear hb)
        clear c0 c1 c2 c3 c4 c5 c6 c7 c8
        obtain ⟨c0, c1, c2, c3, c4, c5, c6, c7, c8⟩ := HS.out _ HB2.out
        go_upto_region 3 with (go_at_call 28; refine (HP.out _).mono ?_; rintro e w3 ⟨q3, rfl, hb⟩; have HB3 := Lib.hid (HB2.out.trans (hb.mono HB2.out.size)); clear hb)
        clear c0 c1 c2 c3 c4 c5 c6 c7 c8
        obtain ⟨c0, c1, c2, c3, c4, c5, c6, c7, c8⟩ := HS.out _ HB3.out
        go_wp2_with (go_at_call 29; refine (HR.out _).mono ?_; rintro e w4 ⟨rfl, hb⟩; have HB4 := Lib.hid (HB3.out.trans (hb.mono HB3.out.size)); clear hb)
        go_ret2
        exact ⟨rfl, HB1.out.trans (HB4.out.mono HB1.out.size)⟩
    · clear HR HBAD
      go_enter Tryd.func12, Tryd.ntmps12
      go_upto_region 1 with fail
      refine wp_world w1 HW.out ?_
      obtain ⟨c0, c1, c2, c3, c4, c5, c6, c7, c8⟩ := HS.out _ (Below.refl _ _)
      go_upto_region 2 with (go_at_call 27; refine (HT.out _).mono ?_; rintro e w2 ⟨q, rfl, hb⟩; have HB2 := Lib.hid hb; clear hb)
      clear c0 c1 c2 c3 c4 c5 c6 c7 c8
      obtain ⟨c0, c1, c2, c3, c4, c5, c6, c7, c8⟩ := HS.out _ HB2.out
      go_wp2_with (go_at_call 28; refine (HP.out _).mono ?_; rintro e w3 ⟨q3, rfl, hb⟩; have HB3 := Lib.hid (HB2.out.trans (hb.mono HB2.out.size)); clear hb)
      go_ret2
      exact ⟨rfl, HB1.out.trans (HB3.out.mono HB1.out.size)⟩
  · clear HR HBAD heb
    go_enter Tryd.func12, Tryd.ntmps12
    go_upto_region 1 with fail
    refine wp_world w1 HW.out ?_
    obtain ⟨c0, c1, c2, c3, c4, c5, c6, c7, c8⟩ := HS.out _ (Below.refl _ _)
    go_upto_region 2 with (go_at_call 27; refine (HT.out _).mono ?_; rintro e w2 ⟨q, rfl, hb⟩; have HB2 := Lib.hid hb; clear hb)
    clear c0 c1 c2 c3 c4 c5 c6 c7 c8
    obtain ⟨c0, c1, c2, c3, c4, c5, c6, c7, c8⟩ := HS.out _ HB2.out
    go_wp2_with (go_at_call 28; refine (HP.out _).mono ?_; rintro e w3 ⟨q3, rfl, hb⟩; have HB3 := Lib.hid (HB2.out.trans (hb.mono HB2.out.size)); clear hb)
    go_ret2
    exact ⟨rfl, HB1.out.trans (HB3.out.mono HB1.out.size)⟩
end Go.Proofs.YtpbknbnhljjjcaaDoor

namespace Go.Proofs.YtpbknbnhljjjcaaDoor
open Go.RowKit Go.Maps Go.Lib
theorem may_ok (n : Int) (w : World) : Calls Tryd.prog 76 #[.int .i64 n] w fun e w' => e = .returned (.bool (decide (1 ≤ n ∧ n ≤ 1073741824))) ∧ w' = w := by
  by_cases h1 : 1 ≤ n
  · by_cases h2 : n ≤ 1073741824
    · rw [show decide (1 ≤ n ∧ n ≤ 1073741824) = true from by simp [h1, h2]]
      go_enter Tryd.func76, Tryd.ntmps76
      go_wp2_with fail
      go_ret
      exact ⟨rfl, rfl⟩
    · rw [show decide (1 ≤ n ∧ n ≤ 1073741824) = false from by simp [h2]]
      go_enter Tryd.func76, Tryd.ntmps76
      go_wp2_with fail
      go_ret
      exact ⟨rfl, rfl⟩
  · rw [show decide (1 ≤ n ∧ n ≤ 1073741824) = false from by simp [h1]]
    go_enter Tryd.func76, Tryd.ntmps76
    go_wp2_with fail
    go_ret
    exact ⟨rfl, rfl⟩
def fitsB (t : Tms) : Bool := decide (1 ≤ t.op ∧ t.op ≤ 1073741824) && decide (1 ≤ t.on ∧ t.on ≤ 1073741824) && decide (1 ≤ t.cl ∧ t.cl ≤ 1073741824) && decide (1 ≤ t.wa ∧ t.wa ≤ 1073741824) && decide (1 ≤ t.ud ∧ t.ud ≤ 1073741824)
theorem fitsB_right {t : Tms} : fitsB t = true ↔ t.right := by
  unfold fitsB
  simp only [Bool.and_eq_true, decide_eq_true_eq]
  constructor
  · rintro ⟨⟨⟨⟨h1, h2⟩, h3⟩, h4⟩, h5⟩ s n hs
    unfold Tms.of at hs
    repeat' split at hs
    all_goals first | (cases hs; assumption) | (cases hs)
  · intro h
    exact ⟨⟨⟨⟨h 1 _ rfl, h 3 _ rfl⟩, h 4 _ rfl⟩, h 7 _ rfl⟩, h 8 _ rfl⟩
set_option maxRecDepth 100000 in
set_option maxHeartbeats 2000000 in
theorem fits_ok (t : Tms) (w : World) : Calls Tryd.prog 53 #[.agg #[.int .i64 t.op, .int .i64 t.on, .int .i64 t.cl, .int .i64 t.wa, .int .i64 t.ud]] w fun e w' => e = .returned (.bool (fitsB t)) ∧ Below w.heap.size w w' := by
  unfold fitsB
  have HM0 := Lib.hid (fun (W : World) => may_ok t.op W)
  have HM1 := Lib.hid (fun (W : World) => may_ok t.on W)
  have HM2 := Lib.hid (fun (W : World) => may_ok t.cl W)
  have HM3 := Lib.hid (fun (W : World) => may_ok t.wa W)
  have HM4 := Lib.hid (fun (W : World) => may_ok t.ud W)
  generalize decide (1 ≤ t.op ∧ t.op ≤ 1073741824) = b0 at HM0 ⊢
  generalize decide (1 ≤ t.on ∧ t.on ≤ 1073741824) = b1 at HM1 ⊢
  generalize decide (1 ≤ t.cl ∧ t.cl ≤ 1073741824) = b2 at HM2 ⊢
  generalize decide (1 ≤ t.wa ∧ t.wa ≤ 1073741824) = b3 at HM3 ⊢
  generalize decide (1 ≤ t.ud ∧ t.ud ≤ 1073741824) = b4 at HM4 ⊢
  have HB := Lib.hid ((Below.refl w.heap.size w).alloc (Nat.le_refl _) (.cells #[.int .i64 t.op, .int .i64 t.on, .int .i64 t.cl, .int .i64 t.wa, .int .i64 t.ud] 81))
  cases b0
  · go_enter Tryd.func53, Tryd.ntmps53
    go_wp2_with fail
    refine (HM0.out _).mono ?_
    rintro e wx ⟨rfl, rfl⟩
    go_wp2_with fail
    go_ret
    exact ⟨rfl, HB.out⟩
  cases b1
  · go_enter Tryd.func53, Tryd.ntmps53
    go_wp2_with fail
    refine (HM0.out _).mono ?_
    rintro e wx ⟨rfl, rfl⟩
    go_wp2_with fail
    refine (HM1.out _).mono ?_
    rintro e wx ⟨rfl, rfl⟩
    go_wp2_with fail
    go_ret
    exact ⟨rfl, HB.out⟩
  cases b2
  · go_enter Tryd.func53, Tryd.ntmps53
    go_wp2_with fail
    refine (HM0.out _).mono ?_
    rintro e wx ⟨rfl, rfl⟩
    go_wp2_with fail
    refine (HM1.out _).mono ?_
    rintro e wx ⟨rfl, rfl⟩
    go_wp2_with fail
    refine (HM2.out _).mono ?_
    rintro e wx ⟨rfl, rfl⟩
    go_wp2_with fail
    go_ret
    exact ⟨rfl, HB.out⟩
  cases b3
  · go_enter Tryd.func53, Tryd.ntmps53
    go_wp2_with fail
    refine (HM0.out _).mono ?_
    rintro e wx ⟨rfl, rfl⟩
    go_wp2_with fail
    refine (HM1.out _).mono ?_
    rintro e wx ⟨rfl, rfl⟩
    go_wp2_with fail
    refine (HM2.out _).mono ?_
    rintro e wx ⟨rfl, rfl⟩
    go_wp2_with fail
    refine (HM3.out _).mono ?_
    rintro e wx ⟨rfl, rfl⟩
    go_wp2_with fail
    go_ret
    exact ⟨rfl, HB.out⟩
  cases b4
  · go_enter Tryd.func53, Tryd.ntmps53
    go_wp2_with fail
    refine (HM0.out _).mono ?_
    rintro e wx ⟨rfl, rfl⟩
    go_wp2_with fail
    refine (HM1.out _).mono ?_
    rintro e wx ⟨rfl, rfl⟩
    go_wp2_with fail
    refine (HM2.out _).mono ?_
    rintro e wx ⟨rfl, rfl⟩
    go_wp2_with fail
    refine (HM3.out _).mono ?_
    rintro e wx ⟨rfl, rfl⟩
    go_wp2_with fail
    refine (HM4.out _).mono ?_
    rintro e wx ⟨rfl, rfl⟩
    go_wp2_with fail
    go_ret
    exact ⟨rfl, HB.out⟩
  go_enter Tryd.func53, Tryd.ntmps53
  go_wp2_with fail
  refine (HM0.out _).mono ?_
  rintro e wx ⟨rfl, rfl⟩
  go_wp2_with fail
  refine (HM1.out _).mono ?_
  rintro e wx ⟨rfl, rfl⟩
  go_wp2_with fail
  refine (HM2.out _).mono ?_
  rintro e wx ⟨rfl, rfl⟩
  go_wp2_with fail
  refine (HM3.out _).mono ?_
  rintro e wx ⟨rfl, rfl⟩
  go_wp2_with fail
  refine (HM4.out _).mono ?_
  rintro e wx ⟨rfl, rfl⟩
  go_wp2_with fail
  go_ret
  exact ⟨rfl, HB.out⟩
set_option maxRecDepth 100000 in
set_option maxHeartbeats 2000000 in
theorem ref15_bad (low many rest : Int) (h : PortsBad low many rest) (w : World) : Calls Tryd.prog 52 #[.int .i64 low, .int .i64 many, .int .i64 rest] w fun e w' => e = .returned (.pointer none) ∧ Below w.heap.size w w' := by
  have H := Lib.hid h
  have HB := Lib.hid (Below.refl w.heap.size w)
  clear h
  by_cases h0 : low < 1
  · go_enter Tryd.func52, Tryd.ntmps52
    go_wp2_with fail
    go_ret
    exact ⟨rfl, HB.out⟩
  by_cases h1 : many < 1
  · go_enter Tryd.func52, Tryd.ntmps52
    go_wp2_with fail
    go_ret
    exact ⟨rfl, HB.out⟩
  by_cases h2 : 65536 < low
  · go_enter Tryd.func52, Tryd.ntmps52
    go_wp2_with fail
    go_ret
    exact ⟨rfl, HB.out⟩
  by_cases h3 : 65536 < many
  · go_enter Tryd.func52, Tryd.ntmps52
    go_wp2_with fail
    go_ret
    exact ⟨rfl, HB.out⟩
  have hw : wrap64 (low + many) = low + many := by unfold wrap64; omega
  by_cases h4 : 65536 < low + many
  · go_enter Tryd.func52, Tryd.ntmps52
    go_wp2_with fail
    go_ret
    exact ⟨rfl, HB.out⟩
  by_cases h5 : rest < 0
  · go_enter Tryd.func52, Tryd.ntmps52
    go_wp2_with fail
    go_ret
    exact ⟨rfl, HB.out⟩
  by_cases h6 : 1099511627776 < rest
  · go_enter Tryd.func52, Tryd.ntmps52
    go_wp2_with fail
    go_ret
    exact ⟨rfl, HB.out⟩
  have := H.out
  unfold PortsBad at this
  omega
set_option maxRecDepth 100000 in
set_option maxHeartbeats 2000000 in
theorem ref15_good (low many rest : Int) (h : ¬ PortsBad low many rest) (w : World) : Calls Tryd.prog 52 #[.int .i64 low, .int .i64 many, .int .i64 rest] w fun e w' => ∃ q, e = .returned (.pointer (some q)) ∧ Below w.heap.size w w' := by
  unfold PortsBad at h
  have h0 : ¬ low < 1 := by omega
  have h1 : ¬ many < 1 := by omega
  have h2 : ¬ 65536 < low := by omega
  have h3 : ¬ 65536 < many := by omega
  have h4 : ¬ 65536 < low + many := by omega
  have h5 : ¬ rest < 0 := by omega
  have h6 : ¬ 1099511627776 < rest := by omega
  have hw : wrap64 (low + many) = low + many := by unfold wrap64; omega
  clear h
  go_enter Tryd.func52, Tryd.ntmps52
  go_wp2_with fail
  go_ret
  exact ⟨⟨_, rfl⟩, (Below.refl _ w).alloc (Nat.le_refl _) _⟩
set_option maxRecDepth 100000 in
set_option maxHeartbeats 4000000 in
theorem ref20_bad (r l m t : Int) (tm : Tms) (h : ¬ MakeOk r l m t tm) (w : World) : Calls Tryd.prog 31 #[.int .i64 r, .int .i64 l, .int .i64 m, .int .i64 t, .agg #[.int .i64 tm.op, .int .i64 tm.on, .int .i64 tm.cl, .int .i64 tm.wa, .int .i64 tm.ud]] w fun e w' => e = .returned (.pointer none) ∧ Below w.heap.size w w' := by
  obtain ⟨w1, hw1⟩ : ∃ w1, w.alloc (.cells #[.int .i64 tm.op, .int .i64 tm.on, .int .i64 tm.cl, .int .i64 tm.wa, .int .i64 tm.ud] 81) = w1 := ⟨_, rfl⟩
  have hb1 : Below w.heap.size w w1 := by rw [← hw1]; exact (Below.refl _ w).alloc (Nat.le_refl _) _
  have hx1 : w1.heap[w.heap.size]? = some (.cells #[.int .i64 tm.op, .int .i64 tm.on, .int .i64 tm.cl, .int .i64 tm.wa, .int .i64 tm.ud] 81) := by rw [← hw1]; exact heap_alloc_new w _
  have hlt := (Array.getElem?_eq_some_iff.1 hx1).1
  have HS := Lib.hid (show ∀ W : World, Below w1.heap.size w1 W → (W.cell? ⟨w.heap.size, 0, none⟩ = some (.int .i64 tm.op) ∧ W.cell? ⟨w.heap.size, 1, none⟩ = some (.int .i64 tm.on) ∧ W.cell? ⟨w.heap.size, 2, none⟩ = some (.int .i64 tm.cl) ∧ W.cell? ⟨w.heap.size, 3, none⟩ = some (.int .i64 tm.wa) ∧ W.cell? ⟨w.heap.size, 4, none⟩ = some (.int .i64 tm.ud)) from fun W hb => by
    have e := (hb.block _ hlt).trans hx1
    refine ⟨?_, ?_, ?_, ?_, ?_⟩ <;> simp [World.cell?, e])
  have HB1 := Lib.hid hb1
  have HW := Lib.hid hw1
  have HP : ∃ p : Option Addr, RowKit.Hid (∀ W : World, Calls Tryd.prog 52 #[.int .i64 l, .int .i64 m, .int .i64 t] W fun e w' => ∃ q, (q = none ↔ p = none) ∧ e = .returned (.pointer q) ∧ Below W.heap.size W w') ∧ (p = none ↔ PortsBad l m t) := by
    by_cases hp : PortsBad l m t
    · exact ⟨none, Lib.hid (fun W => (ref15_bad l m t hp W).mono (fun e w' k => ⟨none, Iff.rfl, k.1, k.2⟩)), by simp [hp]⟩
    · exact ⟨some ⟨0, 0, none⟩, Lib.hid (fun W => (ref15_good l m t hp W).mono (fun e w' k => by obtain ⟨q, k1, k2⟩ := k; exact ⟨some q, by simp, k1, k2⟩)), by simp [hp]⟩
  obtain ⟨p, HP, hp⟩ := HP
  have HF := Lib.hid (fun (W : World) => fits_ok tm W)
  have HBAD := Lib.hid (show 1 ≤ r → r ≤ 65536 → ¬ PortsBad l m t → fitsB tm = true → False from fun e1 e2 e3 e4 => h ⟨⟨e1, e2⟩, e3, fitsB_right.1 e4⟩)
  have HPB := Lib.hid hp
  clear hw1 hb1 hx1 hlt h hp
  generalize fitsB tm = fb at HF HBAD
  by_cases h1 : r < 1
  · clear HF HBAD HPB
    go_enter Tryd.func31, Tryd.ntmps31
    go_upto_region 1 with fail
    refine wp_world w1 HW.out ?_
    go_wp2_with (go_at_call 52; refine (HP.out _).mono ?_; rintro e w3 ⟨q, _, rfl, hb⟩; have HB3 := Lib.hid hb; clear hb)
    go_ret
    exact ⟨rfl, HB1.out.trans (HB3.out.mono HB1.out.size)⟩
  by_cases h2 : 65536 < r
  · clear HF HBAD HPB
    go_enter Tryd.func31, Tryd.ntmps31
    go_upto_region 1 with fail
    refine wp_world w1 HW.out ?_
    go_wp2_with (go_at_call 52; refine (HP.out _).mono ?_; rintro e w3 ⟨q, _, rfl, hb⟩; have HB3 := Lib.hid hb; clear hb)
    go_ret
    exact ⟨rfl, HB1.out.trans (HB3.out.mono HB1.out.size)⟩
  by_cases h3 : PortsBad l m t
  · have hpn := HPB.out.2 h3
    subst hpn
    clear HF HBAD HPB h3
    go_enter Tryd.func31, Tryd.ntmps31
    go_upto_region 1 with fail
    refine wp_world w1 HW.out ?_
    go_wp2_with (go_at_call 52; refine (HP.out _).mono ?_; rintro e w3 ⟨q, hq, rfl, hb⟩; have HB3 := Lib.hid hb; obtain rfl := hq.2 rfl; clear hb hq)
    go_ret
    exact ⟨rfl, HB1.out.trans (HB3.out.mono HB1.out.size)⟩
  · have hps : ∃ a, p = some a := by
      cases p with
      | none => exact (h3 (HPB.out.1 rfl)).elim
      | some a => exact ⟨a, rfl⟩
    obtain ⟨a, rfl⟩ := hps
    cases fb
    · clear HBAD HPB h3
      go_enter Tryd.func31, Tryd.ntmps31
      go_upto_region 1 with fail
      refine wp_world w1 HW.out ?_
      go_upto_region 2 with (go_at_call 52; refine (HP.out _).mono ?_; rintro e w3 ⟨q, hq, rfl, hb⟩; have HB3 := Lib.hid hb; cases q with | none => exact absurd (hq.1 rfl) (by simp) | some q => ?_; clear hb hq)
      obtain ⟨c0, c1, c2, c3, c4⟩ := HS.out _ HB3.out
      go_wp2_with (go_at_call 53; refine (HF.out _).mono ?_; rintro e w4 ⟨rfl, hb⟩; have HB4 := Lib.hid (HB3.out.trans (hb.mono HB3.out.size)); clear hb)
      go_ret
      exact ⟨rfl, HB1.out.trans (HB4.out.mono HB1.out.size)⟩
    · exact (HBAD.out (by omega) (by omega) h3 rfl).elim
set_option maxRecDepth 100000 in
set_option maxHeartbeats 4000000 in
theorem ref20_good (r l m t : Int) (tm : Tms) (h : MakeOk r l m t tm) (w : World) : Calls Tryd.prog 31 #[.int .i64 r, .int .i64 l, .int .i64 m, .int .i64 t, .agg #[.int .i64 tm.op, .int .i64 tm.on, .int .i64 tm.cl, .int .i64 tm.wa, .int .i64 tm.ud]] w fun e w' => ∃ q, e = .returned (.pointer (some q)) ∧ Below w.heap.size w w' := by
  obtain ⟨w1, hw1⟩ : ∃ w1, w.alloc (.cells #[.int .i64 tm.op, .int .i64 tm.on, .int .i64 tm.cl, .int .i64 tm.wa, .int .i64 tm.ud] 81) = w1 := ⟨_, rfl⟩
  have hb1 : Below w.heap.size w w1 := by rw [← hw1]; exact (Below.refl _ w).alloc (Nat.le_refl _) _
  have hx1 : w1.heap[w.heap.size]? = some (.cells #[.int .i64 tm.op, .int .i64 tm.on, .int .i64 tm.cl, .int .i64 tm.wa, .int .i64 tm.ud] 81) := by rw [← hw1]; exact heap_alloc_new w _
  have hlt := (Array.getElem?_eq_some_iff.1 hx1).1
  have HS := Lib.hid (show ∀ W : World, Below w1.heap.size w1 W → (W.cell? ⟨w.heap.size, 0, none⟩ = some (.int .i64 tm.op) ∧ W.cell? ⟨w.heap.size, 1, none⟩ = some (.int .i64 tm.on) ∧ W.cell? ⟨w.heap.size, 2, none⟩ = some (.int .i64 tm.cl) ∧ W.cell? ⟨w.heap.size, 3, none⟩ = some (.int .i64 tm.wa) ∧ W.cell? ⟨w.heap.size, 4, none⟩ = some (.int .i64 tm.ud)) from fun W hb => by
    have e := (hb.block _ hlt).trans hx1
    refine ⟨?_, ?_, ?_, ?_, ?_⟩ <;> simp [World.cell?, e])
  have HB1 := Lib.hid hb1
  have HW := Lib.hid hw1
  obtain ⟨⟨hr1, hr2⟩, hp, ht⟩ := h
  have HP := Lib.hid (fun (W : World) => ref15_good l m t hp W)
  have HF := Lib.hid (fun (W : World) => fits_ok tm W)
  rw [fitsB_right.2 ht] at HF
  have h1 : ¬ r < 1 := by omega
  have h2 : ¬ 65536 < r := by omega
  clear hw1 hb1 hx1 hlt hp ht hr1 hr2
  go_enter Tryd.func31, Tryd.ntmps31
  go_upto_region 1 with fail
  refine wp_world w1 HW.out ?_
  go_upto_region 2 with (go_at_call 52; refine (HP.out _).mono ?_; rintro e w3 ⟨q, rfl, hb⟩; have HB3 := Lib.hid hb; clear hb)
  obtain ⟨c0, c1, c2, c3, c4⟩ := HS.out _ HB3.out
  go_upto_region 4 with (go_at_call 53; refine (HF.out _).mono ?_; rintro e w4 ⟨rfl, hb⟩; have HB4 := Lib.hid (HB3.out.trans (hb.mono HB3.out.size)); clear hb)
  clear c0 c1 c2 c3 c4
  obtain ⟨c0, c1, c2, c3, c4⟩ := HS.out _ HB4.out
  go_wp2_with fail
  go_ret
  have k := HB1.out.trans (HB4.out.mono HB1.out.size)
  refine ⟨_, rfl, ?_⟩
  exact (k.alloc k.size _).alloc (by rw [World.size_alloc]; exact Nat.le_succ_of_le k.size) _
end Go.Proofs.YtpbknbnhljjjcaaDoor

namespace Go.Proofs.YtpbknbnhljjjcaaDoor
open Go.RowKit Go.Maps Go.Lib Go.Deep
/-- A slice of integers that came in. -/
def RowIn (k : IntKind) (w : World) (a : Option Addr) (len cap : Nat) (zs : List Int) : Prop :=
  (a = none ∧ len = 0 ∧ cap = 0 ∧ zs = []) ∨
  ∃ x, a = some x ∧ len ≤ cap ∧ cap ≤ maxLen ∧ zs.length = cap ∧ (∀ i, i < zs.length → w.cell? (x.add i) = some (.int k (zs.getD i 0))) ∧ ∀ n ∈ zs, (Lit.int k n).wf = true
theorem cell_back {w w' : World} {p : Addr} {v : Value} (h : w.cell? p = some v) (hb : Below w.heap.size w w') : w'.cell? p = some v := by
  rw [hb.cell (p := p) ?_]
  · exact h
  · by_cases hl : p.block < w.heap.size
    · exact hl
    · simp [World.cell?, Array.getElem?_eq_none (Nat.le_of_not_lt hl)] at h
theorem RowIn.read {k : IntKind} {w w' : World} {a : Option Addr} {len cap : Nat} {zs : List Int} (h : RowIn k w a len cap zs) (hb : Below w.heap.size w w') {i : Nat} (hi : i < len) :
    ∃ x, a = some x ∧ len ≤ cap ∧ cap ≤ maxLen ∧ w'.cell? (x.add i) = some (.int k (zs.getD i 0)) ∧ (Lit.int k (zs.getD i 0)).wf = true := by
  rcases h with ⟨_, h, _⟩ | ⟨x, h1, h2, h3, h4, h5, h6⟩
  · omega
  · refine ⟨x, h1, h2, h3, cell_back (h5 i (by omega)) hb, h6 _ ?_⟩
    rw [List.getD_eq_getElem?_getD, List.getElem?_eq_getElem (by omega)]
    exact List.getElem_mem _
theorem RowIn.len {k : IntKind} {w : World} {a : Option Addr} {len cap : Nat} {zs : List Int} (h : RowIn k w a len cap zs) : len ≤ cap ∧ cap ≤ maxLen := by
  rcases h with ⟨_, h, h2, _⟩ | ⟨x, h1, h2, h3, _⟩
  · exact ⟨by omega, by unfold maxLen; omega⟩
  · exact ⟨h2, h3⟩
/-- A slice of bools that came in. -/
def BoolsIn (w : World) (a : Option Addr) (len cap : Nat) (B : Nat → Bool) : Prop :=
  (a = none ∧ len = 0 ∧ cap = 0) ∨ ∃ x, a = some x ∧ len ≤ cap ∧ cap ≤ maxLen ∧ ∀ i, i < cap → w.cell? (x.add i) = some (.bool (B i))
theorem BoolsIn.read {w w' : World} {a : Option Addr} {len cap : Nat} {B : Nat → Bool} (h : BoolsIn w a len cap B) (hb : Below w.heap.size w w') {i : Nat} (hi : i < len) :
    ∃ x, a = some x ∧ len ≤ cap ∧ cap ≤ maxLen ∧ w'.cell? (x.add i) = some (.bool (B i)) := by
  rcases h with ⟨_, h, _⟩ | ⟨x, h1, h2, h3, h4⟩
  · omega
  · exact ⟨x, h1, h2, h3, cell_back (h4 i (by omega)) hb⟩
theorem BoolsIn.len {w : World} {a : Option Addr} {len cap : Nat} {B : Nat → Bool} (h : BoolsIn w a len cap B) : len ≤ cap ∧ cap ≤ maxLen := by
  rcases h with ⟨_, h, h2⟩ | ⟨x, h1, h2, h3, _⟩
  · exact ⟨by omega, by unfold maxLen; omega⟩
  · exact ⟨h2, h3⟩
theorem open_boolsIn {H : Type} {enc : TypeId × Value → H} {w : World} {base : Nat} {held : Bool} {fuel : Nat} {a : Option Addr} {len cap : Nat} {x : DataW H × List MemPlace}
    (h : DataW.trod enc Tryd.prog w base (fun _ => true) held fuel 47 (Value.slice a len cap).cells.toList = some x) : ∃ B, BoolsIn w a len cap B := by
  rcases open_bools Tryd.underlying47 Tryd.underlying4 (by kernel_rfl) h with ⟨hc, _⟩ | ⟨y, l, c, B, hc, _, hl, hm, _, hx⟩
  · simp [Value.cells] at hc
    obtain ⟨rfl, rfl, rfl⟩ := hc
    exact ⟨fun _ => false, .inl ⟨rfl, rfl, rfl⟩⟩
  · simp [Value.cells] at hc
    obtain ⟨rfl, rfl, rfl⟩ := hc
    exact ⟨B, .inr ⟨y, rfl, hl, hm, hx⟩⟩
theorem step_le (s : Nat) (hs : 1 ≤ s ∧ s ≤ 7) (b : Bool) (z : Int) : (stepF s b z).1 ≤ 7 := by
  unfold stepF
  generalize fl z 4 = r
  generalize fl z 2 = y
  generalize fl z 16 = a
  generalize fl z 1 = f
  obtain rfl | rfl | rfl | rfl | rfl | rfl | rfl : s = 1 ∨ s = 2 ∨ s = 3 ∨ s = 4 ∨ s = 5 ∨ s = 6 ∨ s = 7 := by omega
  all_goals cases r <;> cases y <;> cases a <;> cases f <;> cases b <;> decide
theorem time_of (r x : Nat) (hx : 1 ≤ x ∧ x ≤ 7) : ∃ n : Nat, (cfR r).tm.of (x : Int) = some (n : Int) ∧ 1 ≤ n ∧ n ≤ 50 := by
  obtain rfl | rfl | rfl | rfl | rfl | rfl | rfl : x = 1 ∨ x = 2 ∨ x = 3 ∨ x = 4 ∨ x = 5 ∨ x = 6 ∨ x = 7 := by omega
  · exact ⟨5, rfl, by omega, by omega⟩
  · exact ⟨5, rfl, by omega, by omega⟩
  · exact ⟨50, rfl, by omega, by omega⟩
  · exact ⟨9, rfl, by omega, by omega⟩
  · exact ⟨9, rfl, by omega, by omega⟩
  · exact ⟨9, rfl, by omega, by omega⟩
  · exact ⟨7, rfl, by omega, by omega⟩
theorem fstep_tcp (s : Nat) (b : Bool) (z : Int) : fstep 6 s b z = stepF s b z := rfl
theorem u8_range {n : Int} (h : (Lit.int .u8 n).wf = true) : 0 ≤ n ∧ n < 256 := by
  simp [Lit.wf, IntKind.min, IntKind.max, IntKind.signed, IntKind.bits] at h
  omega
/-- A block of somebody's, and what lies in it. -/
def My (b : Nat) (o : Obj) (U : Nat → Prop) (W : World) : Prop := Mine b U W ∧ W.heap[b]? = some o
section
variable {pl : Pl} {c : Cf} {w : World} {g : FlG} {U : Nat → Prop} {W W' : World} {b : Nat} {o : Obj}
theorem My.new (h : Lv pl c w g U W) (o : Obj) : My W.heap.size o U (W.alloc o) := ⟨Mine.new h o, heap_alloc_new W o⟩
theorem My.below (h : My b o U W) (hb : Below W.heap.size W W') : My b o U W' := ⟨(h.1.below hb).1, (h.1.below hb).2.trans h.2⟩
theorem My.step {V : Nat → Prop} (h : My b o U W) (k2 : Only U W W') (k3 : ∀ i, V i → U i ∨ W.heap.size ≤ i) : My b o V W' := ⟨(h.1.step k2 k3).1, (h.1.step k2 k3).2.trans h.2⟩
end
end Go.Proofs.YtpbknbnhljjjcaaDoor

namespace Go.Proofs.YtpbknbnhljjjcaaDoor
open Go.RowKit Go.Maps Go.Lib
/-- A config that came in. -/
structure CfI where
  r : Int
  l : Int
  m : Int
  t : Int
  tm : Tms
def CfI.val (c : CfI) : Value := .agg #[.int .i64 c.r, .int .i64 c.l, .int .i64 c.m, .int .i64 c.t, .int .i64 c.tm.op, .int .i64 c.tm.on, .int .i64 c.tm.cl, .int .i64 c.tm.wa, .int .i64 c.tm.ud]
def CfI.wide (c : CfI) : Prop := ((Lit.int .i64 c.r).wf = true ∧ (Lit.int .i64 c.l).wf = true ∧ (Lit.int .i64 c.m).wf = true ∧ (Lit.int .i64 c.t).wf = true) ∧ (Lit.int .i64 c.tm.op).wf = true ∧ (Lit.int .i64 c.tm.on).wf = true ∧ (Lit.int .i64 c.tm.cl).wf = true ∧ (Lit.int .i64 c.tm.wa).wf = true ∧ (Lit.int .i64 c.tm.ud).wf = true
theorem i64_range {n : Int} (h : (Lit.int .i64 n).wf = true) : -9223372036854775808 ≤ n ∧ n ≤ 9223372036854775807 := by
  simp [Lit.wf, IntKind.min, IntKind.max, IntKind.signed, IntKind.bits] at h
  omega
section
variable {r l m t : Int} {tm : Tms}
theorem new_made (h : MakeOk r l m t tm) (W : World) : Calls Tryd.prog 12 #[.agg #[.int .i64 r, .int .i64 l, .int .i64 m, .int .i64 t, .int .i64 tm.op, .int .i64 tm.on, .int .i64 tm.cl, .int .i64 tm.wa, .int .i64 tm.ud]] W fun e w' => ∃ q, e = .returned (.tuple #[.pointer (some q), .int .i64 0]) ∧ Below W.heap.size W w' := by
  obtain ⟨⟨hr1, hr2⟩, hp, ht⟩ := h
  have hq := hp
  unfold PortsBad at hq
  obtain ⟨R, rfl⟩ : ∃ R : Nat, r = R := ⟨r.toNat, by omega⟩
  obtain ⟨L, rfl⟩ : ∃ L : Nat, l = L := ⟨l.toNat, by omega⟩
  obtain ⟨M, rfl⟩ : ∃ L : Nat, m = L := ⟨m.toNat, by omega⟩
  obtain ⟨T, rfl⟩ : ∃ L : Nat, t = L := ⟨t.toNat, by omega⟩
  refine (new_fl ⟨tm, L, M, T, R⟩ ⟨by show 1 ≤ R; omega, by show R ≤ 65536; omega⟩ hp ht W).mono ?_
  rintro e w' ⟨pl, S, rfl, _, hb, _⟩
  exact ⟨_, rfl, hb⟩
set_option maxRecDepth 100000 in
set_option maxHeartbeats 2000000 in
theorem ref_res (q0 : Bool) (HR : ∀ W : World, Calls Tryd.prog 31 #[.int .i64 r, .int .i64 l, .int .i64 m, .int .i64 t, .agg #[.int .i64 tm.op, .int .i64 tm.on, .int .i64 tm.cl, .int .i64 tm.wa, .int .i64 tm.ud]] W fun e w' => ∃ q : Option Addr, e = .returned (.pointer q) ∧ q.isSome = q0 ∧ Below W.heap.size W w') (w : World) :
    Calls Tryd.prog 13 #[.agg #[.int .i64 r, .int .i64 l, .int .i64 m, .int .i64 t, .int .i64 tm.op, .int .i64 tm.on, .int .i64 tm.cl, .int .i64 tm.wa, .int .i64 tm.ud]] w fun e w' => ∃ q : Option Addr, e = .returned (.pointer q) ∧ q.isSome = q0 ∧ Below w.heap.size w w' := by
  have HRR := Lib.hid HR
  have HB := Lib.hid ((Below.refl w.heap.size w).alloc (Nat.le_refl _) (boxCI r l m t tm.op tm.on tm.cl tm.wa tm.ud))
  unfold boxCI at HB
  clear HR
  go_enter Tryd.func13, Tryd.ntmps13
  go_wp2_with (go_at_call 31; refine (HRR.out _).mono ?_; rintro e w3 ⟨q, rfl, hq, hb⟩; have HB3 := Lib.hid (HB.out.trans (hb.mono HB.out.size)); have HQ := Lib.hid hq; clear hb hq)
  go_ret
  exact ⟨q, rfl, HQ.out, HB3.out⟩
theorem ref_any (w : World) : Calls Tryd.prog 13 #[.agg #[.int .i64 r, .int .i64 l, .int .i64 m, .int .i64 t, .int .i64 tm.op, .int .i64 tm.on, .int .i64 tm.cl, .int .i64 tm.wa, .int .i64 tm.ud]] w fun e w' => ∃ q : Option Addr, e = .returned (.pointer q) ∧ (q.isSome = true ↔ MakeOk r l m t tm) ∧ Below w.heap.size w w' := by
  by_cases h : MakeOk r l m t tm
  · refine (ref_res true (fun W => (ref20_good r l m t tm h W).mono (fun e w' k => by obtain ⟨q, k1, k2⟩ := k; exact ⟨some q, k1, rfl, k2⟩)) w).mono ?_
    rintro e w' ⟨q, h1, h2, h3⟩
    exact ⟨q, h1, by simp [h2, h], h3⟩
  · refine (ref_res false (fun W => (ref20_bad r l m t tm h W).mono (fun e w' k => ⟨none, k.1, rfl, k.2⟩)) w).mono ?_
    rintro e w' ⟨q, h1, h2, h3⟩
    exact ⟨q, h1, by simp [h2, h], h3⟩
end
set_option maxRecDepth 100000 in
set_option maxHeartbeats 8000000 in
theorem walk_FlowMakes (a0 : CfI) (w : World) (w0 : a0.wide) (hE : TabAt 0 Lib.deBruijn64tab w ∧ 0 < w.heap.size) :
    Calls Tryd.prog 3 #[a0.val] w fun e w' => e = .returned (.bool true) ∧ Below w.heap.size w w' := by
  obtain ⟨r, l, m, t, tm⟩ := a0
  have hl : -9223372036854775808 ≤ l ∧ l ≤ 9223372036854775807 := i64_range w0.1.2.1
  obtain ⟨w1, hw1⟩ : ∃ w1, w.alloc (boxCI r l m t tm.op tm.on tm.cl tm.wa tm.ud) = w1 := ⟨_, rfl⟩
  have hb1 : Below w.heap.size w w1 := by rw [← hw1]; exact (Below.refl _ w).alloc (Nat.le_refl _) _
  have hx1 : w1.heap[w.heap.size]? = some (boxCI r l m t tm.op tm.on tm.cl tm.wa tm.ud) := by rw [← hw1]; exact heap_alloc_new w _
  have hlt := (Array.getElem?_eq_some_iff.1 hx1).1
  have HS := Lib.hid (show ∀ W : World, Below w1.heap.size w1 W → (W.cell? ⟨w.heap.size, 0, none⟩ = some (.int .i64 r) ∧ W.cell? ⟨w.heap.size, 1, none⟩ = some (.int .i64 l) ∧ W.cell? ⟨w.heap.size, 2, none⟩ = some (.int .i64 m) ∧ W.cell? ⟨w.heap.size, 3, none⟩ = some (.int .i64 t) ∧ W.cell? ⟨w.heap.size, 4, none⟩ = some (.int .i64 tm.op) ∧ W.cell? ⟨w.heap.size, 5, none⟩ = some (.int .i64 tm.on) ∧ W.cell? ⟨w.heap.size, 6, none⟩ = some (.int .i64 tm.cl) ∧ W.cell? ⟨w.heap.size, 7, none⟩ = some (.int .i64 tm.wa) ∧ W.cell? ⟨w.heap.size, 8, none⟩ = some (.int .i64 tm.ud)) ∧ W.frozen? ⟨w.heap.size, 0, none⟩ = false from fun W hb => by
    have e := (hb.block _ hlt).trans hx1
    unfold boxCI at e
    refine ⟨⟨?_, ?_, ?_, ?_, ?_, ?_, ?_, ?_, ?_⟩, ?_⟩
    all_goals simp [World.cell?, World.frozen?, e])
  have HEX := Lib.hid (examples_ok w1 ⟨TabAt.kept hE.1 (hb1.block 0 hE.2), Nat.lt_of_lt_of_le hE.2 hb1.size⟩)
  have HB1 := Lib.hid hb1
  have HW := Lib.hid hw1
  have HNG := Lib.hid (show ∀ (R : Int), MakeOk R l m t tm → _ from fun R h => new_made (r := R) (l := l) (m := m) (t := t) (tm := tm) h)
  have HNB := Lib.hid (show ∀ (R : Int), ¬ MakeOk R l m t tm → _ from fun R h => new_refused R l m t tm hl h)
  have HRF := Lib.hid (show ∀ (R : Int), _ from fun R => ref_any (r := R) (l := l) (m := m) (t := t) (tm := tm))
  clear hw1 hb1 hx1 hlt hE hl w0
  unfold boxCI at HW
  unfold CfI.val
  by_cases hr : 1000 < r ∧ r ≤ 65536
  · obtain ⟨h1, h2⟩ := hr
    go_enter Tryd.func3, Tryd.ntmps3
    go_upto_region 1 with fail
    refine wp_world w1 HW.out ?_
    go_upto_region 2 with (go_at_call 11; refine HEX.out.mono ?_; rintro e w2 ⟨rfl, hb⟩; have HB2 := Lib.hid hb; clear hb)
    obtain ⟨⟨c0, c1, c2, c3, c4, c5, c6, c7, c8⟩, z0⟩ := HS.out _ HB2.out
    go_upto_region 6 with fail
    have HK := Lib.hid (show ∀ W : World, Below (w2.setCell ⟨w.heap.size, 0, none⟩ (.int .i64 1000)).heap.size (w2.setCell ⟨w.heap.size, 0, none⟩ (.int .i64 1000)) W → (W.cell? ⟨w.heap.size, 0, none⟩ = some (.int .i64 1000) ∧ W.cell? ⟨w.heap.size, 1, none⟩ = some (.int .i64 l) ∧ W.cell? ⟨w.heap.size, 2, none⟩ = some (.int .i64 m) ∧ W.cell? ⟨w.heap.size, 3, none⟩ = some (.int .i64 t) ∧ W.cell? ⟨w.heap.size, 4, none⟩ = some (.int .i64 tm.op) ∧ W.cell? ⟨w.heap.size, 5, none⟩ = some (.int .i64 tm.on) ∧ W.cell? ⟨w.heap.size, 6, none⟩ = some (.int .i64 tm.cl) ∧ W.cell? ⟨w.heap.size, 7, none⟩ = some (.int .i64 tm.wa) ∧ W.cell? ⟨w.heap.size, 8, none⟩ = some (.int .i64 tm.ud)) from fun W hb => by
      have q : ∀ o u, o ≠ 0 → w2.cell? ⟨w.heap.size, o, none⟩ = some u → (w2.setCell ⟨w.heap.size, 0, none⟩ (.int .i64 1000)).cell? ⟨w.heap.size, o, none⟩ = some u := fun o u ho hu => by
        rw [World.cell?_setCell_other _ _ _ _ (by simp)]
        exact hu
      exact ⟨cell_back (World.cell?_setCell_same _ _ _ c0) hb, cell_back (q _ _ (by omega) c1) hb, cell_back (q _ _ (by omega) c2) hb, cell_back (q _ _ (by omega) c3) hb, cell_back (q _ _ (by omega) c4) hb, cell_back (q _ _ (by omega) c5) hb, cell_back (q _ _ (by omega) c6) hb, cell_back (q _ _ (by omega) c7) hb, cell_back (q _ _ (by omega) c8) hb⟩)
    have HB5 := Lib.hid (show Below w.heap.size w (w2.setCell ⟨w.heap.size, 0, none⟩ (.int .i64 1000)) from below_put (HB1.out.trans (HB2.out.mono HB1.out.size)) (Nat.le_refl _) 0 [.int .i64 1000])
    revert HK HB5
    generalize w2.setCell ⟨w.heap.size, 0, none⟩ (.int .i64 1000) = w5
    intro HK HB5
    clear c0 c1 c2 c3 c4 c5 c6 c7 c8 z0 h1 h2
    obtain ⟨c0, c1, c2, c3, c4, c5, c6, c7, c8⟩ := HK.out _ (Below.refl _ _)
    by_cases hg : MakeOk 1000 l m t tm
    · have HG := Lib.hid (HNG.out _ hg)
      have HF := Lib.hid (HRF.out 1000)
      have HGG := Lib.hid hg
      clear hg
      go_upto_region 7 with (go_at_call 12; refine (HG.out _).mono ?_; rintro e w6 ⟨q6, rfl, hb⟩; have HB6 := Lib.hid hb; clear hb)
      clear c0 c1 c2 c3 c4 c5 c6 c7 c8
      obtain ⟨c0, c1, c2, c3, c4, c5, c6, c7, c8⟩ := HK.out _ HB6.out
      go_upto_region 8 with (go_at_call 13; refine (HF.out _).mono ?_; rintro e w7 ⟨q7, rfl, hq, hb⟩; have HB7 := Lib.hid (HB6.out.trans (hb.mono HB6.out.size)); cases q7 with | none => exact absurd (hq.2 HGG.out) (by simp) | some q7 => ?_; clear hb hq)
      go_wp2_with fail
      go_ret
      exact ⟨rfl, HB5.out.trans (HB7.out.mono HB5.out.size)⟩
    · have HG := Lib.hid (HNB.out _ hg)
      have HF := Lib.hid (HRF.out 1000)
      have HGG := Lib.hid hg
      clear hg
      go_upto_region 7 with (go_at_call 12; refine (HG.out _).mono ?_; rintro e w6 ⟨rfl, hb⟩; have HB6 := Lib.hid hb; clear hb)
      clear c0 c1 c2 c3 c4 c5 c6 c7 c8
      obtain ⟨c0, c1, c2, c3, c4, c5, c6, c7, c8⟩ := HK.out _ HB6.out
      go_upto_region 8 with (go_at_call 13; refine (HF.out _).mono ?_; rintro e w7 ⟨q7, rfl, hq, hb⟩; have HB7 := Lib.hid (HB6.out.trans (hb.mono HB6.out.size)); cases q7 with | some q7 => exact (HGG.out (hq.1 rfl)).elim | none => ?_; clear hb hq)
      go_wp2_with fail
      go_ret
      exact ⟨rfl, HB5.out.trans (HB7.out.mono HB5.out.size)⟩
  · have hrr : ¬ 1000 < r ∨ ¬ r ≤ 65536 := by omega
    clear hr
    go_enter Tryd.func3, Tryd.ntmps3
    go_upto_region 1 with fail
    refine wp_world w1 HW.out ?_
    go_upto_region 2 with (go_at_call 11; refine HEX.out.mono ?_; rintro e w5 ⟨rfl, hb⟩; have HB2 := Lib.hid hb; clear hb)
    obtain ⟨⟨c0, c1, c2, c3, c4, c5, c6, c7, c8⟩, z0⟩ := HS.out _ HB2.out
    have HK := Lib.hid (show ∀ W : World, Below w5.heap.size w5 W → (W.cell? ⟨w.heap.size, 0, none⟩ = some (.int .i64 r) ∧ W.cell? ⟨w.heap.size, 1, none⟩ = some (.int .i64 l) ∧ W.cell? ⟨w.heap.size, 2, none⟩ = some (.int .i64 m) ∧ W.cell? ⟨w.heap.size, 3, none⟩ = some (.int .i64 t) ∧ W.cell? ⟨w.heap.size, 4, none⟩ = some (.int .i64 tm.op) ∧ W.cell? ⟨w.heap.size, 5, none⟩ = some (.int .i64 tm.on) ∧ W.cell? ⟨w.heap.size, 6, none⟩ = some (.int .i64 tm.cl) ∧ W.cell? ⟨w.heap.size, 7, none⟩ = some (.int .i64 tm.wa) ∧ W.cell? ⟨w.heap.size, 8, none⟩ = some (.int .i64 tm.ud)) from fun W hb => (HS.out W (HB2.out.trans (hb.mono HB2.out.size))).1)
    have HB5 := Lib.hid (HB1.out.trans (HB2.out.mono HB1.out.size))
    have HRR := Lib.hid hrr
    clear hrr
    refine (show ∀ P : Prop, (¬ 1000 < r → P) → (1000 < r → ¬ r ≤ 65536 → P) → P from fun P p1 p2 => by
      by_cases e : 1000 < r
      · exact p2 e (by have := HRR.out; omega)
      · exact p1 e) _ (fun hr1 => ?_) (fun hr1 hr2 => ?_)
    all_goals (go_upto_region 6 with fail)
    all_goals (clear c0 c1 c2 c3 c4 c5 c6 c7 c8 z0)
    all_goals
      obtain ⟨c0, c1, c2, c3, c4, c5, c6, c7, c8⟩ := HK.out _ (Below.refl _ _)
      by_cases hg : MakeOk r l m t tm
      · have HG := Lib.hid (HNG.out _ hg)
        have HF := Lib.hid (HRF.out r)
        have HGG := Lib.hid hg
        clear hg
        go_upto_region 7 with (go_at_call 12; refine (HG.out _).mono ?_; rintro e w6 ⟨q6, rfl, hb⟩; have HB6 := Lib.hid hb; clear hb)
        clear c0 c1 c2 c3 c4 c5 c6 c7 c8
        obtain ⟨c0, c1, c2, c3, c4, c5, c6, c7, c8⟩ := HK.out _ HB6.out
        go_upto_region 8 with (go_at_call 13; refine (HF.out _).mono ?_; rintro e w7 ⟨q7, rfl, hq, hb⟩; have HB7 := Lib.hid (HB6.out.trans (hb.mono HB6.out.size)); cases q7 with | none => exact absurd (hq.2 HGG.out) (by simp) | some q7 => ?_; clear hb hq)
        go_wp2_with fail
        go_ret
        exact ⟨rfl, HB5.out.trans (HB7.out.mono HB5.out.size)⟩
      · have HG := Lib.hid (HNB.out _ hg)
        have HF := Lib.hid (HRF.out r)
        have HGG := Lib.hid hg
        clear hg
        go_upto_region 7 with (go_at_call 12; refine (HG.out _).mono ?_; rintro e w6 ⟨rfl, hb⟩; have HB6 := Lib.hid hb; clear hb)
        clear c0 c1 c2 c3 c4 c5 c6 c7 c8
        obtain ⟨c0, c1, c2, c3, c4, c5, c6, c7, c8⟩ := HK.out _ HB6.out
        go_upto_region 8 with (go_at_call 13; refine (HF.out _).mono ?_; rintro e w7 ⟨q7, rfl, hq, hb⟩; have HB7 := Lib.hid (HB6.out.trans (hb.mono HB6.out.size)); cases q7 with | some q7 => exact (HGG.out (hq.1 rfl)).elim | none => ?_; clear hb hq)
        go_wp2_with fail
        go_ret
        exact ⟨rfl, HB5.out.trans (HB7.out.mono HB5.out.size)⟩
end Go.Proofs.YtpbknbnhljjjcaaDoor
