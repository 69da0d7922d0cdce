import Derived.Test.YtbahcpejippcjaaDoorV2
namespace Go.Proofs.YtbahcpejippcjaaDoor
open Go.RowKit Go.Shelf

theorem box28 {wx wt : World} {s : Svc} (hB : Below (wx.alloc (.cells #[.int .i64 s.proto, .int .u32 (s.vip : Int), .int .i64 s.port, .bool s.dsr, .int .u32 (s.nat : Int)] 28)).heap.size (wx.alloc (.cells #[.int .i64 s.proto, .int .u32 (s.vip : Int), .int .i64 s.port, .bool s.dsr, .int .u32 (s.nat : Int)] 28)) wt) :
    wt.heap[wx.heap.size]? = some (.cells #[.int .i64 s.proto, .int .u32 (s.vip : Int), .int .i64 s.port, .bool s.dsr, .int .u32 (s.nat : Int)] 28 (0, 0)) := box_on hB
theorem ref25_bad {X : Nat} {w : World} (s : Svc) (hr : rightB s = false) :
    Calls Tryd.prog 25 #[.pointer (some ⟨X, 0, none⟩), s.val] w fun e w' => e = .returned (.tuple #[.int .i64 0, .int .i64 1]) ∧ Below w.heap.size w w' := by
  have HR := Lib.hid (right16_calls s)
  rw [hr] at HR
  have HB := Lib.hid (Below.refl w.heap.size w)
  unfold Svc.val at *
  go_enter Tryd.func25, Tryd.ntmps25
  go_wp2_with (go_at_call 16; refine (HR.out _).mono ?_; rintro e wx ⟨rfl, hB⟩; replace HB := Lib.hid (below_step (HB.out.alloc HB.out.size _) hB); clear hB)
  go_ret2
  exact ⟨rfl, HB.out⟩
set_option maxRecDepth 100000 in
set_option maxHeartbeats 1000000 in
theorem ref25_there {base X : Nat} {A : Option Addr} {c k : Nat} {l : List (Nat × Svc)} {w : World} (h : RefT base X A c l w) (hl : l.length ≤ 1000) (s : Svc) (hr : rightB s = true) (hf : findL l s.proto s.vip s.port = some k) :
    Calls Tryd.prog 25 #[.pointer (some ⟨X, 0, none⟩), s.val] w fun e w' => e = .returned (.tuple #[.int .i64 0, .int .i64 20]) ∧ Below w.heap.size w w' := by
  have HR := Lib.hid (right16_calls s)
  rw [hr] at HR
  have HH := Lib.hid h
  have HB := Lib.hid (Below.refl w.heap.size w)
  have HF := Lib.hid hf
  have HL := Lib.hid hl
  unfold Svc.val at *
  clear h hf hl
  go_enter Tryd.func25, Tryd.ntmps25
  go_wp2_with (first
    | (go_at_call 16; refine (HR.out _).mono ?_; rintro e wx ⟨rfl, hB⟩; obtain ⟨⟨d0, d1, d2, d3, d4⟩, _⟩ := cells5 (box28 hB); replace HB := Lib.hid (below_step (HB.out.alloc HB.out.size _) hB); clear hB)
    | (go_at_call 24; refine (ref24 (HH.out.below HB.out) HL.out s.proto s.port s.vip).mono ?_; rw [HF.out]; rintro e wy ⟨rfl, hB⟩; replace HB := Lib.hid (below_step HB.out hB); clear hB))
  go_ret2
  exact ⟨rfl, HB.out⟩
set_option maxRecDepth 100000 in
set_option maxHeartbeats 1000000 in
theorem ref25_full {base X : Nat} {A : Option Addr} {c : Nat} {l : List (Nat × Svc)} {w : World} (h : RefT base X A c l w) (hl : l.length = 64) (s : Svc) (hr : rightB s = true) (hf : findL l s.proto s.vip s.port = none) :
    Calls Tryd.prog 25 #[.pointer (some ⟨X, 0, none⟩), s.val] w fun e w' => e = .returned (.tuple #[.int .i64 0, .int .i64 16]) ∧ Below w.heap.size w w' := by
  have HR := Lib.hid (right16_calls s)
  rw [hr] at HR
  have HH := Lib.hid h
  have HB := Lib.hid (Below.refl w.heap.size w)
  have HF := Lib.hid hf
  have HL := Lib.hid hl
  unfold Svc.val at *
  clear h hf hl
  go_enter Tryd.func25, Tryd.ntmps25
  go_wp2_with (first
    | (go_at_call 16; refine (HR.out _).mono ?_; rintro e wx ⟨rfl, hB⟩; obtain ⟨⟨d0, d1, d2, d3, d4⟩, _⟩ := cells5 (box28 hB); replace HB := Lib.hid (below_step (HB.out.alloc HB.out.size _) hB); clear hB)
    | (go_at_call 24; refine (ref24 (HH.out.below HB.out) (by rw [HL.out]; omega) s.proto s.port s.vip).mono ?_; rw [HF.out]; rintro e wy ⟨rfl, hB⟩; clear d0 d1 d2 d3 d4; replace HB := Lib.hid (below_step HB.out hB); have b0 := (cell1 (HH.out.below HB.out).box).1; rw [HL.out] at b0; clear hB))
  go_ret2
  exact ⟨rfl, HB.out⟩
theorem new_cells7 (w : World) (j : Nat) (k : Int) (s : Svc) (hk : k = ((j : Nat) : Int)) : ∀ (i : Nat) (u : Value), (rowV (j, s))[i]? = some u → (w.alloc (.cells #[.int .i64 k, .int .i64 s.proto, .int .u32 (s.vip : Int), .int .i64 s.port, .bool s.dsr, .int .u32 (s.nat : Int)] 60)).cell? ((⟨w.heap.size, 0, none⟩ : Addr).add i) = some u := by
  subst hk
  exact new_cells6 w (j, s)
/-- The first gap of the numbers. -/
structure Gap (l : List (Nat × Svc)) (j : Nat) : Prop where
  le : j ≤ l.length
  full : ∀ i, i < j → ∃ r, l[i]? = some r ∧ r.1 = i + 1
  gap : ∀ r, l[j]? = some r → r.1 ≠ j + 1
theorem add_at (g k : Nat) : ((⟨g, 0, none⟩ : Addr).add k) = ⟨g, k, none⟩ := by unfold Addr.add; split <;> simp_all
theorem add_at2 (g m k : Nat) : ((⟨g, m, none⟩ : Addr).add k) = ⟨g, m + k, none⟩ := by unfold Addr.add; split <;> simp_all
theorem RefT.take {base X g c : Nat} {l : List (Nat × Svc)} {W : World} (h : RefT base X (some ⟨g, 0, none⟩) c l W) (j : Nat) : ∀ (k : Nat) (u : Value), (rowsV (l.take j))[k]? = some u → W.cell? ((⟨g, 0, none⟩ : Addr).add k) = some u := by
  intro k u hu
  rw [add_at]
  refine h.cells ?_
  have hk := (List.getElem?_eq_some_iff.1 hu).1
  conv => lhs; rw [← List.take_append_drop j l, rowsV_app]
  rw [List.getElem?_append_left hk]
  exact hu
theorem RefT.drop {base X g c : Nat} {l : List (Nat × Svc)} {W : World} (h : RefT base X (some ⟨g, 0, none⟩) c l W) {j : Nat} (hj : j ≤ l.length) : ∀ (k : Nat) (u : Value), (rowsV (l.drop j))[k]? = some u → W.cell? ((⟨g, j * 6, none⟩ : Addr).add k) = some u := by
  intro k u hu
  rw [add_at2]
  refine h.cells ?_
  conv => lhs; rw [← List.take_append_drop j l, rowsV_app]
  rw [List.getElem?_append_right (by rw [rowsV_len, List.length_take]; omega), rowsV_len, List.length_take, show j * 6 + k - min j l.length * 6 = k by rw [Nat.min_eq_left hj]; omega]
  exact hu
theorem ownsRow_slice {w : World} {base : Nat} {e : TypeId} {size : Nat} {v : Value} {n : Nat} {xs : List Value} (h : w.ownsRow base e size v n xs) : ∃ A c, v = .slice A n c := by
  obtain ⟨_, ⟨h1, h2⟩ | ⟨g, cap, _, h, _⟩⟩ := h
  · exact ⟨none, 0, by rw [h1, h2]⟩
  · exact ⟨_, _, h⟩
/-- One more, at its place. -/
def insL (l : List (Nat × Svc)) (j : Nat) (s : Svc) : List (Nat × Svc) := l.take j ++ [(j + 1, s)] ++ l.drop j
theorem add_rows {W : World} {base i n q : Nat} {v : Value} {l : List (Nat × Svc)} {s : Svc} {xs : List Value} (h : W.ownsRow base 60 6 v q xs) (hn : l.length = n) (hi : i ≤ n) (hq : q = n + 1) (hx : xs = rowsV (l.take i) ++ rowV (i + 1, s) ++ rowsV (l.drop i)) : W.ownsRow base 60 6 v (insL l i s).length (rowsV (insL l i s)) := by
  have e1 : (insL l i s).length = q := by unfold insL; simp; omega
  rw [e1]
  unfold insL
  rw [rowsV_app, rowsV_snoc, ← hx]
  exact h
set_option maxRecDepth 100000 in
set_option maxHeartbeats 1600000 in
theorem ref25_ok {base X : Nat} {A : Option Addr} {c j : Nat} {l : List (Nat × Svc)} {w : World} (h : RefT base X A c l w) (hl : l.length < 64) (s : Svc) (hr : rightB s = true) (hf : findL l s.proto s.vip s.port = none) (hg : Gap l j) :
    Calls Tryd.prog 25 #[.pointer (some ⟨X, 0, none⟩), s.val] w fun e w' => e = .returned (.tuple #[.int .i64 ((j : Int) + 1), .int .i64 0]) ∧ RefIs base X (insL l j s) w' ∧ Two X X w w' := by
  obtain ⟨i0, hi, hz0, hz1, hz2⟩ := info_parts info60
  have HI := Lib.hid (And.intro hi (And.intro hz0 (And.intro hz1 hz2)))
  have HR := Lib.hid (right16_calls s)
  rw [hr] at HR
  have HH := Lib.hid h
  have HB := Lib.hid (Below.refl w.heap.size w)
  have HF := Lib.hid hf
  obtain ⟨n, hn⟩ : ∃ n, l.length = n := ⟨_, rfl⟩
  rw [hn] at hl
  have hjn : j ≤ n := by have := hg.le; omega
  have HG := Lib.hid hg
  have HN := Lib.hid hn
  have hX : X < w.heap.size := by have := h.lo; have := h.hb; omega
  have n64 : ((n : Int) == 64) = false := by simp; omega
  obtain ⟨p, v, q, d, m⟩ := s
  unfold Svc.val at *
  dsimp only at *
  clear h hf hg hn hi hz0 hz1 hz2
  go_enter Tryd.func25, Tryd.ntmps25
  go_wp2_with (first
    | (go_at_call 16; refine (HR.out _).mono ?_; rintro e wx ⟨rfl, hB⟩; have HX := Lib.hid (box28 (s := ⟨p, v, q, d, m⟩) hB); obtain ⟨⟨d0, d1, d2, d3, d4⟩, _⟩ := cells5 HX.out; replace HB := Lib.hid (below_step (HB.out.alloc HB.out.size _) hB); clear hB)
    | (go_at_call 24; refine (ref24 (HH.out.below HB.out) (by rw [HN.out]; omega) p q v).mono ?_; rw [HF.out]; rintro e wy ⟨rfl, hB⟩; clear d0 d1 d2 d3 d4; replace HX := Lib.hid (box_go HX.out hB); obtain ⟨⟨d0, d1, d2, d3, d4⟩, _⟩ := cells5 HX.out; replace HB := Lib.hid (below_step HB.out hB); have HT := Lib.hid (HH.out.below HB.out); obtain ⟨b0, f0⟩ := cell1 HT.out.box; rw [HN.out] at b0; clear hB))
  go_loop [9] (fun vi => ∃ i : Nat, i ≤ j ∧ vi = .int .i64 (i : Int)) (fun vi => n - (intOf vi).toNat)
  case atStart => exact ⟨0, Nat.zero_le _, rfl⟩
  case round =>
    obtain ⟨i, hi, rfl⟩ := hrel
    by_cases hlt : i < j
    · have hil : (i : Int) < (n : Int) := by omega
      obtain ⟨g, hga⟩ := HH.out.addr (by rw [HN.out]; omega)
      subst hga
      obtain ⟨r, hr1, hr2⟩ := HG.out.full i hlt
      have c0 := (HT.out.row hr1).c0
      rw [hr2, show ((i + 1 : Nat) : Int) = (i : Int) + 1 by omega] at c0
      clear hr1 hr2
      go_wp2_with fail
      go_round
      case rel => exact ⟨i + 1, by omega, by go_num⟩
      case measure => simp [intOf]; omega
    · obtain rfl : i = j := by omega
      have S1 := Stage.mk 1
      have S2 := Stage.mk 2
      have HZ := Lib.hid HB.out.size
      rcases HT.out.form with ⟨h1, h2, h3⟩ | ⟨g, hga, hg1, hg2, hg3⟩
      · subst h1 h2 h3
        obtain rfl : n = 0 := by rw [← HN.out]; rfl
        obtain rfl : i = 0 := by omega
        go_wp2_with (first
          | (at_builtin; clear S1; (refine wpList_append_own_none rfl _ _ 47 rfl w.heap.size 60 i0 6 Tryd.underlying47 HI.out.1 (.slice none 0 0) 0 [] rfl (World.ownsRow_nil wy w.heap.size 60 6) rfl ?_))
          | (at_builtin; clear S2; (refine wpList_append_own _ rfl _ _ 47 rfl w.heap.size 60 i0 zero60 6 40 Tryd.underlying47 HI.out.1 HI.out.2.1 HI.out.2.2.1 HI.out.2.2.2 rfl (by decide) _ _ _ rfl ((World.ownsRow_nil wy w.heap.size 60 6).alloc _) ⟨wy.heap.size, 0, none⟩ 1 1 (rowV (0 + 1, ⟨p, v, q, d, m⟩)) rfl rfl (new_cells7 _ (0 + 1) _ ⟨p, v, q, d, m⟩ (by omega)) (rowV_one _) (by unfold maxLen; omega) (by omega) (by have := HB.out.size; simp; omega) ?_); intro v2 w2 hown2 hg2 _; simp only [Nat.zero_add, List.nil_append] at hown2; replace HB := Lib.hid (grown_below (HB.out.alloc HB.out.size _) hg2 (fun g' hg' => by cases hg')); have HO := Lib.hid hown2; have HT2 := Lib.hid (HH.out.below HB.out); clear b0 f0; obtain ⟨b0, f0⟩ := cell1 HT2.out.box; rw [HN.out] at b0; clear hown2 hg2)
          | (at_builtin; (refine wpList_append_own_none rfl _ _ 47 rfl w.heap.size 60 i0 6 Tryd.underlying47 HI.out.1 _ _ _ rfl HO.out rfl ?_); obtain ⟨A3, c3, hv3⟩ := ownsRow_slice HO.out; subst hv3))
        go_ret2
        exact ⟨rfl, HH.out.put HB.out (add_rows (n := 0) (i := 0) HO.out rfl (by omega) (by omega) rfl)⟩
      · subst hga
        rw [HN.out] at hg3
        have HTK := Lib.hid (HT.out.take i)
        have hlt2 : (rowsV (l.take i)).length = i * 6 := by rw [rowsV_len, List.length_take, HN.out, Nat.min_eq_left hjn]
        have HTL := Lib.hid hlt2
        have hjc : (i : Int) ≤ (c : Int) := by omega
        have hjnI : (i : Int) ≤ (n : Int) := by omega
        have hncI : (n : Int) ≤ (c : Int) := by omega
        clear hlt2 hg1 hg2
        by_cases hin : i = n
        · have hil : ¬ (i : Int) < (n : Int) := by omega
          have HIN := Lib.hid hin
          clear hin
          by_cases hci : c = i
          · have hci2 := hci.symm
            subst hci2
            clear hci
            go_wp2_with (first
              | (at_builtin; clear S1; (refine wpList_append_own _ rfl _ _ 47 rfl w.heap.size 60 i0 zero60 6 40 Tryd.underlying47 HI.out.1 HI.out.2.1 HI.out.2.2.1 HI.out.2.2.2 rfl (by decide) (.slice none 0 0) 0 [] rfl (World.ownsRow_nil _ _ _ _) ⟨g, 0, none⟩ i _ (rowsV (l.take i)) rfl HTL.out HTK.out (rowsV_one _) (by unfold maxLen; omega) (by omega) HZ.out ?_); intro v1 w1 hown1 hg1 _; simp only [Nat.zero_add, List.nil_append] at hown1; have HO := Lib.hid hown1; replace HB := Lib.hid (grown_below HB.out hg1 (fun g' hg' => by cases hg')); clear d0 d1 d2 d3 d4; have hbb := (hg1.block w.heap.size (by have := (Array.getElem?_eq_some_iff.1 HX.out).1; omega) (by simp [Value.ownBlock])).trans HX.out; replace HX := Lib.hid hbb; obtain ⟨⟨d0, d1, d2, d3, d4⟩, _⟩ := cells5 hbb; clear hown1 hg1 hbb)
              | (at_builtin; clear S2; (refine wpList_append_own _ rfl _ _ 47 rfl w.heap.size 60 i0 zero60 6 40 Tryd.underlying47 HI.out.1 HI.out.2.1 HI.out.2.2.1 HI.out.2.2.2 rfl (by decide) _ _ _ rfl (HO.out.alloc _) ⟨w1.heap.size, 0, none⟩ 1 1 (rowV (i + 1, ⟨p, v, q, d, m⟩)) rfl rfl (new_cells7 _ (i + 1) _ ⟨p, v, q, d, m⟩ (by omega)) (rowV_one _) (by unfold maxLen; omega) (by omega) (by have := HB.out.size; simp; omega) ?_); intro v2 w2 hown2 hg2 _; replace HB := Lib.hid (grown_below (HB.out.alloc HB.out.size _) hg2 (ownsRow_base HO.out)); replace HO := Lib.hid hown2; have HT2 := Lib.hid (HH.out.below HB.out); clear b0 f0; obtain ⟨b0, f0⟩ := cell1 HT2.out.box; rw [HN.out] at b0; clear hown2 hg2)
              | (at_builtin; (refine wpList_append_own _ rfl _ _ 47 rfl w.heap.size 60 i0 zero60 6 40 Tryd.underlying47 HI.out.1 HI.out.2.1 HI.out.2.2.1 HI.out.2.2.2 rfl (by decide) _ _ _ rfl HO.out ⟨g, 0, none⟩ _ _ (rowsV (l.drop i)) rfl (by rw [rowsV_len, List.length_drop, HN.out]; have := HIN.out; omega) (fun k u hu => by have h1 := (List.getElem?_eq_some_iff.1 hu).1; rw [rowsV_len, List.length_drop, HN.out] at h1; have := HIN.out; omega) (rowsV_one _) (by unfold maxLen; omega) (by omega) HB.out.size ?_); intro v3 w3 hown3 hg3 _; replace HB := Lib.hid (grown_below HB.out hg3 (ownsRow_base HO.out)); obtain ⟨A3, c3, rfl⟩ := ownsRow_slice hown3; replace HO := Lib.hid hown3; have HT3 := Lib.hid (HH.out.below HB.out); clear b0 f0; obtain ⟨b0, f0⟩ := cell1 HT3.out.box; rw [HN.out] at b0; clear hown3 hg3))
            go_ret2
            exact ⟨rfl, HH.out.put HB.out (add_rows HO.out HN.out hjn (by omega) rfl)⟩
          · go_wp2_with (first
              | (at_builtin; clear S1; (refine wpList_append_own _ rfl _ _ 47 rfl w.heap.size 60 i0 zero60 6 40 Tryd.underlying47 HI.out.1 HI.out.2.1 HI.out.2.2.1 HI.out.2.2.2 rfl (by decide) (.slice none 0 0) 0 [] rfl (World.ownsRow_nil _ _ _ _) ⟨g, 0, none⟩ i _ (rowsV (l.take i)) rfl HTL.out HTK.out (rowsV_one _) (by unfold maxLen; omega) (by omega) HZ.out ?_); intro v1 w1 hown1 hg1 _; simp only [Nat.zero_add, List.nil_append] at hown1; have HO := Lib.hid hown1; replace HB := Lib.hid (grown_below HB.out hg1 (fun g' hg' => by cases hg')); clear d0 d1 d2 d3 d4; have hbb := (hg1.block w.heap.size (by have := (Array.getElem?_eq_some_iff.1 HX.out).1; omega) (by simp [Value.ownBlock])).trans HX.out; replace HX := Lib.hid hbb; obtain ⟨⟨d0, d1, d2, d3, d4⟩, _⟩ := cells5 hbb; clear hown1 hg1 hbb)
              | (at_builtin; clear S2; (refine wpList_append_own _ rfl _ _ 47 rfl w.heap.size 60 i0 zero60 6 40 Tryd.underlying47 HI.out.1 HI.out.2.1 HI.out.2.2.1 HI.out.2.2.2 rfl (by decide) _ _ _ rfl (HO.out.alloc _) ⟨w1.heap.size, 0, none⟩ 1 1 (rowV (i + 1, ⟨p, v, q, d, m⟩)) rfl rfl (new_cells7 _ (i + 1) _ ⟨p, v, q, d, m⟩ (by omega)) (rowV_one _) (by unfold maxLen; omega) (by omega) (by have := HB.out.size; simp; omega) ?_); intro v2 w2 hown2 hg2 _; replace HB := Lib.hid (grown_below (HB.out.alloc HB.out.size _) hg2 (ownsRow_base HO.out)); replace HO := Lib.hid hown2; have HT2 := Lib.hid (HH.out.below HB.out); clear b0 f0; obtain ⟨b0, f0⟩ := cell1 HT2.out.box; rw [HN.out] at b0; clear hown2 hg2)
              | (at_builtin; (refine wpList_append_own _ rfl _ _ 47 rfl w.heap.size 60 i0 zero60 6 40 Tryd.underlying47 HI.out.1 HI.out.2.1 HI.out.2.2.1 HI.out.2.2.2 rfl (by decide) _ _ _ rfl HO.out ⟨g, i * 6, none⟩ (n - i) (c - i) (rowsV (l.drop i)) rfl (by rw [rowsV_len, List.length_drop, HN.out]) (HT2.out.drop (by rw [HN.out]; omega)) (rowsV_one _) (by unfold maxLen; omega) (by omega) HB.out.size ?_); intro v3 w3 hown3 hg3 _; replace HB := Lib.hid (grown_below HB.out hg3 (ownsRow_base HO.out)); obtain ⟨A3, c3, rfl⟩ := ownsRow_slice hown3; replace HO := Lib.hid hown3; have HT3 := Lib.hid (HH.out.below HB.out); clear b0 f0; obtain ⟨b0, f0⟩ := cell1 HT3.out.box; rw [HN.out] at b0; clear hown3 hg3))
            go_ret2
            exact ⟨rfl, HH.out.put HB.out (add_rows HO.out HN.out hjn (by omega) rfl)⟩
        · have hil : (i : Int) < (n : Int) := by omega
          have hci : ¬ c = i := by omega
          obtain ⟨r, hr1⟩ : ∃ r, l[i]? = some r := ⟨_, List.getElem?_eq_getElem (by rw [HN.out]; omega)⟩
          have hr2 := HG.out.gap r hr1
          have c0 := (HT.out.row hr1).c0
          have g1 : ((r.1 : Int) == (i : Int) + 1) = false := by simp; omega
          clear hr1 hr2
          go_wp2_with (first
            | (at_builtin; clear S1; (refine wpList_append_own _ rfl _ _ 47 rfl w.heap.size 60 i0 zero60 6 40 Tryd.underlying47 HI.out.1 HI.out.2.1 HI.out.2.2.1 HI.out.2.2.2 rfl (by decide) (.slice none 0 0) 0 [] rfl (World.ownsRow_nil _ _ _ _) ⟨g, 0, none⟩ i _ (rowsV (l.take i)) rfl HTL.out HTK.out (rowsV_one _) (by unfold maxLen; omega) (by omega) HZ.out ?_); intro v1 w1 hown1 hg1 _; simp only [Nat.zero_add, List.nil_append] at hown1; have HO := Lib.hid hown1; replace HB := Lib.hid (grown_below HB.out hg1 (fun g' hg' => by cases hg')); clear d0 d1 d2 d3 d4; have hbb := (hg1.block w.heap.size (by have := (Array.getElem?_eq_some_iff.1 HX.out).1; omega) (by simp [Value.ownBlock])).trans HX.out; replace HX := Lib.hid hbb; obtain ⟨⟨d0, d1, d2, d3, d4⟩, _⟩ := cells5 hbb; clear hown1 hg1 hbb)
            | (at_builtin; clear S2; (refine wpList_append_own _ rfl _ _ 47 rfl w.heap.size 60 i0 zero60 6 40 Tryd.underlying47 HI.out.1 HI.out.2.1 HI.out.2.2.1 HI.out.2.2.2 rfl (by decide) _ _ _ rfl (HO.out.alloc _) ⟨w1.heap.size, 0, none⟩ 1 1 (rowV (i + 1, ⟨p, v, q, d, m⟩)) rfl rfl (new_cells7 _ (i + 1) _ ⟨p, v, q, d, m⟩ (by omega)) (rowV_one _) (by unfold maxLen; omega) (by omega) (by have := HB.out.size; simp; omega) ?_); intro v2 w2 hown2 hg2 _; replace HB := Lib.hid (grown_below (HB.out.alloc HB.out.size _) hg2 (ownsRow_base HO.out)); replace HO := Lib.hid hown2; have HT2 := Lib.hid (HH.out.below HB.out); clear b0 f0; obtain ⟨b0, f0⟩ := cell1 HT2.out.box; rw [HN.out] at b0; clear hown2 hg2)
            | (at_builtin; (refine wpList_append_own _ rfl _ _ 47 rfl w.heap.size 60 i0 zero60 6 40 Tryd.underlying47 HI.out.1 HI.out.2.1 HI.out.2.2.1 HI.out.2.2.2 rfl (by decide) _ _ _ rfl HO.out ⟨g, i * 6, none⟩ (n - i) (c - i) (rowsV (l.drop i)) rfl (by rw [rowsV_len, List.length_drop, HN.out]) (HT2.out.drop (by rw [HN.out]; omega)) (rowsV_one _) (by unfold maxLen; omega) (by omega) HB.out.size ?_); intro v3 w3 hown3 hg3 _; replace HB := Lib.hid (grown_below HB.out hg3 (ownsRow_base HO.out)); obtain ⟨A3, c3, rfl⟩ := ownsRow_slice hown3; replace HO := Lib.hid hown3; have HT3 := Lib.hid (HH.out.below HB.out); clear b0 f0; obtain ⟨b0, f0⟩ := cell1 HT3.out.box; rw [HN.out] at b0; clear hown3 hg3))
          go_ret2
          exact ⟨rfl, HH.out.put HB.out (add_rows HO.out HN.out hjn (by omega) rfl)⟩
end Go.Proofs.YtbahcpejippcjaaDoor
