import Derived.Test.YtlipkffnllmkgaaC2
import Derived.Test.YtlipkffnllmkgaaWSipWords
namespace Go.Proofs.Ytlipkffnllmkgaa
open Go.RowKit

def byteN (s : ByteArray) (j : Nat) : Nat := (s.data.toList.getD j 0).toNat
theorem byteN_lt (s : ByteArray) (j : Nat) : byteN s j < 256 := UInt8.toNat_lt _
theorem byteAt_N (s : ByteArray) (j : Nat) : byteAt s j = (byteN s j : Nat) := rfl
theorem horn_word (s : ByteArray) (a : Nat) : horn (fun j => byteAt s (a + j)) 8 = wd (fun j => byteAt s (a + j)) 8 := horn_wd (fun j => byteN s (a + j)) (fun _ => byteN_lt _ _)
theorem wordR_at (s : ByteArray) (a : Nat) (w : World) (hs : s.size ≤ 1000000) (ha : a + 8 ≤ s.size) : Calls Try.prog 55 #[.string s, .int .i64 (a : Int)] w fun e w' => e = .returned (.int .u64 (wd (fun j => byteAt s (a + j)) 8)) ∧ w' = w := by
  rw [← horn_word]
  exact wordR_calls s a w hs ha
theorem byteAt_app2 (x y : ByteArray) (j : Nat) (h : x.size ≤ j) : byteAt (x ++ y) j = byteAt y (j - x.size) := by
  unfold byteAt
  rw [ByteArray.data_append, Array.toList_append]
  simp only [List.getD_eq_getElem?_getD]
  rw [List.getElem?_append_right (by simpa using h), Array.length_toList]
  rfl

/-- The last word of the padded text: how many bytes there are, above the bytes that are left. -/
theorem last_word (s t : ByteArray) (q : Nat) (hq : q = s.size / 8) (h : ∀ j, j < 8 * q + 7 → byteAt t j = byteAt s j) (hl : byteAt t (8 * q + 7) = ((s.size % 256 : Nat) : Int)) :
    wd (fun j => byteAt t (8 * q + j)) 8 = bits .or .u64 (IntKind.u64.wrap ((s.size : Int) * 72057594037927936)) (wd (fun j => byteAt s (8 * q + j)) (s.size % 8)) := by
  have hr : s.size % 8 < 8 := Nat.mod_lt _ (by decide)
  have e1 : wd (fun j => byteAt t (8 * q + j)) 8 = (val (fun j => byteN t (8 * q + j)) 8 : Nat) := wd_eq_val (fun j => byteN t (8 * q + j)) (fun j => byteN_lt _ _) 8 (by omega)
  have e2 : wd (fun j => byteAt s (8 * q + j)) (s.size % 8) = (val (fun j => byteN s (8 * q + j)) (s.size % 8) : Nat) := wd_eq_val (fun j => byteN s (8 * q + j)) (fun j => byteN_lt _ _) _ (by omega)
  have e3 : ∀ k, k ≤ 7 → val (fun j => byteN t (8 * q + j)) k = val (fun j => byteN s (8 * q + j)) k := by
    intro k
    induction k with
    | zero => intro _; rfl
    | succ k ih =>
      intro hk
      simp only [val]
      rw [ih (by omega)]
      have := h (8 * q + k) (by omega)
      rw [byteAt_N, byteAt_N] at this
      have : byteN t (8 * q + k) = byteN s (8 * q + k) := by omega
      rw [this]
  have e4 : ∀ d, s.size % 8 + d ≤ 7 → val (fun j => byteN s (8 * q + j)) (s.size % 8 + d) = val (fun j => byteN s (8 * q + j)) (s.size % 8) := by
    intro d
    induction d with
    | zero => intro _; rfl
    | succ d ih =>
      intro hd
      rw [← Nat.add_assoc]
      simp only [val]
      rw [ih (by omega)]
      have hz := byteAt_over s (8 * q + (s.size % 8 + d)) (by omega)
      rw [byteAt_N] at hz
      have hz : byteN s (8 * q + (s.size % 8 + d)) = 0 := by omega
      rw [hz]
      simp
  have e5 : val (fun j => byteN s (8 * q + j)) 7 = val (fun j => byteN s (8 * q + j)) (s.size % 8) := by
    have := e4 (7 - s.size % 8) (by omega)
    rwa [show s.size % 8 + (7 - s.size % 8) = 7 from by omega] at this
  have e6 : byteN t (8 * q + 7) = s.size % 256 := by rw [byteAt_N] at hl; omega
  have b7 := val_lt (fun j => byteN s (8 * q + j)) (fun j => byteN_lt _ _) 7
  rw [e1, e2]
  have e8 : val (fun j => byteN t (8 * q + j)) 8 = val (fun j => byteN t (8 * q + j)) 7 + byteN t (8 * q + 7) * 72057594037927936 := rfl
  rw [e8, e3 7 (by omega), e5, e6]
  rw [e5] at b7
  have e9 : IntKind.u64.wrap ((s.size : Int) * 72057594037927936) = ((s.size % 256 * 72057594037927936 : Nat) : Int) := by
    rw [IntKind.wrap_u64]; omega
  have b8 : (2 : Nat) ^ (8 * 7) = 72057594037927936 := by decide
  rw [b8] at b7
  generalize val (fun j => byteN s (8 * q + j)) (s.size % 8) = V at b7
  rw [e9, bits_or_u64_nat _ _ (by omega) (by omega), Nat.or_comm]
  have := or_add V (s.size % 256) 56 (by omega)
  have b9 : (2 : Nat) ^ 56 = 72057594037927936 := by decide
  rw [b9] at this
  rw [this]

theorem At4.set3' {b : Nat} {p q r s : Int} {w : World} (h : At4 b p q r s w) (x : Int) : At4 b p q r x (w.setCell ⟨b, 3, none⟩ (.int .u64 x)) := by
  obtain ⟨c0, c1, c2, c3, f0, f1, f2, f3⟩ := h
  simp [At4, c0, c1, c2, c3, f0, f1, f2, f3, go_sem]
theorem At4.set1' {b : Nat} {p q r s : Int} {w : World} (h : At4 b p q r s w) (x : Int) : At4 b p x r s (w.setCell ⟨b, 1, none⟩ (.int .u64 x)) := by
  obtain ⟨c0, c1, c2, c3, f0, f1, f2, f3⟩ := h
  simp [At4, c0, c1, c2, c3, f0, f1, f2, f3, go_sem]
theorem At4.set0' {b : Nat} {p q r s : Int} {w : World} (h : At4 b p q r s w) (x : Int) : At4 b x q r s (w.setCell ⟨b, 0, none⟩ (.int .u64 x)) := by
  obtain ⟨c0, c1, c2, c3, f0, f1, f2, f3⟩ := h
  simp [At4, c0, c1, c2, c3, f0, f1, f2, f3, go_sem]
theorem hashR_bad (key s : ByteArray) (w : World) (h : key.size ≠ 16) : Calls Try.prog 39 #[.string key, .string s] w fun e w' => e = .returned (.tuple #[.int .u64 0, .bool false]) ∧ w' = w := by
  have h1 : ((key.size : Int) != 16) = true := by simp; omega
  go_enter Try.func39, Try.ntmps39
  go_wp2
  go_ret2
  exact ⟨rfl, rfl⟩

theorem conv_one (W : World) (x : Int) : (convert 55 9 (.slice (some ⟨W.heap.size, 0, none⟩) 1 1)).run Try.prog (W.alloc (.cells #[.int .u8 x] 5)) = .ok (.string (strOfNums [x])) (W.alloc (.cells #[.int .u8 x] 5)) := by
  have h : Row8 W.heap.size 1 (fun _ => x) (W.alloc (.cells #[.int .u8 x] 5)) := by
    intro j hj
    obtain rfl : j = 0 := by omega
    simp [go_sem]
  exact h.conv 1 1 (Nat.le_refl _)
theorem conv_one2 (W : World) (o : Obj) (x : Int) : (convert 55 9 (.slice (some ⟨W.heap.size + 1, 0, none⟩) 1 1)).run Try.prog ((W.alloc o).alloc (.cells #[.int .u8 x] 5)) = .ok (.string (strOfNums [x])) ((W.alloc o).alloc (.cells #[.int .u8 x] 5)) := by
  have h := conv_one (W.alloc o) x
  rwa [World.size_alloc] at h
theorem byteAt_zero1 (j : Nat) : byteAt ⟨#[0]⟩ j = 0 := by
  rcases j with _ | j
  · rfl
  · exact byteAt_over _ _ (by simp [ByteArray.size])
theorem byteAt_pad (t s : ByteArray) (h : ∀ j, byteAt t j = byteAt s j) (hs : s.size ≤ t.size) (j : Nat) : byteAt (t ++ ⟨#[0]⟩) j = byteAt s j := by
  by_cases hj : j < t.size
  · rw [byteAt_append _ _ _ hj, h]
  · rw [byteAt_app2 _ _ _ (by omega), byteAt_zero1, byteAt_over s j (by omega)]

set_option maxRecDepth 100000 in
set_option maxHeartbeats 4000000 in
theorem hashR_good (key s : ByteArray) (w : World) (h : key.size = 16) (hs : s.size ≤ 900000) : Calls Try.prog 39 #[.string key, .string s] w fun e w' => e = .returned (.tuple #[.int .u64 (hashF key s), .bool true]) ∧ Below w.heap.size w w' := by
  have h1 : ((key.size : Int) != 16) = false := by simp; omega
  have H := Lib.hid h
  obtain ⟨kl, hkl⟩ : ∃ x, x = wd (byteAt key) 8 := ⟨_, rfl⟩
  obtain ⟨kr, hkr⟩ : ∃ x, x = wd (fun j => byteAt key (8 + j)) 8 := ⟨_, rfl⟩
  have c0 : ∀ W, Calls Try.prog 55 #[.string key, .int .i64 0] W fun e w' => e = .returned (.int .u64 kl) ∧ w' = W := by
    intro W
    have := wordR_at key 0 W (by omega) (by omega)
    rw [hkl]
    simpa using this
  have c8 : ∀ W, Calls Try.prog 55 #[.string key, .int .i64 8] W fun e w' => e = .returned (.int .u64 kr) ∧ w' = W := by
    intro W
    have := wordR_at key 8 W (by omega) (by omega)
    rw [hkr]
    exact this
  have HKL := Lib.hid hkl
  have HKR := Lib.hid hkr
  have C0 := Lib.hid c0
  have C8 := Lib.hid c8
  clear hkl hkr c0 c8 h
  go_enter Try.func39, Try.ntmps39
  go_wp2_with fail
  refine (C0.out _).mono ?_
  rintro e wx ⟨rfl, rfl⟩
  go_wp2_with fail
  refine (C8.out _).mono ?_
  rintro e wx ⟨rfl, rfl⟩
  go_wp2_with fail
  go_loop [1] (fun t => ∃ t' : ByteArray, t = .string t' ∧ s.size ≤ t'.size ∧ t'.size ≤ 8 * (s.size / 8) + 7 ∧ (∀ j, byteAt t' j = byteAt s j)) (fun t => 8 * (s.size / 8) + 7 - strLen t)
  case atStart => exact ⟨s, rfl, Nat.le_refl _, by omega, fun _ => rfl⟩
  case round =>
    obtain ⟨t, rfl, ht1, ht2, hb⟩ := hrel
    have HB := Lib.hid hb
    clear hb
    by_cases h7 : t.size % 8 = 7
    · have hb7 : ((t.size : Int) % 8 != 7) = false := by simp; omega
      have H7 := Lib.hid h7
      clear h7
      obtain ⟨d, hd⟩ : ∃ d, strOfNums [(s.size : Int) % 256] = d := ⟨_, rfl⟩
      have hds : d.size = 1 := by rw [← hd, strOfNums_size]; rfl
      obtain ⟨T, hT⟩ : ∃ T, t ++ d = T := ⟨_, rfl⟩
      have hTs : T.size = 8 * (s.size / 8) + 8 := by rw [← hT, ByteArray.size_append, hds]; have := H7.out; omega
      have hTb : ∀ j, j < 8 * (s.size / 8) + 7 → byteAt T j = byteAt s j := by
        intro j hj
        have := H7.out
        rw [← hT, byteAt_append _ _ _ (by omega), HB.out]
      have hTl : byteAt T (8 * (s.size / 8) + 7) = ((s.size % 256 : Nat) : Int) := by
        have := H7.out
        rw [← hT, byteAt_app2 _ _ _ (by omega), ← hd, show 8 * (s.size / 8) + 7 - t.size = 0 from by omega]
        unfold byteAt
        rw [strOfNums_data]
        simp only [List.map_cons, List.map_nil, List.getD_cons_zero]
        have e : ((s.size : Int) % 256).toNat = s.size % 256 := by omega
        rw [e, UInt8.toNat_ofNat']
        omega
      have hlast := last_word s T (s.size / 8) rfl hTb hTl
      have hfirst : ∀ v k, k ≤ s.size / 8 → words v (byteAt T) k = words v (byteAt s) k := by
        intro v k
        induction k with
        | zero => intro _; rfl
        | succ k ih =>
          intro hk
          simp only [words]
          rw [ih (by omega), wd_congr 8 (fun j hj => hTb (8 * k + j) (by omega))]
      have hTlen : T.size ≤ 1000000 := by omega
      have HT8 := Lib.hid hTs
      have HLAST := Lib.hid hlast
      have HFIRST := Lib.hid hfirst
      clear hTs hTb hTl hlast hfirst HB
      have hcv := conv_one2
      go_wp2_with fail
      clear hcv hd hT hds
      have hnew : AtS wx.heap.size (keyed kl kr 4) ((wx.alloc (.cells #[.int .u64 (bits .xor .u64 kl 8317987319222330741), .int .u64 (bits .xor .u64 kr 7237128888997146477), .int .u64 (bits .xor .u64 kl 7816392313619706465), .int .u64 (bits .xor .u64 kr 8387220255154660723)] 116)).alloc (.cells #[.int .u8 (↑s.size % 256)] 5)) := by
        rw [xor_comm kl, xor_comm kr, xor_comm kl, xor_comm kr]
        simp [AtS, At4, keyed, seed4, ux, go_sem]
      have hbel := ((Below.refl wx.heap.size wx).alloc (Nat.le_refl _) (.cells #[.int .u64 (bits .xor .u64 kl 8317987319222330741), .int .u64 (bits .xor .u64 kr 7237128888997146477), .int .u64 (bits .xor .u64 kl 7816392313619706465), .int .u64 (bits .xor .u64 kr 8387220255154660723)] 116)).alloc (by simp) (.cells #[.int .u8 (↑s.size % 256)] 5)
      have HNEW := Lib.hid hnew
      have HBEL := Lib.hid hbel
      clear hnew hbel
      obtain ⟨v4, hv4⟩ : ∃ v, v = keyed kl kr 4 := ⟨_, rfl⟩
      have HV4 := Lib.hid hv4
      have HNEW2 : Hid (AtS wx.heap.size v4 ((wx.alloc (.cells #[.int .u64 (bits .xor .u64 kl 8317987319222330741), .int .u64 (bits .xor .u64 kr 7237128888997146477), .int .u64 (bits .xor .u64 kl 7816392313619706465), .int .u64 (bits .xor .u64 kr 8387220255154660723)] 116)).alloc (.cells #[.int .u8 (↑s.size % 256)] 5))) := Lib.hid (by rw [hv4]; exact HNEW.out)
      clear hv4 HNEW
      go_loopw [10] (fun i wr => ∃ k a : Nat, a = 8 * k ∧ a ≤ T.size ∧ i = .int .i64 (a : Int) ∧ AtS wx.heap.size (words v4 (byteAt T) k) wr ∧ Below wx.heap.size wx wr ∧ wx.heap.size < wr.heap.size) (fun i _ => T.size - (intOf i).toNat)
      case atStart => exact ⟨0, 0, rfl, Nat.zero_le _, rfl, HNEW2.out, HBEL.out, by simp only [World.size_alloc]; omega⟩
      case round =>
        obtain ⟨k, a, ha, hale, rfl, h4, hbl, hlt⟩ := hrel
        have HA := Lib.hid ha
        have HBL := Lib.hid hbl
        have HLT := Lib.hid hlt
        obtain ⟨v, hv⟩ : ∃ v, v = words v4 (byteAt T) k := ⟨_, rfl⟩
        rw [← hv] at h4
        have HV := Lib.hid hv
        clear ha hbl hlt hv HNEW2 HBEL
        by_cases hend : a < T.size
        · obtain ⟨m, hm⟩ : ∃ m, m = wd (fun j => byteAt T (a + j)) 8 := ⟨_, rfl⟩
          have hw : ∀ W, Calls Try.prog 55 #[.string T, .int .i64 (a : Int)] W fun e w' => e = .returned (.int .u64 m) ∧ w' = W := fun W => by
            rw [hm]
            exact wordR_at T a W hTlen (by have := HA.out; have := HT8.out; omega)
          have HM := Lib.hid hm
          have HW := Lib.hid hw
          have HO := Lib.hid h4
          obtain ⟨c0, c1, c2, c3, f0, f1, f2, f3⟩ := h4
          clear hm hw
          go_wp2_with (go_at_call 55; refine (HW.out _).mono ?_; rintro e wy ⟨rfl, rfl⟩)
          have h5 : AtS wx.heap.size ⟨v.p, v.q, v.r, ux v.s m⟩ (wy.setCell ⟨wx.heap.size, 3, none⟩ (.int .u64 (bits .xor .u64 v.s m))) := At4.set3' HO.out _
          have l5 : wx.heap.size < (wy.setCell ⟨wx.heap.size, 3, none⟩ (.int .u64 (bits .xor .u64 v.s m))).heap.size := by have := HLT.out; simpa [World.setCell] using this
          have b5 : Below wx.heap.size wx (wy.setCell ⟨wx.heap.size, 3, none⟩ (.int .u64 (bits .xor .u64 v.s m))) := HBL.out.setCell (p := ⟨wx.heap.size, 3, none⟩) (Nat.le_refl _) _
          refine (roundR_calls ⟨v.p, v.q, v.r, ux v.s m⟩ _).mono ?_
          rintro e w2 ⟨rfl, hb2⟩
          have h6 := h5.below (hb2.block _ l5).symm
          have b6 := b5.trans (hb2.mono (Nat.le_of_lt l5))
          have l6 := Nat.lt_of_lt_of_le l5 hb2.size
          have HX6 := Lib.hid h6
          have HX6b := Lib.hid b6
          have HX6l := Lib.hid l6
          clear h5 l5 b5 hb2 h6 b6 l6 c0 c1 c2 c3 f0 f1 f2 f3
          obtain ⟨y1, hy1⟩ : ∃ y, y = rnd ⟨v.p, v.q, v.r, ux v.s m⟩ := ⟨_, rfl⟩
          rw [← hy1]
          have HY1 := Lib.hid hy1
          clear hy1
          go_wp2_with fail
          refine (roundR_calls y1 _).mono ?_
          rintro e w3 ⟨rfl, hb3⟩
          obtain ⟨y2, hy2⟩ : ∃ y, y = rnd y1 := ⟨_, rfl⟩
          rw [← hy2]
          have HY2 := Lib.hid hy2
          clear hy2
          have h7 := HX6.out.below (hb3.block _ HX6l.out).symm
          have HX7 := Lib.hid h7
          have HX7b := Lib.hid (HX6b.out.trans (hb3.mono (Nat.le_of_lt HX6l.out)))
          have HX7l := Lib.hid (Nat.lt_of_lt_of_le HX6l.out hb3.size)
          obtain ⟨c0, c1, c2, c3, f0, f1, f2, f3⟩ := h7
          clear hb3
          go_wp2_with fail
          go_roundw
          case rel =>
            have h8 := At4.set0' (At4.set3' (At4.set2' (At4.set1' (At4.set0' HX7.out y2.p) y2.q) y2.r) y2.s) (ux y2.p m)
            have e8 : words v4 (byteAt T) (k + 1) = ⟨ux y2.p m, y2.q, y2.r, y2.s⟩ := by
              simp only [words]
              rw [← HV.out, ← HA.out, ← HM.out, HY2.out, HY1.out]
              rfl
            have h9 : AtS wx.heap.size (words v4 (byteAt T) (k + 1)) (((((w3.setCell ⟨wx.heap.size, 0, none⟩ (.int .u64 y2.p)).setCell ⟨wx.heap.size, 1, none⟩ (.int .u64 y2.q)).setCell ⟨wx.heap.size, 2, none⟩ (.int .u64 y2.r)).setCell ⟨wx.heap.size, 3, none⟩ (.int .u64 y2.s)).setCell ⟨wx.heap.size, 0, none⟩ (.int .u64 (bits .xor .u64 y2.p m))) := by
              rw [e8]; exact h8
            have b9 := ((((HX7b.out.setCell (p := ⟨wx.heap.size, 0, none⟩) (Nat.le_refl _) (.int .u64 y2.p)).setCell (p := ⟨wx.heap.size, 1, none⟩) (Nat.le_refl _) (.int .u64 y2.q)).setCell (p := ⟨wx.heap.size, 2, none⟩) (Nat.le_refl _) (.int .u64 y2.r)).setCell (p := ⟨wx.heap.size, 3, none⟩) (Nat.le_refl _) (.int .u64 y2.s)).setCell (p := ⟨wx.heap.size, 0, none⟩) (Nat.le_refl _) (.int .u64 (bits .xor .u64 y2.p m))
            exact ⟨k + 1, a + 8, by rw [HA.out]; omega, by have := HA.out; have := HT8.out; omega, by go_num, h9, b9, by have := HX7l.out; simpa [World.setCell] using this⟩
          case measure => simp [intOf]; omega
        · have HO := Lib.hid h4
          obtain ⟨c0, c1, c2, c3, f0, f1, f2, f3⟩ := h4
          go_wp2_with fail
          have h5 : AtS wx.heap.size ⟨v.p, v.q, ux v.r 255, v.s⟩ (wr.setCell ⟨wx.heap.size, 2, none⟩ (.int .u64 (bits .xor .u64 v.r 255))) := At4.set2' HO.out _
          have l5 : wx.heap.size < (wr.setCell ⟨wx.heap.size, 2, none⟩ (.int .u64 (bits .xor .u64 v.r 255))).heap.size := by have := HLT.out; simpa [World.setCell] using this
          have b5 : Below wx.heap.size wx (wr.setCell ⟨wx.heap.size, 2, none⟩ (.int .u64 (bits .xor .u64 v.r 255))) := HBL.out.setCell (p := ⟨wx.heap.size, 2, none⟩) (Nat.le_refl _) _
          have HX := Lib.hid h5
          have HXl := Lib.hid l5
          have HXb := Lib.hid b5
          clear h5 l5 b5 c0 c1 c2 c3 f0 f1 f2 f3
          refine (roundR_calls ⟨v.p, v.q, ux v.r 255, v.s⟩ _).mono ?_
          rintro e w_z1 ⟨rfl, hb⟩
          replace HX := Lib.hid (HX.out.below (hb.block _ HXl.out).symm)
          replace HXb := Lib.hid (HXb.out.trans (hb.mono (Nat.le_of_lt HXl.out)))
          replace HXl := Lib.hid (Nat.lt_of_lt_of_le HXl.out hb.size)
          obtain ⟨z1, hz1⟩ : ∃ y, y = rnd ⟨v.p, v.q, ux v.r 255, v.s⟩ := ⟨_, rfl⟩
          rw [← hz1]
          have Hz1 := Lib.hid hz1
          clear hz1 hb
          go_wp2_with fail
          refine (roundR_calls z1 _).mono ?_
          rintro e w_z2 ⟨rfl, hb⟩
          replace HX := Lib.hid (HX.out.below (hb.block _ HXl.out).symm)
          replace HXb := Lib.hid (HXb.out.trans (hb.mono (Nat.le_of_lt HXl.out)))
          replace HXl := Lib.hid (Nat.lt_of_lt_of_le HXl.out hb.size)
          obtain ⟨z2, hz2⟩ : ∃ y, y = rnd z1 := ⟨_, rfl⟩
          rw [← hz2]
          have Hz2 := Lib.hid hz2
          clear hz2 hb
          go_wp2_with fail
          refine (roundR_calls z2 _).mono ?_
          rintro e w_z3 ⟨rfl, hb⟩
          replace HX := Lib.hid (HX.out.below (hb.block _ HXl.out).symm)
          replace HXb := Lib.hid (HXb.out.trans (hb.mono (Nat.le_of_lt HXl.out)))
          replace HXl := Lib.hid (Nat.lt_of_lt_of_le HXl.out hb.size)
          obtain ⟨z3, hz3⟩ : ∃ y, y = rnd z2 := ⟨_, rfl⟩
          rw [← hz3]
          have Hz3 := Lib.hid hz3
          clear hz3 hb
          go_wp2_with fail
          refine (roundR_calls z3 _).mono ?_
          rintro e w_z4 ⟨rfl, hb⟩
          replace HX := Lib.hid (HX.out.below (hb.block _ HXl.out).symm)
          replace HXb := Lib.hid (HXb.out.trans (hb.mono (Nat.le_of_lt HXl.out)))
          replace HXl := Lib.hid (Nat.lt_of_lt_of_le HXl.out hb.size)
          obtain ⟨z4, hz4⟩ : ∃ y, y = rnd z3 := ⟨_, rfl⟩
          rw [← hz4]
          have Hz4 := Lib.hid hz4
          clear hz4 hb
          have h7 := HX.out
          obtain ⟨c0, c1, c2, c3, f0, f1, f2, f3⟩ := h7
          go_wp2_with fail
          go_ret2
          refine ⟨?_, (((HXb.out.setCell (p := ⟨wx.heap.size, 0, none⟩) (Nat.le_refl _) _).setCell (p := ⟨wx.heap.size, 1, none⟩) (Nat.le_refl _) _).setCell (p := ⟨wx.heap.size, 2, none⟩) (Nat.le_refl _) _).setCell (p := ⟨wx.heap.size, 3, none⟩) (Nat.le_refl _) _⟩
          have hk : k = s.size / 8 + 1 := by have := HA.out; have := HT8.out; omega
          have hvv : v = addS (words (keyed kl kr 4) (byteAt s) (s.size / 8)) (bits .or .u64 (IntKind.u64.wrap ((s.size : Int) * 72057594037927936)) (wd (fun j => byteAt s (8 * (s.size / 8) + j)) (s.size % 8))) := by
            rw [HV.out, hk, HV4.out]
            simp only [words]
            rw [HFIRST.out _ _ (Nat.le_refl _), HLAST.out]
          show Ending.returned (.tuple #[.int .u64 (ux (ux (ux z4.p z4.q) z4.r) z4.s), .bool true]) = _
          rw [Hz4.out, Hz3.out, Hz2.out, Hz1.out, hvv, HKL.out, HKR.out]
          rfl
    · have hb7 : ((t.size : Int) % 8 != 7) = true := by simp; omega
      have H7 := Lib.hid h7
      clear h7
      go_wp2_with fail
      go_round
      case rel => exact ⟨t ++ ⟨#[0]⟩, rfl, by rw [ByteArray.size_append]; omega, by rw [ByteArray.size_append]; have := H7.out; show t.size + 1 ≤ _; omega, byteAt_pad t s HB.out ht1⟩
      case measure => have := H7.out; simp only [strLen, ByteArray.size_append]; show _ - (t.size + 1) < _; omega
end Go.Proofs.Ytlipkffnllmkgaa
