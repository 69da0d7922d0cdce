import Derived.Test.YtlipkffnllmkgaaA3
namespace Go.Proofs.Ytlipkffnllmkgaa
open Go.RowKit

/-- The number of the first k of the bytes f, the lowest first. -/
def wd (f : Nat → Int) : Nat → Int
  | 0 => 0
  | k + 1 => bits .or .u64 (wd f k) (IntKind.u64.wrap (IntKind.u64.wrap (f k) * 2 ^ (8 * k)))
theorem wd_congr {f g : Nat → Int} : ∀ (k : Nat), (∀ j, j < k → f j = g j) → wd f k = wd g k
  | 0, _ => rfl
  | k + 1, h => by simp only [wd]; rw [wd_congr k (fun j hj => h j (by omega)), h k (by omega)]
theorem wordTo_eq (s : ByteArray) : ∀ k, wordTo s k = wd (byteAt s) k
  | 0 => rfl
  | k + 1 => by simp only [wd, wordTo, wordTo_eq s k]
theorem byteAt_extract (s : ByteArray) (a b j : Nat) (h : a + j < b) : byteAt (s.extract a b) j = byteAt s (a + j) := by
  unfold byteAt
  rw [ByteArray.data_extract, Array.toList_extract]
  simp only [List.getD_eq_getElem?_getD, List.extract_eq_take_drop, List.getElem?_take, List.getElem?_drop]
  rw [if_pos (by omega)]
theorem byteAt_over (s : ByteArray) (j : Nat) (h : s.size ≤ j) : byteAt s j = 0 := by
  unfold byteAt
  rw [List.getD_eq_getElem?_getD, List.getElem?_eq_none (by simpa using h)]
  rfl

def strLen : Value → Nat | .string t => t.size | _ => 0
def seed4 : S4 := ⟨8317987319222330741, 7237128888997146477, 7816392313619706465, 8387220255154660723⟩
def keyed (k l : Int) : Nat → S4
  | 0 => seed4
  | 1 => { seed4 with p := ux seed4.p k }
  | 2 => { seed4 with p := ux seed4.p k, q := ux seed4.q l }
  | 3 => { seed4 with p := ux seed4.p k, q := ux seed4.q l, r := ux seed4.r k }
  | _ => { p := ux seed4.p k, q := ux seed4.q l, r := ux seed4.r k, s := ux seed4.s l }
/-- The state behind the first n whole words of f. -/
def words (v : S4) (f : Nat → Int) : Nat → S4
  | 0 => v
  | n + 1 => addS (words v f n) (wd (fun j => f (8 * n + j)) 8)
def ending (v : S4) : Int :=
  let u := Nat.repeat rnd 4 { v with r := ux v.r 255 }
  ux (ux (ux u.p u.q) u.r) u.s
/-- The sum, by halves k, l of the key, n bytes f. -/
def sum4 (k l : Int) (f : Nat → Int) (n : Nat) : Int :=
  ending (addS (words (keyed k l 4) f (n / 8)) (bits .or .u64 (IntKind.u64.wrap (n * 72057594037927936)) (wd (fun j => f (8 * (n / 8) + j)) (n % 8))))
def hashF (key s : ByteArray) : Int := sum4 (wd (byteAt key) 8) (wd (fun j => byteAt key (8 + j)) 8) (byteAt s) s.size

theorem hash_bad (key s : ByteArray) (w : World) (h : key.size ≠ 16) : Calls Try.prog 32 #[.string key, .string s] w fun e w' => e = .returned (.tuple #[.int .u64 0, .bool false]) ∧ w' = w := by
  have h1 : ((key.size : Int) != 16) = true := by simp; omega
  go_enter Try.func32, Try.ntmps32
  go_wp2
  go_ret2
  exact ⟨rfl, rfl⟩

theorem word_slice (key : ByteArray) (a : Nat) (w : World) (h : a + 8 ≤ key.size) : Calls Try.prog 47 #[.string (key.extract a (a + 8))] w fun e w' => e = .returned (.int .u64 (wd (fun j => byteAt key (a + j)) 8)) ∧ w' = w := by
  refine (word_calls (key.extract a (a + 8)) w (by simp; omega)).mono ?_
  rintro e w' ⟨rfl, rfl⟩
  refine ⟨?_, rfl⟩
  rw [show (key.extract a (a + 8)).size = 8 from by simp; omega, wordTo_eq]
  rw [wd_congr 8 (fun j hj => byteAt_extract key a (a + 8) j (by omega))]

theorem word_slice0 (key : ByteArray) (w : World) (h : 8 ≤ key.size) : Calls Try.prog 47 #[.string (key.extract 0 8)] w fun e w' => e = .returned (.int .u64 (wd (byteAt key) 8)) ∧ w' = w := by
  have h0 := word_slice key 0 w (by omega)
  simpa using h0
theorem word_slice8 (key : ByteArray) (w : World) (h : 16 ≤ key.size) : Calls Try.prog 47 #[.string (key.extract 8 16)] w fun e w' => e = .returned (.int .u64 (wd (fun j => byteAt key (8 + j)) 8)) ∧ w' = w :=
  word_slice key 8 w (by omega)
theorem word_all (s : ByteArray) (f : Nat → Int) (n : Nat) (w : World) (hn : s.size = n) (h8 : n ≤ 8) (hf : ∀ j, j < n → byteAt s j = f j) : Calls Try.prog 47 #[.string s] w fun e w' => e = .returned (.int .u64 (wd f n)) ∧ w' = w := by
  subst hn
  rw [← wd_congr s.size hf, ← wordTo_eq]
  exact word_calls s w h8
theorem At4.set2' {b : Nat} {p q r s : Int} {w : World} (h : At4 b p q r s w) (x : Int) : At4 b p q x s (w.setCell ⟨b, 2, none⟩ (.int .u64 x)) := by
  obtain ⟨c0, c1, c2, c3, f0, f1, f2, f3⟩ := h
  simp [At4, c0, c1, c2, c3, f0, f1, f2, f3, go_sem]
theorem grown_set' {w w1 : World} {b : Nat} {o : Nat} (h : w.grownBy w1 (some b)) (v : Value) : w.grownBy (w1.setCell ⟨b, o, none⟩ v) (some b) :=
  ⟨h.os, h.tape, h.output, by simpa [World.setCell] using h.size, fun i hi hne => (Below.heap_setCell w1 ⟨b, o, none⟩ v i (by rintro rfl; exact hne rfl)).trans (h.block i hi hne)⟩
theorem AtS.below {b : Nat} {v : S4} {w w' : World} (h : AtS b v w) (hb : w.heap[b]? = w'.heap[b]?) : AtS b v w' := by
  obtain ⟨c0, c1, c2, c3, f0, f1, f2, f3⟩ := h
  have e : ∀ o, w'.cell? ⟨b, o, none⟩ = w.cell? ⟨b, o, none⟩ := fun o => World.cell?_of_block (w := w) hb.symm
  have g : ∀ o, w'.frozen? ⟨b, o, none⟩ = w.frozen? ⟨b, o, none⟩ := fun o => World.frozen?_of_block (w := w) hb.symm
  exact ⟨(e 0).trans c0, (e 1).trans c1, (e 2).trans c2, (e 3).trans c3, (g 0).trans f0, (g 1).trans f1, (g 2).trans f2, (g 3).trans f3⟩
theorem below_of_grown {w w' : World} (h : w.grownBy w' (some w.heap.size)) : Below w.heap.size w w' :=
  ⟨h.os, h.tape, h.output, h.size, fun i hi => h.block i hi (fun e => by have e := Option.some.inj e; omega)⟩

set_option maxRecDepth 100000 in
set_option maxHeartbeats 4000000 in
theorem hash_good (key s : ByteArray) (w : World) (h : key.size = 16) (hs : s.size ≤ maxLen) : Calls Try.prog 32 #[.string key, .string s] w fun e w' => e = .returned (.tuple #[.int .u64 (hashF key s), .bool true]) ∧ Below w.heap.size w w' := by
  unfold maxLen at hs
  have h1 : ((key.size : Int) != 16) = false := by simp; omega
  have h16 : 16 ≤ key.size := by omega
  have h08 : (8 : Int) ≤ (key.size : Int) := by omega
  have h016 : (16 : Int) ≤ (key.size : Int) := by omega
  have hw8 : IntKind.i64.wrap 8 = 8 := by decide
  have hw16 : IntKind.i64.wrap 16 = 16 := by decide
  have H := Lib.hid h
  clear h
  obtain ⟨kl, hkl⟩ : ∃ x, x = wd (byteAt key) 8 := ⟨_, rfl⟩
  obtain ⟨kr, hkr⟩ : ∃ x, x = wd (fun j => byteAt key (8 + j)) 8 := ⟨_, rfl⟩
  have c0 := fun W => word_slice0 key W (by omega)
  have c8 := fun W => word_slice8 key W h16
  rw [← hkl] at c0
  rw [← hkr] at c8
  have HKL := Lib.hid hkl
  have HKR := Lib.hid hkr
  have C0 := Lib.hid c0
  have C8 := Lib.hid c8
  clear hkl hkr c0 c8
  go_enter Try.func32, Try.ntmps32
  go_wp2_with fail
  go_loopw [14] (fun i wr => ∃ k : Nat, k ≤ 4 ∧ i = .int .i64 k ∧ AtS w.heap.size (keyed kl kr k) wr ∧ w.grownBy wr (some w.heap.size)) (fun i _ => (4 - intOf i).toNat)
  case atStart =>
    refine ⟨0, by omega, rfl, ?_, World.grownBy_alloc _ _ _⟩
    simp [AtS, At4, keyed, seed4, go_sem]
  case round =>
    obtain ⟨k, hk, rfl, h4, hg⟩ := hrel
    have HG := Lib.hid hg
    clear hg
    have hcase : k = 0 ∨ k = 1 ∨ k = 2 ∨ k = 3 ∨ k = 4 := by omega
    rcases hcase with rfl | rfl | rfl | rfl | rfl
    · obtain ⟨c0, c1, c2, c3, f0, f1, f2, f3⟩ := h4
      go_wp2_with fail
      refine wp_tail 11 (by kernel_rfl) (by kernel_rfl) ?_
      simp only [List.take_succ_cons, List.take_zero, List.drop_succ_cons, List.drop_zero]
      repeat (first | still_step | still_call (C0.out _))
      refine wpStill_nil ?_
      go_wp2_with fail
      go_roundw
      case rel => exact ⟨1, by omega, rfl, At4.set0 ⟨c0, c1, c2, c3, f0, f1, f2, f3⟩ _, grown_set HG.out _⟩
      case measure => simp [intOf]
    · obtain ⟨c0, c1, c2, c3, f0, f1, f2, f3⟩ := h4
      go_wp2_with fail
      refine wp_tail 11 (by kernel_rfl) (by kernel_rfl) ?_
      simp only [List.take_succ_cons, List.take_zero, List.drop_succ_cons, List.drop_zero]
      repeat (first | still_step | still_call (C8.out _))
      refine wpStill_nil ?_
      go_wp2_with fail
      go_roundw
      case rel => exact ⟨2, by omega, rfl, At4.set1 ⟨c0, c1, c2, c3, f0, f1, f2, f3⟩ _, grown_set HG.out _⟩
      case measure => simp [intOf]
    · obtain ⟨c0, c1, c2, c3, f0, f1, f2, f3⟩ := h4
      go_wp2_with fail
      refine wp_tail 11 (by kernel_rfl) (by kernel_rfl) ?_
      simp only [List.take_succ_cons, List.take_zero, List.drop_succ_cons, List.drop_zero]
      repeat (first | still_step | still_call (C0.out _))
      refine wpStill_nil ?_
      go_wp2_with fail
      go_roundw
      case rel => exact ⟨3, by omega, rfl, At4.set2 ⟨c0, c1, c2, c3, f0, f1, f2, f3⟩ _, grown_set HG.out _⟩
      case measure => simp [intOf]
    · obtain ⟨c0, c1, c2, c3, f0, f1, f2, f3⟩ := h4
      go_wp2_with fail
      refine wp_tail 11 (by kernel_rfl) (by kernel_rfl) ?_
      simp only [List.take_succ_cons, List.take_zero, List.drop_succ_cons, List.drop_zero]
      repeat (first | still_step | still_call (C8.out _))
      refine wpStill_nil ?_
      go_wp2_with fail
      go_roundw
      case rel => exact ⟨4, by omega, rfl, At4.set3 ⟨c0, c1, c2, c3, f0, f1, f2, f3⟩ _, grown_set HG.out _⟩
      case measure => simp [intOf]
    · obtain ⟨v4, hv4⟩ : ∃ v, v = keyed kl kr 4 := ⟨_, rfl⟩
      rw [← hv4] at h4
      have HV := Lib.hid hv4
      have HA := Lib.hid h4
      clear hv4 h4
      go_wp2_with fail
      go_loopw [1] (fun t wx => ∃ (k : Nat) (t' : ByteArray), t = .string t' ∧ 8 * k ≤ s.size ∧ t'.size = s.size - 8 * k ∧ (∀ j, byteAt t' j = byteAt s (8 * k + j)) ∧ AtS w.heap.size (words v4 (byteAt s) k) wx ∧ w.grownBy wx (some w.heap.size)) (fun t _ => strLen t)
      case atStart => exact ⟨0, s, rfl, by omega, by omega, fun j => by simp, HA.out, HG.out⟩
      case round =>
        obtain ⟨k, t, rfl, hk8, ht, hb, h4, hg⟩ := hrel
        have HT := Lib.hid ht
        have HB := Lib.hid hb
        have HA4 := Lib.hid h4
        have HG4 := Lib.hid hg
        clear ht hb h4 hg HA HG
        by_cases h8 : 8 ≤ t.size
        · go_wp2_with fail
          have hc : ∀ W, Calls Try.prog 47 #[.string (t.extract 0 8)] W fun e w' => e = .returned (.int .u64 (wd (fun j => byteAt s (8 * k + j)) 8)) ∧ w' = W := fun W =>
            word_all _ _ 8 W (by simp; omega) (Nat.le_refl _) (fun j hj => by rw [byteAt_extract t 0 8 j (by omega), Nat.zero_add, HB.out])
          refine (hc _).mono ?_
          rintro e w' ⟨rfl, rfl⟩
          clear hc
          go_wp2_with fail
          refine (add_calls _ _ _ HA4.out _).mono ?_
          rintro e w2 ⟨rfl, h5, hg2⟩
          have HA5 := Lib.hid h5
          have HG5 := Lib.hid (grown_trans HG4.out hg2)
          clear h5 hg2
          go_wp2_with fail
          go_roundw
          case rel =>
            have hj : ∀ j, byteAt (t.extract 8 t.size) j = byteAt s (8 * (k + 1) + j) := by
              intro j
              by_cases hj : 8 + j < t.size
              · rw [byteAt_extract t 8 t.size j hj, HB.out]; congr 1; omega
              · rw [byteAt_over _ _ (by simp; omega), ← (show 8 * k + (8 + j) = 8 * (k + 1) + j by omega), ← HB.out, byteAt_over _ _ (by omega)]
            have h1' : 8 * (k + 1) ≤ s.size := by have := HT.out; omega
            have h2' : (t.extract 8 t.size).size = s.size - 8 * (k + 1) := by have := HT.out; simp; omega
            (repeat apply Exists.intro)
            exact ⟨⟨k + 1, t.extract 8 t.size, rfl, h1', h2', hj, HA5.out, HG5.out⟩, rfl⟩
          case measure => simp [strLen]; omega
        · go_wp2_with fail
          have hc : ∀ W, Calls Try.prog 47 #[.string t] W fun e w' => e = .returned (.int .u64 (wd (fun j => byteAt s (8 * k + j)) t.size)) ∧ w' = W := fun W =>
            word_all _ _ t.size W rfl (by omega) (fun j hj => HB.out j)
          refine (hc _).mono ?_
          rintro e w' ⟨rfl, rfl⟩
          clear hc
          go_wp2_with fail
          refine (add_calls _ _ _ HA4.out _).mono ?_
          rintro e w2 ⟨rfl, h5, hg2⟩
          have HG5 := Lib.hid (grown_trans HG4.out hg2)
          generalize hz : addS (words v4 (byteAt s) k) _ = z at h5
          have HZ := Lib.hid hz
          obtain ⟨c0, c1, c2, c3, f0, f1, f2, f3⟩ := h5
          clear hz hg2
          go_wp2_with fail
          refine (rounds_calls w.heap.size { z with r := ux z.r 255 } _ (At4.set2' ⟨c0, c1, c2, c3, f0, f1, f2, f3⟩ _) 4 (by omega) (by omega)).mono ?_
          rintro e w3 ⟨rfl, h6, hg3⟩
          have HG6 := Lib.hid (grown_trans (grown_set' HG5.out _) hg3)
          have h6 : AtS w.heap.size (Nat.repeat rnd 4 { z with r := ux z.r 255 }) w3 := h6
          generalize hy : Nat.repeat rnd 4 { z with r := ux z.r 255 } = y at h6
          have HY := Lib.hid hy
          clear hy hg3 c0 c1 c2 c3 f0 f1 f2 f3
          obtain ⟨c0, c1, c2, c3, f0, f1, f2, f3⟩ := h6
          go_wp2_with fail
          go_ret2
          refine ⟨?_, below_of_grown HG6.out⟩
          have hk' : k = s.size / 8 := by have := HT.out; omega
          have ht' : t.size = s.size % 8 := by have := HT.out; omega
          show Ending.returned (.tuple #[.int .u64 (ux (ux (ux y.p y.q) y.r) y.s), .bool true]) = _
          rw [HY.out.symm, HZ.out.symm, HV.out, HKL.out, HKR.out, ht', hk']
          rfl
end Go.Proofs.Ytlipkffnllmkgaa
