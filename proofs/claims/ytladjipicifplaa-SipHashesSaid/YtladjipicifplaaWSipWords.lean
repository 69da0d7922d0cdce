import Derived.Test.YtladjipicifplaaWSipKeys
import Derived.Laws.MakeOwn
import Derived.Laws.OwnMore
namespace Go.Proofs.Ytladjipicifplaa
open Go.RowKit

theorem info5 : (Try.prog.info? 5).map (fun i => (i.zero, i.size, i.bytes)) = some (some (.int .u8 0), 1, 1) := by kernel_rfl

/-- A text of n bytes 0. -/
def zeros (n : Nat) : ByteArray := strOfNums ((List.range n).map fun _ => 0)

theorem zeros_size (n : Nat) : (zeros n).size = n := by unfold zeros; rw [strOfNums_size]; simp
theorem make_row8 (n : Nat) (hn : n ≤ 100) (w : World) : ∃ w1, (Instr.makeSlice 28 (.int .i64 (n : Int)) (.int .i64 (n : Int))).run Try.prog w = .ok (.slice (some ⟨w.heap.size, 0, none⟩) n n) w1 ∧ Row8 w.heap.size n (fun _ => 0) w1 ∧ Below w.heap.size w w1 := by
  obtain ⟨i0, hi, hz0, hz1, hz2⟩ := info_parts info5
  have h := run_makeSlice (P := Try.prog) w 28 5 i0 (.int .u8 0) Try.underlying28 hi hz0 .i64 .i64 n n (by omega) (by omega) (by rw [hz1]; omega) (by rw [hz2]; omega) (by omega)
  refine ⟨_, h, ?_, (Below.refl _ _).alloc (Nat.le_refl _) _⟩
  intro j hj
  rw [hz1]
  have hc : (madeCells (Value.int IntKind.u8 0).cells ((n : Int).toNat * 1))[j]? = some (.int .u8 0) := by
    unfold madeCells
    have hj' : j < (n : Int).toNat * 1 := by omega
    rw [Array.getElem?_map, Array.getElem?_range]
    rw [if_pos hj']
    simp [Value.cells, Nat.mod_one]
  refine ⟨?_, World.frozen?_alloc_new _ _ _ _⟩
  exact (World.cell?_alloc_mark w _ 5 (0, 0) j).trans hc
theorem bytes_row (x : ByteArray) (W : World) : ∃ (c : Nat) (W1 : World), (convert 9 28 (.string x)).run Try.prog W = .ok (.slice (some ⟨W.heap.size, 0, none⟩) x.size c) W1 ∧ x.size ≤ c ∧ Row8 W.heap.size x.size (byteAt x) W1 ∧ Below W.heap.size W W1 ∧ W.heap.size < W1.heap.size := by
  have h1 := run_bytes_of_string (P := Try.prog) W 9 28 5 x Try.underlying9 Try.underlying28 Try.underlying5
  refine ⟨_, _, h1, grownCap_ge _ _ _ _, ?_, ((Below.refl _ _).drew).alloc (Nat.le_refl _) _, by simp⟩
  have hc := grownCap_ge W x.size 0 5
  generalize grownCap W x.size 0 5 = c at hc
  intro j hj
  have hs : x.size ≤ (bytesRow x c).size := by unfold bytesRow; rw [Array.size_append, Array.size_map]; exact Nat.le_add_right _ _
  refine ⟨(World.cell?_alloc_mark W.drew (bytesRow x c) 5 _ j).trans ?_, (World.frozen?_alloc_mark W.drew _ 5 _ _ j).trans ?_⟩
  · rw [bytesRow_get x c j (by simpa using hj)]
    have e := byteAt_eq x j hj
    rw [e]
    rfl
  · simp; omega
theorem Row8.first {b n m : Nat} {f : Nat → Int} {w : World} (h : Row8 b n f w) (hm : m ≤ n) : Row8 b m f w := fun j hj => h j (by omega)
theorem byteAt_append (x y : ByteArray) (j : Nat) (h : j < x.size) : byteAt (x ++ y) j = byteAt x j := by
  unfold byteAt
  rw [ByteArray.data_append, Array.toList_append]
  simp only [List.getD_eq_getElem?_getD]
  rw [List.getElem?_append_left (by simpa using h)]
theorem byteAt_zeros (n j : Nat) : byteAt (zeros n) j = 0 := by
  unfold byteAt zeros
  rw [strOfNums_data]
  simp only [List.getD_eq_getElem?_getD, List.map_map]
  by_cases h : j < n
  · simp [h]
  · simp [h]
theorem Row8.below {b n B : Nat} {f : Nat → Int} {w w' : World} (h : Row8 b n f w) (hb : Below B w w') (hB : b < B) : Row8 b n f w' := fun j hj => by
  obtain ⟨c, g⟩ := h j hj
  exact ⟨(hb.cell (p := ⟨b, j, none⟩) hB).trans c, (hb.frozen (p := ⟨b, j, none⟩) hB).trans g⟩

set_option maxRecDepth 100000 in
set_option maxHeartbeats 2000000 in
theorem walk_SipWords (a0 : ByteArray) (a1 : Int) (w : World) (w0 : a0.size ≤ maxLen) (w1 : (Lit.int .u8 a1).wf = true) :
    Calls Try.prog 4 #[.string a0, .int .u8 a1] w fun e w' => e = .returned (.bool true) ∧ Below w.heap.size w w' := by
  have W0 := Lib.hid w0
  clear w0
  have HB := Lib.hid (Below.refl w.heap.size w)
  have K0 := Lib.hid (six_size a0)
  obtain ⟨n, hn, hn41⟩ : ∃ n : Nat, a1.tmod 41 = (n : Int) ∧ n < 41 := by
    simp [Lit.wf, IntKind.min, IntKind.max, IntKind.signed, IntKind.bits] at w1
    rw [Int.tmod_eq_emod_of_nonneg (by omega)]
    exact ⟨(a1 % 41).toNat, by omega, by omega⟩
  clear w1
  have hz := zeros_size n
  have hL : Hid ((zeros n).size ≤ maxLen) := Lib.hid (by rw [hz]; unfold maxLen; omega)
  go_enter Try.func4, Try.ntmps4
  go_wp2_with (first
      | (go_at_call 14; refine (examples_calls _).mono ?_; rintro e wx ⟨rfl, hb1⟩; replace HB := Lib.hid (below_step HB.out hb1); clear hb1)
      | (go_at_call 16; refine (sixteen_calls a0 _ W0.out).mono ?_; rintro e wx ⟨rfl, hb1⟩; replace HB := Lib.hid (below_step HB.out hb1); clear hb1 W0))
  obtain ⟨W1, hmk, hrow, hb1⟩ := make_row8 n (by omega) wx
  replace HB := Lib.hid (below_step HB.out hb1)
  have HW1 : Hid (w.heap.size ≤ W1.heap.size) := Lib.hid HB.out.size
  have hcv : (convert 28 9 (.slice (some ⟨wx.heap.size, 0, none⟩) n n)).run Try.prog W1 = .ok (.string (zeros n)) W1 := hrow.conv n n (Nat.le_refl _)
  have HR := Lib.hid hrow
  clear hrow hb1
  rw [hmk]
  clear hmk
  go_wp2_with fail
  have hxs : (zeros n ++ ⟨#[116, 97, 105, 108]⟩).size = n + 4 := by rw [ByteArray.size_append, hz]; rfl
  obtain ⟨c, W2, hc2, hle, hrow, hb2, hsz⟩ := bytes_row (zeros n ++ ⟨#[116, 97, 105, 108]⟩) W1
  rw [hxs] at hc2 hle hrow
  rw [hc2]
  replace HB := Lib.hid (below_step HB.out hb2)
  have HSZ : Hid (W1.heap.size < W2.heap.size) := Lib.hid hsz
  have HR2 := Lib.hid hrow
  have HX := Lib.hid hxs
  clear hc2 hb2 hrow hsz hcv hxs
  go_wp2_with fail
  refine (hash_good _ _ _ K0.out hL.out).mono ?_
  rintro e W3 ⟨rfl, hb3⟩
  have hrow3 := HR2.out.below hb3 HSZ.out
  have hcv : (convert 28 9 (.slice (some ⟨W1.heap.size, 0, none⟩) n c)).run Try.prog W3 = .ok (.string (zeros n)) W3 :=
    ((hrow3.first (m := n) (by omega)).congr (g := fun _ => 0) (fun j hj => by rw [byteAt_append _ _ _ (by rw [hz]; exact hj), byteAt_zeros])).conv n c (Nat.le_refl _)
  have HR3 := Lib.hid hrow3
  have HSZ3 : Hid (W1.heap.size < W3.heap.size) := Lib.hid (Nat.lt_of_lt_of_le HSZ.out hb3.size)
  replace HB := Lib.hid (below_step HB.out hb3)
  clear hb3 hrow3
  have hlec : (n : Int) ≤ (c : Int) := by omega
  go_wp2_with fail
  refine (hash_good _ _ _ K0.out hL.out).mono ?_
  rintro e W4 ⟨rfl, hb4⟩
  have hrow4 := HR3.out.below hb4 HSZ3.out
  have hc0 := (hrow4 0 (by omega)).1
  have hf0 := (hrow4 0 (by omega)).2
  replace HB := Lib.hid (below_step HB.out hb4)
  have HLT : Hid (w.heap.size ≤ W1.heap.size) := Lib.hid HW1.out
  clear hb4 hrow4 hcv
  go_wp2_with fail
  refine (hash_good _ _ _ K0.out hL.out).mono ?_
  rintro e W5 ⟨rfl, hb5⟩
  replace HB := Lib.hid ((HB.out.setCell (p := ⟨W1.heap.size, 0, none⟩) HLT.out _).trans (hb5.mono (by have := HB.out.size; simpa [World.setCell] using this)))
  clear hb5 hc0 hf0
  go_wp2_with fail
  go_ret
  exact ⟨rfl, HB.out⟩
end Go.Proofs.Ytladjipicifplaa
