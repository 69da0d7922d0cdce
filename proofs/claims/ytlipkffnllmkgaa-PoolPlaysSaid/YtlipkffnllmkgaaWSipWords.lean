import Derived.Test.YtlipkffnllmkgaaWSipKeys
import Derived.Laws.MakeOwn
import Derived.Laws.OwnMore
namespace Go.Proofs.Ytlipkffnllmkgaa
open Go.RowKit

theorem info5 : (Try.prog.info? 5).map (fun i => (i.zero, i.size, i.bytes)) = some (some (.int .u8 0), 1, 1) := by kernel_rfl

/-- A text of n bytes 0. -/
def zeros (n : Nat) : ByteArray := strOfNums ((List.range n).map fun _ => 0)

theorem zeros_size (n : Nat) : (zeros n).size = n := by unfold zeros; rw [strOfNums_size]; simp
theorem make_row8 (n : Nat) (hn : n ≤ 100) (w : World) : ∃ w1, (Instr.makeSlice 55 (.int .i64 (n : Int)) (.int .i64 (n : Int))).run Try.prog w = .ok (.slice (some ⟨w.heap.size, 0, none⟩) n n) w1 ∧ Row8 w.heap.size n (fun _ => 0) w1 ∧ Below w.heap.size w w1 := by
  obtain ⟨i0, hi, hz0, hz1, hz2⟩ := info_parts info5
  have h := run_makeSlice (P := Try.prog) w 55 5 i0 (.int .u8 0) Try.underlying55 hi hz0 .i64 .i64 n n (by omega) (by omega) (by rw [hz1]; omega) (by rw [hz2]; omega) (by omega)
  refine ⟨_, h, ?_, (Below.refl _ _).alloc (Nat.le_refl _) _⟩
  intro j hj
  rw [hz1]
  have hc : (madeCells (Value.int IntKind.u8 0).cells ((n : Int).toNat * 1))[j]? = some (.int .u8 0) := by
    unfold madeCells
    have hj' : j < (n : Int).toNat * 1 := by omega
    rw [Array.getElem?_map, Array.getElem?_range]
    rw [if_pos hj']
    simp [Value.cells, Nat.mod_one]
  refine ⟨?_, World.frozen?_alloc_new _ _ _ _⟩
  exact (World.cell?_alloc_mark w _ 5 (0, 0) j).trans hc
theorem bytes_row (x : ByteArray) (W : World) : ∃ (c : Nat) (W1 : World), (convert 9 55 (.string x)).run Try.prog W = .ok (.slice (some ⟨W.heap.size, 0, none⟩) x.size c) W1 ∧ x.size ≤ c ∧ Row8 W.heap.size x.size (byteAt x) W1 ∧ Below W.heap.size W W1 ∧ W.heap.size < W1.heap.size := by
  have h1 := run_bytes_of_string (P := Try.prog) W 9 55 5 x Try.underlying9 Try.underlying55 Try.underlying5
  refine ⟨_, _, h1, grownCap_ge _ _ _ _, ?_, ((Below.refl _ _).drew).alloc (Nat.le_refl _) _, by simp⟩
  have hc := grownCap_ge W x.size 0 5
  generalize grownCap W x.size 0 5 = c at hc
  intro j hj
  have hs : x.size ≤ (bytesRow x c).size := by unfold bytesRow; rw [Array.size_append, Array.size_map]; exact Nat.le_add_right _ _
  refine ⟨(World.cell?_alloc_mark W.drew (bytesRow x c) 5 _ j).trans ?_, (World.frozen?_alloc_mark W.drew _ 5 _ _ j).trans ?_⟩
  · rw [bytesRow_get x c j (by simpa using hj)]
    have e := byteAt_eq x j hj
    rw [e]
    rfl
  · simp; omega
theorem Row8.first {b n m : Nat} {f : Nat → Int} {w : World} (h : Row8 b n f w) (hm : m ≤ n) : Row8 b m f w := fun j hj => h j (by omega)
theorem byteAt_append (x y : ByteArray) (j : Nat) (h : j < x.size) : byteAt (x ++ y) j = byteAt x j := by
  unfold byteAt
  rw [ByteArray.data_append, Array.toList_append]
  simp only [List.getD_eq_getElem?_getD]
  rw [List.getElem?_append_left (by simpa using h)]
theorem byteAt_zeros (n j : Nat) : byteAt (zeros n) j = 0 := by
  unfold byteAt zeros
  rw [strOfNums_data]
  simp only [List.getD_eq_getElem?_getD, List.map_map]
  by_cases h : j < n
  · simp [h]
  · simp [h]
theorem Row8.below {b n B : Nat} {f : Nat → Int} {w w' : World} (h : Row8 b n f w) (hb : Below B w w') (hB : b < B) : Row8 b n f w' := fun j hj => by
  obtain ⟨c, g⟩ := h j hj
  exact ⟨(hb.cell (p := ⟨b, j, none⟩) hB).trans c, (hb.frozen (p := ⟨b, j, none⟩) hB).trans g⟩

end Go.Proofs.Ytlipkffnllmkgaa
