import Derived.Test.YtlipkffnllmkgaaA4
import Derived.Laws.BytesArg
namespace Go.Proofs.Ytlipkffnllmkgaa
open Go.RowKit

/-- n bytes lie in block b. -/
def Row8 (b n : Nat) (f : Nat → Int) (w : World) : Prop := ∀ j, j < n → w.cell? ⟨b, j, none⟩ = some (.int .u8 (f j)) ∧ w.frozen? ⟨b, j, none⟩ = false

theorem Row8.set {b n : Nat} {f : Nat → Int} {w : World} (h : Row8 b n f w) (k : Nat) (hk : k < n) (x : Int) : Row8 b n (fun j => if j = k then x else f j) (w.setCell ⟨b, k, none⟩ (.int .u8 x)) := by
  intro j hj
  obtain ⟨c, g⟩ := h j hj
  refine ⟨?_, by rw [World.frozen?_setCell]; exact g⟩
  dsimp only
  by_cases e : j = k
  · subst e
    rw [if_pos rfl, World.cell?_setCell_same' _ _ _ (by rw [c]; rfl)]
  · rw [if_neg e, World.cell?_setCell_other _ _ _ _ (by simp)]
    exact c
theorem Row8.congr {b n : Nat} {f g : Nat → Int} {w : World} (h : Row8 b n f w) (e : ∀ j, j < n → f j = g j) : Row8 b n g w := fun j hj => by rw [← e j hj]; exact h j hj
theorem Row8.conv {b n : Nat} {f : Nat → Int} {w : World} (h : Row8 b n f w) (m c : Nat) (hm : m ≤ n) : (convert 55 9 (.slice (some ⟨b, 0, none⟩) m c)).run Try.prog w = .ok (.string (strOfNums ((List.range m).map f))) w := by
  refine run_convert_bytes_arg w 55 5 Try.underlying55 Try.underlying5 b 0 m c ((List.range m).map f) (by simp) (fun i hi => ?_) 9 Try.underlying9
  rw [Nat.zero_add, (h i (by omega)).1]
  simp [List.getD_eq_getElem?_getD, hi]
theorem make16 : ∀ w, (Instr.makeSlice 55 (.int .i64 16) (.int .i64 16)).run Try.prog w = .ok (.slice (some ⟨w.heap.size, 0, none⟩) 16 16) (w.alloc (.cells #[.int .u8 0, .int .u8 0, .int .u8 0, .int .u8 0, .int .u8 0, .int .u8 0, .int .u8 0, .int .u8 0, .int .u8 0, .int .u8 0, .int .u8 0, .int .u8 0, .int .u8 0, .int .u8 0, .int .u8 0, .int .u8 0] 5)) := fun _ => by kernel_rfl
theorem row16_new (w : World) : Row8 w.heap.size 16 (fun _ => 0) (w.alloc (.cells #[.int .u8 0, .int .u8 0, .int .u8 0, .int .u8 0, .int .u8 0, .int .u8 0, .int .u8 0, .int .u8 0, .int .u8 0, .int .u8 0, .int .u8 0, .int .u8 0, .int .u8 0, .int .u8 0, .int .u8 0, .int .u8 0] 5)) := by
  intro j hj
  have h : j = 0 ∨ j = 1 ∨ j = 2 ∨ j = 3 ∨ j = 4 ∨ j = 5 ∨ j = 6 ∨ j = 7 ∨ j = 8 ∨ j = 9 ∨ j = 10 ∨ j = 11 ∨ j = 12 ∨ j = 13 ∨ j = 14 ∨ j = 15 := by omega
  rcases h with rfl | rfl | rfl | rfl | rfl | rfl | rfl | rfl | rfl | rfl | rfl | rfl | rfl | rfl | rfl | rfl <;> simp [go_sem]

/-- The sixteen bytes of a text. -/
def six (s : ByteArray) : ByteArray := strOfNums ((List.range 16).map (byteAt s))

end Go.Proofs.Ytlipkffnllmkgaa
