import Derived.Test.YtladjipicifplaaA4
import Derived.Laws.BytesArg
namespace Go.Proofs.Ytladjipicifplaa
open Go.RowKit

/-- n bytes lie in block b. -/
def Row8 (b n : Nat) (f : Nat → Int) (w : World) : Prop := ∀ j, j < n → w.cell? ⟨b, j, none⟩ = some (.int .u8 (f j)) ∧ w.frozen? ⟨b, j, none⟩ = false

theorem Row8.set {b n : Nat} {f : Nat → Int} {w : World} (h : Row8 b n f w) (k : Nat) (hk : k < n) (x : Int) : Row8 b n (fun j => if j = k then x else f j) (w.setCell ⟨b, k, none⟩ (.int .u8 x)) := by
  intro j hj
  obtain ⟨c, g⟩ := h j hj
  refine ⟨?_, by rw [World.frozen?_setCell]; exact g⟩
  dsimp only
  by_cases e : j = k
  · subst e
    rw [if_pos rfl, World.cell?_setCell_same' _ _ _ (by rw [c]; rfl)]
  · rw [if_neg e, World.cell?_setCell_other _ _ _ _ (by simp)]
    exact c
theorem Row8.congr {b n : Nat} {f g : Nat → Int} {w : World} (h : Row8 b n f w) (e : ∀ j, j < n → f j = g j) : Row8 b n g w := fun j hj => by rw [← e j hj]; exact h j hj
theorem Row8.conv {b n : Nat} {f : Nat → Int} {w : World} (h : Row8 b n f w) (m c : Nat) (hm : m ≤ n) : (convert 28 9 (.slice (some ⟨b, 0, none⟩) m c)).run Try.prog w = .ok (.string (strOfNums ((List.range m).map f))) w := by
  refine run_convert_bytes_arg w 28 5 Try.underlying28 Try.underlying5 b 0 m c ((List.range m).map f) (by simp) (fun i hi => ?_) 9 Try.underlying9
  rw [Nat.zero_add, (h i (by omega)).1]
  simp [List.getD_eq_getElem?_getD, hi]
theorem make16 : ∀ w, (Instr.makeSlice 28 (.int .i64 16) (.int .i64 16)).run Try.prog w = .ok (.slice (some ⟨w.heap.size, 0, none⟩) 16 16) (w.alloc (.cells #[.int .u8 0, .int .u8 0, .int .u8 0, .int .u8 0, .int .u8 0, .int .u8 0, .int .u8 0, .int .u8 0, .int .u8 0, .int .u8 0, .int .u8 0, .int .u8 0, .int .u8 0, .int .u8 0, .int .u8 0, .int .u8 0] 5)) := fun _ => by kernel_rfl
theorem row16_new (w : World) : Row8 w.heap.size 16 (fun _ => 0) (w.alloc (.cells #[.int .u8 0, .int .u8 0, .int .u8 0, .int .u8 0, .int .u8 0, .int .u8 0, .int .u8 0, .int .u8 0, .int .u8 0, .int .u8 0, .int .u8 0, .int .u8 0, .int .u8 0, .int .u8 0, .int .u8 0, .int .u8 0] 5)) := by
  intro j hj
  have h : j = 0 ∨ j = 1 ∨ j = 2 ∨ j = 3 ∨ j = 4 ∨ j = 5 ∨ j = 6 ∨ j = 7 ∨ j = 8 ∨ j = 9 ∨ j = 10 ∨ j = 11 ∨ j = 12 ∨ j = 13 ∨ j = 14 ∨ j = 15 := by omega
  rcases h with rfl | rfl | rfl | rfl | rfl | rfl | rfl | rfl | rfl | rfl | rfl | rfl | rfl | rfl | rfl | rfl <;> simp [go_sem]

/-- The sixteen bytes of a text. -/
def six (s : ByteArray) : ByteArray := strOfNums ((List.range 16).map (byteAt s))

set_option maxRecDepth 100000 in
set_option maxHeartbeats 1000000 in
theorem sixteen_calls (s : ByteArray) (w : World) (hs : s.size ≤ maxLen) : Calls Try.prog 16 #[.string s] w fun e w' => e = .returned (.string (six s)) ∧ Below w.heap.size w w' := by
  unfold maxLen at hs
  have hmk := make16
  have hr := Lib.hid (row16_new w)
  have hg := Lib.hid (World.grownBy_alloc w (.cells #[.int .u8 0, .int .u8 0, .int .u8 0, .int .u8 0, .int .u8 0, .int .u8 0, .int .u8 0, .int .u8 0, .int .u8 0, .int .u8 0, .int .u8 0, .int .u8 0, .int .u8 0, .int .u8 0, .int .u8 0, .int .u8 0] 5) (some w.heap.size))
  go_enter Try.func16, Try.ntmps16
  go_wp2_with fail
  clear hmk
  go_loopw [4] (fun i wr => ∃ k : Nat, k ≤ 16 ∧ k ≤ s.size ∧ i = .int .i64 k ∧ Row8 w.heap.size 16 (fun j => if j < k then byteAt s j else 0) wr ∧ w.grownBy wr (some w.heap.size)) (fun i _ => (16 - intOf i).toNat)
  case atStart => exact ⟨0, by omega, by omega, rfl, hr.out.congr (fun j _ => by simp), hg.out⟩
  case round =>
    obtain ⟨k, hk, hks, rfl, hrow, hg2⟩ := hrel
    have HG := Lib.hid hg2
    clear hg2 hr hg
    by_cases h16 : k < 16
    · by_cases hlt : k < s.size
      · have hck := (hrow k h16).1
        have hfk := (hrow k h16).2
        have HR := Lib.hid hrow
        clear hrow
        go_wp2_with fail
        go_roundw
        case rel =>
          have hx := (HR.out.set k h16 (byteAt s k)).congr (g := fun j => if j < k + 1 then byteAt s j else 0) (fun j _ => by
            by_cases e : j = k
            · simp [e]
            · by_cases e2 : j < k
              · simp [e, e2, show j < k + 1 by omega]
              · simp [e, e2, show ¬ j < k + 1 by omega])
          rw [byteAt_eq s k hlt] at hx
          exact ⟨k + 1, by omega, by omega, by go_num, hx, grown_set' HG.out _⟩
        case measure => simp [intOf]; omega
      · have hcv : (convert 28 9 (.slice (some ⟨w.heap.size, 0, none⟩) 16 16)).run Try.prog wr = .ok (.string (six s)) wr :=
          (hrow.congr (g := byteAt s) (fun j _ => by
            by_cases e : j < k
            · simp [e]
            · simp only [e, if_false]; rw [byteAt_over s j (by omega)])).conv 16 16 (Nat.le_refl _)
        have HR := Lib.hid hrow
        clear hrow
        go_wp2_with fail
        go_ret
        exact ⟨rfl, below_of_grown HG.out⟩
    · have hcv : (convert 28 9 (.slice (some ⟨w.heap.size, 0, none⟩) 16 16)).run Try.prog wr = .ok (.string (six s)) wr :=
        (hrow.congr (g := byteAt s) (fun j hj => by simp [show j < k by omega])).conv 16 16 (Nat.le_refl _)
      have HR := Lib.hid hrow
      clear hrow
      go_wp2_with fail
      go_ret
      exact ⟨rfl, below_of_grown HG.out⟩
end Go.Proofs.Ytladjipicifplaa
