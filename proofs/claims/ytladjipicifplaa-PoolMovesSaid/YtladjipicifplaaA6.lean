import Derived.Test.YtladjipicifplaaA5
import Derived.Deep.RegionWith
import Derived.Deep.RegionHeld3
namespace Go.Proofs.Ytladjipicifplaa
open Go.RowKit

def exKey : ByteArray := strOfNums ((List.range 16).map fun (j : Nat) => (j : Int))
def exText : ByteArray := strOfNums ((List.range 15).map fun (j : Nat) => (j : Int))
theorem hash_example : hashF exKey exText = 11613035633349379557 := by decide +kernel
theorem exKey_size : exKey.size = 16 := by decide +kernel
theorem exText_size : exText.size = 15 := by decide +kernel

theorem below_drew' {B : Nat} {w w' : World} (h : Below w.drew.heap.size w.drew w') (hB : B ≤ w.heap.size) : Below B w w' :=
  ⟨h.os, h.tape, h.output, h.size, fun k hk => h.block k (by show k < w.heap.size; omega)⟩

set_option maxRecDepth 100000 in
set_option maxHeartbeats 1000000 in
theorem examples_calls (w : World) : Calls Try.prog 14 #[] w fun e w' => e = .returned (.bool true) ∧ Below w.heap.size w w' := by
  have hmk := make16
  have hr := Lib.hid (row16_new w)
  have hg := Lib.hid (World.grownBy_alloc w (.cells #[.int .u8 0, .int .u8 0, .int .u8 0, .int .u8 0, .int .u8 0, .int .u8 0, .int .u8 0, .int .u8 0, .int .u8 0, .int .u8 0, .int .u8 0, .int .u8 0, .int .u8 0, .int .u8 0, .int .u8 0, .int .u8 0] 5) (some w.heap.size))
  go_enter Try.func14, Try.ntmps14
  go_wp2_with fail
  clear hmk
  go_loopw [2] (fun i wr => ∃ k : Nat, k ≤ 16 ∧ i = .int .i64 k ∧ Row8 w.heap.size 16 (fun (j : Nat) => if j < k then (j : Int) else 0) wr ∧ w.grownBy wr (some w.heap.size)) (fun i _ => (16 - intOf i).toNat)
  case atStart => exact ⟨0, by omega, rfl, hr.out.congr (fun j _ => by simp), hg.out⟩
  case round =>
    obtain ⟨k, hk, rfl, hrow, hg2⟩ := hrel
    have HG := Lib.hid hg2
    clear hg2 hr hg
    by_cases h16 : k < 16
    · have hck := (hrow k h16).1
      have hfk := (hrow k h16).2
      have HR := Lib.hid hrow
      clear hrow
      go_wp2_with fail
      go_roundw
      case rel =>
        have hx := (HR.out.set k h16 k).congr (g := fun (j : Nat) => if j < k + 1 then (j : Int) else 0) (fun j _ => by
          by_cases e : j = k
          · simp [e]
          · by_cases e2 : j < k
            · simp [e, e2, show j < k + 1 by omega]
            · simp [e, e2, show ¬ j < k + 1 by omega])
        exact ⟨k + 1, by omega, by go_num, hx, grown_set' HG.out _⟩
      case measure => simp [intOf]; omega
    · have hrow' := hrow.congr (g := fun (j : Nat) => (j : Int)) (fun j hj => by simp [show j < k by omega])
      have hcv : (convert 28 9 (.slice (some ⟨w.heap.size, 0, none⟩) 16 16)).run Try.prog wr.drew = .ok (.string exKey) wr.drew := Row8.conv (w := wr.drew) hrow' 16 16 (Nat.le_refl _)
      have hcv2 : (convert 28 9 (.slice (some ⟨w.heap.size, 0, none⟩) 15 16)).run Try.prog wr.drew = .ok (.string exText) wr.drew := Row8.conv (w := wr.drew) hrow' 15 16 (by omega)
      have HR := Lib.hid hrow
      have HR' := Lib.hid hrow'
      clear hrow hrow'
      go_wp2_with fail
      have hHash : ∀ W, Calls Try.prog 15 #[.string exKey, .string exText] W fun e w' => e = .returned (.tuple #[.int .u64 11613035633349379557, .bool true]) ∧ Below W.heap.size W w' := by
        intro W
        rw [← hash_example]
        exact hash_good exKey exText W exKey_size (by rw [exText_size]; decide)
      have HH := Lib.hid hHash
      clear hHash
      go_cut [3, 4] from 8 to 38 (fun s3 s4 w' => s3 = .int .u64 11613035633349379557 ∧ s4 = .bool true ∧ Below w.heap.size w w')
      case first =>
        go_region_with (go_at_call 15; refine (HH.out _).mono ?_; rintro e w' ⟨rfl, hb⟩)
        all_goals
          go_wp2_with fail
          go_meet
          case rel => exact ⟨rfl, rfl, (below_of_grown HG.out).trans (below_drew' hb HG.out.size)⟩
      obtain ⟨rfl, rfl, hb⟩ := hcut
      have HB := Lib.hid hb
      clear hb hcv hcv2
      go_wp2_with fail
      refine (hash_bad _ _ _ (by decide)).mono ?_
      rintro e w' ⟨rfl, rfl⟩
      go_wp2_with fail
      go_ret
      exact ⟨rfl, HB.out⟩
end Go.Proofs.Ytladjipicifplaa
