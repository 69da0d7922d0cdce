import Derived.Test.YtlipkffnllmkgaaA5
namespace Go.Proofs.Ytlipkffnllmkgaa
open Go.RowKit

/-- The m bytes of a number, the highest first. -/
def putF (m n j : Nat) : Int := ((n / 2 ^ (8 * (m - 1 - j)) % 256 : Nat) : Int)
def putS (m n : Nat) : ByteArray := strOfNums ((List.range m).map (putF m n))
theorem row_at {b m k : Nat} {f : Nat → Int} {w : World} {x y : Int} (h : Row8 b m f (w.setCell ⟨b, k, none⟩ (.int .u8 x))) (e : x = y) : Row8 b m f (w.setCell ⟨b, k, none⟩ (.int .u8 y)) := e ▸ h
theorem putS_size (m n : Nat) : (putS m n).size = m := by
  unfold putS
  rw [strOfNums_size]
  simp

theorem make1 : ∀ w, (Instr.makeSlice 55 (.int .i64 1) (.int .i64 1)).run Try.prog w = .ok (.slice (some ⟨w.heap.size, 0, none⟩) 1 1) (w.alloc (.cells #[.int .u8 0] 5)) := fun _ => by kernel_rfl
theorem row1_new (w : World) : Row8 w.heap.size 1 (fun _ => 0) (w.alloc (.cells #[.int .u8 0] 5)) := by
  intro j hj
  have h : j = 0 := by omega
  subst h
  simp [go_sem]
set_option maxRecDepth 100000 in
set_option maxHeartbeats 1000000 in
theorem put1_ok (n : Nat) (hn : n < 256) (w : World) :
    Calls Try.prog 46 #[.int .i64 1, .int .i64 (n : Int)] w fun e w' => e = .returned (.tuple #[.string (putS 1 n), .bool true]) ∧ Below w.heap.size w w' := by
  have hmk := make1
  have hr := Lib.hid (row1_new w)
  have hg := Lib.hid (World.grownBy_alloc w (.cells #[.int .u8 0] 5) (some w.heap.size))
  have hsh : (n : Int) / 256 = 0 := by omega
  have hz : ((n : Int) / 256 != 0) = false := by rw [hsh]; rfl
  go_enter Try.func46, Try.ntmps46
  go_wp2_with fail
  clear hmk
  go_loopw [29] (fun i wr => ∃ k : Nat, k ≤ 1 ∧ i = .int .i64 k ∧ Row8 w.heap.size 1 (fun j => if j < k then putF 1 n j else 0) wr ∧ w.grownBy wr (some w.heap.size)) (fun i _ => (1 - intOf i).toNat)
  case atStart => exact ⟨0, by omega, rfl, hr.out.congr (fun j _ => by simp), hg.out⟩
  case round =>
    obtain ⟨k, hk, rfl, hrow, hg2⟩ := hrel
    have HG := Lib.hid hg2
    clear hg2 hr hg
    by_cases hlt : k < 1
    · have hck := (hrow k hlt).1
      have hfk := (hrow k hlt).2
      have HR := Lib.hid ((hrow.set k hlt (putF 1 n k)).congr (g := fun j => if j < k + 1 then putF 1 n j else 0) (fun j _ => by
        by_cases e : j = k
        · simp [e]
        · by_cases e2 : j < k
          · simp [e, e2, show j < k + 1 by omega]
          · simp [e, e2, show ¬ j < k + 1 by omega]))
      clear hrow
      obtain rfl : k = 0 := by omega
      all_goals
        go_wp2_with fail
        go_roundw
        case rel => first | exact ⟨1, by omega, rfl, row_at HR.out (by unfold putF; simp; try omega), grown_set' HG.out _⟩
        case measure => simp [intOf]
    · obtain rfl : k = 1 := by omega
      have hcv : (convert 55 9 (.slice (some ⟨w.heap.size, 0, none⟩) 1 1)).run Try.prog wr = .ok (.string (putS 1 n)) wr :=
        (hrow.congr (g := putF 1 n) (fun j hj => by simp [hj])).conv 1 1 (Nat.le_refl _)
      have HR := Lib.hid hrow
      clear hrow
      go_wp2_with fail
      go_ret2
      exact ⟨rfl, below_of_grown HG.out⟩
theorem put1_bad (n : Int) (hn : n < 0 ∨ 256 ≤ n) (w : World) :
    Calls Try.prog 46 #[.int .i64 1, .int .i64 n] w fun e w' => e = .returned (.tuple #[.string ⟨#[]⟩, .bool false]) ∧ w' = w := by
  by_cases h0 : n < 0
  case' neg =>
    have h1 : 256 ≤ n := by omega
    have hz : (n / 256 != 0) = true := by
      have : n / 256 ≠ 0 := by omega
      simp [this]
  all_goals
    clear hn
    go_enter Try.func46, Try.ntmps46
    go_wp2_with fail
    go_ret2
    exact ⟨rfl, rfl⟩

theorem make2 : ∀ w, (Instr.makeSlice 55 (.int .i64 2) (.int .i64 2)).run Try.prog w = .ok (.slice (some ⟨w.heap.size, 0, none⟩) 2 2) (w.alloc (.cells #[.int .u8 0, .int .u8 0] 5)) := fun _ => by kernel_rfl
theorem row2_new (w : World) : Row8 w.heap.size 2 (fun _ => 0) (w.alloc (.cells #[.int .u8 0, .int .u8 0] 5)) := by
  intro j hj
  have h : j = 0 ∨ j = 1 := by omega
  rcases h with rfl | rfl <;> simp [go_sem]

set_option maxRecDepth 100000 in
set_option maxHeartbeats 1000000 in
theorem put2_ok (n : Nat) (hn : n < 65536) (w : World) :
    Calls Try.prog 46 #[.int .i64 2, .int .i64 (n : Int)] w fun e w' => e = .returned (.tuple #[.string (putS 2 n), .bool true]) ∧ Below w.heap.size w w' := by
  have hmk := make2
  have hr := Lib.hid (row2_new w)
  have hg := Lib.hid (World.grownBy_alloc w (.cells #[.int .u8 0, .int .u8 0] 5) (some w.heap.size))
  have hsh : (n : Int) / 65536 = 0 := by omega
  have hz : ((n : Int) / 65536 != 0) = false := by rw [hsh]; rfl
  go_enter Try.func46, Try.ntmps46
  go_wp2_with fail
  clear hmk
  go_loopw [29] (fun i wr => ∃ k : Nat, k ≤ 2 ∧ i = .int .i64 k ∧ Row8 w.heap.size 2 (fun j => if j < k then putF 2 n j else 0) wr ∧ w.grownBy wr (some w.heap.size)) (fun i _ => (2 - intOf i).toNat)
  case atStart => exact ⟨0, by omega, rfl, hr.out.congr (fun j _ => by simp), hg.out⟩
  case round =>
    obtain ⟨k, hk, rfl, hrow, hg2⟩ := hrel
    have HG := Lib.hid hg2
    clear hg2 hr hg
    by_cases hlt : k < 2
    · have hck := (hrow k hlt).1
      have hfk := (hrow k hlt).2
      have HR := Lib.hid ((hrow.set k hlt (putF 2 n k)).congr (g := fun j => if j < k + 1 then putF 2 n j else 0) (fun j _ => by
        by_cases e : j = k
        · simp [e]
        · by_cases e2 : j < k
          · simp [e, e2, show j < k + 1 by omega]
          · simp [e, e2, show ¬ j < k + 1 by omega]))
      clear hrow
      obtain rfl | rfl : k = 0 ∨ k = 1 := by omega
      all_goals
        go_wp2_with fail
        go_roundw
        case rel => first | exact ⟨1, by omega, rfl, row_at HR.out (by unfold putF; simp; try omega), grown_set' HG.out _⟩ | exact ⟨2, by omega, rfl, row_at HR.out (by unfold putF; simp; try omega), grown_set' HG.out _⟩
        case measure => simp [intOf]
    · obtain rfl : k = 2 := by omega
      have hcv : (convert 55 9 (.slice (some ⟨w.heap.size, 0, none⟩) 2 2)).run Try.prog wr = .ok (.string (putS 2 n)) wr :=
        (hrow.congr (g := putF 2 n) (fun j hj => by simp [hj])).conv 2 2 (Nat.le_refl _)
      have HR := Lib.hid hrow
      clear hrow
      go_wp2_with fail
      go_ret2
      exact ⟨rfl, below_of_grown HG.out⟩
theorem put2_bad (n : Int) (hn : n < 0 ∨ 65536 ≤ n) (w : World) :
    Calls Try.prog 46 #[.int .i64 2, .int .i64 n] w fun e w' => e = .returned (.tuple #[.string ⟨#[]⟩, .bool false]) ∧ w' = w := by
  by_cases h0 : n < 0
  case' neg =>
    have h1 : 65536 ≤ n := by omega
    have hz : (n / 65536 != 0) = true := by
      have : n / 65536 ≠ 0 := by omega
      simp [this]
  all_goals
    clear hn
    go_enter Try.func46, Try.ntmps46
    go_wp2_with fail
    go_ret2
    exact ⟨rfl, rfl⟩

theorem make4 : ∀ w, (Instr.makeSlice 55 (.int .i64 4) (.int .i64 4)).run Try.prog w = .ok (.slice (some ⟨w.heap.size, 0, none⟩) 4 4) (w.alloc (.cells #[.int .u8 0, .int .u8 0, .int .u8 0, .int .u8 0] 5)) := fun _ => by kernel_rfl
theorem row4_new (w : World) : Row8 w.heap.size 4 (fun _ => 0) (w.alloc (.cells #[.int .u8 0, .int .u8 0, .int .u8 0, .int .u8 0] 5)) := by
  intro j hj
  have h : j = 0 ∨ j = 1 ∨ j = 2 ∨ j = 3 := by omega
  rcases h with rfl | rfl | rfl | rfl <;> simp [go_sem]

set_option maxRecDepth 100000 in
set_option maxHeartbeats 1000000 in
theorem put4_ok (n : Nat) (hn : n < 4294967296) (w : World) :
    Calls Try.prog 46 #[.int .i64 4, .int .i64 (n : Int)] w fun e w' => e = .returned (.tuple #[.string (putS 4 n), .bool true]) ∧ Below w.heap.size w w' := by
  have hmk := make4
  have hr := Lib.hid (row4_new w)
  have hg := Lib.hid (World.grownBy_alloc w (.cells #[.int .u8 0, .int .u8 0, .int .u8 0, .int .u8 0] 5) (some w.heap.size))
  have hsh : (n : Int) / 4294967296 = 0 := by omega
  have hz : ((n : Int) / 4294967296 != 0) = false := by rw [hsh]; rfl
  go_enter Try.func46, Try.ntmps46
  go_wp2_with fail
  clear hmk
  go_loopw [29] (fun i wr => ∃ k : Nat, k ≤ 4 ∧ i = .int .i64 k ∧ Row8 w.heap.size 4 (fun j => if j < k then putF 4 n j else 0) wr ∧ w.grownBy wr (some w.heap.size)) (fun i _ => (4 - intOf i).toNat)
  case atStart => exact ⟨0, by omega, rfl, hr.out.congr (fun j _ => by simp), hg.out⟩
  case round =>
    obtain ⟨k, hk, rfl, hrow, hg2⟩ := hrel
    have HG := Lib.hid hg2
    clear hg2 hr hg
    by_cases hlt : k < 4
    · have hck := (hrow k hlt).1
      have hfk := (hrow k hlt).2
      have HR := Lib.hid ((hrow.set k hlt (putF 4 n k)).congr (g := fun j => if j < k + 1 then putF 4 n j else 0) (fun j _ => by
        by_cases e : j = k
        · simp [e]
        · by_cases e2 : j < k
          · simp [e, e2, show j < k + 1 by omega]
          · simp [e, e2, show ¬ j < k + 1 by omega]))
      clear hrow
      obtain rfl | rfl | rfl | rfl : k = 0 ∨ k = 1 ∨ k = 2 ∨ k = 3 := by omega
      all_goals
        go_wp2_with fail
        go_roundw
        case rel => first | exact ⟨1, by omega, rfl, row_at HR.out (by unfold putF; simp; try omega), grown_set' HG.out _⟩ | exact ⟨2, by omega, rfl, row_at HR.out (by unfold putF; simp; try omega), grown_set' HG.out _⟩ | exact ⟨3, by omega, rfl, row_at HR.out (by unfold putF; simp; try omega), grown_set' HG.out _⟩ | exact ⟨4, by omega, rfl, row_at HR.out (by unfold putF; simp; try omega), grown_set' HG.out _⟩
        case measure => simp [intOf]
    · obtain rfl : k = 4 := by omega
      have hcv : (convert 55 9 (.slice (some ⟨w.heap.size, 0, none⟩) 4 4)).run Try.prog wr = .ok (.string (putS 4 n)) wr :=
        (hrow.congr (g := putF 4 n) (fun j hj => by simp [hj])).conv 4 4 (Nat.le_refl _)
      have HR := Lib.hid hrow
      clear hrow
      go_wp2_with fail
      go_ret2
      exact ⟨rfl, below_of_grown HG.out⟩
theorem put4_bad (n : Int) (hn : n < 0 ∨ 4294967296 ≤ n) (w : World) :
    Calls Try.prog 46 #[.int .i64 4, .int .i64 n] w fun e w' => e = .returned (.tuple #[.string ⟨#[]⟩, .bool false]) ∧ w' = w := by
  by_cases h0 : n < 0
  case' neg =>
    have h1 : 4294967296 ≤ n := by omega
    have hz : (n / 4294967296 != 0) = true := by
      have : n / 4294967296 ≠ 0 := by omega
      simp [this]
  all_goals
    clear hn
    go_enter Try.func46, Try.ntmps46
    go_wp2_with fail
    go_ret2
    exact ⟨rfl, rfl⟩

end Go.Proofs.Ytlipkffnllmkgaa
