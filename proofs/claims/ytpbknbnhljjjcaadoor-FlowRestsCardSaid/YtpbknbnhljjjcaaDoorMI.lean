/- Texts of this proof, put together: KB KD. -/
import Derived.Test.YtpbknbnhljjjcaaDoorProg
import Derived.WalkKit
import Derived.WalkSpells
import Derived.WalkLawsBesides
import Derived.Outline
import Derived.StillTailTactics
import Derived.Deep.QuietTactic
import Derived.BigQuiet
import Derived.BigRegion
import Derived.RegionTactic
import Derived.ChangeAlike
import Derived.Lib.Hide
import Derived.LoopTactic
import Derived.Below
import Derived.Deep.CutRange
import Derived.Deep.LoopGhost
import Derived.Laws.BytesArg
import Derived.RangeFuncRecord
namespace Go.Proofs.YtpbknbnhljjjcaaDoor
open Go.RowKit

theorem grown_trans {a b c : World} {row : Option Nat} (h : a.grownBy b row) (k : b.grownBy c row) : a.grownBy c row :=
  ⟨k.os.trans h.os, k.tape.trans h.tape, k.output.trans h.output, Nat.le_trans h.size k.size, fun i hi hne => (k.block i (Nat.lt_of_lt_of_le hi h.size) hne).trans (h.block i hi hne)⟩
theorem grown_refl (w : World) (row : Option Nat) : w.grownBy w row := ⟨rfl, rfl, rfl, Nat.le_refl _, fun _ _ _ => rfl⟩
theorem grown_set {w w1 : World} {b : Nat} {o : Nat} (h : w.grownBy w1 (some b)) (v : Value) : w.grownBy ((w1.setCell ⟨b, o, none⟩ v).drew) (some b) :=
  ⟨h.os, h.tape, h.output, by simpa [World.setCell, World.drew] using h.size, fun i hi hne => (Below.heap_setCell w1 ⟨b, o, none⟩ v i (by rintro rfl; exact hne rfl)).trans (h.block i hi hne)⟩
def byteAt (s : ByteArray) (k : Nat) : Int := ((s.data.toList.getD k 0).toNat : Int)
theorem byteAt_eq (s : ByteArray) (k : Nat) (h : k < s.size) : byteAt s k = (s[k].toNat : Int) := by
  have h' : k < s.data.toList.length := by simpa using h
  unfold byteAt
  rw [List.getD_eq_getElem?_getD, List.getElem?_eq_getElem h', Option.getD_some]
  rfl
theorem grown_set' {w w1 : World} {b : Nat} {o : Nat} (h : w.grownBy w1 (some b)) (v : Value) : w.grownBy (w1.setCell ⟨b, o, none⟩ v) (some b) :=
  ⟨h.os, h.tape, h.output, by simpa [World.setCell] using h.size, fun i hi hne => (Below.heap_setCell w1 ⟨b, o, none⟩ v i (by rintro rfl; exact hne rfl)).trans (h.block i hi hne)⟩
theorem below_of_grown {w w' : World} (h : w.grownBy w' (some w.heap.size)) : Below w.heap.size w w' :=
  ⟨h.os, h.tape, h.output, h.size, fun i hi => h.block i hi (fun e => by have e := Option.some.inj e; omega)⟩



/-- n bytes lie in block b. -/
def Row8 (b n : Nat) (f : Nat → Int) (w : World) : Prop := ∀ j, j < n → w.cell? ⟨b, j, none⟩ = some (.int .u8 (f j)) ∧ w.frozen? ⟨b, j, none⟩ = false

theorem Row8.set {b n : Nat} {f : Nat → Int} {w : World} (h : Row8 b n f w) (k : Nat) (hk : k < n) (x : Int) : Row8 b n (fun j => if j = k then x else f j) (w.setCell ⟨b, k, none⟩ (.int .u8 x)) := by
  intro j hj
  obtain ⟨c, g⟩ := h j hj
  refine ⟨?_, by rw [World.frozen?_setCell]; exact g⟩
  dsimp only
  by_cases e : j = k
  · subst e
    rw [if_pos rfl, World.cell?_setCell_same' _ _ _ (by rw [c]; rfl)]
  · rw [if_neg e, World.cell?_setCell_other _ _ _ _ (by simp)]
    exact c
theorem Row8.congr {b n : Nat} {f g : Nat → Int} {w : World} (h : Row8 b n f w) (e : ∀ j, j < n → f j = g j) : Row8 b n g w := fun j hj => by rw [← e j hj]; exact h j hj
theorem Row8.conv {b n : Nat} {f : Nat → Int} {w : World} (h : Row8 b n f w) (m c : Nat) (hm : m ≤ n) : (convert 46 9 (.slice (some ⟨b, 0, none⟩) m c)).run Tryd.prog w = .ok (.string (strOfNums ((List.range m).map f))) w := by
  refine run_convert_bytes_arg w 46 5 Tryd.underlying46 Tryd.underlying5 b 0 m c ((List.range m).map f) (by simp) (fun i hi => ?_) 9 Tryd.underlying9
  rw [Nat.zero_add, (h i (by omega)).1]
  simp [List.getD_eq_getElem?_getD, hi]
theorem make16 : ∀ w, (Instr.makeSlice 46 (.int .i64 16) (.int .i64 16)).run Tryd.prog w = .ok (.slice (some ⟨w.heap.size, 0, none⟩) 16 16) (w.alloc (.cells #[.int .u8 0, .int .u8 0, .int .u8 0, .int .u8 0, .int .u8 0, .int .u8 0, .int .u8 0, .int .u8 0, .int .u8 0, .int .u8 0, .int .u8 0, .int .u8 0, .int .u8 0, .int .u8 0, .int .u8 0, .int .u8 0] 5)) := fun _ => by kernel_rfl
theorem row16_new (w : World) : Row8 w.heap.size 16 (fun _ => 0) (w.alloc (.cells #[.int .u8 0, .int .u8 0, .int .u8 0, .int .u8 0, .int .u8 0, .int .u8 0, .int .u8 0, .int .u8 0, .int .u8 0, .int .u8 0, .int .u8 0, .int .u8 0, .int .u8 0, .int .u8 0, .int .u8 0, .int .u8 0] 5)) := by
  intro j hj
  have h : j = 0 ∨ j = 1 ∨ j = 2 ∨ j = 3 ∨ j = 4 ∨ j = 5 ∨ j = 6 ∨ j = 7 ∨ j = 8 ∨ j = 9 ∨ j = 10 ∨ j = 11 ∨ j = 12 ∨ j = 13 ∨ j = 14 ∨ j = 15 := by omega
  rcases h with rfl | rfl | rfl | rfl | rfl | rfl | rfl | rfl | rfl | rfl | rfl | rfl | rfl | rfl | rfl | rfl <;> simp [go_sem]

/-- The sixteen bytes of a text. -/
def six (s : ByteArray) : ByteArray := strOfNums ((List.range 16).map (byteAt s))


/-- The m bytes of a number, the highest first. -/
def putF (m n j : Nat) : Int := ((n / 2 ^ (8 * (m - 1 - j)) % 256 : Nat) : Int)
def putS (m n : Nat) : ByteArray := strOfNums ((List.range m).map (putF m n))
theorem row8_at {b m k : Nat} {f : Nat → Int} {w : World} {x y : Int} (h : Row8 b m f (w.setCell ⟨b, k, none⟩ (.int .u8 x))) (e : x = y) : Row8 b m f (w.setCell ⟨b, k, none⟩ (.int .u8 y)) := e ▸ h
theorem putS_size (m n : Nat) : (putS m n).size = m := by
  unfold putS
  rw [strOfNums_size]
  simp

theorem make1 : ∀ w, (Instr.makeSlice 46 (.int .i64 1) (.int .i64 1)).run Tryd.prog w = .ok (.slice (some ⟨w.heap.size, 0, none⟩) 1 1) (w.alloc (.cells #[.int .u8 0] 5)) := fun _ => by kernel_rfl
theorem row1_new (w : World) : Row8 w.heap.size 1 (fun _ => 0) (w.alloc (.cells #[.int .u8 0] 5)) := by
  intro j hj
  have h : j = 0 := by omega
  subst h
  simp [go_sem]
set_option maxRecDepth 100000 in
set_option maxHeartbeats 1000000 in
theorem put1_ok (n : Nat) (hn : n < 256) (w : World) :
    Calls Tryd.prog 54 #[.int .i64 1, .int .i64 (n : Int)] w fun e w' => e = .returned (.tuple #[.string (putS 1 n), .bool true]) ∧ Below w.heap.size w w' := by
  have hmk := make1
  have hr := Lib.hid (row1_new w)
  have hg := Lib.hid (World.grownBy_alloc w (.cells #[.int .u8 0] 5) (some w.heap.size))
  have hsh : (n : Int) / 256 = 0 := by omega
  have hz : ((n : Int) / 256 != 0) = false := by rw [hsh]; rfl
  go_enter Tryd.func54, Tryd.ntmps54
  go_wp2_with fail
  clear hmk
  go_loopw [29] (fun i wr => ∃ k : Nat, k ≤ 1 ∧ i = .int .i64 k ∧ Row8 w.heap.size 1 (fun j => if j < k then putF 1 n j else 0) wr ∧ w.grownBy wr (some w.heap.size)) (fun i _ => (1 - intOf i).toNat)
  case atStart => exact ⟨0, by omega, rfl, hr.out.congr (fun j _ => by simp), hg.out⟩
  case round =>
    obtain ⟨k, hk, rfl, hrow, hg2⟩ := hrel
    have HG := Lib.hid hg2
    clear hg2 hr hg
    by_cases hlt : k < 1
    · have hck := (hrow k hlt).1
      have hfk := (hrow k hlt).2
      have HR := Lib.hid ((hrow.set k hlt (putF 1 n k)).congr (g := fun j => if j < k + 1 then putF 1 n j else 0) (fun j _ => by
        by_cases e : j = k
        · simp [e]
        · by_cases e2 : j < k
          · simp [e, e2, show j < k + 1 by omega]
          · simp [e, e2, show ¬ j < k + 1 by omega]))
      clear hrow
      obtain rfl : k = 0 := by omega
      all_goals
        go_wp2_with fail
        go_roundw
        case rel => first | exact ⟨1, by omega, rfl, row8_at HR.out (by unfold putF; simp; try omega), grown_set' HG.out _⟩
        case measure => simp [intOf]
    · obtain rfl : k = 1 := by omega
      have hcv : (convert 46 9 (.slice (some ⟨w.heap.size, 0, none⟩) 1 1)).run Tryd.prog wr = .ok (.string (putS 1 n)) wr :=
        (hrow.congr (g := putF 1 n) (fun j hj => by simp [hj])).conv 1 1 (Nat.le_refl _)
      have HR := Lib.hid hrow
      clear hrow
      go_wp2_with fail
      go_ret2
      exact ⟨rfl, below_of_grown HG.out⟩
theorem put1_bad (n : Int) (hn : n < 0 ∨ 256 ≤ n) (w : World) :
    Calls Tryd.prog 54 #[.int .i64 1, .int .i64 n] w fun e w' => e = .returned (.tuple #[.string ⟨#[]⟩, .bool false]) ∧ w' = w := by
  by_cases h0 : n < 0
  case' neg =>
    have h1 : 256 ≤ n := by omega
    have hz : (n / 256 != 0) = true := by
      have : n / 256 ≠ 0 := by omega
      simp [this]
  all_goals
    clear hn
    go_enter Tryd.func54, Tryd.ntmps54
    go_wp2_with fail
    go_ret2
    exact ⟨rfl, rfl⟩

theorem make2 : ∀ w, (Instr.makeSlice 46 (.int .i64 2) (.int .i64 2)).run Tryd.prog w = .ok (.slice (some ⟨w.heap.size, 0, none⟩) 2 2) (w.alloc (.cells #[.int .u8 0, .int .u8 0] 5)) := fun _ => by kernel_rfl
theorem row2_new (w : World) : Row8 w.heap.size 2 (fun _ => 0) (w.alloc (.cells #[.int .u8 0, .int .u8 0] 5)) := by
  intro j hj
  have h : j = 0 ∨ j = 1 := by omega
  rcases h with rfl | rfl <;> simp [go_sem]

set_option maxRecDepth 100000 in
set_option maxHeartbeats 1000000 in
theorem put2_ok (n : Nat) (hn : n < 65536) (w : World) :
    Calls Tryd.prog 54 #[.int .i64 2, .int .i64 (n : Int)] w fun e w' => e = .returned (.tuple #[.string (putS 2 n), .bool true]) ∧ Below w.heap.size w w' := by
  have hmk := make2
  have hr := Lib.hid (row2_new w)
  have hg := Lib.hid (World.grownBy_alloc w (.cells #[.int .u8 0, .int .u8 0] 5) (some w.heap.size))
  have hsh : (n : Int) / 65536 = 0 := by omega
  have hz : ((n : Int) / 65536 != 0) = false := by rw [hsh]; rfl
  go_enter Tryd.func54, Tryd.ntmps54
  go_wp2_with fail
  clear hmk
  go_loopw [29] (fun i wr => ∃ k : Nat, k ≤ 2 ∧ i = .int .i64 k ∧ Row8 w.heap.size 2 (fun j => if j < k then putF 2 n j else 0) wr ∧ w.grownBy wr (some w.heap.size)) (fun i _ => (2 - intOf i).toNat)
  case atStart => exact ⟨0, by omega, rfl, hr.out.congr (fun j _ => by simp), hg.out⟩
  case round =>
    obtain ⟨k, hk, rfl, hrow, hg2⟩ := hrel
    have HG := Lib.hid hg2
    clear hg2 hr hg
    by_cases hlt : k < 2
    · have hck := (hrow k hlt).1
      have hfk := (hrow k hlt).2
      have HR := Lib.hid ((hrow.set k hlt (putF 2 n k)).congr (g := fun j => if j < k + 1 then putF 2 n j else 0) (fun j _ => by
        by_cases e : j = k
        · simp [e]
        · by_cases e2 : j < k
          · simp [e, e2, show j < k + 1 by omega]
          · simp [e, e2, show ¬ j < k + 1 by omega]))
      clear hrow
      obtain rfl | rfl : k = 0 ∨ k = 1 := by omega
      all_goals
        go_wp2_with fail
        go_roundw
        case rel => first | exact ⟨1, by omega, rfl, row8_at HR.out (by unfold putF; simp; try omega), grown_set' HG.out _⟩ | exact ⟨2, by omega, rfl, row8_at HR.out (by unfold putF; simp; try omega), grown_set' HG.out _⟩
        case measure => simp [intOf]
    · obtain rfl : k = 2 := by omega
      have hcv : (convert 46 9 (.slice (some ⟨w.heap.size, 0, none⟩) 2 2)).run Tryd.prog wr = .ok (.string (putS 2 n)) wr :=
        (hrow.congr (g := putF 2 n) (fun j hj => by simp [hj])).conv 2 2 (Nat.le_refl _)
      have HR := Lib.hid hrow
      clear hrow
      go_wp2_with fail
      go_ret2
      exact ⟨rfl, below_of_grown HG.out⟩
theorem put2_bad (n : Int) (hn : n < 0 ∨ 65536 ≤ n) (w : World) :
    Calls Tryd.prog 54 #[.int .i64 2, .int .i64 n] w fun e w' => e = .returned (.tuple #[.string ⟨#[]⟩, .bool false]) ∧ w' = w := by
  by_cases h0 : n < 0
  case' neg =>
    have h1 : 65536 ≤ n := by omega
    have hz : (n / 65536 != 0) = true := by
      have : n / 65536 ≠ 0 := by omega
      simp [this]
  all_goals
    clear hn
    go_enter Tryd.func54, Tryd.ntmps54
    go_wp2_with fail
    go_ret2
    exact ⟨rfl, rfl⟩

theorem make4 : ∀ w, (Instr.makeSlice 46 (.int .i64 4) (.int .i64 4)).run Tryd.prog w = .ok (.slice (some ⟨w.heap.size, 0, none⟩) 4 4) (w.alloc (.cells #[.int .u8 0, .int .u8 0, .int .u8 0, .int .u8 0] 5)) := fun _ => by kernel_rfl
theorem row4_new (w : World) : Row8 w.heap.size 4 (fun _ => 0) (w.alloc (.cells #[.int .u8 0, .int .u8 0, .int .u8 0, .int .u8 0] 5)) := by
  intro j hj
  have h : j = 0 ∨ j = 1 ∨ j = 2 ∨ j = 3 := by omega
  rcases h with rfl | rfl | rfl | rfl <;> simp [go_sem]

set_option maxRecDepth 100000 in
set_option maxHeartbeats 1000000 in
theorem put4_ok (n : Nat) (hn : n < 4294967296) (w : World) :
    Calls Tryd.prog 54 #[.int .i64 4, .int .i64 (n : Int)] w fun e w' => e = .returned (.tuple #[.string (putS 4 n), .bool true]) ∧ Below w.heap.size w w' := by
  have hmk := make4
  have hr := Lib.hid (row4_new w)
  have hg := Lib.hid (World.grownBy_alloc w (.cells #[.int .u8 0, .int .u8 0, .int .u8 0, .int .u8 0] 5) (some w.heap.size))
  have hsh : (n : Int) / 4294967296 = 0 := by omega
  have hz : ((n : Int) / 4294967296 != 0) = false := by rw [hsh]; rfl
  go_enter Tryd.func54, Tryd.ntmps54
  go_wp2_with fail
  clear hmk
  go_loopw [29] (fun i wr => ∃ k : Nat, k ≤ 4 ∧ i = .int .i64 k ∧ Row8 w.heap.size 4 (fun j => if j < k then putF 4 n j else 0) wr ∧ w.grownBy wr (some w.heap.size)) (fun i _ => (4 - intOf i).toNat)
  case atStart => exact ⟨0, by omega, rfl, hr.out.congr (fun j _ => by simp), hg.out⟩
  case round =>
    obtain ⟨k, hk, rfl, hrow, hg2⟩ := hrel
    have HG := Lib.hid hg2
    clear hg2 hr hg
    by_cases hlt : k < 4
    · have hck := (hrow k hlt).1
      have hfk := (hrow k hlt).2
      have HR := Lib.hid ((hrow.set k hlt (putF 4 n k)).congr (g := fun j => if j < k + 1 then putF 4 n j else 0) (fun j _ => by
        by_cases e : j = k
        · simp [e]
        · by_cases e2 : j < k
          · simp [e, e2, show j < k + 1 by omega]
          · simp [e, e2, show ¬ j < k + 1 by omega]))
      clear hrow
      obtain rfl | rfl | rfl | rfl : k = 0 ∨ k = 1 ∨ k = 2 ∨ k = 3 := by omega
      all_goals
        go_wp2_with fail
        go_roundw
        case rel => first | exact ⟨1, by omega, rfl, row8_at HR.out (by unfold putF; simp; try omega), grown_set' HG.out _⟩ | exact ⟨2, by omega, rfl, row8_at HR.out (by unfold putF; simp; try omega), grown_set' HG.out _⟩ | exact ⟨3, by omega, rfl, row8_at HR.out (by unfold putF; simp; try omega), grown_set' HG.out _⟩ | exact ⟨4, by omega, rfl, row8_at HR.out (by unfold putF; simp; try omega), grown_set' HG.out _⟩
        case measure => simp [intOf]
    · obtain rfl : k = 4 := by omega
      have hcv : (convert 46 9 (.slice (some ⟨w.heap.size, 0, none⟩) 4 4)).run Tryd.prog wr = .ok (.string (putS 4 n)) wr :=
        (hrow.congr (g := putF 4 n) (fun j hj => by simp [hj])).conv 4 4 (Nat.le_refl _)
      have HR := Lib.hid hrow
      clear hrow
      go_wp2_with fail
      go_ret2
      exact ⟨rfl, below_of_grown HG.out⟩
theorem put4_bad (n : Int) (hn : n < 0 ∨ 4294967296 ≤ n) (w : World) :
    Calls Tryd.prog 54 #[.int .i64 4, .int .i64 n] w fun e w' => e = .returned (.tuple #[.string ⟨#[]⟩, .bool false]) ∧ w' = w := by
  by_cases h0 : n < 0
  case' neg =>
    have h1 : 4294967296 ≤ n := by omega
    have hz : (n / 4294967296 != 0) = true := by
      have : n / 4294967296 ≠ 0 := by omega
      simp [this]
  all_goals
    clear hn
    go_enter Tryd.func54, Tryd.ntmps54
    go_wp2_with fail
    go_ret2
    exact ⟨rfl, rfl⟩


/-- The parts of a key, and what stands ahead of the j-th of them. -/
def keyN (p s d x y : Nat) : Nat → Nat | 0 => p | 1 => s | 2 => d | 3 => x | _ => y
def keyM : Nat → Nat | 0 => 1 | 1 => 4 | 2 => 4 | _ => 2
def keyTo (p s d x y : Nat) : Nat → ByteArray
  | 0 => ⟨#[]⟩
  | j + 1 => keyTo p s d x y j ++ putS (keyM j) (keyN p s d x y j)
def keyS (p s d x y : Nat) : ByteArray := keyTo p s d x y 5

theorem keyTo_size (p s d x y : Nat) : ∀ j, (keyTo p s d x y j).size ≤ 4 * j
  | 0 => Nat.le_refl _
  | j + 1 => by
    have h1 := keyTo_size p s d x y j
    have h2 : keyM j ≤ 4 := by unfold keyM; split <;> omega
    unfold keyTo
    rw [ByteArray.size_append, putS_size]
    omega
theorem put_next {p s d x y j : Nat} {A : ByteArray} (h : keyTo p s d x y j = A) : A ++ putS (keyM j) (keyN p s d x y j) = keyTo p s d x y (j + 1) := by rw [← h]; rfl
theorem boxN {w wx : World} {u v : Value} {t : TypeId} (hB : Below (w.alloc (.cells #[u, v] t)).heap.size (w.alloc (.cells #[u, v] t)) wx) : Below w.heap.size w wx :=
  ((Below.refl _ w).alloc (Nat.le_refl _) _).trans (hB.mono (by simp))
theorem stepB {w0 w w' : World} (h : Below w0.heap.size w0 w) (hb : Below w.heap.size w w') : Below w0.heap.size w0 w' := h.trans (hb.mono h.size)
def keyRow (p s d x y : Nat) : Obj := .cells #[.int .i64 1, .int .i64 p, .int .i64 4, .int .i64 s, .int .i64 4, .int .i64 d, .int .i64 2, .int .i64 x, .int .i64 2, .int .i64 y] 128 (0, 0)

set_option maxRecDepth 100000 in
set_option maxHeartbeats 1000000 in
theorem key_ok (p s d x y : Nat) (hp : p < 256) (hs : s < 4294967296) (hd : d < 4294967296) (hx : x < 65536) (hy : y < 65536) (w : World) :
    Calls Tryd.prog 32 #[.agg #[.int .i64 (p : Int), .int .u32 (s : Int), .int .u32 (d : Int), .int .i64 (x : Int), .int .i64 (y : Int)]] w fun e w' => e = .returned (.tuple #[.string (keyS p s d x y), .bool true]) ∧ Below w.heap.size w w' := by
  have HP0 := Lib.hid (put1_ok p hp)
  have HP1 := Lib.hid (put4_ok s hs)
  have HP2 := Lib.hid (put4_ok d hd)
  have HP3 := Lib.hid (put2_ok x hx)
  have HP4 := Lib.hid (put2_ok y hy)
  go_enter Tryd.func32, Tryd.ntmps32
  go_wp2_with fail
  go_loopw [28, 4] (fun vi vo wr => ∃ k : Nat, k ≤ 5 ∧ vi = .int .i64 (k : Int) ∧ vo = .string (keyTo p s d x y k) ∧ Below w.heap.size w wr ∧ wr.heap[w.heap.size + 1]? = some (keyRow p s d x y)) (fun vi _ _ => 5 - (intOf vi).toNat)
  case atStart =>
    refine ⟨0, Nat.zero_le _, rfl, rfl, ((Below.refl _ _).alloc (Nat.le_refl _) _).alloc (by simp) _, ?_⟩
    have h := World.alloc_heap_new (w.alloc (.cells #[.int .i64 (p : Int), .int .u32 (s : Int), .int .u32 (d : Int), .int .i64 (x : Int), .int .i64 (y : Int)] 41)) (.cells #[.int .i64 1, .int .i64 p, .int .i64 4, .int .i64 s, .int .i64 4, .int .i64 d, .int .i64 2, .int .i64 x, .int .i64 2, .int .i64 y] 128)
    simp only [World.size_alloc] at h
    exact h
  case round =>
    obtain ⟨k, hk, rfl, rfl, hB, hrow⟩ := hrel
    have HB := Lib.hid hB
    have HROW := Lib.hid hrow
    clear hB
    have hsz := keyTo_size p s d x y k
    obtain ⟨A, hA⟩ : ∃ A, keyTo p s d x y k = A := ⟨_, rfl⟩
    have HN := Lib.hid (put_next hA)
    rw [hA] at hsz
    have hszI : (A.size : Int) ≤ 20 := by omega
    rw [hA]
    by_cases hlt : k < 5
    · clear hA
      obtain rfl | rfl | rfl | rfl | rfl : k = 0 ∨ k = 1 ∨ k = 2 ∨ k = 3 ∨ k = 4 := by omega
      case' inl =>
        have HP := HP0
        have hps : (putS 1 p).size = 1 := putS_size _ _
        have c0 : wr.cell? ⟨w.heap.size + 1, 0, none⟩ = some (.int .i64 1) := by simp [World.cell?, hrow, keyRow]
        have c1 : wr.cell? ⟨w.heap.size + 1, 1, none⟩ = some (.int .i64 p) := by simp [World.cell?, hrow, keyRow]
        have HNN := Lib.hid (show A ++ putS 1 p = _ from HN.out)
        generalize putS 1 p = T at *
      case' inr.inl =>
        have HP := HP1
        have hps : (putS 4 s).size = 4 := putS_size _ _
        have c0 : wr.cell? ⟨w.heap.size + 1, 2, none⟩ = some (.int .i64 4) := by simp [World.cell?, hrow, keyRow]
        have c1 : wr.cell? ⟨w.heap.size + 1, 3, none⟩ = some (.int .i64 s) := by simp [World.cell?, hrow, keyRow]
        have HNN := Lib.hid (show A ++ putS 4 s = _ from HN.out)
        generalize putS 4 s = T at *
      case' inr.inr.inl =>
        have HP := HP2
        have hps : (putS 4 d).size = 4 := putS_size _ _
        have c0 : wr.cell? ⟨w.heap.size + 1, 4, none⟩ = some (.int .i64 4) := by simp [World.cell?, hrow, keyRow]
        have c1 : wr.cell? ⟨w.heap.size + 1, 5, none⟩ = some (.int .i64 d) := by simp [World.cell?, hrow, keyRow]
        have HNN := Lib.hid (show A ++ putS 4 d = _ from HN.out)
        generalize putS 4 d = T at *
      case' inr.inr.inr.inl =>
        have HP := HP3
        have hps : (putS 2 x).size = 2 := putS_size _ _
        have c0 : wr.cell? ⟨w.heap.size + 1, 6, none⟩ = some (.int .i64 2) := by simp [World.cell?, hrow, keyRow]
        have c1 : wr.cell? ⟨w.heap.size + 1, 7, none⟩ = some (.int .i64 x) := by simp [World.cell?, hrow, keyRow]
        have HNN := Lib.hid (show A ++ putS 2 x = _ from HN.out)
        generalize putS 2 x = T at *
      case' inr.inr.inr.inr =>
        have HP := HP4
        have hps : (putS 2 y).size = 2 := putS_size _ _
        have c0 : wr.cell? ⟨w.heap.size + 1, 8, none⟩ = some (.int .i64 2) := by simp [World.cell?, hrow, keyRow]
        have c1 : wr.cell? ⟨w.heap.size + 1, 9, none⟩ = some (.int .i64 y) := by simp [World.cell?, hrow, keyRow]
        have HNN := Lib.hid (show A ++ putS 2 y = _ from HN.out)
        generalize putS 2 y = T at *
      all_goals
        clear HN hrow
        go_wp2_with (go_at_call 54; refine (HP.out _).mono ?_; rintro e wx ⟨rfl, hb⟩; replace hb := boxN hb; replace HROW := Lib.hid ((hb.block _ (Array.getElem?_eq_some_iff.1 HROW.out).1).trans HROW.out); replace HB := Lib.hid (stepB HB.out hb); clear hb)
        first | exact ⟨⟨1, by omega, rfl, congrArg Value.string HNN.out, HB.out, HROW.out⟩, by simp [intOf]⟩ | exact ⟨⟨2, by omega, rfl, congrArg Value.string HNN.out, HB.out, HROW.out⟩, by simp [intOf]⟩ | exact ⟨⟨3, by omega, rfl, congrArg Value.string HNN.out, HB.out, HROW.out⟩, by simp [intOf]⟩ | exact ⟨⟨4, by omega, rfl, congrArg Value.string HNN.out, HB.out, HROW.out⟩, by simp [intOf]⟩ | exact ⟨⟨5, by omega, rfl, congrArg Value.string HNN.out, HB.out, HROW.out⟩, by simp [intOf]⟩
    · obtain rfl : k = 5 := by omega
      have HNN := Lib.hid (show keyS p s d x y = A from hA)
      clear hA
      go_wp2_with fail
      go_ret2
      exact ⟨by rw [HNN.out]; rfl, HB.out⟩
end Go.Proofs.YtpbknbnhljjjcaaDoor

namespace Go.Proofs.YtpbknbnhljjjcaaDoor
open Go.RowKit

/-- What Put answers, whatever the number. -/
def PutSays (m : Int) (n : Int) (T : ByteArray) (ok : Bool) : Prop := T.size ≤ 4 ∧ (ok = false → T = ⟨#[]⟩) ∧ ∀ w, Calls Tryd.prog 54 #[.int .i64 m, .int .i64 n] w fun e w' => e = .returned (.tuple #[.string T, .bool ok]) ∧ Below w.heap.size w w'
theorem put1_any (n : Int) : ∃ T ok, PutSays 1 n T ok ∧ (ok = true → 0 ≤ n ∧ n < 256) := by
  by_cases h : 0 ≤ n ∧ n < 256
  · obtain ⟨k, rfl⟩ : ∃ k : Nat, n = (k : Int) := ⟨n.toNat, by omega⟩
    exact ⟨putS 1 k, true, ⟨by rw [putS_size]; omega, (fun e => Bool.noConfusion e), fun w => put1_ok k (by omega) w⟩, fun _ => h⟩
  · refine ⟨⟨#[]⟩, false, ⟨Nat.zero_le _, fun _ => rfl, fun w => (put1_bad n (by omega) w).mono ?_⟩, (fun e => Bool.noConfusion e)⟩
    rintro e w' ⟨he, rfl⟩
    exact ⟨he, Below.refl _ _⟩
theorem put2_any (n : Int) : ∃ T ok, PutSays 2 n T ok ∧ (ok = true → 0 ≤ n ∧ n < 65536) := by
  by_cases h : 0 ≤ n ∧ n < 65536
  · obtain ⟨k, rfl⟩ : ∃ k : Nat, n = (k : Int) := ⟨n.toNat, by omega⟩
    exact ⟨putS 2 k, true, ⟨by rw [putS_size]; omega, (fun e => Bool.noConfusion e), fun w => put2_ok k (by omega) w⟩, fun _ => h⟩
  · refine ⟨⟨#[]⟩, false, ⟨Nat.zero_le _, fun _ => rfl, fun w => (put2_bad n (by omega) w).mono ?_⟩, (fun e => Bool.noConfusion e)⟩
    rintro e w' ⟨he, rfl⟩
    exact ⟨he, Below.refl _ _⟩
theorem put4_any (n : Nat) (hn : n < 4294967296) : ∃ T ok, PutSays 4 (n : Int) T ok ∧ ok = true := ⟨putS 4 n, true, ⟨by rw [putS_size]; omega, (fun e => Bool.noConfusion e), fun w => put4_ok n hn w⟩, rfl⟩
def keyRowI (p s d x y : Int) : Obj := .cells #[.int .i64 1, .int .i64 p, .int .i64 4, .int .i64 s, .int .i64 4, .int .i64 d, .int .i64 2, .int .i64 x, .int .i64 2, .int .i64 y] 128 (0, 0)

set_option maxRecDepth 100000 in
set_option maxHeartbeats 1000000 in
theorem key_bad (p x y : Int) (s d : Nat) (hs : s < 4294967296) (hd : d < 4294967296) (hbad : ¬ ((0 ≤ p ∧ p < 256) ∧ (0 ≤ x ∧ x < 65536) ∧ 0 ≤ y ∧ y < 65536)) (w : World) :
    Calls Tryd.prog 32 #[.agg #[.int .i64 p, .int .u32 (s : Int), .int .u32 (d : Int), .int .i64 x, .int .i64 y]] w fun e w' => e = .returned (.tuple #[.string ⟨#[]⟩, .bool false]) ∧ Below w.heap.size w w' := by
  obtain ⟨T0, o0, P0, g0⟩ := put1_any p
  obtain ⟨T1, o1, P1, g1⟩ := put4_any s hs
  obtain ⟨T2, o2, P2, g2⟩ := put4_any d hd
  obtain ⟨T3, o3, P3, g3⟩ := put2_any x
  obtain ⟨T4, o4, P4, g4⟩ := put2_any y
  have HP0 := Lib.hid P0
  have HP1 := Lib.hid P1
  have HP2 := Lib.hid P2
  have HP3 := Lib.hid P3
  have HP4 := Lib.hid P4
  have HG := Lib.hid (show ¬ (o0 = true ∧ o3 = true ∧ o4 = true) from fun ⟨h0, h3, h4⟩ => hbad ⟨g0 h0, g3 h3, g4 h4⟩)
  subst g1 g2
  clear P0 P1 P2 P3 P4 g0 g3 g4 hbad
  go_enter Tryd.func32, Tryd.ntmps32
  go_wp2_with fail
  go_loopw [28, 4] (fun vi vo wr => ∃ (k : Nat) (T : ByteArray), k ≤ 5 ∧ vi = .int .i64 (k : Int) ∧ vo = .string T ∧ T.size ≤ 4 * k ∧ Below w.heap.size w wr ∧ wr.heap[w.heap.size + 1]? = some (keyRowI p s d x y) ∧ ((1 ≤ k → o0 = true) ∧ (4 ≤ k → o3 = true) ∧ (5 ≤ k → o4 = true))) (fun vi _ _ => 5 - (intOf vi).toNat)
  case atStart =>
    refine ⟨0, ⟨#[]⟩, Nat.zero_le _, rfl, rfl, Nat.zero_le _, ((Below.refl _ _).alloc (Nat.le_refl _) _).alloc (by simp) _, ?_, fun h => by omega, fun h => by omega, fun h => by omega⟩
    have h := World.alloc_heap_new (w.alloc (.cells #[.int .i64 p, .int .u32 (s : Int), .int .u32 (d : Int), .int .i64 x, .int .i64 y] 41)) (.cells #[.int .i64 1, .int .i64 p, .int .i64 4, .int .i64 (s : Int), .int .i64 4, .int .i64 (d : Int), .int .i64 2, .int .i64 x, .int .i64 2, .int .i64 y] 128)
    simp only [World.size_alloc] at h
    exact h
  case round =>
    obtain ⟨k, A, hk, rfl, rfl, hsz, hB, hrow, hg⟩ := hrel
    have HB := Lib.hid hB
    have HROW := Lib.hid hrow
    have HGG := Lib.hid hg
    clear hB hg
    have hszI : (A.size : Int) ≤ 20 := by omega
    by_cases hlt : k < 5
    · obtain rfl | rfl | rfl | rfl | rfl : k = 0 ∨ k = 1 ∨ k = 2 ∨ k = 3 ∨ k = 4 := by omega
      case' inl =>
        have c0 : wr.cell? ⟨w.heap.size + 1, 0, none⟩ = some (.int .i64 1) := by simp [World.cell?, hrow, keyRowI]
        have c1 : wr.cell? ⟨w.heap.size + 1, 1, none⟩ = some (.int .i64 p) := by simp [World.cell?, hrow, keyRowI]
        have HP := HP0
        generalize T0 = T at *
        cases o0
      case' inr.inl =>
        have c0 : wr.cell? ⟨w.heap.size + 1, 2, none⟩ = some (.int .i64 4) := by simp [World.cell?, hrow, keyRowI]
        have c1 : wr.cell? ⟨w.heap.size + 1, 3, none⟩ = some (.int .i64 (s : Int)) := by simp [World.cell?, hrow, keyRowI]
        have HP := HP1
        generalize T1 = T at *
      case' inr.inr.inl =>
        have c0 : wr.cell? ⟨w.heap.size + 1, 4, none⟩ = some (.int .i64 4) := by simp [World.cell?, hrow, keyRowI]
        have c1 : wr.cell? ⟨w.heap.size + 1, 5, none⟩ = some (.int .i64 (d : Int)) := by simp [World.cell?, hrow, keyRowI]
        have HP := HP2
        generalize T2 = T at *
      case' inr.inr.inr.inl =>
        have c0 : wr.cell? ⟨w.heap.size + 1, 6, none⟩ = some (.int .i64 2) := by simp [World.cell?, hrow, keyRowI]
        have c1 : wr.cell? ⟨w.heap.size + 1, 7, none⟩ = some (.int .i64 x) := by simp [World.cell?, hrow, keyRowI]
        have HP := HP3
        generalize T3 = T at *
        cases o3
      case' inr.inr.inr.inr =>
        have c0 : wr.cell? ⟨w.heap.size + 1, 8, none⟩ = some (.int .i64 2) := by simp [World.cell?, hrow, keyRowI]
        have c1 : wr.cell? ⟨w.heap.size + 1, 9, none⟩ = some (.int .i64 y) := by simp [World.cell?, hrow, keyRowI]
        have HP := HP4
        generalize T4 = T at *
        cases o4
      all_goals
        clear hrow
        have hT4 := HP.out.1
        have hTI : (T.size : Int) ≤ 4 := by omega
      all_goals
        go_wp2_with (go_at_call 54; refine (HP.out.2.2 _).mono ?_; rintro e wx ⟨rfl, hb⟩; replace hb := boxN hb; replace HROW := Lib.hid ((hb.block _ (Array.getElem?_eq_some_iff.1 HROW.out).1).trans HROW.out); replace HB := Lib.hid (stepB HB.out hb); clear hb)
        first
          | (go_ret2; exact ⟨rfl, HB.out⟩)
          | exact ⟨⟨1, _, by omega, rfl, rfl, by rw [ByteArray.size_append]; omega, HB.out, HROW.out, (fun _ => by first | trivial | rfl), fun h => by omega, fun h => by omega⟩, by simp [intOf]⟩
          | exact ⟨⟨2, _, by omega, rfl, rfl, by rw [ByteArray.size_append]; omega, HB.out, HROW.out, fun _ => HGG.out.1 (by omega), fun h => by omega, fun h => by omega⟩, by simp [intOf]⟩
          | exact ⟨⟨3, _, by omega, rfl, rfl, by rw [ByteArray.size_append]; omega, HB.out, HROW.out, fun _ => HGG.out.1 (by omega), fun h => by omega, fun h => by omega⟩, by simp [intOf]⟩
          | exact ⟨⟨4, _, by omega, rfl, rfl, by rw [ByteArray.size_append]; omega, HB.out, HROW.out, fun _ => HGG.out.1 (by omega), (fun _ => by first | trivial | rfl), fun h => by omega⟩, by simp [intOf]⟩
          | exact ⟨⟨5, _, by omega, rfl, rfl, by rw [ByteArray.size_append]; omega, HB.out, HROW.out, fun _ => HGG.out.1 (by omega), fun _ => HGG.out.2.1 (by omega), (fun _ => by first | trivial | rfl)⟩, by simp [intOf]⟩
    · obtain rfl : k = 5 := by omega
      exact (HG.out ⟨HGG.out.1 (by omega), HGG.out.2.1 (by omega), HGG.out.2.2 (by omega)⟩).elim

end Go.Proofs.YtpbknbnhljjjcaaDoor
