import Derived.Test.YtbahcpejippcjaaDoorK3
import Derived.Carry
import Derived.Lib.ItoaLen
namespace Go.Proofs.YtbahcpejippcjaaDoor
open Go.RowKit Go.Shelf

/-- The number at place j of an address, written. -/
def part (a j : Nat) : ByteArray := ⟨(Lib.itoa ((a / 2 ^ (8 * (3 - j)) % 256 : Nat) : Int)).toArray⟩
def rowT (a i : Nat) : Array Value := ((List.range 4).map fun j => Value.string (if j < i then part a j else ByteArray.empty)).toArray
/-- The text of an address. -/
def textOf (a : Nat) : List UInt8 := Lib.join ((List.range 4).map fun j => (part a j).data.toList) [46]

theorem and255 (x : Nat) (hx : x < 4294967296) : bits .and .u32 (x : Int) 255 = ((x % 256 : Nat) : Int) := by
  have := u32_and_nat x 255 hx (by omega)
  rw [show (255 : Nat) = 2 ^ 8 - 1 from rfl, Nat.and_two_pow_sub_one_eq_mod] at this
  exact this

set_option maxHeartbeats 1000000 in
theorem info9 : (Tryd.prog.info? 9).map (fun i => (i.zero, i.size, i.bytes)) = some (some (.string ByteArray.empty), 1, 16) := by kernel_rfl

theorem row_set {a i b : Nat} {w : World} (hi : i < 4) (h : w.heap[b]? = some (.cells (rowT a i) 9 (0, 0))) : (w.setCell ⟨b, i, none⟩ (.string (part a i))).heap[b]? = some (.cells (rowT a (i + 1)) 9 (0, 0)) := by
  have e : (rowT a i).setIfInBounds i (.string (part a i)) = rowT a (i + 1) := by
    have h4 : i = 0 ∨ i = 1 ∨ i = 2 ∨ i = 3 := by omega
    rcases h4 with rfl | rfl | rfl | rfl <;> simp [rowT, List.range_succ]
  simp [World.setCell, Array.getElem?_modify, h, e]

theorem part_le (a j : Nat) : (part a j).data.toList.length ≤ 21 := by
  unfold part
  have := Lib.itoa_length_le ((a / 2 ^ (8 * (3 - j)) % 256 : Nat) : Int) (by omega) (by have := Nat.mod_lt (a / 2 ^ (8 * (3 - j))) (show 0 < 256 by omega); omega)
  simpa using this
theorem text_le (a : Nat) : (textOf a).length ≤ 100 := by
  have h0 := part_le a 0
  have h1 := part_le a 1
  have h2 := part_le a 2
  have h3 := part_le a 3
  simp only [textOf, Lib.join, List.range_succ, List.range_zero, List.nil_append, List.map_cons, List.map_nil, List.cons_append, List.intercalate, List.intersperse, List.flatten_cons, List.flatten_nil, List.length_append, List.length_cons, List.length_nil]
  omega

theorem join_calls {a : Nat} {w wr : World} (_ha : a < 4294967296) (h : wr.heap[w.heap.size]? = some (.cells (rowT a 4) 9 (0, 0))) :
    Calls Tryd.prog 28 #[.slice (some ⟨w.heap.size, 0, none⟩) 4 4, .string ⟨#[46]⟩] wr fun e w' => e = .returned (.string ⟨(textOf a).toArray⟩) ∧ Below wr.heap.size wr w' := by
  have e : (((List.range 4).map (part a)).map (·.data.toList)) = (List.range 4).map fun j => (part a j).data.toList := by simp
  have := Tryd.strings_Join w.heap.size 0 4 ((List.range 4).map (part a)) ⟨#[46]⟩ wr (fun j x hx => by
      have hj : j < 4 := by
        have := (List.getElem?_eq_some_iff.1 hx).1
        simpa using this
      have h4 : j = 0 ∨ j = 1 ∨ j = 2 ∨ j = 3 := by omega
      rcases h4 with rfl | rfl | rfl | rfl <;> (simp [List.range_succ] at hx; subst hx; simp [World.cell?, h, rowT])) (Array.getElem?_eq_some_iff.1 h).1 (by simp) (by simp) (by rw [e]; exact Nat.le_trans (text_le a) (by omega))
  rw [e] at this
  simpa [textOf] using this

set_option maxRecDepth 100000 in
theorem text_calls (a : Nat) (ha : a < 4294967296) (w : World) (hE : Env w) :
    Calls Tryd.prog 27 #[.int .u32 (a : Int)] w fun e w' => e = .returned (.string ⟨(textOf a).toArray⟩) ∧ Below w.heap.size w w' := by
  have HE := Lib.hid hE
  clear hE
  obtain ⟨i0, hi, hz0, hz1, hz2⟩ := info_parts info9
  have hmk : (Instr.makeSlice 65 (.int .i64 4) (.int .i64 4)).run Tryd.prog w = .ok (.slice (some ⟨w.heap.size, 0, none⟩) 4 4) (w.alloc (.cells (rowT a 0) 9)) := by
    have := run_makeSlice (P := Tryd.prog) w 65 9 i0 (.string ByteArray.empty) Tryd.underlying65 hi hz0 .i64 .i64 4 4 (by omega) (by omega) (by rw [hz1]; decide) (by rw [hz2]; decide) (by decide)
    rw [hz1, show madeCells (Value.string ByteArray.empty).cells (Int.toNat 4 * 1) = rowT a 0 from by kernel_rfl] at this
    exact this
  have HW0 := Lib.hid (World.alloc_heap_new w (.cells (rowT a 0) 9))
  have HB0 := Lib.hid ((Below.refl _ w).alloc (Nat.le_refl _) (.cells (rowT a 0) 9))
  clear hi hz0 hz1 hz2
  go_enter Tryd.func27, Tryd.ntmps27
  go_wp2_with fail
  go_loopw [8] (fun ii wr => ∃ i : Nat, i ≤ 4 ∧ ii = .int .i64 (i : Int) ∧ wr.heap[w.heap.size]? = some (.cells (rowT a i) 9 (0, 0)) ∧ Below w.heap.size w wr) (fun ii _ => 4 - (intOf ii).toNat)
  case atStart => exact ⟨0, by omega, rfl, HW0.out, HB0.out⟩
  case round =>
    obtain ⟨i, hi, rfl, hrow, hW⟩ := hrel
    have HROW := Lib.hid hrow
    have HW := Lib.hid hW
    by_cases hlt : i < 4
    · have hi4 : (i : Int) < 4 := by omega
      have hc : wr.cell? ⟨w.heap.size, i, none⟩ = some (.string ByteArray.empty) ∧ wr.frozen? ⟨w.heap.size, i, none⟩ = false := by
        constructor
        · simp [World.cell?, hrow, rowT, hlt]
        · simp [World.frozen?, hrow]
      obtain ⟨c0, f0⟩ := hc
      have HEr := Lib.hid (HE.out.below hW)
      obtain ⟨n, hn⟩ : ∃ n : Nat, a / 2 ^ (8 * (3 - i)) % 256 = n := ⟨_, rfl⟩
      have hpart : part a i = ⟨(Lib.itoa (n : Int)).toArray⟩ := by unfold part; rw [hn]
      have hn256 : n < 256 := by omega
      have HN0 := Lib.hid (show -9223372036854775808 ≤ (n : Int) ∧ (n : Int) ≤ 9223372036854775807 from by omega)
      have hq : wrap64 (bits .and .u32 ((a : Int) / 2 ^ (8 * (3 - i))) 255) = (n : Int) := by
        have h1 : (a : Int) / 2 ^ (8 * (3 - i)) = ((a / 2 ^ (8 * (3 - i)) : Nat) : Int) := by push_cast; rfl
        have h2 : a / 2 ^ (8 * (3 - i)) < 4294967296 := Nat.lt_of_le_of_lt (Nat.div_le_self _ _) ha
        rw [h1, and255 _ h2, hn]
        unfold wrap64; omega
      have HPART := Lib.hid hpart
      clear hrow hW hn hpart
      go_wp2_with (go_at_call 29; refine (itoa_calls (n : Int) HN0.out.1 HN0.out.2 _ HEr.out).mono ?_; rintro e wx ⟨rfl, hB⟩; replace f0 := (hB.frozen (p := ⟨w.heap.size, i, none⟩) (World.block_lt_of_cell? _ _ c0)).trans f0; replace c0 := (hB.cell (p := ⟨w.heap.size, i, none⟩) (World.block_lt_of_cell? _ _ c0)).trans c0; replace HROW := Lib.hid ((hB.block _ (Array.getElem?_eq_some_iff.1 HROW.out).1).trans HROW.out); replace HW := Lib.hid (below_step HW.out hB); clear hB)
      rw [← HPART.out]
      exact ⟨⟨i + 1, by omega, by go_num, row_set hlt HROW.out, HW.out.setCell (p := ⟨w.heap.size, i, none⟩) (Nat.le_refl _) _⟩, by simp [intOf]; omega⟩
    · obtain rfl : i = 4 := by omega
      have HJ := Lib.hid (join_calls (a := a) (wr := wr) ha hrow)
      clear hrow hW
      go_wp2_with (go_at_call 28; refine HJ.out.mono ?_; rintro e wx ⟨rfl, hB⟩; replace HW := Lib.hid (below_step HW.out hB); clear hB)
      go_ret
      exact ⟨rfl, HW.out⟩
end Go.Proofs.YtbahcpejippcjaaDoor
