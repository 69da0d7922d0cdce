import Derived.Test.YtfkjokencmdiiaaDoorK5
namespace Go.Proofs.YtfkjokencmdiiaaDoor
open Go.RowKit Go.Shelf

theorem num_is {s : ByteArray} {most : Int} {v : Nat} {l : List UInt8} (h1 : Lib.atoiAll s.data.toList = .ok (v : Int)) (h2 : Lib.itoa (v : Int) = l) (h3 : s.toList = l) (h4 : (v : Int) ≤ most) : numOf s most = some v := by
  unfold numOf
  rw [h1]
  dsimp only
  rw [if_pos ⟨by omega, h4, by rw [h2, h3]⟩]
  rfl
theorem n192 : numOf ⟨#[49, 57, 50]⟩ 255 = some 192 := num_is (v := 192) (by kernel_rfl) (by simp [Lib.itoa, Lib.decDigits]; rfl) (by kernel_rfl) (by omega)
theorem n168 : numOf ⟨#[49, 54, 56]⟩ 255 = some 168 := num_is (v := 168) (by kernel_rfl) (by simp [Lib.itoa, Lib.decDigits]; rfl) (by kernel_rfl) (by omega)
theorem n0 : numOf ⟨#[48]⟩ 255 = some 0 := num_is (v := 0) (by kernel_rfl) (by simp [Lib.itoa, Lib.decDigits]; rfl) (by kernel_rfl) (by omega)
theorem n1 : numOf ⟨#[49]⟩ 255 = some 1 := num_is (v := 1) (by kernel_rfl) (by simp [Lib.itoa, Lib.decDigits]; rfl) (by kernel_rfl) (by omega)
theorem n10 : numOf ⟨#[49, 48]⟩ 255 = some 10 := num_is (v := 10) (by kernel_rfl) (by simp [Lib.itoa, Lib.decDigits]; rfl) (by kernel_rfl) (by omega)
theorem n8 : numOf ⟨#[56]⟩ 32 = some 8 := num_is (v := 8) (by kernel_rfl) (by simp [Lib.itoa, Lib.decDigits]; rfl) (by kernel_rfl) (by omega)
theorem ex_pieces : pieces ⟨#[49, 57, 50, 46, 49, 54, 56, 46, 48, 46, 49]⟩ = [⟨#[49, 57, 50]⟩, ⟨#[49, 54, 56]⟩, ⟨#[48]⟩, ⟨#[49]⟩] := by kernel_rfl
theorem ex_pieces2 : pieces ⟨#[49, 48, 46, 48, 46, 48, 46, 48]⟩ = [⟨#[49, 48]⟩, ⟨#[48]⟩, ⟨#[48]⟩, ⟨#[48]⟩] := by kernel_rfl
theorem ex_parse : parseOf ⟨#[49, 57, 50, 46, 49, 54, 56, 46, 48, 46, 49]⟩ = some 3232235521 := by
  unfold parseOf
  rw [ex_pieces]
  simp [foldNum, n192, n168, n0, n1]
theorem ex_parse2 : parseOf ⟨#[49, 48, 46, 48, 46, 48, 46, 48]⟩ = some 167772160 := by
  unfold parseOf
  rw [ex_pieces2]
  simp [foldNum, n10, n0]
theorem ex_net : netOf ⟨#[49, 48, 46, 48, 46, 48, 46, 48, 47, 56]⟩ = some (167772160, 8) := by
  have h1 : hasSlash ⟨#[49, 48, 46, 48, 46, 48, 46, 48, 47, 56]⟩ = true := by kernel_rfl
  have h2 : headOf ⟨#[49, 48, 46, 48, 46, 48, 46, 48, 47, 56]⟩ = ⟨#[49, 48, 46, 48, 46, 48, 46, 48]⟩ := by kernel_rfl
  have h3 : tailOf ⟨#[49, 48, 46, 48, 46, 48, 46, 48, 47, 56]⟩ = ⟨#[56]⟩ := by kernel_rfl
  unfold netOf
  rw [h1, h2, h3, ex_parse2, n8]
  rfl
theorem part_is {a j v : Nat} {l : List UInt8} (h1 : a / 2 ^ (8 * (3 - j)) % 256 = v) (h2 : Lib.itoa (v : Int) = l) : (part a j).data.toList = l := by
  unfold part
  rw [h1, h2]
theorem ex_text : textOf 3232235521 = [49, 57, 50, 46, 49, 54, 56, 46, 48, 46, 49] := by
  unfold textOf
  rw [show (List.range 4).map (fun j => (part 3232235521 j).data.toList) = [(part 3232235521 0).data.toList, (part 3232235521 1).data.toList, (part 3232235521 2).data.toList, (part 3232235521 3).data.toList] from rfl,
    part_is (v := 192) (l := [49, 57, 50]) (by decide) (by simp [Lib.itoa, Lib.decDigits]), part_is (v := 168) (l := [49, 54, 56]) (by decide) (by simp [Lib.itoa, Lib.decDigits]), part_is (v := 0) (l := [48]) (by decide) (by simp [Lib.itoa, Lib.decDigits]), part_is (v := 1) (l := [49]) (by decide) (by simp [Lib.itoa, Lib.decDigits])]
  rfl

theorem ex_parse_calls (w : World) (hE : Env w) : Calls Tryd.prog 11 #[.string ⟨#[49, 57, 50, 46, 49, 54, 56, 46, 48, 46, 49]⟩] w fun e w' => e = .returned (.tuple #[.int .u32 3232235521, .bool true]) ∧ Below w.heap.size w w' := by
  have := parse_calls ⟨#[49, 57, 50, 46, 49, 54, 56, 46, 48, 46, 49]⟩ (by decide) w hE
  rw [ex_parse] at this
  exact this
theorem ex_net_calls (w : World) (hE : Env w) : Calls Tryd.prog 20 #[.string ⟨#[49, 48, 46, 48, 46, 48, 46, 48, 47, 56]⟩] w fun e w' => e = .returned (.tuple #[.agg #[.int .u32 167772160, .int .i64 8], .bool true]) ∧ Below w.heap.size w w' := by
  have := parseNet_calls ⟨#[49, 48, 46, 48, 46, 48, 46, 48, 47, 56]⟩ (by decide) w hE
  rw [ex_net] at this
  exact this
theorem ex_text_calls (w : World) (hE : Env w) : Calls Tryd.prog 13 #[.int .u32 3232235521] w fun e w' => e = .returned (.string ⟨#[49, 57, 50, 46, 49, 54, 56, 46, 48, 46, 49]⟩) ∧ Below w.heap.size w w' := by
  have := text_calls 3232235521 (by omega) w hE
  rw [ex_text] at this
  exact this
theorem ex_has_yes (w : World) : Calls Tryd.prog 16 #[.agg #[.int .u32 167772160, .int .i64 8], .int .u32 167772165] w fun e w' => e = .returned (.bool true) ∧ Below w.heap.size w w' := has_calls 167772160 8 167772165 (by omega) (by omega) (by omega) w
theorem ex_has_no (w : World) : Calls Tryd.prog 16 #[.agg #[.int .u32 167772160, .int .i64 8], .int .u32 184549376] w fun e w' => e = .returned (.bool false) ∧ Below w.heap.size w w' := has_calls 167772160 8 184549376 (by omega) (by omega) (by omega) w

/-- A mark: a call is still to come. -/
inductive Stage : Nat → Prop
  | mk (n : Nat) : Stage n

set_option maxRecDepth 100000 in
theorem examples02 (w : World) (hE : Env w) : Calls Tryd.prog 10 #[] w fun e w' => e = .returned (.bool true) ∧ Below w.heap.size w w' := by
  have HE := Lib.hid hE
  have HB := Lib.hid (Below.refl w.heap.size w)
  have S1 : Stage 1 := Stage.mk 1
  clear hE
  go_enter Tryd.func10, Tryd.ntmps10
  go_wp2_with (first
    | (go_at_call 11; refine (ex_parse_calls _ HE.out).mono ?_; rintro e wx ⟨rfl, hB⟩; replace HB := Lib.hid (below_step HB.out hB); replace HE := Lib.hid (HE.out.below hB); clear hB)
    | (go_at_call 20; refine (ex_net_calls _ HE.out).mono ?_; rintro e wy ⟨rfl, hB⟩; replace HB := Lib.hid (below_step HB.out hB); replace HE := Lib.hid (HE.out.below hB); clear hB)
    | (go_at_call 13; refine (ex_text_calls _ (HE.out.below ((Below.refl _ _).alloc (Nat.le_refl _) _))).mono ?_; rintro e wz ⟨rfl, hB⟩; obtain ⟨⟨n0, n1⟩, hB2⟩ := box2 hB; replace HB := Lib.hid (below_step HB.out hB2); clear hB hB2)
    | (go_at_call 16; clear S1; refine (ex_has_yes _).mono ?_; rintro e wx ⟨rfl, hB⟩; replace n1 := (hB.cell (World.block_lt_of_cell? _ _ n1)).trans n1; replace n0 := (hB.cell (World.block_lt_of_cell? _ _ n0)).trans n0; replace HB := Lib.hid (below_step HB.out hB); clear hB)
    | (go_at_call 16; refine (ex_has_no _).mono ?_; rintro e wx ⟨rfl, hB⟩; replace n1 := (hB.cell (World.block_lt_of_cell? _ _ n1)).trans n1; replace n0 := (hB.cell (World.block_lt_of_cell? _ _ n0)).trans n0; replace HB := Lib.hid (below_step HB.out hB); clear hB))
  go_ret
  exact ⟨rfl, HB.out⟩
end Go.Proofs.YtfkjokencmdiiaaDoor
