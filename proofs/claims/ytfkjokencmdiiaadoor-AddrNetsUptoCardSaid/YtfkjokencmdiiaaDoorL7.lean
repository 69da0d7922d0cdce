import Derived.Test.YtfkjokencmdiiaaDoorQ5
namespace Go.Proofs.YtfkjokencmdiiaaDoor
open Go.RowKit Go.Shelf

set_option maxRecDepth 100000 in
set_option maxHeartbeats 3000000 in
theorem walk_AddrNets (a0 : Int) (a1 : Int) (a2 : Int) (a3 : ByteArray) (w : World) (w0 : (Lit.int .u32 a0).wf = true) (w1 : (Lit.int .i64 a1).wf = true) (w2 : (Lit.int .u32 a2).wf = true) (w3 : a3.size ≤ 1048576) (hE : Env w) :
    Calls Tryd.prog 8 #[.int .u32 a0, .int .i64 a1, .int .u32 a2, .string a3] w fun e w' => e = .returned (.bool true) ∧ Below w.heap.size w w' := by
  obtain ⟨a, rfl, ha⟩ := u32_nat w0
  obtain ⟨b, rfl, hb⟩ := u32_nat w2
  have HE := Lib.hid hE
  have HB := Lib.hid (Below.refl w.heap.size w)
  have HM := Lib.hid (mask_any a1)
  have HM2 := Lib.hid (refMask_any a1)
  have HN := Lib.hid (netText_any a ha a1)
  have HN2 := Lib.hid (refNetText_any a ha a1)
  have HP := Lib.hid (parseNet_calls a3 (by omega))
  have HP2 := Lib.hid (refParseNet_calls a3 (by omega))
  have HH := Lib.hid (has_any (a : Int) a1 (b : Int) (by omega) (by omega))
  have HH2 := Lib.hid (refHas_calls a ha a1 b hb)
  generalize maskI a1 = M at *
  generalize okB a1 = O at *
  generalize textI a a1 = T at *
  generalize rightI a a1 = R at *
  generalize hasB (a : Int) a1 (b : Int) = H at *
  generalize ((netOf a3).getD (0, 0)).1 = X at *
  generalize ((netOf a3).getD (0, 0)).2 = K at *
  generalize (netOf a3).isSome = I at *
  clear w0 w1 w2 w3 hE ha hb
  go_enter Tryd.func8, Tryd.ntmps8
  go_wp2_with (first
    | (go_at_call 10; refine (examples02 _ HE.out).mono ?_; rintro e wx ⟨rfl, hB⟩; replace HB := Lib.hid (below_step HB.out hB); replace HE := Lib.hid (HE.out.below hB); clear hB)
    | (go_at_call 15; refine (HM.out _).mono ?_; rintro e wx ⟨rfl, rfl⟩)
    | (go_at_call 17; refine (HM2.out _).mono ?_; rintro e wx ⟨rfl, rfl⟩)
    | (go_at_call 18; refine (HN.out _ (HE.out.below ((Below.refl _ _).alloc (Nat.le_refl _) _))).mono ?_; rintro e wy ⟨rfl, hB⟩; obtain ⟨⟨n0, n1⟩, hB2⟩ := box2 hB; replace HB := Lib.hid (below_step HB.out hB2); replace HE := Lib.hid (HE.out.below hB2); clear hB hB2)
    | (go_at_call 19; refine (HN2.out _).mono ?_; rintro e wz ⟨rfl, hB⟩; replace n0 := (hB.cell (World.block_lt_of_cell? _ _ n0)).trans n0; replace n1 := (hB.cell (World.block_lt_of_cell? _ _ n1)).trans n1; replace HB := Lib.hid (below_step HB.out hB); replace HE := Lib.hid (HE.out.below hB); clear hB)
    | (go_at_call 20; refine (HP.out _ HE.out).mono ?_; rintro e wz ⟨rfl, hB⟩; replace n0 := (hB.cell (World.block_lt_of_cell? _ _ n0)).trans n0; replace n1 := (hB.cell (World.block_lt_of_cell? _ _ n1)).trans n1; replace HB := Lib.hid (below_step HB.out hB); replace HE := Lib.hid (HE.out.below hB); clear hB)
    | (go_at_call 21; refine (HP2.out _).mono ?_; rintro e wv ⟨rfl, hB⟩; obtain ⟨⟨n2, n3⟩, hB2⟩ := box2 hB; replace n0 := (hB2.cell (World.block_lt_of_cell? _ _ n0)).trans n0; replace n1 := (hB2.cell (World.block_lt_of_cell? _ _ n1)).trans n1; replace HB := Lib.hid (below_step HB.out hB2); clear hB hB2)
    | (go_at_call 16; refine (HH.out _).mono ?_; rintro e wu ⟨rfl, hB⟩; replace n0 := (hB.cell (World.block_lt_of_cell? _ _ n0)).trans n0; replace n1 := (hB.cell (World.block_lt_of_cell? _ _ n1)).trans n1; replace n2 := (hB.cell (World.block_lt_of_cell? _ _ n2)).trans n2; replace n3 := (hB.cell (World.block_lt_of_cell? _ _ n3)).trans n3; replace HB := Lib.hid (below_step HB.out hB); clear hB)
    | (go_at_call 22; refine (HH2.out _).mono ?_; rintro e wz ⟨rfl, rfl⟩))
  go_ret
  exact ⟨rfl, HB.out⟩

end Go.Proofs.YtfkjokencmdiiaaDoor
