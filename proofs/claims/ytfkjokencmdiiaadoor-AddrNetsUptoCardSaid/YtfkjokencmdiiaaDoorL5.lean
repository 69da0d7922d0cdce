import Derived.Test.YtfkjokencmdiiaaDoorP3
import Derived.Deep.RegionWith
namespace Go.Proofs.YtfkjokencmdiiaaDoor
open Go.RowKit Go.Shelf

theorem itoa_dig_calls (k : Nat) (hk : k < 1000) (w : World) (h : Env w) :
    Calls Tryd.prog 25 #[.int .i64 (k : Int)] w fun e w' => e = .returned (.string ⟨(dig k).toArray⟩) ∧ Below w.heap.size w w' := by
  have := itoa_calls (k : Int) (by omega) (by omega) w h
  rw [itoa_dig hk] at this
  exact this

set_option maxRecDepth 100000 in
set_option maxHeartbeats 3000000 in
/-- A net that is right is written as its address, a stroke, its bits. -/
theorem netText_calls (a k : Nat) (ha : a < 4294967296) (hk : k ≤ 32) (h0 : a % 2 ^ (32 - k) = 0) (w : World) (hE : Env w) :
    Calls Tryd.prog 18 #[.agg #[.int .u32 (a : Int), .int .i64 (k : Int)]] w fun e w' => e = .returned (.tuple #[.string ⟨(netText a k).toArray⟩, .bool true]) ∧ Below w.heap.size w w' := by
  have HR := Lib.hid (right_calls a k ha hk)
  have hd : decide (a % 2 ^ (32 - k) = 0) = true := by simp [h0]
  rw [hd] at HR
  have HT := Lib.hid (text_calls a ha)
  have HI := Lib.hid (itoa_dig_calls k (by omega))
  have hst : ((⟨(textOf a).toArray⟩ : ByteArray) ++ ⟨#[47]⟩) ++ ⟨(dig k).toArray⟩ = ⟨(netText a k).toArray⟩ := by
    apply Go.WideShapes.bytes_inj
    simp [netText]
  have HST := Lib.hid hst
  have hs1 : (⟨(textOf a).toArray⟩ : ByteArray).size ≤ 100 := by rw [size_of_list]; exact text_le a
  have hs2 : (⟨(dig k).toArray⟩ : ByteArray).size ≤ 3 := by rw [size_of_list]; exact (dig_facts (show k < 256 by omega)).2.1.2
  generalize (⟨(textOf a).toArray⟩ : ByteArray) = T at *
  generalize (⟨(dig k).toArray⟩ : ByteArray) = D at *
  generalize (⟨(netText a k).toArray⟩ : ByteArray) = N at *
  have HE := Lib.hid hE
  have HB := Lib.hid (Below.refl w.heap.size w)
  have hs3 : (T.size : Int) ≤ 100 := by omega
  have hs4 : (D.size : Int) ≤ 3 := by omega
  have hs5 : (T ++ ⟨#[47]⟩ : ByteArray).size = T.size + 1 := by rw [ByteArray.size_append]; rfl
  clear hE hd h0 hst
  go_enter Tryd.func18, Tryd.ntmps18
  go_upto_region 3 with (go_at_call 28; refine (HR.out _).mono ?_; rintro e wx ⟨rfl, hB⟩; obtain ⟨⟨n0, n1⟩, hB2⟩ := box2 hB; replace HB := Lib.hid (below_step HB.out hB2); replace HE := Lib.hid (HE.out.below hB2); clear hB hB2)
  go_region_with (first
    | (go_at_call 13; refine (HT.out _ (by first | exact HE.out | exact HE.out.below ((Below.refl _ _).drew))).mono ?_; rintro e wy ⟨rfl, hB⟩; replace n0 := (hB.cell (World.block_lt_of_cell? _ _ n0)).trans n0; replace n1 := (hB.cell (World.block_lt_of_cell? _ _ n1)).trans n1; replace HE := Lib.hid ((HE.out.below ((Below.refl _ _).drew)).below hB); replace HB := Lib.hid (below_step (HB.out.drew) hB); clear hB)
    | (go_at_call 25; refine (HI.out _ HE.out).mono ?_; rintro e wz ⟨rfl, hB⟩; replace HB := Lib.hid (below_step HB.out hB); clear hB))
  all_goals
    go_wp2_with fail
    go_ret2
    exact ⟨by rw [← HST.out]; rfl, HB.out⟩

set_option maxRecDepth 100000 in
set_option maxHeartbeats 3000000 in
theorem walk_AddrBack (a0 : Int) (a1 : Int) (a2 : ByteArray) (w : World) (w0 : (Lit.int .u32 a0).wf = true) (w1 : (Lit.int .u8 a1).wf = true) (w2 : a2.size ≤ 1048576) (hE : Env w) :
    Calls Tryd.prog 9 #[.int .u32 a0, .int .u8 a1, .string a2] w fun e w' => e = .returned (.bool true) ∧ Below w.heap.size w w' := by
  obtain ⟨a, rfl, ha⟩ := u32_nat w0
  obtain ⟨bi, rfl, _⟩ := u8_nat w1
  have HE := Lib.hid hE
  have HB := Lib.hid (Below.refl w.heap.size w)
  obtain ⟨k, hk⟩ : ∃ k : Nat, bi % 33 = k := ⟨_, rfl⟩
  have hkI : (bi : Int) % 33 = (k : Int) := by omega
  have hk3 : k ≤ 32 := by omega
  have m1 := maskI_nat hk3
  have o1 := okB_nat hk3
  have c1 := and_cut a k ha hk3
  have hAl : cutN a k < 4294967296 := by have := cutN_le a k; omega
  have hA0 := cutN_mod a k
  have HN := Lib.hid (netText_calls (cutN a k) k hAl hk3 hA0)
  have hns : (⟨(netText (cutN a k) k).toArray⟩ : ByteArray).size < 4294967281 := by
    rw [size_of_list]
    unfold netText
    have h1 := text_le (cutN a k)
    have h2 := (dig_facts (show k < 256 by omega)).2.1
    simp only [List.length_append, List.length_cons]
    omega
  have HP := Lib.hid (parseNet_calls _ hns)
  rw [net_back hAl hk3 hA0] at HP
  simp only [Option.getD_some, Option.isSome_some] at HP
  have HT := Lib.hid (text_calls a ha)
  have hts : (⟨(textOf a).toArray⟩ : ByteArray).size < 4294967281 := by
    rw [size_of_list]
    have := text_le a
    omega
  have HQ := Lib.hid (parse_calls _ hts)
  rw [parse_text a ha] at HQ
  simp only [Option.getD_some, Option.isSome_some] at HQ
  have HS := Lib.hid (parse_calls a2 (by omega))
  have HC : Hid (∀ c, parseOf a2 = some c → ∀ w, Env w → Calls Tryd.prog 13 #[.int .u32 (c : Int)] w fun e w' => e = .returned (.string a2) ∧ Below w.heap.size w w') := Lib.hid (fun c hc w hw => by
    have h := text_calls c (parseOf_lt hc) w hw
    have e : (⟨(textOf c).toArray⟩ : ByteArray) = a2 := Go.WideShapes.bytes_inj (by rw [text_parse hc])
    rw [e] at h
    exact h)
  generalize (⟨(netText (cutN a k) k).toArray⟩ : ByteArray) = N at *
  generalize (⟨(textOf a).toArray⟩ : ByteArray) = T at *
  obtain ⟨res, hres⟩ : ∃ res, parseOf a2 = res := ⟨_, rfl⟩
  rw [hres] at HS HC
  clear w0 w1 w2 hE hk hres hns hts hAl hA0 ha
  generalize cutN a k = A at *
  have S1 : Stage 1 := Stage.mk 1
  have S2 : Stage 2 := Stage.mk 2
  cases res with
  | none =>
    simp only [Option.getD_none, Option.isSome_none] at HS
    go_enter Tryd.func9, Tryd.ntmps9
    go_wp2_with (first
      | (go_at_call 10; refine (examples02 _ HE.out).mono ?_; rintro e wx ⟨rfl, hB⟩; replace HB := Lib.hid (below_step HB.out hB); replace HE := Lib.hid (HE.out.below hB); clear hB)
      | (go_at_call 15; refine (mask_any _ _).mono ?_; rintro e wx ⟨rfl, rfl⟩)
      | (go_at_call 18; refine (HN.out _ (HE.out.below ((Below.refl _ _).alloc (Nat.le_refl _) _))).mono ?_; rintro e wy ⟨rfl, hB⟩; obtain ⟨⟨n0, n1⟩, hB2⟩ := box2 hB; replace HB := Lib.hid (below_step HB.out hB2); replace HE := Lib.hid (HE.out.below hB2); clear hB hB2)
      | (go_at_call 20; refine (HP.out _ HE.out).mono ?_; rintro e wz ⟨rfl, hB⟩; replace n0 := (hB.cell (World.block_lt_of_cell? _ _ n0)).trans n0; replace n1 := (hB.cell (World.block_lt_of_cell? _ _ n1)).trans n1; replace HB := Lib.hid (below_step HB.out hB); replace HE := Lib.hid (HE.out.below hB); clear hB)
      | (go_at_call 13; clear S1; refine (HT.out _ (HE.out.below ((Below.refl _ _).alloc (Nat.le_refl _) _))).mono ?_; rintro e wv ⟨rfl, hB⟩; obtain ⟨⟨n2, n3⟩, hB2⟩ := box2 hB; replace n0 := (hB2.cell (World.block_lt_of_cell? _ _ n0)).trans n0; replace n1 := (hB2.cell (World.block_lt_of_cell? _ _ n1)).trans n1; replace HB := Lib.hid (below_step HB.out hB2); replace HE := Lib.hid (HE.out.below hB2); clear hB hB2)
      | (go_at_call 11; clear S2; refine (HQ.out _ HE.out).mono ?_; rintro e wu ⟨rfl, hB⟩; replace n0 := (hB.cell (World.block_lt_of_cell? _ _ n0)).trans n0; replace n1 := (hB.cell (World.block_lt_of_cell? _ _ n1)).trans n1; replace n2 := (hB.cell (World.block_lt_of_cell? _ _ n2)).trans n2; replace n3 := (hB.cell (World.block_lt_of_cell? _ _ n3)).trans n3; replace HB := Lib.hid (below_step HB.out hB); replace HE := Lib.hid (HE.out.below hB); clear hB)
      | (go_at_call 11; refine (HS.out _ HE.out).mono ?_; rintro e wu ⟨rfl, hB⟩; replace n0 := (hB.cell (World.block_lt_of_cell? _ _ n0)).trans n0; replace n1 := (hB.cell (World.block_lt_of_cell? _ _ n1)).trans n1; replace n2 := (hB.cell (World.block_lt_of_cell? _ _ n2)).trans n2; replace n3 := (hB.cell (World.block_lt_of_cell? _ _ n3)).trans n3; replace HB := Lib.hid (below_step HB.out hB); replace HE := Lib.hid (HE.out.below hB); clear hB))
    go_ret
    exact ⟨rfl, HB.out⟩
  | some c =>
    simp only [Option.getD_some, Option.isSome_some] at HS
    have HD := Lib.hid (HC.out c rfl)
    go_enter Tryd.func9, Tryd.ntmps9
    go_wp2_with (first
      | (go_at_call 10; refine (examples02 _ HE.out).mono ?_; rintro e wx ⟨rfl, hB⟩; replace HB := Lib.hid (below_step HB.out hB); replace HE := Lib.hid (HE.out.below hB); clear hB)
      | (go_at_call 15; refine (mask_any _ _).mono ?_; rintro e wx ⟨rfl, rfl⟩)
      | (go_at_call 18; refine (HN.out _ (HE.out.below ((Below.refl _ _).alloc (Nat.le_refl _) _))).mono ?_; rintro e wy ⟨rfl, hB⟩; obtain ⟨⟨n0, n1⟩, hB2⟩ := box2 hB; replace HB := Lib.hid (below_step HB.out hB2); replace HE := Lib.hid (HE.out.below hB2); clear hB hB2)
      | (go_at_call 20; refine (HP.out _ HE.out).mono ?_; rintro e wz ⟨rfl, hB⟩; replace n0 := (hB.cell (World.block_lt_of_cell? _ _ n0)).trans n0; replace n1 := (hB.cell (World.block_lt_of_cell? _ _ n1)).trans n1; replace HB := Lib.hid (below_step HB.out hB); replace HE := Lib.hid (HE.out.below hB); clear hB)
      | (go_at_call 13; clear S1; refine (HT.out _ (HE.out.below ((Below.refl _ _).alloc (Nat.le_refl _) _))).mono ?_; rintro e wv ⟨rfl, hB⟩; obtain ⟨⟨n2, n3⟩, hB2⟩ := box2 hB; replace n0 := (hB2.cell (World.block_lt_of_cell? _ _ n0)).trans n0; replace n1 := (hB2.cell (World.block_lt_of_cell? _ _ n1)).trans n1; replace HB := Lib.hid (below_step HB.out hB2); replace HE := Lib.hid (HE.out.below hB2); clear hB hB2)
      | (go_at_call 13; refine (HD.out _ HE.out).mono ?_; rintro e wv ⟨rfl, hB⟩; replace HB := Lib.hid (below_step HB.out hB); clear hB)
      | (go_at_call 11; clear S2; refine (HQ.out _ HE.out).mono ?_; rintro e wu ⟨rfl, hB⟩; replace n0 := (hB.cell (World.block_lt_of_cell? _ _ n0)).trans n0; replace n1 := (hB.cell (World.block_lt_of_cell? _ _ n1)).trans n1; replace n2 := (hB.cell (World.block_lt_of_cell? _ _ n2)).trans n2; replace n3 := (hB.cell (World.block_lt_of_cell? _ _ n3)).trans n3; replace HB := Lib.hid (below_step HB.out hB); replace HE := Lib.hid (HE.out.below hB); clear hB)
      | (go_at_call 11; refine (HS.out _ HE.out).mono ?_; rintro e wu ⟨rfl, hB⟩; replace n0 := (hB.cell (World.block_lt_of_cell? _ _ n0)).trans n0; replace n1 := (hB.cell (World.block_lt_of_cell? _ _ n1)).trans n1; replace n2 := (hB.cell (World.block_lt_of_cell? _ _ n2)).trans n2; replace n3 := (hB.cell (World.block_lt_of_cell? _ _ n3)).trans n3; replace HB := Lib.hid (below_step HB.out hB); replace HE := Lib.hid (HE.out.below hB); clear hB))
    go_ret
    exact ⟨rfl, HB.out⟩
end Go.Proofs.YtfkjokencmdiiaaDoor
