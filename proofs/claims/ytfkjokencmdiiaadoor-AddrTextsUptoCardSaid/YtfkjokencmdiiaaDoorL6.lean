import Derived.Test.YtfkjokencmdiiaaDoorQ2
namespace Go.Proofs.YtfkjokencmdiiaaDoor
open Go.RowKit Go.Shelf

set_option maxRecDepth 100000 in
set_option maxHeartbeats 2000000 in
theorem walk_AddrTexts (a0 : Int) (a1 : ByteArray) (w : World) (w0 : (Lit.int .u32 a0).wf = true) (w1 : a1.size ≤ 1048576) (hE : Env w) :
    Calls Tryd.prog 3 #[.int .u32 a0, .string a1] w fun e w' => e = .returned (.bool true) ∧ Below w.heap.size w w' := by
  obtain ⟨a, rfl, ha⟩ := u32_nat w0
  have HE := Lib.hid hE
  have HB := Lib.hid (Below.refl w.heap.size w)
  have HP := Lib.hid (parse_calls a1 (by omega))
  have HQ := Lib.hid (refParse_calls a1 (by omega))
  have HT := Lib.hid (text_calls a ha)
  have HU := Lib.hid (refText_calls a ha)
  obtain ⟨x, hx⟩ : ∃ x, (parseOf a1).getD 0 = x := ⟨_, rfl⟩
  obtain ⟨ok, hok⟩ : ∃ ok, (parseOf a1).isSome = ok := ⟨_, rfl⟩
  rw [hx, hok] at HP HQ
  generalize (⟨(textOf a).toArray⟩ : ByteArray) = T at *
  clear w0 w1 hE hx hok ha
  cases ok
  all_goals
    go_enter Tryd.func3, Tryd.ntmps3
    go_wp2_with (first
      | (go_at_call 10; refine (examples02 _ HE.out).mono ?_; rintro e wx ⟨rfl, hB⟩; replace HB := Lib.hid (below_step HB.out hB); replace HE := Lib.hid (HE.out.below hB); clear hB)
      | (go_at_call 11; refine (HP.out _ HE.out).mono ?_; rintro e wx ⟨rfl, hB⟩; replace HB := Lib.hid (below_step HB.out hB); replace HE := Lib.hid (HE.out.below hB); clear hB)
      | (go_at_call 12; refine (HQ.out _).mono ?_; rintro e wx ⟨rfl, hB⟩; replace HB := Lib.hid (below_step HB.out hB); replace HE := Lib.hid (HE.out.below hB); clear hB)
      | (go_at_call 13; refine (HT.out _ HE.out).mono ?_; rintro e wx ⟨rfl, hB⟩; replace HB := Lib.hid (below_step HB.out hB); replace HE := Lib.hid (HE.out.below hB); clear hB)
      | (go_at_call 14; refine (HU.out _).mono ?_; rintro e wx ⟨rfl, hB⟩; replace HB := Lib.hid (below_step HB.out hB); clear hB))
    go_ret
    exact ⟨rfl, HB.out⟩
end Go.Proofs.YtfkjokencmdiiaaDoor
