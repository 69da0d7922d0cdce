import Derived.Test.YtladjipicifplaaA6
namespace Go.Proofs.Ytladjipicifplaa
open Go.RowKit

theorem below_step {w w1 w2 : World} (h : Below w.heap.size w w1) (k : Below w1.heap.size w1 w2) : Below w.heap.size w w2 := h.trans (k.mono h.size)

set_option maxRecDepth 100000 in
set_option maxHeartbeats 1000000 in
theorem walk_SipSame (a0 a1 : ByteArray) (w : World) (w0 : a0.size ≤ maxLen) (w1 : a1.size ≤ maxLen) :
    Calls Try.prog 3 #[.string a0, .string a1] w fun e w' => e = .returned (.bool true) ∧ Below w.heap.size w w' := by
  unfold maxLen at w0
  have HB := Lib.hid (Below.refl w.heap.size w)
  by_cases h60 : a0.size ≤ 60
  · by_cases h : a0.size = 16
    · have hh : ((a0.size : Int) == 16) = true := by simp; omega
      have H := Lib.hid h
      clear h
      go_enter Try.func3, Try.ntmps3
      go_wp2_with (first
        | (go_at_call 14; refine (examples_calls _).mono ?_; rintro e wx ⟨rfl, hb1⟩; replace HB := Lib.hid (below_step HB.out hb1); clear hb1)
        | (go_at_call 15; refine (hash_good a0 a1 _ H.out w1).mono ?_; rintro e wx ⟨rfl, hb1⟩; replace HB := Lib.hid (below_step HB.out hb1); clear hb1))
      go_ret
      exact ⟨rfl, HB.out⟩
    · have hh : ((a0.size : Int) == 16) = false := by simp; omega
      have H := Lib.hid h
      clear h
      go_enter Try.func3, Try.ntmps3
      go_wp2_with (first
        | (go_at_call 14; refine (examples_calls _).mono ?_; rintro e wx ⟨rfl, hb1⟩; replace HB := Lib.hid (below_step HB.out hb1); clear hb1)
        | (go_at_call 15; refine (hash_bad a0 a1 _ H.out).mono ?_; rintro e wx ⟨rfl, rfl⟩))
      go_ret
      exact ⟨rfl, HB.out⟩
  · have hs : (a0.extract 0 60).size = 60 := by simp; omega
    have H : Hid ((a0.extract 0 60).size ≠ 16) := Lib.hid (by rw [hs]; decide)
    go_enter Try.func3, Try.ntmps3
    go_wp2_with (first
      | (go_at_call 14; refine (examples_calls _).mono ?_; rintro e wx ⟨rfl, hb1⟩; replace HB := Lib.hid (below_step HB.out hb1); clear hb1)
      | (go_at_call 15; refine (hash_bad (a0.extract 0 60) a1 _ H.out).mono ?_; rintro e wx ⟨rfl, rfl⟩))
    go_ret
    exact ⟨rfl, HB.out⟩
end Go.Proofs.Ytladjipicifplaa
