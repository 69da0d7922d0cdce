import Derived.Test.YtbahcpejippcjaaDoorK0
namespace Go.Proofs.YtbahcpejippcjaaDoor
open Go.RowKit Go.Shelf

/-- The number that a text is, of up to another one, without a 0 ahead. -/
def numOf (s : ByteArray) (most : Int) : Option Nat :=
  match Lib.atoiAll s.data.toList with
  | .ok v => if 0 ≤ v ∧ v ≤ most ∧ Lib.itoa v = s.toList then some v.toNat else none
  | _ => none

theorem atoi_fits {l : List UInt8} {v : Int} (h : Lib.atoiAll l = .ok v) : -9223372036854775808 ≤ v ∧ v ≤ 9223372036854775807 := by
  unfold Lib.atoiAll at h
  split at h
  · cases h
  · dsimp only at h
    split at h
    · cases h
    · cases h
    · split at h
      · cases h
      · split at h
        · cases h
        · cases h
          split <;> omega

theorem number_yes (s : ByteArray) (hs : s.size ≤ 281474976710656) (most : Int) (v : Nat) (h : numOf s most = some v) (w : World) (hE : Env w) :
    Calls Tryd.prog 48 #[.string s, .int .i64 most] w fun e w' => e = .returned (.tuple #[.int .i64 (v : Int), .bool true]) ∧ Below w.heap.size w w' := by
  unfold numOf at h
  split at h
  · rename_i n ha
    split at h
    · rename_i hc
      obtain ⟨h0, h1, h2⟩ := hc
      cases h
      have hv : ((n.toNat : Nat) : Int) = n := by omega
      have hf := atoi_fits ha
      have HA := Lib.hid ha
      have HF := Lib.hid hf
      have hb : (Lib.itoa n == s.toList) = true := by rw [h2]; simp
      have HV := Lib.hid hv
      have HB := Lib.hid (Below.refl w.heap.size w)
      have HE := Lib.hid hE
      clear ha hf h2 hv hE
      go_enter Tryd.func48, Tryd.ntmps48
      go_wp2_with (first
        | (go_at_call 35; refine (atoi_ok s hs n HA.out _).mono ?_; rintro e wx ⟨rfl, hB⟩; replace HB := Lib.hid (below_step HB.out hB); replace HE := Lib.hid (HE.out.below hB); clear hB)
        | (go_at_call 29; refine (itoa_calls n HF.out.1 HF.out.2 _ HE.out).mono ?_; rintro e wx ⟨rfl, hB⟩; replace HB := Lib.hid (below_step HB.out hB); replace HE := Lib.hid (HE.out.below hB); clear hB))
      go_ret2
      exact ⟨by rw [HV.out]; rfl, HB.out⟩
    · cases h
  · cases h

theorem number_no (s : ByteArray) (hs : s.size ≤ 281474976710656) (most : Int) (h : numOf s most = none) (w : World) (hE : Env w) :
    Calls Tryd.prog 48 #[.string s, .int .i64 most] w fun e w' => ∃ n : Int, e = .returned (.tuple #[.int .i64 n, .bool false]) ∧ Below w.heap.size w w' := by
  have HB := Lib.hid (Below.refl w.heap.size w)
  have HE := Lib.hid hE
  unfold numOf at h
  split at h
  · rename_i n ha
    split at h
    · cases h
    · rename_i hc
      have hf := atoi_fits ha
      have HA := Lib.hid ha
      have HF := Lib.hid hf
      clear ha hf hE
      by_cases h0 : 0 ≤ n
      case' pos =>
        by_cases h1 : n ≤ most
        case' pos =>
          have hb : (Lib.itoa n == s.toList) = false := by
            simp only [beq_eq_false_iff_ne]
            exact fun e => hc ⟨h0, h1, e⟩
      all_goals
        clear hc
        go_enter Tryd.func48, Tryd.ntmps48
        go_wp2_with (first
          | (go_at_call 35; refine (atoi_ok s hs n HA.out _).mono ?_; rintro e wx ⟨rfl, hB⟩; replace HB := Lib.hid (below_step HB.out hB); replace HE := Lib.hid (HE.out.below hB); clear hB)
          | (go_at_call 29; refine (itoa_calls n HF.out.1 HF.out.2 _ HE.out).mono ?_; rintro e wx ⟨rfl, hB⟩; replace HB := Lib.hid (below_step HB.out hB); replace HE := Lib.hid (HE.out.below hB); clear hB))
        go_ret2
        first | exact ⟨n, rfl, HB.out⟩ | exact ⟨⟨n, rfl⟩, HB.out⟩
  · rename_i hne
    clear hE
    go_enter Tryd.func48, Tryd.ntmps48
    go_wp2_with (go_at_call 35; refine (atoi_bad s hs (fun v hv => hne v hv) _ HE.out).mono ?_; rintro e wx ⟨n, N, _, rfl, hB⟩; replace HB := Lib.hid (below_step HB.out hB); clear hB)
    go_ret2
    exact ⟨_, rfl, HB.out⟩
end Go.Proofs.YtbahcpejippcjaaDoor
