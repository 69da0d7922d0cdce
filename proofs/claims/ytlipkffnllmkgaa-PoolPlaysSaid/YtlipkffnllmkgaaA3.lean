import Derived.Test.YtlipkffnllmkgaaA2
namespace Go.Proofs.Ytlipkffnllmkgaa
open Go.RowKit

def byteAt (s : ByteArray) (k : Nat) : Int := ((s.data.toList.getD k 0).toNat : Int)
theorem byteAt_eq (s : ByteArray) (k : Nat) (h : k < s.size) : byteAt s k = (s[k].toNat : Int) := by
  have h' : k < s.data.toList.length := by simpa using h
  unfold byteAt
  rw [List.getD_eq_getElem?_getD, List.getElem?_eq_getElem h', Option.getD_some]
  rfl
/-- The number of the first k bytes, the lowest first. -/
def wordTo (s : ByteArray) : Nat → Int
  | 0 => 0
  | k + 1 => bits .or .u64 (wordTo s k) (IntKind.u64.wrap (IntKind.u64.wrap (byteAt s k) * 2 ^ (8 * k)))

theorem word_calls (s : ByteArray) (w : World) (hs : s.size ≤ 8) : Calls Try.prog 47 #[.string s] w fun e w' => e = .returned (.int .u64 (wordTo s s.size)) ∧ w' = w := by
  go_enter Try.func47, Try.ntmps47
  go_wp2_with fail
  go_loop [2, 3, 6] (fun n _ i => ∃ k : Nat, k ≤ s.size ∧ i = .int .i64 k ∧ n = .int .u64 (wordTo s k)) (fun _ _ i => s.size - (intOf i).toNat)
  case atStart => exact ⟨0, Nat.zero_le _, rfl, rfl⟩
  case round =>
    obtain ⟨k, hk, rfl, rfl⟩ := hrel
    by_cases hlt : k < s.size
    · go_wp2
      go_round
      case rel => exact ⟨k + 1, by omega, by go_num, by simp only [wordTo, byteAt_eq s k hlt]⟩
      case measure => simp [intOf]; omega
    · go_wp2
      go_ret
      exact ⟨by rw [show s.size = k from by omega]; rfl, rfl⟩

def addS (v : S4) (m : Int) : S4 := let u := rnd (rnd ⟨v.p, v.q, v.r, ux v.s m⟩); ⟨ux u.p m, u.q, u.r, u.s⟩
set_option maxRecDepth 100000 in
set_option maxHeartbeats 1000000 in
theorem add_calls (b : Nat) (v : S4) (w : World) (h : AtS b v w) (m : Int) : Calls Try.prog 48 #[.pointer (some ⟨b, 0, none⟩), .int .u64 m] w fun e w' => e = .returned (.tuple #[]) ∧
    AtS b (addS v m) w'  ∧ w.grownBy w' (some b) := by
  go_enter Try.func48, Try.ntmps48
  go_wp2_with fail
  go_cut [] from 4 to 21 (fun w' => At4 b v.p v.q v.r (ux v.s m) w' ∧ w.grownBy w' (some b))
  case first =>
    obtain ⟨c0, c1, c2, c3, f0, f1, f2, f3⟩ := h
    refine wp_tail 8 (by kernel_rfl) (by kernel_rfl) ?_
    simp only [List.take_succ_cons, List.take_zero, List.drop_succ_cons, List.drop_zero]
    repeat still_step
    refine wpStill_nil ?_
    go_wp2_with fail
    go_meet
    case rel => exact ⟨At4.set3 ⟨c0, c1, c2, c3, f0, f1, f2, f3⟩ _, grown_set (grown_refl _ _) _⟩
  obtain ⟨h4, hg⟩ := hcut
  have HG := Lib.hid hg
  clear hg h
  go_wp2_with fail
  refine (rounds_calls b ⟨v.p, v.q, v.r, ux v.s m⟩ wc h4 2 (by omega) (by omega)).mono ?_
  rintro e w2 ⟨rfl, h5, hg2⟩
  obtain ⟨u, hu⟩ : ∃ u, u = rnd (rnd ⟨v.p, v.q, v.r, ux v.s m⟩) := ⟨_, rfl⟩
  have h5 : AtS b (rnd (rnd ⟨v.p, v.q, v.r, ux v.s m⟩)) w2 := h5
  rw [← hu] at h5
  obtain ⟨c0, c1, c2, c3, f0, f1, f2, f3⟩ := h5
  have HU := Lib.hid hu
  have HG2 := Lib.hid hg2
  clear hu hg2 h4
  go_wp2_with fail
  refine wp_tail 8 (by kernel_rfl) (by kernel_rfl) ?_
  simp only [List.take_succ_cons, List.take_zero, List.drop_succ_cons, List.drop_zero]
  repeat still_step
  refine wpStill_nil ?_
  go_wp2_with fail
  go_end0
  refine ⟨rfl, ?_, grown_set (grown_trans HG.out HG2.out) _⟩
  show At4 b (ux (rnd (rnd ⟨v.p, v.q, v.r, ux v.s m⟩)).p m) (rnd (rnd ⟨v.p, v.q, v.r, ux v.s m⟩)).q (rnd (rnd ⟨v.p, v.q, v.r, ux v.s m⟩)).r (rnd (rnd ⟨v.p, v.q, v.r, ux v.s m⟩)).s _
  rw [← HU.out]
  exact At4.set0 ⟨c0, c1, c2, c3, f0, f1, f2, f3⟩ _
end Go.Proofs.Ytlipkffnllmkgaa
