import Derived.Test.YtladjipicifplaaD9
namespace Go.Proofs.Ytladjipicifplaa
open Go.RowKit Go.Shelf

/-- Which call of the walk comes next. -/
inductive Stage : Nat → Prop where
  | mk (n : Nat) : Stage n

theorem lies_len' {B X room : Nat} {a : Anc} {w : World} (h : Lies B X room a w) (k : Int) (hk : (a.n : Int) = k) :
    Calls Try.prog 29 #[.pointer (some ⟨X, 0, none⟩)] w fun e w' => e = .returned (.int .i64 k) ∧ w' = w := by
  subst hk
  exact lies_len h
def exA1 : Anc := newAnc 3 1
def exA2 : Anc := back (newAnc 3 1) 2
def exA3 : Anc := rem (back (newAnc 3 1) 2) 0
theorem ex_new (w : World) : Calls Try.prog 21 #[.int .i64 3, .int .i64 2] w fun e w' => ∃ X, e = .returned (.tuple #[.pointer (some ⟨X, 0, none⟩), .int .i64 0]) ∧ Lies w.heap.size X 3 exA1 w' ∧ Below w.heap.size w w' :=
  lies_new 3 2 w (by omega) (by omega) (by omega)
theorem ex_add {B X : Nat} {w : World} (h : Lies B X 3 exA1 w) : Calls Try.prog 23 #[.pointer (some ⟨X, 0, none⟩)] w fun e w' => e = .returned (.tuple #[.int .i64 2, .int .i64 0]) ∧ Lies B X 3 exA2 w' ∧ Below B w w' :=
  lies_add h 2 [] rfl
theorem ex_add2 {B X : Nat} {w : World} (h : Lies B X 3 exA2 w) : Calls Try.prog 23 #[.pointer (some ⟨X, 0, none⟩)] w fun e w' => e = .returned (.tuple #[.int .i64 0, .int .i64 16]) ∧ w' = w :=
  lies_add_full h rfl
theorem ex_remove {B X : Nat} {w : World} (h : Lies B X 3 exA2 w) : Calls Try.prog 25 #[.pointer (some ⟨X, 0, none⟩), .int .i64 0] w fun e w' => e = .returned (.int .i64 0) ∧ Lies B X 3 exA3 w' ∧ Below B w w' :=
  lies_remove h 0 (by decide) rfl (by decide)
theorem ex_len {B X : Nat} {w : World} (h : Lies B X 3 exA3 w) : Calls Try.prog 29 #[.pointer (some ⟨X, 0, none⟩)] w fun e w' => e = .returned (.int .i64 2) ∧ w' = w := lies_len h
theorem ex_bucket {B X : Nat} {w : World} (h : Lies B X 3 exA3 w) : Calls Try.prog 27 #[.pointer (some ⟨X, 0, none⟩), .int .u64 5] w fun e w' => ∃ r : Nat, e = .returned (.int .i64 ((r + 1 : Nat) : Int)) ∧ Below w.heap.size w w' := by
  obtain ⟨r, hr⟩ := find_all h.inv.1 5
  refine (lies_bucket h 5 r hr).mono ?_
  rintro e w' ⟨he, hb⟩
  have h1 := hr.low
  cases r with
  | zero => exact absurd h1.1 (by decide)
  | succ r => exact ⟨r, he, hb⟩

attribute [local irreducible] exA1 exA2 exA3
set_option maxRecDepth 100000 in
set_option maxHeartbeats 400000 in
theorem examples12 (w : World) : Calls Try.prog 20 #[] w fun e w' => e = .returned (.bool true) ∧ Below w.heap.size w w' := by
  have ST := Stage.mk 0
  go_enter Try.func20, Try.ntmps20
  go_wp2_with (first
    | (go_at_call 21; have := (ST : Stage 0); clear this; replace ST := Stage.mk 1; refine (ex_new _).mono ?_; rintro e w1 ⟨X, rfl, hA, hB⟩; have HA := Lib.hid hA; have HB := Lib.hid hB; clear hA hB)
    | (go_at_call 21; have := (ST : Stage 1); clear this; replace ST := Stage.mk 2; refine (new_bad 3 4 _ (by omega)).mono ?_; rintro e w1 ⟨rfl, rfl⟩)
    | (go_at_call 23; have := (ST : Stage 2); clear this; replace ST := Stage.mk 3; refine (ex_add HA.out).mono ?_; rintro e w1 ⟨rfl, hA, hB⟩; replace HA := Lib.hid hA; replace HB := Lib.hid (HB.out.trans hB); clear hA hB)
    | (go_at_call 23; have := (ST : Stage 3); clear this; replace ST := Stage.mk 4; refine (ex_add2 HA.out).mono ?_; rintro e w1 ⟨rfl, rfl⟩)
    | (go_at_call 25; refine (ex_remove HA.out).mono ?_; rintro e w1 ⟨rfl, hA, hB⟩; replace HA := Lib.hid hA; replace HB := Lib.hid (HB.out.trans hB); clear hA hB)
    | (go_at_call 29; refine (ex_len HA.out).mono ?_; rintro e w1 ⟨rfl, rfl⟩)
    | (go_at_call 27; refine (ex_bucket HA.out).mono ?_; rintro e w1 ⟨r, rfl, hB⟩; replace HB := Lib.hid (below_step HB.out hB); clear hB; have hr : (0 : Int) < (r : Int) + 1 := by omega))
  go_ret
  exact ⟨rfl, HB.out⟩
end Go.Proofs.Ytladjipicifplaa
