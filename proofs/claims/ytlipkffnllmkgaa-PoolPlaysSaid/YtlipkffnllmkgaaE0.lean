import Derived.Test.YtlipkffnllmkgaaD9
namespace Go.Proofs.Ytlipkffnllmkgaa
open Go.RowKit Go.Shelf

/-- Which call of the walk comes next. -/
inductive Stage : Nat → Prop where
  | mk (n : Nat) : Stage n

def exA1 : Anc := newAnc 3 1
def exA2 : Anc := back (newAnc 3 1) 2
def exA3 : Anc := rem (back (newAnc 3 1) 2) 0
theorem ex_new (w : World) : Calls Try.prog 18 #[.int .i64 3, .int .i64 2] w fun e w' => ∃ X, e = .returned (.tuple #[.pointer (some ⟨X, 0, none⟩), .int .i64 0]) ∧ Lies w.heap.size X 3 exA1 w' ∧ Below w.heap.size w w' :=
  lies_new 3 2 w (by omega) (by omega) (by omega)
theorem ex_add {B X : Nat} {w : World} (h : Lies B X 3 exA1 w) : Calls Try.prog 29 #[.pointer (some ⟨X, 0, none⟩)] w fun e w' => e = .returned (.tuple #[.int .i64 2, .int .i64 0]) ∧ Lies B X 3 exA2 w' ∧ Below B w w' :=
  lies_add h 2 [] rfl
theorem ex_add2 {B X : Nat} {w : World} (h : Lies B X 3 exA2 w) : Calls Try.prog 29 #[.pointer (some ⟨X, 0, none⟩)] w fun e w' => e = .returned (.tuple #[.int .i64 0, .int .i64 16]) ∧ w' = w :=
  lies_add_full h rfl
theorem ex_remove {B X : Nat} {w : World} (h : Lies B X 3 exA2 w) : Calls Try.prog 45 #[.pointer (some ⟨X, 0, none⟩), .int .i64 0] w fun e w' => e = .returned (.int .i64 0) ∧ Lies B X 3 exA3 w' ∧ Below B w w' :=
  lies_remove h 0 (by decide) rfl (by decide)
theorem ex_bucket {B X : Nat} {w : World} (h : Lies B X 3 exA3 w) : Calls Try.prog 33 #[.pointer (some ⟨X, 0, none⟩), .int .u64 5] w fun e w' => ∃ r : Nat, e = .returned (.int .i64 ((r + 1 : Nat) : Int)) ∧ Below w.heap.size w w' := by
  obtain ⟨r, hr⟩ := find_all h.inv.1 5
  refine (lies_bucket h 5 r hr).mono ?_
  rintro e w' ⟨he, hb⟩
  have h1 := hr.low
  cases r with
  | zero => exact absurd h1.1 (by decide)
  | succ r => exact ⟨r, he, hb⟩

attribute [local irreducible] exA1 exA2 exA3
end Go.Proofs.Ytlipkffnllmkgaa
