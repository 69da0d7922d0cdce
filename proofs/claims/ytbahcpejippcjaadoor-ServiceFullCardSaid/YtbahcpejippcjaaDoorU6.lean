import Derived.Test.YtbahcpejippcjaaDoorU5
import Derived.Deep.LoopGhost
namespace Go.Proofs.YtbahcpejippcjaaDoor
open Go.RowKit Go.Shelf Go.Maps

def svcD (i : Nat) : Svc := ⟨6, 9, (i : Int), true, 0⟩
/-- The table with the first j ones. -/
def fillF (j k : Nat) : Svc := if 1 ≤ k ∧ k ≤ j then svcD k else zeroS
theorem fillF_zero : fillF 0 = fun _ => zeroS := by funext k; unfold fillF; rw [if_neg (by omega)]
theorem fillF_in {j k : Nat} (h1 : 1 ≤ k) (h2 : k ≤ j) : fillF j k = svcD k := if_pos ⟨h1, h2⟩
theorem fillF_out {j k : Nat} (h : ¬ (1 ≤ k ∧ k ≤ j)) : fillF j k = zeroS := if_neg h
theorem fillF_upd (j : Nat) : upd (fillF j) (j + 1) (svcD (j + 1)) = fillF (j + 1) := by
  funext k
  by_cases e : k = j + 1
  · subst e; rw [upd_same, fillF_in (by omega) (by omega)]
  · rw [upd_other _ _ e]
    unfold fillF
    by_cases h : 1 ≤ k ∧ k ≤ j
    · rw [if_pos h, if_pos (by omega)]
    · rw [if_neg h, if_neg (by omega)]
theorem svcD_right {i : Nat} (h1 : 1 ≤ i) (h2 : i ≤ 65535) : rightB (svcD i) = true := by
  unfold rightB svcD
  simp
  omega
theorem svcD_ok (i : Nat) : (svcD i).ok := ⟨by simp [svcD], by simp [svcD]⟩
theorem fill_has {j k : Nat} {p q : Int} {v : Nat} (h : Has (fillF j) p v q k) : 1 ≤ k ∧ k ≤ j ∧ p = 6 ∧ v = 9 ∧ q = (k : Int) := by
  obtain ⟨h1, h2, h3, h4, h5, h6⟩ := h
  by_cases e : 1 ≤ k ∧ k ≤ j
  · rw [fillF_in e.1 e.2] at h4 h5 h6
    exact ⟨e.1, e.2, h4.symm, h5.symm, h6.symm⟩
  · rw [fillF_out e] at h3
    exact absurd rfl h3
theorem fill_is {j k : Nat} (h1 : 1 ≤ k) (h2 : k ≤ j) (h64 : k ≤ 64) : Has (fillF j) 6 9 (k : Int) k := by
  refine ⟨h1, h64, ?_, ?_, ?_, ?_⟩ <;> rw [fillF_in h1 h2] <;> unfold svcD
  · simp
  · rfl
  · rfl
  · rfl
/-- The 65th one and further ones are refused. -/
theorem full_add {N T M i : Nat} {w : World} (h : SvcTab N T M (fillF 64) w) (h1 : 64 < i) (h2 : i ≤ 70) :
    Calls Tryd.prog 18 #[.pointer (some ⟨T, 0, none⟩), .agg #[.int .i64 6, .int .u32 9, .int .i64 (i : Int), .bool true, .int .u32 0]] w fun e w' => e = .returned (.tuple #[.int .i64 0, .int .i64 16]) ∧ Below w.heap.size w w' :=
  tadd_full h (svcD i) (svcD_ok i) (svcD_right (by omega) (by omega)) (fun k hk => by have := fill_has hk; simp [svcD] at this; omega) (fun k a b => by rw [fillF_in a b]; simp [svcD])
theorem next_add {N T M i : Nat} {w : World} (h : SvcTab N T M (fillF i) w) (hN : N < 1000000) (h2 : i + 1 ≤ 64) :
    Calls Tryd.prog 18 #[.pointer (some ⟨T, 0, none⟩), .agg #[.int .i64 6, .int .u32 9, .int .i64 ((i + 1 : Nat) : Int), .bool true, .int .u32 0]] w fun e w' => e = .returned (.tuple #[.int .i64 ((i + 1 : Nat) : Int), .int .i64 0]) ∧ SvcTab (N + 1) T M (fillF (i + 1)) w' ∧ Two T M w w' := by
  refine (tadd_ok (y := i + 1) h hN (svcD (i + 1)) (svcD_ok _) (svcD_right (by omega) (by omega)) (fun k hk => by have := fill_has hk; simp [svcD] at this; omega) (by omega) h2 (by rw [fillF_out (by omega)]; rfl) (fun k a b => by rw [fillF_in a (by omega)]; simp [svcD])).mono ?_
  rintro e w' ⟨he, h3, h4⟩
  rw [fillF_upd] at h3
  exact ⟨he, h3, h4⟩
def svcN (k : Nat) : Svc := ⟨6, 9, (k : Int), false, 5⟩
theorem again_add {N T M k : Nat} {w : World} (h : SvcTab N T M (fillF 64) w) (h1 : 1 ≤ k) (h2 : k ≤ 64) :
    Calls Tryd.prog 18 #[.pointer (some ⟨T, 0, none⟩), .agg #[.int .i64 6, .int .u32 9, .int .i64 (k : Int), .bool false, .int .u32 5]] w fun e w' => e = .returned (.tuple #[.int .i64 0, .int .i64 20]) ∧ Below w.heap.size w w' :=
  tadd_there h (svcN k) ⟨by simp [svcN], by simp [svcN]⟩ (by unfold rightB svcN; simp; omega) (fill_is h1 h2 h2)
def svcU (k : Nat) : Svc := ⟨17, 9, (k : Int), true, 0⟩
theorem udp_add {N T M k : Nat} {w : World} (h : SvcTab N T M (upd (fillF 64) k zeroS) w) (hN : N < 1000000) (h1 : 1 ≤ k) (h2 : k ≤ 64) :
    Calls Tryd.prog 18 #[.pointer (some ⟨T, 0, none⟩), .agg #[.int .i64 17, .int .u32 9, .int .i64 (k : Int), .bool true, .int .u32 0]] w fun e w' => e = .returned (.tuple #[.int .i64 (k : Int), .int .i64 0]) ∧ SvcTab (N + 1) T M (upd (upd (fillF 64) k zeroS) k (svcU k)) w' ∧ Two T M w w' := by
  refine tadd_ok (y := k) h hN (svcU k) ⟨by simp [svcU], by simp [svcU]⟩ (by unfold rightB svcU; simp; omega) (fun j hj => ?_) h1 h2 (by rw [upd_same]; rfl) (fun j a b => by rw [upd_other _ _ (by omega), fillF_in a (by omega)]; simp [svcD])
  obtain ⟨a, b, c, d, _, _⟩ := hj
  by_cases e : j = k
  · subst e; rw [upd_same] at c; exact c rfl
  · rw [upd_other _ _ e, fillF_in a b] at d
    simp [svcD, svcU] at d
theorem rem_has {k j : Nat} {p q : Int} {v : Nat} (h : Has (upd (fillF 64) k zeroS) p v q j) : j ≠ k ∧ p = 6 ∧ v = 9 ∧ q = (j : Int) := by
  obtain ⟨a, b, c, d, e1, f1⟩ := h
  by_cases e : j = k
  · subst e; rw [upd_same] at c; exact absurd rfl c
  · rw [upd_other _ _ e, fillF_in a b] at d e1 f1
    exact ⟨e, d.symm, e1.symm, f1.symm⟩
end Go.Proofs.YtbahcpejippcjaaDoor
