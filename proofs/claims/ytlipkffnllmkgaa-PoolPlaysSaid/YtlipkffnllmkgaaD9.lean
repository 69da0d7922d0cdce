import Derived.Test.YtlipkffnllmkgaaD8
import Derived.Test.YtlipkffnllmkgaaWSipSame
import Derived.Test.YtlipkffnllmkgaaWSipMixes
namespace Go.Proofs.Ytlipkffnllmkgaa
open Go.RowKit Go.Shelf

/-- A slice of integers that came in. -/
def RowIn (k : IntKind) (w : World) (a : Option Addr) (len cap : Nat) (zs : List Int) : Prop :=
  (a = none ∧ len = 0 ∧ cap = 0 ∧ zs = []) ∨
  ∃ x, a = some x ∧ len ≤ cap ∧ cap ≤ maxLen ∧ zs.length = cap ∧ (∀ i, i < zs.length → w.cell? (x.add i) = some (.int k (zs.getD i 0))) ∧ ∀ n ∈ zs, (Lit.int k n).wf = true

theorem RowIn.read {k : IntKind} {w w' : World} {a : Option Addr} {len cap : Nat} {zs : List Int} (h : RowIn k w a len cap zs) (hb : Below w.heap.size w w') {i : Nat} (hi : i < len) :
    ∃ x, a = some x ∧ len ≤ cap ∧ cap ≤ maxLen ∧ w'.cell? (x.add i) = some (.int k (zs.getD i 0)) ∧ (Lit.int k (zs.getD i 0)).wf = true := by
  rcases h with ⟨_, h, _⟩ | ⟨x, h1, h2, h3, h4, h5, h6⟩
  · omega
  · have h7 := h5 i (by omega)
    refine ⟨x, h1, h2, h3, ?_, h6 _ ?_⟩
    · rw [hb.cell (p := x.add i) ?_]
      · exact h7
      · by_cases hl : (x.add i).block < w.heap.size
        · exact hl
        · simp [World.cell?, Array.getElem?_eq_none (Nat.le_of_not_lt hl)] at h7
    · rw [List.getD_eq_getElem?_getD, List.getElem?_eq_getElem (by omega)]
      exact List.getElem_mem _
theorem RowIn.len {k : IntKind} {w : World} {a : Option Addr} {len cap : Nat} {zs : List Int} (h : RowIn k w a len cap zs) : len ≤ cap ∧ cap ≤ maxLen := by
  rcases h with ⟨_, h, h2, _⟩ | ⟨x, h1, h2, h3, _⟩
  · exact ⟨by omega, by unfold maxLen; omega⟩
  · exact ⟨h2, h3⟩

theorem u8_nat {x : Int} (h : (Lit.int .u8 x).wf = true) : ∃ z : Nat, x = (z : Int) ∧ z < 256 := by
  simp [Lit.wf, IntKind.min, IntKind.max, IntKind.signed, IntKind.bits] at h
  exact ⟨x.toNat, by omega, by omega⟩
theorem u64_nat {x : Int} (h : (Lit.int .u64 x).wf = true) : ∃ z : Nat, x = (z : Int) ∧ z < 18446744073709551616 := by
  have := u64_bounds h
  exact ⟨x.toNat, by omega, by omega⟩

theorem lies_remove_any {B X room : Nat} {a : Anc} {w : World} (h : Lies B X room a w) (b : Nat) (hb : b < room) :
    Calls Try.prog 45 #[.pointer (some ⟨X, 0, none⟩), .int .i64 (b : Int)] w fun e w' => ∃ (c : Nat) (a' : Anc), e = .returned (.int .i64 (c : Int)) ∧ Lies B X room a' w' ∧ Below B w w' := by
  obtain ⟨I, hr⟩ := h.inv
  by_cases hg : a.gone b = 0
  · by_cases hn : a.n = 1
    · refine (lies_remove_state h b (by omega) hg hn).mono ?_
      rintro e w' ⟨he, rfl⟩
      exact ⟨15, a, he, h, Below.refl _ _⟩
    · refine (lies_remove h b (by omega) hg (by have := I.pos; omega)).mono ?_
      rintro e w' ⟨he, h1, h2⟩
      exact ⟨0, _, he, h1, h2⟩
  · refine (lies_remove_none h (b : Int) (.inr (.inr (by simpa using hg)))).mono ?_
    rintro e w' ⟨he, rfl⟩
    exact ⟨19, a, he, h, Below.refl _ _⟩

end Go.Proofs.Ytlipkffnllmkgaa
