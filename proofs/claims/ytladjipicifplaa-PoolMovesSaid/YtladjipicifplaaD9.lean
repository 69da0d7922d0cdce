import Derived.Test.YtladjipicifplaaD8
import Derived.Test.YtladjipicifplaaWSipSame
import Derived.Test.YtladjipicifplaaWSipMixes
namespace Go.Proofs.Ytladjipicifplaa
open Go.RowKit Go.Shelf

/-- A slice of integers that came in. -/
def RowIn (k : IntKind) (w : World) (a : Option Addr) (len cap : Nat) (zs : List Int) : Prop :=
  (a = none ∧ len = 0 ∧ cap = 0 ∧ zs = []) ∨
  ∃ x, a = some x ∧ len ≤ cap ∧ cap ≤ maxLen ∧ zs.length = cap ∧ (∀ i, i < zs.length → w.cell? (x.add i) = some (.int k (zs.getD i 0))) ∧ ∀ n ∈ zs, (Lit.int k n).wf = true

theorem RowIn.read {k : IntKind} {w w' : World} {a : Option Addr} {len cap : Nat} {zs : List Int} (h : RowIn k w a len cap zs) (hb : Below w.heap.size w w') {i : Nat} (hi : i < len) :
    ∃ x, a = some x ∧ len ≤ cap ∧ cap ≤ maxLen ∧ w'.cell? (x.add i) = some (.int k (zs.getD i 0)) ∧ (Lit.int k (zs.getD i 0)).wf = true := by
  rcases h with ⟨_, h, _⟩ | ⟨x, h1, h2, h3, h4, h5, h6⟩
  · omega
  · have h7 := h5 i (by omega)
    refine ⟨x, h1, h2, h3, ?_, h6 _ ?_⟩
    · rw [hb.cell (p := x.add i) ?_]
      · exact h7
      · by_cases hl : (x.add i).block < w.heap.size
        · exact hl
        · simp [World.cell?, Array.getElem?_eq_none (Nat.le_of_not_lt hl)] at h7
    · rw [List.getD_eq_getElem?_getD, List.getElem?_eq_getElem (by omega)]
      exact List.getElem_mem _
theorem RowIn.len {k : IntKind} {w : World} {a : Option Addr} {len cap : Nat} {zs : List Int} (h : RowIn k w a len cap zs) : len ≤ cap ∧ cap ≤ maxLen := by
  rcases h with ⟨_, h, h2, _⟩ | ⟨x, h1, h2, h3, _⟩
  · exact ⟨by omega, by unfold maxLen; omega⟩
  · exact ⟨h2, h3⟩

theorem u8_nat {x : Int} (h : (Lit.int .u8 x).wf = true) : ∃ z : Nat, x = (z : Int) ∧ z < 256 := by
  simp [Lit.wf, IntKind.min, IntKind.max, IntKind.signed, IntKind.bits] at h
  exact ⟨x.toNat, by omega, by omega⟩
theorem u64_nat {x : Int} (h : (Lit.int .u64 x).wf = true) : ∃ z : Nat, x = (z : Int) ∧ z < 18446744073709551616 := by
  have := u64_bounds h
  exact ⟨x.toNat, by omega, by omega⟩

theorem lies_remove_any {B X room : Nat} {a : Anc} {w : World} (h : Lies B X room a w) (b : Nat) (hb : b < room) :
    Calls Try.prog 25 #[.pointer (some ⟨X, 0, none⟩), .int .i64 (b : Int)] w fun e w' => ∃ (c : Nat) (a' : Anc), e = .returned (.int .i64 (c : Int)) ∧ Lies B X room a' w' ∧ Below B w w' := by
  obtain ⟨I, hr⟩ := h.inv
  by_cases hg : a.gone b = 0
  · by_cases hn : a.n = 1
    · refine (lies_remove_state h b (by omega) hg hn).mono ?_
      rintro e w' ⟨he, rfl⟩
      exact ⟨15, a, he, h, Below.refl _ _⟩
    · refine (lies_remove h b (by omega) hg (by have := I.pos; omega)).mono ?_
      rintro e w' ⟨he, h1, h2⟩
      exact ⟨0, _, he, h1, h2⟩
  · refine (lies_remove_none h (b : Int) (.inr (.inr (by simpa using hg)))).mono ?_
    rintro e w' ⟨he, rfl⟩
    exact ⟨19, a, he, h, Below.refl _ _⟩

set_option maxRecDepth 100000 in
set_option maxHeartbeats 2000000 in
theorem some_calls (r : Nat) (av : Option Addr) (len cap : Nat) (zs : List Int) (w0 w : World) (hw : Below w0.heap.size w0 w) (h : RowIn .u8 w0 av len cap zs) :
    Calls Try.prog 31 #[.int .u8 (r : Int), .slice av len cap] w fun e w' => ∃ X a, e = .returned (.pointer (some ⟨X, 0, none⟩)) ∧ Lies w.heap.size X (2 + r % 39) a w' ∧ Below w.heap.size w w' := by
  obtain ⟨n, hn2⟩ : ∃ n, 2 + r % 39 = n := ⟨_, rfl⟩
  have hn : (2 : Int) + (r : Int) % 39 = (n : Int) := by omega
  have hn0 : ((n : Int) == 0) = false := by simp; omega
  have hl := h.len
  have hl1 : len ≤ cap := hl.1
  have hl2 : cap ≤ 9223372036854775807 := hl.2
  have H := Lib.hid h
  have HW := Lib.hid hw
  have HN := Lib.hid hn2
  rw [hn2]
  clear h hw hn2 hl
  have hb1 : 1 ≤ n := by have := HN.out; omega
  have hb2 : n ≤ 65536 := by have := HN.out; omega
  go_enter Try.func31, Try.ntmps31
  go_wp2_with (go_at_call 21; refine (lies_new n n _ hb1 (Nat.le_refl _) hb2).mono ?_; rintro e w1 ⟨X, rfl, hA, hB⟩; have HA := Lib.hid hA; have HB := Lib.hid hB; clear hA hB)
  go_loopw [8] (fun i wr => ∃ j : Nat, j ≤ len ∧ i = .int .i64 (j : Int) ∧ (∃ a, Lies w.heap.size X n a wr) ∧ Below w.heap.size w wr) (fun i _ => len - (intOf i).toNat)
  case atStart => exact ⟨0, Nat.zero_le _, rfl, ⟨_, HA.out⟩, HB.out⟩
  case round =>
    obtain ⟨j, hj, rfl, ⟨a, hA⟩, hB⟩ := hrel
    have HA := Lib.hid hA
    have HB := Lib.hid hB
    clear hA hB
    by_cases hlt : j < len
    · by_cases h30 : j < 30
      · obtain ⟨x, rfl, _, _, hx, hwf⟩ := H.out.read (HW.out.trans (HB.out.mono HW.out.size)) hlt
        obtain ⟨z, hz, hzb⟩ := u8_nat hwf
        rw [hz] at hx
        have hz2 : (wrap64 (z : Int)).tmod (n : Int) = ((z % n : Nat) : Int) := by rw [show wrap64 (z : Int) = z from by unfold wrap64; omega]; rfl
        clear hwf hz hzb
        go_wp2_with (go_at_call 25; refine (lies_remove_any HA.out (z % n) (Nat.mod_lt _ (by omega))).mono ?_; rintro e w1 ⟨c, a', rfl, hA, hB⟩; have HA := Lib.hid hA; have HB := Lib.hid (HB.out.trans hB); clear hA hB)
        go_roundw
        case rel => exact ⟨j + 1, by omega, by go_num, ⟨_, HA.out⟩, HB.out⟩
        case measure => simp [intOf]; omega
      · go_wp2
        go_ret
        exact ⟨X, a, rfl, HA.out, HB.out⟩
    · go_wp2
      go_ret
      exact ⟨X, a, rfl, HA.out, HB.out⟩
end Go.Proofs.Ytladjipicifplaa
