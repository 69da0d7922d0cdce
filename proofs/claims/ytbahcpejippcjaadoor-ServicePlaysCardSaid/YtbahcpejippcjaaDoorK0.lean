import Derived.Test.YtbahcpejippcjaaDoorShelf
import Derived.Test.YtbahcpejippcjaaDoorChecked
import Derived.Lib.LaidTab
import Derived.Lib.Hide
import Derived.WalkKit
import Derived.Below
import Derived.Lib.SmallJoins
import Derived.Lib.AppendIntMem
namespace Go.Proofs.YtbahcpejippcjaaDoor
open Go.RowKit Go.Shelf

theorem var_below {P : Program} {w w' : World} {n : String} {cs : Array Value} (h : w.var? P n = some cs) (hb : Below w.heap.size w w') : w'.var? P n = some cs := by
  unfold World.var? at h ⊢
  cases hg : P.globalNamed n with
  | none => simp [hg] at h
  | some g =>
    rw [hg] at h
    simp only [Option.bind_some] at h ⊢
    have hlt : g < w.heap.size := by
      rcases Nat.lt_or_ge g w.heap.size with h1 | h1
      · exact h1
      · rw [Array.getElem?_eq_none h1] at h; simp at h
    rw [hb.block g hlt]
    exact h

/-- What the walks ask of the variables of the library: the table of tens, the longest length, both errors. -/
structure Env (w : World) : Prop where
  tab : Lib.TabIs Tryd.prog w "internal/strconv.uint64pow10" .u64 Lib.pow10Tab
  len : ∃ m, w.cell? ⟨0, 0, none⟩ = some (.int .i64 m)
  syn : ∃ tp p, w.var? Tryd.prog "strconv.ErrSyntax" = some #[.iface tp p]
  rng : ∃ tp p, w.var? Tryd.prog "strconv.ErrRange" = some #[.iface tp p]

theorem Env.below {w w' : World} (h : Env w) (hb : Below w.heap.size w w') : Env w' := by
  obtain ⟨m, hm⟩ := h.len
  obtain ⟨tp, p, hs⟩ := h.syn
  obtain ⟨tq, q, hr⟩ := h.rng
  exact ⟨var_below h.tab hb, ⟨m, (hb.cell (World.block_lt_of_cell? _ _ hm)).trans hm⟩, ⟨tp, p, var_below hs hb⟩, ⟨tq, q, var_below hr hb⟩⟩
theorem below_step {w0 w w' : World} (h : Below w0.heap.size w0 w) (hb : Below w.heap.size w w') : Below w0.heap.size w0 w' := h.trans (hb.mono h.size)
theorem below_drewN (w : World) (n : Nat) : Below w.heap.size w (w.drewN n) := ⟨rfl, rfl, rfl, Nat.le_refl _, fun _ _ => rfl⟩

/-- strconv.Itoa, in the frame that all walks take. -/
theorem itoa_calls (n : Int) (h0 : -9223372036854775808 ≤ n) (h1 : n ≤ 9223372036854775807) (w : World) (h : Env w) :
    Calls Tryd.prog 29 #[.int .i64 n] w fun e w' => e = .returned (.string ⟨(Lib.itoa n).toArray⟩) ∧ Below w.heap.size w w' := by
  refine (Tryd.strconv_Itoa n h0 h1 w h.tab).mono ?_
  rintro e w' ⟨he, k, os, rfl⟩
  exact ⟨he, Lib.below_grow _ w (Nat.le_refl _) k os⟩

/-- strconv.Atoi: the number, or an error that is not nil. -/
theorem atoi_ok (s : ByteArray) (hs : s.size ≤ 281474976710656) (v : Int) (hv : Lib.atoiAll s.data.toList = .ok v) (w : World) :
    Calls Tryd.prog 35 #[.string s] w fun e w' => e = .returned (.tuple #[.int .i64 v, .nilIface]) ∧ Below w.heap.size w w' := by
  refine (Tryd.strconv_Atoi_ok s (by omega) v hv w).mono ?_
  rintro e w' ⟨he, rfl | ⟨t, rfl⟩⟩
  · exact ⟨he, Below.refl _ _⟩
  · exact ⟨he, Joins.below_bytesWorld _ w 5 t (Nat.le_refl _)⟩
theorem atoi_bad (s : ByteArray) (hs : s.size ≤ 281474976710656) (hv : ∀ v, Lib.atoiAll s.data.toList ≠ .ok v) (w : World) (h : Env w) :
    Calls Tryd.prog 35 #[.string s] w fun e w' => ∃ (n : Int) (N : Nat), (n < 1 ∨ 65535 < n) ∧ e = .returned (.tuple #[.int .i64 n, .iface 106 (.pointer (some ⟨N, 0, none⟩))]) ∧ Below w.heap.size w w' := by
  rcases hc : Lib.atoiAll s.data.toList with v | _ | _
  · exact absurd hc (hv v)
  · obtain ⟨tp, p, hp⟩ := h.syn
    refine (Any.strconv_Atoi_syntax_var Tryd.laysC172 s hs hc tp p w hp).mono ?_
    rintro e w' ⟨N, he, _, _, hb⟩
    exact ⟨_, N, .inl (by omega), he, hb⟩
  · obtain ⟨tp, p, hp⟩ := h.rng
    refine (Tryd.strconv_Atoi_range_var s hs hc tp p w hp).mono ?_
    rintro e w' ⟨N, he, _, _, hb⟩
    exact ⟨_, N, by unfold Lib.atoiSat; split <;> omega, he, hb⟩
end Go.Proofs.YtbahcpejippcjaaDoor
