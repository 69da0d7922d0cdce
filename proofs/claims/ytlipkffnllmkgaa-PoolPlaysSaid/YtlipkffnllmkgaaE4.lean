import Derived.Test.YtlipkffnllmkgaaE1
import Derived.Sort.QuietIn
namespace Go.Proofs.Ytlipkffnllmkgaa
open Go.RowKit Go.Shelf

theorem workTo_rem (a : Anc) (b : Nat) (hg : a.gone b = 0) (hn : 2 ≤ a.n) : ∀ k, (workTo (rem a b) k).length + (if b < k then 1 else 0) = (workTo a k).length
  | 0 => by simp [workTo]
  | k + 1 => by
    have ih := workTo_rem a b hg hn k
    by_cases e : k = b
    · subst e
      have h1 : (rem a k).gone k ≠ 0 := by show upd a.gone k (a.n - 1) k ≠ 0; rw [upd_same]; omega
      rw [workTo_no _ _ h1, workTo_yes _ _ hg]
      simp at ih ⊢
      exact ih
    · have h1 : (rem a b).gone k = a.gone k := upd_ne _ _ e
      by_cases h2 : a.gone k = 0
      · rw [workTo_yes _ _ (h1.trans h2), workTo_yes _ _ h2]
        simp only [List.length_append, List.length_cons, List.length_nil]
        by_cases h3 : b < k
        · rw [if_pos h3] at ih; rw [if_pos (by omega)]; omega
        · rw [if_neg h3] at ih; rw [if_neg (by omega)]; omega
      · rw [workTo_no _ _ (by rw [h1]; exact h2), workTo_no _ _ h2]
        by_cases h3 : b < k
        · rw [if_pos h3] at ih; rw [if_pos (by omega)]; omega
        · rw [if_neg h3] at ih; rw [if_neg (by omega)]; omega
theorem workTo_len {room : Nat} (hr : 1 ≤ room) {a : Anc} (h : Reach room a) : (workTo a room).length = a.n := by
  induction h with
  | full =>
    unfold workTo full
    dsimp only
    rw [List.filter_eq_self.2 (by intro b _; rfl), List.length_range]
  | rem a b h hb hg h2 ih =>
    have := workTo_rem a b hg h2 room
    rw [if_pos (by have := (h.inv hr).2; omega)] at this
    show (workTo (rem a b) room).length = a.n - 1
    omega

/-- The last one handed on, or -1. -/
def lastOf (pre : List Nat) : Int := match pre.getLast? with | some y => (y : Int) | none => -1
theorem lastOf_snoc (pre : List Nat) (x : Nat) : lastOf (pre ++ [x]) = (x : Int) := by unfold lastOf; simp
theorem lastOf_lt {a : Anc} {k : Nat} {pre : List Nat} {x : Nat} (h : pre ++ [x] <+: workTo a k) : lastOf pre < (x : Int) := by
  have hp : List.Pairwise (· < ·) (workTo a k) := List.Pairwise.filter _ List.pairwise_lt_range
  have hq := hp.sublist h.sublist
  unfold lastOf
  cases e : pre.getLast? with
  | none => simp; omega
  | some y =>
    have hy : y ∈ pre := List.mem_of_getLast? e
    have := (List.pairwise_append.1 hq).2.2 y hy x (by simp)
    simp
    exact this

theorem cell_cells {w : World} {b i : Nat} {v : Value} (h : w.cell? ⟨b, i, none⟩ = some v) {o : Obj} (ho : w.heap[b]? = some o) : o.isCells = true := by
  unfold World.cell? at h
  dsimp only at h
  rw [ho] at h
  cases o <;> first | rfl | simp at h
theorem Moves.others {X L base : Nat} {sv : Value} {a : Anc} {w w' : World} {row : Option Nat} (h : AncAt X L base sv a w) (hp : 1 ≤ a.room) (hm : Moves X L row w w') (hrow : row = none ∨ row = sv.ownBlock) : KeepsOthers w w' := by
  refine ⟨hm.size, fun k o hk ho => ?_⟩
  refine (hm.block k (Array.getElem?_eq_some_iff.1 hk).1 ?_ ?_ ?_).trans hk
  · rintro rfl
    rw [cell_cells h.fields.1 hk] at ho; cases ho
  · rintro rfl
    rw [cell_cells (h.places 0 hp).1.1 hk] at ho; cases ho
  · intro e
    rcases hrow with hr | hr
    · rw [hr] at e; cases e
    · rw [hr] at e
      rcases h.own.2 with ⟨e', _⟩ | ⟨g, cap, cur, e', _, hgb, _⟩
      · rw [e'] at e; cases e
      · rw [e'] at e
        have e2 : k = g := by simpa [Value.ownBlock] using e
        subst e2
        rw [hgb] at hk; cases hk; cases ho
theorem lies_remove_k {B X room : Nat} {a : Anc} {w : World} (h : Lies B X room a w) (b : Nat) (hb : b < a.room) (hg : a.gone b = 0) (hn : 2 ≤ a.n) :
    Calls Try.prog 45 #[.pointer (some ⟨X, 0, none⟩), .int .i64 (b : Int)] w fun e w' => e = .returned (.int .i64 0) ∧ Lies B X room (rem a b) w' ∧ Below B w w' ∧ KeepsOthers w w' := by
  obtain ⟨I, hr⟩ := h.inv
  obtain ⟨L, base, sv, h, h1, h2, h3, h4, h5⟩ := h
  refine (remove_ok X L base sv a w b h I hb (by omega) hg (a.n - 1) (by omega) (by omega)).mono ?_
  rintro e w' ⟨he, sv', hA, hM⟩
  exact ⟨he, ⟨L, base, sv', hA, h1, h2, h3.rem a b hb hg hn, h4, h5⟩, Below.moves h h1 h2 hM, Moves.others h (by omega) hM (.inr rfl)⟩
theorem lies_add_k {B X room : Nat} {a : Anc} {w : World} (h : Lies B X room a w) (b : Nat) (st : List Nat) (hs : a.stack = b :: st) :
    Calls Try.prog 29 #[.pointer (some ⟨X, 0, none⟩)] w fun e w' => e = .returned (.tuple #[.int .i64 (b : Int), .int .i64 0]) ∧ Lies B X room (back a b) w' ∧ Below B w w' ∧ KeepsOthers w w' := by
  obtain ⟨I, hr⟩ := h.inv
  obtain ⟨L, base, sv, h, h1, h2, h3, h4, h5⟩ := h
  obtain ⟨p1, p2, _⟩ := h3.pop h4 hs
  refine (add_ok X L base sv a w b st h I (by omega) hs (by omega)).mono ?_
  rintro e w' ⟨he, sv', hA, hM, _⟩
  exact ⟨he, ⟨L, base, sv', hA, h1, h2, p1, h4, h5⟩, Below.moves_none h h1 h2 hM, Moves.others h (by omega) hM (.inl rfl)⟩
end Go.Proofs.Ytlipkffnllmkgaa
