import Derived.Test.YtaeiaoldlebhaaaDoorX1
namespace Go.Proofs.YtaeiaoldlebhaaaDoor
open Go.RowKit Go.Maps Go.Lib

/-- A slice of integers that came in. -/
def RowIn (k : IntKind) (w : World) (a : Option Addr) (len cap : Nat) (zs : List Int) : Prop :=
  (a = none ∧ len = 0 ∧ cap = 0 ∧ zs = []) ∨
  ∃ x, a = some x ∧ len ≤ cap ∧ cap ≤ maxLen ∧ zs.length = cap ∧ (∀ i, i < zs.length → w.cell? (x.add i) = some (.int k (zs.getD i 0))) ∧ ∀ n ∈ zs, (Lit.int k n).wf = true
theorem RowIn.read {k : IntKind} {w w' : World} {a : Option Addr} {len cap : Nat} {zs : List Int} (h : RowIn k w a len cap zs) (hb : Below w.heap.size w w') {i : Nat} (hi : i < len) :
    ∃ x, a = some x ∧ len ≤ cap ∧ cap ≤ maxLen ∧ w'.cell? (x.add i) = some (.int k (zs.getD i 0)) ∧ (Lit.int k (zs.getD i 0)).wf = true := by
  rcases h with ⟨_, h, _⟩ | ⟨x, h1, h2, h3, h4, h5, h6⟩
  · omega
  · have h7 := h5 i (by omega)
    refine ⟨x, h1, h2, h3, ?_, h6 _ ?_⟩
    · rw [hb.cell (p := x.add i) ?_]
      · exact h7
      · by_cases hl : (x.add i).block < w.heap.size
        · exact hl
        · simp [World.cell?, Array.getElem?_eq_none (Nat.le_of_not_lt hl)] at h7
    · rw [List.getD_eq_getElem?_getD, List.getElem?_eq_getElem (by omega)]
      exact List.getElem_mem _
theorem RowIn.len {k : IntKind} {w : World} {a : Option Addr} {len cap : Nat} {zs : List Int} (h : RowIn k w a len cap zs) : len ≤ cap ∧ cap ≤ maxLen := by
  rcases h with ⟨_, h, h2, _⟩ | ⟨x, h1, h2, h3, _⟩
  · exact ⟨by omega, by unfold maxLen; omega⟩
  · exact ⟨h2, h3⟩

/-- n are armed, each for its own time. -/
structure Arms (T : Nat → Nat) (n : Nat) (L : List Ent) : Prop where
  len : L.length = n
  mem : ∀ x ∈ L, ∃ i, i < n ∧ x.key = (i : Int) ∧ x.due = T i
theorem Arms.none (T : Nat → Nat) : Arms T 0 [] := ⟨rfl, fun x hx => by cases hx⟩
theorem Arms.step {T : Nat → Nat} {n now o : Nat} {L : List Ent} (h : Arms T n L) (hw : Wh now o L) : Arms T (n + 1) (armL (n : Int) (T n) (o + 1) L) := by
  have hp := armL_perm (k := (n : Int)) (t := T n) (o := o + 1) hw.up
  have hno : without (n : Int) L = L := without_none (fun x hx => by obtain ⟨i, hi, e, _⟩ := h.mem x hx; omega)
  rw [hno] at hp
  refine ⟨by rw [hp.length_eq, List.length_cons, h.len], fun x hx => ?_⟩
  rcases List.mem_cons.1 (hp.subset hx) with rfl | hx
  · exact ⟨n, by omega, rfl, rfl⟩
  · obtain ⟨i, hi, e⟩ := h.mem x hx
    exact ⟨i, by omega, e⟩
/-- What has been told, by keys. -/
def metF (D : List Ent) (k : Int) : Option Value := if k ∈ D.map Ent.key then some (.bool true) else none
theorem metF_snoc (D : List Ent) (x : Ent) (k : Int) : metF (D ++ [x]) k = if k = x.key then some (.bool true) else metF D k := by
  unfold metF
  rw [List.map_append]
  by_cases e : k = x.key
  · rw [if_pos (by simp [e]), if_pos e]
  · rw [if_neg e]
    by_cases e2 : k ∈ D.map Ent.key
    · rw [if_pos e2, if_pos (List.mem_append_left _ e2)]
    · rw [if_neg e2, if_neg (by simp [e] at e2 ⊢; exact e2)]
def lastDue (D : List Ent) : Nat := match D.getLast? with
  | none => 0
  | some x => x.due
theorem lastDue_snoc (D : List Ent) (x : Ent) : lastDue (D ++ [x]) = x.due := by unfold lastDue; simp
theorem lastDue_le {D : List Ent} {x : Ent} (h : Up (D ++ [x])) : lastDue D ≤ x.due := by
  unfold lastDue
  cases hl : D.getLast? with
  | none => exact Nat.zero_le _
  | some y =>
    have h2 := (List.pairwise_append.1 h).2.2 y (List.mem_of_getLast? hl) x (by simp)
    exact Ent.lt_due h2
theorem metF_new {D : List Ent} {x : Ent} (h : ((D ++ [x]).map Ent.key).Nodup) : metF D x.key = none := by
  unfold metF
  rw [List.map_append, List.nodup_append] at h
  exact if_neg (fun hx => h.2.2 x.key hx x.key (by simp) rfl)
theorem zeroBool (w : World) : (zeroValue 4).run Tryd.prog w = .ok (.bool false) w := by kernel_rfl
end Go.Proofs.YtaeiaoldlebhaaaDoor
