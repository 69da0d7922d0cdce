import Derived.Test.YtaeiaoldlebhaaaDoorY1
namespace Go.Proofs.YtaeiaoldlebhaaaDoor
open Go.RowKit Go.Shelf Go.Maps Go.Lib

/-- What the reference's Due answers. -/
theorem hasKey_skip {k : Int} {l : List Ent} {i : Nat} {x : Ent} (hx : l[i]? = some x) (hne : x.key ≠ k) (h : hasKey k (l.take i) = none) : hasKey k (l.take (i + 1)) = none := by
  rw [take_next hx]
  exact hasKey_not (fun y hy => by
    rcases List.mem_append.1 hy with hy | hy
    · exact hasKey_none h y hy
    · simp at hy; subst hy; exact hne)
theorem hasKey_hit {k : Int} {l : List Ent} {i : Nat} {x : Ent} (hx : l[i]? = some x) (hk : x.key = k) (h : hasKey k (l.take i) = none) : hasKey k l = some x := by
  have e : l = l.take i ++ x :: l.drop (i + 1) := by
    have h1 := take_next hx
    conv => lhs; rw [← List.take_append_drop (i + 1) l, h1]
    simp
  unfold hasKey at *
  rw [e, List.find?_append, h]
  simp [hk]
section
variable {X c now : Nat} {A : Option Addr} {l : List Ent} {w : World}
set_option maxRecDepth 100000 in
set_option maxHeartbeats 1000000 in
theorem ref59 (h : RefT X A c now l w) (k : Int) :
    Calls Tryd.prog 59 #[.pointer (some ⟨X, 0, none⟩), .int .i64 k] w fun e w' => e = .returned (dueV k l) ∧ w' = w := by
  have HH := Lib.hid h
  obtain ⟨n, hn⟩ : ∃ n, l.length = n := ⟨_, rfl⟩
  have hcb := h.row.1
  have hcm := h.row.2.1
  unfold maxLen at hcm
  have HN := Lib.hid hn
  rw [hn] at hcb
  have hcap : (n : Int) ≤ (c : Int) := by omega
  have hcap2 : (c : Int) ≤ 9223372036854775807 := by omega
  obtain ⟨_, b1, _, _⟩ := h.cells
  rw [hn] at b1
  clear h hn
  go_enter Tryd.func59, Tryd.ntmps59
  go_wp2_with fail
  go_loop [6] (fun vi => ∃ i : Nat, vi = .int .i64 (i : Int) ∧ i ≤ n ∧ hasKey k (l.take i) = none) (fun vi => n - (intOf vi).toNat)
  case atStart => exact ⟨0, rfl, Nat.zero_le _, rfl⟩
  case round =>
    obtain ⟨i, rfl, hi, hno⟩ := hrel
    have HNO := Lib.hid hno
    clear hno
    by_cases hlt : i < n
    · have hltI : (i : Int) < (n : Int) := by omega
      obtain ⟨x, hx⟩ : ∃ x, l[i]? = some x := ⟨l[i]'(by have := HN.out; omega), List.getElem?_eq_getElem _⟩
      obtain ⟨g, off, rfl, hg, c0, c1⟩ := HH.out.row.at hx
      have HX := Lib.hid hx
      obtain ⟨xk, xd, xo⟩ := x
      dsimp only at c0 c1
      clear hx
      by_cases hk : xk = k
      · subst hk
        have hne : (xk == xk) = true := by simp
        go_wp2_with fail
        go_ret2
        refine ⟨?_, rfl⟩
        unfold dueV
        rw [hasKey_hit HX.out rfl HNO.out]
        rfl
      · have hne : (xk == k) = false := by simpa using hk
        have HK := Lib.hid (hasKey_skip HX.out hk HNO.out)
        clear hk
        go_wp2_with fail
        go_round
        case rel => exact ⟨i + 1, by go_num, by omega, HK.out⟩
        case measure => simp [intOf]; omega
    · obtain rfl : n = i := by omega
      go_wp2_with fail
      go_ret2
      have := HNO.out
      rw [List.take_of_length_le (by rw [HN.out]; exact Nat.le_refl _)] at this
      refine ⟨?_, rfl⟩
      unfold dueV
      rw [this]
      rfl
/-- The reference's wheel in memory has turned; nothing else that was there has. -/
def RefTurn (X now : Nat) (A : Option Addr) (l : List Ent) (w w' : World) : Prop := ∃ A' c', RefT X A' c' now l w' ∧ w.grownBy w' (some X) ∧ ∀ g off, A' = some ⟨g, off, none⟩ → (∃ off0, A = some ⟨g, off0, none⟩) ∨ (w.heap.size ≤ g ∧ g < w'.heap.size)
theorem ref_put {w w1 : World} {n now : Nat} {v : Value} {l l' : List Ent} (h : RefT X A c now l w) (hb : Below w.heap.size w w1) (hr : w1.ownsRow w.heap.size 60 2 v n (rowsE l')) (hn : l'.length = n) : RefTurn X now A l' w (w1.setCell ⟨X, 1, none⟩ v) := by
  obtain ⟨p, cp, rfl, _, _⟩ := row_form hr
  have hX1 := (hb.block X h.lt).trans h.box
  have hlow : ∀ g off, p = some ⟨g, off, none⟩ → w.heap.size ≤ g := fun g off e => by
    rcases hr.2 with ⟨hv, _⟩ | ⟨g', cap, cur, hv, hg, _⟩
    · cases hv; cases e
    · cases hv; cases e; exact hg
  have hhi : ∀ g off, p = some ⟨g, off, none⟩ → g < w1.heap.size := fun g off e => by
    subst e
    have h1 := hr.lt g
    rcases hr.2 with ⟨hv, _⟩ | ⟨g', cap, cur, hv, _⟩
    · cases hv
    · cases hv; exact (h1 rfl).2
  have hrow := RowR.of_own hr hn
  refine ⟨p, cp, ⟨?_, hrow.kept (fun g off e _ => Below.heap_setCell _ _ _ _ (fun e2 => by have h1 := hlow g off e; have h2 := h.lt; have e2 : g = X := e2; omega)) (by simp [World.setCell]), fun g off e => by have := hlow g off e; have := h.lt; omega⟩, ?_, fun g off e => .inr ⟨hlow g off e, by simpa [World.setCell] using hhi g off e⟩⟩
  · rw [hn]
    simp [World.setCell, Array.getElem?_modify, hX1]
  · exact ⟨hb.os, hb.tape, hb.output, by simpa [World.setCell] using hb.size, fun i hi hne => (Below.heap_setCell _ _ _ _ (fun e => hne (by rw [e]))).trans (hb.block i hi)⟩
set_option maxRecDepth 100000 in
set_option maxHeartbeats 1000000 in
theorem ref58 (h : RefT X A c now l w) (hl : l.length < 1099511627776) (k : Int) :
    Calls Tryd.prog 58 #[.pointer (some ⟨X, 0, none⟩), .int .i64 k] w fun e w' => e = .returned (.bool (hasKey k l).isSome) ∧ RefTurn X now A (without k l) w w' := by
  have HH := Lib.hid h
  have HD := Lib.hid (ref59 h k)
  have HW := Lib.hid (ref96 h hl k)
  obtain ⟨b, hb⟩ : ∃ b, (hasKey k l).isSome = b := ⟨_, rfl⟩
  obtain ⟨d, hd⟩ : ∃ d : Int, dueV k l = .tuple #[.int .i64 d, .bool b] := by
    unfold dueV
    cases hk : hasKey k l with
    | none => rw [hk] at hb; exact ⟨0, by rw [← hb]; rfl⟩
    | some x => rw [hk] at hb; exact ⟨_, by rw [← hb]; rfl⟩
  rw [hd] at HD
  rw [hb]
  clear h hb hd
  go_enter Tryd.func58, Tryd.ntmps58
  go_wp2_with (first
    | (go_at_call 59; refine HD.out.mono ?_; rintro e w1 ⟨rfl, rfl⟩)
    | (go_at_call 96; refine HW.out.mono ?_; rintro e w2 ⟨v, rfl, hr, hb⟩; have HP := Lib.hid (ref_put HH.out hb hr rfl); have hbx := (hb.block X HH.out.lt).trans HH.out.box; have f1 : w2.frozen? ⟨X, 1, none⟩ = false := (by simp [World.frozen?, hbx]); have c1 : w2.cell? ⟨X, 1, none⟩ = some (.slice A l.length c) := (by simp [World.cell?, hbx]); obtain ⟨p, cp, hv, _, _⟩ := row_form hr; subst hv; clear hr hb hbx))
  go_ret
  exact ⟨rfl, HP.out⟩
end
end Go.Proofs.YtaeiaoldlebhaaaDoor
