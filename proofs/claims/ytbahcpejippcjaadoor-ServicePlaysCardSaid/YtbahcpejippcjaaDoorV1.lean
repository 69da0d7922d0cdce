import Derived.Test.YtbahcpejippcjaaDoorU5
import Derived.Test.YtbahcpejippcjaaDoorTE
import Derived.Laws.AppendOwnNone
namespace Go.Proofs.YtbahcpejippcjaaDoor
open Go.RowKit Go.Shelf

/-! ### The reference's table -/
def rowV (r : Nat × Svc) : List Value := [.int .i64 (r.1 : Int), .int .i64 r.2.proto, .int .u32 (r.2.vip : Int), .int .i64 r.2.port, .bool r.2.dsr, .int .u32 (r.2.nat : Int)]
def rowsV (l : List (Nat × Svc)) : List Value := l.flatMap rowV
theorem rowV_len (r : Nat × Svc) : (rowV r).length = 6 := rfl
theorem rowsV_len : ∀ l : List (Nat × Svc), (rowsV l).length = l.length * 6
  | [] => rfl
  | r :: l => by unfold rowsV; rw [List.flatMap_cons, List.length_append]; have := rowsV_len l; unfold rowsV at this; rw [this, rowV_len, List.length_cons]; omega
theorem rowsV_snoc (l : List (Nat × Svc)) (r : Nat × Svc) : rowsV (l ++ [r]) = rowsV l ++ rowV r := by unfold rowsV; rw [List.flatMap_append]; simp
theorem rowsV_app (l m : List (Nat × Svc)) : rowsV (l ++ m) = rowsV l ++ rowsV m := by unfold rowsV; rw [List.flatMap_append]
theorem rowsV_at : ∀ (l : List (Nat × Svc)) (i j : Nat) (r : Nat × Svc), l[i]? = some r → j < 6 → (rowsV l)[i * 6 + j]? = (rowV r)[j]?
  | [], i, j, r, h, _ => by simp at h
  | x :: l, 0, j, r, h, hj => by
    simp at h; subst h
    unfold rowsV
    rw [List.flatMap_cons, List.getElem?_append_left (by rw [rowV_len]; omega)]
    congr 1; omega
  | x :: l, i + 1, j, r, h, hj => by
    have := rowsV_at l i j r (by simpa using h) hj
    unfold rowsV at this ⊢
    rw [List.flatMap_cons, List.getElem?_append_right (by rw [rowV_len]; omega), rowV_len, show (i + 1) * 6 + j - 6 = i * 6 + j by omega]
    exact this
theorem rowsV_one (l : List (Nat × Svc)) : ∀ u ∈ rowsV l, u.oneCell' = true := by
  intro u hu
  unfold rowsV at hu
  obtain ⟨r, _, hu⟩ := List.mem_flatMap.1 hu
  simp only [rowV, List.mem_cons, List.mem_nil_iff, or_false] at hu
  rcases hu with rfl | rfl | rfl | rfl | rfl | rfl <;> rfl
/-- The reference's table at X: its rows lie from base on. -/
structure RefT (base X : Nat) (A : Option Addr) (c : Nat) (l : List (Nat × Svc)) (W : World) : Prop where
  box : W.heap[X]? = some (.cells #[.slice A l.length c] 49 (0, 0))
  own : W.ownsRow base 60 6 (.slice A l.length c) l.length (rowsV l)
  lo : X < base
  hb : base ≤ W.heap.size
def RefIs (base X : Nat) (l : List (Nat × Svc)) (W : World) : Prop := ∃ A c, RefT base X A c l W
theorem RefT.form {base X c : Nat} {A : Option Addr} {l : List (Nat × Svc)} {W : World} (h : RefT base X A c l W) : (l = [] ∧ A = none ∧ c = 0) ∨ ∃ g, A = some ⟨g, 0, none⟩ ∧ base ≤ g ∧ g < W.heap.size ∧ l.length ≤ c := by
  obtain ⟨_, ⟨h1, h2⟩ | ⟨g, cap, cur, h1, h2, h3, h4, _⟩⟩ := h.own
  · injection h1 with e1 e2 e3
    exact .inl ⟨List.length_eq_zero_iff.1 h2, e1, e3⟩
  · injection h1 with e1 e2 e3
    exact .inr ⟨g, e1, h2, (Array.getElem?_eq_some_iff.1 h3).1, by omega⟩
theorem RefT.cells {base X g c : Nat} {l : List (Nat × Svc)} {W : World} (h : RefT base X (some ⟨g, 0, none⟩) c l W) {k : Nat} {v : Value} (hv : (rowsV l)[k]? = some v) : W.cell? ⟨g, k, none⟩ = some v := by
  obtain ⟨_, ⟨h1, _⟩ | ⟨g', cap, cur, h1, h2, h3, h4, h5, h6, h7⟩⟩ := h.own
  · injection h1 with e1 e2 e3
    cases e1
  · injection h1 with e1 e2 e3
    obtain rfl : g = g' := by injection e1 with e1; injection e1
    rw [← h7, List.getElem?_take] at hv
    split at hv
    · simp [World.cell?, h3]
      simpa using hv
    · cases hv
/-- Row i. -/
structure RowAt (g i : Nat) (r : Nat × Svc) (W : World) : Prop where
  c0 : W.cell? ⟨g, i * 6, none⟩ = some (.int .i64 (r.1 : Int))
  c1 : W.cell? ⟨g, i * 6 + 1, none⟩ = some (.int .i64 r.2.proto)
  c2 : W.cell? ⟨g, i * 6 + 2, none⟩ = some (.int .u32 (r.2.vip : Int))
  c3 : W.cell? ⟨g, i * 6 + 3, none⟩ = some (.int .i64 r.2.port)
  c4 : W.cell? ⟨g, i * 6 + 4, none⟩ = some (.bool r.2.dsr)
  c5 : W.cell? ⟨g, i * 6 + 5, none⟩ = some (.int .u32 (r.2.nat : Int))
  d2 : W.cell? ⟨g, i * 6 + 1 + 1, none⟩ = some (.int .u32 (r.2.vip : Int))
  d3 : W.cell? ⟨g, i * 6 + 1 + 2, none⟩ = some (.int .i64 r.2.port)
  d4 : W.cell? ⟨g, i * 6 + 1 + 3, none⟩ = some (.bool r.2.dsr)
  d5 : W.cell? ⟨g, i * 6 + 1 + 4, none⟩ = some (.int .u32 (r.2.nat : Int))
theorem RefT.row {base X g c : Nat} {l : List (Nat × Svc)} {W : World} (h : RefT base X (some ⟨g, 0, none⟩) c l W) {i : Nat} {r : Nat × Svc} (hr : l[i]? = some r) : RowAt g i r W := by
  have q := fun (j : Nat) (hj : j < 6) (v : Value) (hv : (rowV r)[j]? = some v) => h.cells (k := i * 6 + j) ((rowsV_at l i j r hr hj).trans hv)
  exact ⟨q 0 (by omega) _ rfl, q 1 (by omega) _ rfl, q 2 (by omega) _ rfl, q 3 (by omega) _ rfl, q 4 (by omega) _ rfl, q 5 (by omega) _ rfl, q 2 (by omega) _ rfl, q 3 (by omega) _ rfl, q 4 (by omega) _ rfl, q 5 (by omega) _ rfl⟩
theorem ownsRow_kept {w w' : World} {base : Nat} {e : TypeId} {size : Nat} {v : Value} {n : Nat} {xs : List Value} (h : w.ownsRow base e size v n xs) (hk : ∀ g, v.ownBlock = some g → w'.heap[g]? = w.heap[g]?) : w'.ownsRow base e size v n xs := by
  obtain ⟨h0, ⟨h1, h2⟩ | ⟨g, cap, cur, h1, h2, h3, h4⟩⟩ := h
  · exact ⟨h0, .inl ⟨h1, h2⟩⟩
  · subst h1
    exact ⟨h0, .inr ⟨g, cap, cur, rfl, h2, (hk g rfl).trans h3, h4⟩⟩
theorem RefT.kept {base X c : Nat} {A : Option Addr} {l : List (Nat × Svc)} {W W' : World} (h : RefT base X A c l W) (hs : W.heap.size ≤ W'.heap.size) (hX : W'.heap[X]? = W.heap[X]?) (hk : ∀ g, base ≤ g → g < W.heap.size → W'.heap[g]? = W.heap[g]?) : RefT base X A c l W' := by
  refine ⟨hX.trans h.box, ownsRow_kept h.own fun g hg => ?_, h.lo, Nat.le_trans h.hb hs⟩
  rcases h.form with ⟨_, rfl, _⟩ | ⟨g', rfl, h2, h3, _⟩
  · cases hg
  · cases hg
    exact hk _ h2 h3
theorem RefT.two {base X T M c : Nat} {A : Option Addr} {l : List (Nat × Svc)} {W W' : World} (h : RefT base X A c l W) (h2 : Two T M W W') (hT : T < base ∧ T ≠ X) (hM : M < base ∧ M ≠ X) : RefT base X A c l W' :=
  h.kept h2.size (h2.block X (by have := h.lo; have := h.hb; omega) (fun e => hT.2 e.symm) (fun e => hM.2 e.symm)) (fun g h3 h4 => h2.block g h4 (by omega) (by omega))
theorem RefT.below {base X c : Nat} {A : Option Addr} {l : List (Nat × Svc)} {W W' : World} (h : RefT base X A c l W) (hb : Below W.heap.size W W') : RefT base X A c l W' :=
  h.kept hb.size (hb.block X (by have := h.lo; have := h.hb; omega)) (fun g _ h4 => hb.block g h4)

/-! ### Find -/
def endIs (p : Int) (v : Nat) (q : Int) (r : Nat × Svc) : Bool := decide (r.2.proto = p) && decide (r.2.vip = v) && decide (r.2.port = q)
def findL (l : List (Nat × Svc)) (p : Int) (v : Nat) (q : Int) : Option Nat := (l.find? (endIs p v q)).map (·.1)
theorem find_none {l : List (Nat × Svc)} {P : Nat × Svc → Bool} (h : ∀ r ∈ l.take l.length, P r = false) : l.find? P = none := by
  rw [List.find?_eq_none]
  intro r hr
  rw [h r (by rw [List.take_length]; exact hr)]
  simp
theorem find_at {l : List (Nat × Svc)} {P : Nat × Svc → Bool} {i : Nat} {r : Nat × Svc} (hr : l[i]? = some r) (hp : P r = true) (h : ∀ x ∈ l.take i, P x = false) : l.find? P = some r := by
  obtain ⟨hi, he⟩ := List.getElem?_eq_some_iff.1 hr
  rw [← List.take_append_drop i l, List.find?_append, List.find?_eq_none.2 (fun x hx => by rw [h x hx]; simp), List.drop_eq_getElem_cons hi, he]
  simp [hp]
theorem take_step {l : List (Nat × Svc)} {P : Nat × Svc → Bool} {i : Nat} {r : Nat × Svc} (hr : l[i]? = some r) (hp : P r = false) (h : ∀ x ∈ l.take i, P x = false) : ∀ x ∈ l.take (i + 1), P x = false := by
  intro x hx
  rw [List.take_add_one, hr] at hx
  simp at hx
  rcases hx with hx | rfl
  · exact h x hx
  · exact hp

set_option maxRecDepth 100000 in
set_option maxHeartbeats 1000000 in
theorem ref24 {base X : Nat} {A : Option Addr} {c : Nat} {l : List (Nat × Svc)} {w : World} (h : RefT base X A c l w) (hl : l.length ≤ 1000) (p q : Int) (v : Nat) :
    Calls Tryd.prog 24 #[.pointer (some ⟨X, 0, none⟩), .int .i64 p, .int .u32 (v : Int), .int .i64 q] w fun e w' => e = .returned (.tuple #[.int .i64 (((findL l p v q).getD 0 : Nat) : Int), .bool (findL l p v q).isSome]) ∧ Below w.heap.size w w' := by
  have b0 := (cell1 h.box).1
  have HH := Lib.hid h
  obtain ⟨n, hn⟩ : ∃ n, l.length = n := ⟨_, rfl⟩
  obtain ⟨res, hres⟩ : ∃ res, findL l p v q = res := ⟨_, rfl⟩
  have HRES := Lib.hid hres
  have HN := Lib.hid hn
  rw [hn] at b0 hl
  rw [hres]
  clear h hn hres
  go_enter Tryd.func24, Tryd.ntmps24
  go_wp2_with fail
  go_loop [10] (fun vi => ∃ i : Nat, i ≤ n ∧ vi = .int .i64 (i : Int) ∧ ∀ x ∈ l.take i, endIs p v q x = false) (fun vi => n - (intOf vi).toNat)
  case atStart => exact ⟨0, Nat.zero_le _, rfl, by simp⟩
  case round =>
    obtain ⟨i, hi, rfl, hno⟩ := hrel
    have HNO := Lib.hid hno
    clear hno
    by_cases hlt : i < n
    · have hil : (i : Int) < (n : Int) := by omega
      obtain ⟨g, hg⟩ : ∃ g, A = some ⟨g, 0, none⟩ := by
        rcases HH.out.form with ⟨h1, _, _⟩ | ⟨g, h1, _⟩
        · have := HN.out; rw [h1] at this; simp at this; omega
        · exact ⟨g, h1⟩
      subst hg
      obtain ⟨r, hr⟩ : ∃ r, l[i]? = some r := ⟨_, List.getElem?_eq_getElem (by rw [HN.out]; exact hlt)⟩
      obtain ⟨c0, c1, c2, c3, c4, c5, d2, d3, d4, d5⟩ := HH.out.row hr
      have HR := Lib.hid hr
      obtain ⟨id, p', v', q', dd, nn⟩ := r
      dsimp only at c0 c1 c2 c3 c4 c5 d2 d3 d4 d5
      obtain ⟨bp, hbp⟩ : ∃ b, decide (p' = p) = b := ⟨_, rfl⟩
      obtain ⟨bv, hbv⟩ : ∃ b, decide (v' = v) = b := ⟨_, rfl⟩
      obtain ⟨bq, hbq⟩ : ∃ b, decide (q' = q) = b := ⟨_, rfl⟩
      have e1 : (p' == p) = bp := by rw [← hbp]; by_cases hh : p' = p <;> simp [hh]
      have e2 : (((v' : Nat) : Int) == (v : Int)) = bv := by rw [← hbv]; by_cases hh : v' = v <;> simp [hh]; omega
      have e3 : (q' == q) = bq := by rw [← hbq]; by_cases hh : q' = q <;> simp [hh]
      have hP : endIs p v q (id, ⟨p', v', q', dd, nn⟩) = (bp && bv && bq) := by unfold endIs; rw [hbp, hbv, hbq]
      have HP := Lib.hid hP
      clear hr hbp hbv hbq hP
      by_cases hall : bp = true ∧ bv = true ∧ bq = true
      · obtain ⟨rfl, rfl, rfl⟩ := hall
        have hf : res = some id := by rw [← HRES.out]; unfold findL; rw [find_at HR.out (by rw [HP.out]; rfl) HNO.out]; rfl
        subst hf
        go_wp2_with fail
        go_ret2
        exact ⟨rfl, Below.refl _ _⟩
      · have HS := Lib.hid (take_step HR.out (by rw [HP.out]; cases bp <;> cases bv <;> cases bq <;> simp at hall ⊢) HNO.out)
        cases bp <;> cases bv <;> cases bq <;> simp only [and_self, not_true_eq_false] at hall
        all_goals
          go_wp2_with fail
          go_round
          case rel => exact ⟨i + 1, by omega, by go_num, HS.out⟩
          case measure => simp [intOf]; omega
    · have hil : ¬ (i : Int) < (n : Int) := by omega
      obtain rfl : i = n := by omega
      obtain rfl : res = none := by rw [← HRES.out]; unfold findL; rw [find_none (by rw [HN.out]; exact HNO.out)]; rfl
      go_wp2_with fail
      go_ret2
      exact ⟨rfl, Below.refl _ _⟩
end Go.Proofs.YtbahcpejippcjaaDoor
