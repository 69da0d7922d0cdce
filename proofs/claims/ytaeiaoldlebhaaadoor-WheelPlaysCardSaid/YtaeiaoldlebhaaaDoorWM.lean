import Derived.Test.YtaeiaoldlebhaaaDoorWL
namespace Go.Proofs.YtaeiaoldlebhaaaDoor
open Go.RowKit Go.Maps Go.Lib

/-- A wheel whose blocks lie from B on; the blocks of G are none of them. -/
def OneW (B W now o : Nat) (L : List Ent) (G : List Nat) (w : World) : Prop := ∃ S, Whl S W now o L w ∧ (∀ i, S i → B ≤ i) ∧ ∀ i ∈ G, ¬ S i ∧ i < w.heap.size
theorem OneW.below {B W now o : Nat} {L : List Ent} {G : List Nat} {w w' : World} (h : OneW B W now o L G w) (hb : Below w.heap.size w w') : OneW B W now o L G w' := by
  obtain ⟨S, h1, h2, h3⟩ := h
  exact ⟨S, h1.below hb, h2, fun i hi => ⟨(h3 i hi).1, Nat.lt_of_lt_of_le (h3 i hi).2 hb.size⟩⟩
theorem OneW.kept {B W now o : Nat} {L : List Ent} {G : List Nat} {w w' : World} {row : Option Nat} (h : OneW B W now o L G w) (hg : w.grownBy w' row) (hr : ∀ g, row = some g → g ∈ G) : OneW B W now o L G w' := by
  obtain ⟨S, h1, h2, h3⟩ := h
  exact ⟨S, h1.kept (fun b hb => hg.block b (h1.low b hb) (fun e => (h3 b (hr b e.symm)).1 hb)) hg.size, h2, fun i hi => ⟨(h3 i hi).1, Nat.lt_of_lt_of_le (h3 i hi).2 hg.size⟩⟩
/-- One block more is none of the wheel's. -/
theorem OneW.guard {B W now o : Nat} {L : List Ent} {G : List Nat} {w : World} (h : OneW B W now o L G w) (ob : Obj) : OneW B W now o L (w.heap.size :: G) (w.alloc ob) := by
  obtain ⟨S, h1, h2, h3⟩ := h
  refine ⟨S, h1.below ((Below.refl _ _).alloc (Nat.le_refl _) _), h2, fun i hi => ?_⟩
  rcases List.mem_cons.1 hi with rfl | hi
  · exact ⟨fun hS => by have := h1.low _ hS; omega, by simp⟩
  · have := h3 i hi
    exact ⟨this.1, by simp; omega⟩
theorem OneW.size {B W now o : Nat} {L : List Ent} {G : List Nat} {w : World} (h : OneW B W now o L G w) : B ≤ w.heap.size ∧ now ≤ 1099511627776 ∧ Wh now o L := by
  obtain ⟨S, h1, h2, h3⟩ := h
  have ht := h1.tm
  obtain ⟨⟨M, P, sm, sv, rows, k1, _⟩, k2, _⟩ := h1
  have := h2 W k1.mem.1
  have := k1.low W k1.mem.1
  exact ⟨by omega, ht, k2⟩
theorem OneW.trn {B W now' o' : Nat} {L' : List Ent} {G : List Nat} {w w' : World} {S : Nat → Prop} (h2 : ∀ i, S i → B ≤ i) (h3 : ∀ i ∈ G, ¬ S i ∧ i < w.heap.size) (hB : B ≤ w.heap.size) (ht : Trn S W now' o' L' w w') : OneW B W now' o' L' G w' ∧ Below B w w' ∧ ∀ i ∈ G, w'.heap[i]? = w.heap[i]? := by
  obtain ⟨S', k1, k2, k3⟩ := ht
  refine ⟨⟨S', k1, fun i hi => ?_, fun i hi => ⟨fun hS => ?_, Nat.lt_of_lt_of_le (h3 i hi).2 k2.size⟩⟩, k2.below hB h2, fun i hi => k2.block i (h3 i hi).2 (h3 i hi).1⟩
  · rcases k3 i hi with e | e
    · exact h2 i e
    · omega
  · rcases k3 i hS with e | e
    · exact (h3 i hi).1 e
    · have := (h3 i hi).2; omega
section
variable {B W now o : Nat} {L : List Ent} {G : List Nat} {w : World}
theorem one_arm (h : OneW B W now o L G w) {k : Int} (hkb : -9223372036854775808 ≤ k ∧ k ≤ 9223372036854775807) (t : Nat) (h1 : now < t) (h2 : t ≤ 1099511627776) (ho : o < 549755813887) :
    Calls Tryd.prog 17 #[.pointer (some ⟨W, 0, none⟩), .int .i64 k, .int .i64 (t : Int)] w fun e w' => e = .returned (.int .i64 0) ∧ OneW B W now (o + 1) (armL k t (o + 1) L) G w' ∧ Below B w w' ∧ ∀ i ∈ G, w'.heap[i]? = w.heap[i]? := by
  have hs := h.size.1
  obtain ⟨S, k1, k2, k3⟩ := h
  refine (arm_ok k1 hkb t h1 h2 ho).mono ?_
  rintro e w' ⟨he, ht⟩
  exact ⟨he, OneW.trn k2 k3 hs ht⟩
theorem one_bad (h : OneW B W now o L G w) (k a : Int) (ha : a ≤ (now : Int) ∨ 1099511627776 < a) : Calls Tryd.prog 17 #[.pointer (some ⟨W, 0, none⟩), .int .i64 k, .int .i64 a] w fun e w' => e = .returned (.int .i64 1) ∧ w' = w := by
  obtain ⟨S, k1, k2, k3⟩ := h
  exact arm_bad k1 k a ha
theorem one_now (h : OneW B W now o L G w) : Calls Tryd.prog 21 #[.pointer (some ⟨W, 0, none⟩)] w fun e w' => e = .returned (.int .i64 (now : Int)) ∧ w' = w := by
  obtain ⟨S, k1, k2, k3⟩ := h
  exact now_whl k1
theorem one_len (h : OneW B W now o L G w) (n : Nat) (hn : L.length = n) : Calls Tryd.prog 19 #[.pointer (some ⟨W, 0, none⟩)] w fun e w' => e = .returned (.int .i64 (n : Int)) ∧ w' = w := by
  subst hn
  obtain ⟨S, k1, k2, k3⟩ := h
  exact len_whl k1
theorem one_due (h : OneW B W now o L G w) {k : Int} (hw : (Lit.int .i64 k).wf = true) : Calls Tryd.prog 26 #[.pointer (some ⟨W, 0, none⟩), .int .i64 k] w fun e w' => e = .returned (dueV k L) ∧ Below w.heap.size w w' := by
  obtain ⟨S, k1, k2, k3⟩ := h
  exact due_whl k1 hw
theorem one_cancel (h : OneW B W now o L G w) {k : Int} (hw : (Lit.int .i64 k).wf = true) : Calls Tryd.prog 43 #[.pointer (some ⟨W, 0, none⟩), .int .i64 k] w fun e w' => e = .returned (.bool (hasKey k L).isSome) ∧ OneW B W now o (without k L) G w' ∧ Below B w w' ∧ ∀ i ∈ G, w'.heap[i]? = w.heap[i]? := by
  have hs := h.size.1
  obtain ⟨S, k1, k2, k3⟩ := h
  refine (cancel_whl k1 hw).mono ?_
  rintro e w' ⟨he, ht⟩
  exact ⟨he, OneW.trn k2 k3 hs ht⟩
theorem one_back (h : OneW B W now o L G w) (a : Int) (ha : a < (now : Int)) : Calls Tryd.prog 18 #[.pointer (some ⟨W, 0, none⟩), .int .i64 a] w fun e w' => e = .returned (.slice none 0 0) ∧ w' = w := by
  obtain ⟨S, k1, k2, k3⟩ := h
  exact advance_back k1 a ha
theorem one_adv (h : OneW B W now o L G w) (hT : TabAt 0 Lib.deBruijn64tab w) (hB : 0 < B) (a : Int) (ha : ¬ a < (now : Int)) (te : Nat) (hte : min a 1099511627776 = (te : Int)) (n : Nat) (hn : (upTil te L).length = n) :
    Calls Tryd.prog 18 #[.pointer (some ⟨W, 0, none⟩), .int .i64 a] w fun e w' => ∃ p cap, e = .returned (.slice p n cap) ∧ OneW B W te o (past te L) G w' ∧ Below B w w' ∧ (∀ i ∈ G, w'.heap[i]? = w.heap[i]?) ∧ w'.ownsRow w.heap.size 3 1 (.slice p n cap) n (keysC (upTil te L)) := by
  have hs := h.size.1
  obtain ⟨S, k1, k2, k3⟩ := h
  refine (advance_whl k1 hT ⟨fun hS => by have := k2 0 hS; omega, by omega⟩ a ha te hte).mono ?_
  rintro e w' ⟨v, S', he, g1, g2, g3, g4⟩
  have ht := OneW.trn k2 k3 hs ⟨S', g1, g2, g3⟩
  have h4 := g4.1
  rw [hn] at h4
  have hf : ∃ p cap, v = .slice p n cap := by
    rcases h4.2 with ⟨rfl, rfl⟩ | ⟨g, cap, cur, rfl, _⟩
    · exact ⟨none, 0, rfl⟩
    · exact ⟨_, cap, rfl⟩
  obtain ⟨p, cap, rfl⟩ := hf
  exact ⟨p, cap, he, ht.1, ht.2.1, ht.2.2, h4⟩
end
theorem one_new (B : Nat) (w : World) (hB : B ≤ w.heap.size) : Calls Tryd.prog 16 #[] w fun e w' => ∃ W, e = .returned (.pointer (some ⟨W, 0, none⟩)) ∧ OneW B W 0 0 [] [] w' ∧ Below w.heap.size w w' := by
  refine (new_whl w).mono ?_
  rintro e w' ⟨W, S, he, h1, hb, h2⟩
  exact ⟨W, he, ⟨S, h1, fun i hi => by have := h2 i hi; omega, fun i hi => by cases hi⟩, hb⟩
/-- A row of numbers, read. -/
theorem row_ints {w : World} {base n cap : Nat} {p : Option Addr} {xs : List Int} (h : w.ownsRow base 3 1 (.slice p n cap) n (xs.map fun x => .int .i64 x)) (hn : xs.length = n) {i : Nat} (hi : i < n) : ∃ g, p = some ⟨g, 0, none⟩ ∧ base ≤ g ∧ g < w.heap.size ∧ w.cell? ⟨g, i, none⟩ = some (.int .i64 (xs[i]?.getD 0)) := by
  obtain ⟨g, cap', hv, hb, hl⟩ := h.form (by omega)
  cases hv
  refine ⟨g, rfl, hb, hl, ?_⟩
  have := h.cells (g := g) rfl i (.int .i64 (xs[i]?.getD 0)) (by
    rw [List.getElem?_map, List.getElem?_eq_getElem (by omega)]; rfl)
  rw [Addr.add_lit, Nat.zero_add] at this
  exact this
theorem drewN_drewN (w : World) (a b : Nat) : (w.drewN a).drewN b = w.drewN (a + b) := by simp [World.drewN, Nat.add_assoc]
set_option maxRecDepth 100000 in
set_option maxHeartbeats 1000000 in
/-- Two rows that hold the same are the same. -/
theorem numbers_same {w : World} {b1 b2 n c1 c2 : Nat} {p1 p2 : Option Addr} {xs : List Int} (h1 : w.ownsRow b1 3 1 (.slice p1 n c1) n (xs.map fun x => .int .i64 x)) (h2 : w.ownsRow b2 3 1 (.slice p2 n c2) n (xs.map fun x => .int .i64 x)) (hn : xs.length = n) (hsz : n < 1099511627776) :
    Calls Tryd.prog 20 #[.slice p1 n c1, .slice p2 n c2] w fun e w' => e = .returned (.bool true) ∧ ∃ q, w' = w.drewN q := by
  have H1 := Lib.hid h1
  have H2 := Lib.hid h2
  have HN := Lib.hid hn
  have hnI : (n : Int) < 1099511627776 := by omega
  clear h1 h2 hn
  go_enter Tryd.func20, Tryd.ntmps20
  go_wp2_with fail
  go_loopw [5] (fun vi wr => ∃ k : Nat, vi = .int .i64 (k : Int) ∧ k ≤ n ∧ ∃ q, wr = w.drewN q) (fun vi _ => n - (intOf vi).toNat)
  case atStart => exact ⟨0, rfl, by omega, 0, rfl⟩
  case round =>
    obtain ⟨k, rfl, hk, q, hq⟩ := hrel
    by_cases hlt : k < n
    · have hltI : (k : Int) < (n : Int) := by omega
      obtain ⟨g1, rfl, _, _, e1⟩ := row_ints H1.out HN.out hlt
      obtain ⟨g2, rfl, _, _, e2⟩ := row_ints H2.out HN.out hlt
      obtain ⟨x, hx⟩ : ∃ x, xs[k]?.getD 0 = x := ⟨_, rfl⟩
      rw [hx] at e1 e2
      have e1 : wr.cell? ⟨g1, k, none⟩ = some (.int .i64 x) := by rw [hq]; exact e1
      have e2 : wr.cell? ⟨g2, k, none⟩ = some (.int .i64 x) := by rw [hq]; exact e2
      have HQ := Lib.hid hq
      have hnn : (x != x) = false := by simp
      clear hq hx
      go_wp2_with fail
      go_quiet (fail)
      go_wp2_with fail
      go_roundw
      case rel => exact ⟨k + 1, by go_num, by omega, _, by rw [HQ.out, drewN_drewN]⟩
      case measure => simp [intOf]; omega
    · obtain rfl : k = n := by omega
      have HQ := Lib.hid hq
      clear hq
      go_wp2_with fail
      go_ret
      exact ⟨rfl, q, HQ.out⟩
end Go.Proofs.YtaeiaoldlebhaaaDoor
