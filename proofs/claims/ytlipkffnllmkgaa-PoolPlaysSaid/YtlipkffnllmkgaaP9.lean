import Derived.Test.YtlipkffnllmkgaaH4
import Derived.Laws.AppendOwnNone
import Derived.Deep.AppendLies
import Derived.Test.YtlipkffnllmkgaaC3
import Derived.Test.YtlipkffnllmkgaaQM
namespace Go.Proofs.Ytlipkffnllmkgaa
open Go.RowKit Go.Shelf Go.Maps

/-- The reference's anchor, all of whose blocks are among Q. -/
def RAncS (Q : Nat → Prop) (Y room : Nat) (a : Anc) (w : World) : Prop :=
  ∃ gA gW gL gK base cW cL cK sv, RefAt Y gA gW gL gK base cW cL cK sv a w ∧ ((∀ g, g ∈ [Y, gA, gW, gL, gK] → Q g) ∧ ∀ g, sv.ownBlock = some g → Q g) ∧ Reach room a ∧ 1 ≤ room ∧ room ≤ 65536
section
variable {Q : Nat → Prop} {Y room : Nat} {a : Anc} {w w' : World}
theorem RAncS.kept (h : RAncS Q Y room a w) (hb : ∀ b, Q b → w'.heap[b]? = w.heap[b]?) (hs : w.heap.size ≤ w'.heap.size) : RAncS Q Y room a w' := by
  obtain ⟨gA, gW, gL, gK, base, cW, cL, cK, sv, h, ⟨h1, h2⟩, r⟩ := h
  exact ⟨gA, gW, gL, gK, base, cW, cL, cK, sv, h.kept (fun g hg => hb g (h1 g hg)) (fun g hg => hb g (h2 g hg)) hs, ⟨h1, h2⟩, r⟩
theorem RAncS.mono {T : Nat → Prop} (h : RAncS Q Y room a w) (hs : ∀ i, Q i → T i) : RAncS T Y room a w := by
  obtain ⟨gA, gW, gL, gK, base, cW, cL, cK, sv, h, ⟨h1, h2⟩, r⟩ := h
  exact ⟨gA, gW, gL, gK, base, cW, cL, cK, sv, h, ⟨fun g hg => hs g (h1 g hg), fun g hg => hs g (h2 g hg)⟩, r⟩
theorem RAncS.reach (h : RAncS Q Y room a w) : Reach room a ∧ 1 ≤ room ∧ room ≤ 65536 := by
  obtain ⟨gA, gW, gL, gK, base, cW, cL, cK, sv, h, _, r⟩ := h
  exact r
theorem RAncS.gone (h : RAncS Q Y room a w) : ∃ g, w.cell? ⟨Y, 0, none⟩ = some (.slice (some ⟨g, 0, none⟩) room room) ∧ ∀ i, i < room → w.cell? ⟨g, i, none⟩ = some (.int .i64 (a.gone i : Int)) := by
  obtain ⟨gA, gW, gL, gK, base, cW, cL, cK, sv, h, _, r1, r2, r3⟩ := h
  obtain ⟨_, hr⟩ := r1.inv r2
  refine ⟨gA, ?_, fun i hi => (h.cA i (by omega)).1⟩
  have := h.f0
  rwa [hr] at this
theorem rancS_new (r : Nat) (w : World) (h1 : 1 ≤ r) (h3 : r ≤ 65536) :
    Calls Try.prog 19 #[.int .i64 (r : Int), .int .i64 1] w fun e w' => ∃ Y, e = .returned (.pointer (some ⟨Y, 0, none⟩)) ∧ RAncS (fun b => w.heap.size ≤ b ∧ b < w'.heap.size) Y r (newAnc r (r - 1)) w' ∧ Below w.heap.size w w' := by
  refine (refNew_ok r 1 w (by omega) h1 h3).mono ?_
  rintro e w' ⟨X, gA, gW, gL, gK, base, cW, cL, cK, sv, he, hR, hb, hge⟩
  have hlow := hR.low
  have hrb := hR.hb
  refine ⟨X, he, ⟨gA, gW, gL, gK, base, cW, cL, cK, sv, hR, ⟨fun g hg => ?_, fun g hg => ?_⟩, newAnc_reach r (r - 1) (by omega), h1, h3⟩, hb⟩
  · simp only [List.mem_cons, List.not_mem_nil, or_false] at hg
    omega
  · have := hR.own.lt g hg
    omega
theorem rancS_remove (h : RAncS Q Y room a w) (b : Nat) (hb : b < a.room) (hg : a.gone b = 0) (hn : 2 ≤ a.n) :
    Calls Try.prog 52 #[.pointer (some ⟨Y, 0, none⟩), .int .i64 (b : Int)] w fun e w' => e = .returned (.int .i64 0) ∧ RAncS (Wid Q w.heap.size w'.heap.size) Y room (rem a b) w' ∧ Only Q w w' := by
  obtain ⟨gA, gW, gL, gK, base, cW, cL, cK, sv, h, ⟨h1, h2⟩, r1, r2, r3⟩ := h
  obtain ⟨I, hr⟩ := r1.inv r2
  refine (refRemove_ok Y gA gW gL gK base cW cL cK sv a w b h I hb (by omega) hg (a.n - 1) (by omega) (by omega)).mono ?_
  rintro e w' ⟨he, sv', ⟨hR, hM⟩, hk⟩
  refine ⟨he, ⟨gA, gW, gL, gK, base, cW, cL, cK, sv', hR, ⟨fun g hg => .inl (h1 g hg), fun g hg => ?_⟩, r1.rem a b hb (by omega) hn, r2, r3⟩, ⟨hM.os, hM.tape, hM.output, hM.size, fun i hi hnS => hM.block i hi (fun e => hnS (h1 i e)) (fun e => hnS (h2 i e.symm))⟩⟩
  rcases hk with e | e
  · exact .inl (h2 g (e.symm.trans hg))
  · have h5 := (hR.own.lt g hg).2
    rw [e] at hg
    cases hg
    exact .inr ⟨by omega, h5⟩
theorem rancS_add (h : RAncS Q Y room a w) (b : Nat) (st : List Nat) (hs : a.stack = b :: st) :
    Calls Try.prog 36 #[.pointer (some ⟨Y, 0, none⟩)] w fun e w' => e = .returned (.tuple #[.int .i64 (b : Int), .int .i64 0]) ∧ RAncS Q Y room (back a b) w' ∧ Only Q w w' := by
  obtain ⟨gA, gW, gL, gK, base, cW, cL, cK, sv, h, ⟨h1, h2⟩, r1, r2, r3⟩ := h
  obtain ⟨I, hr⟩ := r1.inv r2
  obtain ⟨p1, p2, _⟩ := r1.pop r2 hs
  refine (refAdd_ok Y gA gW gL gK base cW cL cK sv a w b st h I (by omega) hs (by omega)).mono ?_
  rintro e w' ⟨he, sv', ⟨hR, hM⟩, hk⟩
  exact ⟨he, ⟨gA, gW, gL, gK, base, cW, cL, cK, sv', hR, ⟨h1, fun g hg => h2 g (hk ▸ hg)⟩, p1, r2, r3⟩, ⟨hM.os, hM.tape, hM.output, hM.size, fun i hi hnS => hM.block i hi (fun e => hnS (h1 i e)) (fun e => hnS (h2 i e.symm))⟩⟩
theorem rancS_bucket (h : RAncS Q Y room a w) (k r : Nat) (hf : Find a k (drawN k a.room a.room) r) :
    Calls Try.prog 40 #[.pointer (some ⟨Y, 0, none⟩), .int .u64 (k : Int)] w fun e w' => e = .returned (.int .i64 (r : Nat)) ∧ ∃ m, w' = w.drewN m := by
  obtain ⟨gA, gW, gL, gK, base, cW, cL, cK, sv, h, _, r1, r2, r3⟩ := h
  obtain ⟨I, hr⟩ := r1.inv r2
  exact refBucket Y gA gW gL gK base cW cL cK sv a w k r I h (by omega) hf
end

/-- The reference's row of members: five cells each. -/
def Mem.cells (m : Mem) : List Value := [.int .i64 m.id, .int .u32 m.addr, .int .i64 m.port, .int .i64 m.state, .int .i64 m.bucket]
def rowsM (l : List Mem) : List Value := l.flatMap Mem.cells
theorem rowsM_len (l : List Mem) : (rowsM l).length = l.length * 5 := by
  unfold rowsM
  induction l with
  | nil => rfl
  | cons a l ih => rw [List.flatMap_cons, List.length_append, ih]; simp [Mem.cells]; omega
theorem rowsM_append (l m : List Mem) : rowsM (l ++ m) = rowsM l ++ rowsM m := List.flatMap_append
theorem rowsM_next (a : Mem) (l : List Mem) (j : Nat) : (rowsM (a :: l))[j + 5]? = (rowsM l)[j]? := by
  show (Mem.cells a ++ rowsM l)[j + 5]? = _
  rw [List.getElem?_append_right (by simp [Mem.cells])]
  simp [Mem.cells]
theorem rowsM_at {l : List Mem} {i : Nat} {x : Mem} (h : l[i]? = some x) (k : Nat) (hk : k < 5) : (rowsM l)[i * 5 + k]? = (Mem.cells x)[k]? := by
  induction l generalizing i with
  | nil => simp at h
  | cons a l ih =>
    cases i with
    | zero =>
      simp at h
      subst h
      show (Mem.cells a ++ rowsM l)[0 * 5 + k]? = _
      rw [Nat.zero_mul, Nat.zero_add, List.getElem?_append_left (by simp [Mem.cells]; omega)]
    | succ i => rw [show (i + 1) * 5 + k = i * 5 + k + 5 from by omega, rowsM_next]; exact ih (by simpa using h)
theorem rowsM_one (l : List Mem) : ∀ u ∈ rowsM l, u.oneCell' = true := fun u hu => by
  unfold rowsM at hu
  obtain ⟨x, _, hx⟩ := List.mem_flatMap.1 hu
  simp [Mem.cells] at hx
  rcases hx with rfl | rfl | rfl | rfl | rfl <;> rfl
theorem rowsM_set {l : List Mem} {i : Nat} {x y : Mem} (h : l[i]? = some x) (k : Nat) (hk : k < 5) {v : Value} (hv : (Mem.cells x).set k v = Mem.cells y) : (rowsM l).set (i * 5 + k) v = rowsM (l.set i y) := by
  induction l generalizing i with
  | nil => simp at h
  | cons a l ih =>
    cases i with
    | zero =>
      simp at h
      subst h
      show (Mem.cells a ++ rowsM l).set (0 * 5 + k) v = Mem.cells y ++ rowsM l
      rw [Nat.zero_mul, Nat.zero_add, List.set_append_left _ _ (by simp [Mem.cells]; omega), hv]
    | succ i =>
      show (Mem.cells a ++ rowsM l).set ((i + 1) * 5 + k) v = Mem.cells a ++ rowsM (l.set i y)
      rw [List.set_append_right _ _ (by simp [Mem.cells]; omega), ← ih (by simpa using h)]
      congr 2
      simp [Mem.cells]
      omega
theorem row_form {X : World} {base e k n : Nat} {v : Value} {xs : List Value} (h : X.ownsRow base e k v n xs) : ∃ p cap, v = .slice p n cap ∧ n ≤ cap ∧ (cap : Int) ≤ 9223372036854775807 := by
  rcases h.2 with ⟨hv, h0⟩ | ⟨g, cap, cur, hv, _, _, hle, hm, _⟩
  · exact ⟨none, 0, by rw [hv, h0], by omega, by omega⟩
  · exact ⟨_, cap, hv, hle, by unfold maxLen at hm; omega⟩
theorem ownsRow_base {w : World} {base base' : Nat} {e : TypeId} {size : Nat} {v : Value} {n : Nat} {xs : List Value} (h : w.ownsRow base e size v n xs) (hb : base' ≤ base) : w.ownsRow base' e size v n xs := by
  obtain ⟨h1, h | ⟨g, cap, cur, hv, hg, r⟩⟩ := h
  · exact ⟨h1, .inl h⟩
  · exact ⟨h1, .inr ⟨g, cap, cur, hv, Nat.le_trans hb hg, r⟩⟩
/-- A cell of a row of its own is written. -/
theorem own_set {w : World} {base : Nat} {e : TypeId} {size : Nat} {v : Value} {n : Nat} {xs : List Value} (h : w.ownsRow base e size v n xs) {g : Nat} (hg : v.ownBlock = some g) (i : Nat) (u : Value) : (w.setCell ⟨g, i, none⟩ u).ownsRow base e size v n (xs.set i u) := by
  obtain ⟨h1, ⟨hv, _⟩ | ⟨g', cap, cur, hv, hb, hgb, hle, hm, hsz, htk⟩⟩ := h
  · rw [hv] at hg; cases hg
  · rw [hv] at hg
    have e : g' = g := by simpa [Value.ownBlock] using hg
    subst e
    refine ⟨by rw [List.length_set]; exact h1, .inr ⟨g', cap, cur.setIfInBounds i u, hv, hb, by simp [World.setCell, Array.getElem?_modify, hgb], hle, hm, by simp [hsz], ?_⟩⟩
    rw [Array.toList_setIfInBounds, List.take_set, htk]
theorem own_cells {w : World} {base n : Nat} {v : Value} {l : List Mem} (h : w.ownsRow base 48 5 v n (rowsM l)) {i : Nat} {x : Mem} (hx : l[i]? = some x) :
    ∃ g cap, v = .slice (some ⟨g, 0, none⟩) n cap ∧ (w.cell? ⟨g, i * 5, none⟩ = some (.int .i64 x.id) ∧ w.cell? ⟨g, i * 5 + 1, none⟩ = some (.int .u32 x.addr) ∧ w.cell? ⟨g, i * 5 + 2, none⟩ = some (.int .i64 x.port) ∧ w.cell? ⟨g, i * 5 + 3, none⟩ = some (.int .i64 x.state) ∧ w.cell? ⟨g, i * 5 + 4, none⟩ = some (.int .i64 x.bucket)) ∧ ∀ j, w.frozen? ⟨g, j, none⟩ = false := by
  have hl := (List.getElem?_eq_some_iff.1 hx).1
  have hn : 0 < n := by
    have := h.1
    rw [rowsM_len] at this
    omega
  obtain ⟨g, cap, hv, _⟩ := World.ownsRow.form h hn
  have hfz : ∀ j, w.frozen? ⟨g, j, none⟩ = false := by
    rcases h.2 with ⟨hv', _⟩ | ⟨g', cap', cur, hv', _, hgb, _⟩
    · rw [hv'] at hv; cases hv
    · rw [hv'] at hv; cases hv
      intro j
      simp [World.frozen?, hgb]
  refine ⟨g, cap, hv, ?_, hfz⟩
  have hc : ∀ k u, k < 5 → (Mem.cells x)[k]? = some u → w.cell? ⟨g, i * 5 + k, none⟩ = some u := fun k u hk hu => by
    have := h.cells (g := g) (by rw [hv]; rfl) (i * 5 + k) u (by rw [rowsM_at hx k hk]; exact hu)
    rwa [Addr.add_lit, Nat.zero_add] at this
  exact ⟨hc 0 _ (by omega) rfl, hc 1 _ (by omega) rfl, hc 2 _ (by omega) rfl, hc 3 _ (by omega) rfl, hc 4 _ (by omega) rfl⟩
end Go.Proofs.Ytlipkffnllmkgaa

namespace Go.Proofs.Ytlipkffnllmkgaa
open Go.RowKit Go.Shelf Go.Maps Go.Lib

def placeN (id : Int) (l : List Mem) : Nat := (l.takeWhile (fun m => decide (m.id < id))).length
def thereB (id : Int) (l : List Mem) : Bool := match l[placeN id l]? with
  | some m => m.id == id
  | none => false
theorem placeN_le (id : Int) : ∀ l : List Mem, placeN id l ≤ l.length
  | [] => Nat.le_refl _
  | m :: l => by
    unfold placeN
    rw [List.takeWhile_cons]
    split
    · have := placeN_le id l
      simp only [List.length_cons]
      unfold placeN at this
      omega
    · simp
theorem place_pass (id : Int) : ∀ (l : List Mem) (i : Nat) (x : Mem), l[i]? = some x → i ≤ placeN id l → (i < placeN id l ↔ x.id < id)
  | [], i, x, h, _ => by simp at h
  | m :: l, i, x, h, hi => by
    unfold placeN at *
    rw [List.takeWhile_cons] at hi ⊢
    by_cases hm : m.id < id
    · rw [if_pos (by simpa using hm)] at hi ⊢
      cases i with
      | zero => simp at h; subst h; simp [hm]
      | succ i =>
        have := place_pass id l i x (by simpa using h) (by unfold placeN; simpa using hi)
        unfold placeN at this
        simpa using this
    · rw [if_neg (by simpa using hm)] at hi ⊢
      obtain rfl : i = 0 := by simpa using hi
      simp at h
      subst h
      simpa using hm
def actN (l : List Mem) : Nat := (l.filter (fun m => decide (m.state = 1))).length
theorem actN_le (l : List Mem) : actN l ≤ l.length := List.length_filter_le _ _
theorem take_next {α : Type} {l : List α} {j : Nat} {x : α} (hj : l[j]? = some x) : l.take (j + 1) = l.take j ++ [x] := by
  rw [List.take_add_one, hj]; rfl
theorem actN_next {l : List Mem} {i : Nat} {x : Mem} (h : l[i]? = some x) : actN (l.take (i + 1)) = actN (l.take i) + if x.state = 1 then 1 else 0 := by
  unfold actN
  rw [take_next h, List.filter_append, List.length_append]
  by_cases hx : x.state = 1 <;> simp [hx]
/-- The reference's pool lies at XP, its blocks among Q; its anchor's among Qa. -/
structure RefP (Q Qa : Nat → Prop) (XP Y gO room : Nat) (lv : Value) (key : ByteArray) (anc : Anc) (L : List Mem) (own : Nat → Nat) (w : World) : Prop where
  box : w.heap[XP]? = some (.cells #[.string key, .pointer (some ⟨Y, 0, none⟩), lv, .slice (some ⟨gO, 0, none⟩) room room, .int .i64 (room : Int)] 46 (0, 0))
  anc : RAncS Qa Y room anc w
  row : w.ownsRow 0 48 5 lv L.length (rowsM L)
  own : Col gO room own w
  mem : Q XP ∧ Q gO ∧ (∀ g, lv.ownBlock = some g → Q g) ∧ ∀ i, Qa i → Q i
  apart : ¬ Qa XP ∧ ¬ Qa gO ∧ XP ≠ gO ∧ ∀ g, lv.ownBlock = some g → ¬ Qa g ∧ g ≠ XP ∧ g ≠ gO
  low : ∀ i, Q i → i < w.heap.size
section
variable {Q Qa : Nat → Prop} {XP Y gO room : Nat} {lv : Value} {key : ByteArray} {anc : Anc} {L : List Mem} {own : Nat → Nat} {w w' : World}
theorem RefP.kept (h : RefP Q Qa XP Y gO room lv key anc L own w) (hb : ∀ b, Q b → w'.heap[b]? = w.heap[b]?) (hs : w.heap.size ≤ w'.heap.size) : RefP Q Qa XP Y gO room lv key anc L own w' :=
  ⟨(hb XP h.mem.1).trans h.box, h.anc.kept (fun b hb' => hb b (h.mem.2.2.2 b hb')) hs, ownsRow_block h.row (fun g hg => hb g (h.mem.2.2.1 g hg)), h.own.block (hb gO h.mem.2.1), h.mem, h.apart, fun i hi => Nat.lt_of_lt_of_le (h.low i hi) hs⟩
theorem RefP.below (h : RefP Q Qa XP Y gO room lv key anc L own w) (hb : Below w.heap.size w w') : RefP Q Qa XP Y gO room lv key anc L own w' := h.kept (fun b hQ => hb.block b (h.low b hQ)) hb.size
theorem RefP.cells (h : RefP Q Qa XP Y gO room lv key anc L own w) : (w.cell? ⟨XP, 0, none⟩ = some (.string key) ∧ w.cell? ⟨XP, 1, none⟩ = some (.pointer (some ⟨Y, 0, none⟩)) ∧ w.cell? ⟨XP, 2, none⟩ = some lv ∧ w.cell? ⟨XP, 3, none⟩ = some (.slice (some ⟨gO, 0, none⟩) room room) ∧ w.cell? ⟨XP, 4, none⟩ = some (.int .i64 (room : Int))) ∧ w.frozen? ⟨XP, 2, none⟩ = false := by
  refine ⟨⟨?_, ?_, ?_, ?_, ?_⟩, ?_⟩ <;> simp [World.cell?, World.frozen?, h.box]
set_option maxRecDepth 100000 in
set_option maxHeartbeats 1000000 in
theorem rplace (h : RefP Q Qa XP Y gO room lv key anc L own w) (id : Int) :
    Calls Try.prog 35 #[.pointer (some ⟨XP, 0, none⟩), .int .i64 id] w fun e w' => e = .returned (.tuple #[.int .i64 (placeN id L : Int), .bool (thereB id L)]) ∧ ∃ m, w' = w.drewN m := by
  obtain ⟨pv, cv, hv, hcv, hcv2⟩ := row_form h.row
  subst hv
  obtain ⟨n, hn⟩ : ∃ n, L.length = n := ⟨_, rfl⟩
  have HROW := Lib.hid h.row
  obtain ⟨⟨_, _, b2, _, _⟩, _⟩ := h.cells
  obtain ⟨j, hj⟩ : ∃ j, placeN id L = j := ⟨_, rfl⟩
  have hjn : j ≤ n := by rw [← hj, ← hn]; exact placeN_le id L
  have HP := Lib.hid (place_pass id L)
  have HT : Hid (thereB id L = match L[j]? with | some m => m.id == id | none => false) := Lib.hid (by rw [← hj]; rfl)
  rw [hj] at HP ⊢
  rw [hn] at b2 hcv HROW
  have HN := Lib.hid hn
  have hcI : (n : Int) ≤ (cv : Int) := by omega
  generalize thereB id L = t at *
  clear h hn hj
  go_enter Try.func35, Try.ntmps35
  go_wp2_with fail
  go_loop [6] (fun vi => ∃ i : Nat, i ≤ j ∧ vi = .int .i64 (i : Int)) (fun vi => n - (intOf vi).toNat)
  case atStart => exact ⟨0, Nat.zero_le _, rfl⟩
  case round =>
    obtain ⟨i, hi, rfl⟩ := hrel
    by_cases hlt : i < n
    · have hltI : (i : Int) < (n : Int) := by omega
      obtain ⟨x, hx⟩ : ∃ x, L[i]? = some x := ⟨L[i]'(by have := HN.out; omega), List.getElem?_eq_getElem _⟩
      obtain ⟨g, cap, hv, ⟨c0, _, _, _, _⟩, _⟩ := own_cells HROW.out hx
      cases hv
      have hiff := HP.out i x hx hi
      have HX := Lib.hid hx
      obtain ⟨xi, xa, xp, xs, xb⟩ := x
      dsimp only at c0 hiff
      clear hx
      by_cases hij : i < j
      · have hd : xi < id := hiff.1 hij
        clear hiff
        go_wp2_with fail
        go_round
        case rel => exact ⟨i + 1, by omega, by go_num⟩
        case measure => simp [intOf]; omega
      · have hd : ¬ xi < id := fun e => hij (hiff.2 e)
        obtain rfl : i = j := by omega
        clear hiff
        by_cases he : xi = id
        · subst he
          have het : (xi == xi) = true := by simp
          go_wp2_with fail
          go_quiet (fail)
          go_wp2_with fail
          go_ret2
          have h5 := HT.out
          rw [HX.out] at h5
          exact ⟨by rw [h5]; simp, _, rfl⟩
        · have het : (xi == id) = false := by simpa using he
          clear he
          go_wp2_with fail
          go_quiet (fail)
          go_wp2_with fail
          go_ret2
          have h5 := HT.out
          rw [HX.out] at h5
          exact ⟨by rw [h5]; simp [het], _, rfl⟩
    · obtain rfl : i = n := by omega
      obtain rfl : i = j := by omega
      go_wp2_with fail
      go_quiet (fail)
      go_wp2_with fail
      go_ret2
      have h5 := HT.out
      rw [List.getElem?_eq_none (by rw [HN.out]; exact Nat.le_refl _)] at h5
      exact ⟨by rw [h5]; rfl, _, rfl⟩
set_option maxRecDepth 100000 in
set_option maxHeartbeats 1000000 in
theorem ractive (h : RefP Q Qa XP Y gO room lv key anc L own w) :
    Calls Try.prog 11 #[.pointer (some ⟨XP, 0, none⟩)] w fun e w' => e = .returned (.int .i64 (actN L : Int)) ∧ w' = w := by
  obtain ⟨pv, cv, hv, hcv, hcv2⟩ := row_form h.row
  subst hv
  obtain ⟨n, hn⟩ : ∃ n, L.length = n := ⟨_, rfl⟩
  have HROW := Lib.hid h.row
  obtain ⟨⟨_, _, b2, _, _⟩, _⟩ := h.cells
  rw [hn] at b2 hcv HROW
  have HN := Lib.hid hn
  have hcI : (n : Int) ≤ (cv : Int) := by omega
  clear h hn
  go_enter Try.func11, Try.ntmps11
  go_wp2_with fail
  go_loop [3, 4] (fun va vi => ∃ i k : Nat, i ≤ n ∧ k ≤ i ∧ vi = .int .i64 (i : Int) ∧ va = .int .i64 (k : Int) ∧ actN (L.take i) = k) (fun _ vi => n - (intOf vi).toNat)
  case atStart => exact ⟨0, 0, Nat.zero_le _, Nat.zero_le _, rfl, rfl, rfl⟩
  case round =>
    obtain ⟨i, k, hi, hk, rfl, rfl, hk2⟩ := hrel
    have HK := Lib.hid hk2
    clear hk2
    by_cases hlt : i < n
    · have hltI : (i : Int) < (n : Int) := by omega
      obtain ⟨x, hx⟩ : ∃ x, L[i]? = some x := ⟨L[i]'(by have := HN.out; omega), List.getElem?_eq_getElem _⟩
      obtain ⟨g, cap, hv, ⟨_, _, _, c3, _⟩, _⟩ := own_cells HROW.out hx
      cases hv
      have HX := Lib.hid (actN_next hx)
      obtain ⟨xi, xa, xp, xs, xb⟩ := x
      dsimp only at c3 HX
      clear hx
      by_cases he : xs = 1
      · subst he
        go_wp2_with fail
        go_round
        case rel => exact ⟨i + 1, k + 1, by omega, by omega, by go_num, by go_num, by rw [HX.out, HK.out]; rfl⟩
        case measure => simp [intOf]; omega
      · have het : (xs == 1) = false := by simpa using he
        have HE := Lib.hid he
        clear he
        go_wp2_with fail
        go_round
        case rel => exact ⟨i + 1, k, by omega, by omega, by go_num, rfl, by rw [HX.out, HK.out, if_neg HE.out]; rfl⟩
        case measure => simp [intOf]; omega
    · obtain rfl : i = n := by omega
      go_wp2_with fail
      go_ret
      have := HK.out
      rw [List.take_of_length_le (by rw [HN.out]; exact Nat.le_refl _)] at this
      exact ⟨by rw [this]; rfl, rfl⟩
end
end Go.Proofs.Ytlipkffnllmkgaa

namespace Go.Proofs.Ytlipkffnllmkgaa
open Go.RowKit Go.Shelf Go.Maps Go.Lib

section
variable {Q Qa : Nat → Prop} {XP Y gO room : Nat} {lv : Value} {key : ByteArray} {anc : Anc} {L : List Mem} {own : Nat → Nat} {w w' : World}
theorem RefP.drewN (h : RefP Q Qa XP Y gO room lv key anc L own w) (n : Nat) : RefP Q Qa XP Y gO room lv key anc L own (w.drewN n) := h.kept (fun _ _ => rfl) (Nat.le_refl _)
theorem RefP.drew (h : RefP Q Qa XP Y gO room lv key anc L own w) : RefP Q Qa XP Y gO room lv key anc L own w.drew := h.kept (fun _ _ => rfl) (Nat.le_refl _)
theorem RefP.lt (h : RefP Q Qa XP Y gO room lv key anc L own w) : XP < w.heap.size := (Array.getElem?_eq_some_iff.1 h.box).1
theorem RefP.setOwn (h : RefP Q Qa XP Y gO room lv key anc L own w) (b v : Nat) (hb : b < room) : RefP Q Qa XP Y gO room lv key anc L (upd own b v) (w.setCell ⟨gO, b, none⟩ (.int .i64 (v : Int))) := by
  have hk : ∀ i, i ≠ gO → (w.setCell ⟨gO, b, none⟩ (.int .i64 (v : Int))).heap[i]? = w.heap[i]? := fun i hi => Below.heap_setCell _ _ _ _ hi
  have hs : (w.setCell ⟨gO, b, none⟩ (.int .i64 (v : Int))).heap.size = w.heap.size := by simp [World.setCell]
  refine ⟨(hk XP h.apart.2.2.1).trans h.box, h.anc.kept (fun i hi => hk i (fun e => h.apart.2.1 (e ▸ hi))) (by rw [hs]; exact Nat.le_refl _), ownsRow_block h.row (fun g hg => hk g (h.apart.2.2.2 g hg).2.2), h.own.set b hb v, h.mem, h.apart, fun i hi => by rw [hs]; exact h.low i hi⟩
theorem RefP.setMem (h : RefP Q Qa XP Y gO room lv key anc L own w) {i : Nat} {x y : Mem} (hx : L[i]? = some x) {g : Nat} (hg : lv.ownBlock = some g) (k : Nat) (hk : k < 5) (v : Value) (hv : (Mem.cells x).set k v = Mem.cells y) : RefP Q Qa XP Y gO room lv key anc (L.set i y) own (w.setCell ⟨g, i * 5 + k, none⟩ v) := by
  have hkp : ∀ j, j ≠ g → (w.setCell ⟨g, i * 5 + k, none⟩ v).heap[j]? = w.heap[j]? := fun j hj => Below.heap_setCell _ _ _ _ hj
  have hs : (w.setCell ⟨g, i * 5 + k, none⟩ v).heap.size = w.heap.size := by simp [World.setCell]
  obtain ⟨a1, a2, a3⟩ := h.apart.2.2.2 g hg
  refine ⟨(hkp XP a2.symm).trans h.box, h.anc.kept (fun j hj => hkp j (fun e => a1 (e ▸ hj))) (by rw [hs]; exact Nat.le_refl _), ?_, h.own.block (hkp gO a3.symm), h.mem, h.apart, fun j hj => by rw [hs]; exact h.low j hj⟩
  have := own_set h.row hg (i * 5 + k) v
  rw [rowsM_set hx k hk hv] at this
  rwa [List.length_set]
theorem RefP.ancTurn (h : RefP Q Qa XP Y gO room lv key anc L own w) {anc' : Anc} (hA : RAncS (Wid Qa w.heap.size w'.heap.size) Y room anc' w') (hO : Only Qa w w') : RefP (Wid Q w.heap.size w'.heap.size) (Wid Qa w.heap.size w'.heap.size) XP Y gO room lv key anc' L own w' := by
  have hXP := h.lt
  have hgO := h.low gO h.mem.2.1
  have no : ∀ i, i < w.heap.size → ¬ Qa i → ¬ Wid Qa w.heap.size w'.heap.size i := fun i hi hn e => by
    rcases e with e | e
    · exact hn e
    · omega
  refine ⟨(hO.block XP hXP h.apart.1).trans h.box, hA, ownsRow_block h.row (fun g hg => hO.block g (h.low g (h.mem.2.2.1 g hg)) (h.apart.2.2.2 g hg).1), h.own.block (hO.block gO hgO h.apart.2.1), ⟨.inl h.mem.1, .inl h.mem.2.1, fun g hg => .inl (h.mem.2.2.1 g hg), fun i hi => ?_⟩, ⟨no XP hXP h.apart.1, no gO hgO h.apart.2.1, h.apart.2.2.1, fun g hg => ⟨no g (h.low g (h.mem.2.2.1 g hg)) (h.apart.2.2.2 g hg).1, (h.apart.2.2.2 g hg).2⟩⟩, fun i hi => ?_⟩
  · rcases hi with hi | hi
    · exact .inl (h.mem.2.2.2 i hi)
    · exact .inr hi
  · rcases hi with hi | hi
    · exact Nat.lt_of_lt_of_le (h.low i hi) hO.size
    · exact hi.2
/-- What a turn of the reference's pool leaves. -/
def RTurn (Q : Nat → Prop) (XP room : Nat) (key : ByteArray) (anc' : Anc) (L' : List Mem) (own' : Nat → Nat) (w w' : World) : Prop :=
  ∃ Q' Qa' Y gO lv', RefP Q' Qa' XP Y gO room lv' key anc' L' own' w' ∧ Only Q w w' ∧ ∀ j, Q' j → Q j ∨ w.heap.size ≤ j
theorem slice_g {g g' n n' c c' : Nat} (h : Value.slice (some ⟨g, 0, none⟩) n c = .slice (some ⟨g', 0, none⟩) n' c') : g = g' := by cases h; rfl
theorem upd_self (f : Nat → Nat) (b v : Nat) : upd f b v b = v := upd_same f b v
theorem Only.setCell {S : Nat → Prop} {w w' : World} (h : Only S w w') {p : Addr} (hp : S p.block) (v : Value) : Only S w (w'.setCell p v) :=
  ⟨h.os, h.tape, h.output, by simpa [World.setCell] using h.size, fun i hi hn => (Below.heap_setCell _ _ _ _ (fun e => hn (by rw [e]; exact hp))).trans (h.block i hi hn)⟩
theorem Only.drew {S : Nat → Prop} {w w' : World} (h : Only S w w') : Only S w w'.drew := ⟨h.os, h.tape, h.output, h.size, h.block⟩
theorem Only.drewN {S : Nat → Prop} {w w' : World} (h : Only S w w') (n : Nat) : Only S w (w'.drewN n) := ⟨h.os, h.tape, h.output, h.size, h.block⟩
set_option maxRecDepth 100000 in
set_option maxHeartbeats 2000000 in
theorem rleave (h : RefP Q Qa XP Y gO room lv key anc L own w) {i : Nat} {m : Mem} (hm : L[i]? = some m) (b : Nat) (hb : m.bucket = (b : Int)) (hbr : b < room) (hg : anc.gone b = 0) (hn : 2 ≤ actN L → 2 ≤ anc.n) :
    Calls Try.prog 37 #[.pointer (some ⟨XP, 0, none⟩), .int .i64 (i : Int)] w fun e w' => e = .returned (.tuple #[]) ∧ RTurn Q XP room key (if 2 ≤ actN L then rem anc b else anc) (L.set i { m with bucket := 0 }) (upd own b 0) w w' := by
  obtain ⟨pv, cv, hv, hcv, hcv2⟩ := row_form h.row
  subst hv
  obtain ⟨_, hr1, hr2⟩ := h.anc.reach
  obtain ⟨n, hln⟩ : ∃ n, L.length = n := ⟨_, rfl⟩
  have hin : i < n := by rw [← hln]; exact (List.getElem?_eq_some_iff.1 hm).1
  obtain ⟨⟨_, b1, b2, b3, _⟩, _⟩ := h.cells
  have HH := Lib.hid h
  rw [hln] at b2 hcv HH
  obtain ⟨g, cap, hv, ⟨_, _, _, _, c4⟩, fz⟩ := own_cells h.row hm
  cases hv
  obtain ⟨o1, o2⟩ := h.own b hbr
  have HM := Lib.hid hm
  have HN := Lib.hid hn
  have HG := Lib.hid hg
  have hinI : (i : Int) < (n : Int) := by omega
  have hcI : (n : Int) ≤ (cv : Int) := by omega
  obtain ⟨mi, ma, mp, ms, mb⟩ := m
  dsimp only at hb c4
  subst hb
  obtain ⟨k, hk⟩ : ∃ k, actN L = k := ⟨_, rfl⟩
  have hkn : k ≤ n := by have h1 := actN_le L; omega
  have HK := Lib.hid hk
  rw [hk] at HN ⊢
  clear h hm hn hg hln hk
  go_enter Try.func37, Try.ntmps37
  go_wp2_with fail
  go_cut [] from 4 to 17 (fun w' => RefP Q Qa XP Y gO room (.slice (some ⟨g, 0, none⟩) n cv) key anc L (upd own b 0) w' ∧ Only Q w w')
  case first =>
    refine wp_tail 13 (by kernel_rfl) (by kernel_rfl) ?_
    simp only [List.take_succ_cons, List.take_zero, List.drop_succ_cons, List.drop_zero]
    repeat still_step
    refine wpStill_nil ?_
    go_wp2_with fail
    go_meet
    case rel => exact ⟨(HH.out.setOwn b 0 hbr).drew, ((Only.refl Q w).setCell (p := ⟨gO, b, none⟩) HH.out.mem.2.1 _).drew⟩
  clear b1 b2 b3 c4 fz o1 o2
  have HC := Lib.hid hcut
  obtain ⟨⟨_, b1, b2, _, _⟩, _⟩ := hcut.1.cells
  obtain ⟨g', cap', hv, ⟨_, _, _, _, c4⟩, fz⟩ := own_cells hcut.1.row HM.out
  obtain rfl := slice_g hv
  clear hv
  dsimp only at c4
  have f4 := fz (i * 5 + 4)
  clear hcut fz
  have HA : Hid (∀ W, W = wc → Calls Try.prog 11 #[.pointer (some ⟨XP, 0, none⟩)] W fun e w' => e = .returned (.int .i64 (k : Int)) ∧ w' = W) := Lib.hid (fun W e => by subst e; have := ractive HC.out.1; rwa [HK.out] at this)
  by_cases h2 : 2 ≤ k
  · have h2I : (1 : Int) < (k : Int) := by omega
    have hn2 := HN.out h2
    go_wp2_with (go_at_call 11; refine (HA.out _ rfl).mono ?_; rintro e wx ⟨rfl, rfl⟩)
    go_cut [] from 20 to 33 (fun w' => ∃ Q' Qa', RefP Q' Qa' XP Y gO room (.slice (some ⟨g, 0, none⟩) n cv) key (rem anc b) L (upd own b 0) w' ∧ Only Q w w' ∧ ∀ j, Q' j → Q j ∨ w.heap.size ≤ j)
    case first =>
      refine wp_tail 12 (by kernel_rfl) (by kernel_rfl) ?_
      simp only [List.take_succ_cons, List.take_zero, List.drop_succ_cons, List.drop_zero]
      repeat still_step
      refine wpStill_nil ?_
      have hanc : anc.room = room := (HC.out.1.anc.reach.1.inv hr1).2
      go_wp2_with (go_at_call 52; refine (rancS_remove (HC.out.1.drew).anc b (by omega) HG.out hn2).mono ?_; rintro e wy ⟨rfl, hA, hO⟩; have HT := Lib.hid ((HC.out.1.drew).ancTurn hA hO); have HO := Lib.hid hO; clear hA hO)
      go_meet
      case rel =>
        refine ⟨_, _, HT.out, (HC.out.2.drew).trans (HO.out.mono HC.out.1.mem.2.2.2) (fun _ _ h => h), fun j hj => ?_⟩
        rcases hj with hj | hj
        · exact .inl hj
        · exact .inr (by have := HC.out.2.size; have e : wx.drew.heap.size = wx.heap.size := rfl; omega)
    clear b1 b2 c4 f4
    obtain ⟨Q2, Qa2, hT, hO2, hQ2⟩ := hcut
    obtain ⟨⟨_, _, b2, _, _⟩, _⟩ := hT.cells
    obtain ⟨g', cap', hv, ⟨_, _, _, _, c4⟩, fz⟩ := own_cells hT.row HM.out
    obtain rfl := slice_g hv
    have f4 := fz (i * 5 + 4)
    dsimp only at c4
    have HT := Lib.hid hT
    have HO := Lib.hid hO2
    have HQ := Lib.hid hQ2
    clear hT hO2 hQ2 fz hv
    go_wp2_with fail
    refine ⟨rfl, .tuple #[], by simp [results, Try.f37, go_sem], rfl, ?_⟩
    exact ⟨Q2, Qa2, Y, gO, _, HT.out.setMem HM.out rfl 4 (by omega) _ rfl, HO.out.setCell (p := ⟨g, i * 5 + 4, none⟩) (HH.out.mem.2.2.1 g rfl) _, HQ.out⟩
  · have h2I : ¬ (1 : Int) < (k : Int) := by omega
    go_wp2_with (go_at_call 11; refine (HA.out _ rfl).mono ?_; rintro e wx ⟨rfl, rfl⟩)
    refine ⟨rfl, .tuple #[], by simp [results, Try.f37, go_sem], rfl, ?_⟩
    exact ⟨Q, Qa, Y, gO, _, HC.out.1.setMem HM.out rfl 4 (by omega) _ rfl, HC.out.2.setCell (p := ⟨g, i * 5 + 4, none⟩) (HH.out.mem.2.2.1 g rfl) _, fun _ h => .inl h⟩
end
end Go.Proofs.Ytlipkffnllmkgaa

namespace Go.Proofs.Ytlipkffnllmkgaa
open Go.RowKit Go.Shelf Go.Maps Go.Lib

theorem there_at {id : Int} {L : List Mem} {m : Mem} (h : L[placeN id L]? = some m) (hid : m.id = id) : thereB id L = true := by
  unfold thereB; rw [h]; simp [hid]
section
variable {Q Qa : Nat → Prop} {XP Y gO room : Nat} {lv : Value} {key : ByteArray} {anc : Anc} {L : List Mem} {own : Nat → Nat} {w w' : World}
theorem RTurn.of_drewN (h : RefP Q Qa XP Y gO room lv key anc L own w) (n : Nat) : RTurn Q XP room key anc L own w (w.drewN n) :=
  ⟨Q, Qa, Y, gO, lv, h.drewN n, (Only.refl Q w).drewN n, fun _ h => .inl h⟩
/-- The place of nobody. -/
theorem rplace_no (h : RefP Q Qa XP Y gO room lv key anc L own w) {id : Int} (ht : thereB id L = false) :
    Calls Try.prog 35 #[.pointer (some ⟨XP, 0, none⟩), .int .i64 id] w fun e w' => e = .returned (.tuple #[.int .i64 (placeN id L : Int), .bool false]) ∧ ∃ m, w' = w.drewN m := by
  have := rplace h id
  rwa [ht] at this
/-- The place of somebody. -/
theorem rplace_yes (h : RefP Q Qa XP Y gO room lv key anc L own w) {id : Int} {i : Nat} (hi : placeN id L = i) (ht : thereB id L = true) :
    Calls Try.prog 35 #[.pointer (some ⟨XP, 0, none⟩), .int .i64 id] w fun e w' => e = .returned (.tuple #[.int .i64 (i : Int), .bool true]) ∧ ∃ m, w' = w.drewN m := by
  have := rplace h id
  rwa [ht, hi] at this
set_option maxRecDepth 100000 in
set_option maxHeartbeats 1000000 in
theorem rdrain_none (h : RefP Q Qa XP Y gO room lv key anc L own w) {id : Int} (ht : thereB id L = false) :
    Calls Try.prog 21 #[.pointer (some ⟨XP, 0, none⟩), .int .i64 id] w fun e w' => e = .returned (.int .i64 19) ∧ RTurn Q XP room key anc L own w w' := by
  have HP := Lib.hid (rplace_no h ht)
  have HH := Lib.hid h
  clear h ht
  go_enter Try.func21, Try.ntmps21
  go_wp2_with (go_at_call 35; refine HP.out.mono ?_; rintro e wx ⟨rfl, q, rfl⟩)
  go_ret
  exact ⟨rfl, RTurn.of_drewN HH.out q⟩
set_option maxRecDepth 100000 in
set_option maxHeartbeats 1000000 in
theorem rdrain_state (h : RefP Q Qa XP Y gO room lv key anc L own w) {id : Int} {i : Nat} {m : Mem} (hi : placeN id L = i) (hm : L[i]? = some m) (hid : m.id = id) (hs : m.state ≠ 1) :
    Calls Try.prog 21 #[.pointer (some ⟨XP, 0, none⟩), .int .i64 id] w fun e w' => e = .returned (.int .i64 15) ∧ RTurn Q XP room key anc L own w w' := by
  have HP := Lib.hid (rplace_yes h hi (there_at (hi.symm ▸ hm) hid))
  have HH := Lib.hid h
  have HM := Lib.hid hm
  have het : (m.state != 1) = true := by simpa using hs
  have hin := (List.getElem?_eq_some_iff.1 hm).1
  have hinI : (i : Int) < (L.length : Int) := by omega
  clear h hm hi hid
  go_enter Try.func21, Try.ntmps21
  go_wp2_with (go_at_call 35; refine HP.out.mono ?_; rintro e wx ⟨rfl, q, rfl⟩; have HT := Lib.hid (HH.out.drewN q); obtain ⟨⟨_, _, b2, _, _⟩, _⟩ := HT.out.cells; obtain ⟨g, cap, hv, ⟨_, _, _, c3, _⟩, _⟩ := own_cells HT.out.row HM.out; subst hv; obtain ⟨_, _, hv, hcv, hcv2⟩ := row_form HT.out.row; cases hv; have hcI : (L.length : Int) ≤ (cap : Int) := (by omega))
  go_ret
  exact ⟨rfl, RTurn.of_drewN HH.out q⟩
theorem RTurn.trans {Q' Qa' : Nat → Prop} {lv' : Value} {anc' anc2 : Anc} {L' L2 : List Mem} {own' own2 : Nat → Nat} {room' : Nat} {w2 : World} {Y' gO' : Nat} (_h : RefP Q' Qa' XP Y' gO' room lv' key anc' L' own' w') (hO : Only Q w w') (hQ : ∀ j, Q' j → Q j ∨ w.heap.size ≤ j) (h : RTurn Q' XP room' key anc2 L2 own2 w' w2) : RTurn Q XP room' key anc2 L2 own2 w w2 := by
  obtain ⟨Q2, Qa2, Y2, gO2, lv2, h1, h2, h3⟩ := h
  refine ⟨Q2, Qa2, Y2, gO2, lv2, h1, hO.trans h2 (fun i hi hq => ?_), fun j hj => ?_⟩
  · rcases hQ i hq with h | h
    · exact h
    · omega
  · rcases h3 j hj with h | h
    · exact hQ j h
    · have := hO.size
      exact .inr (by omega)
set_option maxRecDepth 100000 in
set_option maxHeartbeats 1000000 in
theorem rdrain_ok (h : RefP Q Qa XP Y gO room lv key anc L own w) {id : Int} {i : Nat} {m : Mem} (hi : placeN id L = i) (hm : L[i]? = some m) (hid : m.id = id) (hs : m.state = 1) (b : Nat) (hb : m.bucket = (b : Int)) (hbr : b < room) (hg : anc.gone b = 0) (hn : 2 ≤ actN L → 2 ≤ anc.n) :
    Calls Try.prog 21 #[.pointer (some ⟨XP, 0, none⟩), .int .i64 id] w fun e w' => e = .returned (.int .i64 0) ∧ RTurn Q XP room key (if 2 ≤ actN L then rem anc b else anc) (L.set i { m with bucket := 0, state := 2 }) (upd own b 0) w w' := by
  have HP := Lib.hid (rplace_yes h hi (there_at (hi.symm ▸ hm) hid))
  have HH := Lib.hid h
  have HM := Lib.hid hm
  have hin := (List.getElem?_eq_some_iff.1 hm).1
  have HLV := Lib.hid (fun q => rleave (HH.out.drewN q) hm b hb hbr hg hn)
  obtain ⟨an, han⟩ : ∃ an, (if 2 ≤ actN L then rem anc b else anc) = an := ⟨_, rfl⟩
  rw [han] at HLV ⊢
  obtain ⟨n, hln⟩ : ∃ n, L.length = n := ⟨_, rfl⟩
  have HLN := Lib.hid hln
  have hinI : (i : Int) < (n : Int) := by omega
  obtain ⟨mi, ma, mp, ms, mb⟩ := m
  dsimp only at hs HLV
  subst hs
  clear h hm hi hid hg hn han hb hln
  go_enter Try.func21, Try.ntmps21
  go_wp2_with (first
    | (go_at_call 35; refine HP.out.mono ?_; rintro e wx ⟨rfl, q, rfl⟩; have HT := Lib.hid (HH.out.drewN q); obtain ⟨⟨_, _, b2, _, _⟩, _⟩ := HT.out.cells; obtain ⟨g, cap, hv, ⟨_, _, _, c3, _⟩, _⟩ := own_cells HT.out.row HM.out; subst hv; dsimp only at c3; rw [HLN.out] at b2; obtain ⟨_, _, hv, hcv, hcv2⟩ := row_form HT.out.row; cases hv; rw [HLN.out] at hcv; have hcI : (n : Int) ≤ (cap : Int) := (by omega); clear hcv)
    | (go_at_call 37; refine (HLV.out q).mono ?_; rintro e wy ⟨rfl, Q2, Qa2, Y2, gO2, lv2, hT2, hO2, hQ2⟩; have HM2 := Lib.hid (show (L.set i ⟨mi, ma, mp, 1, 0⟩)[i]? = some ⟨mi, ma, mp, 1, 0⟩ from (by rw [List.getElem?_set_self (by rw [HLN.out]; omega)])); have HT2 := Lib.hid hT2; have HO2 := Lib.hid hO2; have HQ2 := Lib.hid hQ2; clear hT2 hO2 hQ2; clear b2 c3 hcI hcv2; obtain ⟨⟨_, _, b2, _, _⟩, _⟩ := HT2.out.cells; obtain ⟨g2, cap2, hv2, ⟨_, _, _, c3, _⟩, fz⟩ := own_cells HT2.out.row HM2.out; subst hv2; dsimp only at c3; obtain ⟨_, _, hv, hcv, hcv2⟩ := row_form HT2.out.row; cases hv; rw [List.length_set, HLN.out] at hcv b2; have hcI : (n : Int) ≤ (cap2 : Int) := (by omega); have f3 := fz (i * 5 + 3); clear hcv fz))
  go_ret
  have hset := HT2.out.setMem HM2.out rfl 3 (by omega) (.int .i64 2) (y := ⟨mi, ma, mp, 2, 0⟩) rfl
  rw [List.set_set] at hset
  refine ⟨rfl, Q2, Qa2, Y2, gO2, _, hset, ⟨HO2.out.os, HO2.out.tape, HO2.out.output, by simpa [World.setCell] using HO2.out.size, fun j hj hn => (Below.heap_setCell _ _ _ _ (fun e => ?_)).trans (HO2.out.block j hj hn)⟩, HQ2.out⟩
  have e2 : j = g2 := e
  rcases HQ2.out g2 (HT2.out.mem.2.2.1 g2 rfl) with h | h
  · exact hn (e2 ▸ h)
  · have e3 : (w.drewN q).heap.size = w.heap.size := rfl
    omega
end
end Go.Proofs.Ytlipkffnllmkgaa

namespace Go.Proofs.Ytlipkffnllmkgaa
open Go.RowKit Go.Shelf Go.Maps Go.Lib

inductive StageP : Nat → Prop
  | mk (n : Nat) : StageP n
theorem Try.info48 : (Try.prog.info? 48).map (fun i => (i.zero, i.size, i.bytes)) = some (some (.agg #[.int .i64 0, .int .u32 0, .int .i64 0, .int .i64 0, .int .i64 0]), 5, 40) := by kernel_rfl
/-- What is appended: a slice's elements. -/
def SrcM (p : Option Addr) (m c : Nat) (news : List Value) (w : World) : Prop :=
  (p = none ∧ m = 0 ∧ c = 0 ∧ news = []) ∨ ∃ ad, p = some ad ∧ news.length = m * 5 ∧ ∀ j u, news[j]? = some u → w.cell? (ad.add j) = some u
theorem Addr_add (g o k : Nat) : ((⟨g, o, none⟩ : Addr).add k) = ⟨g, o + k, none⟩ := by rw [Addr.add_lit]
/-- The first ones of a row. -/
theorem pre48 {w : World} {base n c k : Nat} {p : Option Addr} {l : List Mem} (h : w.ownsRow base 48 5 (.slice p n c) n (rowsM l)) (hn : l.length = n) (hk : k ≤ n) :
    (∀ W', (Instr.slice 43 (.slice p n c) none (some (.int .i64 (k : Int))) none).run Try.prog W' = .ok (.slice p k c) W') ∧ SrcM p k c (rowsM (l.take k)) w := by
  rcases h.2 with ⟨hv, h0⟩ | ⟨g, cap, cur, hv, hb, hg, hle, hm, hsz, htk⟩
  · cases hv
    obtain rfl : k = 0 := by omega
    exact ⟨fun W' => by kernel_rfl, .inl ⟨rfl, rfl, rfl, by simp [rowsM]⟩⟩
  · cases hv
    unfold maxLen at hm
    have h1 : (k : Int) ≤ (c : Int) := by omega
    have h3 : (c : Int) ≤ 9223372036854775807 := by omega
    have h4 : ¬ (k : Int) < 0 := by omega
    refine ⟨fun W' => by go_simp, .inr ⟨⟨g, 0, none⟩, rfl, by rw [rowsM_len, List.length_take]; omega, fun j u hu => ?_⟩⟩
    have hj : j < k * 5 := by have := (List.getElem?_eq_some_iff.1 hu).1; rw [rowsM_len, List.length_take] at this; omega
    have e : rowsM l = rowsM (l.take k) ++ rowsM (l.drop k) := by rw [← rowsM_append, List.take_append_drop]
    have hu2 : (rowsM l)[j]? = some u := by rw [e, List.getElem?_append_left (by rw [rowsM_len, List.length_take]; omega)]; exact hu
    exact h.cells (g := g) rfl j u hu2
/-- The last ones of a row. -/
theorem suf48 {w : World} {base n c k : Nat} {p : Option Addr} {l : List Mem} (h : w.ownsRow base 48 5 (.slice p n c) n (rowsM l)) (hn : l.length = n) (hk : k ≤ n) :
    ∃ p2 c2, (∀ W', (Instr.slice 43 (.slice p n c) (some (.int .i64 (k : Int))) none none).run Try.prog W' = .ok (.slice p2 (n - k) c2) W') ∧ SrcM p2 (n - k) c2 (rowsM (l.drop k)) w ∧ ∀ ad, p2 = some ad → ad.block < w.heap.size := by
  rcases h.2 with ⟨hv, h0⟩ | ⟨g, cap, cur, hv, hb, hg, hle, hm, hsz, htk⟩
  · cases hv
    obtain rfl : k = 0 := by omega
    exact ⟨none, 0, fun W' => by kernel_rfl, .inl ⟨rfl, rfl, rfl, by have : l = [] := List.length_eq_zero_iff.1 hn; subst this; rfl⟩, fun ad e => by cases e⟩
  · cases hv
    unfold maxLen at hm
    have h1 : (k : Int) ≤ (n : Int) := by omega
    have h2 : (n : Int) ≤ (c : Int) := by omega
    have h3 : (c : Int) ≤ 9223372036854775807 := by omega
    have h4 : ¬ (k : Int) < 0 := by omega
    have hd : (rowsM (l.drop k)).length = (n - k) * 5 := by rw [rowsM_len, List.length_drop, hn]
    by_cases hck : c = k
    · have hkn : n = k := by omega
      subst hkn
      have hl0 : l.drop n = [] := List.drop_eq_nil_of_le (by omega)
      refine ⟨some ⟨g, 0, none⟩, 0, fun W' => ?_, .inr ⟨_, rfl, by rw [hl0]; simp [rowsM], fun j u hu => by rw [hl0] at hu; simp [rowsM] at hu⟩, fun ad e => by cases e; exact (Array.getElem?_eq_some_iff.1 hg).1⟩
      subst hck
      go_simp
    · have hck2 : ¬ (c : Int) = (k : Int) := by omega
      refine ⟨some ⟨g, k * 5, none⟩, c - k, fun W' => ?_, .inr ⟨_, rfl, hd, fun j u hu => ?_⟩, fun ad e => by cases e; exact (Array.getElem?_eq_some_iff.1 hg).1⟩
      · go_simp
      · have e : rowsM l = rowsM (l.take k) ++ rowsM (l.drop k) := by rw [← rowsM_append, List.take_append_drop]
        have hu2 : (rowsM l)[k * 5 + j]? = some u := by
          rw [e, List.getElem?_append_right (by rw [rowsM_len, List.length_take]; omega), rowsM_len, List.length_take, show k * 5 + j - min k l.length * 5 = j from by rw [Nat.min_eq_left (by omega)]; omega]
          exact hu
        have := h.cells (g := g) rfl (k * 5 + j) u hu2
        rw [Addr_add] at this ⊢
        rwa [Nat.zero_add] at this
theorem SrcM.kept {p : Option Addr} {m c : Nat} {news : List Value} {w w' : World} (h : SrcM p m c news w) (hb : ∀ ad, p = some ad → w'.heap[ad.block]? = w.heap[ad.block]?) : SrcM p m c news w' := by
  rcases h with h | ⟨ad, h1, h2, h3⟩
  · exact .inl h
  · refine .inr ⟨ad, h1, h2, fun j u hu => (World.cell?_of_block ?_).trans (h3 j u hu)⟩
    have e : (ad.add j).block = ad.block := by unfold Addr.add; split <;> rfl
    rw [e]
    exact hb ad h1
/-- 'append' of a slice's elements, nil or not. -/
theorem append_src {w : World} {ops : Array Oper} {rest : List Oper} {o : Oper} {a : Act} {Q : Exit → Act → World → Prop} (hgd : o.guard = none) (s x : Operand)
    (ho : o.op = .call { callee := .builtin .append, args := #[s, x], argTypes := #[43, 43] }) (base : Nat) (v : Value) (n : Nat) (xs : List Value) (hs : a.eval s = v) (hown : w.ownsRow base 48 5 v n xs)
    (p : Option Addr) (m c : Nat) (news : List Value) (hx : a.eval x = .slice p m c) (hsrc : SrcM p m c news w) (h1 : ∀ u ∈ news, u.oneCell' = true) (h63 : n + m < 1099511627) (hbase : base ≤ w.heap.size)
    (h : ∀ q cq w', w'.ownsRow base 48 5 (.slice q (n + m) cq) (n + m) (xs ++ news) → w.grownBy w' v.ownBlock → wpList Try.prog ops Q rest (a.put o.dst (.slice q (n + m) cq)) w') : wpList Try.prog ops Q (o :: rest) a w := by
  obtain ⟨i0, hi, hz0, hz1, hz2⟩ := info_parts Try.info48
  rcases hsrc with ⟨rfl, rfl, rfl, rfl⟩ | ⟨ad, rfl, hl, hc⟩
  · obtain ⟨q, cq, hv, _, _⟩ := row_form hown
    subst hv
    refine wpList_append_own_none hgd s x 43 ho base 48 i0 5 Try.underlying43 hi _ n xs hs hown hx ?_
    have := h q cq w (by rw [List.append_nil, Nat.add_zero]; exact hown) ⟨rfl, rfl, rfl, Nat.le_refl _, fun _ _ _ => rfl⟩
    rwa [Nat.add_zero] at this
  · refine wpList_append_own w hgd s x 43 ho base 48 i0 (.agg #[.int .i64 0, .int .u32 0, .int .i64 0, .int .i64 0, .int .i64 0]) 5 40 Try.underlying43 hi hz0 hz1 hz2 rfl (by decide) v n xs hs hown ad m c news hx hl hc h1 (by unfold maxLen; omega) (by omega) hbase ?_
    intro v' w' hown' hg _
    obtain ⟨q, cq, rfl, _, _⟩ := row_form hown'
    exact h q cq w' hown' hg
section
variable {Q Qa : Nat → Prop} {XP Y gO room : Nat} {lv : Value} {key : ByteArray} {anc : Anc} {L : List Mem} {own : Nat → Nat} {w w' : World}
theorem RefP.setL {w1 : World} (h : RefP Q Qa XP Y gO room lv key anc L own w) (hb : Below w.heap.size w w1) {n : Nat} {v : Value} {L' : List Mem} (hr : w1.ownsRow w.heap.size 48 5 v n (rowsM L')) (hn : L'.length = n) : RTurn Q XP room key anc L' own w (w1.setCell ⟨XP, 2, none⟩ v) := by
  have hXP := h.lt
  have hgO := h.low gO h.mem.2.1
  have hX1 := (hb.block XP hXP).trans h.box
  have hs : (w1.setCell ⟨XP, 2, none⟩ v).heap.size = w1.heap.size := by simp [World.setCell]
  have hk : ∀ i, i < w.heap.size → i ≠ XP → (w1.setCell ⟨XP, 2, none⟩ v).heap[i]? = w.heap[i]? := fun i hi hne => (Below.heap_setCell _ _ _ _ hne).trans (hb.block i hi)
  have hv : ∀ g, v.ownBlock = some g → w.heap.size ≤ g ∧ g < w1.heap.size := fun g hg => hr.lt g hg
  refine ⟨fun j => Q j ∨ v.ownBlock = some j, Qa, Y, gO, v, ⟨?_, h.anc.kept (fun i hi => hk i (h.low i (h.mem.2.2.2 i hi)) (fun e => h.apart.1 (e ▸ hi))) (by rw [hs]; exact hb.size), ?_, h.own.block (hk gO hgO h.apart.2.2.1.symm), ⟨.inl h.mem.1, .inl h.mem.2.1, fun g hg => .inr hg, fun i hi => .inl (h.mem.2.2.2 i hi)⟩, ⟨h.apart.1, h.apart.2.1, h.apart.2.2.1, fun g hg => ?_⟩, fun i hi => ?_⟩, ⟨hb.os, hb.tape, hb.output, by rw [hs]; exact hb.size, fun i hi hn => hk i hi (fun e => hn (e ▸ h.mem.1))⟩, fun j hj => ?_⟩
  · simp [World.setCell, Array.getElem?_modify, hX1]
  · rw [hn]
    exact ownsRow_base (ownsRow_setCell_below hr (a := ⟨XP, 2, none⟩) hXP v) (Nat.zero_le _)
  · have := hv g hg
    refine ⟨fun e => ?_, by omega, by omega⟩
    have := h.low g (h.mem.2.2.2 g e)
    omega
  · rw [hs]
    rcases hi with hi | hi
    · have := h.low i hi; have := hb.size; omega
    · exact (hv i hi).2
  · rcases hj with hj | hj
    · exact .inl hj
    · exact .inr (hv j hj).1
end
theorem app_below {w wr w5 : World} {e : TypeId} {k m : Nat} {v : Value} {xs : List Value} {o : Obj} (hB : Below w.heap.size w wr) (hr : wr.ownsRow w.heap.size e k v m xs) (hg : (wr.alloc o).grownBy w5 v.ownBlock) : Below w.heap.size w w5 :=
  (hB.alloc hB.size o).grown hg (by have := hB.size; simp; omega) (fun j e => (hr.lt j e).1)
end Go.Proofs.Ytlipkffnllmkgaa

namespace Go.Proofs.Ytlipkffnllmkgaa
open Go.RowKit Go.Shelf Go.Maps Go.Lib

section
variable {Q Qa : Nat → Prop} {XP Y gO room : Nat} {lv : Value} {key : ByteArray} {anc : Anc} {L : List Mem} {own : Nat → Nat} {w w' : World}
set_option maxRecDepth 100000 in
set_option maxHeartbeats 1000000 in
theorem rremove_none (h : RefP Q Qa XP Y gO room lv key anc L own w) {id : Int} (ht : thereB id L = false) :
    Calls Try.prog 22 #[.pointer (some ⟨XP, 0, none⟩), .int .i64 id] w fun e w' => e = .returned (.int .i64 19) ∧ RTurn Q XP room key anc L own w w' := by
  have HP := Lib.hid (rplace_no h ht)
  have HH := Lib.hid h
  clear h ht
  go_enter Try.func22, Try.ntmps22
  go_wp2_with (go_at_call 35; refine HP.out.mono ?_; rintro e wx ⟨rfl, q, rfl⟩)
  go_ret
  exact ⟨rfl, RTurn.of_drewN HH.out q⟩
theorem cut_len {L : List Mem} {i n : Nat} (hn : L.length = n) (hi : i < n) : (L.take i ++ L.drop (i + 1)).length = i + (n - (i + 1)) := by
  rw [List.length_append, List.length_take, List.length_drop]
  omega
set_option maxRecDepth 100000 in
set_option maxHeartbeats 2000000 in
theorem rremove_drained (h : RefP Q Qa XP Y gO room lv key anc L own w) {id : Int} {i : Nat} {m : Mem} (hi : placeN id L = i) (hm : L[i]? = some m) (hid : m.id = id) (hs : m.state ≠ 1) (hlen : L.length < 1000000) :
    Calls Try.prog 22 #[.pointer (some ⟨XP, 0, none⟩), .int .i64 id] w fun e w' => e = .returned (.int .i64 0) ∧ RTurn Q XP room key anc (L.take i ++ L.drop (i + 1)) own w w' := by
  have HP := Lib.hid (rplace_yes h hi (there_at (hi.symm ▸ hm) hid))
  have HH := Lib.hid h
  have HM := Lib.hid hm
  have het : (m.state == 1) = false := by simpa using hs
  have hin := (List.getElem?_eq_some_iff.1 hm).1
  obtain ⟨n, hln⟩ : ∃ n, L.length = n := ⟨_, rfl⟩
  rw [hln] at hin hlen
  have HLN := Lib.hid hln
  have hinI : (i : Int) < (n : Int) := by omega
  obtain ⟨mi, ma, mp, ms, mb⟩ := m
  dsimp only at het
  clear h hm hi hid hs hln
  go_enter Try.func22, Try.ntmps22
  go_wp2_with (first
    | (go_at_call 35; refine HP.out.mono ?_; rintro e wx ⟨rfl, q, rfl⟩; have HT := Lib.hid (HH.out.drewN q); obtain ⟨⟨_, _, b2, _, _⟩, _⟩ := HT.out.cells; obtain ⟨g, cap, hv, ⟨_, _, _, c3, _⟩, _⟩ := own_cells HT.out.row HM.out; subst hv; dsimp only at c3; rw [HLN.out] at b2; obtain ⟨_, _, hv, hcv, hcv2⟩ := row_form HT.out.row; cases hv; rw [HLN.out] at hcv; have hcI : (n : Int) ≤ (cap : Int) := (by omega); clear hcv; have HROW := Lib.hid HT.out.row; rw [HLN.out] at HROW; obtain ⟨hpre, hs1⟩ := pre48 (k := i) HROW.out (by rw [HLN.out]) (by omega); obtain ⟨p2, cs, hq1, hs2, hs3⟩ := suf48 (k := i + 1) HROW.out (by rw [HLN.out]) (by omega); have hsuf : ∀ W', (Instr.slice 43 (.slice (some ⟨g, 0, none⟩) n cap) (some (.int .i64 ((i : Int) + 1))) none none).run Try.prog W' = .ok (.slice p2 (n - (i + 1)) cs) W' := (fun W' => hq1 W'); have HS1 := Lib.hid hs1; have HS2 := Lib.hid hs2; have HGB := Lib.hid hs3; have ST := StageP.mk 1; clear hq1 hs1 hs2 hs3)
    | (at_builtin; have := (ST : StageP 1); clear this; refine append_src rfl _ _ rfl (w.drewN q).heap.size (.slice none 0 0) 0 [] rfl (World.ownsRow_nil _ _ _ _) _ i cap (rowsM ((L).take i)) rfl HS1.out (rowsM_one _) (by omega) (Nat.le_refl _) ?_; intro q2 c2 w2 hr2 hg2; replace ST := StageP.mk 2; have HR2 := Lib.hid (show w2.ownsRow (w.drewN q).heap.size 48 5 (.slice q2 i c2) i (rowsM ((L).take i)) from (by simpa using hr2)); have HB2 := Lib.hid ((Below.refl (w.drewN q).heap.size (w.drewN q)).grown hg2 (Nat.le_refl _) (fun b e => by cases e)); have HS3 := Lib.hid (HS2.out.kept (w' := w2) (fun ad e => HB2.out.block _ (HGB.out ad e))); have hX2 := (HB2.out.block XP HT.out.lt).trans HT.out.box; clear b2; have b2 : w2.cell? ⟨XP, 2, none⟩ = some (.slice (some ⟨g, 0, none⟩) n cap) := (by simp [World.cell?, hX2, HLN.out]); clear hr2 hg2 hX2)
    | (at_builtin; have := (ST : StageP 2); clear this; refine append_src rfl _ _ rfl (w.drewN q).heap.size (.slice q2 i c2) i _ rfl HR2.out p2 (n - (i + 1)) cs (rowsM ((L).drop (i + 1))) rfl HS3.out (rowsM_one _) (by omega) HB2.out.size ?_; intro q3 c3x w3 hr3 hg3; replace ST := StageP.mk 3; have HR3 := Lib.hid hr3; have HB3 := Lib.hid (HB2.out.grown hg3 HB2.out.size (fun b e => (HR2.out.lt b e).1)); have hX3 := (HB3.out.block XP HT.out.lt).trans HT.out.box; clear b2; have b2 : w3.cell? ⟨XP, 2, none⟩ = some (.slice (some ⟨g, 0, none⟩) n cap) := (by simp [World.cell?, hX3, HLN.out]); have f2 : w3.frozen? ⟨XP, 2, none⟩ = false := (by simp [World.frozen?, hX3]); clear hr3 hg3 hX3))
  go_ret
  have hfin := HT.out.setL HB3.out (L' := L.take i ++ L.drop (i + 1)) (by rw [rowsM_append]; exact HR3.out) (cut_len HLN.out hin)
  exact ⟨rfl, RTurn.trans HT.out ((Only.refl Q w).drewN q) (fun _ h => .inl h) hfin⟩
set_option maxRecDepth 100000 in
set_option maxHeartbeats 2000000 in
theorem rremove_active (h : RefP Q Qa XP Y gO room lv key anc L own w) {id : Int} {i : Nat} {m : Mem} (hi : placeN id L = i) (hm : L[i]? = some m) (hid : m.id = id) (hs : m.state = 1) (b : Nat) (hb : m.bucket = (b : Int)) (hbr : b < room) (hg : anc.gone b = 0) (hn : 2 ≤ actN L → 2 ≤ anc.n) (hlen : L.length < 1000000) :
    Calls Try.prog 22 #[.pointer (some ⟨XP, 0, none⟩), .int .i64 id] w fun e w' => e = .returned (.int .i64 0) ∧ RTurn Q XP room key (if 2 ≤ actN L then rem anc b else anc) (L.take i ++ L.drop (i + 1)) (upd own b 0) w w' := by
  have HP := Lib.hid (rplace_yes h hi (there_at (hi.symm ▸ hm) hid))
  have HH := Lib.hid h
  have HM := Lib.hid hm
  have hin := (List.getElem?_eq_some_iff.1 hm).1
  have HLV := Lib.hid (fun q => rleave (HH.out.drewN q) hm b hb hbr hg hn)
  obtain ⟨an, han⟩ : ∃ an, (if 2 ≤ actN L then rem anc b else anc) = an := ⟨_, rfl⟩
  rw [han] at HLV ⊢
  obtain ⟨n, hln⟩ : ∃ n, L.length = n := ⟨_, rfl⟩
  rw [hln] at hin hlen
  have HLN := Lib.hid hln
  have hinI : (i : Int) < (n : Int) := by omega
  obtain ⟨mi, ma, mp, ms, mb⟩ := m
  dsimp only at hs HLV
  subst hs
  have HCUT := Lib.hid (show (L.set i ⟨mi, ma, mp, 1, 0⟩).take i ++ (L.set i ⟨mi, ma, mp, 1, 0⟩).drop (i + 1) = L.take i ++ L.drop (i + 1) from by rw [List.take_set_of_le (Nat.le_refl _), List.drop_set_of_lt (by omega)])
  clear h hm hi hid hg hn han hb hln
  go_enter Try.func22, Try.ntmps22
  go_wp2_with (first
    | (go_at_call 35; refine HP.out.mono ?_; rintro e wx ⟨rfl, q, rfl⟩; have HT := Lib.hid (HH.out.drewN q); obtain ⟨⟨_, _, b2, _, _⟩, _⟩ := HT.out.cells; obtain ⟨g, cap, hv, ⟨_, _, _, c3, _⟩, _⟩ := own_cells HT.out.row HM.out; subst hv; dsimp only at c3; rw [HLN.out] at b2; obtain ⟨_, _, hv, hcv, hcv2⟩ := row_form HT.out.row; cases hv; rw [HLN.out] at hcv; have hcI : (n : Int) ≤ (cap : Int) := (by omega); clear hcv)
    | (go_at_call 37; refine (HLV.out q).mono ?_; rintro e wy ⟨rfl, Q2, Qa2, Y2, gO2, lv2, hT2, hO2, hQ2⟩; have HM2 := Lib.hid (show (L.set i ⟨mi, ma, mp, 1, 0⟩)[i]? = some ⟨mi, ma, mp, 1, 0⟩ from (by rw [List.getElem?_set_self (by rw [HLN.out]; omega)])); have HT2 := Lib.hid hT2; have HO2 := Lib.hid hO2; have HQ2 := Lib.hid hQ2; clear hT2 hO2 hQ2; clear b2 c3 hcI hcv2; obtain ⟨⟨_, _, b2, _, _⟩, _⟩ := HT2.out.cells; obtain ⟨g1, cap1, hv2, ⟨_, _, _, c3, _⟩, fz⟩ := own_cells HT2.out.row HM2.out; subst hv2; clear c3 fz; rename_i g0 cap0; obtain ⟨_, _, hv, hcv, hcv2⟩ := row_form HT2.out.row; cases hv; rw [List.length_set, HLN.out] at hcv b2; have hcI : (n : Int) ≤ (cap1 : Int) := (by omega); clear hcv; have HROW := Lib.hid HT2.out.row; rw [List.length_set, HLN.out] at HROW; obtain ⟨hpre, hs1⟩ := pre48 (k := i) HROW.out (by rw [List.length_set, HLN.out]) (by omega); obtain ⟨p2, cs, hq1, hs2, hs3⟩ := suf48 (k := i + 1) HROW.out (by rw [List.length_set, HLN.out]) (by omega); have hsuf : ∀ W', (Instr.slice 43 (.slice (some ⟨g1, 0, none⟩) n cap1) (some (.int .i64 ((i : Int) + 1))) none none).run Try.prog W' = .ok (.slice p2 (n - (i + 1)) cs) W' := (fun W' => hq1 W'); have HS1 := Lib.hid hs1; have HS2 := Lib.hid hs2; have HGB := Lib.hid hs3; have ST := StageP.mk 1; clear hq1 hs1 hs2 hs3)
    | (at_builtin; have := (ST : StageP 1); clear this; refine append_src rfl _ _ rfl (wy).heap.size (.slice none 0 0) 0 [] rfl (World.ownsRow_nil _ _ _ _) _ i cap1 (rowsM ((L.set i ⟨mi, ma, mp, 1, 0⟩).take i)) rfl HS1.out (rowsM_one _) (by omega) (Nat.le_refl _) ?_; intro q2 c2 w2 hr2 hg2; replace ST := StageP.mk 2; have HR2 := Lib.hid (show w2.ownsRow (wy).heap.size 48 5 (.slice q2 i c2) i (rowsM ((L.set i ⟨mi, ma, mp, 1, 0⟩).take i)) from (by simpa using hr2)); have HB2 := Lib.hid ((Below.refl (wy).heap.size (wy)).grown hg2 (Nat.le_refl _) (fun b e => by cases e)); have HS3 := Lib.hid (HS2.out.kept (w' := w2) (fun ad e => HB2.out.block _ (HGB.out ad e))); have hX2 := (HB2.out.block XP HT2.out.lt).trans HT2.out.box; clear b2; have b2 : w2.cell? ⟨XP, 2, none⟩ = some (.slice (some ⟨g1, 0, none⟩) n cap1) := (by simp [World.cell?, hX2, HLN.out]); clear hr2 hg2 hX2)
    | (at_builtin; have := (ST : StageP 2); clear this; refine append_src rfl _ _ rfl (wy).heap.size (.slice q2 i c2) i _ rfl HR2.out p2 (n - (i + 1)) cs (rowsM ((L.set i ⟨mi, ma, mp, 1, 0⟩).drop (i + 1))) rfl HS3.out (rowsM_one _) (by omega) HB2.out.size ?_; intro q3 c3x w3 hr3 hg3; replace ST := StageP.mk 3; have HR3 := Lib.hid hr3; have HB3 := Lib.hid (HB2.out.grown hg3 HB2.out.size (fun b e => (HR2.out.lt b e).1)); have hX3 := (HB3.out.block XP HT2.out.lt).trans HT2.out.box; clear b2; have b2 : w3.cell? ⟨XP, 2, none⟩ = some (.slice (some ⟨g1, 0, none⟩) n cap1) := (by simp [World.cell?, hX3, HLN.out]); have f2 : w3.frozen? ⟨XP, 2, none⟩ = false := (by simp [World.frozen?, hX3]); clear hr3 hg3 hX3))
  go_ret
  have hfin := HT2.out.setL HB3.out (L' := L.take i ++ L.drop (i + 1)) (by rw [← HCUT.out, rowsM_append]; exact HR3.out) (cut_len HLN.out hin)
  exact ⟨rfl, RTurn.trans HT.out ((Only.refl Q w).drewN q) (fun _ h => .inl h) (RTurn.trans HT2.out HO2.out HQ2.out hfin)⟩
end
end Go.Proofs.Ytlipkffnllmkgaa

namespace Go.Proofs.Ytlipkffnllmkgaa
open Go.RowKit Go.Shelf Go.Maps Go.Lib

section
variable {Q Qa : Nat → Prop} {XP Y gO room : Nat} {lv : Value} {key : ByteArray} {anc : Anc} {L : List Mem} {own : Nat → Nat} {w w' : World}
def boxBR : Obj := .cells #[.int .i64 0, .int .u32 0, .int .i64 0] 33
theorem boxBR_new (w : World) : (w.alloc boxBR).heap[w.heap.size]? = some (.cells #[.int .i64 0, .int .u32 0, .int .i64 0] 33 (0, 0)) := World.alloc_heap_new w boxBR
set_option maxRecDepth 100000 in
set_option maxHeartbeats 1000000 in
theorem rget_none (h : RefP Q Qa XP Y gO room lv key anc L own w) {id : Int} (ht : thereB id L = false) :
    Calls Try.prog 23 #[.pointer (some ⟨XP, 0, none⟩), .int .i64 id] w fun e w' => e = .returned (.tuple #[.agg #[.int .i64 0, .int .u32 0, .int .i64 0], .int .i64 0, .int .i64 19]) ∧ Below w.heap.size w w' := by
  have hB : Below w.heap.size w (w.alloc boxBR) := (Below.refl _ w).alloc (Nat.le_refl _) _
  have HP := Lib.hid (rplace_no (h.below hB) ht)
  have HB := Lib.hid hB
  have hbox := boxBR_new w
  obtain ⟨⟨r0, r1, r2⟩, z0, z1, z2⟩ := cells3 hbox
  obtain ⟨_, _, _, hbe⟩ := put3 hbox (Nat.le_refl _) hB (.int .i64 0) (.int .u32 0) (.int .i64 0)
  unfold boxBR at *
  clear h ht
  go_enter Try.func23, Try.ntmps23
  go_wp2_with (go_at_call 35; refine HP.out.mono ?_; rintro e wx ⟨rfl, q, rfl⟩)
  refine ⟨rfl, .tuple #[.agg #[.int .i64 0, .int .u32 0, .int .i64 0], .int .i64 0, .int .i64 19], by simp [results, Try.f23, go_sem], rfl, ?_⟩
  exact ⟨hbe.os, hbe.tape, hbe.output, hbe.size, hbe.block⟩
set_option maxRecDepth 100000 in
set_option maxHeartbeats 1000000 in
theorem rget_ok (h : RefP Q Qa XP Y gO room lv key anc L own w) {id : Int} {i : Nat} {m : Mem} (hi : placeN id L = i) (hm : L[i]? = some m) (hid : m.id = id) :
    Calls Try.prog 23 #[.pointer (some ⟨XP, 0, none⟩), .int .i64 id] w fun e w' => e = .returned (.tuple #[.agg #[.int .i64 m.id, .int .u32 m.addr, .int .i64 m.port], .int .i64 m.state, .int .i64 0]) ∧ Below w.heap.size w w' := by
  have hB : Below w.heap.size w (w.alloc boxBR) := (Below.refl _ w).alloc (Nat.le_refl _) _
  have HP := Lib.hid (rplace_yes (h.below hB) hi (there_at (hi.symm ▸ hm) hid))
  have HH := Lib.hid (h.below hB)
  have HM := Lib.hid hm
  have HB := Lib.hid hB
  have hin := (List.getElem?_eq_some_iff.1 hm).1
  obtain ⟨n, hln⟩ : ∃ n, L.length = n := ⟨_, rfl⟩
  rw [hln] at hin
  have HLN := Lib.hid hln
  have hinI : (i : Int) < (n : Int) := by omega
  have hbox := boxBR_new w
  obtain ⟨⟨_, _, b2, _, _⟩, _⟩ := HH.out.cells
  obtain ⟨g, cap, hv, ⟨c0, c1, c2, c3, _⟩, _⟩ := own_cells HH.out.row hm
  subst hv
  rw [hln] at b2
  obtain ⟨_, _, hv, hcv, hcv2⟩ := row_form h.row
  cases hv
  rw [hln] at hcv
  have hcI : (n : Int) ≤ (cap : Int) := by omega
  have hXl := h.lt
  have hgl : g < w.heap.size := h.low g (h.mem.2.2.1 g rfl)
  obtain ⟨⟨r0, r1, r2⟩, z0, z1, z2⟩ := cells3 hbox
  obtain ⟨_, _, _, hbe⟩ := put3 hbox (Nat.le_refl _) hB (.int .i64 m.id) (.int .u32 m.addr) (.int .i64 m.port)
  obtain ⟨mi, ma, mp, ms, mb⟩ := m
  dsimp only at c0 c1 c2 c3 hbe ⊢
  have HD := Lib.hid hbe
  unfold boxBR at *
  clear h hm hi hid hln hcv hB hbox hbe
  go_enter Try.func23, Try.ntmps23
  go_wp2_with (go_at_call 35; refine HP.out.mono ?_; rintro e wx ⟨rfl, q, rfl⟩)
  go_region
  all_goals
    go_wp2_with fail
    have hbe := HD.out
    refine ⟨rfl, .tuple #[.agg #[.int .i64 mi, .int .u32 ma, .int .i64 mp], .int .i64 ms, .int .i64 0], by simp [results, Try.f23, go_sem], rfl, ?_⟩
    exact ⟨hbe.os, hbe.tape, hbe.output, hbe.size, hbe.block⟩
end
end Go.Proofs.Ytlipkffnllmkgaa

namespace Go.Proofs.Ytlipkffnllmkgaa
open Go.RowKit Go.Shelf Go.Maps Go.Lib

theorem strOfNums_append (a b : List Int) : strOfNums (a ++ b) = strOfNums a ++ strOfNums b := by
  apply ByteArray.ext
  simp [strOfNums, ByteArray.data_append]
/-- The last i bytes of a number. -/
def tailS (m n i : Nat) : ByteArray := strOfNums ((List.range i).map (fun k => putF m n (m - i + k)))
theorem tailS_all (m n : Nat) : tailS m n m = putS m n := by
  unfold tailS putS
  simp
theorem tailS_step {m n i : Nat} (hi : i < m) : strOfNums [((n / 256 ^ i % 256 : Nat) : Int)] ++ tailS m n i = tailS m n (i + 1) := by
  unfold tailS
  rw [← strOfNums_append, List.range_succ_eq_map, List.map_cons, List.map_map]
  congr 1
  rw [List.singleton_append]
  congr 1
  · unfold putF
    rw [show m - 1 - (m - (i + 1) + 0) = i from by omega, show (256 : Nat) ^ i = 2 ^ (8 * i) from by rw [Nat.pow_mul]]
  · apply List.map_congr_left
    intro k _
    show putF m n (m - i + k) = putF m n (m - (i + 1) + (k + 1))
    congr 1
    omega
theorem tailS_zero (m n : Nat) : tailS m n 0 = ⟨#[]⟩ := rfl
set_option maxRecDepth 100000 in
set_option maxHeartbeats 1000000 in
theorem rput1_ok (n : Nat) (hn : n < 256) (w : World) :
    Calls Try.prog 53 #[.int .i64 1, .int .i64 (n : Int)] w fun e w' => e = .returned (.tuple #[.string (putS 1 n), .bool true]) ∧ Below w.heap.size w w' := by
  have h0 : ¬ (n : Int) < 0 := by omega
  have h1 : ¬ (256 : Int) ≤ (n : Int) := by omega
  go_enter Try.func53, Try.ntmps53
  go_wp2_with fail
  go_loopw [1, 6, 7] (fun vn vs vi wr => ∃ i q : Nat, i ≤ 1 ∧ vi = .int .i64 (i : Int) ∧ n / 256 ^ i = q ∧ q < 256 ∧ vn = .int .i64 (q : Int) ∧ vs = .string (tailS 1 n i) ∧ Below w.heap.size w wr) (fun _ _ vi _ => 1 - (intOf vi).toNat)
  case atStart => exact ⟨0, n, by omega, rfl, by simp, hn, rfl, rfl, Below.refl _ _⟩
  case round =>
    obtain ⟨i, q, hi, rfl, hq, hq2, rfl, rfl, hB⟩ := hrel
    have HB := Lib.hid hB
    have HQ := Lib.hid hq
    clear hB hq
    by_cases hlt : i < 1
    · have hltI : (i : Int) < 1 := by omega
      have hc := conv_one wr (q : Int)
      have hc2 := conv_one wr ((q : Int) % 256)
      have HS1 := Lib.hid (show q < 256 → strOfNums [(q : Int)] ++ tailS 1 n i = tailS 1 n (i + 1) from fun hq => by
        have := tailS_step (n := n) hlt
        rw [HQ.out, Nat.mod_eq_of_lt hq] at this
        exact this)
      have HS := Lib.hid (show strOfNums [(q : Int) % 256] ++ tailS 1 n i = tailS 1 n (i + 1) from by
        have := tailS_step (n := n) hlt
        rw [HQ.out] at this
        exact this)
      have hTs : (tailS 1 n i).size ≤ 4 := by unfold tailS; rw [strOfNums_size]; simp; omega
      have hNs1 : (strOfNums [(q : Int)]).size = 1 := strOfNums_size _
      have hNs2 : (strOfNums [(q : Int) % 256]).size = 1 := strOfNums_size _
      generalize tailS 1 n i = T at *
      go_wp2_with fail
      go_roundw
      case rel =>
        refine ⟨i + 1, q / 256, by omega, rfl, ?_, by omega, rfl, ?_, HB.out.alloc HB.out.size _⟩
        · rw [Nat.pow_succ, ← Nat.div_div_eq_div_mul, HQ.out]
        · first
            | exact congrArg Value.string HS.out
            | exact congrArg Value.string (HS1.out hq2)
      case measure => simp [intOf]; omega
    · obtain rfl : i = 1 := by omega
      go_wp2_with fail
      go_ret2
      exact ⟨by rw [tailS_all]; rfl, HB.out⟩
set_option maxRecDepth 100000 in
set_option maxHeartbeats 1000000 in
theorem rput2_ok (n : Nat) (hn : n < 65536) (w : World) :
    Calls Try.prog 53 #[.int .i64 2, .int .i64 (n : Int)] w fun e w' => e = .returned (.tuple #[.string (putS 2 n), .bool true]) ∧ Below w.heap.size w w' := by
  have h0 : ¬ (n : Int) < 0 := by omega
  have h1 : ¬ (65536 : Int) ≤ (n : Int) := by omega
  go_enter Try.func53, Try.ntmps53
  go_wp2_with fail
  go_loopw [1, 6, 7] (fun vn vs vi wr => ∃ i q : Nat, i ≤ 2 ∧ vi = .int .i64 (i : Int) ∧ n / 256 ^ i = q ∧ q < 65536 ∧ vn = .int .i64 (q : Int) ∧ vs = .string (tailS 2 n i) ∧ Below w.heap.size w wr) (fun _ _ vi _ => 2 - (intOf vi).toNat)
  case atStart => exact ⟨0, n, by omega, rfl, by simp, hn, rfl, rfl, Below.refl _ _⟩
  case round =>
    obtain ⟨i, q, hi, rfl, hq, hq2, rfl, rfl, hB⟩ := hrel
    have HB := Lib.hid hB
    have HQ := Lib.hid hq
    clear hB hq
    by_cases hlt : i < 2
    · have hltI : (i : Int) < 2 := by omega
      have hc := conv_one wr (q : Int)
      have hc2 := conv_one wr ((q : Int) % 256)
      have HS1 := Lib.hid (show q < 256 → strOfNums [(q : Int)] ++ tailS 2 n i = tailS 2 n (i + 1) from fun hq => by
        have := tailS_step (n := n) hlt
        rw [HQ.out, Nat.mod_eq_of_lt hq] at this
        exact this)
      have HS := Lib.hid (show strOfNums [(q : Int) % 256] ++ tailS 2 n i = tailS 2 n (i + 1) from by
        have := tailS_step (n := n) hlt
        rw [HQ.out] at this
        exact this)
      have hTs : (tailS 2 n i).size ≤ 4 := by unfold tailS; rw [strOfNums_size]; simp; omega
      have hNs1 : (strOfNums [(q : Int)]).size = 1 := strOfNums_size _
      have hNs2 : (strOfNums [(q : Int) % 256]).size = 1 := strOfNums_size _
      generalize tailS 2 n i = T at *
      go_wp2_with fail
      go_roundw
      case rel =>
        refine ⟨i + 1, q / 256, by omega, rfl, ?_, by omega, rfl, ?_, HB.out.alloc HB.out.size _⟩
        · rw [Nat.pow_succ, ← Nat.div_div_eq_div_mul, HQ.out]
        · first
            | exact congrArg Value.string HS.out
            | exact congrArg Value.string (HS1.out hq2)
      case measure => simp [intOf]; omega
    · obtain rfl : i = 2 := by omega
      go_wp2_with fail
      go_ret2
      exact ⟨by rw [tailS_all]; rfl, HB.out⟩
set_option maxRecDepth 100000 in
set_option maxHeartbeats 1000000 in
theorem rput4_ok (n : Nat) (hn : n < 4294967296) (w : World) :
    Calls Try.prog 53 #[.int .i64 4, .int .i64 (n : Int)] w fun e w' => e = .returned (.tuple #[.string (putS 4 n), .bool true]) ∧ Below w.heap.size w w' := by
  have h0 : ¬ (n : Int) < 0 := by omega
  have h1 : ¬ (4294967296 : Int) ≤ (n : Int) := by omega
  go_enter Try.func53, Try.ntmps53
  go_wp2_with fail
  go_loopw [1, 6, 7] (fun vn vs vi wr => ∃ i q : Nat, i ≤ 4 ∧ vi = .int .i64 (i : Int) ∧ n / 256 ^ i = q ∧ q < 4294967296 ∧ vn = .int .i64 (q : Int) ∧ vs = .string (tailS 4 n i) ∧ Below w.heap.size w wr) (fun _ _ vi _ => 4 - (intOf vi).toNat)
  case atStart => exact ⟨0, n, by omega, rfl, by simp, hn, rfl, rfl, Below.refl _ _⟩
  case round =>
    obtain ⟨i, q, hi, rfl, hq, hq2, rfl, rfl, hB⟩ := hrel
    have HB := Lib.hid hB
    have HQ := Lib.hid hq
    clear hB hq
    by_cases hlt : i < 4
    · have hltI : (i : Int) < 4 := by omega
      have hc := conv_one wr (q : Int)
      have hc2 := conv_one wr ((q : Int) % 256)
      have HS1 := Lib.hid (show q < 256 → strOfNums [(q : Int)] ++ tailS 4 n i = tailS 4 n (i + 1) from fun hq => by
        have := tailS_step (n := n) hlt
        rw [HQ.out, Nat.mod_eq_of_lt hq] at this
        exact this)
      have HS := Lib.hid (show strOfNums [(q : Int) % 256] ++ tailS 4 n i = tailS 4 n (i + 1) from by
        have := tailS_step (n := n) hlt
        rw [HQ.out] at this
        exact this)
      have hTs : (tailS 4 n i).size ≤ 4 := by unfold tailS; rw [strOfNums_size]; simp; omega
      have hNs1 : (strOfNums [(q : Int)]).size = 1 := strOfNums_size _
      have hNs2 : (strOfNums [(q : Int) % 256]).size = 1 := strOfNums_size _
      generalize tailS 4 n i = T at *
      go_wp2_with fail
      go_roundw
      case rel =>
        refine ⟨i + 1, q / 256, by omega, rfl, ?_, by omega, rfl, ?_, HB.out.alloc HB.out.size _⟩
        · rw [Nat.pow_succ, ← Nat.div_div_eq_div_mul, HQ.out]
        · first
            | exact congrArg Value.string HS.out
            | exact congrArg Value.string (HS1.out hq2)
      case measure => simp [intOf]; omega
    · obtain rfl : i = 4 := by omega
      go_wp2_with fail
      go_ret2
      exact ⟨by rw [tailS_all]; rfl, HB.out⟩
set_option maxRecDepth 100000 in
set_option maxHeartbeats 1000000 in
theorem rput1_bad (n : Int) (hn : n < 0 ∨ 256 ≤ n) (w : World) :
    Calls Try.prog 53 #[.int .i64 1, .int .i64 n] w fun e w' => e = .returned (.tuple #[.string ⟨#[]⟩, .bool false]) ∧ w' = w := by
  by_cases h0 : n < 0
  case' neg =>
    have h1 : 256 ≤ n := by omega
  all_goals
    clear hn
    go_enter Try.func53, Try.ntmps53
    go_wp2_with fail
    go_ret2
    exact ⟨rfl, rfl⟩
set_option maxRecDepth 100000 in
set_option maxHeartbeats 1000000 in
theorem rput2_bad (n : Int) (hn : n < 0 ∨ 65536 ≤ n) (w : World) :
    Calls Try.prog 53 #[.int .i64 2, .int .i64 n] w fun e w' => e = .returned (.tuple #[.string ⟨#[]⟩, .bool false]) ∧ w' = w := by
  by_cases h0 : n < 0
  case' neg =>
    have h1 : 65536 ≤ n := by omega
  all_goals
    clear hn
    go_enter Try.func53, Try.ntmps53
    go_wp2_with fail
    go_ret2
    exact ⟨rfl, rfl⟩
set_option maxRecDepth 100000 in
set_option maxHeartbeats 1000000 in
theorem rput4_bad (n : Int) (hn : n < 0 ∨ 4294967296 ≤ n) (w : World) :
    Calls Try.prog 53 #[.int .i64 4, .int .i64 n] w fun e w' => e = .returned (.tuple #[.string ⟨#[]⟩, .bool false]) ∧ w' = w := by
  by_cases h0 : n < 0
  case' neg =>
    have h1 : 4294967296 ≤ n := by omega
  all_goals
    clear hn
    go_enter Try.func53, Try.ntmps53
    go_wp2_with fail
    go_ret2
    exact ⟨rfl, rfl⟩
set_option maxRecDepth 100000 in
set_option maxHeartbeats 1000000 in
theorem rnum4 (n : Nat) (hn : n < 4294967296) (w : World) :
    Calls Try.prog 54 #[.int .i64 4, .int .i64 (n : Int)] w fun e w' => e = .returned (.string (putS 4 n)) ∧ Below w.heap.size w w' := by
  have HP := Lib.hid (rput4_ok n hn w)
  go_enter Try.func54, Try.ntmps54
  go_wp2_with (go_at_call 53; refine HP.out.mono ?_; rintro e wx ⟨rfl, hb⟩; have HB := Lib.hid hb; clear hb)
  go_ret
  exact ⟨rfl, HB.out⟩
end Go.Proofs.Ytlipkffnllmkgaa

namespace Go.Proofs.Ytlipkffnllmkgaa
open Go.RowKit Go.Shelf Go.Maps Go.Lib

def RPutSays (m n : Int) (T : ByteArray) (ok : Bool) : Prop := T.size ≤ 4 ∧ ∀ w, Calls Try.prog 53 #[.int .i64 m, .int .i64 n] w fun e w' => e = .returned (.tuple #[.string T, .bool ok]) ∧ Below w.heap.size w w'
theorem rput1_any (n : Int) : ∃ T ok, RPutSays 1 n T ok ∧ (ok = true ↔ 0 ≤ n ∧ n < 256) := by
  by_cases h : 0 ≤ n ∧ n < 256
  · obtain ⟨k, rfl⟩ : ∃ k : Nat, n = (k : Int) := ⟨n.toNat, by omega⟩
    exact ⟨putS 1 k, true, ⟨by rw [putS_size]; omega, fun w => rput1_ok k (by omega) w⟩, by simpa using h⟩
  · exact ⟨⟨#[]⟩, false, ⟨by simp [ByteArray.size], fun w => (rput1_bad n (by omega) w).mono (by rintro e w' ⟨rfl, rfl⟩; exact ⟨rfl, Below.refl _ _⟩)⟩, by simp; omega⟩
theorem rput2_any (n : Int) : ∃ T ok, RPutSays 2 n T ok ∧ (ok = true ↔ 0 ≤ n ∧ n < 65536) := by
  by_cases h : 0 ≤ n ∧ n < 65536
  · obtain ⟨k, rfl⟩ : ∃ k : Nat, n = (k : Int) := ⟨n.toNat, by omega⟩
    exact ⟨putS 2 k, true, ⟨by rw [putS_size]; omega, fun w => rput2_ok k (by omega) w⟩, by simpa using h⟩
  · exact ⟨⟨#[]⟩, false, ⟨by simp [ByteArray.size], fun w => (rput2_bad n (by omega) w).mono (by rintro e w' ⟨rfl, rfl⟩; exact ⟨rfl, Below.refl _ _⟩)⟩, by simp; omega⟩
def boxT (p s d x y : Int) : Obj := .cells #[.int .i64 p, .int .u32 s, .int .u32 d, .int .i64 x, .int .i64 y] 35
/-- A tuple's box over a call. -/
theorem boxT_go {w wy wx : World} {o : Obj} (h : Below w.heap.size w wy ∧ wy.heap[w.heap.size]? = some o) (hb : Below wy.heap.size wy wx) : Below w.heap.size w wx ∧ wx.heap[w.heap.size]? = some o :=
  ⟨h.1.trans (hb.mono h.1.size), (hb.block _ (Array.getElem?_eq_some_iff.1 h.2).1).trans h.2⟩
theorem boxT_drew {w wy wx : World} {o : Obj} (h : Below w.heap.size w wy ∧ wy.heap[w.heap.size]? = some o) (hb : Below wy.drew.heap.size wy.drew wx) : Below w.heap.size w wx ∧ wx.heap[w.heap.size]? = some o :=
  boxT_go (wy := wy.drew) ⟨⟨h.1.os, h.1.tape, h.1.output, h.1.size, h.1.block⟩, h.2⟩ hb
set_option maxRecDepth 100000 in
set_option maxHeartbeats 2000000 in
theorem rkey_bad (p x y : Int) (s d : Nat) (hbad : ¬ ((0 ≤ p ∧ p < 256) ∧ (0 ≤ x ∧ x < 65536) ∧ 0 ≤ y ∧ y < 65536)) (w : World) :
    Calls Try.prog 38 #[.agg #[.int .i64 p, .int .u32 (s : Int), .int .u32 (d : Int), .int .i64 x, .int .i64 y]] w fun e w' => e = .returned (.tuple #[.string ⟨#[]⟩, .bool false]) ∧ Below w.heap.size w w' := by
  obtain ⟨T1, o1, hT1, h1⟩ := rput1_any p
  obtain ⟨T2, o2, hT2, h2⟩ := rput2_any x
  obtain ⟨T3, o3, hT3, h3⟩ := rput2_any y
  have hno : ¬ (o1 = true ∧ o2 = true ∧ o3 = true) := by rw [h1, h2, h3]; exact hbad
  have H1 := Lib.hid hT1.2
  have H2 := Lib.hid hT2.2
  have H3 := Lib.hid hT3.2
  have HX := Lib.hid (show Below w.heap.size w (w.alloc (boxT p s d x y)) ∧ (w.alloc (boxT p s d x y)).heap[w.heap.size]? = some (.cells #[.int .i64 p, .int .u32 s, .int .u32 d, .int .i64 x, .int .i64 y] 35 (0, 0)) from ⟨(Below.refl _ w).alloc (Nat.le_refl _) _, World.alloc_heap_new w _⟩)
  clear hbad h1 h2 h3 hT1 hT2 hT3
  unfold boxT at HX
  have ST := StageP.mk 1
  cases o1 <;> cases o2 <;> cases o3
  case true.true.true => exact (hno ⟨rfl, rfl, rfl⟩).elim
  all_goals
    clear hno
    go_enter Try.func38, Try.ntmps38
    go_wp2_with (first
      | (go_at_call 53; have := (ST : StageP 1); clear this; refine (H1.out _).mono ?_; rintro e wx ⟨rfl, hb⟩; replace ST := StageP.mk 2; replace HX := Lib.hid (boxT_go HX.out hb); obtain ⟨⟨_, _, _, c3, c4⟩, _⟩ := cells5 HX.out.2; clear hb)
      | (go_at_call 53; have := (ST : StageP 2); clear this; refine (H2.out _).mono ?_; rintro e wx ⟨rfl, hb⟩; replace ST := StageP.mk 3; replace HX := Lib.hid (boxT_go HX.out hb); clear c3 c4; obtain ⟨⟨_, _, _, c3, c4⟩, _⟩ := cells5 HX.out.2; clear hb)
      | (go_at_call 53; have := (ST : StageP 3); clear this; refine (H3.out _).mono ?_; rintro e wx ⟨rfl, hb⟩; replace ST := StageP.mk 4; replace HX := Lib.hid (boxT_go HX.out hb); clear c3 c4 hb))
    go_ret2
    exact ⟨rfl, HX.out.1⟩
def numF (n : Int) : ByteArray := putS 4 n.toNat
theorem numF_calls (n : Int) (h0 : 0 ≤ n) (h1 : n < 4294967296) (w : World) : Calls Try.prog 54 #[.int .i64 4, .int .i64 n] w fun e w' => e = .returned (.string (numF n)) ∧ Below w.heap.size w w' := by
  obtain ⟨k, rfl⟩ : ∃ k : Nat, n = (k : Int) := ⟨n.toNat, by omega⟩
  exact rnum4 k (by omega) w
theorem keyS_eq (p s d x y : Nat) : putS 1 p ++ putS 4 s ++ putS 4 d ++ putS 2 x ++ putS 2 y = keyS p s d x y := by
  show _ = ((((⟨#[]⟩ ++ putS 1 p) ++ putS 4 s) ++ putS 4 d) ++ putS 2 x) ++ putS 2 y
  congr 4
set_option maxRecDepth 100000 in
set_option maxHeartbeats 2000000 in
theorem rkey_ok (p s d x y : Nat) (hp : p < 256) (hs : s < 4294967296) (hd : d < 4294967296) (hx : x < 65536) (hy : y < 65536) (w : World) :
    Calls Try.prog 38 #[.agg #[.int .i64 (p : Int), .int .u32 (s : Int), .int .u32 (d : Int), .int .i64 (x : Int), .int .i64 (y : Int)]] w fun e w' => e = .returned (.tuple #[.string (keyS p s d x y), .bool true]) ∧ Below w.heap.size w w' := by
  have H1 := Lib.hid (rput1_ok p hp)
  have H2 := Lib.hid (rput2_ok x hx)
  have H3 := Lib.hid (rput2_ok y hy)
  have H4 := Lib.hid numF_calls
  have hs4 : (s : Int) < 4294967296 := by omega
  have hd4 : (d : Int) < 4294967296 := by omega
  have ws : IntKind.i64.wrap (s : Int) = (s : Int) := by unfold IntKind.wrap; simp [IntKind.bits, IntKind.signed]; omega
  have wd : IntKind.i64.wrap (d : Int) = (d : Int) := by unfold IntKind.wrap; simp [IntKind.bits, IntKind.signed]; omega
  have HX := Lib.hid (show Below w.heap.size w (w.alloc (boxT p s d x y)) ∧ (w.alloc (boxT p s d x y)).heap[w.heap.size]? = some (.cells #[.int .i64 p, .int .u32 s, .int .u32 d, .int .i64 x, .int .i64 y] 35 (0, 0)) from ⟨(Below.refl _ w).alloc (Nat.le_refl _) _, World.alloc_heap_new w _⟩)
  unfold boxT at HX
  have HE := Lib.hid (keyS_eq p s d x y)
  have l1 := putS_size 1 p
  have l2 := putS_size 4 s
  have l3 := putS_size 4 d
  have l4 := putS_size 2 x
  have l5 := putS_size 2 y
  generalize keyS p s d x y = K at *
  generalize putS 1 p = P1 at *
  have e2 : putS 4 s = numF (s : Int) := rfl
  have e3 : putS 4 d = numF (d : Int) := rfl
  rw [e2, e3] at HE
  rw [e2] at l2
  rw [e3] at l3
  clear e2 e3
  generalize putS 2 x = P4 at *
  generalize putS 2 y = P5 at *
  have ST := StageP.mk 1
  go_enter Try.func38, Try.ntmps38
  go_wp2_with (first
    | (go_at_call 53; have := (ST : StageP 1); clear this; refine (H1.out _).mono ?_; rintro e wx ⟨rfl, hb⟩; replace ST := StageP.mk 2; replace HX := Lib.hid (boxT_go HX.out hb); obtain ⟨⟨_, c1, c2, c3, c4⟩, _⟩ := cells5 HX.out.2; clear hb)
    | (go_at_call 53; have := (ST : StageP 2); clear this; refine (H2.out _).mono ?_; rintro e wx ⟨rfl, hb⟩; replace ST := StageP.mk 3; replace HX := Lib.hid (boxT_go HX.out hb); clear c1 c2 c3 c4; obtain ⟨⟨_, c1, c2, c3, c4⟩, _⟩ := cells5 HX.out.2; clear hb)
    | (go_at_call 53; have := (ST : StageP 3); clear this; refine (H3.out _).mono ?_; rintro e wx ⟨rfl, hb⟩; replace ST := StageP.mk 4; replace HX := Lib.hid (boxT_go HX.out hb); clear c1 c2 c3 c4; obtain ⟨⟨_, c1, c2, c3, c4⟩, _⟩ := cells5 HX.out.2; clear hb))
  go_region_with (go_at_call 54; refine (H4.out _ (by omega) (by omega) _).mono ?_; rintro e wx ⟨rfl, hb⟩; replace HX := Lib.hid (by first | exact boxT_go HX.out hb | exact boxT_drew HX.out hb); clear c1 c2 c3 c4; obtain ⟨⟨_, c1, c2, c3, c4⟩, _⟩ := cells5 HX.out.2; clear hb)
  all_goals
    go_wp2_with fail
    go_ret2
    exact ⟨by rw [← HE.out]; first | rfl | simp [go_sem], HX.out.1⟩
end Go.Proofs.Ytlipkffnllmkgaa
