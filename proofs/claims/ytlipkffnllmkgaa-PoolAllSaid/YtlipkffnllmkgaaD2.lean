import Derived.Test.YtlipkffnllmkgaaD1
import Derived.Deep.RegionWith
import Derived.BigRegion
import Derived.WalkSmall
import Derived.RangeFuncBox
import Derived.Deep.CutRange
import Derived.Deep.DeepMust
namespace Go.Proofs.Ytlipkffnllmkgaa
open Go.RowKit

/-- Only blocks X, L and a row have turned, and new ones. -/
structure Moves (X L : Nat) (row : Option Nat) (w w' : World) : Prop where
  os : w'.os = w.os
  tape : w'.tape = w.tape
  output : w'.output = w.output
  size : w.heap.size ≤ w'.heap.size
  block : ∀ i, i < w.heap.size → i ≠ X → i ≠ L → some i ≠ row → w'.heap[i]? = w.heap[i]?
theorem Moves.refl (X L : Nat) (row : Option Nat) (w : World) : Moves X L row w w := ⟨rfl, rfl, rfl, Nat.le_refl _, fun _ _ _ _ _ => rfl⟩
theorem Moves.trans {X L : Nat} {row : Option Nat} {a b c : World} (h : Moves X L row a b) (k : Moves X L row b c) : Moves X L row a c :=
  ⟨k.os.trans h.os, k.tape.trans h.tape, k.output.trans h.output, Nat.le_trans h.size k.size, fun i hi h1 h2 h3 => (k.block i (Nat.lt_of_lt_of_le hi h.size) h1 h2 h3).trans (h.block i hi h1 h2 h3)⟩
theorem Moves.drewN {X L : Nat} {row : Option Nat} {a b : World} (h : Moves X L row a b) (n : Nat) : Moves X L row a (b.drewN n) := ⟨h.os, h.tape, h.output, h.size, h.block⟩
theorem Moves.drew {X L : Nat} {row : Option Nat} {a b : World} (h : Moves X L row a b) : Moves X L row a b.drew := ⟨h.os, h.tape, h.output, h.size, h.block⟩
theorem Moves.setCell {X L : Nat} {row : Option Nat} {a b : World} (h : Moves X L row a b) {p : Addr} (hp : p.block = X ∨ p.block = L) (v : Value) : Moves X L row a (b.setCell p v) :=
  ⟨h.os, h.tape, h.output, by simpa [World.setCell] using h.size, fun i hi h1 h2 h3 => (Below.heap_setCell b p v i (by rintro rfl; rcases hp with hp | hp; exact h1 hp; exact h2 hp)).trans (h.block i hi h1 h2 h3)⟩
theorem Moves.alloc {X L : Nat} {row : Option Nat} {a b : World} (h : Moves X L row a b) (o : Obj) : Moves X L row a (b.alloc o) :=
  ⟨h.os, h.tape, h.output, Nat.le_trans h.size (by simp), fun i hi h1 h2 h3 => (Below.heap_alloc b o i (Nat.lt_of_lt_of_le hi h.size)).trans (h.block i hi h1 h2 h3)⟩
theorem Moves.grown {X L : Nat} {row : Option Nat} {a b c : World} (h : Moves X L row a b) (k : b.grownBy c row) : Moves X L row a c :=
  ⟨k.os.trans h.os, k.tape.trans h.tape, k.output.trans h.output, Nat.le_trans h.size k.size, fun i hi h1 h2 h3 => (k.block i (Nat.lt_of_lt_of_le hi h.size) h3).trans (h.block i hi h1 h2 h3)⟩

theorem cell_set_ne {w : World} {L i j : Nat} {v : Value} {x : Option Value} (h : w.cell? ⟨L, j, none⟩ = x) (e : i ≠ j) : (w.setCell ⟨L, i, none⟩ v).cell? ⟨L, j, none⟩ = x := by
  rw [World.cell?_setCell_other _ _ _ _ (by intro h; injection h; omega)]; exact h
theorem cell_set_eq {w : World} {L i : Nat} {v : Value} {x : Value} (h : w.cell? ⟨L, i, none⟩ = some x) : (w.setCell ⟨L, i, none⟩ v).cell? ⟨L, i, none⟩ = some v := World.cell?_setCell_same' _ _ _ (by rw [h]; rfl)
theorem cell_set_far {w : World} {L X i j : Nat} {v : Value} {x : Option Value} (h : w.cell? ⟨L, j, none⟩ = x) (e : X ≠ L) : (w.setCell ⟨X, i, none⟩ v).cell? ⟨L, j, none⟩ = x := by
  rw [World.cell?_setCell_other _ _ _ _ (by intro h; injection h; omega)]; exact h

theorem Places.set0 {L : Nat} {a : Anc} {w : World} (h : Places L a w) (i : Nat) (hi : i < a.room) (v : Nat) : Places L { a with gone := upd a.gone i v } (w.setCell ⟨L, i * 4, none⟩ (.int .i64 v)) := by
  intro j hj
  obtain ⟨⟨c0, c1, c2, c3⟩, f0, f1, f2, f3⟩ := h j hj
  refine ⟨⟨?_, cell_set_ne c1 (by omega), cell_set_ne c2 (by omega), cell_set_ne c3 (by omega)⟩, by rw [World.frozen?_setCell]; exact f0, by rw [World.frozen?_setCell]; exact f1, by rw [World.frozen?_setCell]; exact f2, by rw [World.frozen?_setCell]; exact f3⟩
  by_cases e : j = i
  · subst e; dsimp only; rw [upd_same]; exact cell_set_eq c0
  · dsimp only; rw [upd_ne _ _ e]; exact cell_set_ne c0 (by omega)
theorem Places.set1 {L : Nat} {a : Anc} {w : World} (h : Places L a w) (i : Nat) (hi : i < a.room) (v : Nat) : Places L { a with works := upd a.works i v } (w.setCell ⟨L, i * 4 + 1, none⟩ (.int .i64 v)) := by
  intro j hj
  obtain ⟨⟨c0, c1, c2, c3⟩, f0, f1, f2, f3⟩ := h j hj
  refine ⟨⟨cell_set_ne c0 (by omega), ?_, cell_set_ne c2 (by omega), cell_set_ne c3 (by omega)⟩, by rw [World.frozen?_setCell]; exact f0, by rw [World.frozen?_setCell]; exact f1, by rw [World.frozen?_setCell]; exact f2, by rw [World.frozen?_setCell]; exact f3⟩
  by_cases e : j = i
  · subst e; dsimp only; rw [upd_same]; exact cell_set_eq c1
  · dsimp only; rw [upd_ne _ _ e]; exact cell_set_ne c1 (by omega)
theorem Places.set2 {L : Nat} {a : Anc} {w : World} (h : Places L a w) (i : Nat) (hi : i < a.room) (v : Nat) : Places L { a with at_ := upd a.at_ i v } (w.setCell ⟨L, i * 4 + 2, none⟩ (.int .i64 v)) := by
  intro j hj
  obtain ⟨⟨c0, c1, c2, c3⟩, f0, f1, f2, f3⟩ := h j hj
  refine ⟨⟨cell_set_ne c0 (by omega), cell_set_ne c1 (by omega), ?_, cell_set_ne c3 (by omega)⟩, by rw [World.frozen?_setCell]; exact f0, by rw [World.frozen?_setCell]; exact f1, by rw [World.frozen?_setCell]; exact f2, by rw [World.frozen?_setCell]; exact f3⟩
  by_cases e : j = i
  · subst e; dsimp only; rw [upd_same]; exact cell_set_eq c2
  · dsimp only; rw [upd_ne _ _ e]; exact cell_set_ne c2 (by omega)
theorem Places.set3 {L : Nat} {a : Anc} {w : World} (h : Places L a w) (i : Nat) (hi : i < a.room) (v : Nat) : Places L { a with next := upd a.next i v } (w.setCell ⟨L, i * 4 + 3, none⟩ (.int .i64 v)) := by
  intro j hj
  obtain ⟨⟨c0, c1, c2, c3⟩, f0, f1, f2, f3⟩ := h j hj
  refine ⟨⟨cell_set_ne c0 (by omega), cell_set_ne c1 (by omega), cell_set_ne c2 (by omega), ?_⟩, by rw [World.frozen?_setCell]; exact f0, by rw [World.frozen?_setCell]; exact f1, by rw [World.frozen?_setCell]; exact f2, by rw [World.frozen?_setCell]; exact f3⟩
  by_cases e : j = i
  · subst e; dsimp only; rw [upd_same]; exact cell_set_eq c3
  · dsimp only; rw [upd_ne _ _ e]; exact cell_set_ne c3 (by omega)
theorem Places.block {L : Nat} {a : Anc} {w w' : World} (h : Places L a w) (e : w'.heap[L]? = w.heap[L]?) : Places L a w' := by
  intro j hj
  obtain ⟨⟨c0, c1, c2, c3⟩, f0, f1, f2, f3⟩ := h j hj
  have ec : ∀ o, w'.cell? ⟨L, o, none⟩ = w.cell? ⟨L, o, none⟩ := fun o => World.cell?_of_block (w := w) e
  have ef : ∀ o, w'.frozen? ⟨L, o, none⟩ = w.frozen? ⟨L, o, none⟩ := fun o => World.frozen?_of_block (w := w) e
  exact ⟨⟨(ec _).trans c0, (ec _).trans c1, (ec _).trans c2, (ec _).trans c3⟩, (ef _).trans f0, (ef _).trans f1, (ef _).trans f2, (ef _).trans f3⟩

/-- The three fields of an anchor. -/
def Fields (X L : Nat) (room n : Nat) (sv : Value) (w : World) : Prop :=
  w.cell? ⟨X, 0, none⟩ = some (.slice (some ⟨L, 0, none⟩) room room) ∧ w.cell? ⟨X, 1, none⟩ = some sv ∧ w.cell? ⟨X, 2, none⟩ = some (.int .i64 (n : Int)) ∧
  w.frozen? ⟨X, 0, none⟩ = false ∧ w.frozen? ⟨X, 1, none⟩ = false ∧ w.frozen? ⟨X, 2, none⟩ = false
theorem Fields.block {X L room n : Nat} {sv : Value} {w w' : World} (h : Fields X L room n sv w) (e : w'.heap[X]? = w.heap[X]?) : Fields X L room n sv w' := by
  obtain ⟨c0, c1, c2, f0, f1, f2⟩ := h
  have ec : ∀ o, w'.cell? ⟨X, o, none⟩ = w.cell? ⟨X, o, none⟩ := fun o => World.cell?_of_block (w := w) e
  have ef : ∀ o, w'.frozen? ⟨X, o, none⟩ = w.frozen? ⟨X, o, none⟩ := fun o => World.frozen?_of_block (w := w) e
  exact ⟨(ec _).trans c0, (ec _).trans c1, (ec _).trans c2, (ef _).trans f0, (ef _).trans f1, (ef _).trans f2⟩
def ints (l : List Nat) : List Value := l.map fun (b : Nat) => .int .i64 (b : Int)

/-- An anchor lies in memory. -/
structure AncAt (X L base : Nat) (sv : Value) (a : Anc) (w : World) : Prop where
  fields : Fields X L a.room a.n sv w
  places : Places L a w
  own : w.ownsRow base 3 1 sv a.stack.length (ints a.stack.reverse)
  hX : X < base
  hL : L < base
  hXL : X ≠ L
  hb : base ≤ w.heap.size

theorem info3 : (Try.prog.info? 3).map (fun i => (i.zero, i.size, i.bytes)) = some (some (.int .i64 0), 1, 8) := by kernel_rfl

theorem remove_none (X L base : Nat) (sv : Value) (a : Anc) (w : World) (b : Int) (h : AncAt X L base sv a w) (hb : b < 0 ∨ (a.room : Int) ≤ b ∨ a.gone b.toNat ≠ 0) :
    Calls Try.prog 45 #[.pointer (some ⟨X, 0, none⟩), .int .i64 b] w fun e w' => e = .returned (.int .i64 19) ∧ w' = w := by
  obtain ⟨⟨c0, c1, c2, f0, f1, f2⟩, hp, _, _, _, _, _⟩ := h
  by_cases h1 : b < 0
  · clear hb
    go_enter Try.func45, Try.ntmps45
    go_wp2
    go_ret
    exact ⟨rfl, rfl⟩
  · by_cases h2 : (a.room : Int) ≤ b
    · clear hb
      go_enter Try.func45, Try.ntmps45
      go_wp2
      go_ret
      exact ⟨rfl, rfl⟩
    · obtain ⟨i, rfl⟩ := Int.eq_ofNat_of_zero_le (by omega : 0 ≤ b)
      have hi : i < a.room := by omega
      have hg : a.gone i ≠ 0 := by rcases hb with hb | hb | hb <;> first | omega | simpa using hb
      obtain ⟨⟨p0, p1, p2, p3⟩, _⟩ := hp i hi
      have hgi : ((a.gone i : Int) != 0) = true := by simp; omega
      clear hb hp hg
      go_enter Try.func45, Try.ntmps45
      go_wp2
      go_ret
      exact ⟨rfl, rfl⟩

theorem remove_state (X L base : Nat) (sv : Value) (a : Anc) (w : World) (b : Nat) (h : AncAt X L base sv a w) (hb : b < a.room) (hg : a.gone b = 0) (hn : a.n = 1) :
    Calls Try.prog 45 #[.pointer (some ⟨X, 0, none⟩), .int .i64 (b : Int)] w fun e w' => e = .returned (.int .i64 15) ∧ w' = w := by
  obtain ⟨⟨c0, c1, c2, f0, f1, f2⟩, hp, _, _, _, _, _⟩ := h
  obtain ⟨⟨p0, p1, p2, p3⟩, _⟩ := hp b hb
  rw [hn] at c2
  rw [hg] at p0
  clear hp hn hg
  go_enter Try.func45, Try.ntmps45
  go_wp2
  go_ret
  exact ⟨rfl, rfl⟩

/-- An anchor in memory has become a'. -/
def Became (X L base : Nat) (sv : Value) (a' : Anc) (w w' : World) : Prop := ∃ sv', AncAt X L base sv' a' w' ∧ Moves X L sv.ownBlock w w'

theorem Fields.far {X L L' room n o : Nat} {sv : Value} {w : World} (h : Fields X L room n sv w) (e : X ≠ L') (v : Value) : Fields X L room n sv (w.setCell ⟨L', o, none⟩ v) :=
  h.block (Below.heap_setCell w ⟨L', o, none⟩ v X e)
theorem AncAt.far {X L base : Nat} {sv : Value} {a : Anc} {w : World} (h : AncAt X L base sv a w) {o : Nat} {v : Value} {a' : Anc} (hp : Places L a' (w.setCell ⟨L, o, none⟩ v)) (h1 : a'.room = a.room) (h2 : a'.n = a.n) (h3 : a'.stack = a.stack) : AncAt X L base sv a' (w.setCell ⟨L, o, none⟩ v) :=
  ⟨by rw [h1, h2]; exact h.fields.far h.hXL v, hp, by rw [h3]; exact ownsRow_setCell_below h.own (a := ⟨L, o, none⟩) h.hL v, h.hX, h.hL, h.hXL, by simpa [World.setCell] using h.hb⟩
theorem AncAt.set0 {X L base : Nat} {sv : Value} {a : Anc} {w : World} (h : AncAt X L base sv a w) (i : Nat) (hi : i < a.room) (v : Nat) : AncAt X L base sv { a with gone := upd a.gone i v } (w.setCell ⟨L, i * 4, none⟩ (.int .i64 v)) := h.far (h.places.set0 i hi v) rfl rfl rfl
theorem AncAt.set1 {X L base : Nat} {sv : Value} {a : Anc} {w : World} (h : AncAt X L base sv a w) (i : Nat) (hi : i < a.room) (v : Nat) : AncAt X L base sv { a with works := upd a.works i v } (w.setCell ⟨L, i * 4 + 1, none⟩ (.int .i64 v)) := h.far (h.places.set1 i hi v) rfl rfl rfl
theorem AncAt.set2 {X L base : Nat} {sv : Value} {a : Anc} {w : World} (h : AncAt X L base sv a w) (i : Nat) (hi : i < a.room) (v : Nat) : AncAt X L base sv { a with at_ := upd a.at_ i v } (w.setCell ⟨L, i * 4 + 2, none⟩ (.int .i64 v)) := h.far (h.places.set2 i hi v) rfl rfl rfl
theorem AncAt.set3 {X L base : Nat} {sv : Value} {a : Anc} {w : World} (h : AncAt X L base sv a w) (i : Nat) (hi : i < a.room) (v : Nat) : AncAt X L base sv { a with next := upd a.next i v } (w.setCell ⟨L, i * 4 + 3, none⟩ (.int .i64 v)) := h.far (h.places.set3 i hi v) rfl rfl rfl
theorem AncAt.drewN {X L base : Nat} {sv : Value} {a : Anc} {w : World} (h : AncAt X L base sv a w) (n : Nat) : AncAt X L base sv a (w.drewN n) := ⟨h.fields, h.places, h.own, h.hX, h.hL, h.hXL, h.hb⟩
theorem AncAt.drew {X L base : Nat} {sv : Value} {a : Anc} {w : World} (h : AncAt X L base sv a w) : AncAt X L base sv a w.drew := ⟨h.fields, h.places, h.own, h.hX, h.hL, h.hXL, h.hb⟩
def Mid (X L base : Nat) (sv sv' : Value) (a' : Anc) (w w' : World) : Prop := AncAt X L base sv' a' w' ∧ Moves X L sv.ownBlock w w'

set_option maxRecDepth 100000 in
set_option maxHeartbeats 4000000 in
theorem remove_ok (X L base : Nat) (sv : Value) (a : Anc) (w : World) (b : Nat) (h : AncAt X L base sv a w) (I : Inv a) (hb : b < a.room) (hr2 : a.room ≤ 65536) (hg : a.gone b = 0) (m : Nat) (hn : a.n = m + 1) (hm : 1 ≤ m) :
    Calls Try.prog 45 #[.pointer (some ⟨X, 0, none⟩), .int .i64 (b : Int)] w fun e w' => e = .returned (.int .i64 0) ∧ Became X L base sv (rem a b) w w' := by
  obtain ⟨i0, hi, hz0, hz1, hz2⟩ := info_parts info3
  obtain ⟨⟨c0, c1, c2, f0, f1, f2⟩, hp, hown, hX, hL, hXL, hbs⟩ := h
  obtain ⟨⟨p0, p1, p2, p3⟩, _⟩ := hp b hb
  rw [hn] at c2
  have hn1 : ((m : Int) + 1 == 1) = false := by simp; omega
  have hn2 : (((m + 1 : Nat) : Int) == 1) = false := by simp; omega
  have hstk : a.stack.length ≤ 65536 := by have := I.cnt; omega
  have hle := I.le
  rw [hg] at p0
  have HP := Lib.hid hp
  have HI := Lib.hid I
  have HG := Lib.hid hg
  clear hp I hg
  have hF1 : Fields X L a.room m sv ((w.setCell ⟨X, 2, none⟩ (.int .i64 (m : Int))).alloc (.cells #[.int .i64 (b : Int)] 3)) := by
    have e : ((m + 1 : Nat) : Int) = (m : Int) + 1 := by omega
    have hF0 : Fields X L a.room m sv (w.setCell ⟨X, 2, none⟩ (.int .i64 (m : Int))) :=
      ⟨cell_set_ne c0 (by omega), cell_set_ne c1 (by omega), cell_set_eq c2, by rw [World.frozen?_setCell]; exact f0, by rw [World.frozen?_setCell]; exact f1, by rw [World.frozen?_setCell]; exact f2⟩
    exact hF0.block (Below.heap_alloc _ _ _ (by simp [World.setCell]; omega))
  have hP1 : Places L a ((w.setCell ⟨X, 2, none⟩ (.int .i64 (m : Int))).alloc (.cells #[.int .i64 (b : Int)] 3)) :=
    (HP.out.block (Below.heap_setCell w ⟨X, 2, none⟩ _ L (by simp; omega))).block (Below.heap_alloc _ _ _ (by simp [World.setCell]; omega))
  have hO1 : ((w.setCell ⟨X, 2, none⟩ (.int .i64 (m : Int))).alloc (.cells #[.int .i64 (b : Int)] 3)).ownsRow base 3 1 sv a.stack.length (ints a.stack.reverse) :=
    (ownsRow_setCell_below hown (a := ⟨X, 2, none⟩) hX _).alloc _
  have hM1 : Moves X L sv.ownBlock w ((w.setCell ⟨X, 2, none⟩ (.int .i64 (m : Int))).alloc (.cells #[.int .i64 (b : Int)] 3)) :=
    ((Moves.refl X L sv.ownBlock w).setCell (p := ⟨X, 2, none⟩) (.inl rfl) _).alloc _
  have hN1 : ∀ (j : Nat) (u : Value), [Value.int .i64 (b : Int)][j]? = some u → ((w.setCell ⟨X, 2, none⟩ (.int .i64 (m : Int))).alloc (.cells #[.int .i64 (b : Int)] 3)).cell? ((⟨w.heap.size, 0, none⟩ : Addr).add j) = some u := by
    intro j u hj
    rcases j with _ | j
    · simp at hj
      subst hj
      simp [Addr.add, go_sem, World.setCell]
    · simp at hj
  have hS1 : base ≤ ((w.setCell ⟨X, 2, none⟩ (.int .i64 (m : Int))).alloc (.cells #[.int .i64 (b : Int)] 3)).heap.size := by simp [World.setCell]; omega
  have HF1 := Lib.hid hF1
  have HP1 := Lib.hid hP1
  have HO1 := Lib.hid hO1
  have HM1 := Lib.hid hM1
  have HN1 := Lib.hid hN1
  have HS1 := Lib.hid hS1
  have HROW := Lib.hid hown.lt
  clear hF1 hP1 hO1 hM1 hN1 hS1 hown HP
  go_enter Try.func45, Try.ntmps45
  go_wp2_with (at_builtin; go_must (refine wpList_append_own _ rfl _ _ 44 rfl base 3 i0 (.int .i64 0) 1 8 Try.underlying44 hi hz0 hz1 hz2 rfl (by decide) sv a.stack.length (ints a.stack.reverse) rfl HO1.out ⟨w.heap.size, 0, none⟩ 1 1 [.int .i64 (b : Int)] rfl rfl HN1.out (by simp [Value.oneCell']) (by unfold maxLen; omega) (by omega) HS1.out ?_); intro v' w1 hown' hgrow _; obtain ⟨g', cap', rfl⟩ := ownsRow_succ hown'; have HO2 := Lib.hid hown'; have HM2 := Lib.hid (HM1.out.grown hgrow); have hX1 := fun e => (by have := (HROW.out X e).1; omega : False); have hF2 := HF1.out.block (hgrow.block X (by have := HS1.out; omega) (fun e => (by have := (HROW.out X e.symm).1; omega : False))); have HP2 := Lib.hid (HP1.out.block (hgrow.block L (by have := HS1.out; omega) (fun e => (by have := (HROW.out L e.symm).1; omega : False)))); have HF2 := Lib.hid hF2; obtain ⟨d0, d1, d2, g0, g1, g2⟩ := hF2; clear hown' hgrow hX1)
  have hA1 : AncAt X L base (.slice (some ⟨g', 0, none⟩) (a.stack.length + 1) cap') { a with n := m, stack := b :: a.stack } (w1.setCell ⟨X, 1, none⟩ (.slice (some ⟨g', 0, none⟩) (a.stack.length + 1) cap')) := by
    refine ⟨⟨cell_set_ne d0 (by omega), cell_set_eq d1, cell_set_ne d2 (by omega), by rw [World.frozen?_setCell]; exact g0, by rw [World.frozen?_setCell]; exact g1, by rw [World.frozen?_setCell]; exact g2⟩, HP2.out.block (Below.heap_setCell w1 ⟨X, 1, none⟩ _ L (fun e => hXL e.symm)), ?_, hX, hL, hXL, ?_⟩
    · have := ownsRow_setCell_below HO2.out (a := ⟨X, 1, none⟩) hX (.slice (some ⟨g', 0, none⟩) (a.stack.length + 1) cap')
      simpa [ints] using this
    · have h1 := HM2.out.size
      simpa [World.setCell] using Nat.le_trans hbs h1
  have hM3 := HM2.out.setCell (p := ⟨X, 1, none⟩) (.inl rfl) (.slice (some ⟨g', 0, none⟩) (a.stack.length + 1) cap')
  generalize Value.slice (some ⟨g', 0, none⟩) (a.stack.length + 1) cap' = sv' at *
  have hM1' : Mid X L base sv sv' { a with n := m, stack := b :: a.stack } w (w1.setCell ⟨X, 1, none⟩ sv') := ⟨hA1, hM3⟩
  clear hA1 hM3 HF1 HP1 HO1 HM1 HN1 HS1 HROW HO2 HM2 HP2 HF2 d0 d1 d2 g0 g1 g2 c0 c1 c2 f0 f1 f2 p0 p1 p2 p3 hn2
  generalize w1.setCell ⟨X, 1, none⟩ sv' = w2 at *
  obtain ⟨last, hlast⟩ : ∃ l, l = a.works m := ⟨_, rfl⟩
  obtain ⟨l1, l2, l3⟩ := HI.out.last
  have hmr : m < a.room := by omega
  rw [hn, Nat.add_sub_cancel, ← hlast] at l1 l2 l3
  have hpr := (HI.out.nx b hb).2
  have hA := hM1'.1
  obtain ⟨⟨c0, c1, c2, f0, f1, f2⟩, hpl, _, _, _, _, _⟩ := hA
  obtain ⟨⟨_, q1, _, _⟩, _⟩ := hpl m hmr
  have q1 : w2.cell? ⟨L, m * 4 + 1, none⟩ = some (.int .i64 (last : Int)) := by rw [hlast]; exact q1
  have HLAST := Lib.hid hlast
  have HL2 := Lib.hid l2
  have HL3 := Lib.hid l3
  have HM := Lib.hid hM1'
  clear hpl hlast l2 l3 hM1'
  go_wp2_with fail
  go_quiet (fail)
  go_wp2_with fail
  go_cut [] from 6 to 111 (fun w' => Mid X L base sv sv' { a with n := m, stack := b :: a.stack, gone := upd a.gone b m, next := upd a.next b last } w w')
  case first =>
    obtain ⟨⟨p0, p1, p2, p3⟩, r0, r1, r2, r3⟩ := HM.out.1.places b hb
    clear q1
    go_region
    all_goals
      go_wp2_with fail
      go_meet
      case rel =>
        rw [HLAST.out]
        exact ⟨((HM.out.1.drewN _).set0 b hb m).set3 b hb _, ((HM.out.2.drewN _).setCell (p := ⟨L, b * 4, none⟩) (.inr rfl) _).setCell (p := ⟨L, b * 4 + 3, none⟩) (.inr rfl) _⟩
  clear HM c0 c1 c2 f0 f1 f2 q1
  rw [← HLAST.out]
  have hA := hcut.1
  obtain ⟨⟨c0, c1, c2, f0, f1, f2⟩, hpl, _, _, _, _, _⟩ := hA
  obtain ⟨⟨_, _, p2, _⟩, _⟩ := hpl b hb
  obtain ⟨⟨_, t1, _, _⟩, _, r1, _, _⟩ := hpl (a.at_ b) hpr
  have HM := Lib.hid hcut
  clear hpl hcut
  go_wp2_with fail
  go_cut [] from 6 to 111 (fun w' => Mid X L base sv sv' { a with n := m, stack := b :: a.stack, gone := upd a.gone b m, next := upd a.next b last, works := upd a.works (a.at_ b) last } w w')
  case first =>
    refine wp_tail 15 (by kernel_rfl) (by kernel_rfl) ?_
    simp only [List.take_succ_cons, List.take_zero, List.drop_succ_cons, List.drop_zero]
    repeat still_step
    refine wpStill_nil ?_
    go_wp2_with fail
    go_meet
    case rel => exact ⟨(HM.out.1.set1 (a.at_ b) hpr last).drew, (HM.out.2.setCell (p := ⟨L, a.at_ b * 4 + 1, none⟩) (.inr rfl) _).drew⟩
  clear HM c0 c1 c2 f0 f1 f2 p2 t1 r1
  have hA := hcut.1
  obtain ⟨⟨c0, c1, c2, f0, f1, f2⟩, hpl, _, _, _, _, _⟩ := hA
  obtain ⟨⟨_, _, p2, _⟩, _⟩ := hpl b hb
  obtain ⟨⟨_, _, t2, _⟩, _, _, r2, _⟩ := hpl last l1
  have HM := Lib.hid hcut
  clear hpl hcut
  go_wp2_with fail
  refine wp_tail 15 (by kernel_rfl) (by kernel_rfl) ?_
  simp only [List.take_succ_cons, List.take_zero, List.drop_succ_cons, List.drop_zero]
  repeat still_step
  refine wpStill_nil ?_
  go_wp2_with fail
  go_ret
  refine ⟨rfl, sv', ?_, (HM.out.2.setCell (p := ⟨L, last * 4 + 2, none⟩) (.inr rfl) _).drew⟩
  have hfin := (HM.out.1.set2 last l1 (a.at_ b)).drew
  have e : rem a b = { a with n := m, stack := b :: a.stack, gone := upd a.gone b m, next := upd a.next b last, works := upd a.works (a.at_ b) last, at_ := upd a.at_ last (a.at_ b) } := by
    unfold rem
    rw [hn, Nat.add_sub_cancel, ← HLAST.out]
  rw [e]
  exact hfin
end Go.Proofs.Ytlipkffnllmkgaa
