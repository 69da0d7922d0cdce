import Derived.Test.YtlipkffnllmkgaaF0
namespace Go.Proofs.Ytlipkffnllmkgaa
open Go.RowKit

/-- Only these blocks and a row have turned, and new ones. -/
structure MovesR (S : List Nat) (row : Option Nat) (w w' : World) : Prop where
  os : w'.os = w.os
  tape : w'.tape = w.tape
  output : w'.output = w.output
  size : w.heap.size ≤ w'.heap.size
  block : ∀ i, i < w.heap.size → i ∉ S → some i ≠ row → w'.heap[i]? = w.heap[i]?
theorem MovesR.refl (S : List Nat) (row : Option Nat) (w : World) : MovesR S row w w := ⟨rfl, rfl, rfl, Nat.le_refl _, fun _ _ _ _ => rfl⟩
theorem MovesR.drewN {S : List Nat} {row : Option Nat} {a b : World} (h : MovesR S row a b) (n : Nat) : MovesR S row a (b.drewN n) := ⟨h.os, h.tape, h.output, h.size, h.block⟩
theorem MovesR.drew {S : List Nat} {row : Option Nat} {a b : World} (h : MovesR S row a b) : MovesR S row a b.drew := ⟨h.os, h.tape, h.output, h.size, h.block⟩
theorem MovesR.setCell {S : List Nat} {row : Option Nat} {a b : World} (h : MovesR S row a b) {p : Addr} (hp : p.block ∈ S) (v : Value) : MovesR S row a (b.setCell p v) :=
  ⟨h.os, h.tape, h.output, by simpa [World.setCell] using h.size, fun i hi h1 h3 => (Below.heap_setCell b p v i (by rintro rfl; exact h1 hp)).trans (h.block i hi h1 h3)⟩
theorem MovesR.alloc {S : List Nat} {row : Option Nat} {a b : World} (h : MovesR S row a b) (o : Obj) : MovesR S row a (b.alloc o) :=
  ⟨h.os, h.tape, h.output, Nat.le_trans h.size (by simp), fun i hi h1 h3 => (Below.heap_alloc b o i (Nat.lt_of_lt_of_le hi h.size)).trans (h.block i hi h1 h3)⟩
theorem MovesR.grown {S : List Nat} {row : Option Nat} {a b c : World} (h : MovesR S row a b) (k : b.grownBy c row) : MovesR S row a c :=
  ⟨k.os.trans h.os, k.tape.trans h.tape, k.output.trans h.output, Nat.le_trans h.size k.size, fun i hi h1 h3 => (k.block i (Nat.lt_of_lt_of_le hi h.size) h3).trans (h.block i hi h1 h3)⟩

section
variable {X gA gW gL gK base cW cL cK : Nat} {sv : Value} {a : Anc} {w : World}
theorem RefAt.drewN (h : RefAt X gA gW gL gK base cW cL cK sv a w) (n : Nat) : RefAt X gA gW gL gK base cW cL cK sv a (w.drewN n) := ⟨h.f0, h.f1, h.f2, h.f3, h.f4, h.f5, h.z, h.caps, h.cA, h.cW', h.cL', h.cK', h.own, h.low, h.apart, h.hb⟩
theorem RefAt.drew (h : RefAt X gA gW gL gK base cW cL cK sv a w) : RefAt X gA gW gL gK base cW cL cK sv a w.drew := ⟨h.f0, h.f1, h.f2, h.f3, h.f4, h.f5, h.z, h.caps, h.cA, h.cW', h.cL', h.cK', h.own, h.low, h.apart, h.hb⟩
theorem RefAt.setA (h : RefAt X gA gW gL gK base cW cL cK sv a w) (i : Nat) (hi : i < a.room) (v : Nat) : RefAt X gA gW gL gK base cW cL cK sv { a with gone := upd a.gone i v } (w.setCell ⟨gA, i, none⟩ (.int .i64 (v : Int))) :=
  ⟨cell_set_far h.f0 (Ne.symm (h.apart.1)), cell_set_far h.f1 (Ne.symm (h.apart.1)), cell_set_far h.f2 (Ne.symm (h.apart.1)), cell_set_far h.f3 (Ne.symm (h.apart.1)), cell_set_far h.f4 (Ne.symm (h.apart.1)), cell_set_far h.f5 (Ne.symm (h.apart.1)), by rw [World.frozen?_setCell, World.frozen?_setCell]; exact h.z, h.caps, h.cA.set i hi v, h.cW'.block (Below.heap_setCell w ⟨gA, i, none⟩ _ gW (Ne.symm (h.apart.2.2.2.2.1))), h.cL'.block (Below.heap_setCell w ⟨gA, i, none⟩ _ gL (Ne.symm (h.apart.2.2.2.2.2.1))), h.cK'.block (Below.heap_setCell w ⟨gA, i, none⟩ _ gK (Ne.symm (h.apart.2.2.2.2.2.2.1))), ownsRow_setCell_below h.own (a := ⟨gA, i, none⟩) h.low.2.1 _, h.low, h.apart, by simpa [World.setCell] using h.hb⟩
theorem RefAt.setW (h : RefAt X gA gW gL gK base cW cL cK sv a w) (i : Nat) (hi : i < a.room) (v : Nat) : RefAt X gA gW gL gK base cW cL cK sv { a with works := upd a.works i v } (w.setCell ⟨gW, i, none⟩ (.int .i64 (v : Int))) :=
  ⟨cell_set_far h.f0 (Ne.symm (h.apart.2.1)), cell_set_far h.f1 (Ne.symm (h.apart.2.1)), cell_set_far h.f2 (Ne.symm (h.apart.2.1)), cell_set_far h.f3 (Ne.symm (h.apart.2.1)), cell_set_far h.f4 (Ne.symm (h.apart.2.1)), cell_set_far h.f5 (Ne.symm (h.apart.2.1)), by rw [World.frozen?_setCell, World.frozen?_setCell]; exact h.z, h.caps, h.cA.block (Below.heap_setCell w ⟨gW, i, none⟩ _ gA h.apart.2.2.2.2.1), h.cW'.set i hi v, h.cL'.block (Below.heap_setCell w ⟨gW, i, none⟩ _ gL (Ne.symm (h.apart.2.2.2.2.2.2.2.1))), h.cK'.block (Below.heap_setCell w ⟨gW, i, none⟩ _ gK (Ne.symm (h.apart.2.2.2.2.2.2.2.2.1))), ownsRow_setCell_below h.own (a := ⟨gW, i, none⟩) h.low.2.2.1 _, h.low, h.apart, by simpa [World.setCell] using h.hb⟩
theorem RefAt.setL (h : RefAt X gA gW gL gK base cW cL cK sv a w) (i : Nat) (hi : i < a.room) (v : Nat) : RefAt X gA gW gL gK base cW cL cK sv { a with at_ := upd a.at_ i v } (w.setCell ⟨gL, i, none⟩ (.int .i64 (v : Int))) :=
  ⟨cell_set_far h.f0 (Ne.symm (h.apart.2.2.1)), cell_set_far h.f1 (Ne.symm (h.apart.2.2.1)), cell_set_far h.f2 (Ne.symm (h.apart.2.2.1)), cell_set_far h.f3 (Ne.symm (h.apart.2.2.1)), cell_set_far h.f4 (Ne.symm (h.apart.2.2.1)), cell_set_far h.f5 (Ne.symm (h.apart.2.2.1)), by rw [World.frozen?_setCell, World.frozen?_setCell]; exact h.z, h.caps, h.cA.block (Below.heap_setCell w ⟨gL, i, none⟩ _ gA h.apart.2.2.2.2.2.1), h.cW'.block (Below.heap_setCell w ⟨gL, i, none⟩ _ gW h.apart.2.2.2.2.2.2.2.1), h.cL'.set i hi v, h.cK'.block (Below.heap_setCell w ⟨gL, i, none⟩ _ gK (Ne.symm (h.apart.2.2.2.2.2.2.2.2.2))), ownsRow_setCell_below h.own (a := ⟨gL, i, none⟩) h.low.2.2.2.1 _, h.low, h.apart, by simpa [World.setCell] using h.hb⟩
theorem RefAt.setK (h : RefAt X gA gW gL gK base cW cL cK sv a w) (i : Nat) (hi : i < a.room) (v : Nat) : RefAt X gA gW gL gK base cW cL cK sv { a with next := upd a.next i v } (w.setCell ⟨gK, i, none⟩ (.int .i64 (v : Int))) :=
  ⟨cell_set_far h.f0 (Ne.symm (h.apart.2.2.2.1)), cell_set_far h.f1 (Ne.symm (h.apart.2.2.2.1)), cell_set_far h.f2 (Ne.symm (h.apart.2.2.2.1)), cell_set_far h.f3 (Ne.symm (h.apart.2.2.2.1)), cell_set_far h.f4 (Ne.symm (h.apart.2.2.2.1)), cell_set_far h.f5 (Ne.symm (h.apart.2.2.2.1)), by rw [World.frozen?_setCell, World.frozen?_setCell]; exact h.z, h.caps, h.cA.block (Below.heap_setCell w ⟨gK, i, none⟩ _ gA h.apart.2.2.2.2.2.2.1), h.cW'.block (Below.heap_setCell w ⟨gK, i, none⟩ _ gW h.apart.2.2.2.2.2.2.2.2.1), h.cL'.block (Below.heap_setCell w ⟨gK, i, none⟩ _ gL h.apart.2.2.2.2.2.2.2.2.2), h.cK'.set i hi v, ownsRow_setCell_below h.own (a := ⟨gK, i, none⟩) h.low.2.2.2.2 _, h.low, h.apart, by simpa [World.setCell] using h.hb⟩
theorem RefAt.setN (h : RefAt X gA gW gL gK base cW cL cK sv a w) (v : Nat) : RefAt X gA gW gL gK base cW cL cK sv { a with n := v } (w.setCell ⟨X, 5, none⟩ (.int .i64 (v : Int))) :=
  ⟨cell_set_ne h.f0 (by omega), cell_set_ne h.f1 (by omega), cell_set_ne h.f2 (by omega), cell_set_ne h.f3 (by omega), cell_set_ne h.f4 (by omega), cell_set_eq h.f5, by rw [World.frozen?_setCell, World.frozen?_setCell]; exact h.z, h.caps, h.cA.block (Below.heap_setCell w ⟨X, 5, none⟩ _ gA (Ne.symm (h.apart.1))), h.cW'.block (Below.heap_setCell w ⟨X, 5, none⟩ _ gW (Ne.symm (h.apart.2.1))), h.cL'.block (Below.heap_setCell w ⟨X, 5, none⟩ _ gL (Ne.symm (h.apart.2.2.1))), h.cK'.block (Below.heap_setCell w ⟨X, 5, none⟩ _ gK (Ne.symm (h.apart.2.2.2.1))), ownsRow_setCell_below h.own (a := ⟨X, 5, none⟩) h.low.1 _, h.low, h.apart, by simpa [World.setCell] using h.hb⟩
theorem RefAt.setS (h : RefAt X gA gW gL gK base cW cL cK sv a w) (sv' : Value) (st : List Nat) (ho : w.ownsRow base 3 1 sv' st.length (ints st.reverse)) : RefAt X gA gW gL gK base cW cL cK sv' { a with stack := st } (w.setCell ⟨X, 4, none⟩ sv') :=
  ⟨cell_set_ne h.f0 (by omega), cell_set_ne h.f1 (by omega), cell_set_ne h.f2 (by omega), cell_set_ne h.f3 (by omega), cell_set_eq h.f4, cell_set_ne h.f5 (by omega), by rw [World.frozen?_setCell, World.frozen?_setCell]; exact h.z, h.caps, h.cA.block (Below.heap_setCell w ⟨X, 4, none⟩ _ gA (Ne.symm (h.apart.1))), h.cW'.block (Below.heap_setCell w ⟨X, 4, none⟩ _ gW (Ne.symm (h.apart.2.1))), h.cL'.block (Below.heap_setCell w ⟨X, 4, none⟩ _ gL (Ne.symm (h.apart.2.2.1))), h.cK'.block (Below.heap_setCell w ⟨X, 4, none⟩ _ gK (Ne.symm (h.apart.2.2.2.1))), ownsRow_setCell_below ho (a := ⟨X, 4, none⟩) h.low.1 _, h.low, h.apart, by simpa [World.setCell] using h.hb⟩
/-- Behind an append to the stack's row, ahead of its store. -/
theorem RefAt.grown (h : RefAt X gA gW gL gK base cW cL cK sv a w) {w' : World} (hg : w.grownBy w' sv.ownBlock) {sv' : Value} {st : List Nat} (ho : w'.ownsRow base 3 1 sv' st.length (ints st.reverse)) : RefAt X gA gW gL gK base cW cL cK sv' { a with stack := st } (w'.setCell ⟨X, 4, none⟩ sv') := by
  have ne : ∀ g, g < base → w'.heap[g]? = w.heap[g]? := fun g hgb => hg.block g (by have := h.hb; omega) (fun e => by have := (h.own.lt g e.symm).1; omega)
  have cx : ∀ i, w'.cell? ⟨X, i, none⟩ = w.cell? ⟨X, i, none⟩ := fun i => World.cell?_of_block (w := w) (a := ⟨X, i, none⟩) (ne X h.low.1)
  have zx : ∀ i, w'.frozen? ⟨X, i, none⟩ = w.frozen? ⟨X, i, none⟩ := fun i => World.frozen?_of_block (w := w) (a := ⟨X, i, none⟩) (ne X h.low.1)
  have hX := h.apart
  refine ⟨cell_set_ne ((cx 0).trans h.f0) (by omega), cell_set_ne ((cx 1).trans h.f1) (by omega), cell_set_ne ((cx 2).trans h.f2) (by omega), cell_set_ne ((cx 3).trans h.f3) (by omega), cell_set_eq ((cx 4).trans h.f4), cell_set_ne ((cx 5).trans h.f5) (by omega), by rw [World.frozen?_setCell, World.frozen?_setCell, zx, zx]; exact h.z, h.caps, ?_, ?_, ?_, ?_, ownsRow_setCell_below ho (a := ⟨X, 4, none⟩) h.low.1 _, h.low, h.apart, by have h1 := h.hb; have h2 := hg.size; simp [World.setCell]; omega⟩
  · exact (h.cA.block (ne gA h.low.2.1)).block (Below.heap_setCell w' ⟨X, 4, none⟩ _ gA (Ne.symm hX.1))
  · exact (h.cW'.block (ne gW h.low.2.2.1)).block (Below.heap_setCell w' ⟨X, 4, none⟩ _ gW (Ne.symm hX.2.1))
  · exact (h.cL'.block (ne gL h.low.2.2.2.1)).block (Below.heap_setCell w' ⟨X, 4, none⟩ _ gL (Ne.symm hX.2.2.1))
  · exact (h.cK'.block (ne gK h.low.2.2.2.2)).block (Below.heap_setCell w' ⟨X, 4, none⟩ _ gK (Ne.symm hX.2.2.2.1))
theorem RefAt.alloc (h : RefAt X gA gW gL gK base cW cL cK sv a w) (o : Obj) : RefAt X gA gW gL gK base cW cL cK sv a (w.alloc o) := by
  have ne : ∀ g, g < base → (w.alloc o).heap[g]? = w.heap[g]? := fun g hgb => Below.heap_alloc _ _ _ (by have := h.hb; omega)
  have cx : ∀ i, (w.alloc o).cell? ⟨X, i, none⟩ = w.cell? ⟨X, i, none⟩ := fun i => World.cell?_of_block (w := w) (a := ⟨X, i, none⟩) (ne X h.low.1)
  have zx : ∀ i, (w.alloc o).frozen? ⟨X, i, none⟩ = w.frozen? ⟨X, i, none⟩ := fun i => World.frozen?_of_block (w := w) (a := ⟨X, i, none⟩) (ne X h.low.1)
  exact ⟨(cx 0).trans h.f0, (cx 1).trans h.f1, (cx 2).trans h.f2, (cx 3).trans h.f3, (cx 4).trans h.f4, (cx 5).trans h.f5, by rw [zx, zx]; exact h.z, h.caps, h.cA.block (ne gA h.low.2.1), h.cW'.block (ne gW h.low.2.2.1), h.cL'.block (ne gL h.low.2.2.2.1), h.cK'.block (ne gK h.low.2.2.2.2), h.own.alloc _, h.low, h.apart, by have := h.hb; simp; omega⟩
end

theorem refRemove_none (X gA gW gL gK base cW cL cK : Nat) (sv : Value) (a : Anc) (w : World) (b : Int) (h : RefAt X gA gW gL gK base cW cL cK sv a w) (hb : b < 0 ∨ (a.room : Int) ≤ b ∨ a.gone b.toNat ≠ 0) :
    Calls Try.prog 52 #[.pointer (some ⟨X, 0, none⟩), .int .i64 b] w fun e w' => e = .returned (.int .i64 19) ∧ w' = w := by
  have hx0 := h.f0
  have hA := h.cA
  clear h
  by_cases h1 : b < 0
  · clear hb hA
    go_enter Try.func52, Try.ntmps52
    go_wp2
    go_ret
    exact ⟨rfl, rfl⟩
  · by_cases h2 : (a.room : Int) ≤ b
    · clear hb hA
      go_enter Try.func52, Try.ntmps52
      go_wp2
      go_ret
      exact ⟨rfl, rfl⟩
    · obtain ⟨n, rfl⟩ : ∃ n : Nat, b = (n : Int) := ⟨b.toNat, by omega⟩
      have hg : a.gone n ≠ 0 := by
        rcases hb with h | h | h
        · exact absurd h h1
        · exact absurd h h2
        · simpa using h
      have hgi : (0 : Int) < (a.gone n : Int) := by omega
      obtain ⟨p0, _⟩ := hA n (by omega)
      clear hb hA hg
      go_enter Try.func52, Try.ntmps52
      go_wp2
      go_ret
      exact ⟨rfl, rfl⟩
theorem refRemove_state (X gA gW gL gK base cW cL cK : Nat) (sv : Value) (a : Anc) (w : World) (b : Nat) (h : RefAt X gA gW gL gK base cW cL cK sv a w) (hb : b < a.room) (hg : a.gone b = 0) (hn : a.n = 1) :
    Calls Try.prog 52 #[.pointer (some ⟨X, 0, none⟩), .int .i64 (b : Int)] w fun e w' => e = .returned (.int .i64 15) ∧ w' = w := by
  have hx0 := h.f0
  have hx5 := h.f5
  obtain ⟨p0, _⟩ := h.cA b hb
  rw [hn] at hx5
  rw [hg] at p0
  clear h hn hg
  go_enter Try.func52, Try.ntmps52
  go_wp2
  go_ret
  exact ⟨rfl, rfl⟩
end Go.Proofs.Ytlipkffnllmkgaa
