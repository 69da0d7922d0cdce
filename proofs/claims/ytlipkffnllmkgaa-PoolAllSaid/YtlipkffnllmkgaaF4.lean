import Derived.Test.YtlipkffnllmkgaaF3
import Derived.Laws.MakeOwn
namespace Go.Proofs.Ytlipkffnllmkgaa
open Go.RowKit

theorem refNew_bad (r k : Int) (w : World) (h : r < 1 ∨ 65536 < r ∨ k < 1 ∨ r < k) : Calls Try.prog 19 #[.int .i64 r, .int .i64 k] w fun e w' => e = .returned (.pointer none) ∧ w' = w := by
  by_cases h1 : r < 1
  · clear h
    go_enter Try.func19, Try.ntmps19
    go_wp2
    go_ret
    exact ⟨rfl, rfl⟩
  · by_cases h2 : 65536 < r
    · clear h
      go_enter Try.func19, Try.ntmps19
      go_wp2
      go_ret
      exact ⟨rfl, rfl⟩
    · by_cases h3 : k < 1
      · clear h
        go_enter Try.func19, Try.ntmps19
        go_wp2
        go_ret
        exact ⟨rfl, rfl⟩
      · have h4 : r < k := by omega
        clear h
        go_enter Try.func19, Try.ntmps19
        go_wp2
        go_ret
        exact ⟨rfl, rfl⟩

/-- The three rows while they grow. -/
structure Grow (X gA base r k jW jL jK : Nat) (sW sL sK : Value) (w : World) : Prop where
  f0 : w.cell? ⟨X, 0, none⟩ = some (.slice (some ⟨gA, 0, none⟩) r r)
  f1 : w.cell? ⟨X, 1, none⟩ = some sW
  f2 : w.cell? ⟨X, 2, none⟩ = some sL
  f3 : w.cell? ⟨X, 3, none⟩ = some sK
  f4 : w.cell? ⟨X, 4, none⟩ = some (.slice none 0 0)
  f5 : w.cell? ⟨X, 5, none⟩ = some (.int .i64 (k : Int))
  z : ∀ i, w.frozen? ⟨X, i, none⟩ = false
  cA : Col gA r (fun _ => 0) w
  oW : w.ownsRow base 3 1 sW jW (ints (List.range jW))
  oL : w.ownsRow base 3 1 sL jL (ints (List.range jL))
  oK : w.ownsRow base 3 1 sK jK (ints (List.range jK))
  dWL : ∀ g, sW.ownBlock = some g → sL.ownBlock ≠ some g
  dWK : ∀ g, sW.ownBlock = some g → sK.ownBlock ≠ some g
  dLK : ∀ g, sL.ownBlock = some g → sK.ownBlock ≠ some g
  low : X < base ∧ gA < base ∧ X ≠ gA
  hb : base ≤ w.heap.size

section
variable {X gA base r k jW jL jK : Nat} {sW sL sK : Value} {w : World}
theorem Grow.alloc (h : Grow X gA base r k jW jL jK sW sL sK w) (o : Obj) : Grow X gA base r k jW jL jK sW sL sK (w.alloc o) := by
  have ne : ∀ g, g < base → (w.alloc o).heap[g]? = w.heap[g]? := fun g hgb => Below.heap_alloc _ _ _ (by have := h.hb; omega)
  have cx : ∀ i, (w.alloc o).cell? ⟨X, i, none⟩ = w.cell? ⟨X, i, none⟩ := fun i => World.cell?_of_block (w := w) (a := ⟨X, i, none⟩) (ne X h.low.1)
  have zx : ∀ i, (w.alloc o).frozen? ⟨X, i, none⟩ = w.frozen? ⟨X, i, none⟩ := fun i => World.frozen?_of_block (w := w) (a := ⟨X, i, none⟩) (ne X h.low.1)
  exact ⟨(cx 0).trans h.f0, (cx 1).trans h.f1, (cx 2).trans h.f2, (cx 3).trans h.f3, (cx 4).trans h.f4, (cx 5).trans h.f5, fun i => (zx i).trans (h.z i), h.cA.block (ne gA h.low.2.1), h.oW.alloc _, h.oL.alloc _, h.oK.alloc _, h.dWL, h.dWK, h.dLK, h.low, by have := h.hb; simp; omega⟩
theorem range_ints (j : Nat) : ints (List.range (j + 1)) = ints (List.range j) ++ [.int .i64 (j : Int)] := by
  rw [List.range_succ]; simp [ints]
theorem none_or_ne {x y : Option Nat} (h : ∀ g, y = some g → x ≠ some g) : x = none ∨ x ≠ y := by
  cases x with
  | none => exact .inl rfl
  | some g => exact .inr fun e => h g e.symm rfl
theorem Grow.growW (h : Grow X gA base r k jW jL jK sW sL sK w) {w' : World} {v' : Value} (hg : w.grownBy w' sW.ownBlock) (hr : w'.ownsRow base 3 1 v' (jW + 1) (ints (List.range jW) ++ [.int .i64 (jW : Int)])) (hblk : v'.ownBlock = sW.ownBlock ∨ v'.ownBlock = some w.heap.size) :
    Grow X gA base r k (jW + 1) jL jK v' sL sK (w'.setCell ⟨X, 1, none⟩ v') := by
  have ne : ∀ g, g < base → w'.heap[g]? = w.heap[g]? := fun g hgb => hg.block g (by have := h.hb; omega) (fun e => by have := (h.oW.lt g e.symm).1; omega)
  have cx : ∀ i, w'.cell? ⟨X, i, none⟩ = w.cell? ⟨X, i, none⟩ := fun i => World.cell?_of_block (w := w) (a := ⟨X, i, none⟩) (ne X h.low.1)
  have zx : ∀ i, w'.frozen? ⟨X, i, none⟩ = w.frozen? ⟨X, i, none⟩ := fun i => World.frozen?_of_block (w := w) (a := ⟨X, i, none⟩) (ne X h.low.1)
  have ndL : ∀ g, v'.ownBlock = some g → sL.ownBlock ≠ some g := by
    intro g e1 e2
    rcases hblk with hk | hk
    · exact h.dWL g (hk.symm.trans e1) e2
    · rw [hk] at e1
      cases e1
      have := (h.oL.lt _ e2).2
      omega
  have ndK : ∀ g, v'.ownBlock = some g → sK.ownBlock ≠ some g := by
    intro g e1 e2
    rcases hblk with hk | hk
    · exact h.dWK g (hk.symm.trans e1) e2
    · rw [hk] at e1
      cases e1
      have := (h.oK.lt _ e2).2
      omega
  exact ⟨cell_set_ne ((cx 0).trans h.f0) (by omega), cell_set_eq ((cx 1).trans h.f1), cell_set_ne ((cx 2).trans h.f2) (by omega), cell_set_ne ((cx 3).trans h.f3) (by omega), cell_set_ne ((cx 4).trans h.f4) (by omega), cell_set_ne ((cx 5).trans h.f5) (by omega), fun i => by rw [World.frozen?_setCell, zx]; exact h.z i, (h.cA.block (ne gA h.low.2.1)).block (Below.heap_setCell w' ⟨X, 1, none⟩ _ gA (Ne.symm h.low.2.2)), ownsRow_setCell_below (by rw [range_ints]; exact hr) (a := ⟨X, 1, none⟩) h.low.1 _, ownsRow_setCell_below (h.oL.kept hg (none_or_ne h.dWL)) (a := ⟨X, 1, none⟩) h.low.1 _, ownsRow_setCell_below (h.oK.kept hg (none_or_ne h.dWK)) (a := ⟨X, 1, none⟩) h.low.1 _, ndL, ndK, h.dLK, h.low, by have h1 := h.hb; have h2 := hg.size; simp [World.setCell]; omega⟩
theorem Grow.growL (h : Grow X gA base r k jW jL jK sW sL sK w) {w' : World} {v' : Value} (hg : w.grownBy w' sL.ownBlock) (hr : w'.ownsRow base 3 1 v' (jL + 1) (ints (List.range jL) ++ [.int .i64 (jL : Int)])) (hblk : v'.ownBlock = sL.ownBlock ∨ v'.ownBlock = some w.heap.size) :
    Grow X gA base r k jW (jL + 1) jK sW v' sK (w'.setCell ⟨X, 2, none⟩ v') := by
  have ne : ∀ g, g < base → w'.heap[g]? = w.heap[g]? := fun g hgb => hg.block g (by have := h.hb; omega) (fun e => by have := (h.oL.lt g e.symm).1; omega)
  have cx : ∀ i, w'.cell? ⟨X, i, none⟩ = w.cell? ⟨X, i, none⟩ := fun i => World.cell?_of_block (w := w) (a := ⟨X, i, none⟩) (ne X h.low.1)
  have zx : ∀ i, w'.frozen? ⟨X, i, none⟩ = w.frozen? ⟨X, i, none⟩ := fun i => World.frozen?_of_block (w := w) (a := ⟨X, i, none⟩) (ne X h.low.1)
  have ndW : ∀ g, v'.ownBlock = some g → sW.ownBlock ≠ some g := by
    intro g e1 e2
    rcases hblk with hk | hk
    · exact (fun g e1 e2 => h.dWL g e2 e1) g (hk.symm.trans e1) e2
    · rw [hk] at e1
      cases e1
      have := (h.oW.lt _ e2).2
      omega
  have ndK : ∀ g, v'.ownBlock = some g → sK.ownBlock ≠ some g := by
    intro g e1 e2
    rcases hblk with hk | hk
    · exact h.dLK g (hk.symm.trans e1) e2
    · rw [hk] at e1
      cases e1
      have := (h.oK.lt _ e2).2
      omega
  exact ⟨cell_set_ne ((cx 0).trans h.f0) (by omega), cell_set_ne ((cx 1).trans h.f1) (by omega), cell_set_eq ((cx 2).trans h.f2), cell_set_ne ((cx 3).trans h.f3) (by omega), cell_set_ne ((cx 4).trans h.f4) (by omega), cell_set_ne ((cx 5).trans h.f5) (by omega), fun i => by rw [World.frozen?_setCell, zx]; exact h.z i, (h.cA.block (ne gA h.low.2.1)).block (Below.heap_setCell w' ⟨X, 2, none⟩ _ gA (Ne.symm h.low.2.2)), ownsRow_setCell_below (h.oW.kept hg (none_or_ne (fun g e1 e2 => h.dWL g e2 e1))) (a := ⟨X, 2, none⟩) h.low.1 _, ownsRow_setCell_below (by rw [range_ints]; exact hr) (a := ⟨X, 2, none⟩) h.low.1 _, ownsRow_setCell_below (h.oK.kept hg (none_or_ne h.dLK)) (a := ⟨X, 2, none⟩) h.low.1 _, (fun g e1 e2 => ndW g e2 e1), h.dWK, ndK, h.low, by have h1 := h.hb; have h2 := hg.size; simp [World.setCell]; omega⟩
theorem Grow.growK (h : Grow X gA base r k jW jL jK sW sL sK w) {w' : World} {v' : Value} (hg : w.grownBy w' sK.ownBlock) (hr : w'.ownsRow base 3 1 v' (jK + 1) (ints (List.range jK) ++ [.int .i64 (jK : Int)])) (hblk : v'.ownBlock = sK.ownBlock ∨ v'.ownBlock = some w.heap.size) :
    Grow X gA base r k jW jL (jK + 1) sW sL v' (w'.setCell ⟨X, 3, none⟩ v') := by
  have ne : ∀ g, g < base → w'.heap[g]? = w.heap[g]? := fun g hgb => hg.block g (by have := h.hb; omega) (fun e => by have := (h.oK.lt g e.symm).1; omega)
  have cx : ∀ i, w'.cell? ⟨X, i, none⟩ = w.cell? ⟨X, i, none⟩ := fun i => World.cell?_of_block (w := w) (a := ⟨X, i, none⟩) (ne X h.low.1)
  have zx : ∀ i, w'.frozen? ⟨X, i, none⟩ = w.frozen? ⟨X, i, none⟩ := fun i => World.frozen?_of_block (w := w) (a := ⟨X, i, none⟩) (ne X h.low.1)
  have ndW : ∀ g, v'.ownBlock = some g → sW.ownBlock ≠ some g := by
    intro g e1 e2
    rcases hblk with hk | hk
    · exact (fun g e1 e2 => h.dWK g e2 e1) g (hk.symm.trans e1) e2
    · rw [hk] at e1
      cases e1
      have := (h.oW.lt _ e2).2
      omega
  have ndL : ∀ g, v'.ownBlock = some g → sL.ownBlock ≠ some g := by
    intro g e1 e2
    rcases hblk with hk | hk
    · exact (fun g e1 e2 => h.dLK g e2 e1) g (hk.symm.trans e1) e2
    · rw [hk] at e1
      cases e1
      have := (h.oL.lt _ e2).2
      omega
  exact ⟨cell_set_ne ((cx 0).trans h.f0) (by omega), cell_set_ne ((cx 1).trans h.f1) (by omega), cell_set_ne ((cx 2).trans h.f2) (by omega), cell_set_eq ((cx 3).trans h.f3), cell_set_ne ((cx 4).trans h.f4) (by omega), cell_set_ne ((cx 5).trans h.f5) (by omega), fun i => by rw [World.frozen?_setCell, zx]; exact h.z i, (h.cA.block (ne gA h.low.2.1)).block (Below.heap_setCell w' ⟨X, 3, none⟩ _ gA (Ne.symm h.low.2.2)), ownsRow_setCell_below (h.oW.kept hg (none_or_ne (fun g e1 e2 => h.dWK g e2 e1))) (a := ⟨X, 3, none⟩) h.low.1 _, ownsRow_setCell_below (h.oL.kept hg (none_or_ne (fun g e1 e2 => h.dLK g e2 e1))) (a := ⟨X, 3, none⟩) h.low.1 _, ownsRow_setCell_below (by rw [range_ints]; exact hr) (a := ⟨X, 3, none⟩) h.low.1 _, h.dWL, (fun g e1 e2 => ndW g e2 e1), (fun g e1 e2 => ndL g e2 e1), h.low, by have h1 := h.hb; have h2 := hg.size; simp [World.setCell]; omega⟩
end
end Go.Proofs.Ytlipkffnllmkgaa
