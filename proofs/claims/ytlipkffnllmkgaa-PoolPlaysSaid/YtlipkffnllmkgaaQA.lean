import Derived.Test.YtlipkffnllmkgaaH4
import Derived.Test.YtlipkffnllmkgaaDI
import Derived.Test.YtlipkffnllmkgaaShelf
import Derived.Test.YtlipkffnllmkgaaQ0
import Derived.RangeFuncNested
import Derived.RangeFuncBound
import Derived.RangeFuncCalls
import Derived.RangeFuncLeaves
import Derived.Shelf.Abstract
import Derived.Shelf.RegionOpen
import Derived.WalkKit
import Derived.OwnWalkIn
import Derived.TacticsInMore
import Derived.LoopNIn
import Derived.LoopIn
namespace Go.Proofs.Ytlipkffnllmkgaa
open Go.RowKit Go.Shelf Go.Maps Go.Sort
attribute [local go_sem] Oper.semAt_some

theorem MapIs.keys {b n : Nat} {f : Int → Option Value} {w : World} (h : MapIs b n f w) : ∃ D ks, w.ownsMap Try.prog 3 heldR b n D ∧ KeysOf f ks ∧ ks.length ≤ n ∧ Maps.size D ≤ n ∧ ∀ ss : List Int, ss.Perm (intKeys D) → ss.mergeSort (fun x y => decide (x ≤ y)) = ks ∧ ss.length = ks.length := by
  obtain ⟨D, h1, h2⟩ := h
  obtain ⟨ks, k1, k2, k3⟩ := keys_sorted h1 int_keys Try.underlying3 (fun x hx => (h2 x hx).2)
  exact ⟨D, ks, h1, k1, by rw [k2]; exact h1.size_le, h1.size_le, k3⟩

/-- What a round that goes on keeps: all cells but those of E, and all that lay below B but those. -/
def KeepP (B : Nat) (E : Nat → Prop) (W W' : World) : Prop := W.heap.size ≤ W'.heap.size ∧ ∀ b o, W.heap[b]? = some o → ¬ E b → (b < B ∨ o.isCells = true) → W'.heap[b]? = some o
theorem KeepP.trans {B : Nat} {E : Nat → Prop} {a b c : World} (h : KeepP B E a b) (k : KeepP B E b c) : KeepP B E a c :=
  ⟨Nat.le_trans h.1 k.1, fun i o hi hE ho => k.2 i o (h.2 i o hi hE ho) hE ho⟩
theorem KeepP.book {B : Nat} {E : Nat → Prop} (W : World) (l : Nat) (o o' : Obj) (hl : B ≤ l) (hlo : W.heap[l]? = some o) (hc : o.isCells = false) : KeepP B E W (W.putObj l o') := by
  refine ⟨(grownBy_putObj' W l o').size, fun b u hb _ hu => ?_⟩
  have hne : b ≠ l := by
    rintro rfl
    rw [hlo] at hb
    cases hb
    rcases hu with h | h
    · omega
    · rw [hc] at h; cases h
  exact ((grownBy_putObj' W l o').block b (Array.getElem?_eq_some_iff.1 hb).1 (fun e => by cases e; exact hne rfl)).trans hb
theorem KeepP.of_below {B : Nat} {E : Nat → Prop} {W W' : World} (h : Below W.heap.size W W') : KeepP B E W W' :=
  ⟨h.size, fun b _ hb _ _ => (h.block b (Array.getElem?_eq_some_iff.1 hb).1).trans hb⟩

/-- A backend as one value. -/
def Mem.back (m : Mem) : Value := .agg #[.int .i64 m.id, .int .u32 m.addr, .int .i64 m.port]

theorem sorts7 (m : Nat) : AnyZI.SortsIn Try.prog Try.sortedA_ren Fence.wide m :=
  ⟨fun blk off cap ss W hH hblk hsz => callsIn_wide.2 (AnyM.slices_Sort_int Try.sortA blk off cap ss W hH hblk hsz),
   fun p cap W => callsIn_wide.2 (AnyM.slices_Sort_int_none Try.sortA p cap W)⟩

theorem keys27 (mb : Option Nat) (W : World) : CallsIn Fence.wide 7 Try.prog 27 #[.map mb] W fun e w' => e = .returned (.func (.func 43) #[] #[.pointer (some ⟨W.heap.size, 0, none⟩)]) ∧ w' = W.alloc (.cells #[.map mb] 63) :=
  AnyZI.keys_in Try.keysA Fence.wide 7 trivial rfl mb W

set_option maxHeartbeats 1000000 in
theorem sorted26 {b nn : Nat} {f : Int → Option Value} {w : World} (hm : MapIs b nn f w) (hn : nn ≤ 1000000) {ks : List Int} (hk : KeysOf f ks) :
    CallsIn Fence.wide 7 Try.prog 26 #[.func (.func 43) #[] #[.pointer (some ⟨w.heap.size, 0, none⟩)]] (w.alloc (.cells #[.map (some b)] 63)) fun e w' => ∃ v, e = .returned v ∧ w'.ownsRow (w.heap.size + 1) 3 1 v ks.length (ks.map (Value.int .i64)) ∧ (v = .slice none 0 0 ↔ ks = []) ∧ Below w.heap.size w w' := by
  obtain ⟨D, ks', hown, h1, h2, h2b, h3⟩ := hm.keys
  obtain rfl : ks' = ks := h1.one hk
  have hbl := hown.lt
  have hown2 : (w.alloc (.cells #[.map (some b)] 63)).ownsMap Try.prog 3 heldR b nn D := hown.alloc _
  have hseq : SeqGives Fence.wide 4 Try.prog 43 #[.pointer (some ⟨w.heap.size, 0, none⟩)] encZ (fun ss => ss.Perm (intKeys D)) (Maps.size D) (w.alloc (.cells #[.map (some b)] 63)) :=
    AnyZI.keys_gives (ρ := Try.keysA_ren) { Try.keysA with } Fence.wide _ trivial rfl (by omega) w.heap.size b nn D _ (by simp) (by simp) hown2
  have hmax : Maps.size D ≤ maxLen := by unfold maxLen; omega
  have cS := AnyZI.sorted_in Try.sortedA Fence.wide 7 trivial trivial trivial trivial rfl (by omega) (sorts7 _) (enters_of Try.func42 (by kernel_rfl) rfl) 43 #[.pointer (some ⟨w.heap.size, 0, none⟩)] trivial (enters_of Try.func43 (by kernel_rfl) rfl) _ _ hmax (by omega) _ hseq
  change CallsIn _ _ Try.prog 26 _ _ _ at cS
  refine cS.mono ?_
  rintro e w' ⟨v, ss, he, hS, hrow, hnil, hb⟩
  obtain ⟨e1, e2⟩ := h3 ss hS
  rw [e1, e2, World.size_alloc] at hrow
  exact ⟨v, he, hrow, hnil.trans (by rw [← List.length_eq_zero_iff, e2, List.length_eq_zero_iff]), ((Below.refl _ w).alloc (Nat.le_refl _) _).trans (hb.mono (by simp))⟩
theorem sorted26_nil {b nn : Nat} {f : Int → Option Value} {w : World} (hm : MapIs b nn f w) (hn : nn ≤ 1000000) (hk : KeysOf f []) :
    CallsIn Fence.wide 7 Try.prog 26 #[.func (.func 43) #[] #[.pointer (some ⟨w.heap.size, 0, none⟩)]] (w.alloc (.cells #[.map (some b)] 63)) fun e w' => e = .returned (.slice none 0 0) ∧ Below w.heap.size w w' := by
  refine (sorted26 hm hn hk).mono ?_
  rintro e w' ⟨v, he, _, hnil, hb⟩
  rw [hnil.2 rfl] at he
  exact ⟨he, hb⟩
theorem sorted26_some {b nn : Nat} {f : Int → Option Value} {w : World} (hm : MapIs b nn f w) (hn : nn ≤ 1000000) {ks : List Int} (hk : KeysOf f ks) (hne : ks ≠ []) :
    CallsIn Fence.wide 7 Try.prog 26 #[.func (.func 43) #[] #[.pointer (some ⟨w.heap.size, 0, none⟩)]] (w.alloc (.cells #[.map (some b)] 63)) fun e w' => ∃ g cap cur, e = .returned (.slice (some ⟨g, 0, none⟩) ks.length cap) ∧ w.heap.size ≤ g ∧ w'.heap[g]? = some (.cells cur 3 (0, 0)) ∧ ks.length ≤ cap ∧ cap ≤ maxLen ∧ cur.toList.take ks.length = ks.map (Value.int .i64) ∧ Below w.heap.size w w' := by
  refine (sorted26 hm hn hk).mono ?_
  rintro e w' ⟨v, rfl, hrow, hnil, hb⟩
  rcases hrow.2 with ⟨h1, _⟩ | ⟨g, cap, cur, rfl, hg, hat, hcl, hcm, hcs, hcr⟩
  · exact (hne (hnil.1 h1)).elim
  · exact ⟨g, cap, cur, rfl, by omega, hat, hcl, hcm, by rw [Nat.mul_one] at hcr; exact hcr, hb⟩
end Go.Proofs.Ytlipkffnllmkgaa
