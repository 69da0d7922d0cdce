import Derived.Test.YtlipkffnllmkgaaE1
import Derived.Test.YtlipkffnllmkgaaC1
import Derived.Maps.AppendAt
import Derived.Laws.MakeOwn
import Derived.Test.YtlipkffnllmkgaaD6
namespace Go.Proofs.Ytlipkffnllmkgaa
open Go.RowKit

/-- A list of the reference: the cells of block g. -/
def Col (g room : Nat) (f : Nat → Nat) (w : World) : Prop := ∀ i, i < room → w.cell? ⟨g, i, none⟩ = some (.int .i64 (f i : Int)) ∧ w.frozen? ⟨g, i, none⟩ = false
theorem Col.block {g room : Nat} {f : Nat → Nat} {w w' : World} (h : Col g room f w) (e : w'.heap[g]? = w.heap[g]?) : Col g room f w' := fun i hi =>
  ⟨(World.cell?_of_block (w := w) (a := ⟨g, i, none⟩) e).trans (h i hi).1, (World.frozen?_of_block (w := w) (a := ⟨g, i, none⟩) e).trans (h i hi).2⟩
theorem Col.set {g room : Nat} {f : Nat → Nat} {w : World} (h : Col g room f w) (i : Nat) (hi : i < room) (v : Nat) : Col g room (upd f i v) (w.setCell ⟨g, i, none⟩ (.int .i64 (v : Int))) := fun j hj => by
  refine ⟨?_, by rw [World.frozen?_setCell]; exact (h j hj).2⟩
  by_cases e : j = i
  · subst e; rw [upd_same]; exact cell_set_eq (h j hj).1
  · rw [upd_ne _ _ e]; exact cell_set_ne (h j hj).1 (by omega)

/-- The reference's anchor lies in memory. -/
structure RefAt (X gA gW gL gK base cW cL cK : Nat) (sv : Value) (a : Anc) (w : World) : Prop where
  f0 : w.cell? ⟨X, 0, none⟩ = some (.slice (some ⟨gA, 0, none⟩) a.room a.room)
  f1 : w.cell? ⟨X, 1, none⟩ = some (.slice (some ⟨gW, 0, none⟩) a.room cW)
  f2 : w.cell? ⟨X, 2, none⟩ = some (.slice (some ⟨gL, 0, none⟩) a.room cL)
  f3 : w.cell? ⟨X, 3, none⟩ = some (.slice (some ⟨gK, 0, none⟩) a.room cK)
  f4 : w.cell? ⟨X, 4, none⟩ = some sv
  f5 : w.cell? ⟨X, 5, none⟩ = some (.int .i64 (a.n : Int))
  z : w.frozen? ⟨X, 4, none⟩ = false ∧ w.frozen? ⟨X, 5, none⟩ = false
  caps : (a.room ≤ cW ∧ cW ≤ maxLen) ∧ (a.room ≤ cL ∧ cL ≤ maxLen) ∧ (a.room ≤ cK ∧ cK ≤ maxLen)
  cA : Col gA a.room a.gone w
  cW' : Col gW a.room a.works w
  cL' : Col gL a.room a.at_ w
  cK' : Col gK a.room a.next w
  own : w.ownsRow base 3 1 sv a.stack.length (ints a.stack.reverse)
  low : X < base ∧ gA < base ∧ gW < base ∧ gL < base ∧ gK < base
  apart : X ≠ gA ∧ X ≠ gW ∧ X ≠ gL ∧ X ≠ gK ∧ gA ≠ gW ∧ gA ≠ gL ∧ gA ≠ gK ∧ gW ≠ gL ∧ gW ≠ gK ∧ gL ≠ gK
  hb : base ≤ w.heap.size

theorem mixRN (k b : Nat) (w : World) : Calls Try.prog 57 #[.int .u64 (k : Int), .int .u64 (b : Int)] w fun e w' => e = .returned (.int .u64 ((mixN k b : Nat) : Int)) ∧ w' = w := by
  have h := mixR_calls (k : Int) (b : Int) w
  rw [mixR_eq, mixI_eq] at h
  exact h

set_option maxRecDepth 100000 in
set_option maxHeartbeats 1000000 in
theorem refBucket (X gA gW gL gK base cW cL cK : Nat) (sv : Value) (a : Anc) (w : World) (k r : Nat) (I : Inv a) (h : RefAt X gA gW gL gK base cW cL cK sv a w) (hr2 : a.room ≤ 65536) (hf : Find a k (drawN k a.room a.room) r) :
    Calls Try.prog 40 #[.pointer (some ⟨X, 0, none⟩), .int .u64 (k : Int)] w fun e w' => e = .returned (.int .i64 (r : Nat)) ∧ ∃ m, w' = w.drewN m := by
  have HA := Lib.hid h.cA
  have HK := Lib.hid h.cK'
  have hx0 := h.f0
  have hx3 := h.f3
  have hc1 := h.caps.2.2.1
  have hc2 : cK ≤ 9223372036854775807 := h.caps.2.2.2
  have HF := Lib.hid hf
  have HI := Lib.hid I
  have hr : 0 < a.room := by have := I.pos; have := I.le; omega
  clear h hf I
  go_enter Try.func40, Try.ntmps40
  go_wp2_with (go_at_call 57; refine (mixRN k a.room _).mono ?_; rintro e wx ⟨rfl, rfl⟩)
  have hd0 : wrap64 (((mixN k a.room : Nat) : Int) % (a.room : Int)) = ((drawN k a.room a.room : Nat) : Int) := by
    have h1 := Nat.mod_lt (mixN k a.room) hr
    unfold drawN wrap64
    omega
  go_loopw [6] (fun b wr => ∃ b' m : Nat, b = .int .i64 (b' : Int) ∧ wr = wx.drewN m ∧ b' < a.room ∧ Find a k b' r) (fun b _ => a.gone (intOf b).toNat)
  case atStart => exact ⟨drawN k a.room a.room, 0, by rw [hd0], rfl, Nat.mod_lt _ hr, HF.out⟩
  case round =>
    obtain ⟨b, m, rfl, rfl, hb, hf⟩ := hrel
    have HF := Lib.hid hf
    obtain ⟨p0, _⟩ := HA.out b hb
    clear hf hd0
    by_cases hg : a.gone b = 0
    · rw [hg] at p0
      go_wp2_with fail
      go_ret
      have hf := HF.out
      cases hf with
      | done => exact ⟨rfl, m, rfl⟩
      | step _ _ _ _ hgc => exact (hgc hg).elim
    · have hgi : (0 : Int) < (a.gone b : Int) := by omega
      have HG := Lib.hid hg
      have hgb := HI.out.g1 b hb hg
      have hm0 : 0 < a.gone b := by omega
      have hm1 : a.gone b < a.room := hgb.2
      obtain ⟨c, HC, HFc⟩ : ∃ c, Hid (Chain a (a.gone b) (drawN k b (a.gone b)) c) ∧ Hid (Find a k c r) := by
        have hf := HF.out
        cases hf with
        | done _ _ hgc => exact (hg hgc).elim
        | step _ c _ _ _ hc hf' => exact ⟨c, hc, hf'⟩
      have hd : drawN k b (a.gone b) < a.room := Nat.lt_trans (Nat.mod_lt _ hm0) hm1
      have HD1 : Hid (wrap64 (((mixN k b : Nat) : Int) % (a.gone b : Int)) = ((drawN k b (a.gone b) : Nat) : Int)) := Lib.hid (by
        have h1 := Nat.mod_lt (mixN k b) hm0
        unfold drawN wrap64
        omega)
      clear hg hgb
      go_wp2_with fail
      have hbI : (b : Int) ≤ 65536 := by omega
      go_quiet ((go_at_call 57; exact (mixRN k b _).mono (fun e w2 ⟨he, hw⟩ => ⟨he, _, hw⟩)))
      go_wp2_with fail
      go_loopw [7] (fun h wr => ∃ h' m : Nat, h = .int .i64 (h' : Int) ∧ wr = wx.drewN m ∧ h' < a.room ∧ Chain a (a.gone b) h' c) (fun h _ => a.gone (intOf h).toNat)
      case atStart => exact ⟨_, _, by rw [HD1.out], World.drewN_drewN _ _ _, hd, HC.out⟩
      case round =>
        obtain ⟨h, m2, rfl, rfl, hh, hc⟩ := hrel
        have HC := Lib.hid hc
        obtain ⟨q0, _⟩ := HA.out h hh
        obtain ⟨q3, _⟩ := HK.out h hh
        clear hc
        by_cases hlt : a.gone b ≤ a.gone h
        · have hlti : (a.gone b : Int) ≤ (a.gone h : Int) := by omega
          go_wp2_with fail
          go_quiet (fail)
          go_wp2_with fail
          go_roundw
          case rel =>
            have hc := HC.out
            cases hc with
            | done _ _ hg' => omega
            | step _ _ _ _ hd' hc' => exact ⟨_, _, rfl, rfl, (HI.out.nx h hh).1, hc'⟩
          case measure =>
            have hc := HC.out
            cases hc with
            | done _ _ hg' => omega
            | step _ _ _ _ hd' hc' => simpa [intOf] using hd'
        · have hlti : ¬ (a.gone b : Int) ≤ (a.gone h : Int) := by omega
          go_wp2_with fail
          go_quiet (fail)
          go_wp2_with fail
          go_roundw
          case rel =>
            have hc := HC.out
            cases hc with
            | done _ _ hg' => exact ⟨_, _, rfl, World.drewN_drewN _ _ _, hh, HFc.out⟩
            | step _ _ _ hg' => omega
          case measure =>
            have hc := HC.out
            cases hc with
            | done _ _ hg' => simp [intOf]; omega
            | step _ _ _ hg' => omega
end Go.Proofs.Ytlipkffnllmkgaa

namespace Go.Proofs.Ytlipkffnllmkgaa
open Go.RowKit

/-- Only these blocks and a row have turned, and new ones. -/
structure MovesR (S : List Nat) (row : Option Nat) (w w' : World) : Prop where
  os : w'.os = w.os
  tape : w'.tape = w.tape
  output : w'.output = w.output
  size : w.heap.size ≤ w'.heap.size
  block : ∀ i, i < w.heap.size → i ∉ S → some i ≠ row → w'.heap[i]? = w.heap[i]?
theorem MovesR.refl (S : List Nat) (row : Option Nat) (w : World) : MovesR S row w w := ⟨rfl, rfl, rfl, Nat.le_refl _, fun _ _ _ _ => rfl⟩
theorem MovesR.drewN {S : List Nat} {row : Option Nat} {a b : World} (h : MovesR S row a b) (n : Nat) : MovesR S row a (b.drewN n) := ⟨h.os, h.tape, h.output, h.size, h.block⟩
theorem MovesR.drew {S : List Nat} {row : Option Nat} {a b : World} (h : MovesR S row a b) : MovesR S row a b.drew := ⟨h.os, h.tape, h.output, h.size, h.block⟩
theorem MovesR.setCell {S : List Nat} {row : Option Nat} {a b : World} (h : MovesR S row a b) {p : Addr} (hp : p.block ∈ S) (v : Value) : MovesR S row a (b.setCell p v) :=
  ⟨h.os, h.tape, h.output, by simpa [World.setCell] using h.size, fun i hi h1 h3 => (Below.heap_setCell b p v i (by rintro rfl; exact h1 hp)).trans (h.block i hi h1 h3)⟩
theorem MovesR.alloc {S : List Nat} {row : Option Nat} {a b : World} (h : MovesR S row a b) (o : Obj) : MovesR S row a (b.alloc o) :=
  ⟨h.os, h.tape, h.output, Nat.le_trans h.size (by simp), fun i hi h1 h3 => (Below.heap_alloc b o i (Nat.lt_of_lt_of_le hi h.size)).trans (h.block i hi h1 h3)⟩
theorem MovesR.grown {S : List Nat} {row : Option Nat} {a b c : World} (h : MovesR S row a b) (k : b.grownBy c row) : MovesR S row a c :=
  ⟨k.os.trans h.os, k.tape.trans h.tape, k.output.trans h.output, Nat.le_trans h.size k.size, fun i hi h1 h3 => (k.block i (Nat.lt_of_lt_of_le hi h.size) h3).trans (h.block i hi h1 h3)⟩

section
variable {X gA gW gL gK base cW cL cK : Nat} {sv : Value} {a : Anc} {w : World}
theorem RefAt.drewN (h : RefAt X gA gW gL gK base cW cL cK sv a w) (n : Nat) : RefAt X gA gW gL gK base cW cL cK sv a (w.drewN n) := ⟨h.f0, h.f1, h.f2, h.f3, h.f4, h.f5, h.z, h.caps, h.cA, h.cW', h.cL', h.cK', h.own, h.low, h.apart, h.hb⟩
theorem RefAt.drew (h : RefAt X gA gW gL gK base cW cL cK sv a w) : RefAt X gA gW gL gK base cW cL cK sv a w.drew := ⟨h.f0, h.f1, h.f2, h.f3, h.f4, h.f5, h.z, h.caps, h.cA, h.cW', h.cL', h.cK', h.own, h.low, h.apart, h.hb⟩
theorem RefAt.setA (h : RefAt X gA gW gL gK base cW cL cK sv a w) (i : Nat) (hi : i < a.room) (v : Nat) : RefAt X gA gW gL gK base cW cL cK sv { a with gone := upd a.gone i v } (w.setCell ⟨gA, i, none⟩ (.int .i64 (v : Int))) :=
  ⟨cell_set_far h.f0 (Ne.symm (h.apart.1)), cell_set_far h.f1 (Ne.symm (h.apart.1)), cell_set_far h.f2 (Ne.symm (h.apart.1)), cell_set_far h.f3 (Ne.symm (h.apart.1)), cell_set_far h.f4 (Ne.symm (h.apart.1)), cell_set_far h.f5 (Ne.symm (h.apart.1)), by rw [World.frozen?_setCell, World.frozen?_setCell]; exact h.z, h.caps, h.cA.set i hi v, h.cW'.block (Below.heap_setCell w ⟨gA, i, none⟩ _ gW (Ne.symm (h.apart.2.2.2.2.1))), h.cL'.block (Below.heap_setCell w ⟨gA, i, none⟩ _ gL (Ne.symm (h.apart.2.2.2.2.2.1))), h.cK'.block (Below.heap_setCell w ⟨gA, i, none⟩ _ gK (Ne.symm (h.apart.2.2.2.2.2.2.1))), ownsRow_setCell_below h.own (a := ⟨gA, i, none⟩) h.low.2.1 _, h.low, h.apart, by simpa [World.setCell] using h.hb⟩
theorem RefAt.setW (h : RefAt X gA gW gL gK base cW cL cK sv a w) (i : Nat) (hi : i < a.room) (v : Nat) : RefAt X gA gW gL gK base cW cL cK sv { a with works := upd a.works i v } (w.setCell ⟨gW, i, none⟩ (.int .i64 (v : Int))) :=
  ⟨cell_set_far h.f0 (Ne.symm (h.apart.2.1)), cell_set_far h.f1 (Ne.symm (h.apart.2.1)), cell_set_far h.f2 (Ne.symm (h.apart.2.1)), cell_set_far h.f3 (Ne.symm (h.apart.2.1)), cell_set_far h.f4 (Ne.symm (h.apart.2.1)), cell_set_far h.f5 (Ne.symm (h.apart.2.1)), by rw [World.frozen?_setCell, World.frozen?_setCell]; exact h.z, h.caps, h.cA.block (Below.heap_setCell w ⟨gW, i, none⟩ _ gA h.apart.2.2.2.2.1), h.cW'.set i hi v, h.cL'.block (Below.heap_setCell w ⟨gW, i, none⟩ _ gL (Ne.symm (h.apart.2.2.2.2.2.2.2.1))), h.cK'.block (Below.heap_setCell w ⟨gW, i, none⟩ _ gK (Ne.symm (h.apart.2.2.2.2.2.2.2.2.1))), ownsRow_setCell_below h.own (a := ⟨gW, i, none⟩) h.low.2.2.1 _, h.low, h.apart, by simpa [World.setCell] using h.hb⟩
theorem RefAt.setL (h : RefAt X gA gW gL gK base cW cL cK sv a w) (i : Nat) (hi : i < a.room) (v : Nat) : RefAt X gA gW gL gK base cW cL cK sv { a with at_ := upd a.at_ i v } (w.setCell ⟨gL, i, none⟩ (.int .i64 (v : Int))) :=
  ⟨cell_set_far h.f0 (Ne.symm (h.apart.2.2.1)), cell_set_far h.f1 (Ne.symm (h.apart.2.2.1)), cell_set_far h.f2 (Ne.symm (h.apart.2.2.1)), cell_set_far h.f3 (Ne.symm (h.apart.2.2.1)), cell_set_far h.f4 (Ne.symm (h.apart.2.2.1)), cell_set_far h.f5 (Ne.symm (h.apart.2.2.1)), by rw [World.frozen?_setCell, World.frozen?_setCell]; exact h.z, h.caps, h.cA.block (Below.heap_setCell w ⟨gL, i, none⟩ _ gA h.apart.2.2.2.2.2.1), h.cW'.block (Below.heap_setCell w ⟨gL, i, none⟩ _ gW h.apart.2.2.2.2.2.2.2.1), h.cL'.set i hi v, h.cK'.block (Below.heap_setCell w ⟨gL, i, none⟩ _ gK (Ne.symm (h.apart.2.2.2.2.2.2.2.2.2))), ownsRow_setCell_below h.own (a := ⟨gL, i, none⟩) h.low.2.2.2.1 _, h.low, h.apart, by simpa [World.setCell] using h.hb⟩
theorem RefAt.setK (h : RefAt X gA gW gL gK base cW cL cK sv a w) (i : Nat) (hi : i < a.room) (v : Nat) : RefAt X gA gW gL gK base cW cL cK sv { a with next := upd a.next i v } (w.setCell ⟨gK, i, none⟩ (.int .i64 (v : Int))) :=
  ⟨cell_set_far h.f0 (Ne.symm (h.apart.2.2.2.1)), cell_set_far h.f1 (Ne.symm (h.apart.2.2.2.1)), cell_set_far h.f2 (Ne.symm (h.apart.2.2.2.1)), cell_set_far h.f3 (Ne.symm (h.apart.2.2.2.1)), cell_set_far h.f4 (Ne.symm (h.apart.2.2.2.1)), cell_set_far h.f5 (Ne.symm (h.apart.2.2.2.1)), by rw [World.frozen?_setCell, World.frozen?_setCell]; exact h.z, h.caps, h.cA.block (Below.heap_setCell w ⟨gK, i, none⟩ _ gA h.apart.2.2.2.2.2.2.1), h.cW'.block (Below.heap_setCell w ⟨gK, i, none⟩ _ gW h.apart.2.2.2.2.2.2.2.2.1), h.cL'.block (Below.heap_setCell w ⟨gK, i, none⟩ _ gL h.apart.2.2.2.2.2.2.2.2.2), h.cK'.set i hi v, ownsRow_setCell_below h.own (a := ⟨gK, i, none⟩) h.low.2.2.2.2 _, h.low, h.apart, by simpa [World.setCell] using h.hb⟩
theorem RefAt.setN (h : RefAt X gA gW gL gK base cW cL cK sv a w) (v : Nat) : RefAt X gA gW gL gK base cW cL cK sv { a with n := v } (w.setCell ⟨X, 5, none⟩ (.int .i64 (v : Int))) :=
  ⟨cell_set_ne h.f0 (by omega), cell_set_ne h.f1 (by omega), cell_set_ne h.f2 (by omega), cell_set_ne h.f3 (by omega), cell_set_ne h.f4 (by omega), cell_set_eq h.f5, by rw [World.frozen?_setCell, World.frozen?_setCell]; exact h.z, h.caps, h.cA.block (Below.heap_setCell w ⟨X, 5, none⟩ _ gA (Ne.symm (h.apart.1))), h.cW'.block (Below.heap_setCell w ⟨X, 5, none⟩ _ gW (Ne.symm (h.apart.2.1))), h.cL'.block (Below.heap_setCell w ⟨X, 5, none⟩ _ gL (Ne.symm (h.apart.2.2.1))), h.cK'.block (Below.heap_setCell w ⟨X, 5, none⟩ _ gK (Ne.symm (h.apart.2.2.2.1))), ownsRow_setCell_below h.own (a := ⟨X, 5, none⟩) h.low.1 _, h.low, h.apart, by simpa [World.setCell] using h.hb⟩
theorem RefAt.setS (h : RefAt X gA gW gL gK base cW cL cK sv a w) (sv' : Value) (st : List Nat) (ho : w.ownsRow base 3 1 sv' st.length (ints st.reverse)) : RefAt X gA gW gL gK base cW cL cK sv' { a with stack := st } (w.setCell ⟨X, 4, none⟩ sv') :=
  ⟨cell_set_ne h.f0 (by omega), cell_set_ne h.f1 (by omega), cell_set_ne h.f2 (by omega), cell_set_ne h.f3 (by omega), cell_set_eq h.f4, cell_set_ne h.f5 (by omega), by rw [World.frozen?_setCell, World.frozen?_setCell]; exact h.z, h.caps, h.cA.block (Below.heap_setCell w ⟨X, 4, none⟩ _ gA (Ne.symm (h.apart.1))), h.cW'.block (Below.heap_setCell w ⟨X, 4, none⟩ _ gW (Ne.symm (h.apart.2.1))), h.cL'.block (Below.heap_setCell w ⟨X, 4, none⟩ _ gL (Ne.symm (h.apart.2.2.1))), h.cK'.block (Below.heap_setCell w ⟨X, 4, none⟩ _ gK (Ne.symm (h.apart.2.2.2.1))), ownsRow_setCell_below ho (a := ⟨X, 4, none⟩) h.low.1 _, h.low, h.apart, by simpa [World.setCell] using h.hb⟩
/-- Behind an append to the stack's row, ahead of its store. -/
theorem RefAt.grown (h : RefAt X gA gW gL gK base cW cL cK sv a w) {w' : World} (hg : w.grownBy w' sv.ownBlock) {sv' : Value} {st : List Nat} (ho : w'.ownsRow base 3 1 sv' st.length (ints st.reverse)) : RefAt X gA gW gL gK base cW cL cK sv' { a with stack := st } (w'.setCell ⟨X, 4, none⟩ sv') := by
  have ne : ∀ g, g < base → w'.heap[g]? = w.heap[g]? := fun g hgb => hg.block g (by have := h.hb; omega) (fun e => by have := (h.own.lt g e.symm).1; omega)
  have cx : ∀ i, w'.cell? ⟨X, i, none⟩ = w.cell? ⟨X, i, none⟩ := fun i => World.cell?_of_block (w := w) (a := ⟨X, i, none⟩) (ne X h.low.1)
  have zx : ∀ i, w'.frozen? ⟨X, i, none⟩ = w.frozen? ⟨X, i, none⟩ := fun i => World.frozen?_of_block (w := w) (a := ⟨X, i, none⟩) (ne X h.low.1)
  have hX := h.apart
  refine ⟨cell_set_ne ((cx 0).trans h.f0) (by omega), cell_set_ne ((cx 1).trans h.f1) (by omega), cell_set_ne ((cx 2).trans h.f2) (by omega), cell_set_ne ((cx 3).trans h.f3) (by omega), cell_set_eq ((cx 4).trans h.f4), cell_set_ne ((cx 5).trans h.f5) (by omega), by rw [World.frozen?_setCell, World.frozen?_setCell, zx, zx]; exact h.z, h.caps, ?_, ?_, ?_, ?_, ownsRow_setCell_below ho (a := ⟨X, 4, none⟩) h.low.1 _, h.low, h.apart, by have h1 := h.hb; have h2 := hg.size; simp [World.setCell]; omega⟩
  · exact (h.cA.block (ne gA h.low.2.1)).block (Below.heap_setCell w' ⟨X, 4, none⟩ _ gA (Ne.symm hX.1))
  · exact (h.cW'.block (ne gW h.low.2.2.1)).block (Below.heap_setCell w' ⟨X, 4, none⟩ _ gW (Ne.symm hX.2.1))
  · exact (h.cL'.block (ne gL h.low.2.2.2.1)).block (Below.heap_setCell w' ⟨X, 4, none⟩ _ gL (Ne.symm hX.2.2.1))
  · exact (h.cK'.block (ne gK h.low.2.2.2.2)).block (Below.heap_setCell w' ⟨X, 4, none⟩ _ gK (Ne.symm hX.2.2.2.1))
theorem RefAt.alloc (h : RefAt X gA gW gL gK base cW cL cK sv a w) (o : Obj) : RefAt X gA gW gL gK base cW cL cK sv a (w.alloc o) := by
  have ne : ∀ g, g < base → (w.alloc o).heap[g]? = w.heap[g]? := fun g hgb => Below.heap_alloc _ _ _ (by have := h.hb; omega)
  have cx : ∀ i, (w.alloc o).cell? ⟨X, i, none⟩ = w.cell? ⟨X, i, none⟩ := fun i => World.cell?_of_block (w := w) (a := ⟨X, i, none⟩) (ne X h.low.1)
  have zx : ∀ i, (w.alloc o).frozen? ⟨X, i, none⟩ = w.frozen? ⟨X, i, none⟩ := fun i => World.frozen?_of_block (w := w) (a := ⟨X, i, none⟩) (ne X h.low.1)
  exact ⟨(cx 0).trans h.f0, (cx 1).trans h.f1, (cx 2).trans h.f2, (cx 3).trans h.f3, (cx 4).trans h.f4, (cx 5).trans h.f5, by rw [zx, zx]; exact h.z, h.caps, h.cA.block (ne gA h.low.2.1), h.cW'.block (ne gW h.low.2.2.1), h.cL'.block (ne gL h.low.2.2.2.1), h.cK'.block (ne gK h.low.2.2.2.2), h.own.alloc _, h.low, h.apart, by have := h.hb; simp; omega⟩
end

theorem refRemove_none (X gA gW gL gK base cW cL cK : Nat) (sv : Value) (a : Anc) (w : World) (b : Int) (h : RefAt X gA gW gL gK base cW cL cK sv a w) (hb : b < 0 ∨ (a.room : Int) ≤ b ∨ a.gone b.toNat ≠ 0) :
    Calls Try.prog 52 #[.pointer (some ⟨X, 0, none⟩), .int .i64 b] w fun e w' => e = .returned (.int .i64 19) ∧ w' = w := by
  have hx0 := h.f0
  have hA := h.cA
  clear h
  by_cases h1 : b < 0
  · clear hb hA
    go_enter Try.func52, Try.ntmps52
    go_wp2
    go_ret
    exact ⟨rfl, rfl⟩
  · by_cases h2 : (a.room : Int) ≤ b
    · clear hb hA
      go_enter Try.func52, Try.ntmps52
      go_wp2
      go_ret
      exact ⟨rfl, rfl⟩
    · obtain ⟨n, rfl⟩ : ∃ n : Nat, b = (n : Int) := ⟨b.toNat, by omega⟩
      have hg : a.gone n ≠ 0 := by
        rcases hb with h | h | h
        · exact absurd h h1
        · exact absurd h h2
        · simpa using h
      have hgi : (0 : Int) < (a.gone n : Int) := by omega
      obtain ⟨p0, _⟩ := hA n (by omega)
      clear hb hA hg
      go_enter Try.func52, Try.ntmps52
      go_wp2
      go_ret
      exact ⟨rfl, rfl⟩
theorem refRemove_state (X gA gW gL gK base cW cL cK : Nat) (sv : Value) (a : Anc) (w : World) (b : Nat) (h : RefAt X gA gW gL gK base cW cL cK sv a w) (hb : b < a.room) (hg : a.gone b = 0) (hn : a.n = 1) :
    Calls Try.prog 52 #[.pointer (some ⟨X, 0, none⟩), .int .i64 (b : Int)] w fun e w' => e = .returned (.int .i64 15) ∧ w' = w := by
  have hx0 := h.f0
  have hx5 := h.f5
  obtain ⟨p0, _⟩ := h.cA b hb
  rw [hn] at hx5
  rw [hg] at p0
  clear h hn hg
  go_enter Try.func52, Try.ntmps52
  go_wp2
  go_ret
  exact ⟨rfl, rfl⟩
end Go.Proofs.Ytlipkffnllmkgaa

namespace Go.Proofs.Ytlipkffnllmkgaa
open Go.RowKit

/-- The reference's anchor has become a'. -/
def RMid (X gA gW gL gK base cW cL cK : Nat) (sv sv' : Value) (a' : Anc) (w w' : World) : Prop := RefAt X gA gW gL gK base cW cL cK sv' a' w' ∧ MovesR [X, gA, gW, gL, gK] sv.ownBlock w w'

set_option maxRecDepth 100000 in
set_option maxHeartbeats 1000000 in
theorem refRemove_ok (X gA gW gL gK base cW cL cK : Nat) (sv : Value) (a : Anc) (w : World) (b : Nat) (h : RefAt X gA gW gL gK base cW cL cK sv a w) (I : Inv a) (hb : b < a.room) (hr2 : a.room ≤ 65536) (hg : a.gone b = 0) (m : Nat) (hn : a.n = m + 1) (hm : 1 ≤ m) :
    Calls Try.prog 52 #[.pointer (some ⟨X, 0, none⟩), .int .i64 (b : Int)] w fun e w' => e = .returned (.int .i64 0) ∧ ∃ sv', RMid X gA gW gL gK base cW cL cK sv sv' (rem a b) w w' ∧ (sv'.ownBlock = sv.ownBlock ∨ sv'.ownBlock = some (w.heap.size + 1)) := by
  obtain ⟨i0, hi, hz0, hz1, hz2⟩ := info_parts info3
  have hl : a.stack.length ≤ 65536 := by have := I.cnt; omega
  have HI := Lib.hid I
  have H1 := Lib.hid (h.alloc (.cells #[.int .i64 (b : Int)] 3))
  have HH := Lib.hid h
  have hx0 := h.f0
  have hx4 := h.f4
  have hx5 : w.cell? ⟨X, 5, none⟩ = some (.int .i64 ((m : Int) + 1)) := by rw [h.f5, hn]; rfl
  obtain ⟨z4, z5⟩ := h.z
  have hm2 : (m : Int) ≤ 65536 := by have := I.le; omega
  obtain ⟨p0, _⟩ := h.cA b hb
  rw [hg] at p0
  have hn2 : (((m : Int) + 1) == 1) = false := by simp; omega
  have hm1 : (1 : Int) ≤ (m : Int) := by omega
  have HG := Lib.hid hg
  have HN := Lib.hid hn
  have HS0 : Hid (w.heap.size + 1 = (w.alloc (.cells #[.int .i64 (b : Int)] 3)).heap.size) := Lib.hid (by simp)
  have HI3 := Lib.hid (And.intro hi (And.intro hz0 (And.intro hz1 hz2)))
  clear h I hi hz0 hz1 hz2 hg hn
  go_enter Try.func52, Try.ntmps52
  go_wp2_with (at_builtin; go_must (refine wpList_append_own_at _ rfl _ _ 44 rfl base 3 i0 (.int .i64 0) 1 8 Try.underlying44 HI3.out.1 HI3.out.2.1 HI3.out.2.2.1 HI3.out.2.2.2 rfl (by decide) sv a.stack.length (ints a.stack.reverse) rfl H1.out.own ⟨w.heap.size, 0, none⟩ 1 1 [.int .i64 (b : Int)] rfl rfl (new_cell _ _ _) (by simp [Value.oneCell']) (by unfold maxLen; omega) (by omega) H1.out.hb ?_); intro v' w1 hown' hgrow _ hblk; obtain ⟨g', cap', rfl⟩ := ownsRow_succ hown'; have HB1 := Lib.hid hblk; have HO2 := Lib.hid hown'; have HGR := Lib.hid hgrow; have hbX := hgrow.block X (by have := H1.out.hb; have := H1.out.low.1; omega) (fun e => (by have := (H1.out.own.lt X e.symm).1; have := H1.out.low.1; omega : False)); have d4 := (World.cell?_of_block (a := ⟨X, 4, none⟩) hbX).trans H1.out.f4; have d5 := (World.cell?_of_block (a := ⟨X, 5, none⟩) hbX).trans (H1.out.f5.trans (by rw [HN.out]; rfl : _ = some (Value.int .i64 ((m : Int) + 1)))); have y4 := (World.frozen?_of_block (a := ⟨X, 4, none⟩) hbX).trans H1.out.z.1; have y5 := (World.frozen?_of_block (a := ⟨X, 5, none⟩) hbX).trans H1.out.z.2; clear hown' hgrow hbX hblk)
  have hA1 : RefAt X gA gW gL gK base cW cL cK (.slice (some ⟨g', 0, none⟩) (a.stack.length + 1) cap') { a with stack := b :: a.stack } (w1.setCell ⟨X, 4, none⟩ (.slice (some ⟨g', 0, none⟩) (a.stack.length + 1) cap')) :=
    H1.out.grown HGR.out (by simpa [ints] using HO2.out)
  have hA2 := hA1.setN m
  have hM2 : MovesR [X, gA, gW, gL, gK] sv.ownBlock w ((w1.setCell ⟨X, 4, none⟩ (.slice (some ⟨g', 0, none⟩) (a.stack.length + 1) cap')).setCell ⟨X, 5, none⟩ (.int .i64 (m : Int))) :=
    ((((MovesR.refl _ _ w).alloc _).grown HGR.out).setCell (p := ⟨X, 4, none⟩) (by simp) _).setCell (p := ⟨X, 5, none⟩) (by simp) _
  have HB2 : Hid ((Value.slice (some ⟨g', 0, none⟩) (a.stack.length + 1) cap').ownBlock = sv.ownBlock ∨ (Value.slice (some ⟨g', 0, none⟩) (a.stack.length + 1) cap').ownBlock = some (w.heap.size + 1)) := Lib.hid (by rw [HS0.out]; exact HB1.out)
  generalize Value.slice (some ⟨g', 0, none⟩) (a.stack.length + 1) cap' = sv' at *
  have HM := Lib.hid (show RMid X gA gW gL gK base cW cL cK sv sv' { a with n := m, stack := b :: a.stack } w _ from ⟨hA2, hM2⟩)
  clear hA1 hA2 hM2 H1 HGR HO2 HB1 d4 d5 y4 y5 hx0 hx4 hx5 z4 z5 p0 HS0 HI3 HH
  generalize (w1.setCell ⟨X, 4, none⟩ sv').setCell ⟨X, 5, none⟩ (.int .i64 (m : Int)) = w2 at *
  obtain ⟨last, hlast⟩ : ∃ l, l = a.works m := ⟨_, rfl⟩
  obtain ⟨l1, l2, l3⟩ := HI.out.last
  have hmr : m < a.room := by have := HI.out.le; have := HN.out; omega
  rw [HN.out, Nat.add_sub_cancel, ← hlast] at l1 l2 l3
  have hpr := (HI.out.nx b hb).2
  have HLAST := Lib.hid hlast
  clear hlast l2 l3
  have x0 := HM.out.1.f0
  have x5 := HM.out.1.f5
  obtain ⟨p0, r0⟩ := HM.out.1.cA b hb
  go_cut [] from 6 to 101 (fun w' => RMid X gA gW gL gK base cW cL cK sv sv' { a with n := m, stack := b :: a.stack, gone := upd a.gone b m } w w')
  case first =>
    refine wp_tail 10 (by kernel_rfl) (by kernel_rfl) ?_
    simp only [List.take_succ_cons, List.take_zero, List.drop_succ_cons, List.drop_zero]
    repeat still_step
    refine wpStill_nil ?_
    go_wp2_with fail
    go_meet
    case rel => exact ⟨(HM.out.1.setA b hb m).drew, (HM.out.2.setCell (p := ⟨gA, b, none⟩) (by simp) _).drew⟩
  clear HM x0 x5 p0 r0
  have HM := Lib.hid hcut
  have x1 := hcut.1.f1
  have x5 := hcut.1.f5
  have cw := hcut.1.caps.1
  have cw1 : a.room ≤ cW := cw.1
  have cw2 : cW ≤ 9223372036854775807 := cw.2
  have q1 : wc.cell? ⟨gW, m, none⟩ = some (.int .i64 (last : Int)) := by rw [HLAST.out]; exact (hcut.1.cW' m hmr).1
  clear hcut cw
  go_wp2_with fail
  go_quiet (fail)
  go_wp2_with fail
  have HM2 : Hid (RMid X gA gW gL gK base cW cL cK sv sv' { a with n := m, stack := b :: a.stack, gone := upd a.gone b m } w (wc.drewN nq)) := Lib.hid ⟨HM.out.1.drewN _, HM.out.2.drewN _⟩
  clear x1 x5 q1 HM
  generalize wc.drewN nq = w3 at *
  have x1 := HM2.out.1.f1
  have x2 := HM2.out.1.f2
  have cl1 : a.room ≤ cL := HM2.out.1.caps.2.1.1
  have cl2 : cL ≤ 9223372036854775807 := HM2.out.1.caps.2.1.2
  have ck1 : a.room ≤ cK := HM2.out.1.caps.2.2.1
  have ck2 : cK ≤ 9223372036854775807 := HM2.out.1.caps.2.2.2
  have t0 := (HM2.out.1.cL' b hb).1
  obtain ⟨t1, t2⟩ := HM2.out.1.cW' (a.at_ b) hpr
  go_cut [] from 6 to 101 (fun w' => RMid X gA gW gL gK base cW cL cK sv sv' { a with n := m, stack := b :: a.stack, gone := upd a.gone b m, works := upd a.works (a.at_ b) last } w w')
  case first =>
    refine wp_tail 13 (by kernel_rfl) (by kernel_rfl) ?_
    simp only [List.take_succ_cons, List.take_zero, List.drop_succ_cons, List.drop_zero]
    repeat still_step
    refine wpStill_nil ?_
    go_wp2_with fail
    go_meet
    case rel => exact ⟨(HM2.out.1.setW (a.at_ b) hpr last).drew, (HM2.out.2.setCell (p := ⟨gW, a.at_ b, none⟩) (by simp) _).drew⟩
  clear HM2 x1 x2 t0 t1 t2
  have HM := Lib.hid hcut
  have x3 := hcut.1.f3
  obtain ⟨u1, u2⟩ := hcut.1.cK' b hb
  have x2 := hcut.1.f2
  have hKX := hcut.1.apart.2.2.2.1
  clear hcut
  go_wp2_with fail
  have HM3 : Hid (RMid X gA gW gL gK base cW cL cK sv sv' { a with n := m, stack := b :: a.stack, gone := upd a.gone b m, works := upd a.works (a.at_ b) last, next := upd a.next b last } w (wc.setCell ⟨gK, b, none⟩ (.int .i64 (last : Int)))) := Lib.hid ⟨HM.out.1.setK b hb last, HM.out.2.setCell (p := ⟨gK, b, none⟩) (by simp) _⟩
  clear HM x2 x3 u1 u2
  generalize wc.setCell ⟨gK, b, none⟩ (.int .i64 (last : Int)) = w4 at *
  have x2 := HM3.out.1.f2
  have t0 := (HM3.out.1.cL' b hb).1
  obtain ⟨t1, t2⟩ := HM3.out.1.cL' last l1
  go_cut [] from 6 to 101 (fun w' => RMid X gA gW gL gK base cW cL cK sv sv' { a with n := m, stack := b :: a.stack, gone := upd a.gone b m, works := upd a.works (a.at_ b) last, next := upd a.next b last, at_ := upd a.at_ last (a.at_ b) } w w')
  case first =>
    refine wp_tail 13 (by kernel_rfl) (by kernel_rfl) ?_
    simp only [List.take_succ_cons, List.take_zero, List.drop_succ_cons, List.drop_zero]
    repeat still_step
    refine wpStill_nil ?_
    go_wp2_with fail
    go_meet
    case rel => exact ⟨(HM3.out.1.setL last l1 (a.at_ b)).drew, (HM3.out.2.setCell (p := ⟨gL, last, none⟩) (by simp) _).drew⟩
  go_wp2_with fail
  go_ret
  have e : rem a b = { a with n := m, stack := b :: a.stack, gone := upd a.gone b m, works := upd a.works (a.at_ b) last, next := upd a.next b last, at_ := upd a.at_ last (a.at_ b) } := by
    unfold rem
    rw [HN.out, Nat.add_sub_cancel, HLAST.out]
  rw [e]
  exact ⟨rfl, sv', hcut, HB2.out⟩
end Go.Proofs.Ytlipkffnllmkgaa

namespace Go.Proofs.Ytlipkffnllmkgaa
open Go.RowKit

theorem refAdd_full (X gA gW gL gK base cW cL cK : Nat) (sv : Value) (a : Anc) (w : World) (h : RefAt X gA gW gL gK base cW cL cK sv a w) (hs : a.stack = []) :
    Calls Try.prog 36 #[.pointer (some ⟨X, 0, none⟩)] w fun e w' => e = .returned (.tuple #[.int .i64 0, .int .i64 16]) ∧ w' = w := by
  have hx4 := h.f4
  have hown := h.own
  rw [hs] at hown
  obtain ⟨p, c, rfl⟩ : ∃ p c, sv = .slice p 0 c := by
    rcases hown.2 with ⟨h, _⟩ | ⟨g, cap, _, h, _⟩
    · exact ⟨none, 0, h⟩
    · exact ⟨some ⟨g, 0, none⟩, cap, h⟩
  clear hown hs h
  go_enter Try.func36, Try.ntmps36
  go_wp2_with fail
  go_ret2
  exact ⟨rfl, rfl⟩

set_option maxRecDepth 100000 in
set_option maxHeartbeats 1000000 in
theorem refAdd_ok (X gA gW gL gK base cW cL cK : Nat) (sv : Value) (a : Anc) (w : World) (b : Nat) (st : List Nat) (h : RefAt X gA gW gL gK base cW cL cK sv a w) (I : Inv a) (hr2 : a.room ≤ 65536) (hs : a.stack = b :: st) (hb : b < a.room) :
    Calls Try.prog 36 #[.pointer (some ⟨X, 0, none⟩)] w fun e w' => e = .returned (.tuple #[.int .i64 (b : Int), .int .i64 0]) ∧ ∃ sv', RMid X gA gW gL gK base cW cL cK sv sv' (back a b) w w' ∧ sv'.ownBlock = sv.ownBlock := by
  have HS := Lib.hid hs
  have HI := Lib.hid I
  have HH := Lib.hid h
  have hnr : a.n < a.room := by have := I.cnt; rw [hs] at this; simp at this; omega
  have hwn := I.wx a.n hnr
  have hl : st.length ≤ 65536 := by have := I.cnt; rw [hs] at this; simp at this; omega
  have hown := h.own
  rw [hs] at hown
  obtain ⟨g, cap, rfl⟩ := ownsRow_succ hown
  have hcap : st.length + 1 ≤ cap ∧ cap ≤ maxLen := by
    rcases hown.2 with ⟨h, _⟩ | ⟨g', cap', cur, h, _, _, h1, h2, _⟩
    · cases h
    · cases h; exact ⟨h1, h2⟩
  have hpop : w.ownsRow base 3 1 (.slice (some ⟨g, 0, none⟩) st.length cap) st.length (ints st.reverse) :=
    ownsRow_pop (xs := ints st.reverse) (last := [.int .i64 (b : Int)]) (by simp [ints]) (by simpa [ints] using hown)
  have hlast : w.cell? ⟨g, st.length, none⟩ = some (.int .i64 (b : Int)) := by
    have := hown.cells (g := g) rfl st.length (.int .i64 (b : Int)) (by simp [ints])
    rwa [addr_add] at this
  have hgb := (hown.lt g rfl).1
  have hcapi : (st.length : Int) ≤ (cap : Int) := by omega
  have hcap1 : st.length + 1 ≤ cap := hcap.1
  have hwr : IntKind.i64.wrap (st.length : Int) = (st.length : Int) := IntWalk.i64_in _ (by omega)
  have hcapm : cap ≤ 9223372036854775807 := hcap.2
  have hx4 := h.f4
  have z4 := h.z.1
  have HPOP := Lib.hid hpop
  clear hs I hown hpop hcap h
  go_enter Try.func36, Try.ntmps36
  go_wp2_with fail
  go_quiet (fail)
  go_wp2_with fail
  go_cut [] from 5 to 89 (fun w' => RMid X gA gW gL gK base cW cL cK (.slice (some ⟨g, 0, none⟩) (st.length + 1) cap) (.slice (some ⟨g, 0, none⟩) st.length cap) { a with stack := st } w w')
  case first =>
    refine wp_tail 14 (by kernel_rfl) (by kernel_rfl) ?_
    simp only [List.take_succ_cons, List.take_zero, List.drop_succ_cons, List.drop_zero]
    repeat still_step
    refine wpStill_nil ?_
    go_wp2_with fail
    go_meet
    case rel =>
      exact ⟨(HH.out.setS _ st HPOP.out).drewN _, ((MovesR.refl _ _ w).setCell (p := ⟨X, 4, none⟩) (by simp) _).drewN _⟩
  clear hx4 z4 HPOP HH hlast
  have HM := Lib.hid hcut
  have x0 := hcut.1.f0
  obtain ⟨p0, p1⟩ := hcut.1.cA b hb
  have cw1 : a.room ≤ cW := hcut.1.caps.1.1
  have cw2 : cW ≤ 9223372036854775807 := hcut.1.caps.1.2
  have cl1 : a.room ≤ cL := hcut.1.caps.2.1.1
  have cl2 : cL ≤ 9223372036854775807 := hcut.1.caps.2.1.2
  have ck1 : a.room ≤ cK := hcut.1.caps.2.2.1
  have ck2 : cK ≤ 9223372036854775807 := hcut.1.caps.2.2.2
  clear hcut
  go_wp2_with fail
  have HM2 : Hid (RMid X gA gW gL gK base cW cL cK (.slice (some ⟨g, 0, none⟩) (st.length + 1) cap) (.slice (some ⟨g, 0, none⟩) st.length cap) { a with stack := st, gone := upd a.gone b 0 } w (wc.setCell ⟨gA, b, none⟩ (.int .i64 0))) := Lib.hid ⟨HM.out.1.setA b hb 0, HM.out.2.setCell (p := ⟨gA, b, none⟩) (by simp) _⟩
  clear HM x0 p0 p1
  generalize wc.setCell ⟨gA, b, none⟩ (.int .i64 0) = w2 at *
  have HM := HM2
  clear HM2
  obtain ⟨nw, hnw⟩ : ∃ nw, nw = a.works a.n := ⟨_, rfl⟩
  rw [← hnw] at hwn
  have x1 := HM.out.1.f1
  have x2 := HM.out.1.f2
  have x5 := HM.out.1.f5
  have q1 : w2.cell? ⟨gW, a.n, none⟩ = some (.int .i64 (nw : Int)) := by rw [hnw]; exact (HM.out.1.cW' a.n hnr).1
  obtain ⟨t1, t2⟩ := HM.out.1.cL' nw hwn
  have HNW := Lib.hid hnw
  clear hnw
  go_cut [] from 5 to 89 (fun w' => RMid X gA gW gL gK base cW cL cK (.slice (some ⟨g, 0, none⟩) (st.length + 1) cap) (.slice (some ⟨g, 0, none⟩) st.length cap) { a with stack := st, gone := upd a.gone b 0, at_ := upd a.at_ nw a.n } w w')
  case first =>
    refine wp_tail 19 (by kernel_rfl) (by kernel_rfl) ?_
    simp only [List.take_succ_cons, List.take_zero, List.drop_succ_cons, List.drop_zero]
    repeat still_step
    refine wpStill_nil ?_
    go_wp2_with fail
    go_meet
    case rel => exact ⟨(HM.out.1.setL nw hwn a.n).drew, (HM.out.2.setCell (p := ⟨gL, nw, none⟩) (by simp) _).drew⟩
  clear HM x1 x2 x5 q1 t1 t2
  have HM := Lib.hid hcut
  obtain ⟨q, hq⟩ : ∃ q, q = upd a.at_ nw a.n b := ⟨_, rfl⟩
  have hqr : q < a.room := by
    rw [hq]
    unfold upd
    split
    · exact hnr
    · exact (HI.out.nx b hb).2
  have x1 := hcut.1.f1
  have x2 := hcut.1.f2
  have t1 : wc.cell? ⟨gL, b, none⟩ = some (.int .i64 (q : Int)) := by rw [hq]; exact (hcut.1.cL' b hb).1
  obtain ⟨t2, t3⟩ := hcut.1.cW' q hqr
  have HQ := Lib.hid hq
  clear hcut hq
  go_wp2_with fail
  go_cut [] from 5 to 89 (fun w' => RMid X gA gW gL gK base cW cL cK (.slice (some ⟨g, 0, none⟩) (st.length + 1) cap) (.slice (some ⟨g, 0, none⟩) st.length cap) { a with stack := st, gone := upd a.gone b 0, at_ := upd a.at_ nw a.n, works := upd a.works q b } w w')
  case first =>
    refine wp_tail 13 (by kernel_rfl) (by kernel_rfl) ?_
    simp only [List.take_succ_cons, List.take_zero, List.drop_succ_cons, List.drop_zero]
    repeat still_step
    refine wpStill_nil ?_
    go_wp2_with fail
    go_meet
    case rel => exact ⟨(HM.out.1.setW q hqr b).drew, (HM.out.2.setCell (p := ⟨gW, q, none⟩) (by simp) _).drew⟩
  clear HM x1 x2 t1 t2 t3
  have HM := Lib.hid hcut
  have x3 := hcut.1.f3
  have x5 := hcut.1.f5
  have z5 := hcut.1.z.2
  obtain ⟨u1, u2⟩ := hcut.1.cK' b hb
  have hKX := hcut.1.apart.2.2.2.1
  clear hcut
  go_wp2_with fail
  go_ret2
  have e : back a b = { a with stack := st, gone := upd a.gone b 0, at_ := upd a.at_ nw a.n, works := upd a.works q b, next := upd a.next b b, n := a.n + 1 } := by
    unfold back
    rw [HQ.out, HNW.out, HS.out]
    rfl
  rw [e]
  refine ⟨rfl, _, ⟨(HM.out.1.setK b hb b).setN (a.n + 1), ((HM.out.2.setCell (p := ⟨gK, b, none⟩) (by simp) _).setCell (p := ⟨X, 5, none⟩) (by simp) _)⟩, rfl⟩
end Go.Proofs.Ytlipkffnllmkgaa

namespace Go.Proofs.Ytlipkffnllmkgaa
open Go.RowKit

theorem refNew_bad (r k : Int) (w : World) (h : r < 1 ∨ 65536 < r ∨ k < 1 ∨ r < k) : Calls Try.prog 19 #[.int .i64 r, .int .i64 k] w fun e w' => e = .returned (.pointer none) ∧ w' = w := by
  by_cases h1 : r < 1
  · clear h
    go_enter Try.func19, Try.ntmps19
    go_wp2
    go_ret
    exact ⟨rfl, rfl⟩
  · by_cases h2 : 65536 < r
    · clear h
      go_enter Try.func19, Try.ntmps19
      go_wp2
      go_ret
      exact ⟨rfl, rfl⟩
    · by_cases h3 : k < 1
      · clear h
        go_enter Try.func19, Try.ntmps19
        go_wp2
        go_ret
        exact ⟨rfl, rfl⟩
      · have h4 : r < k := by omega
        clear h
        go_enter Try.func19, Try.ntmps19
        go_wp2
        go_ret
        exact ⟨rfl, rfl⟩

/-- The three rows while they grow. -/
structure Grow (X gA base r k jW jL jK : Nat) (sW sL sK : Value) (w : World) : Prop where
  f0 : w.cell? ⟨X, 0, none⟩ = some (.slice (some ⟨gA, 0, none⟩) r r)
  f1 : w.cell? ⟨X, 1, none⟩ = some sW
  f2 : w.cell? ⟨X, 2, none⟩ = some sL
  f3 : w.cell? ⟨X, 3, none⟩ = some sK
  f4 : w.cell? ⟨X, 4, none⟩ = some (.slice none 0 0)
  f5 : w.cell? ⟨X, 5, none⟩ = some (.int .i64 (k : Int))
  z : ∀ i, w.frozen? ⟨X, i, none⟩ = false
  cA : Col gA r (fun _ => 0) w
  oW : w.ownsRow base 3 1 sW jW (ints (List.range jW))
  oL : w.ownsRow base 3 1 sL jL (ints (List.range jL))
  oK : w.ownsRow base 3 1 sK jK (ints (List.range jK))
  dWL : ∀ g, sW.ownBlock = some g → sL.ownBlock ≠ some g
  dWK : ∀ g, sW.ownBlock = some g → sK.ownBlock ≠ some g
  dLK : ∀ g, sL.ownBlock = some g → sK.ownBlock ≠ some g
  low : X < base ∧ gA < base ∧ X ≠ gA
  hb : base ≤ w.heap.size

section
variable {X gA base r k jW jL jK : Nat} {sW sL sK : Value} {w : World}
theorem Grow.alloc (h : Grow X gA base r k jW jL jK sW sL sK w) (o : Obj) : Grow X gA base r k jW jL jK sW sL sK (w.alloc o) := by
  have ne : ∀ g, g < base → (w.alloc o).heap[g]? = w.heap[g]? := fun g hgb => Below.heap_alloc _ _ _ (by have := h.hb; omega)
  have cx : ∀ i, (w.alloc o).cell? ⟨X, i, none⟩ = w.cell? ⟨X, i, none⟩ := fun i => World.cell?_of_block (w := w) (a := ⟨X, i, none⟩) (ne X h.low.1)
  have zx : ∀ i, (w.alloc o).frozen? ⟨X, i, none⟩ = w.frozen? ⟨X, i, none⟩ := fun i => World.frozen?_of_block (w := w) (a := ⟨X, i, none⟩) (ne X h.low.1)
  exact ⟨(cx 0).trans h.f0, (cx 1).trans h.f1, (cx 2).trans h.f2, (cx 3).trans h.f3, (cx 4).trans h.f4, (cx 5).trans h.f5, fun i => (zx i).trans (h.z i), h.cA.block (ne gA h.low.2.1), h.oW.alloc _, h.oL.alloc _, h.oK.alloc _, h.dWL, h.dWK, h.dLK, h.low, by have := h.hb; simp; omega⟩
theorem range_ints (j : Nat) : ints (List.range (j + 1)) = ints (List.range j) ++ [.int .i64 (j : Int)] := by
  rw [List.range_succ]; simp [ints]
theorem none_or_ne {x y : Option Nat} (h : ∀ g, y = some g → x ≠ some g) : x = none ∨ x ≠ y := by
  cases x with
  | none => exact .inl rfl
  | some g => exact .inr fun e => h g e.symm rfl
theorem Grow.growW (h : Grow X gA base r k jW jL jK sW sL sK w) {w' : World} {v' : Value} (hg : w.grownBy w' sW.ownBlock) (hr : w'.ownsRow base 3 1 v' (jW + 1) (ints (List.range jW) ++ [.int .i64 (jW : Int)])) (hblk : v'.ownBlock = sW.ownBlock ∨ v'.ownBlock = some w.heap.size) :
    Grow X gA base r k (jW + 1) jL jK v' sL sK (w'.setCell ⟨X, 1, none⟩ v') := by
  have ne : ∀ g, g < base → w'.heap[g]? = w.heap[g]? := fun g hgb => hg.block g (by have := h.hb; omega) (fun e => by have := (h.oW.lt g e.symm).1; omega)
  have cx : ∀ i, w'.cell? ⟨X, i, none⟩ = w.cell? ⟨X, i, none⟩ := fun i => World.cell?_of_block (w := w) (a := ⟨X, i, none⟩) (ne X h.low.1)
  have zx : ∀ i, w'.frozen? ⟨X, i, none⟩ = w.frozen? ⟨X, i, none⟩ := fun i => World.frozen?_of_block (w := w) (a := ⟨X, i, none⟩) (ne X h.low.1)
  have ndL : ∀ g, v'.ownBlock = some g → sL.ownBlock ≠ some g := by
    intro g e1 e2
    rcases hblk with hk | hk
    · exact h.dWL g (hk.symm.trans e1) e2
    · rw [hk] at e1
      cases e1
      have := (h.oL.lt _ e2).2
      omega
  have ndK : ∀ g, v'.ownBlock = some g → sK.ownBlock ≠ some g := by
    intro g e1 e2
    rcases hblk with hk | hk
    · exact h.dWK g (hk.symm.trans e1) e2
    · rw [hk] at e1
      cases e1
      have := (h.oK.lt _ e2).2
      omega
  exact ⟨cell_set_ne ((cx 0).trans h.f0) (by omega), cell_set_eq ((cx 1).trans h.f1), cell_set_ne ((cx 2).trans h.f2) (by omega), cell_set_ne ((cx 3).trans h.f3) (by omega), cell_set_ne ((cx 4).trans h.f4) (by omega), cell_set_ne ((cx 5).trans h.f5) (by omega), fun i => by rw [World.frozen?_setCell, zx]; exact h.z i, (h.cA.block (ne gA h.low.2.1)).block (Below.heap_setCell w' ⟨X, 1, none⟩ _ gA (Ne.symm h.low.2.2)), ownsRow_setCell_below (by rw [range_ints]; exact hr) (a := ⟨X, 1, none⟩) h.low.1 _, ownsRow_setCell_below (h.oL.kept hg (none_or_ne h.dWL)) (a := ⟨X, 1, none⟩) h.low.1 _, ownsRow_setCell_below (h.oK.kept hg (none_or_ne h.dWK)) (a := ⟨X, 1, none⟩) h.low.1 _, ndL, ndK, h.dLK, h.low, by have h1 := h.hb; have h2 := hg.size; simp [World.setCell]; omega⟩
theorem Grow.growL (h : Grow X gA base r k jW jL jK sW sL sK w) {w' : World} {v' : Value} (hg : w.grownBy w' sL.ownBlock) (hr : w'.ownsRow base 3 1 v' (jL + 1) (ints (List.range jL) ++ [.int .i64 (jL : Int)])) (hblk : v'.ownBlock = sL.ownBlock ∨ v'.ownBlock = some w.heap.size) :
    Grow X gA base r k jW (jL + 1) jK sW v' sK (w'.setCell ⟨X, 2, none⟩ v') := by
  have ne : ∀ g, g < base → w'.heap[g]? = w.heap[g]? := fun g hgb => hg.block g (by have := h.hb; omega) (fun e => by have := (h.oL.lt g e.symm).1; omega)
  have cx : ∀ i, w'.cell? ⟨X, i, none⟩ = w.cell? ⟨X, i, none⟩ := fun i => World.cell?_of_block (w := w) (a := ⟨X, i, none⟩) (ne X h.low.1)
  have zx : ∀ i, w'.frozen? ⟨X, i, none⟩ = w.frozen? ⟨X, i, none⟩ := fun i => World.frozen?_of_block (w := w) (a := ⟨X, i, none⟩) (ne X h.low.1)
  have ndW : ∀ g, v'.ownBlock = some g → sW.ownBlock ≠ some g := by
    intro g e1 e2
    rcases hblk with hk | hk
    · exact (fun g e1 e2 => h.dWL g e2 e1) g (hk.symm.trans e1) e2
    · rw [hk] at e1
      cases e1
      have := (h.oW.lt _ e2).2
      omega
  have ndK : ∀ g, v'.ownBlock = some g → sK.ownBlock ≠ some g := by
    intro g e1 e2
    rcases hblk with hk | hk
    · exact h.dLK g (hk.symm.trans e1) e2
    · rw [hk] at e1
      cases e1
      have := (h.oK.lt _ e2).2
      omega
  exact ⟨cell_set_ne ((cx 0).trans h.f0) (by omega), cell_set_ne ((cx 1).trans h.f1) (by omega), cell_set_eq ((cx 2).trans h.f2), cell_set_ne ((cx 3).trans h.f3) (by omega), cell_set_ne ((cx 4).trans h.f4) (by omega), cell_set_ne ((cx 5).trans h.f5) (by omega), fun i => by rw [World.frozen?_setCell, zx]; exact h.z i, (h.cA.block (ne gA h.low.2.1)).block (Below.heap_setCell w' ⟨X, 2, none⟩ _ gA (Ne.symm h.low.2.2)), ownsRow_setCell_below (h.oW.kept hg (none_or_ne (fun g e1 e2 => h.dWL g e2 e1))) (a := ⟨X, 2, none⟩) h.low.1 _, ownsRow_setCell_below (by rw [range_ints]; exact hr) (a := ⟨X, 2, none⟩) h.low.1 _, ownsRow_setCell_below (h.oK.kept hg (none_or_ne h.dLK)) (a := ⟨X, 2, none⟩) h.low.1 _, (fun g e1 e2 => ndW g e2 e1), h.dWK, ndK, h.low, by have h1 := h.hb; have h2 := hg.size; simp [World.setCell]; omega⟩
theorem Grow.growK (h : Grow X gA base r k jW jL jK sW sL sK w) {w' : World} {v' : Value} (hg : w.grownBy w' sK.ownBlock) (hr : w'.ownsRow base 3 1 v' (jK + 1) (ints (List.range jK) ++ [.int .i64 (jK : Int)])) (hblk : v'.ownBlock = sK.ownBlock ∨ v'.ownBlock = some w.heap.size) :
    Grow X gA base r k jW jL (jK + 1) sW sL v' (w'.setCell ⟨X, 3, none⟩ v') := by
  have ne : ∀ g, g < base → w'.heap[g]? = w.heap[g]? := fun g hgb => hg.block g (by have := h.hb; omega) (fun e => by have := (h.oK.lt g e.symm).1; omega)
  have cx : ∀ i, w'.cell? ⟨X, i, none⟩ = w.cell? ⟨X, i, none⟩ := fun i => World.cell?_of_block (w := w) (a := ⟨X, i, none⟩) (ne X h.low.1)
  have zx : ∀ i, w'.frozen? ⟨X, i, none⟩ = w.frozen? ⟨X, i, none⟩ := fun i => World.frozen?_of_block (w := w) (a := ⟨X, i, none⟩) (ne X h.low.1)
  have ndW : ∀ g, v'.ownBlock = some g → sW.ownBlock ≠ some g := by
    intro g e1 e2
    rcases hblk with hk | hk
    · exact (fun g e1 e2 => h.dWK g e2 e1) g (hk.symm.trans e1) e2
    · rw [hk] at e1
      cases e1
      have := (h.oW.lt _ e2).2
      omega
  have ndL : ∀ g, v'.ownBlock = some g → sL.ownBlock ≠ some g := by
    intro g e1 e2
    rcases hblk with hk | hk
    · exact (fun g e1 e2 => h.dLK g e2 e1) g (hk.symm.trans e1) e2
    · rw [hk] at e1
      cases e1
      have := (h.oL.lt _ e2).2
      omega
  exact ⟨cell_set_ne ((cx 0).trans h.f0) (by omega), cell_set_ne ((cx 1).trans h.f1) (by omega), cell_set_ne ((cx 2).trans h.f2) (by omega), cell_set_eq ((cx 3).trans h.f3), cell_set_ne ((cx 4).trans h.f4) (by omega), cell_set_ne ((cx 5).trans h.f5) (by omega), fun i => by rw [World.frozen?_setCell, zx]; exact h.z i, (h.cA.block (ne gA h.low.2.1)).block (Below.heap_setCell w' ⟨X, 3, none⟩ _ gA (Ne.symm h.low.2.2)), ownsRow_setCell_below (h.oW.kept hg (none_or_ne (fun g e1 e2 => h.dWK g e2 e1))) (a := ⟨X, 3, none⟩) h.low.1 _, ownsRow_setCell_below (h.oL.kept hg (none_or_ne (fun g e1 e2 => h.dLK g e2 e1))) (a := ⟨X, 3, none⟩) h.low.1 _, ownsRow_setCell_below (by rw [range_ints]; exact hr) (a := ⟨X, 3, none⟩) h.low.1 _, h.dWL, (fun g e1 e2 => ndW g e2 e1), (fun g e1 e2 => ndL g e2 e1), h.low, by have h1 := h.hb; have h2 := hg.size; simp [World.setCell]; omega⟩
end
end Go.Proofs.Ytlipkffnllmkgaa

namespace Go.Proofs.Ytlipkffnllmkgaa
open Go.RowKit

theorem new_cell_at (w : World) (v : Value) (t : TypeId) (n : Nat) (h : n = w.heap.size) : ∀ (j : Nat) (u : Value), [v][j]? = some u → (w.alloc (.cells #[v] t)).cell? ((⟨n, 0, none⟩ : Addr).add j) = some u := by
  subst h
  exact new_cell w v t

theorem col_of_own {w : World} {base r : Nat} {sv : Value} (hr : 1 ≤ r) (h : w.ownsRow base 3 1 sv r (ints (List.range r))) :
    ∃ g cap, sv = .slice (some ⟨g, 0, none⟩) r cap ∧ base ≤ g ∧ g < w.heap.size ∧ (r ≤ cap ∧ cap ≤ maxLen) ∧ Col g r (fun i => i) w := by
  have hl := h
  rcases h.2 with ⟨_, h0⟩ | ⟨g, cap, cur, hv, hb, hg, h1, h2, _⟩
  · omega
  · refine ⟨g, cap, hv, hb, (Array.getElem?_eq_some_iff.1 hg).1, ⟨h1, h2⟩, fun i hi => ⟨?_, by simp [World.frozen?, hg]⟩⟩
    have := hl.cells (g := g) (by rw [hv]; rfl) i (.int .i64 (i : Int)) (by simp [ints, hi])
    rwa [addr_add] at this

set_option maxRecDepth 100000 in
set_option maxHeartbeats 1000000 in
theorem refNew_ok (r k : Nat) (w : World) (h1 : 1 ≤ k) (h2 : k ≤ r) (h3 : r ≤ 65536) :
    Calls Try.prog 19 #[.int .i64 (r : Int), .int .i64 (k : Int)] w fun e w' => ∃ X gA gW gL gK base cW cL cK sv, e = .returned (.pointer (some ⟨X, 0, none⟩)) ∧ RefAt X gA gW gL gK base cW cL cK sv (newAnc r (r - k)) w' ∧ Below w.heap.size w w' ∧ (w.heap.size ≤ X ∧ w.heap.size ≤ gA ∧ w.heap.size ≤ gW ∧ w.heap.size ≤ gL ∧ w.heap.size ≤ gK ∧ w.heap.size ≤ base) := by
  obtain ⟨i0, hi, hz0, hz1, hz2⟩ := info_parts info3
  have hmk := run_makeSlice (P := Try.prog) w 44 3 i0 (.int .i64 0) Try.underlying44 hi hz0 .i64 .i64 r r (by omega) (by omega) (by rw [hz1]; omega) (by rw [hz2]; omega) (by omega)
  rw [Int.toNat_natCast, hz1] at hmk
  have HI3 := Lib.hid (And.intro hi (And.intro hz0 (And.intro hz1 hz2)))
  have g1 : ¬ (r : Int) < 1 := by omega
  have g2 : ¬ 65536 < (r : Int) := by omega
  have g3 : ¬ (k : Int) < 1 := by omega
  have g4 : ¬ (r : Int) < (k : Int) := by omega
  go_enter Try.func19, Try.ntmps19
  go_wp2_with fail
  clear hmk hi hz0 hz1 hz2
  have hG : ∃ W0, ((w.alloc (.cells (madeCells #[.int .i64 0] r) 3)).alloc (.cells #[.slice (some ⟨w.heap.size, 0, none⟩) r r, .slice none 0 0, .slice none 0 0, .slice none 0 0, .slice none 0 0, .int .i64 (k : Int)] 96)) = W0 ∧ Grow (w.heap.size + 1) w.heap.size (w.heap.size + 2) r k 0 0 0 (.slice none 0 0) (.slice none 0 0) (.slice none 0 0) W0 ∧ Below w.heap.size w W0 := by
    have hBl : Below w.heap.size w ((w.alloc (.cells (madeCells #[.int .i64 0] r) 3)).alloc (.cells #[.slice (some ⟨w.heap.size, 0, none⟩) r r, .slice none 0 0, .slice none 0 0, .slice none 0 0, .slice none 0 0, .int .i64 (k : Int)] 96)) := ((Below.refl _ w).alloc (Nat.le_refl _) _).alloc (by simp) _
    have hsz : ((w.alloc (.cells (madeCells #[.int .i64 0] r) 3)).alloc (.cells #[.slice (some ⟨w.heap.size, 0, none⟩) r r, .slice none 0 0, .slice none 0 0, .slice none 0 0, .slice none 0 0, .int .i64 (k : Int)] 96)).heap.size = w.heap.size + 2 := by simp
    have hX := World.alloc_heap_new (w.alloc (.cells (madeCells #[.int .i64 0] r) 3)) (.cells #[.slice (some ⟨w.heap.size, 0, none⟩) r r, .slice none 0 0, .slice none 0 0, .slice none 0 0, .slice none 0 0, .int .i64 (k : Int)] 96)
    rw [World.size_alloc] at hX
    have hA := (Below.heap_alloc (w.alloc (.cells (madeCells #[.int .i64 0] r) 3)) (.cells #[.slice (some ⟨w.heap.size, 0, none⟩) r r, .slice none 0 0, .slice none 0 0, .slice none 0 0, .slice none 0 0, .int .i64 (k : Int)] 96) w.heap.size (by simp)).trans (World.alloc_heap_new w (.cells (madeCells #[.int .i64 0] r) 3))
    generalize (w.alloc (.cells (madeCells #[.int .i64 0] r) 3)).alloc (.cells #[.slice (some ⟨w.heap.size, 0, none⟩) r r, .slice none 0 0, .slice none 0 0, .slice none 0 0, .slice none 0 0, .int .i64 (k : Int)] 96) = W0 at *
    refine ⟨W0, rfl, ?_, hBl⟩
    refine ⟨by simp [World.cell?, hX], by simp [World.cell?, hX], by simp [World.cell?, hX], by simp [World.cell?, hX], by simp [World.cell?, hX], by simp [World.cell?, hX], fun i => by simp [World.frozen?, hX], fun i hi => ⟨?_, by simp [World.frozen?, hA]⟩, World.ownsRow_nil _ _ _ _, World.ownsRow_nil _ _ _ _, World.ownsRow_nil _ _ _ _, ?_, ?_, ?_, ⟨by omega, by omega, by omega⟩, by omega⟩
    · unfold World.cell?
      dsimp only
      rw [hA]
      unfold madeCells
      simp [hi, Nat.mod_one]
    all_goals (intro g e; cases e)
  obtain ⟨W0, hW0, hG, hB⟩ := hG
  rw [hW0]
  have HG := Lib.hid hG
  have HB := Lib.hid hB
  clear hW0 hG hB
  go_loopw [6] (fun i wr => ∃ (j : Nat) (sW sL sK : Value), j ≤ r ∧ i = .int .i64 (j : Int) ∧ Grow (w.heap.size + 1) w.heap.size (w.heap.size + 2) r k j j j sW sL sK wr ∧ Below w.heap.size w wr) (fun i _ => r - (intOf i).toNat)
  case atStart => exact ⟨0, _, _, _, Nat.zero_le _, rfl, HG.out, HB.out⟩
  case round =>
    obtain ⟨j, sW, sL, sK, hj, rfl, hG, hB⟩ := hrel
    have c1 := hG.f1
    have c2 := hG.f2
    have c3 := hG.f3
    have HG := Lib.hid hG
    have HB := Lib.hid hB
    have ST := Stage.mk 0
    clear hG hB
    by_cases hlt : j < r
    · go_wp2_with (first
        | (at_builtin; have := (ST : Stage 0); clear this; replace ST := Stage.mk 1; go_must (refine wpList_append_own_at _ rfl _ _ 44 rfl (w.heap.size + 2) 3 i0 (.int .i64 0) 1 8 Try.underlying44 HI3.out.1 HI3.out.2.1 HI3.out.2.2.1 HI3.out.2.2.2 rfl (by decide) _ _ _ rfl (HG.out.alloc _).oW _ 1 1 [.int .i64 (j : Int)] rfl rfl (new_cell_at _ _ _ _ (by rfl)) (by simp [Value.oneCell']) (by unfold maxLen; omega) (by omega) (HG.out.alloc _).hb ?_); intro v' w1 hown' hgrow _ hblk; have hbX := hgrow.block (w.heap.size + 1) (by have := (HG.out.alloc (.cells #[.int .i64 (j : Int)] 3)).hb; omega) (fun e => (by have := (((HG.out.alloc (.cells #[.int .i64 (j : Int)] 3)).oW).lt _ e.symm).1; omega : False)); have cx := fun i => World.cell?_of_block (a := ⟨w.heap.size + 1, i, none⟩) hbX; have zx := fun i => World.frozen?_of_block (a := ⟨w.heap.size + 1, i, none⟩) hbX; have c1 := (cx 1).trans (HG.out.alloc _).f1; have c2 := (cx 2).trans (HG.out.alloc _).f2; have c3 := (cx 3).trans (HG.out.alloc _).f3; have y1 := (zx 1).trans ((HG.out.alloc _).z 1); have y2 := (zx 2).trans ((HG.out.alloc _).z 2); have y3 := (zx 3).trans ((HG.out.alloc _).z 3); have hnew := (HG.out.alloc _).growW hgrow hown' hblk; replace HB := Lib.hid ((Below.grown (HB.out.trans ((Below.refl _ _).alloc HB.out.size _)) hgrow (by have := HB.out.size; simp at this ⊢; omega) (fun g hg => (by have := ((HG.out.alloc (.cells #[.int .i64 (j : Int)] 3)).oW.lt g hg).1; omega))).setCell (p := ⟨w.heap.size + 1, 1, none⟩) (by simp) v'); replace HG := Lib.hid hnew; obtain ⟨g', cap', rfl⟩ := ownsRow_succ hown'; clear hown' hgrow hblk hbX cx zx hnew)
        | (at_builtin; have := (ST : Stage 1); clear this; replace ST := Stage.mk 2; go_must (refine wpList_append_own_at _ rfl _ _ 44 rfl (w.heap.size + 2) 3 i0 (.int .i64 0) 1 8 Try.underlying44 HI3.out.1 HI3.out.2.1 HI3.out.2.2.1 HI3.out.2.2.2 rfl (by decide) _ _ _ rfl (HG.out.alloc _).oL _ 1 1 [.int .i64 (j : Int)] rfl rfl (new_cell_at _ _ _ _ (by simp [World.setCell])) (by simp [Value.oneCell']) (by unfold maxLen; omega) (by omega) (HG.out.alloc _).hb ?_); intro v' w1 hown' hgrow _ hblk; have hbX := hgrow.block (w.heap.size + 1) (by have := (HG.out.alloc (.cells #[.int .i64 (j : Int)] 3)).hb; omega) (fun e => (by have := (((HG.out.alloc (.cells #[.int .i64 (j : Int)] 3)).oL).lt _ e.symm).1; omega : False)); have cx := fun i => World.cell?_of_block (a := ⟨w.heap.size + 1, i, none⟩) hbX; have zx := fun i => World.frozen?_of_block (a := ⟨w.heap.size + 1, i, none⟩) hbX; have c1 := (cx 1).trans (HG.out.alloc _).f1; have c2 := (cx 2).trans (HG.out.alloc _).f2; have c3 := (cx 3).trans (HG.out.alloc _).f3; have y1 := (zx 1).trans ((HG.out.alloc _).z 1); have y2 := (zx 2).trans ((HG.out.alloc _).z 2); have y3 := (zx 3).trans ((HG.out.alloc _).z 3); have hnew := (HG.out.alloc _).growL hgrow hown' hblk; replace HB := Lib.hid ((Below.grown (HB.out.trans ((Below.refl _ _).alloc HB.out.size _)) hgrow (by have := HB.out.size; simp [World.setCell] at this ⊢; omega) (fun g hg => (by have := ((HG.out.alloc (.cells #[.int .i64 (j : Int)] 3)).oL.lt g hg).1; omega))).setCell (p := ⟨w.heap.size + 1, 2, none⟩) (by simp) v'); replace HG := Lib.hid hnew; obtain ⟨g', cap', rfl⟩ := ownsRow_succ hown'; clear hown' hgrow hblk hbX cx zx hnew)
        | (at_builtin; have := (ST : Stage 2); clear this; replace ST := Stage.mk 3; go_must (refine wpList_append_own_at _ rfl _ _ 44 rfl (w.heap.size + 2) 3 i0 (.int .i64 0) 1 8 Try.underlying44 HI3.out.1 HI3.out.2.1 HI3.out.2.2.1 HI3.out.2.2.2 rfl (by decide) _ _ _ rfl (HG.out.alloc _).oK _ 1 1 [.int .i64 (j : Int)] rfl rfl (new_cell_at _ _ _ _ (by simp [World.setCell])) (by simp [Value.oneCell']) (by unfold maxLen; omega) (by omega) (HG.out.alloc _).hb ?_); intro v' w1 hown' hgrow _ hblk; have hbX := hgrow.block (w.heap.size + 1) (by have := (HG.out.alloc (.cells #[.int .i64 (j : Int)] 3)).hb; omega) (fun e => (by have := (((HG.out.alloc (.cells #[.int .i64 (j : Int)] 3)).oK).lt _ e.symm).1; omega : False)); have cx := fun i => World.cell?_of_block (a := ⟨w.heap.size + 1, i, none⟩) hbX; have zx := fun i => World.frozen?_of_block (a := ⟨w.heap.size + 1, i, none⟩) hbX; have c1 := (cx 1).trans (HG.out.alloc _).f1; have c2 := (cx 2).trans (HG.out.alloc _).f2; have c3 := (cx 3).trans (HG.out.alloc _).f3; have y1 := (zx 1).trans ((HG.out.alloc _).z 1); have y2 := (zx 2).trans ((HG.out.alloc _).z 2); have y3 := (zx 3).trans ((HG.out.alloc _).z 3); have hnew := (HG.out.alloc _).growK hgrow hown' hblk; replace HB := Lib.hid ((Below.grown (HB.out.trans ((Below.refl _ _).alloc HB.out.size _)) hgrow (by have := HB.out.size; simp [World.setCell] at this ⊢; omega) (fun g hg => (by have := ((HG.out.alloc (.cells #[.int .i64 (j : Int)] 3)).oK.lt g hg).1; omega))).setCell (p := ⟨w.heap.size + 1, 3, none⟩) (by simp) v'); replace HG := Lib.hid hnew; obtain ⟨g', cap', rfl⟩ := ownsRow_succ hown'; clear hown' hgrow hblk hbX cx zx hnew))
      exact ⟨⟨j + 1, _, _, _, by omega, by go_num, HG.out, HB.out⟩, by simp [intOf]; omega⟩
    · obtain rfl : j = r := by omega
      obtain ⟨gW, cW, rfl, w1, w2, w3, w4⟩ := col_of_own (by omega) HG.out.oW
      obtain ⟨gL, cL, rfl, l1, l2, l3, l4⟩ := col_of_own (by omega) HG.out.oL
      obtain ⟨gK, cK, rfl, k1, k2, k3, k4⟩ := col_of_own (by omega) HG.out.oK
      have hA : RefAt (w.heap.size + 1) w.heap.size gW gL gK wr.heap.size cW cL cK (.slice none 0 0) (midAnc j k []) wr := by
        have h := HG.out
        have hb := h.hb
        have a1 : gW ≠ gL := fun e => h.dWL gW rfl (by rw [e]; rfl)
        have a2 : gW ≠ gK := fun e => h.dWK gW rfl (by rw [e]; rfl)
        have a3 : gL ≠ gK := fun e => h.dLK gL rfl (by rw [e]; rfl)
        refine ⟨h.f0, h.f1, h.f2, h.f3, h.f4, h.f5, ⟨h.z 4, h.z 5⟩, ⟨w3, l3, k3⟩, ?_, w4, l4, k4, ⟨rfl, .inl ⟨rfl, rfl⟩⟩, ⟨by omega, by omega, w2, l2, k2⟩, ⟨by omega, by omega, by omega, by omega, by omega, by omega, by omega, a1, a2, a3⟩, Nat.le_refl _⟩
        intro i hi
        simpa [midAnc] using h.cA i hi
      have HA := Lib.hid hA
      have hB0 : Hid (w.heap.size + 2 ≤ wr.heap.size) := Lib.hid HG.out.hb
      generalize wr.heap.size = base at *
      have HB2 := HB
      have HW := Lib.hid w1
      have HL := Lib.hid l1
      have HK := Lib.hid k1
      clear hA c1 c2 c3 HG HB w1 w2 w3 w4 l1 l2 l3 l4 k1 k2 k3 k4
      have hj1 : (1 : Int) ≤ (j : Int) := by omega
      have hjc : (j : Int) - 1 = ((j - 1 : Nat) : Int) := by omega
      go_wp2_with fail
      go_loopw [7] (fun i wr => ∃ (p c : Nat) (sv : Value), c + p = j - 1 ∧ p ≤ j - k ∧ i = .int .i64 (c : Int) ∧ RefAt (w.heap.size + 1) w.heap.size gW gL gK base cW cL cK sv (midAnc j k ((fallList j k).take p)) wr ∧ Below w.heap.size w wr) (fun i _ => (intOf i).toNat)
      case atStart => exact ⟨0, j - 1, _, by omega, by omega, rfl, by simpa using HA.out, HB2.out⟩
      case round =>
        obtain ⟨p, c, sv, hpc, hp, rfl, hR, hB⟩ := hrel
        have HP := Lib.hid hpc
        have HR := Lib.hid hR
        have HB := Lib.hid hB
        clear hR hB hpc
        by_cases hlt2 : k ≤ c
        · have hkc : (k : Int) ≤ (c : Int) := by omega
          have hcj : c < j := by have := HP.out; omega
          have hc1 : (1 : Int) ≤ (c : Int) := by omega
          have x0 := HR.out.f0
          have x4 := HR.out.f4
          have z4 := HR.out.z.1
          obtain ⟨p0, p1⟩ := HR.out.cA c hcj
          have hl : ((fallList j k).take p).reverse.length ≤ 65536 := by simp [fallList]; omega
          have hl2 : (midAnc j k ((fallList j k).take p)).stack.length ≤ 65536 := hl
          clear hl
          have HRA : Hid (RefAt (w.heap.size + 1) w.heap.size gW gL gK base cW cL cK sv { midAnc j k ((fallList j k).take p) with gone := upd (midAnc j k ((fallList j k).take p)).gone c c } (wr.setCell ⟨w.heap.size, c, none⟩ (.int .i64 (c : Int)))) := Lib.hid (HR.out.setA c hcj c)
          have hsl : (midAnc j k ((fallList j k).take p)).stack.length + 1 ≤ 65537 := by omega
          go_wp2_with (at_builtin; go_must (refine wpList_append_own_at _ rfl _ _ 44 rfl base 3 i0 (.int .i64 0) 1 8 Try.underlying44 HI3.out.1 HI3.out.2.1 HI3.out.2.2.1 HI3.out.2.2.2 rfl (by decide) _ _ _ rfl (HRA.out.alloc _).own _ 1 1 [.int .i64 (c : Int)] rfl rfl (new_cell_at _ _ _ _ (by simp [World.setCell])) (by simp [Value.oneCell']) (by unfold maxLen; exact Nat.le_trans hsl (by decide)) (by have := hsl; exact Nat.le_trans (Nat.mul_le_mul_right 8 this) (by decide)) (HRA.out.alloc _).hb ?_); intro v' w1 hown' hgrow _ hblk; have hbX := hgrow.block (w.heap.size + 1) (by have := (HRA.out.alloc (.cells #[.int .i64 (c : Int)] 3)).hb; have := HRA.out.low.1; omega) (fun e => (by have := (((HRA.out.alloc (.cells #[.int .i64 (c : Int)] 3)).own).lt _ e.symm).1; have := HRA.out.low.1; omega : False)); have d4 := (World.cell?_of_block (a := ⟨w.heap.size + 1, 4, none⟩) hbX).trans (HRA.out.alloc _).f4; have y4 := (World.frozen?_of_block (a := ⟨w.heap.size + 1, 4, none⟩) hbX).trans (HRA.out.alloc _).z.1; have hnew := (HRA.out.alloc _).grown hgrow (sv' := v') (st := c :: (midAnc j k ((fallList j k).take p)).stack) (by simpa [ints] using hown'); replace HB := Lib.hid ((Below.grown ((HB.out.setCell (p := ⟨w.heap.size, c, none⟩) (Nat.le_refl _) _).trans ((Below.refl _ _).alloc (HB.out.setCell (p := ⟨w.heap.size, c, none⟩) (Nat.le_refl _) (.int .i64 (c : Int))).size _)) hgrow (by have := HB.out.size; simp [World.setCell] at this ⊢; omega) (fun g hg => (by have := ((HRA.out.alloc (.cells #[.int .i64 (c : Int)] 3)).own.lt g hg).1; have := HRA.out.low.1; omega))).setCell (p := ⟨w.heap.size + 1, 4, none⟩) (by simp) v'); have HNEW := Lib.hid hnew; obtain ⟨g', cap', rfl⟩ := ownsRow_succ hown'; clear hown' hgrow hblk hbX hnew)
          have hpj : p < j - k := by have := HP.out; omega
          have e1 : midAnc j k ((fallList j k).take (p + 1)) = { midAnc j k ((fallList j k).take p) with gone := upd (midAnc j k ((fallList j k).take p)).gone c c, stack := c :: (midAnc j k ((fallList j k).take p)).stack } := by
            rw [fallList_take j k p hpj, show j - 1 - p = c from by have := HP.out; omega, midAnc_gone]
            unfold midAnc
            simp
          refine ⟨⟨p + 1, c - 1, _, by have := HP.out; omega, by omega, ?_, by rw [e1]; exact HNEW.out, HB.out⟩, by simp [intOf]; omega⟩
          congr 1
          omega
        · go_wp2_with fail
          go_ret
          have hpe : p = j - k := by have := HP.out; omega
          have hR := HR.out
          rw [hpe, show (fallList j k).take (j - k) = fallList j k from List.take_of_length_le (by simp [fallList]), midAnc_all j k h1 h2] at hR
          refine ⟨_, _, _, _, _, _, _, _, _, _, rfl, hR, HB.out, by omega, Nat.le_refl _, ?_, ?_, ?_, ?_⟩
          · have := HW.out; omega
          · have := HL.out; omega
          · have := HK.out; omega
          · have := hB0.out; omega
end Go.Proofs.Ytlipkffnllmkgaa

namespace Go.Proofs.Ytlipkffnllmkgaa
open Go.RowKit

set_option maxRecDepth 100000 in
set_option maxHeartbeats 4000000 in
theorem remove_at (X L base : Nat) (sv : Value) (a : Anc) (w : World) (b : Nat) (h : AncAt X L base sv a w) (I : Inv a) (hb : b < a.room) (hr2 : a.room ≤ 65536) (hg : a.gone b = 0) (m : Nat) (hn : a.n = m + 1) (hm : 1 ≤ m) :
    Calls Try.prog 45 #[.pointer (some ⟨X, 0, none⟩), .int .i64 (b : Int)] w fun e w' => e = .returned (.int .i64 0) ∧ ∃ sv', AncAt X L base sv' (rem a b) w' ∧ Moves X L sv.ownBlock w w' ∧ (sv'.ownBlock = sv.ownBlock ∨ sv'.ownBlock = some (w.heap.size + 1)) := by
  obtain ⟨i0, hi, hz0, hz1, hz2⟩ := info_parts info3
  obtain ⟨⟨c0, c1, c2, f0, f1, f2⟩, hp, hown, hX, hL, hXL, hbs⟩ := h
  obtain ⟨⟨p0, p1, p2, p3⟩, _⟩ := hp b hb
  rw [hn] at c2
  have hn1 : ((m : Int) + 1 == 1) = false := by simp; omega
  have hn2 : (((m + 1 : Nat) : Int) == 1) = false := by simp; omega
  have hstk : a.stack.length ≤ 65536 := by have := I.cnt; omega
  have hle := I.le
  rw [hg] at p0
  have HP := Lib.hid hp
  have HI := Lib.hid I
  have HG := Lib.hid hg
  clear hp I hg
  have hF1 : Fields X L a.room m sv ((w.setCell ⟨X, 2, none⟩ (.int .i64 (m : Int))).alloc (.cells #[.int .i64 (b : Int)] 3)) := by
    have e : ((m + 1 : Nat) : Int) = (m : Int) + 1 := by omega
    have hF0 : Fields X L a.room m sv (w.setCell ⟨X, 2, none⟩ (.int .i64 (m : Int))) :=
      ⟨cell_set_ne c0 (by omega), cell_set_ne c1 (by omega), cell_set_eq c2, by rw [World.frozen?_setCell]; exact f0, by rw [World.frozen?_setCell]; exact f1, by rw [World.frozen?_setCell]; exact f2⟩
    exact hF0.block (Below.heap_alloc _ _ _ (by simp [World.setCell]; omega))
  have hP1 : Places L a ((w.setCell ⟨X, 2, none⟩ (.int .i64 (m : Int))).alloc (.cells #[.int .i64 (b : Int)] 3)) :=
    (HP.out.block (Below.heap_setCell w ⟨X, 2, none⟩ _ L (by simp; omega))).block (Below.heap_alloc _ _ _ (by simp [World.setCell]; omega))
  have hO1 : ((w.setCell ⟨X, 2, none⟩ (.int .i64 (m : Int))).alloc (.cells #[.int .i64 (b : Int)] 3)).ownsRow base 3 1 sv a.stack.length (ints a.stack.reverse) :=
    (ownsRow_setCell_below hown (a := ⟨X, 2, none⟩) hX _).alloc _
  have hM1 : Moves X L sv.ownBlock w ((w.setCell ⟨X, 2, none⟩ (.int .i64 (m : Int))).alloc (.cells #[.int .i64 (b : Int)] 3)) :=
    ((Moves.refl X L sv.ownBlock w).setCell (p := ⟨X, 2, none⟩) (.inl rfl) _).alloc _
  have hN1 : ∀ (j : Nat) (u : Value), [Value.int .i64 (b : Int)][j]? = some u → ((w.setCell ⟨X, 2, none⟩ (.int .i64 (m : Int))).alloc (.cells #[.int .i64 (b : Int)] 3)).cell? ((⟨w.heap.size, 0, none⟩ : Addr).add j) = some u := by
    intro j u hj
    rcases j with _ | j
    · simp at hj
      subst hj
      simp [Addr.add, go_sem, World.setCell]
    · simp at hj
  have hS1 : base ≤ ((w.setCell ⟨X, 2, none⟩ (.int .i64 (m : Int))).alloc (.cells #[.int .i64 (b : Int)] 3)).heap.size := by simp [World.setCell]; omega
  have HF1 := Lib.hid hF1
  have HP1 := Lib.hid hP1
  have HO1 := Lib.hid hO1
  have HM1 := Lib.hid hM1
  have HN1 := Lib.hid hN1
  have HS1 := Lib.hid hS1
  have HROW := Lib.hid hown.lt
  clear hF1 hP1 hO1 hM1 hN1 hS1 hown HP
  go_enter Try.func45, Try.ntmps45
  go_wp2_with (at_builtin; go_must (refine wpList_append_own_at _ rfl _ _ 44 rfl base 3 i0 (.int .i64 0) 1 8 Try.underlying44 hi hz0 hz1 hz2 rfl (by decide) sv a.stack.length (ints a.stack.reverse) rfl HO1.out ⟨w.heap.size, 0, none⟩ 1 1 [.int .i64 (b : Int)] rfl rfl HN1.out (by simp [Value.oneCell']) (by unfold maxLen; omega) (by omega) HS1.out ?_); intro v' w1 hown' hgrow _ hblk; obtain ⟨g', cap', rfl⟩ := ownsRow_succ hown'; have HBLK := Lib.hid hblk; have HO2 := Lib.hid hown'; have HM2 := Lib.hid (HM1.out.grown hgrow); have hX1 := fun e => (by have := (HROW.out X e).1; omega : False); have hF2 := HF1.out.block (hgrow.block X (by have := HS1.out; omega) (fun e => (by have := (HROW.out X e.symm).1; omega : False))); have HP2 := Lib.hid (HP1.out.block (hgrow.block L (by have := HS1.out; omega) (fun e => (by have := (HROW.out L e.symm).1; omega : False)))); have HF2 := Lib.hid hF2; obtain ⟨d0, d1, d2, g0, g1, g2⟩ := hF2; clear hown' hgrow hX1 hblk)
  have hA1 : AncAt X L base (.slice (some ⟨g', 0, none⟩) (a.stack.length + 1) cap') { a with n := m, stack := b :: a.stack } (w1.setCell ⟨X, 1, none⟩ (.slice (some ⟨g', 0, none⟩) (a.stack.length + 1) cap')) := by
    refine ⟨⟨cell_set_ne d0 (by omega), cell_set_eq d1, cell_set_ne d2 (by omega), by rw [World.frozen?_setCell]; exact g0, by rw [World.frozen?_setCell]; exact g1, by rw [World.frozen?_setCell]; exact g2⟩, HP2.out.block (Below.heap_setCell w1 ⟨X, 1, none⟩ _ L (fun e => hXL e.symm)), ?_, hX, hL, hXL, ?_⟩
    · have := ownsRow_setCell_below HO2.out (a := ⟨X, 1, none⟩) hX (.slice (some ⟨g', 0, none⟩) (a.stack.length + 1) cap')
      simpa [ints] using this
    · have h1 := HM2.out.size
      simpa [World.setCell] using Nat.le_trans hbs h1
  have hM3 := HM2.out.setCell (p := ⟨X, 1, none⟩) (.inl rfl) (.slice (some ⟨g', 0, none⟩) (a.stack.length + 1) cap')
  have HB2 : Hid ((Value.slice (some ⟨g', 0, none⟩) (a.stack.length + 1) cap').ownBlock = sv.ownBlock ∨ (Value.slice (some ⟨g', 0, none⟩) (a.stack.length + 1) cap').ownBlock = some (w.heap.size + 1)) := Lib.hid (by have := HBLK.out; simpa [World.setCell] using this)
  clear HBLK
  generalize Value.slice (some ⟨g', 0, none⟩) (a.stack.length + 1) cap' = sv' at *
  have hM1' : Mid X L base sv sv' { a with n := m, stack := b :: a.stack } w (w1.setCell ⟨X, 1, none⟩ sv') := ⟨hA1, hM3⟩
  clear hA1 hM3 HF1 HP1 HO1 HM1 HN1 HS1 HROW HO2 HM2 HP2 HF2 d0 d1 d2 g0 g1 g2 c0 c1 c2 f0 f1 f2 p0 p1 p2 p3 hn2
  generalize w1.setCell ⟨X, 1, none⟩ sv' = w2 at *
  obtain ⟨last, hlast⟩ : ∃ l, l = a.works m := ⟨_, rfl⟩
  obtain ⟨l1, l2, l3⟩ := HI.out.last
  have hmr : m < a.room := by omega
  rw [hn, Nat.add_sub_cancel, ← hlast] at l1 l2 l3
  have hpr := (HI.out.nx b hb).2
  have hA := hM1'.1
  obtain ⟨⟨c0, c1, c2, f0, f1, f2⟩, hpl, _, _, _, _, _⟩ := hA
  obtain ⟨⟨_, q1, _, _⟩, _⟩ := hpl m hmr
  have q1 : w2.cell? ⟨L, m * 4 + 1, none⟩ = some (.int .i64 (last : Int)) := by rw [hlast]; exact q1
  have HLAST := Lib.hid hlast
  have HL2 := Lib.hid l2
  have HL3 := Lib.hid l3
  have HM := Lib.hid hM1'
  clear hpl hlast l2 l3 hM1'
  go_wp2_with fail
  go_quiet (fail)
  go_wp2_with fail
  go_cut [] from 6 to 111 (fun w' => Mid X L base sv sv' { a with n := m, stack := b :: a.stack, gone := upd a.gone b m, next := upd a.next b last } w w')
  case first =>
    obtain ⟨⟨p0, p1, p2, p3⟩, r0, r1, r2, r3⟩ := HM.out.1.places b hb
    clear q1
    go_region
    all_goals
      go_wp2_with fail
      go_meet
      case rel =>
        rw [HLAST.out]
        exact ⟨((HM.out.1.drewN _).set0 b hb m).set3 b hb _, ((HM.out.2.drewN _).setCell (p := ⟨L, b * 4, none⟩) (.inr rfl) _).setCell (p := ⟨L, b * 4 + 3, none⟩) (.inr rfl) _⟩
  clear HM c0 c1 c2 f0 f1 f2 q1
  rw [← HLAST.out]
  have hA := hcut.1
  obtain ⟨⟨c0, c1, c2, f0, f1, f2⟩, hpl, _, _, _, _, _⟩ := hA
  obtain ⟨⟨_, _, p2, _⟩, _⟩ := hpl b hb
  obtain ⟨⟨_, t1, _, _⟩, _, r1, _, _⟩ := hpl (a.at_ b) hpr
  have HM := Lib.hid hcut
  clear hpl hcut
  go_wp2_with fail
  go_cut [] from 6 to 111 (fun w' => Mid X L base sv sv' { a with n := m, stack := b :: a.stack, gone := upd a.gone b m, next := upd a.next b last, works := upd a.works (a.at_ b) last } w w')
  case first =>
    refine wp_tail 15 (by kernel_rfl) (by kernel_rfl) ?_
    simp only [List.take_succ_cons, List.take_zero, List.drop_succ_cons, List.drop_zero]
    repeat still_step
    refine wpStill_nil ?_
    go_wp2_with fail
    go_meet
    case rel => exact ⟨(HM.out.1.set1 (a.at_ b) hpr last).drew, (HM.out.2.setCell (p := ⟨L, a.at_ b * 4 + 1, none⟩) (.inr rfl) _).drew⟩
  clear HM c0 c1 c2 f0 f1 f2 p2 t1 r1
  have hA := hcut.1
  obtain ⟨⟨c0, c1, c2, f0, f1, f2⟩, hpl, _, _, _, _, _⟩ := hA
  obtain ⟨⟨_, _, p2, _⟩, _⟩ := hpl b hb
  obtain ⟨⟨_, _, t2, _⟩, _, _, r2, _⟩ := hpl last l1
  have HM := Lib.hid hcut
  clear hpl hcut
  go_wp2_with fail
  refine wp_tail 15 (by kernel_rfl) (by kernel_rfl) ?_
  simp only [List.take_succ_cons, List.take_zero, List.drop_succ_cons, List.drop_zero]
  repeat still_step
  refine wpStill_nil ?_
  go_wp2_with fail
  go_ret
  refine ⟨rfl, sv', ?_, (HM.out.2.setCell (p := ⟨L, last * 4 + 2, none⟩) (.inr rfl) _).drew, HB2.out⟩
  have hfin := (HM.out.1.set2 last l1 (a.at_ b)).drew
  have e : rem a b = { a with n := m, stack := b :: a.stack, gone := upd a.gone b m, next := upd a.next b last, works := upd a.works (a.at_ b) last, at_ := upd a.at_ last (a.at_ b) } := by
    unfold rem
    rw [hn, Nat.add_sub_cancel, ← HLAST.out]
  rw [e]
  exact hfin
end Go.Proofs.Ytlipkffnllmkgaa
