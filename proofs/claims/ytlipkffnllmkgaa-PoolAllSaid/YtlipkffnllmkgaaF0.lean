import Derived.Test.YtlipkffnllmkgaaE1
import Derived.Test.YtlipkffnllmkgaaC1
import Derived.Maps.AppendAt
namespace Go.Proofs.Ytlipkffnllmkgaa
open Go.RowKit

/-- A list of the reference: the cells of block g. -/
def Col (g room : Nat) (f : Nat → Nat) (w : World) : Prop := ∀ i, i < room → w.cell? ⟨g, i, none⟩ = some (.int .i64 (f i : Int)) ∧ w.frozen? ⟨g, i, none⟩ = false
theorem Col.block {g room : Nat} {f : Nat → Nat} {w w' : World} (h : Col g room f w) (e : w'.heap[g]? = w.heap[g]?) : Col g room f w' := fun i hi =>
  ⟨(World.cell?_of_block (w := w) (a := ⟨g, i, none⟩) e).trans (h i hi).1, (World.frozen?_of_block (w := w) (a := ⟨g, i, none⟩) e).trans (h i hi).2⟩
theorem Col.set {g room : Nat} {f : Nat → Nat} {w : World} (h : Col g room f w) (i : Nat) (hi : i < room) (v : Nat) : Col g room (upd f i v) (w.setCell ⟨g, i, none⟩ (.int .i64 (v : Int))) := fun j hj => by
  refine ⟨?_, by rw [World.frozen?_setCell]; exact (h j hj).2⟩
  by_cases e : j = i
  · subst e; rw [upd_same]; exact cell_set_eq (h j hj).1
  · rw [upd_ne _ _ e]; exact cell_set_ne (h j hj).1 (by omega)

/-- The reference's anchor lies in memory. -/
structure RefAt (X gA gW gL gK base cW cL cK : Nat) (sv : Value) (a : Anc) (w : World) : Prop where
  f0 : w.cell? ⟨X, 0, none⟩ = some (.slice (some ⟨gA, 0, none⟩) a.room a.room)
  f1 : w.cell? ⟨X, 1, none⟩ = some (.slice (some ⟨gW, 0, none⟩) a.room cW)
  f2 : w.cell? ⟨X, 2, none⟩ = some (.slice (some ⟨gL, 0, none⟩) a.room cL)
  f3 : w.cell? ⟨X, 3, none⟩ = some (.slice (some ⟨gK, 0, none⟩) a.room cK)
  f4 : w.cell? ⟨X, 4, none⟩ = some sv
  f5 : w.cell? ⟨X, 5, none⟩ = some (.int .i64 (a.n : Int))
  z : w.frozen? ⟨X, 4, none⟩ = false ∧ w.frozen? ⟨X, 5, none⟩ = false
  caps : (a.room ≤ cW ∧ cW ≤ maxLen) ∧ (a.room ≤ cL ∧ cL ≤ maxLen) ∧ (a.room ≤ cK ∧ cK ≤ maxLen)
  cA : Col gA a.room a.gone w
  cW' : Col gW a.room a.works w
  cL' : Col gL a.room a.at_ w
  cK' : Col gK a.room a.next w
  own : w.ownsRow base 3 1 sv a.stack.length (ints a.stack.reverse)
  low : X < base ∧ gA < base ∧ gW < base ∧ gL < base ∧ gK < base
  apart : X ≠ gA ∧ X ≠ gW ∧ X ≠ gL ∧ X ≠ gK ∧ gA ≠ gW ∧ gA ≠ gL ∧ gA ≠ gK ∧ gW ≠ gL ∧ gW ≠ gK ∧ gL ≠ gK
  hb : base ≤ w.heap.size

theorem mixRN (k b : Nat) (w : World) : Calls Try.prog 57 #[.int .u64 (k : Int), .int .u64 (b : Int)] w fun e w' => e = .returned (.int .u64 ((mixN k b : Nat) : Int)) ∧ w' = w := by
  have h := mixR_calls (k : Int) (b : Int) w
  rw [mixR_eq, mixI_eq] at h
  exact h

set_option maxRecDepth 100000 in
set_option maxHeartbeats 1000000 in
theorem refBucket (X gA gW gL gK base cW cL cK : Nat) (sv : Value) (a : Anc) (w : World) (k r : Nat) (I : Inv a) (h : RefAt X gA gW gL gK base cW cL cK sv a w) (hr2 : a.room ≤ 65536) (hf : Find a k (drawN k a.room a.room) r) :
    Calls Try.prog 40 #[.pointer (some ⟨X, 0, none⟩), .int .u64 (k : Int)] w fun e w' => e = .returned (.int .i64 (r : Nat)) ∧ ∃ m, w' = w.drewN m := by
  have HA := Lib.hid h.cA
  have HK := Lib.hid h.cK'
  have hx0 := h.f0
  have hx3 := h.f3
  have hc1 := h.caps.2.2.1
  have hc2 : cK ≤ 9223372036854775807 := h.caps.2.2.2
  have HF := Lib.hid hf
  have HI := Lib.hid I
  have hr : 0 < a.room := by have := I.pos; have := I.le; omega
  clear h hf I
  go_enter Try.func40, Try.ntmps40
  go_wp2_with (go_at_call 57; refine (mixRN k a.room _).mono ?_; rintro e wx ⟨rfl, rfl⟩)
  have hd0 : wrap64 (((mixN k a.room : Nat) : Int) % (a.room : Int)) = ((drawN k a.room a.room : Nat) : Int) := by
    have h1 := Nat.mod_lt (mixN k a.room) hr
    unfold drawN wrap64
    omega
  go_loopw [6] (fun b wr => ∃ b' m : Nat, b = .int .i64 (b' : Int) ∧ wr = wx.drewN m ∧ b' < a.room ∧ Find a k b' r) (fun b _ => a.gone (intOf b).toNat)
  case atStart => exact ⟨drawN k a.room a.room, 0, by rw [hd0], rfl, Nat.mod_lt _ hr, HF.out⟩
  case round =>
    obtain ⟨b, m, rfl, rfl, hb, hf⟩ := hrel
    have HF := Lib.hid hf
    obtain ⟨p0, _⟩ := HA.out b hb
    clear hf hd0
    by_cases hg : a.gone b = 0
    · rw [hg] at p0
      go_wp2_with fail
      go_ret
      have hf := HF.out
      cases hf with
      | done => exact ⟨rfl, m, rfl⟩
      | step _ _ _ _ hgc => exact (hgc hg).elim
    · have hgi : (0 : Int) < (a.gone b : Int) := by omega
      have HG := Lib.hid hg
      have hgb := HI.out.g1 b hb hg
      have hm0 : 0 < a.gone b := by omega
      have hm1 : a.gone b < a.room := hgb.2
      obtain ⟨c, HC, HFc⟩ : ∃ c, Hid (Chain a (a.gone b) (drawN k b (a.gone b)) c) ∧ Hid (Find a k c r) := by
        have hf := HF.out
        cases hf with
        | done _ _ hgc => exact (hg hgc).elim
        | step _ c _ _ _ hc hf' => exact ⟨c, hc, hf'⟩
      have hd : drawN k b (a.gone b) < a.room := Nat.lt_trans (Nat.mod_lt _ hm0) hm1
      have HD1 : Hid (wrap64 (((mixN k b : Nat) : Int) % (a.gone b : Int)) = ((drawN k b (a.gone b) : Nat) : Int)) := Lib.hid (by
        have h1 := Nat.mod_lt (mixN k b) hm0
        unfold drawN wrap64
        omega)
      clear hg hgb
      go_wp2_with fail
      have hbI : (b : Int) ≤ 65536 := by omega
      go_quiet ((go_at_call 57; exact (mixRN k b _).mono (fun e w2 ⟨he, hw⟩ => ⟨he, _, hw⟩)))
      go_wp2_with fail
      go_loopw [7] (fun h wr => ∃ h' m : Nat, h = .int .i64 (h' : Int) ∧ wr = wx.drewN m ∧ h' < a.room ∧ Chain a (a.gone b) h' c) (fun h _ => a.gone (intOf h).toNat)
      case atStart => exact ⟨_, _, by rw [HD1.out], World.drewN_drewN _ _ _, hd, HC.out⟩
      case round =>
        obtain ⟨h, m2, rfl, rfl, hh, hc⟩ := hrel
        have HC := Lib.hid hc
        obtain ⟨q0, _⟩ := HA.out h hh
        obtain ⟨q3, _⟩ := HK.out h hh
        clear hc
        by_cases hlt : a.gone b ≤ a.gone h
        · have hlti : (a.gone b : Int) ≤ (a.gone h : Int) := by omega
          go_wp2_with fail
          go_quiet (fail)
          go_wp2_with fail
          go_roundw
          case rel =>
            have hc := HC.out
            cases hc with
            | done _ _ hg' => omega
            | step _ _ _ _ hd' hc' => exact ⟨_, _, rfl, rfl, (HI.out.nx h hh).1, hc'⟩
          case measure =>
            have hc := HC.out
            cases hc with
            | done _ _ hg' => omega
            | step _ _ _ _ hd' hc' => simpa [intOf] using hd'
        · have hlti : ¬ (a.gone b : Int) ≤ (a.gone h : Int) := by omega
          go_wp2_with fail
          go_quiet (fail)
          go_wp2_with fail
          go_roundw
          case rel =>
            have hc := HC.out
            cases hc with
            | done _ _ hg' => exact ⟨_, _, rfl, World.drewN_drewN _ _ _, hh, HFc.out⟩
            | step _ _ _ hg' => omega
          case measure =>
            have hc := HC.out
            cases hc with
            | done _ _ hg' => simp [intOf]; omega
            | step _ _ _ hg' => omega
end Go.Proofs.Ytlipkffnllmkgaa
