import Derived.Test.YtladjipicifplaaD7
namespace Go.Proofs.Ytladjipicifplaa
open Go.RowKit Go.Shelf
attribute [local go_sem] Oper.semAt_some

theorem mem_workTo (a : Anc) (k b : Nat) : b ∈ workTo a k ↔ b < k ∧ a.gone b = 0 := by unfold workTo; simp

theorem working_stops (F : Fence) (n : Nat) (h48 : F.fn 48) (hro : F.round = none) (hn : 1 ≤ n) (Bx X L : Nat) (a : Anc) (hr2 : a.room ≤ 65536) (w : World)
    (hBx : w.heap[Bx]? = some (.cells #[.pointer (some ⟨X, 0, none⟩)] 35 (0, 0))) (hX : w.cell? ⟨X, 0, none⟩ = some (.slice (some ⟨L, 0, none⟩) a.room a.room)) (hP : Places L a w) (hXs : X < w.heap.size) (hL : L < w.heap.size) :
    SeqStopsK F n Try.prog 48 #[.pointer (some ⟨Bx, 0, none⟩)] (fun x : Nat => #[Value.int .i64 (x : Int)]) (KeepOne L) (fun ys => ys = workTo a a.room) (fun pre => pre <+: workTo a a.room) (workTo a a.room).length w := by
  intro l J Jx W hW hJ _ hY h0
  have lb : Bx < w.heap.size := (Array.getElem?_eq_some_iff.1 hBx).1
  have c : W.heap[Bx]? = _ := (hW.block _ lb).trans hBx
  exact working1_in F n h48 hro hn l Bx X L a hr2 J Jx W hJ hY (by simp [World.cell?, c]) ((hW.cell (p := ⟨X, 0, none⟩) hXs).trans hX) (hP.block (hW.block L hL)) (Nat.lt_of_lt_of_le hL hW.size) h0

def worksB (a : Anc) (b : Int) : Bool := decide (0 ≤ b ∧ b.toNat < a.room ∧ a.gone b.toNat = 0)

set_option maxRecDepth 100000 in
set_option maxHeartbeats 2000000 in
theorem works_calls {B X room : Nat} {a : Anc} {w : World} (h : Lies B X room a w) (b : Int) :
    Calls Try.prog 32 #[.pointer (some ⟨X, 0, none⟩), .int .i64 b] w fun e w' => e = .returned (.bool (worksB a b)) ∧ Below w.heap.size w w' := by
  obtain ⟨I, hr⟩ := h.inv
  obtain ⟨L, base, sv, h, h1, h2, h3, h4, h5⟩ := h
  refine (callsIn_wide (n := 9)).1 ?_
  refine callsIn_of_wp_marks Try.func32 rfl trivial ?_ rfl
  simp only [Try.ntmps32, List.size_toArray, List.length_cons, List.length_nil, Nat.reduceAdd, Nat.reduceSub, Array.replicate_succ, Array.replicate_zero, List.push_toArray, List.append_toArray, List.nil_append, List.cons_append]
  gi_wp2_with (refine ⟨trivial, ?_⟩; gi_at_call 30; refine (working_in Fence.wide 8 trivial rfl _ _).mono ?_; rintro e w' ⟨rfl, rfl⟩)
  have hXw : X < w.heap.size := by have := h.hX; have := h.hb; omega
  have hLw : L < w.heap.size := by have := h.hL; have := h.hb; omega
  obtain ⟨W2, hW2⟩ : ∃ W2, ((w.alloc (.cells #[.int .i64 b] 3)).alloc (.cells #[.bool false] 4)).alloc (.cells #[.pointer (some ⟨X, 0, none⟩)] 35) = W2 := ⟨_, rfl⟩
  have hbel : Below w.heap.size w W2 := by
    rw [← hW2]
    exact (((Below.refl _ w).alloc (Nat.le_refl _) _).alloc (by simp) _).alloc (by simp; omega) _
  have hs2 : W2.heap.size = w.heap.size + 3 := by rw [← hW2]; simp
  have hb0 : W2.heap[w.heap.size]? = some (.cells #[.int .i64 b] 3 (0, 0)) := by
    rw [← hW2]
    exact ((Below.heap_alloc _ _ _ (by simp; omega)).trans (Below.heap_alloc _ _ _ (by simp))).trans (World.alloc_heap_new w _)
  have hb1 : W2.heap[w.heap.size + 1]? = some (.cells #[.bool false] 4 (0, 0)) := by
    have h5 := World.alloc_heap_new (w.alloc (.cells #[.int .i64 b] 3)) (.cells #[.bool false] 4)
    rw [World.size_alloc] at h5
    rw [← hW2]
    exact (Below.heap_alloc _ _ _ (by simp)).trans h5
  have hb2 : W2.heap[w.heap.size + 2]? = some (.cells #[.pointer (some ⟨X, 0, none⟩)] 35 (0, 0)) := by
    have h5 := World.alloc_heap_new ((w.alloc (.cells #[.int .i64 b] 3)).alloc (.cells #[.bool false] 4)) (.cells #[.pointer (some ⟨X, 0, none⟩)] 35)
    rw [World.size_alloc, World.size_alloc, hW2] at h5
    exact h5
  have hA2 := h.below hbel
  rw [hW2]
  refine wpIn_gen _ ?_
  intro A hA
  have HS2 := Lib.hid hs2
  have HA2 := Lib.hid hA2
  have hle : W2.heap.size ≤ W2.heap.size := Nat.le_refl _
  refine wpIn_rangeFunc_ownG (α := Nat) rfl (by omega) (gf := 48) (lb := #[.pointer (some ⟨w.heap.size + 1 + 1, 0, none⟩)]) (by rw [hA]; rfl) trivial (enters_of Try.func48 (by kernel_rfl) rfl)
    (working_stops Fence.wide 8 trivial rfl (by omega) (w.heap.size + 1 + 1) X L a (by omega) W2 hb2 hA2.fields.1 hA2.places (by omega) (by omega))
    (fun h h' => ⟨h'.1.trans h.1, Nat.le_trans h.2 h'.2⟩) (fun W l o o' hl hlo _ _ => ?keep) (Below.refl _ _) (fun _ => rfl)
    (fun pre W => ((∀ x ∈ pre, ((x : Nat) : Int) ≠ b) ∧ W.heap[w.heap.size]? = some (.cells #[.int .i64 b] 3 (0, 0)) ∧ W.heap[w.heap.size + 1]? = some (.cells #[.bool false] 4 (0, 0))) ∧ Below w.heap.size w W)
    (fun c pre W => (c = Code.ret ∧ (∃ x ∈ pre, ((x : Nat) : Int) = b) ∧ W.cell? ⟨w.heap.size + 1, 0, none⟩ = some (.bool true)) ∧ Below w.heap.size w W)
    (OwnFrom.and ?own (ownFrom_below (Nat.le_refl _) (by omega)))
    (fun c => OwnFrom.and ?ownx (ownFrom_below (Nat.le_refl _) (by omega)))
    ⟨⟨by simp, hb0, hb1⟩, hbel⟩
    (fun x => { tmps := (A.tmps.setIfInBounds 8 (.int .i64 (x : Int))).setIfInBounds 5 (.int .i64 (x : Int)), defers := [] }) ?assign ?body ?done ?stop
  case keep =>
    exact ⟨(grownBy_putObj' W l o').block _ (by have := (Array.getElem?_eq_some_iff.1 hlo).1; omega) (fun e => by cases e; omega), (grownBy_putObj' W l o').size⟩
  case own =>
    rintro pre A1 B1 row ⟨hs, hv, hv2⟩ hg hr
    exact ⟨hs, (hg.block _ (Array.getElem?_eq_some_iff.1 hv).1 (fun e => by have := (hr _ e.symm).1; omega)).trans hv, (hg.block _ (Array.getElem?_eq_some_iff.1 hv2).1 (fun e => by have := (hr _ e.symm).1; omega)).trans hv2⟩
  case ownx =>
    rintro pre A1 B1 row ⟨hs, hv, hv2⟩ hg hr
    exact ⟨hs, hv, cell_kept hv2 hg (fun r e => (hr r e).2)⟩
  case assign =>
    intro l x W K hK
    subst hA
    clear hs2
    simp only [List.setIfInBounds_toArray, List.set_cons_zero, List.set_cons_succ] at hK
    gi_wp2
    exact hK
  case body =>
    rintro l pre x W ⟨⟨hpre, hv, hv2⟩, hB⟩ hlen
    subst hA
    have d0 : W.cell? ⟨w.heap.size, 0, none⟩ = some (.int .i64 b) := by simp [World.cell?, hv]
    have d1 : W.cell? ⟨w.heap.size + 1, 0, none⟩ = some (.bool false) := by simp [World.cell?, hv2]
    have d2 : W.frozen? ⟨w.heap.size + 1, 0, none⟩ = false := by simp [World.frozen?, hv2]
    clear hs2
    simp only [List.setIfInBounds_toArray, List.set_cons_zero, List.set_cons_succ]
    by_cases e : (x : Int) = b
    · have e2 : ((x : Int) == b) = true := by simp [e]
      have E := Lib.hid e
      have HB := Lib.hid hB
      clear e hB hpre
      gi_wp2
      refine ⟨(KeepsOthers.setCell _ _ _).from _, ⟨rfl, ⟨x, by simp, E.out⟩, cell_set_eq d1⟩, HB.out.setCell (p := ⟨w.heap.size + 1, 0, none⟩) (by simp) _⟩
    · have e2 : ((x : Int) == b) = false := by simp [e]
      have E := Lib.hid e
      have HB := Lib.hid hB
      have HP := Lib.hid hpre
      have HV := Lib.hid hv
      have HV2 := Lib.hid hv2
      clear e hB hpre hv hv2
      gi_wp2
      refine ⟨KeepsFrom.refl _ _, ⟨rfl, Nat.le_refl _⟩, ⟨?_, HV.out, HV2.out⟩, HB.out⟩
      intro y hy
      rw [List.mem_append] at hy
      rcases hy with hy | hy
      · exact HP.out y hy
      · have : y = x := by simpa using hy
        subst this
        exact E.out
  case done =>
    rintro D ys W hD hys ⟨⟨hpre, hv, hv2⟩, hB⟩ hK
    subst hA
    have d1 : W.cell? ⟨w.heap.size + 1, 0, none⟩ = some (.bool false) := by simp [World.cell?, hv2]
    have d2 : W.frozen? ⟨w.heap.size + 1, 0, none⟩ = false := by simp [World.frozen?, hv2]
    have hD2 : w.heap.size + 3 ≤ D := by rw [HS2.out] at hD; exact hD
    have HK := Lib.hid hK
    have HB := Lib.hid hB
    have HP := Lib.hid hpre
    clear hK hB hpre hD hs2 hv hv2
    gi_wp2
    have hk2 : (W.setCell ⟨w.heap.size + 1, 0, none⟩ (.bool false)).heap[D]? = some (.deferred (some [])) := (Below.heap_setCell W ⟨w.heap.size + 1, 0, none⟩ _ D (by simp; omega)).trans HK.out
    have d3 := cell_set_eq (v := Value.bool false) d1
    refine ⟨by simp, .inl ⟨_, _, rfl, run_takeDeferred hk2, ?_⟩⟩
    have d4 := cell_kept d3 (grownBy_putObj' _ D (.deferred none)) (fun r e => by cases e; exact ⟨_, hk2, rfl⟩)
    refine ⟨.bool false, by simp [results, Try.f32, go_sem, d4], ?_, ?_⟩
    · have : worksB a b = false := by
        unfold worksB
        rw [decide_eq_false_iff_not]
        rintro ⟨h1, h2, h3⟩
        exact HP.out b.toNat (by rw [hys]; exact (mem_workTo _ _ _).2 ⟨h2, h3⟩) (by omega)
      rw [this]
    · exact (HB.out.setCell (p := ⟨w.heap.size + 1, 0, none⟩) (by simp) _).trans (belowK_b (w := w) (Nat.le_refl _) _ D _ _ (by omega) hk2 rfl rfl)
  case stop =>
    rintro D c pre W hD hsp ⟨⟨rfl, ⟨x, hx, hxb⟩, d1⟩, hB⟩ hK
    subst hA
    have hD2 : w.heap.size + 3 ≤ D := by rw [HS2.out] at hD; exact hD
    have HK := Lib.hid hK
    have HB := Lib.hid hB
    clear hK hB hD hs2
    gi_wp2
    refine ⟨by simp, .inl ⟨_, _, rfl, run_takeDeferred HK.out, ?_⟩⟩
    have d4 := cell_kept d1 (grownBy_putObj' _ D (.deferred none)) (fun r e => by cases e; exact ⟨_, HK.out, rfl⟩)
    refine ⟨.bool true, by simp [results, Try.f32, go_sem, d4], ?_, ?_⟩
    · have : worksB a b = true := by
        unfold worksB
        rw [decide_eq_true_iff]
        obtain ⟨h1, h2⟩ := (mem_workTo _ _ _).1 (hsp.subset hx)
        rw [← hxb]
        exact ⟨by omega, by simpa using h1, by simpa using h2⟩
      rw [this]
    · exact HB.out.trans (belowK_b (w := w) (Nat.le_refl _) _ D _ _ (by omega) HK.out rfl rfl)
end Go.Proofs.Ytladjipicifplaa
