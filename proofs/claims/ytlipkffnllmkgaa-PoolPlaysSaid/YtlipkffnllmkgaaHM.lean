import Derived.Test.YtlipkffnllmkgaaHK
import Derived.Test.YtlipkffnllmkgaaE1
namespace Go.Proofs.Ytlipkffnllmkgaa
open Go.RowKit Go.Shelf

/-- A pool, and a row of numbers from C on. -/
def PR (d : Prop) (B C Xp N : Nat) (p : Po) (sw : Value) (ws : List Nat) (w : World) : Prop := ∃ S, PoolAt B S Xp N p w ∧ (d → ∀ i, S i → i < C) ∧ (∀ g, sw.ownBlock = some g → ¬ S g) ∧ w.ownsRow C 3 1 sw ws.length (ints ws) ∧ C ≤ w.heap.size
theorem PR.start {B Xp N : Nat} {p : Po} {w : World} (h : OneP B Xp N p w) : PR True B w.heap.size Xp N p (.slice none 0 0) [] w := by
  obtain ⟨S, h⟩ := h
  exact ⟨S, h, fun _ => h.low.1, fun g hg => (by cases hg), ⟨rfl, .inl ⟨rfl, rfl⟩⟩, Nat.le_refl _⟩
theorem PR.one {d : Prop} {B C Xp N : Nat} {p : Po} {sw : Value} {ws : List Nat} {w : World} (h : PR d B C Xp N p sw ws w) : OneP B Xp N p w := by
  obtain ⟨S, h, _⟩ := h
  exact ⟨S, h⟩
theorem PR.row {d : Prop} {B C Xp N : Nat} {p : Po} {sw : Value} {ws : List Nat} {w : World} (h : PR d B C Xp N p sw ws w) : w.ownsRow C 3 1 sw ws.length (ints ws) := by
  obtain ⟨S, h, _, _, h2, _⟩ := h
  exact h2
theorem PR.size {d : Prop} {B C Xp N : Nat} {p : Po} {sw : Value} {ws : List Nat} {w : World} (h : PR d B C Xp N p sw ws w) : C ≤ w.heap.size := by
  obtain ⟨S, h, _, _, _, h2⟩ := h
  exact h2
theorem PR.below {d : Prop} {B C Xp N : Nat} {p : Po} {sw : Value} {ws : List Nat} {w w' : World} (h : PR d B C Xp N p sw ws w) (hb : Below w.heap.size w w') : PR d B C Xp N p sw ws w' := by
  obtain ⟨S, h, h1, h2, h3, h4⟩ := h
  exact ⟨S, at_below h hb, h1, h2, ownsRow_block h3 (fun g hg => hb.block g (h3.lt g hg).2), Nat.le_trans h4 hb.size⟩
theorem PR.append {B C Xp N : Nat} {p : Po} {sw : Value} {ws : List Nat} {w w' : World} (h : PR True B C Xp N p sw ws w) (hg : w.grownBy w' sw.ownBlock) (sw' : Value) (b : Nat) (hr : w'.ownsRow C 3 1 sw' (ws.length + 1) (ints ws ++ [.int .i64 (b : Int)])) : PR True B C Xp N p sw' (ws ++ [b]) w' := by
  obtain ⟨S, h, h1, h2, h3, h4⟩ := h
  refine ⟨S, h.kept (fun i hi => hg.block i (h.low.1 i hi) (fun e => h2 i e.symm hi)) hg.size, h1, fun g hgo hS => ?_, ?_, Nat.le_trans h4 hg.size⟩
  · have := (hr.lt g hgo).1
    have := h1 trivial g hS
    omega
  · simpa [ints] using hr
theorem PR.call {d : Prop} {B C Xp N N' : Nat} {p p' : Po} {sw : Value} {ws : List Nat} {w : World} (h : PR d B C Xp N p sw ws w) {f : FuncId} {args : Array Value} {R : Ending} (hc : ∀ S, PoolAt B S Xp N p w → Calls Try.prog f args w fun e w' => e = R ∧ Turned B S Xp N' p' w w') :
    Calls Try.prog f args w fun e w' => e = R ∧ PR False B C Xp N' p' sw ws w' ∧ Below B w w' := by
  obtain ⟨S, h1, _, h2, h3, h4⟩ := h
  refine (hc S h1).mono ?_
  rintro e w' ⟨he, S', g1, g2, g3⟩
  refine ⟨he, ⟨S', g1, fun f => f.elim, fun g hg hS => ?_, ownsRow_block h3 (fun g hg => g2.block g (h3.lt g hg).2 (h2 g hg)), Nat.le_trans h4 g2.size⟩, g2.below h1.low.2.2 h1.low.2.1⟩
  rcases g3 g hS with e | e
  · exact h2 g hg e
  · have := (h3.lt g hg).2; omega
theorem PR.read {d : Prop} {B C Xp N m : Nat} {R : Nat → Nat} {p : Po} {sw : Value} {w : World} (h : PR d B C Xp N p sw ((List.range m).map R) w) (i : Nat) (hi : i < m) :
    ∃ g cap, sw = .slice (some ⟨g, 0, none⟩) m cap ∧ m ≤ cap ∧ cap ≤ 9223372036854775807 ∧ w.cell? ⟨g, i, none⟩ = some (.int .i64 (R i : Int)) := by
  have h3 := h.row
  rcases h3.2 with ⟨_, h0⟩ | ⟨g, cap, cur, hv, _, _, h5, h6, _⟩
  · simp at h0; omega
  · rw [List.length_map, List.length_range] at hv h5
    refine ⟨g, cap, hv, h5, h6, ?_⟩
    have := h3.cells (g := g) (by rw [hv]; rfl) i (.int .i64 (R i : Int)) (by simp [ints, hi])
    rwa [addr_add] at this
end Go.Proofs.Ytlipkffnllmkgaa

namespace Go.Proofs.Ytlipkffnllmkgaa
open Go.RowKit Go.Shelf Go.Maps

/-- A pool, and boxes that are none of it. -/
def OneG (B Xp N : Nat) (p : Po) (Gs : List (Nat × Obj)) (w : World) : Prop := ∃ S, PoolAt B S Xp N p w ∧ ∀ q ∈ Gs, ¬ S q.1 ∧ w.heap[q.1]? = some q.2
theorem OneG.one {B Xp N : Nat} {p : Po} {Gs : List (Nat × Obj)} {w : World} (h : OneG B Xp N p Gs w) : OneP B Xp N p w := by
  obtain ⟨S, h, _⟩ := h
  exact ⟨S, h⟩
theorem OneG.has {B Xp N : Nat} {p : Po} {Gs : List (Nat × Obj)} {w : World} (h : OneG B Xp N p Gs w) {b : Nat} {o : Obj} (hm : (b, o) ∈ Gs) : w.heap[b]? = some o := by
  obtain ⟨S, h, hg⟩ := h
  exact (hg _ hm).2
theorem OneP.bare {B Xp N : Nat} {p : Po} {w : World} (h : OneP B Xp N p w) : OneG B Xp N p [] w := by
  obtain ⟨S, h⟩ := h
  exact ⟨S, h, fun q hq => by cases hq⟩
theorem OneG.below {B Xp N : Nat} {p : Po} {Gs : List (Nat × Obj)} {w w' : World} (h : OneG B Xp N p Gs w) (hb : Below w.heap.size w w') : OneG B Xp N p Gs w' := by
  obtain ⟨S, h, hg⟩ := h
  exact ⟨S, at_below h hb, fun q hq => ⟨(hg q hq).1, (hb.block q.1 (Array.getElem?_eq_some_iff.1 (hg q hq).2).1).trans (hg q hq).2⟩⟩
theorem OneG.push {B Xp N : Nat} {p : Po} {Gs : List (Nat × Obj)} {w : World} (h : OneG B Xp N p Gs w) (o : Obj) : OneG B Xp N p ((w.heap.size, o) :: Gs) (w.alloc o) := by
  obtain ⟨S, h2, hg⟩ := h.below ((Below.refl _ w).alloc (Nat.le_refl _) o)
  obtain ⟨S1, h1, hg1⟩ := h
  refine ⟨S1, at_below h1 ((Below.refl _ w).alloc (Nat.le_refl _) o), fun q hq => ?_⟩
  rcases List.mem_cons.1 hq with rfl | hq
  · exact ⟨fun e => by have := h1.low.1 _ e; omega, World.alloc_heap_new w o⟩
  · exact ⟨(hg1 q hq).1, (hg q hq).2⟩
theorem OneG.call {B Xp N N' : Nat} {p p' : Po} {Gs : List (Nat × Obj)} {w : World} (h : OneG B Xp N p Gs w) {f : FuncId} {args : Array Value} {R : Ending} (hc : ∀ S, PoolAt B S Xp N p w → Calls Try.prog f args w fun e w' => e = R ∧ Turned B S Xp N' p' w w') :
    Calls Try.prog f args w fun e w' => e = R ∧ OneG B Xp N' p' Gs w' ∧ Below B w w' := by
  obtain ⟨S, h1, hg⟩ := h
  refine (hc S h1).mono ?_
  rintro e w' ⟨he, S', g1, g2, g3⟩
  refine ⟨he, ⟨S', g1, fun q hq => ?_⟩, g2.below h1.low.2.2 h1.low.2.1⟩
  obtain ⟨q1, q2⟩ := hg q hq
  have hl := (Array.getElem?_eq_some_iff.1 q2).1
  refine ⟨fun e => ?_, (g2.block q.1 hl q1).trans q2⟩
  rcases g3 _ e with e | e
  · exact q1 e
  · omega
theorem exg_add {B Xp : Nat} {Gs : List (Nat × Obj)} {w : World} (h : OneG B Xp 0 (newPo 2 poKey) Gs w) : Calls Try.prog 13 #[.pointer (some ⟨Xp, 0, none⟩), .agg #[.int .i64 5, .int .u32 7, .int .i64 9]] w fun e w' => e = .returned (.int .i64 0) ∧ OneG B Xp 1 exP2 Gs w' ∧ Below B w w' := by
  unfold exP2
  exact h.call (fun S hS => at_add hS exGood1 (by unfold maxLen; omega) (by omega) (by omega) rfl (by show 0 < 2; omega))
theorem exg_drain {B Xp : Nat} {Gs : List (Nat × Obj)} {w : World} (h : OneG B Xp 1 exP2 Gs w) : Calls Try.prog 14 #[.pointer (some ⟨Xp, 0, none⟩), .int .i64 5] w fun e w' => e = .returned (.int .i64 0) ∧ OneG B Xp 2 exP3 Gs w' ∧ Below B w w' := by
  unfold exP3
  exact h.call (fun S hS => at_drain hS exGood2 (by unfold maxLen; omega) exAll2 (by unfold exMem; rfl))

set_option maxRecDepth 100000 in
set_option maxHeartbeats 1000000 in
theorem examples13 (w : World) : Calls Try.prog 6 #[] w fun e w' => e = .returned (.bool true) ∧ Below w.heap.size w w' := by
  have ST := Stage.mk 0
  go_enter Try.func6, Try.ntmps6
  go_wp2_with (first
    | (go_at_call 7; have := (ST : Stage 0); clear this; replace ST := Stage.mk 1; refine (ex_new13 _).mono ?_; rintro e w1 ⟨X, rfl, hA, hB⟩; have HA := Lib.hid hA.bare; have HB := Lib.hid hB; clear hA hB)
    | (go_at_call 7; have := (ST : Stage 1); clear this; replace ST := Stage.mk 2; refine (ex_short _).mono ?_; rintro e w2 ⟨rfl, hB⟩; replace HA := Lib.hid (HA.out.below hB); replace HB := Lib.hid (below_step HB.out hB); clear hB)
    | (go_at_call 17; have := (ST : Stage 2); clear this; replace ST := Stage.mk 3; refine (ex_none HA.out.one rfl).mono ?_; rintro e w3 ⟨rfl, hB⟩; replace HA := Lib.hid (HA.out.below hB); replace HB := Lib.hid (below_step HB.out hB); clear hB)
    | (go_at_call 13; have HA2 := HA.out.push (.cells #[.int .i64 0, .int .u32 0, .int .i64 0] 33); refine (exg_add HA2).mono ?_; rintro e w4 ⟨rfl, hA, hB⟩; replace HA := Lib.hid hA; replace HB := Lib.hid ((HB.out.alloc HB.out.size _).trans hB); clear hA hB HA2)
    | (go_at_call 17; have := (ST : Stage 3); clear this; replace ST := Stage.mk 4; refine (ex_five HA.out.one).mono ?_; rintro e w5 ⟨⟨a5, q5, rfl⟩, hB⟩; replace HA := Lib.hid (HA.out.below hB); replace HB := Lib.hid (below_step HB.out hB); clear hB)
    | (go_at_call 14; have HA2 := HA.out.push (.cells #[.int .i64 5, .int .u32 a5, .int .i64 q5] 33); refine (exg_drain HA2).mono ?_; rintro e w6 ⟨rfl, hA, hB⟩; replace HA := Lib.hid hA; replace HB := Lib.hid ((HB.out.alloc HB.out.size _).trans hB); clear hA hB HA2)
    | (go_at_call 17; have := (ST : Stage 4); clear this; replace ST := Stage.mk 5; refine (ex_none HA.out.one exAct3).mono ?_; rintro e w7 ⟨rfl, hB⟩; replace HA := Lib.hid (HA.out.below hB); replace HB := Lib.hid (below_step HB.out hB); clear hB)
    | (go_at_call 15; have HA2 := HA.out.push (.cells #[.int .i64 0, .int .u32 0, .int .i64 0] 33); refine (ex_get13 HA2.one).mono ?_; rintro e w8 ⟨⟨i6, a6, q6, rfl⟩, hB⟩; replace HA := Lib.hid (HA2.below hB); replace HB := Lib.hid (below_step (HB.out.alloc HB.out.size _) hB); clear hB HA2; have k8 := HA.out.has (List.mem_cons_of_mem _ (List.mem_cons_self ..)); obtain ⟨d0, d1, d2⟩ := cell3 k8; have l8 := (Array.getElem?_eq_some_iff.1 k8).1; clear k8))
  go_ret
  exact ⟨rfl, HB.out.alloc HB.out.size _⟩
end Go.Proofs.Ytlipkffnllmkgaa
