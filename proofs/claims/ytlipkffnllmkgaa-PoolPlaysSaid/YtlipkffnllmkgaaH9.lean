import Derived.Test.YtlipkffnllmkgaaHE
import Derived.Deep.RegionHeld3
namespace Go.Proofs.Ytlipkffnllmkgaa
open Go.RowKit Go.Shelf Go.Maps

theorem PoolIn.added {S Sa : Nat → Prop} {Xp X M O n : Nat} {p : Po} {w w' : World} (h : PoolIn S Sa Xp X M O n p w) {a' : Anc} (hA : AncS Sa X p.room a' w') (hO : Only Sa w w') : PoolIn S Sa Xp X M O n { p with anc := a' } w' := by
  obtain ⟨m1, m2, m3, m4⟩ := h.mem
  obtain ⟨a1, a2, a3, a4, a5, a6⟩ := h.apart
  exact ⟨(hO.block Xp (h.low _ m1) a1).trans h.cells, h.all.block (hO.block M (h.low _ m2) a2), h.own.block (hO.block O (h.low _ m3) a3), hA, h.mem, h.apart, fun i hi => Nat.lt_of_lt_of_le (h.low i hi) hO.size⟩
/-- Behind the anchor's Add: three boxes stand on w. -/
theorem add_after {S Sa : Nat → Prop} {Xp X M O n : Nat} {p : Po} {w : World} (h : PoolIn S Sa Xp X M O n p w) (o1 o2 o3 : Obj) (b : Nat) (st : List Nat) (hst : p.anc.stack = b :: st) :
    Calls Try.prog 29 #[.pointer (some ⟨X, 0, none⟩)] (((w.alloc o1).alloc o2).alloc o3).drew.drew fun e w' => e = .returned (.tuple #[.int .i64 (b : Int), .int .i64 0]) ∧
      PoolIn S Sa Xp X M O n { p with anc := back p.anc b } w' ∧ Only S w w' ∧ w'.heap[w.heap.size]? = some o1 ∧ w'.heap[w.heap.size + 1 + 1]? = some o3 := by
  have hb3 : Below w.heap.size w (((w.alloc o1).alloc o2).alloc o3) := (((Below.refl _ w).alloc (Nat.le_refl _) _).alloc (by simp) _).alloc (by simp; omega) _
  have h3 : PoolIn S Sa Xp X M O n p (((w.alloc o1).alloc o2).alloc o3) := h.below hb3
  have hA : AncS Sa X p.room p.anc (((w.alloc o1).alloc o2).alloc o3).drew.drew := h3.anc.kept (fun _ _ => rfl) (Nat.le_refl _)
  refine (ancS_add hA b st hst).mono ?_
  rintro e w' ⟨he, hA', hR⟩
  have hR' : Only Sa (((w.alloc o1).alloc o2).alloc o3) w' := ⟨hR.os, hR.tape, hR.output, hR.size, hR.block⟩
  have hz : (((w.alloc o1).alloc o2).alloc o3).heap.size = w.heap.size + 3 := by simp
  have no : ∀ i, w.heap.size ≤ i → ¬ Sa i := fun i hi e => by have := h.low i (h.mem.2.2.2 i e); omega
  have k0 := World.alloc_heap_new w o1
  have k1 : ((w.alloc o1).alloc o2).heap[w.heap.size]? = some o1 := (Below.heap_alloc _ _ _ (by simp)).trans k0
  have k2 : (((w.alloc o1).alloc o2).alloc o3).heap[w.heap.size]? = some o1 := (Below.heap_alloc _ _ _ (by simp; omega)).trans k1
  have k3 := World.alloc_heap_new ((w.alloc o1).alloc o2) o3
  rw [show ((w.alloc o1).alloc o2).heap.size = w.heap.size + 1 + 1 by simp] at k3
  refine ⟨he, h3.added hA' hR', (Only.of_below hb3).trans (hR'.mono h.mem.2.2.2) (fun i _ e => e), (hR'.block _ (by omega) (no _ (Nat.le_refl _))).trans k2, (hR'.block _ (by omega) (no _ (by omega))).trans k3⟩
/-- What the tuple assignment reads. -/
def AddF (Xp M O B0 B2 : Nat) (id a pt b : Int) (W : World) : Prop :=
  W.cell? ⟨Xp, 3, none⟩ = some (.map (some M)) ∧ W.cell? ⟨Xp, 4, none⟩ = some (.map (some O)) ∧ W.cell? ⟨B0, 0, none⟩ = some (.int .i64 id) ∧ W.cell? ⟨B2, 0, none⟩ = some (.int .i64 id) ∧ W.cell? ⟨B2, 1, none⟩ = some (.int .u32 a) ∧ W.cell? ⟨B2, 2, none⟩ = some (.int .i64 pt) ∧ W.cell? ⟨B2, 3, none⟩ = some (.int .i64 1) ∧ W.cell? ⟨B2, 4, none⟩ = some (.int .i64 b)
theorem AddF.of {Xp M O B0 B2 : Nat} {id a pt b : Int} {w W : World} (h : AddF Xp M O B0 B2 id a pt b w) (h1 : W.heap[Xp]? = w.heap[Xp]?) (h2 : W.heap[B0]? = w.heap[B0]?) (h3 : W.heap[B2]? = w.heap[B2]?) : AddF Xp M O B0 B2 id a pt b W := by
  have e1 : ∀ i, W.cell? ⟨Xp, i, none⟩ = w.cell? ⟨Xp, i, none⟩ := fun i => World.cell?_of_block (w := w) (a := ⟨Xp, i, none⟩) h1
  have e2 : ∀ i, W.cell? ⟨B0, i, none⟩ = w.cell? ⟨B0, i, none⟩ := fun i => World.cell?_of_block (w := w) (a := ⟨B0, i, none⟩) h2
  have e3 : ∀ i, W.cell? ⟨B2, i, none⟩ = w.cell? ⟨B2, i, none⟩ := fun i => World.cell?_of_block (w := w) (a := ⟨B2, i, none⟩) h3
  unfold AddF
  rw [e1, e1, e2, e3, e3, e3, e3, e3]
  exact h
def Po.set (p : Po) (id b : Int) (m : Mem) : Po := { p with all := fun j => if j = id then some m else p.all j, own := fun j => if j = b then some id else p.own j }
theorem add_maps {S Sa : Nat → Prop} {Xp X M O n : Nat} {p : Po} {w : World} (h : PoolIn S Sa Xp X M O n p w) (hn : n < maxLen) {B0 B2 : Nat} (hB0 : ¬ S B0) (hB2 : ¬ S B2) (l0 : B0 < w.heap.size) (l2 : B2 < w.heap.size) {id a pt b : Int} (hid : (Lit.int .i64 id).wf = true) (hb : (Lit.int .i64 b).wf = true) (hF : AddF Xp M O B0 B2 id a pt b w) :
    ∃ (v0 v1 : Value) (st st1 : Nat) (w6 w7 w8 w9 : World), (Instr.mapEntry 63 (.map (some M)) (.int .i64 id)).run Try.prog w = .ok (.tuple #[v0, .int .i64 (st : Int)]) w6 ∧
      (Instr.entryStore 63 (.map (some M)) (.int .i64 (st : Int)) (.agg #[.int .i64 id, .int .u32 a, .int .i64 pt, .int .i64 1, .int .i64 b])).run Try.prog w6 = .ok () w7 ∧
      (Instr.mapEntry 56 (.map (some O)) (.int .i64 b)).run Try.prog w7 = .ok (.tuple #[v1, .int .i64 (st1 : Int)]) w8 ∧
      (Instr.entryStore 56 (.map (some O)) (.int .i64 (st1 : Int)) (.int .i64 id)).run Try.prog w8 = .ok () w9 ∧
      (AddF Xp M O B0 B2 id a pt b w6 ∧ AddF Xp M O B0 B2 id a pt b w7 ∧ AddF Xp M O B0 B2 id a pt b w8 ∧ AddF Xp M O B0 B2 id a pt b w9) ∧
      PoolIn S Sa Xp X M O (n + 1) (p.set id b ⟨id, a, pt, 1, b⟩) w9 ∧ Only S w w9 := by
  obtain ⟨m1, m2, m3, m4⟩ := h.mem
  obtain ⟨a1, a2, a3, a4, a5, a6⟩ := h.apart
  have lX := h.low _ m1
  have lM := h.low _ m2
  have lO := h.low _ m3
  have n0M : B0 ≠ M := fun e => hB0 (e ▸ m2)
  have n0O : B0 ≠ O := fun e => hB0 (e ▸ m3)
  have n2M : B2 ≠ M := fun e => hB2 (e ▸ m2)
  have n2O : B2 ≠ O := fun e => hB2 (e ▸ m3)
  obtain ⟨v0, st, w6, r1, g1, fill1⟩ := h.all.entry Try.underlying63 zero104 hn hid
  obtain ⟨w7, r2, hmap, g2⟩ := fill1 w6 (.agg #[.int .i64 id, .int .u32 a, .int .i64 pt, .int .i64 1, .int .i64 b]) rfl
  have k7 : ∀ i, i < w.heap.size → i ≠ M → w7.heap[i]? = w.heap[i]? := fun i hi hne => (g2.block i (Nat.lt_of_lt_of_le hi g1.size) (by simp; exact hne)).trans (g1.block i hi (by simp; exact hne))
  have hO7 : MapIs O n p.ownV w7 := h.own.block (k7 O lO (fun e => a6 e.symm))
  obtain ⟨v1, st1, w8, r3, g3, fill2⟩ := hO7.entry Try.underlying56 zero3 hn hb
  obtain ⟨w9, r4, hmap2, g4⟩ := fill2 w8 (.int .i64 id) rfl
  have s7 : w.heap.size ≤ w7.heap.size := Nat.le_trans g1.size g2.size
  have s9 : w7.heap.size ≤ w9.heap.size := Nat.le_trans g3.size g4.size
  have k8 : ∀ i, i < w.heap.size → i ≠ O → w8.heap[i]? = w7.heap[i]? := fun i hi hne => g3.block i (by omega) (by simp; exact hne)
  have k9 : ∀ i, i < w.heap.size → i ≠ O → w9.heap[i]? = w8.heap[i]? := fun i hi hne => g4.block i (by have := g3.size; omega) (by simp; exact hne)
  have k6 : ∀ i, i < w.heap.size → i ≠ M → w6.heap[i]? = w.heap[i]? := fun i hi hne => g1.block i hi (by simp; exact hne)
  have k79 : ∀ i, i < w.heap.size → i ≠ M → i ≠ O → w9.heap[i]? = w.heap[i]? := fun i hi h1 h2 => (k9 i hi h2).trans ((k8 i hi h2).trans (k7 i hi h1))
  have F7 : AddF Xp M O B0 B2 id a pt b w7 := hF.of (k7 _ lX a4) (k7 _ l0 n0M) (k7 _ l2 n2M)
  have F8 : AddF Xp M O B0 B2 id a pt b w8 := F7.of (k8 _ lX a5) (k8 _ l0 n0O) (k8 _ l2 n2O)
  refine ⟨v0, v1, st, st1, w6, w7, w8, w9, r1, r2, r3, r4, ⟨hF.of (k6 _ lX a4) (k6 _ l0 n0M) (k6 _ l2 n2M), F7, F8, F8.of (k9 _ lX a5) (k9 _ l0 n0O) (k9 _ l2 n2O)⟩, ⟨(k79 Xp lX a4 a5).trans h.cells, ?_, ?_, h.anc.kept (fun i hi => k79 i (h.low i (m4 i hi)) (fun e => a2 (e ▸ hi)) (fun e => a3 (e ▸ hi))) (by omega), h.mem, h.apart, fun i hi => by have := h.low i hi; omega⟩, ⟨g4.os.trans (g3.os.trans (g2.os.trans g1.os)), g4.tape.trans (g3.tape.trans (g2.tape.trans g1.tape)), g4.output.trans (g3.output.trans (g2.output.trans g1.output)), by omega, fun i hi hn => k79 i hi (fun e => hn (e ▸ m2)) (fun e => hn (e ▸ m3))⟩⟩
  · have e : (p.set id b ⟨id, a, pt, 1, b⟩).allV = fun j => if j = id then some (.agg #[.int .i64 id, .int .u32 a, .int .i64 pt, .int .i64 1, .int .i64 b]) else p.allV j := by
      funext j
      unfold Po.set Po.allV
      dsimp only
      split <;> rfl
    rw [e]
    exact hmap.block ((k9 M lM a6).trans (k8 M lM a6))
  · have e : (p.set id b ⟨id, a, pt, 1, b⟩).ownV = fun j => if j = b then some (.int .i64 id) else p.ownV j := by
      funext j
      unfold Po.set Po.ownV
      dsimp only
      split <;> rfl
    rw [e]
    exact hmap2
theorem add_mid {S Sa : Nat → Prop} {Xp X M O n : Nat} {p : Po} {w w4 : World} (hlow : ∀ i, S i → i < w.heap.size) (h : PoolIn S Sa Xp X M O n p w4) (hO : Only S w w4) (hn : n < maxLen) {id a pt b : Int} (hid : (Lit.int .i64 id).wf = true) (hb : (Lit.int .i64 b).wf = true)
    (k1 : w4.heap[w.heap.size]? = some (.cells #[.int .i64 id, .int .u32 a, .int .i64 pt] 33)) (k3 : w4.heap[w.heap.size + 1 + 1]? = some (.cells #[.int .i64 id, .int .u32 a, .int .i64 pt, .int .i64 1, .int .i64 0] 77)) :
    ∃ (v0 v1 : Value) (st st1 : Nat) (w6 w7 w8 w9 : World), (Instr.mapEntry 63 (.map (some M)) (.int .i64 id)).run Try.prog (w4.setCell ⟨w.heap.size + 1 + 1, 4, none⟩ (.int .i64 b)).drew = .ok (.tuple #[v0, .int .i64 (st : Int)]) w6 ∧
      (Instr.entryStore 63 (.map (some M)) (.int .i64 (st : Int)) (.agg #[.int .i64 id, .int .u32 a, .int .i64 pt, .int .i64 1, .int .i64 b])).run Try.prog w6 = .ok () w7 ∧
      (Instr.mapEntry 56 (.map (some O)) (.int .i64 b)).run Try.prog w7 = .ok (.tuple #[v1, .int .i64 (st1 : Int)]) w8 ∧
      (Instr.entryStore 56 (.map (some O)) (.int .i64 (st1 : Int)) (.int .i64 id)).run Try.prog w8 = .ok () w9 ∧
      (AddF Xp M O w.heap.size (w.heap.size + 1 + 1) id a pt b (w4.setCell ⟨w.heap.size + 1 + 1, 4, none⟩ (.int .i64 b)).drew ∧ AddF Xp M O w.heap.size (w.heap.size + 1 + 1) id a pt b w6 ∧ AddF Xp M O w.heap.size (w.heap.size + 1 + 1) id a pt b w7 ∧ AddF Xp M O w.heap.size (w.heap.size + 1 + 1) id a pt b w8 ∧ AddF Xp M O w.heap.size (w.heap.size + 1 + 1) id a pt b w9) ∧
      PoolIn S Sa Xp X M O (n + 1) (p.set id b ⟨id, a, pt, 1, b⟩) w9 ∧ Only S w w9 := by
  have l0 := (Array.getElem?_eq_some_iff.1 k1).1
  have l2 := (Array.getElem?_eq_some_iff.1 k3).1
  have h0 : ¬ S w.heap.size := fun e => by have := hlow _ e; omega
  have h2 : ¬ S (w.heap.size + 1 + 1) := fun e => by have := hlow _ e; omega
  have hk : ∀ i, i ≠ w.heap.size + 1 + 1 → (w4.setCell ⟨w.heap.size + 1 + 1, 4, none⟩ (.int .i64 b)).drew.heap[i]? = w4.heap[i]? := fun i hi => by
    have : ¬ w.heap.size + 1 + 1 = i := fun e => hi e.symm
    simp [World.drew, World.setCell, Array.getElem?_modify, this]
  have hs : (w4.setCell ⟨w.heap.size + 1 + 1, 4, none⟩ (.int .i64 b)).drew.heap.size = w4.heap.size := by simp [World.drew, World.setCell]
  have h5 : PoolIn S Sa Xp X M O n p (w4.setCell ⟨w.heap.size + 1 + 1, 4, none⟩ (.int .i64 b)).drew := h.kept (fun i hi => hk i (fun e => h2 (e ▸ hi))) (by omega)
  have k1' := (hk w.heap.size (by omega)).trans k1
  have k3' : (w4.setCell ⟨w.heap.size + 1 + 1, 4, none⟩ (.int .i64 b)).drew.heap[w.heap.size + 1 + 1]? = some (.cells #[.int .i64 id, .int .u32 a, .int .i64 pt, .int .i64 1, .int .i64 b] 77) := by
    simp [World.drew, World.setCell, Array.getElem?_modify, k3]
  obtain ⟨⟨c0, c1, c2, c3, c4, c5⟩, _⟩ := cells6 h5.cells
  obtain ⟨⟨y0, _, _⟩, _⟩ := cells3 k1'
  obtain ⟨⟨x0, x1, x2, x3, x4⟩, _⟩ := cells5 k3'
  have hF : AddF Xp M O w.heap.size (w.heap.size + 1 + 1) id a pt b (w4.setCell ⟨w.heap.size + 1 + 1, 4, none⟩ (.int .i64 b)).drew := ⟨c3, c4, y0, x0, x1, x2, x3, x4⟩
  obtain ⟨v0, v1, st, st1, w6, w7, w8, w9, r1, r2, r3, r4, ⟨f6, f7, f8, f9⟩, hP, hO9⟩ := add_maps h5 hn h0 h2 (by omega) (by omega) hid hb hF
  have hO5 : Only S w (w4.setCell ⟨w.heap.size + 1 + 1, 4, none⟩ (.int .i64 b)).drew := ⟨hO.os, hO.tape, hO.output, by rw [hs]; exact hO.size, fun i hi hn => (hk i (by omega)).trans (hO.block i hi hn)⟩
  exact ⟨v0, v1, st, st1, w6, w7, w8, w9, r1, r2, r3, r4, ⟨hF, f6, f7, f8, f9⟩, hP, hO5.trans hO9 (fun i _ e => e)⟩
theorem cell3 {w : World} {b : Nat} {u0 u1 u2 : Value} {t : TypeId} (h : w.heap[b]? = some (.cells #[u0, u1, u2] t (0, 0))) : w.cell? ⟨b, 0, none⟩ = some u0 ∧ w.cell? ⟨b, 1, none⟩ = some u1 ∧ w.cell? ⟨b, 2, none⟩ = some u2 := (cells3 h).1
set_option maxRecDepth 100000 in
set_option maxHeartbeats 2000000 in
theorem add_more {S Sa : Nat → Prop} {Xp X M O n : Nat} {p : Po} {w : World} (h : PoolIn S Sa Xp X M O n p w) (hnm : n + 1 < maxLen) {id a pt : Int} (hw : (Lit.int .i64 id).wf = true) (hid : 1 ≤ id ∧ id ≤ 65535) (hpt : 0 ≤ pt ∧ pt ≤ 65535) (hm : p.all id = none) (h0 : p.act ≠ 0) (h1 : p.act < p.room) (hr : p.room ≤ 65536) (b : Nat) (st : List Nat) (hst : p.anc.stack = b :: st) (hwb : (Lit.int .i64 (b : Int)).wf = true) :
    Calls Try.prog 13 #[.pointer (some ⟨Xp, 0, none⟩), .agg #[.int .i64 id, .int .u32 a, .int .i64 pt]] w fun e w' => e = .returned (.int .i64 0) ∧ PoolIn S Sa Xp X M O (n + 1) { (Po.set { p with anc := back p.anc b } id (b : Int) ⟨id, a, pt, 1, (b : Int)⟩) with act := p.act + 1 } w' ∧ Only S w w' := by
  have hv : p.allV id = none := by unfold Po.allV; rw [hm]; rfl
  have HQ : ∀ W, Below w.heap.size w W → (Instr.lookup 63 (.map (some M)) (.int .i64 id) true).run Try.prog W = .ok (.tuple #[.agg #[.int .i64 0, .int .u32 0, .int .i64 0, .int .i64 0, .int .i64 0], .bool false]) W := fun W hb => by
    have q1 := (h.below hb).all.look_ok Try.underlying63 (zero104 W) hw
    rw [hv] at q1
    exact q1
  have q1 := HQ _ ((Below.refl _ w).alloc (Nat.le_refl _) (.cells #[.int .i64 id, .int .u32 a, .int .i64 pt] 33)).drew
  have q2 := HQ _ (((Below.refl _ w).alloc (Nat.le_refl _) (.cells #[.int .i64 id, .int .u32 a, .int .i64 pt] 33)).alloc (by simp) (.cells #[.int .i64 0, .int .u32 0, .int .i64 0, .int .i64 0, .int .i64 0] 77)).drew
  clear HQ hv
  obtain ⟨⟨c0, c1, c2, c3, c4, c5⟩, z5⟩ := cells6 h.cells
  have e1 : ((p.act : Int) == (p.room : Int)) = false := by simp; omega
  have e2 : ((p.act : Int) == 0) = false := by simp; omega
  have hXl := h.low _ h.mem.1
  obtain ⟨g1, g2⟩ := hid
  obtain ⟨g3, g4⟩ := hpt
  go_enter Try.func13, Try.ntmps13
  go_wp2_with fail
  go_cut [5, 6] from 8 to 17 (fun s5 s6 w' => s5 = .pointer (some ⟨w.heap.size + 1, 0, none⟩) ∧ s6 = .bool false ∧ w' = ((w.alloc (.cells #[.int .i64 id, .int .u32 a, .int .i64 pt] 33)).alloc (.cells #[.int .i64 0, .int .u32 0, .int .i64 0, .int .i64 0, .int .i64 0] 77)).drew)
  case first =>
    go_region
    all_goals
      go_wp2_with fail
      go_meet
      case rel => exact ⟨rfl, rfl, rfl⟩
  obtain ⟨rfl, rfl, rfl⟩ := hcut
  have hb3 : Below w.heap.size w (((w.alloc (.cells #[.int .i64 id, .int .u32 a, .int .i64 pt] 33)).alloc (.cells #[.int .i64 0, .int .u32 0, .int .i64 0, .int .i64 0, .int .i64 0] 77)).alloc (.cells #[.int .i64 id, .int .u32 a, .int .i64 pt, .int .i64 1, .int .i64 0] 77)) := (((Below.refl _ w).alloc (Nat.le_refl _) _).alloc (by simp) _).alloc (by simp; omega) _
  obtain ⟨⟨x0, x1, x2, x3, x4, x5⟩, xz⟩ := cells6 (h.below hb3).cells
  have HA := Lib.hid (fun o1 o2 o3 => add_after h o1 o2 o3 b st hst)
  have HLOW := Lib.hid h.low
  have hnm' : n < maxLen := by omega
  clear h hm hst hb3
  go_wp2_with fail
  go_region
  all_goals
    go_wp2_with (go_at_call 29; refine (HA.out _ _ _).mono ?_; rintro e w4 ⟨rfl, hP, hO, k1, k3⟩; obtain ⟨v0, v1, st, st1, w6, w7, w8, w9, r1, r2, r3, r4, ⟨f5, f6, f7, f8, f9⟩, hP9, hO9⟩ := add_mid HLOW.out hP hO hnm' hw hwb k1 k3; obtain ⟨⟨t0, t1, t2, t3, t4, t5⟩, tz⟩ := cells6 hP.cells; obtain ⟨y0, y1, y2⟩ := cell3 k1; obtain ⟨⟨v0, v1, v2, v3, v4⟩, z0, z1, z2, z3, z4⟩ := cells5 k3; have F5 := Lib.hid f5; have F6 := Lib.hid f6; have F7 := Lib.hid f7; have F8 := Lib.hid f8; have F9 := Lib.hid f9; obtain ⟨⟨s0, s1, s2, s3, s4, s5⟩, sz⟩ := cells6 (u5 := .int .i64 (p.act : Int)) hP9.cells; have HP := Lib.hid (And.intro hP9 hO9); clear hP hO k1 k3 f5 f6 f7 f8 f9 hP9 hO9)
    go_region_held3 (fun W : World => (W.cell? ⟨Xp, 3, none⟩ = some (.map (some M)) ∧ W.cell? ⟨Xp, 4, none⟩ = some (.map (some O)) ∧ W.cell? ⟨w.heap.size, 0, none⟩ = some (.int .i64 id) ∧ W.cell? ⟨w.heap.size + 1 + 1, 0, none⟩ = some (.int .i64 id) ∧ W.cell? ⟨w.heap.size + 1 + 1, 1, none⟩ = some (.int .u32 a) ∧ W.cell? ⟨w.heap.size + 1 + 1, 2, none⟩ = some (.int .i64 pt) ∧ W.cell? ⟨w.heap.size + 1 + 1, 3, none⟩ = some (.int .i64 1) ∧ W.cell? ⟨w.heap.size + 1 + 1, 4, none⟩ = some (.int .i64 (b : Int)))) ((first | exact F5.out | exact F6.out | exact F7.out | exact F8.out | exact F9.out)) (fail)
    all_goals
      go_wp2_with fail
      obtain ⟨g5, g6⟩ := HP.out.1.setAct (p.act + 1)
      go_ret
      exact ⟨rfl, g5, HP.out.2.trans g6 (fun i _ e => e)⟩
end Go.Proofs.Ytlipkffnllmkgaa
