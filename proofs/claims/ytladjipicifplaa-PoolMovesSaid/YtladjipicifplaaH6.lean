import Derived.Test.YtladjipicifplaaH5
namespace Go.Proofs.Ytladjipicifplaa
open Go.RowKit Go.Shelf Go.Maps

def Po.put (p : Po) (id : Int) (m : Mem) : Po := { p with all := fun j => if j = id then some m else p.all j }
theorem after_store {S Sa : Nat → Prop} {Xp X M O n : Nat} {p : Po} {w : World} (h : PoolIn S Sa Xp X M O n p w) (hn : n < maxLen) {id : Int} (hw : (Lit.int .i64 id).wf = true) (m : Mem) :
    ∃ w1, (Instr.mapUpdate 99 (.map (some M)) (.int .i64 id) m.val).run Try.prog w = .ok () w1 ∧ PoolIn S Sa Xp X M O (n + 1) (p.put id m) w1 ∧ (∀ i, i < w.heap.size → i ≠ M → w1.heap[i]? = w.heap[i]?) ∧ Only S w w1 := by
  obtain ⟨w1, hrun, hmap, hg⟩ := h.all.store Try.underlying99 hn hw m.val
  have hk : ∀ i, i < w.heap.size → i ≠ M → w1.heap[i]? = w.heap[i]? := fun i hi hne => hg.block i hi (by simp; exact hne)
  have hXp := h.low _ h.mem.1
  have hO := h.low _ h.mem.2.2.1
  obtain ⟨a1, a2, a3, a4, a5, a6⟩ := h.apart
  refine ⟨w1, hrun, ⟨(hk Xp hXp a4).trans h.cells, ?_, (h.own.block (hk O hO (fun e => a6 e.symm))).mono (Nat.le_succ _), h.anc.kept (fun i hi => hk i (h.low i (h.mem.2.2.2 i hi)) (fun e => a2 (e ▸ hi))) hg.size, h.mem, h.apart, fun i hi => Nat.lt_of_lt_of_le (h.low i hi) hg.size⟩, hk, ⟨hg.os, hg.tape, hg.output, hg.size, fun i hi hn => hk i hi (fun e => hn (e ▸ h.mem.2.1))⟩⟩
  have e : (p.put id m).allV = fun j => if j = id then some m.val else p.allV j := by
    funext j
    unfold Po.put Po.allV
    dsimp only
    split <;> rfl
  rw [e]
  exact hmap

set_option maxRecDepth 100000 in
set_option maxHeartbeats 1000000 in
theorem drain_none {S Sa : Nat → Prop} {Xp X M O n : Nat} {p : Po} {w : World} (h : PoolIn S Sa Xp X M O n p w) {id : Int} (hw : (Lit.int .i64 id).wf = true) (hm : p.all id = none) :
    Calls Try.prog 36 #[.pointer (some ⟨Xp, 0, none⟩), .int .i64 id] w fun e w' => e = .returned (.int .i64 19) ∧ Below w.heap.size w w' := by
  obtain ⟨⟨c0, c1, c2, c3, c4, c5⟩, z5⟩ := cells6 h.cells
  have q1 := h.all.look_ok Try.underlying99 (zero104 w) hw
  have hv : p.allV id = none := by unfold Po.allV; rw [hm]; rfl
  rw [hv] at q1
  unfold noMem at q1
  simp only [Option.getD_none, Option.isSome_none] at q1
  go_enter Try.func36, Try.ntmps36
  go_wp2_with fail
  go_ret
  exact ⟨rfl, (Below.refl _ _).alloc (Nat.le_refl _) _⟩

theorem look_mem {S Sa : Nat → Prop} {Xp X M O n : Nat} {p : Po} {w : World} (h : PoolIn S Sa Xp X M O n p w) {id : Int} (hw : (Lit.int .i64 id).wf = true) {m : Mem} (hm : p.all id = some m) :
    (Instr.lookup 99 (.map (some M)) (.int .i64 id) true).run Try.prog w = .ok (.tuple #[.agg #[.int .i64 m.id, .int .u32 m.addr, .int .i64 m.port, .int .i64 m.state, .int .i64 m.bucket], .bool true]) w := by
  have h1 := h.all.look_ok Try.underlying99 (zero104 w) hw
  rw [h1]
  unfold Po.allV
  rw [hm]
  rfl
set_option maxRecDepth 100000 in
set_option maxHeartbeats 1000000 in
theorem drain_state {S Sa : Nat → Prop} {Xp X M O n : Nat} {p : Po} {w : World} (h : PoolIn S Sa Xp X M O n p w) {id : Int} (hw : (Lit.int .i64 id).wf = true) {m : Mem} (hm : p.all id = some m) (hs : m.state ≠ 1) :
    Calls Try.prog 36 #[.pointer (some ⟨Xp, 0, none⟩), .int .i64 id] w fun e w' => e = .returned (.int .i64 15) ∧ Below w.heap.size w w' := by
  obtain ⟨⟨c0, c1, c2, c3, c4, c5⟩, z5⟩ := cells6 h.cells
  have q1 := look_mem h hw hm
  have e1 : (m.state == 1) = false := by simp [hs]
  have e2 : (m.state != 1) = true := by simp only [bne, e1]; rfl
  go_enter Try.func36, Try.ntmps36
  go_wp2_with fail
  go_ret
  exact ⟨rfl, (Below.refl _ _).alloc (Nat.le_refl _) _⟩

theorem drain_after {S S' Sa' : Nat → Prop} {Xp X M O n : Nat} {p1 : Po} {w w2 : World} {o : Obj} (hlow : ∀ i, S i → i < w.heap.size) (hP : PoolIn S' Sa' Xp X M O n p1 w2) (hO : Only S (w.alloc o) w2) (hS : ∀ i, S' i → S i ∨ (w.alloc o).heap.size ≤ i) (hn : n < maxLen) {id : Int} (hw : (Lit.int .i64 id).wf = true) (m2 : Mem) (u : Value) :
    w2.heap[w.heap.size]? = some o ∧ PoolIn S' Sa' Xp X M O n p1 (w2.setCell ⟨w.heap.size, 3, none⟩ u) ∧ ∃ w4, (Instr.mapUpdate 99 (.map (some M)) (.int .i64 id) m2.val).run Try.prog (w2.setCell ⟨w.heap.size, 3, none⟩ u).drew = .ok () w4 ∧ PoolIn S' Sa' Xp X M O (n + 1) (p1.put id m2) w4 ∧ Only S w w4 ∧ ∀ i, S' i → S i ∨ w.heap.size ≤ i := by
  have hsz : (w.alloc o).heap.size = w.heap.size + 1 := by simp
  have hbox : w2.heap[w.heap.size]? = some o := (hO.block w.heap.size (by omega) (fun e => by have := hlow _ e; omega)).trans (World.alloc_heap_new w o)
  have hne : ∀ i, S' i → i ≠ w.heap.size := fun i hi e => by
    rcases hS i hi with h | h
    · have := hlow i h; omega
    · omega
  have hP3 : PoolIn S' Sa' Xp X M O n p1 (w2.setCell ⟨w.heap.size, 3, none⟩ u) := hP.kept (fun i hi => by
    have : ¬ w.heap.size = i := fun e => hne i hi e.symm
    simp [World.setCell, Array.getElem?_modify, this]) (by simp [World.setCell])
  have hP3d : PoolIn S' Sa' Xp X M O n p1 (w2.setCell ⟨w.heap.size, 3, none⟩ u).drew := hP3.kept (fun _ _ => rfl) (Nat.le_refl _)
  obtain ⟨w4, hrun, hP4, _, hO4d⟩ := after_store hP3d hn hw m2
  have hO4 : Only S' (w2.setCell ⟨w.heap.size, 3, none⟩ u) w4 := ⟨hO4d.os, hO4d.tape, hO4d.output, hO4d.size, hO4d.block⟩
  have hS2 : ∀ i, S' i → S i ∨ w.heap.size ≤ i := fun i hi => (hS i hi).imp (fun h => h) (fun h => by omega)
  have h1 : Only S w (w2.setCell ⟨w.heap.size, 3, none⟩ u) := by
    refine ⟨hO.os, hO.tape, hO.output, by have := hO.size; simp [World.setCell]; omega, fun i hi hn => ?_⟩
    have : ¬ w.heap.size = i := by omega
    have h2 : (w2.setCell ⟨w.heap.size, 3, none⟩ u).heap[i]? = w2.heap[i]? := by simp [World.setCell, Array.getElem?_modify, this]
    exact (h2.trans (hO.block i (by omega) hn)).trans (Below.heap_alloc w o i hi)
  exact ⟨hbox, hP3, w4, hrun, hP4, h1.trans hO4 (fun i hi e => (hS2 i e).resolve_right (by omega)), hS2⟩

set_option maxRecDepth 100000 in
set_option maxHeartbeats 1000000 in
theorem drain_more {S Sa : Nat → Prop} {Xp X M O n : Nat} {p : Po} {w : World} (h : PoolIn S Sa Xp X M O n p w) (hnm : n < maxLen) {id : Int} (hw : (Lit.int .i64 id).wf = true) {m : Mem} (hm : p.all id = some m) (hs : m.state = 1) (b : Nat) (hb : m.bucket = (b : Int)) (hb1 : b < p.anc.room) (hg : p.anc.gone b = 0) (h2 : 2 ≤ p.act) (h3 : p.act ≤ 65536) (hn : p.anc.n = p.act) (hwb : (Lit.int .i64 (b : Int)).wf = true) :
    Calls Try.prog 36 #[.pointer (some ⟨Xp, 0, none⟩), .int .i64 id] w fun e w' => e = .returned (.int .i64 0) ∧ ∃ S' Sa' : Nat → Prop, PoolIn S' Sa' Xp X M O (n + 1) (Po.put { (p.drop b) with anc := rem p.anc b, act := p.act - 1 } id { m with state := 2, bucket := (b : Int) }) w' ∧ Only S w w' ∧ ∀ i, S' i → S i ∨ w.heap.size ≤ i := by
  have q1 := look_mem h hw hm
  obtain ⟨⟨c0, c1, c2, c3, c4, c5⟩, z5⟩ := cells6 h.cells
  have HL := Lib.hid (fun (o : Obj) => leave_more (h.below ((Below.refl _ w).alloc (Nat.le_refl _) o)) m hs b hb hb1 hg h2 h3 hn hwb)
  unfold Mem.val at HL
  rw [hs, hb] at q1 HL
  have HLOW := Lib.hid h.low
  clear hs hb hm
  generalize ({ (p.drop b) with anc := rem p.anc b, act := p.act - 1 } : Po) = p1 at *
  go_enter Try.func36, Try.ntmps36
  go_wp2_with (go_at_call 50; refine (HL.out _).mono ?_; rintro e w2 ⟨rfl, S', Sa', hP, hO, hS⟩; obtain ⟨hbox, hP3, w4, hrun, hP4, hO4, hS4⟩ := drain_after HLOW.out hP hO hS hnm hw { m with state := 2, bucket := (b : Int) } (.int .i64 2); obtain ⟨⟨y0, y1, y2, y3, y4⟩, v0, v1, v2, v3, v4⟩ := cells5 hbox; obtain ⟨⟨u0, u1, u2, u3, u4, u5⟩, _⟩ := cells6 hP3.cells; obtain ⟨⟨t0, t1, t2, t3, t4, t5⟩, _⟩ := cells6 hP.cells; unfold Mem.val at hrun; have HP4 := Lib.hid (And.intro hP4 (And.intro hO4 hS4)); clear hP hO hS hP3 hP4 hO4 hS4 hbox)
  go_region
  go_wp2_with fail
  go_ret
  exact ⟨rfl, S', Sa', HP4.out.1, HP4.out.2.1, HP4.out.2.2⟩

set_option maxRecDepth 100000 in
set_option maxHeartbeats 1000000 in
theorem drain_last {S Sa : Nat → Prop} {Xp X M O n : Nat} {p : Po} {w : World} (h : PoolIn S Sa Xp X M O n p w) (hnm : n < maxLen) {id : Int} (hw : (Lit.int .i64 id).wf = true) {m : Mem} (hm : p.all id = some m) (hs : m.state = 1) (b : Nat) (hb : m.bucket = (b : Int)) (h2 : p.act = 1) (hwb : (Lit.int .i64 (b : Int)).wf = true) :
    Calls Try.prog 36 #[.pointer (some ⟨Xp, 0, none⟩), .int .i64 id] w fun e w' => e = .returned (.int .i64 0) ∧ PoolIn S Sa Xp X M O (n + 1) (Po.put { (p.drop b) with act := 0 } id { m with state := 2, bucket := (b : Int) }) w' ∧ Only S w w' := by
  have q1 := look_mem h hw hm
  obtain ⟨⟨c0, c1, c2, c3, c4, c5⟩, z5⟩ := cells6 h.cells
  have HL := Lib.hid (fun (o : Obj) => leave_last (h.below ((Below.refl _ w).alloc (Nat.le_refl _) o)) m hs b hb h2 hwb)
  unfold Mem.val at HL
  rw [hs, hb] at q1 HL
  have HLOW := Lib.hid h.low
  clear hs hb hm
  generalize ({ (p.drop b) with act := 0 } : Po) = p1 at *
  go_enter Try.func36, Try.ntmps36
  go_wp2_with (go_at_call 50; refine (HL.out _).mono ?_; rintro e w2 ⟨rfl, hP, hO⟩; obtain ⟨hbox, hP3, w4, hrun, hP4, hO4, hS4⟩ := drain_after HLOW.out hP hO (fun _ h => .inl h) hnm hw { m with state := 2, bucket := (b : Int) } (.int .i64 2); obtain ⟨⟨y0, y1, y2, y3, y4⟩, v0, v1, v2, v3, v4⟩ := cells5 hbox; obtain ⟨⟨u0, u1, u2, u3, u4, u5⟩, _⟩ := cells6 hP3.cells; obtain ⟨⟨t0, t1, t2, t3, t4, t5⟩, _⟩ := cells6 hP.cells; unfold Mem.val at hrun; have HP4 := Lib.hid (And.intro hP4 hO4); clear hP hO hP3 hP4 hO4 hS4 hbox)
  go_region
  go_wp2_with fail
  go_ret
  exact ⟨rfl, HP4.out⟩
end Go.Proofs.Ytladjipicifplaa
