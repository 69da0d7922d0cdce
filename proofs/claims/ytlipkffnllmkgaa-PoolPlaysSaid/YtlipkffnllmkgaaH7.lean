import Derived.Test.YtlipkffnllmkgaaH4
namespace Go.Proofs.Ytlipkffnllmkgaa
open Go.RowKit Go.Shelf Go.Maps

def Mem.box (m : Mem) : Obj := .cells #[.int .i64 m.id, .int .u32 m.addr, .int .i64 m.port, .int .i64 m.state, .int .i64 m.bucket] 77
def Po.drop (p : Po) (b : Int) : Po := { p with own := fun j => if j = b then none else p.own j }

set_option maxRecDepth 100000 in
theorem leave_other (Xp : Nat) (m : Mem) (hm : m.state ≠ 1) (w : World) :
    Calls Try.prog 30 #[.pointer (some ⟨Xp, 0, none⟩), m.val] w fun e w' => e = .returned (.tuple #[]) ∧ Below w.heap.size w w' := by
  have e1 : (m.state == 1) = false := by simp [hm]
  have e2 : (m.state != 1) = true := by simp only [bne, e1]; rfl
  unfold Mem.val
  go_enter Try.func30, Try.ntmps30
  go_wp2_with fail
  exact ⟨rfl, .tuple #[], by simp [results, Try.f30, go_sem], rfl, (Below.refl _ _).alloc (Nat.le_refl _) _⟩

theorem after_del {S Sa : Nat → Prop} {Xp X M O n : Nat} {p : Po} {w : World} (h : PoolIn S Sa Xp X M O n p w) (o : Obj) {b : Int} (hw : (Lit.int .i64 b).wf = true) :
    ∃ w1, (Builtin.delete_ #[56, 3] 0 #[.map (some O), .int .i64 b]).run Try.prog (w.alloc o).drew = .ok (.tuple #[]) w1 ∧ PoolIn S Sa Xp X M O n (p.drop b) w1 ∧ w1.heap[w.heap.size]? = some o ∧ Only S w w1 := by
  have h0 : PoolIn S Sa Xp X M O n p (w.alloc o).drew := h.below ((Below.refl _ w).alloc (Nat.le_refl _) o).drew
  obtain ⟨w1, hrun, hmap, hg⟩ := h0.own.drop Try.underlying56 hw 0
  have hk : ∀ i, i < w.heap.size → i ≠ O → w1.heap[i]? = w.heap[i]? := fun i hi hne => by
    have h1 := hg.block i (by simp [World.drew]; omega) (by simp; exact hne)
    exact h1.trans (Below.heap_alloc w o i hi)
  have hs : w.heap.size ≤ w1.heap.size := by
    have h1 := hg.size
    have h2 : (w.alloc o).drew.heap.size = w.heap.size + 1 := by simp [World.drew]
    omega
  have hXp := h.low _ h.mem.1
  have hM := h.low _ h.mem.2.1
  have hO := h.low _ h.mem.2.2.1
  refine ⟨w1, hrun, ⟨(hk Xp hXp h.apart.2.2.2.2.1).trans h.cells, h.all.block (hk M hM h.apart.2.2.2.2.2), ?_, h.anc.kept (fun i hi => hk i (h.low i (h.mem.2.2.2 i hi)) (fun e => h.apart.2.2.1 (e ▸ hi))) hs, h.mem, h.apart, fun i hi => Nat.lt_of_lt_of_le (h.low i hi) hs⟩, ?_, ⟨hg.os, hg.tape, hg.output, hs, fun i hi hn => hk i hi (fun e => hn (e ▸ h.mem.2.2.1))⟩⟩
  · have e : (p.drop b).ownV = fun j => if j = b then none else p.ownV j := by
      funext j
      unfold Po.drop Po.ownV
      dsimp only
      split <;> rfl
    rw [e]
    exact hmap
  · have h1 := hg.block w.heap.size (by simp [World.drew]) (by simp; omega)
    exact h1.trans (World.alloc_heap_new w o)

theorem PoolIn.turned {S Sa : Nat → Prop} {Xp X M O n : Nat} {p : Po} {w w' : World} (h : PoolIn S Sa Xp X M O n p w) {a' : Anc} (hA : AncS (Wid Sa w.heap.size w'.heap.size) X p.room a' w') (hO : Only Sa w w') :
    PoolIn (Wid S w.heap.size w'.heap.size) (Wid Sa w.heap.size w'.heap.size) Xp X M O n { p with anc := a' } w' := by
  obtain ⟨m1, m2, m3, m4⟩ := h.mem
  obtain ⟨a1, a2, a3, a4, a5, a6⟩ := h.apart
  have l1 := h.low _ m1
  have l2 := h.low _ m2
  have l3 := h.low _ m3
  have no : ∀ i, ¬ Sa i → i < w.heap.size → ¬ Wid Sa w.heap.size w'.heap.size i := fun i hi hl e => by
    rcases e with e | e
    · exact hi e
    · omega
  refine ⟨(hO.block Xp l1 a1).trans h.cells, h.all.block (hO.block M l2 a2), h.own.block (hO.block O l3 a3), hA, ⟨.inl m1, .inl m2, .inl m3, fun i hi => hi.imp (m4 i) id⟩, ⟨no _ a1 l1, no _ a2 l2, no _ a3 l3, a4, a5, a6⟩, fun i hi => ?_⟩
  rcases hi with e | e
  · exact Nat.lt_of_lt_of_le (h.low i e) hO.size
  · exact e.2
theorem PoolIn.setAct {S Sa : Nat → Prop} {Xp X M O n : Nat} {p : Po} {w : World} (h : PoolIn S Sa Xp X M O n p w) (k : Nat) : PoolIn S Sa Xp X M O n { p with act := k } (w.setCell ⟨Xp, 5, none⟩ (.int .i64 (k : Int))) ∧ Only S w (w.setCell ⟨Xp, 5, none⟩ (.int .i64 (k : Int))) := by
  obtain ⟨m1, m2, m3, m4⟩ := h.mem
  obtain ⟨a1, a2, a3, a4, a5, a6⟩ := h.apart
  have hk : ∀ i, i ≠ Xp → (w.setCell ⟨Xp, 5, none⟩ (.int .i64 (k : Int))).heap[i]? = w.heap[i]? := fun i hi => by
    have : ¬ Xp = i := fun e => hi e.symm
    simp [World.setCell, Array.getElem?_modify, this]
  have hs : w.heap.size ≤ (w.setCell ⟨Xp, 5, none⟩ (.int .i64 (k : Int))).heap.size := by simp [World.setCell]
  refine ⟨⟨?_, h.all.block (hk M (fun e => a4 e.symm)), h.own.block (hk O (fun e => a5 e.symm)), h.anc.kept (fun i hi => hk i (fun e => a1 (e ▸ hi))) hs, h.mem, h.apart, fun i hi => Nat.lt_of_lt_of_le (h.low i hi) hs⟩, ⟨rfl, rfl, rfl, hs, fun i _ hn => hk i (fun e => hn (e ▸ m1))⟩⟩
  have hc := h.cells
  unfold poolCells at hc ⊢
  simp [World.setCell, Array.getElem?_modify, hc]

theorem pool_rem {S Sa : Nat → Prop} {Xp X M O n : Nat} {p : Po} {w : World} (h : PoolIn S Sa Xp X M O n p w) (b : Nat) (hb : b < p.anc.room) (hg : p.anc.gone b = 0) (hn : 2 ≤ p.anc.n) :
    Calls Try.prog 45 #[.pointer (some ⟨X, 0, none⟩), .int .i64 (b : Int)] w.drew fun e w' => e = .returned (.int .i64 0) ∧ PoolIn (Wid S w.heap.size w'.heap.size) (Wid Sa w.heap.size w'.heap.size) Xp X M O n { p with anc := rem p.anc b } w' ∧ Only Sa w w' := by
  have hA : AncS Sa X p.room p.anc w.drew := h.anc.kept (fun _ _ => rfl) (Nat.le_refl _)
  refine (ancS_remove hA b hb hg hn).mono ?_
  rintro e w' ⟨he, hA', hR⟩
  have hR' : Only Sa w w' := ⟨hR.os, hR.tape, hR.output, hR.size, hR.block⟩
  exact ⟨he, h.turned hA' hR', hR'⟩

theorem pool_end {S Sa : Nat → Prop} {Xp X M O n : Nat} {p : Po} {w w1 wr : World} {a' : Anc} (h0 : PoolIn S Sa Xp X M O n p w1) (hT : PoolIn (Wid S w1.heap.size wr.heap.size) (Wid Sa w1.heap.size wr.heap.size) Xp X M O n { p with anc := a' } wr) (hO : Only S w w1) (hR : Only Sa w1 wr) (q : Nat) :
    ∃ S' Sa' : Nat → Prop, PoolIn S' Sa' Xp X M O n { p with anc := a', act := q } (wr.setCell ⟨Xp, 5, none⟩ (.int .i64 (q : Int))) ∧ Only S w (wr.setCell ⟨Xp, 5, none⟩ (.int .i64 (q : Int))) ∧ ∀ i, S' i → S i ∨ w.heap.size ≤ i := by
  obtain ⟨h1, h2⟩ := hT.setAct q
  have hs := hO.size
  have h3 : Only S w wr := hO.trans (hR.mono h0.mem.2.2.2) (fun i _ e => e)
  refine ⟨_, _, h1, h3.trans h2 (fun i hi e => ?_), fun i e => ?_⟩
  · rcases e with e | e
    · exact e
    · omega
  · rcases e with e | e
    · exact .inl e
    · exact .inr (by omega)

set_option maxRecDepth 100000 in
set_option maxHeartbeats 1000000 in
theorem leave_more {S Sa : Nat → Prop} {Xp X M O n : Nat} {p : Po} {w : World} (h : PoolIn S Sa Xp X M O n p w) (m : Mem) (hs : m.state = 1) (b : Nat) (hb : m.bucket = (b : Int)) (hb1 : b < p.anc.room) (hg : p.anc.gone b = 0) (h2 : 2 ≤ p.act) (h3 : p.act ≤ 65536) (hn : p.anc.n = p.act) (hw : (Lit.int .i64 (b : Int)).wf = true) :
    Calls Try.prog 30 #[.pointer (some ⟨Xp, 0, none⟩), m.val] w fun e w' => e = .returned (.tuple #[]) ∧ ∃ S' Sa' : Nat → Prop, PoolIn S' Sa' Xp X M O n { (p.drop b) with anc := rem p.anc b, act := p.act - 1 } w' ∧ Only S w w' ∧ ∀ i, S' i → S i ∨ w.heap.size ≤ i := by
  obtain ⟨⟨c0, c1, c2, c3, c4, c5⟩, z5⟩ := cells6 h.cells
  have e2 : (1 : Int) < (p.act : Int) := by omega
  have hXl := h.low _ h.mem.1
  obtain ⟨w1, hrun, hP, hbox, hO⟩ := after_del h (.cells #[.int .i64 m.id, .int .u32 m.addr, .int .i64 m.port, .int .i64 1, .int .i64 (b : Int)] 77) hw
  obtain ⟨⟨x0, x1, x2, x3, x4, x5⟩, zx⟩ := cells6 (u0 := .string p.key) (u1 := .int .i64 (p.room : Int)) (u5 := .int .i64 (p.act : Int)) hP.cells
  obtain ⟨⟨y0, y1, y2, y3, y4⟩, _⟩ := cells5 hbox
  have HP := Lib.hid hP
  have HO := Lib.hid hO
  have HX := Lib.hid hbox
  have HH := Lib.hid h
  unfold Mem.val
  rw [hb, hs]
  obtain ⟨q, hq⟩ : ∃ q, p.act - 1 = q := ⟨_, rfl⟩
  rw [hq]
  have e3 : (p.act : Int) - 1 = (q : Int) := by omega
  have e4 : (q : Int) ≤ 65536 := by omega
  clear hq
  clear h hP hO hbox hb hs
  go_enter Try.func30, Try.ntmps30
  go_wp2_with fail
  have hn2 : 2 ≤ p.anc.n := by omega
  go_region
  go_wp2_with fail
  go_region_with (go_at_call 45; refine (pool_rem HP.out b hb1 hg hn2).mono ?_; rintro e wr ⟨rfl, hT, hR⟩; obtain ⟨⟨u0, u1, u2, u3, u4, u5⟩, zu⟩ := cells6 (u0 := .string p.key) (u1 := .int .i64 (p.room : Int)) (u5 := .int .i64 (p.act : Int)) hT.cells; have HT := Lib.hid (And.intro hT hR); clear hT hR)
  all_goals
    go_wp2_with fail
    obtain ⟨S', Sa', g1, g2, g3⟩ := pool_end HP.out HT.out.1 HO.out HT.out.2 q
    first | exact ⟨rfl, S', Sa', g1, g2, g3⟩ | exact ⟨rfl, rfl, S', Sa', g1, g2, g3⟩ | exact ⟨rfl, .tuple #[], by simp [results, Try.f30, go_sem], rfl, S', Sa', g1, g2, g3⟩ | trace_state

set_option maxRecDepth 100000 in
set_option maxHeartbeats 1000000 in
theorem leave_last {S Sa : Nat → Prop} {Xp X M O n : Nat} {p : Po} {w : World} (h : PoolIn S Sa Xp X M O n p w) (m : Mem) (hs : m.state = 1) (b : Nat) (hb : m.bucket = (b : Int)) (h2 : p.act = 1) (hw : (Lit.int .i64 (b : Int)).wf = true) :
    Calls Try.prog 30 #[.pointer (some ⟨Xp, 0, none⟩), m.val] w fun e w' => e = .returned (.tuple #[]) ∧ PoolIn S Sa Xp X M O n { (p.drop b) with act := 0 } w' ∧ Only S w w' := by
  have hXl := h.low _ h.mem.1
  obtain ⟨w1, hrun, hP, hbox, hO⟩ := after_del h (.cells #[.int .i64 m.id, .int .u32 m.addr, .int .i64 m.port, .int .i64 1, .int .i64 (b : Int)] 77) hw
  obtain ⟨⟨c0, c1, c2, c3, c4, c5⟩, z5⟩ := cells6 h.cells
  obtain ⟨⟨x0, x1, x2, x3, x4, x5⟩, zx⟩ := cells6 (u0 := .string p.key) (u1 := .int .i64 (p.room : Int)) (u5 := .int .i64 (p.act : Int)) hP.cells
  rw [h2] at x5 c5
  obtain ⟨⟨y0, y1, y2, y3, y4⟩, _⟩ := cells5 hbox
  obtain ⟨g1, g2⟩ := hP.setAct 0
  have HG := Lib.hid (And.intro g1 (hO.trans g2 (fun i _ e => e)))
  unfold Mem.val
  rw [hb, hs]
  clear h hP hO hbox hb hs h2 g1 g2
  go_enter Try.func30, Try.ntmps30
  go_wp2_with fail
  go_region
  go_wp2_with fail
  first | exact ⟨rfl, HG.out⟩ | exact ⟨rfl, rfl, HG.out⟩ | exact ⟨rfl, .tuple #[], by simp [results, Try.f30, go_sem], rfl, HG.out⟩ | trace_state
end Go.Proofs.Ytlipkffnllmkgaa

namespace Go.Proofs.Ytlipkffnllmkgaa
open Go.RowKit Go.Shelf Go.Maps

def Po.put (p : Po) (id : Int) (m : Mem) : Po := { p with all := fun j => if j = id then some m else p.all j }
theorem after_store {S Sa : Nat → Prop} {Xp X M O n : Nat} {p : Po} {w : World} (h : PoolIn S Sa Xp X M O n p w) (hn : n < maxLen) {id : Int} (hw : (Lit.int .i64 id).wf = true) (m : Mem) :
    ∃ w1, (Instr.mapUpdate 63 (.map (some M)) (.int .i64 id) m.val).run Try.prog w = .ok () w1 ∧ PoolIn S Sa Xp X M O (n + 1) (p.put id m) w1 ∧ (∀ i, i < w.heap.size → i ≠ M → w1.heap[i]? = w.heap[i]?) ∧ Only S w w1 := by
  obtain ⟨w1, hrun, hmap, hg⟩ := h.all.store Try.underlying63 hn hw m.val
  have hk : ∀ i, i < w.heap.size → i ≠ M → w1.heap[i]? = w.heap[i]? := fun i hi hne => hg.block i hi (by simp; exact hne)
  have hXp := h.low _ h.mem.1
  have hO := h.low _ h.mem.2.2.1
  obtain ⟨a1, a2, a3, a4, a5, a6⟩ := h.apart
  refine ⟨w1, hrun, ⟨(hk Xp hXp a4).trans h.cells, ?_, (h.own.block (hk O hO (fun e => a6 e.symm))).mono (Nat.le_succ _), h.anc.kept (fun i hi => hk i (h.low i (h.mem.2.2.2 i hi)) (fun e => a2 (e ▸ hi))) hg.size, h.mem, h.apart, fun i hi => Nat.lt_of_lt_of_le (h.low i hi) hg.size⟩, hk, ⟨hg.os, hg.tape, hg.output, hg.size, fun i hi hn => hk i hi (fun e => hn (e ▸ h.mem.2.1))⟩⟩
  have e : (p.put id m).allV = fun j => if j = id then some m.val else p.allV j := by
    funext j
    unfold Po.put Po.allV
    dsimp only
    split <;> rfl
  rw [e]
  exact hmap

set_option maxRecDepth 100000 in
set_option maxHeartbeats 1000000 in
theorem drain_none {S Sa : Nat → Prop} {Xp X M O n : Nat} {p : Po} {w : World} (h : PoolIn S Sa Xp X M O n p w) {id : Int} (hw : (Lit.int .i64 id).wf = true) (hm : p.all id = none) :
    Calls Try.prog 14 #[.pointer (some ⟨Xp, 0, none⟩), .int .i64 id] w fun e w' => e = .returned (.int .i64 19) ∧ Below w.heap.size w w' := by
  obtain ⟨⟨c0, c1, c2, c3, c4, c5⟩, z5⟩ := cells6 h.cells
  have q1 := h.all.look_ok Try.underlying63 (zero104 w) hw
  have hv : p.allV id = none := by unfold Po.allV; rw [hm]; rfl
  rw [hv] at q1
  unfold noMem at q1
  simp only [Option.getD_none, Option.isSome_none] at q1
  go_enter Try.func14, Try.ntmps14
  go_wp2_with fail
  go_ret
  exact ⟨rfl, (Below.refl _ _).alloc (Nat.le_refl _) _⟩

theorem look_mem {S Sa : Nat → Prop} {Xp X M O n : Nat} {p : Po} {w : World} (h : PoolIn S Sa Xp X M O n p w) {id : Int} (hw : (Lit.int .i64 id).wf = true) {m : Mem} (hm : p.all id = some m) :
    (Instr.lookup 63 (.map (some M)) (.int .i64 id) true).run Try.prog w = .ok (.tuple #[.agg #[.int .i64 m.id, .int .u32 m.addr, .int .i64 m.port, .int .i64 m.state, .int .i64 m.bucket], .bool true]) w := by
  have h1 := h.all.look_ok Try.underlying63 (zero104 w) hw
  rw [h1]
  unfold Po.allV
  rw [hm]
  rfl
set_option maxRecDepth 100000 in
set_option maxHeartbeats 1000000 in
theorem drain_state {S Sa : Nat → Prop} {Xp X M O n : Nat} {p : Po} {w : World} (h : PoolIn S Sa Xp X M O n p w) {id : Int} (hw : (Lit.int .i64 id).wf = true) {m : Mem} (hm : p.all id = some m) (hs : m.state ≠ 1) :
    Calls Try.prog 14 #[.pointer (some ⟨Xp, 0, none⟩), .int .i64 id] w fun e w' => e = .returned (.int .i64 15) ∧ Below w.heap.size w w' := by
  obtain ⟨⟨c0, c1, c2, c3, c4, c5⟩, z5⟩ := cells6 h.cells
  have q1 := look_mem h hw hm
  have e1 : (m.state == 1) = false := by simp [hs]
  have e2 : (m.state != 1) = true := by simp only [bne, e1]; rfl
  go_enter Try.func14, Try.ntmps14
  go_wp2_with fail
  go_ret
  exact ⟨rfl, (Below.refl _ _).alloc (Nat.le_refl _) _⟩

theorem drain_after {S S' Sa' : Nat → Prop} {Xp X M O n : Nat} {p1 : Po} {w w2 : World} {o : Obj} (hlow : ∀ i, S i → i < w.heap.size) (hP : PoolIn S' Sa' Xp X M O n p1 w2) (hO : Only S (w.alloc o) w2) (hS : ∀ i, S' i → S i ∨ (w.alloc o).heap.size ≤ i) (hn : n < maxLen) {id : Int} (hw : (Lit.int .i64 id).wf = true) (m2 : Mem) (u : Value) :
    w2.heap[w.heap.size]? = some o ∧ PoolIn S' Sa' Xp X M O n p1 (w2.setCell ⟨w.heap.size, 3, none⟩ u) ∧ ∃ w4, (Instr.mapUpdate 63 (.map (some M)) (.int .i64 id) m2.val).run Try.prog (w2.setCell ⟨w.heap.size, 3, none⟩ u).drew = .ok () w4 ∧ PoolIn S' Sa' Xp X M O (n + 1) (p1.put id m2) w4 ∧ Only S w w4 ∧ ∀ i, S' i → S i ∨ w.heap.size ≤ i := by
  have hsz : (w.alloc o).heap.size = w.heap.size + 1 := by simp
  have hbox : w2.heap[w.heap.size]? = some o := (hO.block w.heap.size (by omega) (fun e => by have := hlow _ e; omega)).trans (World.alloc_heap_new w o)
  have hne : ∀ i, S' i → i ≠ w.heap.size := fun i hi e => by
    rcases hS i hi with h | h
    · have := hlow i h; omega
    · omega
  have hP3 : PoolIn S' Sa' Xp X M O n p1 (w2.setCell ⟨w.heap.size, 3, none⟩ u) := hP.kept (fun i hi => by
    have : ¬ w.heap.size = i := fun e => hne i hi e.symm
    simp [World.setCell, Array.getElem?_modify, this]) (by simp [World.setCell])
  have hP3d : PoolIn S' Sa' Xp X M O n p1 (w2.setCell ⟨w.heap.size, 3, none⟩ u).drew := hP3.kept (fun _ _ => rfl) (Nat.le_refl _)
  obtain ⟨w4, hrun, hP4, _, hO4d⟩ := after_store hP3d hn hw m2
  have hO4 : Only S' (w2.setCell ⟨w.heap.size, 3, none⟩ u) w4 := ⟨hO4d.os, hO4d.tape, hO4d.output, hO4d.size, hO4d.block⟩
  have hS2 : ∀ i, S' i → S i ∨ w.heap.size ≤ i := fun i hi => (hS i hi).imp (fun h => h) (fun h => by omega)
  have h1 : Only S w (w2.setCell ⟨w.heap.size, 3, none⟩ u) := by
    refine ⟨hO.os, hO.tape, hO.output, by have := hO.size; simp [World.setCell]; omega, fun i hi hn => ?_⟩
    have : ¬ w.heap.size = i := by omega
    have h2 : (w2.setCell ⟨w.heap.size, 3, none⟩ u).heap[i]? = w2.heap[i]? := by simp [World.setCell, Array.getElem?_modify, this]
    exact (h2.trans (hO.block i (by omega) hn)).trans (Below.heap_alloc w o i hi)
  exact ⟨hbox, hP3, w4, hrun, hP4, h1.trans hO4 (fun i hi e => (hS2 i e).resolve_right (by omega)), hS2⟩

set_option maxRecDepth 100000 in
set_option maxHeartbeats 1000000 in
theorem drain_more {S Sa : Nat → Prop} {Xp X M O n : Nat} {p : Po} {w : World} (h : PoolIn S Sa Xp X M O n p w) (hnm : n < maxLen) {id : Int} (hw : (Lit.int .i64 id).wf = true) {m : Mem} (hm : p.all id = some m) (hs : m.state = 1) (b : Nat) (hb : m.bucket = (b : Int)) (hb1 : b < p.anc.room) (hg : p.anc.gone b = 0) (h2 : 2 ≤ p.act) (h3 : p.act ≤ 65536) (hn : p.anc.n = p.act) (hwb : (Lit.int .i64 (b : Int)).wf = true) :
    Calls Try.prog 14 #[.pointer (some ⟨Xp, 0, none⟩), .int .i64 id] w fun e w' => e = .returned (.int .i64 0) ∧ ∃ S' Sa' : Nat → Prop, PoolIn S' Sa' Xp X M O (n + 1) (Po.put { (p.drop b) with anc := rem p.anc b, act := p.act - 1 } id { m with state := 2, bucket := (b : Int) }) w' ∧ Only S w w' ∧ ∀ i, S' i → S i ∨ w.heap.size ≤ i := by
  have q1 := look_mem h hw hm
  obtain ⟨⟨c0, c1, c2, c3, c4, c5⟩, z5⟩ := cells6 h.cells
  have HL := Lib.hid (fun (o : Obj) => leave_more (h.below ((Below.refl _ w).alloc (Nat.le_refl _) o)) m hs b hb hb1 hg h2 h3 hn hwb)
  unfold Mem.val at HL
  rw [hs, hb] at q1 HL
  have HLOW := Lib.hid h.low
  clear hs hb hm
  generalize ({ (p.drop b) with anc := rem p.anc b, act := p.act - 1 } : Po) = p1 at *
  go_enter Try.func14, Try.ntmps14
  go_wp2_with (go_at_call 30; refine (HL.out _).mono ?_; rintro e w2 ⟨rfl, S', Sa', hP, hO, hS⟩; obtain ⟨hbox, hP3, w4, hrun, hP4, hO4, hS4⟩ := drain_after HLOW.out hP hO hS hnm hw { m with state := 2, bucket := (b : Int) } (.int .i64 2); obtain ⟨⟨y0, y1, y2, y3, y4⟩, v0, v1, v2, v3, v4⟩ := cells5 hbox; obtain ⟨⟨u0, u1, u2, u3, u4, u5⟩, _⟩ := cells6 hP3.cells; obtain ⟨⟨t0, t1, t2, t3, t4, t5⟩, _⟩ := cells6 hP.cells; unfold Mem.val at hrun; have HP4 := Lib.hid (And.intro hP4 (And.intro hO4 hS4)); clear hP hO hS hP3 hP4 hO4 hS4 hbox)
  go_region
  go_wp2_with fail
  go_ret
  exact ⟨rfl, S', Sa', HP4.out.1, HP4.out.2.1, HP4.out.2.2⟩

set_option maxRecDepth 100000 in
set_option maxHeartbeats 1000000 in
theorem drain_last {S Sa : Nat → Prop} {Xp X M O n : Nat} {p : Po} {w : World} (h : PoolIn S Sa Xp X M O n p w) (hnm : n < maxLen) {id : Int} (hw : (Lit.int .i64 id).wf = true) {m : Mem} (hm : p.all id = some m) (hs : m.state = 1) (b : Nat) (hb : m.bucket = (b : Int)) (h2 : p.act = 1) (hwb : (Lit.int .i64 (b : Int)).wf = true) :
    Calls Try.prog 14 #[.pointer (some ⟨Xp, 0, none⟩), .int .i64 id] w fun e w' => e = .returned (.int .i64 0) ∧ PoolIn S Sa Xp X M O (n + 1) (Po.put { (p.drop b) with act := 0 } id { m with state := 2, bucket := (b : Int) }) w' ∧ Only S w w' := by
  have q1 := look_mem h hw hm
  obtain ⟨⟨c0, c1, c2, c3, c4, c5⟩, z5⟩ := cells6 h.cells
  have HL := Lib.hid (fun (o : Obj) => leave_last (h.below ((Below.refl _ w).alloc (Nat.le_refl _) o)) m hs b hb h2 hwb)
  unfold Mem.val at HL
  rw [hs, hb] at q1 HL
  have HLOW := Lib.hid h.low
  clear hs hb hm
  generalize ({ (p.drop b) with act := 0 } : Po) = p1 at *
  go_enter Try.func14, Try.ntmps14
  go_wp2_with (go_at_call 30; refine (HL.out _).mono ?_; rintro e w2 ⟨rfl, hP, hO⟩; obtain ⟨hbox, hP3, w4, hrun, hP4, hO4, hS4⟩ := drain_after HLOW.out hP hO (fun _ h => .inl h) hnm hw { m with state := 2, bucket := (b : Int) } (.int .i64 2); obtain ⟨⟨y0, y1, y2, y3, y4⟩, v0, v1, v2, v3, v4⟩ := cells5 hbox; obtain ⟨⟨u0, u1, u2, u3, u4, u5⟩, _⟩ := cells6 hP3.cells; obtain ⟨⟨t0, t1, t2, t3, t4, t5⟩, _⟩ := cells6 hP.cells; unfold Mem.val at hrun; have HP4 := Lib.hid (And.intro hP4 hO4); clear hP hO hP3 hP4 hO4 hS4 hbox)
  go_region
  go_wp2_with fail
  go_ret
  exact ⟨rfl, HP4.out⟩
end Go.Proofs.Ytlipkffnllmkgaa

namespace Go.Proofs.Ytlipkffnllmkgaa
open Go.RowKit Go.Shelf Go.Maps

def Po.gone (p : Po) (id : Int) : Po := { p with all := fun j => if j = id then none else p.all j }
theorem after_gone {S Sa : Nat → Prop} {Xp X M O n : Nat} {p : Po} {w : World} (h : PoolIn S Sa Xp X M O n p w) {id : Int} (hw : (Lit.int .i64 id).wf = true) :
    ∃ w1, (Builtin.delete_ #[63, 3] 0 #[.map (some M), .int .i64 id]).run Try.prog w = .ok (.tuple #[]) w1 ∧ PoolIn S Sa Xp X M O n (p.gone id) w1 ∧ Only S w w1 := by
  obtain ⟨w1, hrun, hmap, hg⟩ := h.all.drop Try.underlying63 hw 0
  have hk : ∀ i, i < w.heap.size → i ≠ M → w1.heap[i]? = w.heap[i]? := fun i hi hne => hg.block i hi (by simp; exact hne)
  have hXp := h.low _ h.mem.1
  have hO := h.low _ h.mem.2.2.1
  obtain ⟨a1, a2, a3, a4, a5, a6⟩ := h.apart
  refine ⟨w1, hrun, ⟨(hk Xp hXp a4).trans h.cells, ?_, h.own.block (hk O hO (fun e => a6 e.symm)), h.anc.kept (fun i hi => hk i (h.low i (h.mem.2.2.2 i hi)) (fun e => a2 (e ▸ hi))) hg.size, h.mem, h.apart, fun i hi => Nat.lt_of_lt_of_le (h.low i hi) hg.size⟩, ⟨hg.os, hg.tape, hg.output, hg.size, fun i hi hn => hk i hi (fun e => hn (e ▸ h.mem.2.1))⟩⟩
  have e : (p.gone id).allV = fun j => if j = id then none else p.allV j := by
    funext j
    unfold Po.gone Po.allV
    dsimp only
    split <;> rfl
  rw [e]
  exact hmap

theorem boxO {w wx : World} {o : Obj} (hB : Below (w.alloc o).heap.size (w.alloc o) wx) : Below w.heap.size w wx := ((Below.refl _ w).alloc (Nat.le_refl _) _).trans (hB.mono (by simp))
set_option maxRecDepth 100000 in
set_option maxHeartbeats 1000000 in
theorem remove_nobody {S Sa : Nat → Prop} {Xp X M O n : Nat} {p : Po} {w : World} (h : PoolIn S Sa Xp X M O n p w) {id : Int} (hw : (Lit.int .i64 id).wf = true) (hm : p.all id = none) :
    Calls Try.prog 16 #[.pointer (some ⟨Xp, 0, none⟩), .int .i64 id] w fun e w' => e = .returned (.int .i64 19) ∧ Below w.heap.size w w' := by
  obtain ⟨⟨c0, c1, c2, c3, c4, c5⟩, z5⟩ := cells6 h.cells
  have q1 := h.all.look_ok Try.underlying63 (zero104 w) hw
  have hv : p.allV id = none := by unfold Po.allV; rw [hm]; rfl
  rw [hv] at q1
  unfold noMem at q1
  simp only [Option.getD_none, Option.isSome_none] at q1
  go_enter Try.func16, Try.ntmps16
  go_wp2_with fail
  go_ret
  first | exact ⟨rfl, (Below.refl _ _).alloc (Nat.le_refl _) _⟩ | exact ⟨rfl, Below.refl _ _⟩

set_option maxRecDepth 100000 in
set_option maxHeartbeats 1000000 in
theorem remove_drained {S Sa : Nat → Prop} {Xp X M O n : Nat} {p : Po} {w : World} (h : PoolIn S Sa Xp X M O n p w) {id : Int} (hw : (Lit.int .i64 id).wf = true) {m : Mem} (hm : p.all id = some m) (hs : m.state ≠ 1) :
    Calls Try.prog 16 #[.pointer (some ⟨Xp, 0, none⟩), .int .i64 id] w fun e w' => e = .returned (.int .i64 0) ∧ PoolIn S Sa Xp X M O n (p.gone id) w' ∧ Only S w w' := by
  obtain ⟨⟨c0, c1, c2, c3, c4, c5⟩, z5⟩ := cells6 h.cells
  have q1 := look_mem h hw hm
  have HL := Lib.hid (leave_other Xp m hs)
  unfold Mem.val at HL
  have HH := Lib.hid h
  clear hm hs
  go_enter Try.func16, Try.ntmps16
  go_wp2_with (go_at_call 30; refine (HL.out _).mono ?_; rintro e w2 ⟨rfl, hb⟩; replace hb := boxO hb; have hP := HH.out.below hb; obtain ⟨⟨t0, t1, t2, t3, t4, t5⟩, _⟩ := cells6 hP.cells; obtain ⟨w4, hrun, hP4, hO4⟩ := after_gone (HH.out.below hb) hw; have HP4 := Lib.hid (And.intro hP4 ((Only.of_below hb).trans hO4 (fun i _ e => e))); clear hP hP4 hO4 hb)
  go_ret
  exact ⟨rfl, HP4.out⟩
end Go.Proofs.Ytlipkffnllmkgaa
