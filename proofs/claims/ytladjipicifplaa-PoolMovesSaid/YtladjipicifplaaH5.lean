import Derived.Test.YtladjipicifplaaH4
namespace Go.Proofs.Ytladjipicifplaa
open Go.RowKit Go.Shelf Go.Maps

def Mem.box (m : Mem) : Obj := .cells #[.int .i64 m.id, .int .u32 m.addr, .int .i64 m.port, .int .i64 m.state, .int .i64 m.bucket] 104
def Po.drop (p : Po) (b : Int) : Po := { p with own := fun j => if j = b then none else p.own j }

set_option maxRecDepth 100000 in
theorem leave_other (Xp : Nat) (m : Mem) (hm : m.state ≠ 1) (w : World) :
    Calls Try.prog 50 #[.pointer (some ⟨Xp, 0, none⟩), m.val] w fun e w' => e = .returned (.tuple #[]) ∧ Below w.heap.size w w' := by
  have e1 : (m.state == 1) = false := by simp [hm]
  have e2 : (m.state != 1) = true := by simp only [bne, e1]; rfl
  unfold Mem.val
  go_enter Try.func50, Try.ntmps50
  go_wp2_with fail
  exact ⟨rfl, .tuple #[], by simp [results, Try.f50, go_sem], rfl, (Below.refl _ _).alloc (Nat.le_refl _) _⟩

theorem after_del {S Sa : Nat → Prop} {Xp X M O n : Nat} {p : Po} {w : World} (h : PoolIn S Sa Xp X M O n p w) (o : Obj) {b : Int} (hw : (Lit.int .i64 b).wf = true) :
    ∃ w1, (Builtin.delete_ #[100, 3] 0 #[.map (some O), .int .i64 b]).run Try.prog (w.alloc o).drew = .ok (.tuple #[]) w1 ∧ PoolIn S Sa Xp X M O n (p.drop b) w1 ∧ w1.heap[w.heap.size]? = some o ∧ Only S w w1 := by
  have h0 : PoolIn S Sa Xp X M O n p (w.alloc o).drew := h.below ((Below.refl _ w).alloc (Nat.le_refl _) o).drew
  obtain ⟨w1, hrun, hmap, hg⟩ := h0.own.drop Try.underlying100 hw 0
  have hk : ∀ i, i < w.heap.size → i ≠ O → w1.heap[i]? = w.heap[i]? := fun i hi hne => by
    have h1 := hg.block i (by simp [World.drew]; omega) (by simp; exact hne)
    exact h1.trans (Below.heap_alloc w o i hi)
  have hs : w.heap.size ≤ w1.heap.size := by
    have h1 := hg.size
    have h2 : (w.alloc o).drew.heap.size = w.heap.size + 1 := by simp [World.drew]
    omega
  have hXp := h.low _ h.mem.1
  have hM := h.low _ h.mem.2.1
  have hO := h.low _ h.mem.2.2.1
  refine ⟨w1, hrun, ⟨(hk Xp hXp h.apart.2.2.2.2.1).trans h.cells, h.all.block (hk M hM h.apart.2.2.2.2.2), ?_, h.anc.kept (fun i hi => hk i (h.low i (h.mem.2.2.2 i hi)) (fun e => h.apart.2.2.1 (e ▸ hi))) hs, h.mem, h.apart, fun i hi => Nat.lt_of_lt_of_le (h.low i hi) hs⟩, ?_, ⟨hg.os, hg.tape, hg.output, hs, fun i hi hn => hk i hi (fun e => hn (e ▸ h.mem.2.2.1))⟩⟩
  · have e : (p.drop b).ownV = fun j => if j = b then none else p.ownV j := by
      funext j
      unfold Po.drop Po.ownV
      dsimp only
      split <;> rfl
    rw [e]
    exact hmap
  · have h1 := hg.block w.heap.size (by simp [World.drew]) (by simp; omega)
    exact h1.trans (World.alloc_heap_new w o)

theorem PoolIn.turned {S Sa : Nat → Prop} {Xp X M O n : Nat} {p : Po} {w w' : World} (h : PoolIn S Sa Xp X M O n p w) {a' : Anc} (hA : AncS (Wid Sa w.heap.size w'.heap.size) X p.room a' w') (hO : Only Sa w w') :
    PoolIn (Wid S w.heap.size w'.heap.size) (Wid Sa w.heap.size w'.heap.size) Xp X M O n { p with anc := a' } w' := by
  obtain ⟨m1, m2, m3, m4⟩ := h.mem
  obtain ⟨a1, a2, a3, a4, a5, a6⟩ := h.apart
  have l1 := h.low _ m1
  have l2 := h.low _ m2
  have l3 := h.low _ m3
  have no : ∀ i, ¬ Sa i → i < w.heap.size → ¬ Wid Sa w.heap.size w'.heap.size i := fun i hi hl e => by
    rcases e with e | e
    · exact hi e
    · omega
  refine ⟨(hO.block Xp l1 a1).trans h.cells, h.all.block (hO.block M l2 a2), h.own.block (hO.block O l3 a3), hA, ⟨.inl m1, .inl m2, .inl m3, fun i hi => hi.imp (m4 i) id⟩, ⟨no _ a1 l1, no _ a2 l2, no _ a3 l3, a4, a5, a6⟩, fun i hi => ?_⟩
  rcases hi with e | e
  · exact Nat.lt_of_lt_of_le (h.low i e) hO.size
  · exact e.2
theorem PoolIn.setAct {S Sa : Nat → Prop} {Xp X M O n : Nat} {p : Po} {w : World} (h : PoolIn S Sa Xp X M O n p w) (k : Nat) : PoolIn S Sa Xp X M O n { p with act := k } (w.setCell ⟨Xp, 5, none⟩ (.int .i64 (k : Int))) ∧ Only S w (w.setCell ⟨Xp, 5, none⟩ (.int .i64 (k : Int))) := by
  obtain ⟨m1, m2, m3, m4⟩ := h.mem
  obtain ⟨a1, a2, a3, a4, a5, a6⟩ := h.apart
  have hk : ∀ i, i ≠ Xp → (w.setCell ⟨Xp, 5, none⟩ (.int .i64 (k : Int))).heap[i]? = w.heap[i]? := fun i hi => by
    have : ¬ Xp = i := fun e => hi e.symm
    simp [World.setCell, Array.getElem?_modify, this]
  have hs : w.heap.size ≤ (w.setCell ⟨Xp, 5, none⟩ (.int .i64 (k : Int))).heap.size := by simp [World.setCell]
  refine ⟨⟨?_, h.all.block (hk M (fun e => a4 e.symm)), h.own.block (hk O (fun e => a5 e.symm)), h.anc.kept (fun i hi => hk i (fun e => a1 (e ▸ hi))) hs, h.mem, h.apart, fun i hi => Nat.lt_of_lt_of_le (h.low i hi) hs⟩, ⟨rfl, rfl, rfl, hs, fun i _ hn => hk i (fun e => hn (e ▸ m1))⟩⟩
  have hc := h.cells
  unfold poolCells at hc ⊢
  simp [World.setCell, Array.getElem?_modify, hc]

theorem pool_rem {S Sa : Nat → Prop} {Xp X M O n : Nat} {p : Po} {w : World} (h : PoolIn S Sa Xp X M O n p w) (b : Nat) (hb : b < p.anc.room) (hg : p.anc.gone b = 0) (hn : 2 ≤ p.anc.n) :
    Calls Try.prog 25 #[.pointer (some ⟨X, 0, none⟩), .int .i64 (b : Int)] w.drew fun e w' => e = .returned (.int .i64 0) ∧ PoolIn (Wid S w.heap.size w'.heap.size) (Wid Sa w.heap.size w'.heap.size) Xp X M O n { p with anc := rem p.anc b } w' ∧ Only Sa w w' := by
  have hA : AncS Sa X p.room p.anc w.drew := h.anc.kept (fun _ _ => rfl) (Nat.le_refl _)
  refine (ancS_remove hA b hb hg hn).mono ?_
  rintro e w' ⟨he, hA', hR⟩
  have hR' : Only Sa w w' := ⟨hR.os, hR.tape, hR.output, hR.size, hR.block⟩
  exact ⟨he, h.turned hA' hR', hR'⟩

theorem pool_end {S Sa : Nat → Prop} {Xp X M O n : Nat} {p : Po} {w w1 wr : World} {a' : Anc} (h0 : PoolIn S Sa Xp X M O n p w1) (hT : PoolIn (Wid S w1.heap.size wr.heap.size) (Wid Sa w1.heap.size wr.heap.size) Xp X M O n { p with anc := a' } wr) (hO : Only S w w1) (hR : Only Sa w1 wr) (q : Nat) :
    ∃ S' Sa' : Nat → Prop, PoolIn S' Sa' Xp X M O n { p with anc := a', act := q } (wr.setCell ⟨Xp, 5, none⟩ (.int .i64 (q : Int))) ∧ Only S w (wr.setCell ⟨Xp, 5, none⟩ (.int .i64 (q : Int))) ∧ ∀ i, S' i → S i ∨ w.heap.size ≤ i := by
  obtain ⟨h1, h2⟩ := hT.setAct q
  have hs := hO.size
  have h3 : Only S w wr := hO.trans (hR.mono h0.mem.2.2.2) (fun i _ e => e)
  refine ⟨_, _, h1, h3.trans h2 (fun i hi e => ?_), fun i e => ?_⟩
  · rcases e with e | e
    · exact e
    · omega
  · rcases e with e | e
    · exact .inl e
    · exact .inr (by omega)

set_option maxRecDepth 100000 in
set_option maxHeartbeats 1000000 in
theorem leave_more {S Sa : Nat → Prop} {Xp X M O n : Nat} {p : Po} {w : World} (h : PoolIn S Sa Xp X M O n p w) (m : Mem) (hs : m.state = 1) (b : Nat) (hb : m.bucket = (b : Int)) (hb1 : b < p.anc.room) (hg : p.anc.gone b = 0) (h2 : 2 ≤ p.act) (h3 : p.act ≤ 65536) (hn : p.anc.n = p.act) (hw : (Lit.int .i64 (b : Int)).wf = true) :
    Calls Try.prog 50 #[.pointer (some ⟨Xp, 0, none⟩), m.val] w fun e w' => e = .returned (.tuple #[]) ∧ ∃ S' Sa' : Nat → Prop, PoolIn S' Sa' Xp X M O n { (p.drop b) with anc := rem p.anc b, act := p.act - 1 } w' ∧ Only S w w' ∧ ∀ i, S' i → S i ∨ w.heap.size ≤ i := by
  obtain ⟨⟨c0, c1, c2, c3, c4, c5⟩, z5⟩ := cells6 h.cells
  have e2 : (1 : Int) < (p.act : Int) := by omega
  have hXl := h.low _ h.mem.1
  obtain ⟨w1, hrun, hP, hbox, hO⟩ := after_del h (.cells #[.int .i64 m.id, .int .u32 m.addr, .int .i64 m.port, .int .i64 1, .int .i64 (b : Int)] 104) hw
  obtain ⟨⟨x0, x1, x2, x3, x4, x5⟩, zx⟩ := cells6 (u0 := .string p.key) (u1 := .int .i64 (p.room : Int)) (u5 := .int .i64 (p.act : Int)) hP.cells
  obtain ⟨⟨y0, y1, y2, y3, y4⟩, _⟩ := cells5 hbox
  have HP := Lib.hid hP
  have HO := Lib.hid hO
  have HX := Lib.hid hbox
  have HH := Lib.hid h
  unfold Mem.val
  rw [hb, hs]
  obtain ⟨q, hq⟩ : ∃ q, p.act - 1 = q := ⟨_, rfl⟩
  rw [hq]
  have e3 : (p.act : Int) - 1 = (q : Int) := by omega
  have e4 : (q : Int) ≤ 65536 := by omega
  clear hq
  clear h hP hO hbox hb hs
  go_enter Try.func50, Try.ntmps50
  go_wp2_with fail
  have hn2 : 2 ≤ p.anc.n := by omega
  go_region
  go_wp2_with fail
  go_region_with (go_at_call 25; refine (pool_rem HP.out b hb1 hg hn2).mono ?_; rintro e wr ⟨rfl, hT, hR⟩; obtain ⟨⟨u0, u1, u2, u3, u4, u5⟩, zu⟩ := cells6 (u0 := .string p.key) (u1 := .int .i64 (p.room : Int)) (u5 := .int .i64 (p.act : Int)) hT.cells; have HT := Lib.hid (And.intro hT hR); clear hT hR)
  all_goals
    go_wp2_with fail
    obtain ⟨S', Sa', g1, g2, g3⟩ := pool_end HP.out HT.out.1 HO.out HT.out.2 q
    first | exact ⟨rfl, S', Sa', g1, g2, g3⟩ | exact ⟨rfl, rfl, S', Sa', g1, g2, g3⟩ | exact ⟨rfl, .tuple #[], by simp [results, Try.f50, go_sem], rfl, S', Sa', g1, g2, g3⟩ | trace_state

set_option maxRecDepth 100000 in
set_option maxHeartbeats 1000000 in
theorem leave_last {S Sa : Nat → Prop} {Xp X M O n : Nat} {p : Po} {w : World} (h : PoolIn S Sa Xp X M O n p w) (m : Mem) (hs : m.state = 1) (b : Nat) (hb : m.bucket = (b : Int)) (h2 : p.act = 1) (hw : (Lit.int .i64 (b : Int)).wf = true) :
    Calls Try.prog 50 #[.pointer (some ⟨Xp, 0, none⟩), m.val] w fun e w' => e = .returned (.tuple #[]) ∧ PoolIn S Sa Xp X M O n { (p.drop b) with act := 0 } w' ∧ Only S w w' := by
  have hXl := h.low _ h.mem.1
  obtain ⟨w1, hrun, hP, hbox, hO⟩ := after_del h (.cells #[.int .i64 m.id, .int .u32 m.addr, .int .i64 m.port, .int .i64 1, .int .i64 (b : Int)] 104) hw
  obtain ⟨⟨c0, c1, c2, c3, c4, c5⟩, z5⟩ := cells6 h.cells
  obtain ⟨⟨x0, x1, x2, x3, x4, x5⟩, zx⟩ := cells6 (u0 := .string p.key) (u1 := .int .i64 (p.room : Int)) (u5 := .int .i64 (p.act : Int)) hP.cells
  rw [h2] at x5 c5
  obtain ⟨⟨y0, y1, y2, y3, y4⟩, _⟩ := cells5 hbox
  obtain ⟨g1, g2⟩ := hP.setAct 0
  have HG := Lib.hid (And.intro g1 (hO.trans g2 (fun i _ e => e)))
  unfold Mem.val
  rw [hb, hs]
  clear h hP hO hbox hb hs h2 g1 g2
  go_enter Try.func50, Try.ntmps50
  go_wp2_with fail
  go_region
  go_wp2_with fail
  first | exact ⟨rfl, HG.out⟩ | exact ⟨rfl, rfl, HG.out⟩ | exact ⟨rfl, .tuple #[], by simp [results, Try.f50, go_sem], rfl, HG.out⟩ | trace_state
end Go.Proofs.Ytladjipicifplaa
