import Derived.Test.YtladjipicifplaaHI
namespace Go.Proofs.Ytladjipicifplaa
open Go.RowKit Go.Shelf Go.Maps

theorem at_below {B : Nat} {S : Nat → Prop} {Xp N : Nat} {p : Po} {w w' : World} (h : PoolAt B S Xp N p w) (hb : Below w.heap.size w w') : PoolAt B S Xp N p w' := h.kept (fun i hi => hb.block i (h.low.1 i hi)) hb.size
theorem turned_below {B : Nat} {S : Nat → Prop} {Xp N N' : Nat} {p : Po} {w w' : World} (h : PoolAt B S Xp N p w) (hN : N ≤ N') (hb : Below w.heap.size w w') : Turned B S Xp N' p w w' := ⟨S, (at_below h hb).more hN, .of_below hb, fun _ h => .inl h⟩
/-- A pool is in memory, all of it from B on. -/
def OneP (B Xp N : Nat) (p : Po) (w : World) : Prop := ∃ S, PoolAt B S Xp N p w
theorem OneP.below {B Xp N : Nat} {p : Po} {w w' : World} (h : OneP B Xp N p w) (hb : Below w.heap.size w w') : OneP B Xp N p w' := by
  obtain ⟨S, h⟩ := h
  exact ⟨S, at_below h hb⟩
theorem OneP.call {B Xp N N' : Nat} {p p' : Po} {w : World} (h : OneP B Xp N p w) {f : FuncId} {args : Array Value} {R : Ending} (hc : ∀ S, PoolAt B S Xp N p w → Calls Try.prog f args w fun e w' => e = R ∧ Turned B S Xp N' p' w w') :
    Calls Try.prog f args w fun e w' => e = R ∧ OneP B Xp N' p' w' ∧ Below B w w' := by
  obtain ⟨S, h1⟩ := h
  refine (hc S h1).mono ?_
  rintro e w' ⟨he, S', g1, g2, g3⟩
  exact ⟨he, ⟨S', g1⟩, g2.below h1.low.2.2 h1.low.2.1⟩

set_option maxRecDepth 100000 in
set_option maxHeartbeats 1000000 in
theorem get_some {S Sa : Nat → Prop} {Xp X M O n : Nat} {p : Po} {w : World} (h : PoolIn S Sa Xp X M O n p w) {id : Int} (hw : (Lit.int .i64 id).wf = true) {m : Mem} (hm : p.all id = some m) :
    Calls Try.prog 49 #[.pointer (some ⟨Xp, 0, none⟩), .int .i64 id] w fun e w' => e = .returned (.tuple #[.agg #[.int .i64 m.id, .int .u32 m.addr, .int .i64 m.port], .int .i64 m.state, .int .i64 0]) ∧ Below w.heap.size w w' := by
  have hb := (Below.refl w.heap.size w).alloc (Nat.le_refl _) (.cells #[.int .i64 0, .int .u32 0, .int .i64 0] 71)
  obtain ⟨⟨c0, c1, c2, c3, c4, c5⟩, z5⟩ := cells6 (h.below hb).cells
  have q1 := look_mem (h.below hb) hw hm
  have hXl := h.low _ h.mem.1
  have HH := Lib.hid h
  clear h hm hb
  go_enter Try.func49, Try.ntmps49
  go_wp2_with fail
  go_region
  all_goals
    go_wp2_with fail
    have k1 := World.alloc_heap_new w (.cells #[.int .i64 m.id, .int .u32 m.addr, .int .i64 m.port] 71)
    have k2 : (((w.alloc (.cells #[.int .i64 m.id, .int .u32 m.addr, .int .i64 m.port] 71)).alloc (.cells #[.int .i64 m.id, .int .u32 m.addr, .int .i64 m.port, .int .i64 m.state, .int .i64 m.bucket] 104)).drew).heap[w.heap.size]? = some (.cells #[.int .i64 m.id, .int .u32 m.addr, .int .i64 m.port] 71) := (Below.heap_alloc _ _ _ (by simp)).trans k1
    obtain ⟨d0, d1, d2⟩ := cell3 k2
    exact ⟨rfl, .tuple #[.agg #[.int .i64 m.id, .int .u32 m.addr, .int .i64 m.port], .int .i64 m.state, .int .i64 0], by simp [results, Try.f49, go_sem, d0, d1, d2], rfl, (((Below.refl _ w).alloc (Nat.le_refl _) _).alloc (by simp) _).drew⟩
set_option maxRecDepth 100000 in
set_option maxHeartbeats 2000000 in
/-- A tuple of a number. -/
theorem tuple_ok (v : Nat) (hv : v < 4294967296) (w : World) : Calls Try.prog 38 #[.int .u32 (v : Int)] w fun e w' => e = .returned (tupleV 6 v 9 (v % 60000) 80) ∧ Below w.heap.size w w' := by
  obtain ⟨q, hq⟩ : ∃ q : Nat, v % 60000 = q := ⟨_, rfl⟩
  have hv2 : (v : Int) % 60000 = (q : Int) := by omega
  have hq2 : (q : Int) < 60000 := by omega
  rw [hq]
  clear hq
  unfold tupleV
  go_enter Try.func38, Try.ntmps38
  go_wp2_with fail
  rw [hv2]
  go_wp2_with fail
  obtain ⟨⟨d0, d1, d2, d3, d4⟩, _⟩ := cells5 (World.alloc_heap_new w (.cells #[.int .i64 6, .int .u32 (v : Int), .int .u32 9, .int .i64 (q : Int), .int .i64 80] 75))
  exact ⟨rfl, .agg #[.int .i64 6, .int .u32 (v : Int), .int .u32 9, .int .i64 (q : Int), .int .i64 80], by simp [results, Try.f38, go_sem, d0, d1, d2, d3, d4], rfl, (Below.refl _ w).alloc (Nat.le_refl _) _⟩

def poKey : ByteArray := ⟨#[48, 49, 50, 51, 52, 53, 54, 55, 56, 57, 97, 98, 99, 100, 101, 102]⟩
def exP2 : Po := addP (newPo 2 poKey) 5 7 9
def exMem : Mem := ⟨5, 7, 9, 1, (newB (newPo 2 poKey) : Int)⟩
def exP3 : Po := drainP exP2 5 exMem
theorem exGood1 : Good (newPo 2 poKey) := Good.new (by omega) (by omega) rfl
theorem exGood2 : Good exP2 := exGood1.add 7 9 rfl (by decide) (by omega)
theorem exAll2 : exP2.all 5 = some exMem := rfl
theorem exAct2 : exP2.act = 1 := rfl
theorem exGood3 : Good exP3 := exGood2.drain exAll2 rfl
theorem exAct3 : exP3.act = 0 := by have := drain_act exGood2 exAll2 rfl; rw [exAct2] at this; show (drainP exP2 5 exMem).act = 0; omega
theorem exAll3 : exP3.all 5 = some { exMem with state := 2 } := by unfold exP3; rw [drain_all]; rfl
attribute [irreducible] exP2 exMem exP3
theorem ex_new13 (w : World) : Calls Try.prog 34 #[.int .i64 2, .string ⟨#[48, 49, 50, 51, 52, 53, 54, 55, 56, 57, 97, 98, 99, 100, 101, 102]⟩] w fun e w' => ∃ Xp, e = .returned (.tuple #[.pointer (some ⟨Xp, 0, none⟩), .int .i64 0]) ∧ OneP w.heap.size Xp 0 (newPo 2 poKey) w' ∧ Below w.heap.size w w' := by
  refine (at_new 2 (by omega) (by omega) poKey rfl w).mono ?_
  rintro e w' ⟨Xp, he, hP, hb⟩
  exact ⟨Xp, he, ⟨_, hP⟩, hb⟩
theorem ex_short (w : World) : Calls Try.prog 34 #[.int .i64 2, .string ⟨#[115, 104, 111, 114, 116]⟩] w fun e w' => e = .returned (.tuple #[.pointer none, .int .i64 1]) ∧ Below w.heap.size w w' := pool_bad 2 (by omega) (by omega) _ (by decide) w
theorem tup_zero : Value.agg #[.int .i64 6, .int .u32 0, .int .u32 0, .int .i64 0, .int .i64 0] = tupleV 6 0 0 0 0 := rfl
theorem ex_none {B Xp N : Nat} {p : Po} {w : World} (h : OneP B Xp N p w) (h0 : p.act = 0) : Calls Try.prog 37 #[.pointer (some ⟨Xp, 0, none⟩), .agg #[.int .i64 6, .int .u32 0, .int .u32 0, .int .i64 0, .int .i64 0]] w fun e w' => e = .returned (.tuple #[.agg #[.int .i64 0, .int .u32 0, .int .i64 0], .bool false]) ∧ Below w.heap.size w w' := by
  obtain ⟨S, h⟩ := h
  rw [tup_zero]
  exact at_choose_none h h0 6 0 0 0 0 (by omega) (by omega) (by omega) (by omega) (by omega)
theorem ex_five {B Xp N : Nat} {w : World} (h : OneP B Xp N exP2 w) : Calls Try.prog 37 #[.pointer (some ⟨Xp, 0, none⟩), .agg #[.int .i64 6, .int .u32 0, .int .u32 0, .int .i64 0, .int .i64 0]] w fun e w' => (∃ a q : Int, e = .returned (.tuple #[.agg #[.int .i64 5, .int .u32 a, .int .i64 q], .bool true])) ∧ Below w.heap.size w w' := by
  obtain ⟨S, h⟩ := h
  obtain ⟨id, hp⟩ := exGood2.pickId (by rw [exAct2]; omega) (tupK exP2.key 6 0 0 0 0)
  obtain ⟨m, g1, _⟩ := hp.mem exGood2
  have hid : id = 5 := by
    unfold exP2 at g1
    have g1 : (if id = 5 then some (⟨5, 7, 9, 1, (newB (newPo 2 poKey) : Int)⟩ : Mem) else none) = some m := g1
    split at g1
    · assumption
    · cases g1
  rw [hid] at hp g1
  rw [tup_zero]
  refine (at_choose h exGood2 (by rw [exAct2]; omega) 6 0 0 0 0 (by omega) (by omega) (by omega) (by omega) (by omega) hp g1).mono ?_
  rintro e w' ⟨he, hb⟩
  exact ⟨⟨_, _, he⟩, hb⟩
theorem ex_add13 {B Xp : Nat} {w : World} (h : OneP B Xp 0 (newPo 2 poKey) w) : Calls Try.prog 35 #[.pointer (some ⟨Xp, 0, none⟩), .agg #[.int .i64 5, .int .u32 7, .int .i64 9]] w fun e w' => e = .returned (.int .i64 0) ∧ OneP B Xp 1 exP2 w' ∧ Below B w w' := by
  unfold exP2
  exact h.call (fun S hS => at_add hS exGood1 (by unfold maxLen; omega) (by omega) (by omega) rfl (by show 0 < 2; omega))
theorem ex_drain13 {B Xp : Nat} {w : World} (h : OneP B Xp 1 exP2 w) : Calls Try.prog 36 #[.pointer (some ⟨Xp, 0, none⟩), .int .i64 5] w fun e w' => e = .returned (.int .i64 0) ∧ OneP B Xp 2 exP3 w' ∧ Below B w w' := by
  unfold exP3
  exact h.call (fun S hS => at_drain hS exGood2 (by unfold maxLen; omega) exAll2 (by unfold exMem; rfl))
theorem ex_get13 {B Xp : Nat} {w : World} (h : OneP B Xp 2 exP3 w) : Calls Try.prog 49 #[.pointer (some ⟨Xp, 0, none⟩), .int .i64 5] w fun e w' => (∃ i a q : Int, e = .returned (.tuple #[.agg #[.int .i64 i, .int .u32 a, .int .i64 q], .int .i64 2, .int .i64 0])) ∧ Below w.heap.size w w' := by
  obtain ⟨S, Sa, X, M, O, n, hP, hn, hB⟩ := h
  refine (get_some hP (i64_wf' (by omega) (by omega)) exAll3).mono ?_
  rintro e w' ⟨he, hb⟩
  exact ⟨⟨_, _, _, he⟩, hb⟩
end Go.Proofs.Ytladjipicifplaa
