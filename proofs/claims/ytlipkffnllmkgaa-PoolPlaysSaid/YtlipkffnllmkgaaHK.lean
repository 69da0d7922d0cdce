import Derived.Test.YtlipkffnllmkgaaHF
import Derived.Test.YtlipkffnllmkgaaHJ
import Derived.OpenShut
namespace Go.Proofs.Ytlipkffnllmkgaa
open Go.RowKit Go.Shelf Go.Maps

theorem i64_wf' {x : Int} (h1 : -9223372036854775808 ≤ x) (h2 : x ≤ 9223372036854775807) : (Lit.int .i64 x).wf = true := by
  simp [Lit.wf, IntKind.min, IntKind.max, IntKind.signed, IntKind.bits]
  exact ⟨by omega, by omega⟩
/-- A pool in memory, its blocks S, all from B on. -/
def PoolAt (B : Nat) (S : Nat → Prop) (Xp N : Nat) (p : Po) (w : World) : Prop := ∃ Sa X M O n, PoolIn S Sa Xp X M O n p w ∧ n ≤ N ∧ ∀ i, S i → B ≤ i
theorem PoolAt.kept {B : Nat} {S : Nat → Prop} {Xp N : Nat} {p : Po} {w w' : World} (h : PoolAt B S Xp N p w) (hb : ∀ b, S b → w'.heap[b]? = w.heap[b]?) (hs : w.heap.size ≤ w'.heap.size) : PoolAt B S Xp N p w' := by
  obtain ⟨Sa, X, M, O, n, hP, hn, hB⟩ := h
  exact ⟨Sa, X, M, O, n, hP.kept hb hs, hn, hB⟩
theorem PoolAt.low {B : Nat} {S : Nat → Prop} {Xp N : Nat} {p : Po} {w : World} (h : PoolAt B S Xp N p w) : (∀ i, S i → i < w.heap.size) ∧ (∀ i, S i → B ≤ i) ∧ B ≤ w.heap.size := by
  obtain ⟨Sa, X, M, O, n, hP, hn, hB⟩ := h
  have := hB _ hP.mem.1
  have := hP.low _ hP.mem.1
  exact ⟨hP.low, hB, by omega⟩
theorem PoolAt.more {B : Nat} {S : Nat → Prop} {Xp N N' : Nat} {p : Po} {w : World} (h : PoolAt B S Xp N p w) (hN : N ≤ N') : PoolAt B S Xp N' p w := by
  obtain ⟨Sa, X, M, O, n, hP, hn, hB⟩ := h
  exact ⟨Sa, X, M, O, n, hP, by omega, hB⟩
theorem PoolAt.down {B B' : Nat} {S : Nat → Prop} {Xp N : Nat} {p : Po} {w : World} (h : PoolAt B S Xp N p w) (hN : B' ≤ B) : PoolAt B' S Xp N p w := by
  obtain ⟨Sa, X, M, O, n, hP, hn, hB⟩ := h
  exact ⟨Sa, X, M, O, n, hP, hn, fun i hi => by have := hB i hi; omega⟩
/-- What a deed leaves: the pool's blocks are those that it had, and new ones. -/
def Turned (B : Nat) (S : Nat → Prop) (Xp N : Nat) (p' : Po) (w w' : World) : Prop := ∃ S', PoolAt B S' Xp N p' w' ∧ Only S w w' ∧ ∀ i, S' i → S i ∨ w.heap.size ≤ i

theorem at_new (r : Nat) (h1 : 1 ≤ r) (h3 : r ≤ 65536) (key : ByteArray) (hk : key.size = 16) (w : World) :
    Calls Try.prog 7 #[.int .i64 (r : Int), .string key] w fun e w' => ∃ Xp, e = .returned (.tuple #[.pointer (some ⟨Xp, 0, none⟩), .int .i64 0]) ∧ PoolAt w.heap.size (fun b => w.heap.size ≤ b ∧ b < w'.heap.size) Xp 0 (newPo r key) w' ∧ Below w.heap.size w w' := by
  refine (pool_new r h1 h3 key hk w).mono ?_
  rintro e w' ⟨Xp, X, M, O, Sa, he, hP, hb⟩
  exact ⟨Xp, he, ⟨Sa, X, M, O, 0, hP, Nat.le_refl _, fun i hi => hi.1⟩, hb⟩
theorem at_add {B Xp N : Nat} {S : Nat → Prop} {p : Po} {w : World} (h : PoolAt B S Xp N p w) (g : Good p) (hN : N + 1 < maxLen) {id a pt : Int} (hid : 1 ≤ id ∧ id ≤ 65535) (hpt : 0 ≤ pt ∧ pt ≤ 65535) (hm : p.all id = none) (h1 : p.act < p.room) :
    Calls Try.prog 13 #[.pointer (some ⟨Xp, 0, none⟩), .agg #[.int .i64 id, .int .u32 a, .int .i64 pt]] w fun e w' => e = .returned (.int .i64 0) ∧ Turned B S Xp (N + 1) (addP p id a pt) w w' := by
  obtain ⟨Sa, X, M, O, n, hP, hn, hB⟩ := h
  have hw : (Lit.int .i64 id).wf = true := i64_wf' (by omega) (by omega)
  by_cases h0 : p.act = 0
  · obtain ⟨e1, e2, e3, e4, e5, e6⟩ := g.first h0
    have hr := g.r2
    refine (add_first hP (by omega) hw hid hpt hm h0 g.r2 (newB p) e5 (i64_wf' (by omega) (by omega))).mono ?_
    rintro e w' ⟨he, hP', hO⟩
    refine ⟨he, S, ⟨Sa, X, M, O, n + 1, ?_, by omega, hB⟩, hO, fun i hi => .inl hi⟩
    have e : addP p id a pt = { (Po.set p id (newB p : Int) ⟨id, a, pt, 1, (newB p : Int)⟩) with act := 1 } := by
      have h01 : p.act + 1 = 1 := by omega
      unfold addP
      rw [e6, h01]
    rw [e]
    exact hP'
  · obtain ⟨⟨st, e1⟩, e2, e3, e4⟩ := g.next h0 h1
    have hr := g.r2
    refine (add_more hP (by omega) hw hid hpt hm h0 h1 g.r2 (newB p) st e1 (i64_wf' (by omega) (by omega))).mono ?_
    rintro e w' ⟨he, hP', hO⟩
    refine ⟨he, S, ⟨Sa, X, M, O, n + 1, ?_, by omega, hB⟩, hO, fun i hi => .inl hi⟩
    unfold addP
    rw [e2]
    exact hP'
theorem at_drain {B Xp N : Nat} {S : Nat → Prop} {p : Po} {w : World} (h : PoolAt B S Xp N p w) (g : Good p) (hN : N < maxLen) {id : Int} {m : Mem} (hm : p.all id = some m) (hs : m.state = 1) :
    Calls Try.prog 14 #[.pointer (some ⟨Xp, 0, none⟩), .int .i64 id] w fun e w' => e = .returned (.int .i64 0) ∧ Turned B S Xp (N + 1) (drainP p id m) w w' := by
  obtain ⟨Sa, X, M, O, n, hP, hn, hB⟩ := h
  obtain ⟨b, hb, b1, b2, b3⟩ := g.at_ id m hm hs
  obtain ⟨_, i2, i3⟩ := g.all id m hm
  obtain ⟨I, hr⟩ := g.inv
  have hr2 := g.r2
  have hact : p.act ≠ 0 := fun e => g.no e id m hm hs
  have hw : (Lit.int .i64 id).wf = true := i64_wf' (by omega) (by omega)
  have hBw : B ≤ w.heap.size := by have := hB _ hP.mem.1; have := hP.low _ hP.mem.1; omega
  have hle := g.act
  obtain ⟨q1, q2, q3, q4, q5⟩ := m
  dsimp only at hb hs
  subst hb
  by_cases h1 : p.act = 1
  · refine (drain_last hP (by omega) hw hm hs b rfl h1 (i64_wf' (by omega) (by omega))).mono ?_
    rintro e w' ⟨he, hP', hO⟩
    refine ⟨he, S, ⟨Sa, X, M, O, n + 1, ?_, by omega, hB⟩, hO, fun i hi => .inl hi⟩
    unfold drainP
    rw [if_pos h1]
    exact hP'
  · refine (drain_more hP (by omega) hw hm hs b rfl (by omega) b2 (by omega) (by omega) (g.n.2 hact) (i64_wf' (by omega) (by omega))).mono ?_
    rintro e w' ⟨he, S', Sa', hP', hO, hS⟩
    refine ⟨he, S', ⟨Sa', X, M, O, n + 1, ?_, by omega, fun i hi => ?_⟩, hO, hS⟩
    · unfold drainP
      rw [if_neg h1]
      dsimp only
      rw [Int.toNat_natCast]
      exact hP'
    · rcases hS i hi with e | e
      · exact hB i e
      · omega
theorem at_drain_none {B Xp N : Nat} {S : Nat → Prop} {p : Po} {w : World} (h : PoolAt B S Xp N p w) {id : Int} (hid : -9223372036854775808 ≤ id ∧ id ≤ 9223372036854775807) (hm : p.all id = none) :
    Calls Try.prog 14 #[.pointer (some ⟨Xp, 0, none⟩), .int .i64 id] w fun e w' => e = .returned (.int .i64 19) ∧ Below w.heap.size w w' := by
  obtain ⟨Sa, X, M, O, n, hP, hn, hB⟩ := h
  exact drain_none hP (i64_wf' hid.1 hid.2) hm
theorem at_drain_state {B Xp N : Nat} {S : Nat → Prop} {p : Po} {w : World} (h : PoolAt B S Xp N p w) {id : Int} (hid : -9223372036854775808 ≤ id ∧ id ≤ 9223372036854775807) {m : Mem} (hm : p.all id = some m) (hs : m.state ≠ 1) :
    Calls Try.prog 14 #[.pointer (some ⟨Xp, 0, none⟩), .int .i64 id] w fun e w' => e = .returned (.int .i64 15) ∧ Below w.heap.size w w' := by
  obtain ⟨Sa, X, M, O, n, hP, hn, hB⟩ := h
  exact drain_state hP (i64_wf' hid.1 hid.2) hm hs
theorem at_remove_drained {B Xp N : Nat} {S : Nat → Prop} {p : Po} {w : World} (h : PoolAt B S Xp N p w) {id : Int} (hid : -9223372036854775808 ≤ id ∧ id ≤ 9223372036854775807) {m : Mem} (hm : p.all id = some m) (hs : m.state ≠ 1) :
    Calls Try.prog 16 #[.pointer (some ⟨Xp, 0, none⟩), .int .i64 id] w fun e w' => e = .returned (.int .i64 0) ∧ Turned B S Xp N (p.gone id) w w' := by
  obtain ⟨Sa, X, M, O, n, hP, hn, hB⟩ := h
  refine (remove_drained hP (i64_wf' hid.1 hid.2) hm hs).mono ?_
  rintro e w' ⟨he, hP', hO⟩
  exact ⟨he, S, ⟨Sa, X, M, O, n, hP', hn, hB⟩, hO, fun i hi => .inl hi⟩
theorem at_active {B Xp N : Nat} {S : Nat → Prop} {p : Po} {w : World} (h : PoolAt B S Xp N p w) (k : Int) (hk : (p.act : Int) = k) :
    Calls Try.prog 10 #[.pointer (some ⟨Xp, 0, none⟩)] w fun e w' => e = .returned (.int .i64 k) ∧ w' = w := by
  obtain ⟨Sa, X, M, O, n, hP, hn, hB⟩ := h
  subst hk
  exact active_calls hP

theorem hashF_nat (key s : ByteArray) : 0 ≤ hashF key s := by
  have h : ∀ v, 0 ≤ ending v := fun v => (u64_bounds (wf_bits .xor .u64 _ _)).1
  exact h _
/-- The number by which a tuple is chosen for. -/
def tupK (key : ByteArray) (p s d x y : Nat) : Nat := (hashF key (keyS p s d x y)).toNat
theorem tupK_eq (key : ByteArray) (p s d x y : Nat) : hashF key (keyS p s d x y) = (tupK key p s d x y : Int) := (Int.toNat_of_nonneg (hashF_nat _ _)).symm
attribute [irreducible] tupK
theorem at_choose_none {B Xp N : Nat} {S : Nat → Prop} {po : Po} {w : World} (h : PoolAt B S Xp N po w) (h0 : po.act = 0) (p s d x y : Nat) (hp : p < 256) (hs : s < 4294967296) (hd : d < 4294967296) (hx : x < 65536) (hy : y < 65536) :
    Calls Try.prog 17 #[.pointer (some ⟨Xp, 0, none⟩), tupleV p s d x y] w fun e w' => e = .returned (.tuple #[.agg #[.int .i64 0, .int .u32 0, .int .i64 0], .bool false]) ∧ Below w.heap.size w w' := by
  obtain ⟨Sa, X, M, O, n, hP, hn, hB⟩ := h
  exact choose_none hP h0 p s d x y hp hs hd hx hy
theorem at_choose {B Xp N : Nat} {S : Nat → Prop} {po : Po} {w : World} (h : PoolAt B S Xp N po w) (g : Good po) (h0 : po.act ≠ 0) (p s d x y : Nat) (hp : p < 256) (hs : s < 4294967296) (hd : d < 4294967296) (hx : x < 65536) (hy : y < 65536)
    {id : Int} (hpick : PickId po (tupK po.key p s d x y) id) {m : Mem} (hm : po.all id = some m) :
    Calls Try.prog 17 #[.pointer (some ⟨Xp, 0, none⟩), tupleV p s d x y] w fun e w' => e = .returned (.tuple #[.agg #[.int .i64 id, .int .u32 m.addr, .int .i64 m.port], .bool true]) ∧ Below w.heap.size w w' := by
  obtain ⟨Sa, X, M, O, n, hP, hn, hB⟩ := h
  obtain ⟨r, hf, ho⟩ := hpick
  obtain ⟨i1, i2, i3⟩ := g.all _ _ hm
  have hr2 := g.r2
  have hrl := hf.low.2
  rw [g.inv.2] at hrl
  have hk := tupK_eq po.key p s d x y
  have := choose_some hP h0 g.key p s d x y hp hs hd hx hy (tupK po.key p s d x y) r hk hf id ho (i64_wf' (by omega) (by omega)) (i64_wf' (by omega) (by omega)) m hm
  rw [i1] at this
  exact this

/-- Two pools, all blocks apart. -/
def TwoP (B Xa Xb N : Nat) (p q : Po) (w : World) : Prop := ∃ S T, PoolAt B S Xa N p w ∧ PoolAt B T Xb N q w ∧ ∀ i, S i → ¬ T i
theorem TwoP.swap {B Xa Xb N : Nat} {p q : Po} {w : World} (h : TwoP B Xa Xb N p q w) : TwoP B Xb Xa N q p w := by
  obtain ⟨S, T, h1, h2, h3⟩ := h
  exact ⟨T, S, h2, h1, fun i a b => h3 i b a⟩
theorem TwoP.below {B Xa Xb N : Nat} {p q : Po} {w w' : World} (h : TwoP B Xa Xb N p q w) (hb : Below w.heap.size w w') : TwoP B Xa Xb N p q w' := by
  obtain ⟨S, T, h1, h2, h3⟩ := h
  exact ⟨S, T, h1.kept (fun i hi => hb.block i (h1.low.1 i hi)) hb.size, h2.kept (fun i hi => hb.block i (h2.low.1 i hi)) hb.size, h3⟩
theorem TwoP.call {B Xa Xb N N' : Nat} {p p' q : Po} {w : World} (h : TwoP B Xa Xb N p q w) (hN : N ≤ N') {f : FuncId} {args : Array Value} {R : Ending} (hc : ∀ S, PoolAt B S Xa N p w → Calls Try.prog f args w fun e w' => e = R ∧ Turned B S Xa N' p' w w') :
    Calls Try.prog f args w fun e w' => e = R ∧ TwoP B Xa Xb N' p' q w' ∧ Below B w w' := by
  obtain ⟨S, T, h1, h2, h3⟩ := h
  refine (hc S h1).mono ?_
  rintro e w' ⟨he, S', g1, g2, g3⟩
  refine ⟨he, ⟨S', T, g1, (h2.kept (fun i hi => g2.block i (h2.low.1 i hi) (fun e => h3 i e hi)) g2.size).more hN, fun i hi ht => ?_⟩, g2.below h1.low.2.2 h1.low.2.1⟩
  rcases g3 i hi with e | e
  · exact h3 i e ht
  · have := h2.low.1 i ht; omega
end Go.Proofs.Ytlipkffnllmkgaa

namespace Go.Proofs.Ytlipkffnllmkgaa
open Go.RowKit Go.Shelf Go.Maps

theorem at_below {B : Nat} {S : Nat → Prop} {Xp N : Nat} {p : Po} {w w' : World} (h : PoolAt B S Xp N p w) (hb : Below w.heap.size w w') : PoolAt B S Xp N p w' := h.kept (fun i hi => hb.block i (h.low.1 i hi)) hb.size
theorem turned_below {B : Nat} {S : Nat → Prop} {Xp N N' : Nat} {p : Po} {w w' : World} (h : PoolAt B S Xp N p w) (hN : N ≤ N') (hb : Below w.heap.size w w') : Turned B S Xp N' p w w' := ⟨S, (at_below h hb).more hN, .of_below hb, fun _ h => .inl h⟩
/-- A pool is in memory, all of it from B on. -/
def OneP (B Xp N : Nat) (p : Po) (w : World) : Prop := ∃ S, PoolAt B S Xp N p w
theorem OneP.below {B Xp N : Nat} {p : Po} {w w' : World} (h : OneP B Xp N p w) (hb : Below w.heap.size w w') : OneP B Xp N p w' := by
  obtain ⟨S, h⟩ := h
  exact ⟨S, at_below h hb⟩
theorem OneP.call {B Xp N N' : Nat} {p p' : Po} {w : World} (h : OneP B Xp N p w) {f : FuncId} {args : Array Value} {R : Ending} (hc : ∀ S, PoolAt B S Xp N p w → Calls Try.prog f args w fun e w' => e = R ∧ Turned B S Xp N' p' w w') :
    Calls Try.prog f args w fun e w' => e = R ∧ OneP B Xp N' p' w' ∧ Below B w w' := by
  obtain ⟨S, h1⟩ := h
  refine (hc S h1).mono ?_
  rintro e w' ⟨he, S', g1, g2, g3⟩
  exact ⟨he, ⟨S', g1⟩, g2.below h1.low.2.2 h1.low.2.1⟩

set_option maxRecDepth 100000 in
set_option maxHeartbeats 1000000 in
theorem get_some {S Sa : Nat → Prop} {Xp X M O n : Nat} {p : Po} {w : World} (h : PoolIn S Sa Xp X M O n p w) {id : Int} (hw : (Lit.int .i64 id).wf = true) {m : Mem} (hm : p.all id = some m) :
    Calls Try.prog 15 #[.pointer (some ⟨Xp, 0, none⟩), .int .i64 id] w fun e w' => e = .returned (.tuple #[.agg #[.int .i64 m.id, .int .u32 m.addr, .int .i64 m.port], .int .i64 m.state, .int .i64 0]) ∧ Below w.heap.size w w' := by
  have hb := (Below.refl w.heap.size w).alloc (Nat.le_refl _) (.cells #[.int .i64 0, .int .u32 0, .int .i64 0] 33)
  obtain ⟨⟨c0, c1, c2, c3, c4, c5⟩, z5⟩ := cells6 (h.below hb).cells
  have q1 := look_mem (h.below hb) hw hm
  have hXl := h.low _ h.mem.1
  have HH := Lib.hid h
  clear h hm hb
  go_enter Try.func15, Try.ntmps15
  go_wp2_with fail
  go_region
  all_goals
    go_wp2_with fail
    have k1 := World.alloc_heap_new w (.cells #[.int .i64 m.id, .int .u32 m.addr, .int .i64 m.port] 33)
    have k2 : (((w.alloc (.cells #[.int .i64 m.id, .int .u32 m.addr, .int .i64 m.port] 33)).alloc (.cells #[.int .i64 m.id, .int .u32 m.addr, .int .i64 m.port, .int .i64 m.state, .int .i64 m.bucket] 77)).drew).heap[w.heap.size]? = some (.cells #[.int .i64 m.id, .int .u32 m.addr, .int .i64 m.port] 33) := (Below.heap_alloc _ _ _ (by simp)).trans k1
    obtain ⟨d0, d1, d2⟩ := cell3 k2
    exact ⟨rfl, .tuple #[.agg #[.int .i64 m.id, .int .u32 m.addr, .int .i64 m.port], .int .i64 m.state, .int .i64 0], by simp [results, Try.f15, go_sem, d0, d1, d2], rfl, (((Below.refl _ w).alloc (Nat.le_refl _) _).alloc (by simp) _).drew⟩
def poKey : ByteArray := ⟨#[48, 49, 50, 51, 52, 53, 54, 55, 56, 57, 97, 98, 99, 100, 101, 102]⟩
def exP2 : Po := addP (newPo 2 poKey) 5 7 9
def exMem : Mem := ⟨5, 7, 9, 1, (newB (newPo 2 poKey) : Int)⟩
def exP3 : Po := drainP exP2 5 exMem
theorem exGood1 : Good (newPo 2 poKey) := Good.new (by omega) (by omega) rfl
theorem exGood2 : Good exP2 := exGood1.add 7 9 rfl (by decide) (by omega)
theorem exAll2 : exP2.all 5 = some exMem := rfl
theorem exAct2 : exP2.act = 1 := rfl
theorem exGood3 : Good exP3 := exGood2.drain exAll2 rfl
theorem exAct3 : exP3.act = 0 := by have := drain_act exGood2 exAll2 rfl; rw [exAct2] at this; show (drainP exP2 5 exMem).act = 0; omega
theorem exAll3 : exP3.all 5 = some { exMem with state := 2 } := by unfold exP3; rw [drain_all]; rfl
attribute [irreducible] exP2 exMem exP3
theorem ex_new13 (w : World) : Calls Try.prog 7 #[.int .i64 2, .string ⟨#[48, 49, 50, 51, 52, 53, 54, 55, 56, 57, 97, 98, 99, 100, 101, 102]⟩] w fun e w' => ∃ Xp, e = .returned (.tuple #[.pointer (some ⟨Xp, 0, none⟩), .int .i64 0]) ∧ OneP w.heap.size Xp 0 (newPo 2 poKey) w' ∧ Below w.heap.size w w' := by
  refine (at_new 2 (by omega) (by omega) poKey rfl w).mono ?_
  rintro e w' ⟨Xp, he, hP, hb⟩
  exact ⟨Xp, he, ⟨_, hP⟩, hb⟩
theorem ex_short (w : World) : Calls Try.prog 7 #[.int .i64 2, .string ⟨#[115, 104, 111, 114, 116]⟩] w fun e w' => e = .returned (.tuple #[.pointer none, .int .i64 1]) ∧ Below w.heap.size w w' := pool_bad 2 (by omega) (by omega) _ (by decide) w
theorem tup_zero : Value.agg #[.int .i64 6, .int .u32 0, .int .u32 0, .int .i64 0, .int .i64 0] = tupleV 6 0 0 0 0 := rfl
theorem ex_none {B Xp N : Nat} {p : Po} {w : World} (h : OneP B Xp N p w) (h0 : p.act = 0) : Calls Try.prog 17 #[.pointer (some ⟨Xp, 0, none⟩), .agg #[.int .i64 6, .int .u32 0, .int .u32 0, .int .i64 0, .int .i64 0]] w fun e w' => e = .returned (.tuple #[.agg #[.int .i64 0, .int .u32 0, .int .i64 0], .bool false]) ∧ Below w.heap.size w w' := by
  obtain ⟨S, h⟩ := h
  rw [tup_zero]
  exact at_choose_none h h0 6 0 0 0 0 (by omega) (by omega) (by omega) (by omega) (by omega)
theorem ex_five {B Xp N : Nat} {w : World} (h : OneP B Xp N exP2 w) : Calls Try.prog 17 #[.pointer (some ⟨Xp, 0, none⟩), .agg #[.int .i64 6, .int .u32 0, .int .u32 0, .int .i64 0, .int .i64 0]] w fun e w' => (∃ a q : Int, e = .returned (.tuple #[.agg #[.int .i64 5, .int .u32 a, .int .i64 q], .bool true])) ∧ Below w.heap.size w w' := by
  obtain ⟨S, h⟩ := h
  obtain ⟨id, hp⟩ := exGood2.pickId (by rw [exAct2]; omega) (tupK exP2.key 6 0 0 0 0)
  obtain ⟨m, g1, _⟩ := hp.mem exGood2
  have hid : id = 5 := by
    unfold exP2 at g1
    have g1 : (if id = 5 then some (⟨5, 7, 9, 1, (newB (newPo 2 poKey) : Int)⟩ : Mem) else none) = some m := g1
    split at g1
    · assumption
    · cases g1
  rw [hid] at hp g1
  rw [tup_zero]
  refine (at_choose h exGood2 (by rw [exAct2]; omega) 6 0 0 0 0 (by omega) (by omega) (by omega) (by omega) (by omega) hp g1).mono ?_
  rintro e w' ⟨he, hb⟩
  exact ⟨⟨_, _, he⟩, hb⟩
theorem ex_add13 {B Xp : Nat} {w : World} (h : OneP B Xp 0 (newPo 2 poKey) w) : Calls Try.prog 13 #[.pointer (some ⟨Xp, 0, none⟩), .agg #[.int .i64 5, .int .u32 7, .int .i64 9]] w fun e w' => e = .returned (.int .i64 0) ∧ OneP B Xp 1 exP2 w' ∧ Below B w w' := by
  unfold exP2
  exact h.call (fun S hS => at_add hS exGood1 (by unfold maxLen; omega) (by omega) (by omega) rfl (by show 0 < 2; omega))
theorem ex_drain13 {B Xp : Nat} {w : World} (h : OneP B Xp 1 exP2 w) : Calls Try.prog 14 #[.pointer (some ⟨Xp, 0, none⟩), .int .i64 5] w fun e w' => e = .returned (.int .i64 0) ∧ OneP B Xp 2 exP3 w' ∧ Below B w w' := by
  unfold exP3
  exact h.call (fun S hS => at_drain hS exGood2 (by unfold maxLen; omega) exAll2 (by unfold exMem; rfl))
theorem ex_get13 {B Xp : Nat} {w : World} (h : OneP B Xp 2 exP3 w) : Calls Try.prog 15 #[.pointer (some ⟨Xp, 0, none⟩), .int .i64 5] w fun e w' => (∃ i a q : Int, e = .returned (.tuple #[.agg #[.int .i64 i, .int .u32 a, .int .i64 q], .int .i64 2, .int .i64 0])) ∧ Below w.heap.size w w' := by
  obtain ⟨S, Sa, X, M, O, n, hP, hn, hB⟩ := h
  refine (get_some hP (i64_wf' (by omega) (by omega)) exAll3).mono ?_
  rintro e w' ⟨he, hb⟩
  exact ⟨⟨_, _, _, he⟩, hb⟩
end Go.Proofs.Ytlipkffnllmkgaa
