import Derived.Test.YtlipkffnllmkgaaHK
import Derived.Test.YtlipkffnllmkgaaH8
namespace Go.Proofs.Ytlipkffnllmkgaa
open Go.RowKit Go.Shelf Go.Maps
attribute [local go_sem] Oper.semAt_some

set_option maxRecDepth 100000 in
set_option maxHeartbeats 4000000 in
theorem pool_arg {S Sa : Nat → Prop} {Xp X M O n : Nat} {p : Po} {w : World} (h : PoolIn S Sa Xp X M O n p w) {id a pt : Int} (hw : (Lit.int .i64 id).wf = true) (hbad : ¬ (1 ≤ id ∧ id ≤ 65535 ∧ 0 ≤ pt ∧ pt ≤ 65535)) :
    Calls Try.prog 13 #[.pointer (some ⟨Xp, 0, none⟩), .agg #[.int .i64 id, .int .u32 a, .int .i64 pt]] w fun e w' => e = .returned (.int .i64 1) ∧ Below w.heap.size w w' := by
  have HQ : ∀ W, Below w.heap.size w W → ∃ u0 u1 u2 u3 u4, (Instr.lookup 63 (.map (some M)) (.int .i64 id) true).run Try.prog W = .ok (.tuple #[.agg #[.int .i64 u0, .int .u32 u1, .int .i64 u2, .int .i64 u3, .int .i64 u4], .bool (p.all id).isSome]) W := fun W hb => by
    have q1 := (h.below hb).all.look_ok Try.underlying63 (zero104 W) hw
    unfold Po.allV at q1
    cases e : p.all id with
    | none => rw [e] at q1; exact ⟨_, _, _, _, _, q1⟩
    | some m => rw [e] at q1; exact ⟨_, _, _, _, _, q1⟩
  obtain ⟨u0, u1, u2, u3, u4, q1⟩ := HQ _ ((Below.refl _ w).alloc (Nat.le_refl _) (.cells #[.int .i64 id, .int .u32 a, .int .i64 pt] 33)).drew
  obtain ⟨v0, v1, v2, v3, v4, q2⟩ := HQ _ (((Below.refl _ w).alloc (Nat.le_refl _) (.cells #[.int .i64 id, .int .u32 a, .int .i64 pt] 33)).alloc (by simp) (.cells #[.int .i64 0, .int .u32 0, .int .i64 0, .int .i64 0, .int .i64 0] 77)).drew
  clear HQ
  obtain ⟨⟨c0, c1, c2, c3, c4, c5⟩, z5⟩ := cells6 h.cells
  have hXl := h.low _ h.mem.1
  have HH := Lib.hid h
  clear h
  obtain ⟨th, hth⟩ : ∃ th, (p.all id).isSome = th := ⟨_, rfl⟩
  rw [hth] at q1 q2
  refine calls_of_endsP Try.func13 rfl ?_
  simp only [Try.ntmps13, List.size_toArray, List.length_cons, List.length_nil, Nat.reduceAdd, Nat.reduceSub, Array.replicate_succ, Array.replicate_zero, List.push_toArray, List.append_toArray, List.nil_append, List.cons_append]
  go_wp2_with fail
  go_cut [5, 6] from 8 to 17 (fun s5 s6 w' => s5 = .pointer (some ⟨w.heap.size + 1, 0, none⟩) ∧ s6 = .bool th ∧ ∃ t0 t1 t2 t3 t4, w' = ((w.alloc (.cells #[.int .i64 id, .int .u32 a, .int .i64 pt] 33)).alloc (.cells #[.int .i64 t0, .int .u32 t1, .int .i64 t2, .int .i64 t3, .int .i64 t4] 77)).drew)
  case first =>
    go_region
    all_goals
      go_wp2_with fail
      go_meet
      case rel => exact ⟨rfl, rfl, _, _, _, _, _, rfl⟩
  obtain ⟨rfl, rfl, t0, t1, t2, t3, t4, rfl⟩ := hcut
  clear q1 q2
  have hb3 : Below w.heap.size w ((w.alloc (.cells #[.int .i64 id, .int .u32 a, .int .i64 pt] 33)).alloc (.cells #[.int .i64 t0, .int .u32 t1, .int .i64 t2, .int .i64 t3, .int .i64 t4] 77)).drew := (((Below.refl _ w).alloc (Nat.le_refl _) _).alloc (by simp) _).drew
  obtain ⟨⟨x0, x1, x2, x3, x4, x5⟩, xz⟩ := cells6 (HH.out.below hb3).cells
  have HB3 := Lib.hid hb3
  clear hb3 c0 c1 c2 c3 c4 c5 z5
  by_cases g1 : id < 1
  · go_wp2_with fail
    exact ⟨.int .i64 1, by simp [results, Try.f13, go_sem], rfl, HB3.out⟩
  by_cases g2 : 65535 < id
  · go_wp2_with fail
    exact ⟨.int .i64 1, by simp [results, Try.f13, go_sem], rfl, HB3.out⟩
  by_cases g3 : pt < 0
  · go_wp2_with fail
    exact ⟨.int .i64 1, by simp [results, Try.f13, go_sem], rfl, HB3.out⟩
  have g4 : 65535 < pt := by omega
  go_wp2_with fail
  exact ⟨.int .i64 1, by simp [results, Try.f13, go_sem], rfl, HB3.out⟩

set_option maxRecDepth 100000 in
set_option maxHeartbeats 4000000 in
theorem pool_exists {S Sa : Nat → Prop} {Xp X M O n : Nat} {p : Po} {w : World} (h : PoolIn S Sa Xp X M O n p w) {id a pt : Int} (hw : (Lit.int .i64 id).wf = true) (hid : 1 ≤ id ∧ id ≤ 65535) (hpt : 0 ≤ pt ∧ pt ≤ 65535) (hm : (p.all id).isSome = true) :
    Calls Try.prog 13 #[.pointer (some ⟨Xp, 0, none⟩), .agg #[.int .i64 id, .int .u32 a, .int .i64 pt]] w fun e w' => e = .returned (.int .i64 20) ∧ Below w.heap.size w w' := by
  have HQ : ∀ W, Below w.heap.size w W → ∃ u0 u1 u2 u3 u4, (Instr.lookup 63 (.map (some M)) (.int .i64 id) true).run Try.prog W = .ok (.tuple #[.agg #[.int .i64 u0, .int .u32 u1, .int .i64 u2, .int .i64 u3, .int .i64 u4], .bool (p.all id).isSome]) W := fun W hb => by
    have q1 := (h.below hb).all.look_ok Try.underlying63 (zero104 W) hw
    unfold Po.allV at q1
    cases e : p.all id with
    | none => rw [e] at q1; exact ⟨_, _, _, _, _, q1⟩
    | some m => rw [e] at q1; exact ⟨_, _, _, _, _, q1⟩
  obtain ⟨u0, u1, u2, u3, u4, q1⟩ := HQ _ ((Below.refl _ w).alloc (Nat.le_refl _) (.cells #[.int .i64 id, .int .u32 a, .int .i64 pt] 33)).drew
  obtain ⟨v0, v1, v2, v3, v4, q2⟩ := HQ _ (((Below.refl _ w).alloc (Nat.le_refl _) (.cells #[.int .i64 id, .int .u32 a, .int .i64 pt] 33)).alloc (by simp) (.cells #[.int .i64 0, .int .u32 0, .int .i64 0, .int .i64 0, .int .i64 0] 77)).drew
  clear HQ
  obtain ⟨⟨c0, c1, c2, c3, c4, c5⟩, z5⟩ := cells6 h.cells
  have hXl := h.low _ h.mem.1
  have HH := Lib.hid h
  clear h
  obtain ⟨th, hth⟩ : ∃ th, (p.all id).isSome = th := ⟨_, rfl⟩
  rw [hth] at q1 q2
  have e2 : th = true := hth.symm.trans hm
  rw [e2] at q1 q2
  clear hth e2
  obtain ⟨g1, g2⟩ := hid
  obtain ⟨g3, g4⟩ := hpt
  refine calls_of_endsP Try.func13 rfl ?_
  simp only [Try.ntmps13, List.size_toArray, List.length_cons, List.length_nil, Nat.reduceAdd, Nat.reduceSub, Array.replicate_succ, Array.replicate_zero, List.push_toArray, List.append_toArray, List.nil_append, List.cons_append]
  go_wp2_with fail
  go_cut [5, 6] from 8 to 17 (fun s5 s6 w' => s5 = .pointer (some ⟨w.heap.size + 1, 0, none⟩) ∧ s6 = .bool true ∧ ∃ t0 t1 t2 t3 t4, w' = ((w.alloc (.cells #[.int .i64 id, .int .u32 a, .int .i64 pt] 33)).alloc (.cells #[.int .i64 t0, .int .u32 t1, .int .i64 t2, .int .i64 t3, .int .i64 t4] 77)).drew)
  case first =>
    go_region
    all_goals
      go_wp2_with fail
      go_meet
      case rel => exact ⟨rfl, rfl, _, _, _, _, _, rfl⟩
  obtain ⟨rfl, rfl, t0, t1, t2, t3, t4, rfl⟩ := hcut
  clear q1 q2
  have hb3 : Below w.heap.size w ((w.alloc (.cells #[.int .i64 id, .int .u32 a, .int .i64 pt] 33)).alloc (.cells #[.int .i64 t0, .int .u32 t1, .int .i64 t2, .int .i64 t3, .int .i64 t4] 77)).drew := (((Below.refl _ w).alloc (Nat.le_refl _) _).alloc (by simp) _).drew
  obtain ⟨⟨x0, x1, x2, x3, x4, x5⟩, xz⟩ := cells6 (HH.out.below hb3).cells
  have HB3 := Lib.hid hb3
  clear hb3 c0 c1 c2 c3 c4 c5 z5
  go_wp2_with fail
  exact ⟨.int .i64 20, by simp [results, Try.f13, go_sem], rfl, HB3.out⟩

set_option maxRecDepth 100000 in
set_option maxHeartbeats 4000000 in
theorem pool_full {S Sa : Nat → Prop} {Xp X M O n : Nat} {p : Po} {w : World} (h : PoolIn S Sa Xp X M O n p w) {id a pt : Int} (hw : (Lit.int .i64 id).wf = true) (hid : 1 ≤ id ∧ id ≤ 65535) (hpt : 0 ≤ pt ∧ pt ≤ 65535) (hm : p.all id = none) (hfull : p.act = p.room) :
    Calls Try.prog 13 #[.pointer (some ⟨Xp, 0, none⟩), .agg #[.int .i64 id, .int .u32 a, .int .i64 pt]] w fun e w' => e = .returned (.int .i64 16) ∧ Below w.heap.size w w' := by
  have HQ : ∀ W, Below w.heap.size w W → ∃ u0 u1 u2 u3 u4, (Instr.lookup 63 (.map (some M)) (.int .i64 id) true).run Try.prog W = .ok (.tuple #[.agg #[.int .i64 u0, .int .u32 u1, .int .i64 u2, .int .i64 u3, .int .i64 u4], .bool (p.all id).isSome]) W := fun W hb => by
    have q1 := (h.below hb).all.look_ok Try.underlying63 (zero104 W) hw
    unfold Po.allV at q1
    cases e : p.all id with
    | none => rw [e] at q1; exact ⟨_, _, _, _, _, q1⟩
    | some m => rw [e] at q1; exact ⟨_, _, _, _, _, q1⟩
  obtain ⟨u0, u1, u2, u3, u4, q1⟩ := HQ _ ((Below.refl _ w).alloc (Nat.le_refl _) (.cells #[.int .i64 id, .int .u32 a, .int .i64 pt] 33)).drew
  obtain ⟨v0, v1, v2, v3, v4, q2⟩ := HQ _ (((Below.refl _ w).alloc (Nat.le_refl _) (.cells #[.int .i64 id, .int .u32 a, .int .i64 pt] 33)).alloc (by simp) (.cells #[.int .i64 0, .int .u32 0, .int .i64 0, .int .i64 0, .int .i64 0] 77)).drew
  clear HQ
  obtain ⟨⟨c0, c1, c2, c3, c4, c5⟩, z5⟩ := cells6 h.cells
  have hXl := h.low _ h.mem.1
  have HH := Lib.hid h
  clear h
  obtain ⟨th, hth⟩ : ∃ th, (p.all id).isSome = th := ⟨_, rfl⟩
  rw [hth] at q1 q2
  have e2 : th = false := by rw [← hth, hm]; rfl
  rw [e2] at q1 q2
  clear hth e2 hm
  obtain ⟨g1, g2⟩ := hid
  obtain ⟨g3, g4⟩ := hpt
  have e1 : ((p.act : Int) == (p.room : Int)) = true := by rw [hfull]; simp
  refine calls_of_endsP Try.func13 rfl ?_
  simp only [Try.ntmps13, List.size_toArray, List.length_cons, List.length_nil, Nat.reduceAdd, Nat.reduceSub, Array.replicate_succ, Array.replicate_zero, List.push_toArray, List.append_toArray, List.nil_append, List.cons_append]
  go_wp2_with fail
  go_cut [5, 6] from 8 to 17 (fun s5 s6 w' => s5 = .pointer (some ⟨w.heap.size + 1, 0, none⟩) ∧ s6 = .bool false ∧ ∃ t0 t1 t2 t3 t4, w' = ((w.alloc (.cells #[.int .i64 id, .int .u32 a, .int .i64 pt] 33)).alloc (.cells #[.int .i64 t0, .int .u32 t1, .int .i64 t2, .int .i64 t3, .int .i64 t4] 77)).drew)
  case first =>
    go_region
    all_goals
      go_wp2_with fail
      go_meet
      case rel => exact ⟨rfl, rfl, _, _, _, _, _, rfl⟩
  obtain ⟨rfl, rfl, t0, t1, t2, t3, t4, rfl⟩ := hcut
  clear q1 q2
  have hb3 : Below w.heap.size w ((w.alloc (.cells #[.int .i64 id, .int .u32 a, .int .i64 pt] 33)).alloc (.cells #[.int .i64 t0, .int .u32 t1, .int .i64 t2, .int .i64 t3, .int .i64 t4] 77)).drew := (((Below.refl _ w).alloc (Nat.le_refl _) _).alloc (by simp) _).drew
  obtain ⟨⟨x0, x1, x2, x3, x4, x5⟩, xz⟩ := cells6 (HH.out.below hb3).cells
  have HB3 := Lib.hid hb3
  clear hb3 c0 c1 c2 c3 c4 c5 z5
  go_wp2_with fail
  go_region
  all_goals
    go_wp2_with fail
    exact ⟨.int .i64 16, by simp [results, Try.f13, go_sem], rfl, HB3.out.drew⟩
end Go.Proofs.Ytlipkffnllmkgaa

namespace Go.Proofs.Ytlipkffnllmkgaa
open Go.RowKit Go.Shelf Go.Maps

theorem gone_after {S S' Sa' : Nat → Prop} {Xp X M O n : Nat} {p1 : Po} {w w2 : World} {o : Obj} (hP : PoolIn S' Sa' Xp X M O n p1 w2) (hO : Only S (w.alloc o) w2) (hS : ∀ i, S' i → S i ∨ (w.alloc o).heap.size ≤ i) {id : Int} (hw : (Lit.int .i64 id).wf = true) :
    ∃ w4, (Builtin.delete_ #[63, 3] 0 #[.map (some M), .int .i64 id]).run Try.prog w2 = .ok (.tuple #[]) w4 ∧ PoolIn S' Sa' Xp X M O n (p1.gone id) w4 ∧ Only S w w4 ∧ ∀ i, S' i → S i ∨ w.heap.size ≤ i := by
  obtain ⟨w4, hrun, hP4, hO4⟩ := after_gone hP hw
  have hsz : (w.alloc o).heap.size = w.heap.size + 1 := by simp
  have hS2 : ∀ i, S' i → S i ∨ w.heap.size ≤ i := fun i hi => (hS i hi).imp (fun h => h) (fun h => by omega)
  have h1 : Only S w w2 := (Only.of_below ((Below.refl _ w).alloc (Nat.le_refl _) o)).trans hO (fun i _ e => e)
  exact ⟨w4, hrun, hP4, h1.trans hO4 (fun i hi e => (hS2 i e).resolve_right (by omega)), hS2⟩

set_option maxRecDepth 100000 in
set_option maxHeartbeats 1000000 in
theorem remove_more {S Sa : Nat → Prop} {Xp X M O n : Nat} {p : Po} {w : World} (h : PoolIn S Sa Xp X M O n p w) {id : Int} (hw : (Lit.int .i64 id).wf = true) {m : Mem} (hm : p.all id = some m) (hs : m.state = 1) (b : Nat) (hb : m.bucket = (b : Int)) (hb1 : b < p.anc.room) (hg : p.anc.gone b = 0) (h2 : 2 ≤ p.act) (h3 : p.act ≤ 65536) (hn : p.anc.n = p.act) (hwb : (Lit.int .i64 (b : Int)).wf = true) :
    Calls Try.prog 16 #[.pointer (some ⟨Xp, 0, none⟩), .int .i64 id] w fun e w' => e = .returned (.int .i64 0) ∧ ∃ S' Sa' : Nat → Prop, PoolIn S' Sa' Xp X M O n (({ (p.drop b) with anc := rem p.anc b, act := p.act - 1 } : Po).gone id) w' ∧ Only S w w' ∧ ∀ i, S' i → S i ∨ w.heap.size ≤ i := by
  have q1 := look_mem h hw hm
  obtain ⟨⟨c0, c1, c2, c3, c4, c5⟩, z5⟩ := cells6 h.cells
  have HL := Lib.hid (fun (o : Obj) => leave_more (h.below ((Below.refl _ w).alloc (Nat.le_refl _) o)) m hs b hb hb1 hg h2 h3 hn hwb)
  unfold Mem.val at HL
  rw [hs, hb] at q1 HL
  have _HLOW := Lib.hid h.low
  clear hs hb hm
  generalize ({ (p.drop b) with anc := rem p.anc b, act := p.act - 1 } : Po) = p1 at *
  go_enter Try.func16, Try.ntmps16
  go_wp2_with (go_at_call 30; refine (HL.out _).mono ?_; rintro e w2 ⟨rfl, S', Sa', hP, hO, hS⟩; obtain ⟨w4, hrun, hP4, hO4, hS4⟩ := gone_after hP hO hS hw; obtain ⟨⟨t0, t1, t2, t3, t4, t5⟩, _⟩ := cells6 hP.cells; have HP4 := Lib.hid (And.intro hP4 (And.intro hO4 hS4)); clear hP hO hS hP4 hO4 hS4)
  go_ret
  exact ⟨rfl, S', Sa', HP4.out.1, HP4.out.2.1, HP4.out.2.2⟩

set_option maxRecDepth 100000 in
set_option maxHeartbeats 1000000 in
theorem remove_last {S Sa : Nat → Prop} {Xp X M O n : Nat} {p : Po} {w : World} (h : PoolIn S Sa Xp X M O n p w) {id : Int} (hw : (Lit.int .i64 id).wf = true) {m : Mem} (hm : p.all id = some m) (hs : m.state = 1) (b : Nat) (hb : m.bucket = (b : Int)) (h2 : p.act = 1) (hwb : (Lit.int .i64 (b : Int)).wf = true) :
    Calls Try.prog 16 #[.pointer (some ⟨Xp, 0, none⟩), .int .i64 id] w fun e w' => e = .returned (.int .i64 0) ∧ PoolIn S Sa Xp X M O n (({ (p.drop b) with act := 0 } : Po).gone id) w' ∧ Only S w w' := by
  have q1 := look_mem h hw hm
  obtain ⟨⟨c0, c1, c2, c3, c4, c5⟩, z5⟩ := cells6 h.cells
  have HL := Lib.hid (fun (o : Obj) => leave_last (h.below ((Below.refl _ w).alloc (Nat.le_refl _) o)) m hs b hb h2 hwb)
  unfold Mem.val at HL
  rw [hs, hb] at q1 HL
  have _HLOW := Lib.hid h.low
  clear hs hb hm
  generalize ({ (p.drop b) with act := 0 } : Po) = p1 at *
  go_enter Try.func16, Try.ntmps16
  go_wp2_with (go_at_call 30; refine (HL.out _).mono ?_; rintro e w2 ⟨rfl, hP, hO⟩; obtain ⟨w4, hrun, hP4, hO4, hS4⟩ := gone_after hP hO (fun _ h => .inl h) hw; obtain ⟨⟨t0, t1, t2, t3, t4, t5⟩, _⟩ := cells6 hP.cells; have HP4 := Lib.hid (And.intro hP4 hO4); clear hP hO hP4 hO4 hS4)
  go_ret
  exact ⟨rfl, HP4.out⟩

set_option maxRecDepth 100000 in
set_option maxHeartbeats 1000000 in
theorem get_none {S Sa : Nat → Prop} {Xp X M O n : Nat} {p : Po} {w : World} (h : PoolIn S Sa Xp X M O n p w) {id : Int} (hw : (Lit.int .i64 id).wf = true) (hm : p.all id = none) :
    Calls Try.prog 15 #[.pointer (some ⟨Xp, 0, none⟩), .int .i64 id] w fun e w' => e = .returned (.tuple #[.agg #[.int .i64 0, .int .u32 0, .int .i64 0], .int .i64 0, .int .i64 19]) ∧ Below w.heap.size w w' := by
  have hb := (Below.refl w.heap.size w).alloc (Nat.le_refl _) (.cells #[.int .i64 0, .int .u32 0, .int .i64 0] 33)
  obtain ⟨⟨c0, c1, c2, c3, c4, c5⟩, z5⟩ := cells6 (h.below hb).cells
  have q1 := (h.below hb).all.look_ok Try.underlying63 (zero104 _) hw
  have hv : p.allV id = none := by unfold Po.allV; rw [hm]; rfl
  rw [hv] at q1
  unfold noMem at q1
  simp only [Option.getD_none, Option.isSome_none] at q1
  have q2 := (h.below (hb.alloc (by simp) (.cells #[.int .i64 0, .int .u32 0, .int .i64 0, .int .i64 0, .int .i64 0] 77)).drew).all.look_ok Try.underlying63 (zero104 _) hw
  rw [hv] at q2
  unfold noMem at q2
  simp only [Option.getD_none, Option.isSome_none] at q2
  have hXl := h.low _ h.mem.1
  clear h hm hb
  go_enter Try.func15, Try.ntmps15
  go_wp2_with fail
  have k2 : ((w.alloc (.cells #[.int .i64 0, .int .u32 0, .int .i64 0] 33)).alloc (.cells #[.int .i64 0, .int .u32 0, .int .i64 0, .int .i64 0, .int .i64 0] 77)).heap[w.heap.size]? = some (.cells #[.int .i64 0, .int .u32 0, .int .i64 0] 33) := (Below.heap_alloc _ _ _ (by simp)).trans (World.alloc_heap_new w _)
  obtain ⟨⟨d0, d1, d2⟩, _⟩ := cells3 k2
  exact ⟨rfl, .tuple #[.agg #[.int .i64 0, .int .u32 0, .int .i64 0], .int .i64 0, .int .i64 19], by simp [results, Try.f15, go_sem, d0, d1, d2], rfl, ((Below.refl _ w).alloc (Nat.le_refl _) _).alloc (by simp) _⟩
end Go.Proofs.Ytlipkffnllmkgaa
