/- Texts of this proof, put together: GQ GW GX GY. -/
import Derived.Test.YtpbknbnhljjjcaaDoorML
import Derived.Deep.Grids
import Derived.Test.YtpbknbnhljjjcaaDoorMK5
import Derived.Deep.RegionHeld3
import Derived.BigQuiet
namespace Go.Proofs.YtpbknbnhljjjcaaDoor
open Go.RowKit Go.Maps Go.Lib Go.Deep
/-- A slice of integers that came in. -/
def RowIn (k : IntKind) (w : World) (a : Option Addr) (len cap : Nat) (zs : List Int) : Prop :=
  (a = none ∧ len = 0 ∧ cap = 0 ∧ zs = []) ∨
  ∃ x, a = some x ∧ len ≤ cap ∧ cap ≤ maxLen ∧ zs.length = cap ∧ (∀ i, i < zs.length → w.cell? (x.add i) = some (.int k (zs.getD i 0))) ∧ ∀ n ∈ zs, (Lit.int k n).wf = true
theorem cell_back {w w' : World} {p : Addr} {v : Value} (h : w.cell? p = some v) (hb : Below w.heap.size w w') : w'.cell? p = some v := by
  rw [hb.cell (p := p) ?_]
  · exact h
  · by_cases hl : p.block < w.heap.size
    · exact hl
    · simp [World.cell?, Array.getElem?_eq_none (Nat.le_of_not_lt hl)] at h
theorem RowIn.read {k : IntKind} {w w' : World} {a : Option Addr} {len cap : Nat} {zs : List Int} (h : RowIn k w a len cap zs) (hb : Below w.heap.size w w') {i : Nat} (hi : i < len) :
    ∃ x, a = some x ∧ len ≤ cap ∧ cap ≤ maxLen ∧ w'.cell? (x.add i) = some (.int k (zs.getD i 0)) ∧ (Lit.int k (zs.getD i 0)).wf = true := by
  rcases h with ⟨_, h, _⟩ | ⟨x, h1, h2, h3, h4, h5, h6⟩
  · omega
  · refine ⟨x, h1, h2, h3, cell_back (h5 i (by omega)) hb, h6 _ ?_⟩
    rw [List.getD_eq_getElem?_getD, List.getElem?_eq_getElem (by omega)]
    exact List.getElem_mem _
theorem RowIn.len {k : IntKind} {w : World} {a : Option Addr} {len cap : Nat} {zs : List Int} (h : RowIn k w a len cap zs) : len ≤ cap ∧ cap ≤ maxLen := by
  rcases h with ⟨_, h, h2, _⟩ | ⟨x, h1, h2, h3, _⟩
  · exact ⟨by omega, by unfold maxLen; omega⟩
  · exact ⟨h2, h3⟩
/-- A slice of bools that came in. -/
def BoolsIn (w : World) (a : Option Addr) (len cap : Nat) (B : Nat → Bool) : Prop :=
  (a = none ∧ len = 0 ∧ cap = 0) ∨ ∃ x, a = some x ∧ len ≤ cap ∧ cap ≤ maxLen ∧ ∀ i, i < cap → w.cell? (x.add i) = some (.bool (B i))
theorem BoolsIn.read {w w' : World} {a : Option Addr} {len cap : Nat} {B : Nat → Bool} (h : BoolsIn w a len cap B) (hb : Below w.heap.size w w') {i : Nat} (hi : i < len) :
    ∃ x, a = some x ∧ len ≤ cap ∧ cap ≤ maxLen ∧ w'.cell? (x.add i) = some (.bool (B i)) := by
  rcases h with ⟨_, h, _⟩ | ⟨x, h1, h2, h3, h4⟩
  · omega
  · exact ⟨x, h1, h2, h3, cell_back (h4 i (by omega)) hb⟩
theorem BoolsIn.len {w : World} {a : Option Addr} {len cap : Nat} {B : Nat → Bool} (h : BoolsIn w a len cap B) : len ≤ cap ∧ cap ≤ maxLen := by
  rcases h with ⟨_, h, h2⟩ | ⟨x, h1, h2, h3, _⟩
  · exact ⟨by omega, by unfold maxLen; omega⟩
  · exact ⟨h2, h3⟩
theorem open_boolsIn {H : Type} {enc : TypeId × Value → H} {w : World} {base : Nat} {held : Bool} {fuel : Nat} {a : Option Addr} {len cap : Nat} {x : DataW H × List MemPlace}
    (h : DataW.trod enc Tryd.prog w base (fun _ => true) held fuel 47 (Value.slice a len cap).cells.toList = some x) : ∃ B, BoolsIn w a len cap B := by
  rcases open_bools Tryd.underlying47 Tryd.underlying4 (by kernel_rfl) h with ⟨hc, _⟩ | ⟨y, l, c, B, hc, _, hl, hm, _, hx⟩
  · simp [Value.cells] at hc
    obtain ⟨rfl, rfl, rfl⟩ := hc
    exact ⟨fun _ => false, .inl ⟨rfl, rfl, rfl⟩⟩
  · simp [Value.cells] at hc
    obtain ⟨rfl, rfl, rfl⟩ := hc
    exact ⟨B, .inr ⟨y, rfl, hl, hm, hx⟩⟩
theorem step_le (s : Nat) (hs : 1 ≤ s ∧ s ≤ 7) (b : Bool) (z : Int) : (stepF s b z).1 ≤ 7 := by
  unfold stepF
  generalize fl z 4 = r
  generalize fl z 2 = y
  generalize fl z 16 = a
  generalize fl z 1 = f
  obtain rfl | rfl | rfl | rfl | rfl | rfl | rfl : s = 1 ∨ s = 2 ∨ s = 3 ∨ s = 4 ∨ s = 5 ∨ s = 6 ∨ s = 7 := by omega
  all_goals cases r <;> cases y <;> cases a <;> cases f <;> cases b <;> decide
theorem time_of (r x : Nat) (hx : 1 ≤ x ∧ x ≤ 7) : ∃ n : Nat, (cfR r).tm.of (x : Int) = some (n : Int) ∧ 1 ≤ n ∧ n ≤ 50 := by
  obtain rfl | rfl | rfl | rfl | rfl | rfl | rfl : x = 1 ∨ x = 2 ∨ x = 3 ∨ x = 4 ∨ x = 5 ∨ x = 6 ∨ x = 7 := by omega
  · exact ⟨5, rfl, by omega, by omega⟩
  · exact ⟨5, rfl, by omega, by omega⟩
  · exact ⟨50, rfl, by omega, by omega⟩
  · exact ⟨9, rfl, by omega, by omega⟩
  · exact ⟨9, rfl, by omega, by omega⟩
  · exact ⟨9, rfl, by omega, by omega⟩
  · exact ⟨7, rfl, by omega, by omega⟩
theorem fstep_tcp (s : Nat) (b : Bool) (z : Int) : fstep 6 s b z = stepF s b z := rfl
theorem u8_range {n : Int} (h : (Lit.int .u8 n).wf = true) : 0 ≤ n ∧ n < 256 := by
  simp [Lit.wf, IntKind.min, IntKind.max, IntKind.signed, IntKind.bits] at h
  omega
/-- A block of somebody's, and what lies in it. -/
def My (b : Nat) (o : Obj) (U : Nat → Prop) (W : World) : Prop := Mine b U W ∧ W.heap[b]? = some o
section
variable {pl : Pl} {c : Cf} {w : World} {g : FlG} {U : Nat → Prop} {W W' : World} {b : Nat} {o : Obj}
theorem My.new (h : Lv pl c w g U W) (o : Obj) : My W.heap.size o U (W.alloc o) := ⟨Mine.new h o, heap_alloc_new W o⟩
theorem My.below (h : My b o U W) (hb : Below W.heap.size W W') : My b o U W' := ⟨(h.1.below hb).1, (h.1.below hb).2.trans h.2⟩
theorem My.step {V : Nat → Prop} (h : My b o U W) (k2 : Only U W W') (k3 : ∀ i, V i → U i ∨ W.heap.size ≤ i) : My b o V W' := ⟨(h.1.step k2 k3).1, (h.1.step k2 k3).2.trans h.2⟩
end
end Go.Proofs.YtpbknbnhljjjcaaDoor

namespace Go.Proofs.YtpbknbnhljjjcaaDoor
open Go.RowKit Go.Maps Go.Lib
/-- A part that is there has been asked for a port. -/
def tookG (c : Cf) (g : FlG) (K : PKey) (r : Option Nat) : FlG := { g with N := g.N + 1, parts := updL g.parts K (takeP (afterP (g.parts K) g.now) c.many r) }
theorem take_in_there {S : Nat → Prop} {pl : Pl} {c : Cf} {g : FlG} {w : World} (h : Fls pl c g S w) (hTb : TabAt 0 Lib.deBruijn64tab w) (hT0 : 0 < w.heap.size ∧ ¬ S 0) {K : PKey} (hK : K.ok) {pb : PB} (hp : g.lay K = some pb) (hN : g.N < 1000000) (hlow : c.low ≤ 65536) (hnow : g.now ≤ 1099511627776) (hgu : ∀ i u, (g.parts K).given i = some u → i < c.many ∧ (g.parts K).used i = true) (hmany : c.many ≤ 64) (r : Option Nat) (hr : TakeSays (afterP (g.parts K) g.now) c.many r) :
    Calls Tryd.prog 34 #[.pointer (some ⟨pl.P, 0, none⟩), K.v, .int .i64 (g.now : Int)] w fun e w' => e = .returned (.tuple #[.int .i64 (takeN c.low r), .int .i64 (takeE r)]) ∧ Tn (Fls pl c (tookG c g K r)) S w w' := by
  obtain ⟨S1, hc, hsub, hT⟩ := Tri.one (B := PortsC pl.P pl.MP c (g.N + 1) g.lay (updL g.parts K (takeP (afterP (g.parts K) g.now) c.many r))) (clkC ..) (tabC ..) h
  refine (take_there (show PortsIn S1 pl.P pl.MP c.low c.many c.rest g.N g.lay g.parts w from hc) hTb ⟨hT0.1, fun e => hT0.2 (hsub 0 e)⟩ hK hp hN hlow g.now hnow hgu hmany r hr).mono ?_
  rintro e w' ⟨rfl, h1, h2⟩
  exact ⟨rfl, hT w' ⟨S1, h1, h2, fun i hi => .inl hi⟩⟩
set_option maxRecDepth 100000 in
set_option maxHeartbeats 4000000 in
theorem open_full {S : Nat → Prop} {pl : Pl} {c : Cf} {g : FlG} {w : World} (h : Fls pl c g S w) {xs xd xx xy : Int} (hx : Net ⟨6, xs, xd, xx, xy⟩) (sv nat bi ba bp flags : Int) (s : Nat) (hst : fstep 6 0 false flags = (s, true)) (hno : g.t.fA ⟨6, xs, xd, xx, xy⟩ = none) (hroom : g.t.n = c.room) :
    Calls Tryd.prog 15 #[.pointer (some ⟨pl.F, 0, none⟩), .agg #[.int .i64 6, .int .u32 xs, .int .u32 xd, .int .i64 xx, .int .i64 xy], .int .i64 sv, .int .u32 nat, .agg #[.int .i64 bi, .int .u32 ba, .int .i64 bp], .int .i64 flags] w fun e w' => e = .returned (.tuple #[.int .i64 0, .int .i64 16]) ∧ Below w.heap.size w w' := by
  obtain ⟨ks, hks⟩ := key_net hx
  have HKEY := Lib.hid hks
  have hxo := hx.ok
  obtain ⟨w1, hw1⟩ : ∃ w1, (w.alloc (boxT ⟨6, xs, xd, xx, xy⟩)).alloc (boxB bi ba bp) = w1 := ⟨_, rfl⟩
  have hb1 : Below w.heap.size w w1 := by rw [← hw1]; exact ((Below.refl _ w).alloc (Nat.le_refl _) _).alloc (by simp) _
  have hs1 : w1.heap.size = w.heap.size + 2 := by rw [← hw1]; simp
  have x7 : w1.heap[w.heap.size]? = some (boxT ⟨6, xs, xd, xx, xy⟩) := by
    rw [← hw1]
    exact (Below.heap_alloc _ _ _ (by simp)).trans (heap_alloc_new w _)
  have x10 : w1.heap[w.heap.size + 1]? = some (boxB bi ba bp) := by
    rw [← hw1]
    have := heap_alloc_new (w.alloc (boxT ⟨6, xs, xd, xx, xy⟩)) (boxB bi ba bp)
    rwa [World.size_alloc] at this
  have h1 := h.below hb1
  have HK := Lib.hid (show ∀ W : World, Below w1.heap.size w1 W → (W.cell? ⟨pl.F, 5, none⟩ = some (.pointer (some ⟨pl.P, 0, none⟩)) ∧ W.cell? ⟨pl.F, 7, none⟩ = some (.pointer (some ⟨pl.T, 0, none⟩)) ∧ W.cell? ⟨pl.F, 8, none⟩ = some (.int .i64 (c.room : Int)) ∧ W.cell? ⟨w.heap.size, 0, none⟩ = some (.int .i64 6) ∧ W.cell? ⟨w.heap.size, 1, none⟩ = some (.int .u32 xs) ∧ W.cell? ⟨w.heap.size, 2, none⟩ = some (.int .u32 xd) ∧ W.cell? ⟨w.heap.size, 3, none⟩ = some (.int .i64 xx) ∧ W.cell? ⟨w.heap.size, 4, none⟩ = some (.int .i64 xy) ∧ W.cell? ⟨(w.heap.size + 1), 0, none⟩ = some (.int .i64 bi) ∧ W.cell? ⟨(w.heap.size + 1), 1, none⟩ = some (.int .u32 ba) ∧ W.cell? ⟨(w.heap.size + 1), 2, none⟩ = some (.int .i64 bp)) from fun W hb => by
    obtain ⟨t0, t1, t2, t3, t4⟩ := boxT_cells ((hb.block _ (by omega)).trans x7)
    have e10 := (hb.block _ (by omega)).trans x10
    unfold boxB at e10
    have k := (h1.below hb).cells
    exact ⟨k.pp, k.tt, k.rr, t0, t1, t2, t3, t4, by simp [World.cell?, e10], by simp [World.cell?, e10], by simp [World.cell?, e10]⟩)
  have HLN := Lib.hid (fun (W : World) (hb : Below w1.heap.size w1 W) => len_fl (h1.below hb))
  have HNW := Lib.hid (fun (W : World) (hb : Below w1.heap.size w1 W) => now_fl (h1.below hb))
  have HAH := Lib.hid (fun (W : World) (hb : Below w1.heap.size w1 W) => ahead_fl (h1.below hb) hxo)
  have HSTP := Lib.hid (fun (W : World) => (show Calls Tryd.prog 33 #[.int .i64 6, .int .i64 0, .bool false, .int .i64 flags] W fun e w' => e = .returned (.tuple #[.int .i64 ((fstep 6 0 false flags).1 : Int), .bool (fstep 6 0 false flags).2]) ∧ Below W.heap.size W w' from fstep_ok 6 0 (by omega) false flags W))
  rw [hst] at HSTP
  rw [hno] at HAH
  unfold hT at HAH
  rw [hroom] at HLN
  have HW := Lib.hid hw1
  have HB1 := Lib.hid hb1
  obtain ⟨si, hsi⟩ : ∃ si, (s : Int) = si := ⟨_, rfl⟩
  obtain ⟨rm, hrm⟩ : ∃ rm, (c.room : Int) = rm := ⟨_, rfl⟩
  rw [hrm] at HLN HK
  simp only [hsi] at *
  have hnr : (rm == rm) = true := by simp
  clear hsi hrm h h1 hx hks hxo hw1 hb1 hs1 x7 x10 hst hno hroom
  unfold Tup.v at HKEY HAH
  dsimp only at HKEY HAH
  unfold boxT boxB at HW
  dsimp only at HW
  go_enter Tryd.func15, Tryd.ntmps15
  go_upto_region 1 with fail
  refine wp_world w1 HW.out ?_
  obtain ⟨cp, ct, cr, a0, a1, a2, a3, a4, b0, b1, b2⟩ := HK.out _ (Below.refl _ _)
  go_upto_region 2 with (go_at_call 32; refine (HKEY.out _).mono ?_; rintro e w2 ⟨rfl, hb⟩; have HB2 := Lib.hid hb; clear hb)
  clear cp ct cr a0 a1 a2 a3 a4 b0 b1 b2
  obtain ⟨cp, ct, cr, a0, a1, a2, a3, a4, b0, b1, b2⟩ := HK.out _ HB2.out
  go_upto_region 5 with (go_at_call 33; refine (HSTP.out _).mono ?_; rintro e w3 ⟨rfl, hb⟩; have HB3 := Lib.hid (HB2.out.trans (hb.mono HB2.out.size)); clear hb)
  clear cp ct cr a0 a1 a2 a3 a4 b0 b1 b2
  obtain ⟨cp, ct, cr, a0, a1, a2, a3, a4, b0, b1, b2⟩ := HK.out _ HB3.out
  go_upto_region 8 with (go_at_call 22; refine (HAH.out _ HB3.out).mono ?_; rintro e w4 ⟨rfl, hb⟩; have HB4 := Lib.hid (HB3.out.trans (hb.mono HB3.out.size)); clear hb)
  clear cp ct cr a0 a1 a2 a3 a4 b0 b1 b2
  obtain ⟨cp, ct, cr, a0, a1, a2, a3, a4, b0, b1, b2⟩ := HK.out _ HB4.out
  go_upto_region 10 with fail
  go_quiet ((first
    | (go_at_call 17; exact Calls.quiet_of_same (HLN.out _ (below_drewN HB4.out _)))
    | (go_at_call 26; exact Calls.quiet_of_same (HNW.out _ (below_drewN HB4.out _)))))
  go_wp2_with fail
  go_ret2
  exact ⟨rfl, HB1.out.trans ((below_drewN HB4.out _).mono HB1.out.size)⟩
set_option maxRecDepth 100000 in
set_option maxHeartbeats 4000000 in
theorem open_ports {S : Nat → Prop} {pl : Pl} {c : Cf} {g : FlG} {w : World} (h : Fls pl c g S w) (hTb : TabAt 0 Lib.deBruijn64tab w) (hT0 : 0 < w.heap.size ∧ ¬ S 0) {xs xd xx xy : Int} (hx : Net ⟨6, xs, xd, xx, xy⟩) (sv nat bi ba bp flags : Int) (hnat : (nat == 0) = false) (s : Nat) (hst : fstep 6 0 false flags = (s, true)) (hno : g.t.fA ⟨6, xs, xd, xx, xy⟩ = none) (hroom : g.t.n ≠ c.room) (hnow : g.now < 1099511627776) (RT : FlG → Prop)
    (hTk : ∀ (U : Nat → Prop) (W : World), Fls pl c g U W → TabAt 0 Lib.deBruijn64tab W → (0 < W.heap.size ∧ ¬ U 0) → Calls Tryd.prog 34 #[.pointer (some ⟨pl.P, 0, none⟩), .agg #[.int .i64 6, .int .u32 nat, .int .u32 ba, .int .i64 bp], .int .i64 (g.now : Int)] W fun e w' => e = .returned (.tuple #[.int .i64 0, .int .i64 17]) ∧ ∃ g1, RT g1 ∧ Tn (Fls pl c g1) U W w') :
    Calls Tryd.prog 15 #[.pointer (some ⟨pl.F, 0, none⟩), .agg #[.int .i64 6, .int .u32 xs, .int .u32 xd, .int .i64 xx, .int .i64 xy], .int .i64 sv, .int .u32 nat, .agg #[.int .i64 bi, .int .u32 ba, .int .i64 bp], .int .i64 flags] w fun e w' => e = .returned (.tuple #[.int .i64 0, .int .i64 17]) ∧ ∃ g1, RT g1 ∧ Tn (Fls pl c g1) S w w' := by
  obtain ⟨ks, hks⟩ := key_net hx
  have HKEY := Lib.hid hks
  have hxo := hx.ok
  obtain ⟨w1, hw1⟩ : ∃ w1, (w.alloc (boxT ⟨6, xs, xd, xx, xy⟩)).alloc (boxB bi ba bp) = w1 := ⟨_, rfl⟩
  have hb1 : Below w.heap.size w w1 := by rw [← hw1]; exact ((Below.refl _ w).alloc (Nat.le_refl _) _).alloc (by simp) _
  have hs1 : w1.heap.size = w.heap.size + 2 := by rw [← hw1]; simp
  have x7 : w1.heap[w.heap.size]? = some (boxT ⟨6, xs, xd, xx, xy⟩) := by
    rw [← hw1]
    exact (Below.heap_alloc _ _ _ (by simp)).trans (heap_alloc_new w _)
  have x10 : w1.heap[w.heap.size + 1]? = some (boxB bi ba bp) := by
    rw [← hw1]
    have := heap_alloc_new (w.alloc (boxT ⟨6, xs, xd, xx, xy⟩)) (boxB bi ba bp)
    rwa [World.size_alloc] at this
  have h1 := h.below hb1
  have HK := Lib.hid (show ∀ W : World, Below w1.heap.size w1 W → (W.cell? ⟨pl.F, 5, none⟩ = some (.pointer (some ⟨pl.P, 0, none⟩)) ∧ W.cell? ⟨pl.F, 7, none⟩ = some (.pointer (some ⟨pl.T, 0, none⟩)) ∧ W.cell? ⟨pl.F, 8, none⟩ = some (.int .i64 (c.room : Int)) ∧ W.cell? ⟨w.heap.size, 0, none⟩ = some (.int .i64 6) ∧ W.cell? ⟨w.heap.size, 1, none⟩ = some (.int .u32 xs) ∧ W.cell? ⟨w.heap.size, 2, none⟩ = some (.int .u32 xd) ∧ W.cell? ⟨w.heap.size, 3, none⟩ = some (.int .i64 xx) ∧ W.cell? ⟨w.heap.size, 4, none⟩ = some (.int .i64 xy) ∧ W.cell? ⟨(w.heap.size + 1), 0, none⟩ = some (.int .i64 bi) ∧ W.cell? ⟨(w.heap.size + 1), 1, none⟩ = some (.int .u32 ba) ∧ W.cell? ⟨(w.heap.size + 1), 2, none⟩ = some (.int .i64 bp)) from fun W hb => by
    obtain ⟨t0, t1, t2, t3, t4⟩ := boxT_cells ((hb.block _ (by omega)).trans x7)
    have e10 := (hb.block _ (by omega)).trans x10
    unfold boxB at e10
    have k := (h1.below hb).cells
    exact ⟨k.pp, k.tt, k.rr, t0, t1, t2, t3, t4, by simp [World.cell?, e10], by simp [World.cell?, e10], by simp [World.cell?, e10]⟩)
  have HLN := Lib.hid (fun (W : World) (hb : Below w1.heap.size w1 W) => len_fl (h1.below hb))
  have HNW := Lib.hid (fun (W : World) (hb : Below w1.heap.size w1 W) => now_fl (h1.below hb))
  have HAH := Lib.hid (fun (W : World) (hb : Below w1.heap.size w1 W) => ahead_fl (h1.below hb) hxo)
  have HSTP := Lib.hid (fun (W : World) => (show Calls Tryd.prog 33 #[.int .i64 6, .int .i64 0, .bool false, .int .i64 flags] W fun e w' => e = .returned (.tuple #[.int .i64 ((fstep 6 0 false flags).1 : Int), .bool (fstep 6 0 false flags).2]) ∧ Below W.heap.size W w' from fstep_ok 6 0 (by omega) false flags W))
  rw [hst] at HSTP
  have HNO := Lib.hid hno
  rw [hno] at HAH
  unfold hT at HAH
  have HNR := Lib.hid (show ((g.t.n : Int) == (c.room : Int)) = false from by simp; omega)
  have HNN := Lib.hid (show ((g.now : Int) == 1099511627776) = false from by simp; omega)
  have hS1 : ∀ i, S i → i < w1.heap.size := fun i hi => Fls.comp.low h1 i hi
  have hT1 : TabAt 0 Lib.deBruijn64tab w1 := TabAt.kept hTb (hb1.block 0 hT0.1)
  have hT01 : 0 < w1.heap.size ∧ ¬ S 0 := ⟨by omega, hT0.2⟩
  have HC := Lib.hid (fun (wx : World) (hb : Below w1.heap.size w1 wx) => cpy_box hb (⟨⟨6, xs, xd, xx, xy⟩, ⟨6, xs, xd, xx, xy⟩, sv, bi, (s : Int), false⟩ : Fw))
  have HO := Lib.hid (flow_one (⟨⟨6, xs, xd, xx, xy⟩, ⟨6, xs, xd, xx, xy⟩, sv, bi, (s : Int), false⟩ : Fw))
  have HKO := Lib.hid (fun (W : World) => keyOf_ok (⟨⟨6, xs, xd, xx, xy⟩, ⟨6, nat, ba, xx, bp⟩, sv, bi, (s : Int), false⟩ : Fw) W)
  have HTK := Lib.hid (show ∀ (bx : Nat) (W : World), Cpy w1 bx (⟨⟨6, xs, xd, xx, xy⟩, ⟨6, nat, ba, xx, bp⟩, sv, bi, (s : Int), false⟩ : Fw) W → Calls Tryd.prog 34 #[.pointer (some ⟨pl.P, 0, none⟩), .agg #[.int .i64 6, .int .u32 nat, .int .u32 ba, .int .i64 bp], .int .i64 (g.now : Int)] W fun e w' => e = .returned (.tuple #[.int .i64 0, .int .i64 17]) ∧ ∃ g1, RT g1 ∧ ∃ U, St pl c S w1 bx bx (⟨⟨6, xs, xd, xx, xy⟩, ⟨6, nat, ba, xx, bp⟩, sv, bi, (s : Int), false⟩ : Fw) g1 U w' from fun bx W k => by
    have s0 := k.start h1
    obtain ⟨z1, z2⟩ := s0.tab hT1 hT01
    refine (hTk _ _ s0.fl z1 z2).mono ?_
    rintro e w' ⟨rfl, g1, r1, t1⟩
    exact ⟨rfl, g1, r1, s0.step t1⟩)
  have HEN := Lib.hid (show ∀ (bx : Nat) (g1 : FlG) (U : Nat → Prop) (W : World), St pl c S w1 bx bx (⟨⟨6, xs, xd, xx, xy⟩, ⟨6, nat, ba, xx, bp⟩, sv, bi, (s : Int), false⟩ : Fw) g1 U W → Tn (Fls pl c g1) S w W from fun bx g1 U W k => Tn.after hb1 ⟨U, k.fl, k.on, k.new⟩)
  have HS1 := Lib.hid hs1
  have HW := Lib.hid hw1
  have HS := Lib.hid flow_size
  have HKA := Lib.hid (show ∀ (bx : Nat) (W : World), Cpy w1 bx (⟨⟨6, xs, xd, xx, xy⟩, ⟨6, xs, xd, xx, xy⟩, sv, bi, (s : Int), false⟩ : Fw) W → (W.cell? ⟨bx, 0, none⟩ = some (.int .i64 6) ∧ W.cell? ⟨bx, 1, none⟩ = some (.int .u32 xs) ∧ W.cell? ⟨bx, 2, none⟩ = some (.int .u32 xd) ∧ W.cell? ⟨bx, 3, none⟩ = some (.int .i64 xx) ∧ W.cell? ⟨bx, 4, none⟩ = some (.int .i64 xy) ∧ W.cell? ⟨bx, 5, none⟩ = some (.int .i64 6) ∧ W.cell? ⟨bx, 6, none⟩ = some (.int .u32 xs) ∧ W.cell? ⟨bx, 7, none⟩ = some (.int .u32 xd) ∧ W.cell? ⟨bx, 8, none⟩ = some (.int .i64 xx) ∧ W.cell? ⟨bx, 9, none⟩ = some (.int .i64 xy) ∧ W.cell? ⟨bx, 10, none⟩ = some (.int .i64 sv) ∧ W.cell? ⟨bx, 11, none⟩ = some (.int .i64 bi) ∧ W.cell? ⟨bx, 12, none⟩ = some (.int .i64 (s : Int)) ∧ W.cell? ⟨bx, 13, none⟩ = some (.bool false) ∧ W.frozen? ⟨bx, 6, none⟩ = false ∧ W.frozen? ⟨bx, 7, none⟩ = false ∧ W.frozen? ⟨bx, 9, none⟩ = false) from fun bx W k => by
    obtain ⟨⟨p0, p1, p2, p3, p4⟩, ⟨q0, q1, q2, q3, q4⟩, r0, r1, r2, r3⟩ := k.box
    have fz : ∀ o, o < 14 → W.frozen? ⟨bx, o, none⟩ = false := fun o ho => by have := (k.fre o ho).2; rwa [Nat.zero_add] at this
    exact ⟨p0, p1, p2, p3, p4, q0, q1, q2, q3, q4, r0, r1, r2, r3, fz _ (by omega), fz _ (by omega), fz _ (by omega)⟩)
  have HKB := Lib.hid (show ∀ (bx : Nat) (W : World), Cpy w1 bx (⟨⟨6, xs, xd, xx, xy⟩, ⟨6, nat, ba, xx, bp⟩, sv, bi, (s : Int), false⟩ : Fw) W → (W.cell? ⟨pl.F, 5, none⟩ = some (.pointer (some ⟨pl.P, 0, none⟩)) ∧ W.cell? ⟨bx, 0, none⟩ = some (.int .i64 6) ∧ W.cell? ⟨bx, 1, none⟩ = some (.int .u32 xs) ∧ W.cell? ⟨bx, 2, none⟩ = some (.int .u32 xd) ∧ W.cell? ⟨bx, 3, none⟩ = some (.int .i64 xx) ∧ W.cell? ⟨bx, 4, none⟩ = some (.int .i64 xy) ∧ W.cell? ⟨bx, 5, none⟩ = some (.int .i64 6) ∧ W.cell? ⟨bx, 6, none⟩ = some (.int .u32 nat) ∧ W.cell? ⟨bx, 7, none⟩ = some (.int .u32 ba) ∧ W.cell? ⟨bx, 8, none⟩ = some (.int .i64 xx) ∧ W.cell? ⟨bx, 9, none⟩ = some (.int .i64 bp) ∧ W.cell? ⟨bx, 10, none⟩ = some (.int .i64 sv) ∧ W.cell? ⟨bx, 11, none⟩ = some (.int .i64 bi) ∧ W.cell? ⟨bx, 12, none⟩ = some (.int .i64 (s : Int)) ∧ W.cell? ⟨bx, 13, none⟩ = some (.bool false)) from fun bx W k => by
    obtain ⟨⟨p0, p1, p2, p3, p4⟩, ⟨q0, q1, q2, q3, q4⟩, r0, r1, r2, r3⟩ := k.box
    exact ⟨(h1.below k.bel).cells.pp, p0, p1, p2, p3, p4, q0, q1, q2, q3, q4, r0, r1, r2, r3⟩)
  have HKT := Lib.hid (show ∀ (bx : Nat) (g1 : FlG) (U : Nat → Prop) (W : World), St pl c S w1 bx bx (⟨⟨6, xs, xd, xx, xy⟩, ⟨6, nat, ba, xx, bp⟩, sv, bi, (s : Int), false⟩ : Fw) g1 U W → (W.cell? ⟨pl.F, 5, none⟩ = some (.pointer (some ⟨pl.P, 0, none⟩)) ∧ W.cell? ⟨bx, 0, none⟩ = some (.int .i64 6) ∧ W.cell? ⟨bx, 1, none⟩ = some (.int .u32 xs) ∧ W.cell? ⟨bx, 2, none⟩ = some (.int .u32 xd) ∧ W.cell? ⟨bx, 3, none⟩ = some (.int .i64 xx) ∧ W.cell? ⟨bx, 4, none⟩ = some (.int .i64 xy) ∧ W.cell? ⟨bx, 5, none⟩ = some (.int .i64 6) ∧ W.cell? ⟨bx, 6, none⟩ = some (.int .u32 nat) ∧ W.cell? ⟨bx, 7, none⟩ = some (.int .u32 ba) ∧ W.cell? ⟨bx, 8, none⟩ = some (.int .i64 xx) ∧ W.cell? ⟨bx, 9, none⟩ = some (.int .i64 bp) ∧ W.cell? ⟨bx, 10, none⟩ = some (.int .i64 sv) ∧ W.cell? ⟨bx, 11, none⟩ = some (.int .i64 bi) ∧ W.cell? ⟨bx, 12, none⟩ = some (.int .i64 (s : Int)) ∧ W.cell? ⟨bx, 13, none⟩ = some (.bool false)) from fun bx g1 U W k => by
    obtain ⟨⟨p0, p1, p2, p3, p4⟩, ⟨q0, q1, q2, q3, q4⟩, r0, r1, r2, r3⟩ := k.c5
    exact ⟨k.fl.cells.pp, p0, p1, p2, p3, p4, q0, q1, q2, q3, q4, r0, r1, r2, r3⟩)
  obtain ⟨now, hnw⟩ : ∃ now, (g.now : Int) = now := ⟨_, rfl⟩
  obtain ⟨tn, htn⟩ : ∃ tn, (g.t.n : Int) = tn := ⟨_, rfl⟩
  obtain ⟨rm, hrm⟩ : ∃ rm, (c.room : Int) = rm := ⟨_, rfl⟩
  obtain ⟨si, hsi⟩ : ∃ si, (s : Int) = si := ⟨_, rfl⟩
  rw [hnw] at HNN HNW HTK
  rw [htn] at HNR HLN
  rw [hrm] at HNR HK
  simp only [hsi] at *
  clear hnw htn hrm hsi h h1 hTb hT0 hx hks hxo hw1 hb1 hs1 x7 x10 hst hno hroom hnow hTk hS1 hT1 hT01
  unfold Fw.v keyOf PKey.v at HKO
  dsimp only at HKO
  unfold Tup.v at HKEY HAH
  dsimp only at HKEY HAH
  unfold boxT boxB at HW
  dsimp only at HW
  have hnr := HNR.out
  have hnn := HNN.out
  go_enter Tryd.func15, Tryd.ntmps15
  go_upto_region 1 with fail
  refine wp_world w1 HW.out ?_
  obtain ⟨cp, ct, cr, a0, a1, a2, a3, a4, b0, b1, b2⟩ := HK.out _ (Below.refl _ _)
  go_upto_region 2 with (go_at_call 32; refine (HKEY.out _).mono ?_; rintro e w2 ⟨rfl, hb⟩; have HB2 := Lib.hid hb; clear hb)
  clear cp ct cr a0 a1 a2 a3 a4 b0 b1 b2
  obtain ⟨cp, ct, cr, a0, a1, a2, a3, a4, b0, b1, b2⟩ := HK.out _ HB2.out
  go_upto_region 5 with (go_at_call 33; refine (HSTP.out _).mono ?_; rintro e w3 ⟨rfl, hb⟩; have HB3 := Lib.hid (HB2.out.trans (hb.mono HB2.out.size)); clear hb)
  clear cp ct cr a0 a1 a2 a3 a4 b0 b1 b2
  obtain ⟨cp, ct, cr, a0, a1, a2, a3, a4, b0, b1, b2⟩ := HK.out _ HB3.out
  go_upto_region 8 with (go_at_call 22; refine (HAH.out _ HB3.out).mono ?_; rintro e w4 ⟨rfl, hb⟩; have HB4 := Lib.hid (HB3.out.trans (hb.mono HB3.out.size)); clear hb)
  clear cp ct cr a0 a1 a2 a3 a4 b0 b1 b2
  obtain ⟨cp, ct, cr, a0, a1, a2, a3, a4, b0, b1, b2⟩ := HK.out _ HB4.out
  go_upto_region 10 with fail
  go_quiet ((first
    | (go_at_call 17; exact Calls.quiet_of_same (HLN.out _ (below_drewN HB4.out _)))
    | (go_at_call 26; exact Calls.quiet_of_same (HNW.out _ (below_drewN HB4.out _)))))
  have hbq : Below w1.heap.size w1 (w4.drewN nq) := below_drewN HB4.out _
  generalize w4.drewN nq = w5 at *
  have HBQ := Lib.hid hbq
  have k5 := HC.out w5 hbq
  have HC5 := Lib.hid k5
  clear hbq k5
  clear cp ct cr a0 a1 a2 a3 a4 b0 b1 b2
  obtain ⟨cp, ct, cr, a0, a1, a2, a3, a4, b0, b1, b2⟩ := HK.out _ HBQ.out
  go_upto_region 13 with fail
  obtain ⟨bx, hbx⟩ : ∃ bx, w5.heap.size = bx := ⟨_, rfl⟩
  obtain ⟨w6, hw6⟩ : ∃ w6, w5.alloc (.cells #[.int .i64 6, .int .u32 xs, .int .u32 xd, .int .i64 xx, .int .i64 xy, .int .i64 6, .int .u32 xs, .int .u32 xd, .int .i64 xx, .int .i64 xy, .int .i64 sv, .int .i64 bi, .int .i64 si, .bool false] 52) = w6 := ⟨_, rfl⟩
  have k6 : Cpy w1 bx (⟨⟨6, xs, xd, xx, xy⟩, ⟨6, xs, xd, xx, xy⟩, sv, bi, si, false⟩ : Fw) w6 := by rw [← hw6, ← hbx]; exact HC5.out
  rw [hbx]
  refine wp_world w6 hw6 ?_
  clear hw6 hbx
  have HC6 := Lib.hid k6
  clear cp ct cr a0 a1 a2 a3 a4 b0 b1 b2
  obtain ⟨cp, ct, cr, a0, a1, a2, a3, a4, b0, b1, b2⟩ := HK.out _ k6.bel
  have p13 : w6.cell? ⟨bx, 13, none⟩ = some (.bool false) := k6.box.rr.2.2.2
  clear k6
  go_upto_region 15 with fail
  obtain ⟨_, _, _, _, _, _, m6, m7, _, m9, _, _, _, _, z6, z7, z9⟩ := HKA.out _ _ HC6.out
  clear cp ct cr a0 a1 a2 a3 a4 b0 p13
  go_region
  all_goals
    clear m6 m7 m9 z6 z7 z9 b1 b2
    have k7 := ((HC6.out.b6 nat).b7 ba).b9 bp
    have HC7 := Lib.hid (k7.below (below_drew (Below.refl _ _)))
    clear k7
    revert HC7
    generalize hw7 : (((w6.setCell ⟨bx, 6, none⟩ (.int .u32 nat)).setCell ⟨bx, 7, none⟩ (.int .u32 ba)).setCell ⟨bx, 9, none⟩ (.int .i64 bp)).drew = w7
    intro HC7
    clear hw7
    have HC8 := Lib.hid (HC7.out.below (below_drew (Below.refl _ w7)))
    have HLO := Lib.hid HC7.out.lo
    go_upto_region 16 with fail
    go_region_held3 (fun W : World => (W.cell? ⟨pl.F, 5, none⟩ = some (.pointer (some ⟨pl.P, 0, none⟩)) ∧ W.cell? ⟨bx, 0, none⟩ = some (.int .i64 6) ∧ W.cell? ⟨bx, 1, none⟩ = some (.int .u32 xs) ∧ W.cell? ⟨bx, 2, none⟩ = some (.int .u32 xd) ∧ W.cell? ⟨bx, 3, none⟩ = some (.int .i64 xx) ∧ W.cell? ⟨bx, 4, none⟩ = some (.int .i64 xy) ∧ W.cell? ⟨bx, 5, none⟩ = some (.int .i64 6) ∧ W.cell? ⟨bx, 6, none⟩ = some (.int .u32 nat) ∧ W.cell? ⟨bx, 7, none⟩ = some (.int .u32 ba) ∧ W.cell? ⟨bx, 8, none⟩ = some (.int .i64 xx) ∧ W.cell? ⟨bx, 9, none⟩ = some (.int .i64 bp) ∧ W.cell? ⟨bx, 10, none⟩ = some (.int .i64 sv) ∧ W.cell? ⟨bx, 11, none⟩ = some (.int .i64 bi) ∧ W.cell? ⟨bx, 12, none⟩ = some (.int .i64 si) ∧ W.cell? ⟨bx, 13, none⟩ = some (.bool false))) (first | exact HKB.out _ _ HC7.out | exact HKB.out _ _ HC8.out | exact HKT.out _ _ _ _ HS9.out) (first
      | (go_at_call 26; refine (HNW.out _ (by first | exact HC8.out.bel | exact HC7.out.bel)).mono ?_; rintro e wy ⟨rfl, rfl⟩)
      | (go_at_call 35; refine (HKO.out _).mono ?_; rintro e wx ⟨rfl, hb⟩; replace HC8 := Lib.hid (HC8.out.below hb); clear hb)
      | (go_at_call 34; refine (HTK.out _ _ HC8.out).mono ?_; rintro e w9 ⟨rfl, g1, r1, U9, s9⟩; have HR1 := Lib.hid r1; have HS9 := Lib.hid s9; clear r1 s9))
    all_goals
      go_wp2_with fail
      go_ret2
      exact ⟨rfl, g1, HR1.out, HEN.out _ _ _ _ HS9.out⟩
end Go.Proofs.YtpbknbnhljjjcaaDoor

namespace Go.Proofs.YtpbknbnhljjjcaaDoor
open Go.RowKit Go.Maps Go.Lib
/-- A part whose first m numbers of four are lent. -/
def partM (m : Nat) : PartG := ⟨fun i => decide (i < m), m % 4, fun i => decide (i < m), fun _ => none⟩
theorem part1_M : part1 4 = partM 1 := by
  unfold part1 partM updB
  congr 1
  · funext i
    by_cases e : i = 0
    · subst e; rfl
    · rw [if_neg e]; exact (decide_eq_false (by omega)).symm
  · funext i
    by_cases e : i = 0
    · subst e; rfl
    · rw [decide_eq_false e]; exact (decide_eq_false (by omega)).symm
theorem after_M (m now : Nat) : afterP (partM m) now = partM m := by
  unfold afterP rested partM
  simp
theorem take_M (m : Nat) : takeP (afterP (partM m) 0) 4 (some m) = partM (m + 1) := by
  rw [after_M]
  have h : updB (fun i => decide (i < m)) m true = fun i => decide (i < m + 1) := by
    funext i
    unfold updB
    by_cases e : i = m
    · rw [if_pos e]; exact (decide_eq_true (by omega)).symm
    · rw [if_neg e]; exact decide_eq_decide.2 (by omega)
  show (⟨updB (fun i => decide (i < m)) m true, (m + 1) % 4, updB (fun i => decide (i < m)) m true, fun _ => none⟩ : PartG) = ⟨fun i => decide (i < m + 1), (m + 1) % 4, fun i => decide (i < m + 1), fun _ => none⟩
  rw [h]
theorem says_M (m : Nat) (hm : m < 4) : TakeSays (afterP (partM m) 0) 4 (some m) := by
  rw [after_M]
  refine ⟨hm, decide_eq_false (by omega), .inl ⟨?_, fun j h1 h2 => ?_⟩⟩
  · show m % 4 ≤ m
    omega
  · have h1 : m % 4 ≤ j := h1
    omega
theorem says_full : TakeSays (afterP (partM 4) 0) 4 none := by
  rw [after_M]
  exact fun j hj => decide_eq_true hj
def cliX (j : Nat) : Tup := ⟨6, (j : Int), 99, 1, 80⟩
def bkX (q m : Nat) : Tup := ⟨6, 7, 5 + (q : Int), ((1000 + m : Nat) : Int), 80⟩
def keyX (q : Nat) : PKey := ⟨6, 7, 5 + (q : Int), 80⟩
theorem cliX_ne {i j : Nat} (h : i ≠ j) : cliX i ≠ cliX j := fun e => by
  unfold cliX at e
  injection e with _ e2
  omega
theorem bkX_ne {q m q' m' : Nat} (h : ¬ (q = q' ∧ m = m')) : bkX q m ≠ bkX q' m' := fun e => by
  unfold bkX at e
  injection e with _ _ e3 e4
  omega
theorem keyX_ne {q q' : Nat} (h : q ≠ q') : keyX q ≠ keyX q' := fun e => by
  unfold keyX at e
  injection e with _ _ e3
  omega
/-- Whose ports are lent behind s flows. -/
structure FuP (s : Nat) (lay : PKey → Option PB) (parts : PKey → PartG) : Prop where
  on : ∀ q, 4 * q < s → (∃ pb, lay (keyX q) = some pb) ∧ parts (keyX q) = partM (min 4 (s - 4 * q))
  off : ∀ q, s ≤ 4 * q → lay (keyX q) = none
structure Fu (s : Nat) (g : FlG) : Prop where
  len : g.t.rows.length = s + 1
  free : g.t.free = []
  cnt : g.t.n = s
  now : g.now = 0
  o : g.o ≤ s
  nB : g.nB ≤ s
  fA : ∀ j, s ≤ j → g.t.fA (cliX j) = none
  fB : ∀ q m, m < 4 → s ≤ 4 * q + m → g.t.fB (bkX q m) = none
  ports : FuP s g.lay g.parts
theorem fu0 : Fu 0 g0 := ⟨rfl, rfl, rfl, rfl, Nat.le_refl _, Nat.le_refl _, fun _ _ => rfl, fun _ _ _ _ => rfl, ⟨fun q h => by omega, fun _ _ => rfl⟩⟩
/-- A port is taken for the next flow. -/
structure Took (s : Nat) (g g1 : FlG) : Prop where
  t : g1.t = g.t
  now : g1.now = g.now
  o : g1.o = g.o
  nB : g1.nB = g.nB
  N : g1.N = g.N + 1
  ports : FuP (s + 1) g1.lay g1.parts
theorem fuP_fresh {s : Nat} {lay : PKey → Option PB} {parts : PKey → PartG} (h : FuP s lay parts) (q : Nat) (hq : s = 4 * q) (pb : PB) : FuP (s + 1) (updL lay (keyX q) (some pb)) (updL parts (keyX q) (part1 4)) := by
  refine ⟨fun q' hq' => ?_, fun q' hq' => ?_⟩
  · unfold updL
    by_cases e : q' = q
    · subst e
      rw [if_pos rfl, if_pos rfl, part1_M, show min 4 (s + 1 - 4 * q') = 1 by omega]
      exact ⟨⟨pb, rfl⟩, rfl⟩
    · rw [if_neg (keyX_ne e), if_neg (keyX_ne e)]
      have := h.on q' (by omega)
      rw [show min 4 (s + 1 - 4 * q') = min 4 (s - 4 * q') by omega]
      exact this
  · unfold updL
    rw [if_neg (keyX_ne (by omega))]
    exact h.off q' (by omega)
theorem fuP_there {s : Nat} {lay : PKey → Option PB} {parts : PKey → PartG} (h : FuP s lay parts) (q m : Nat) (hq : s = 4 * q + m) (hm : m < 4) (hm0 : m ≠ 0) : FuP (s + 1) lay (updL parts (keyX q) (takeP (afterP (parts (keyX q)) 0) 4 (some m))) := by
  have hpq := (h.on q (by omega)).2
  rw [show min 4 (s - 4 * q) = m by omega] at hpq
  refine ⟨fun q' hq' => ?_, fun q' hq' => h.off q' (by omega)⟩
  unfold updL
  by_cases e : q' = q
  · subst e
    rw [if_pos rfl, hpq, take_M m, show min 4 (s + 1 - 4 * q') = m + 1 by omega]
    exact ⟨(h.on q' (by omega)).1, rfl⟩
  · rw [if_neg (keyX_ne e)]
    have := h.on q' (by omega)
    rw [show min 4 (s + 1 - 4 * q') = min 4 (s - 4 * q') by omega]
    exact this
theorem fuP_full {lay : PKey → Option PB} {parts : PKey → PartG} (h : FuP 4 lay parts) : FuP 4 lay (updL parts (keyX 0) (takeP (afterP (parts (keyX 0)) 0) 4 none)) := by
  have hpq : parts (keyX 0) = partM 4 := (h.on 0 (by omega)).2
  refine ⟨fun q' hq' => ?_, h.off⟩
  obtain rfl : q' = 0 := by omega
  unfold updL
  rw [if_pos rfl, hpq, after_M]
  exact ⟨(h.on 0 (by omega)).1, rfl⟩
theorem fu_next {s : Nat} {g g1 : FlG} (h : Fu s g) (k : Took s g g1) (q m : Nat) (hq : s = 4 * q + m) (f : Fw) (t : Nat) : Fu (s + 1) (armG (putG g1 (cliX s) (bkX q m) f) ((s + 1 : Nat) : Int) t) := by
  refine ⟨?_, ?_, ?_, k.now.trans h.now, ?_, ?_, fun j hj => ?_, fun q' m' hm' hj => ?_, k.ports⟩
  · show (g1.t.rows ++ [_]).length = _
    rw [k.t, List.length_append, h.len]
    rfl
  · show g1.t.free = []
    rw [k.t, h.free]
  · show g1.t.n + 1 = _
    rw [k.t, h.cnt]
  · show g1.o + 1 ≤ s + 1
    rw [k.o]
    have := h.o
    omega
  · show g1.nB + 1 ≤ s + 1
    rw [k.nB]
    have := h.nB
    omega
  · show updT g1.t.fA (cliX s) _ (cliX j) = none
    unfold updT
    rw [if_neg (cliX_ne (by omega)), k.t]
    exact h.fA j (by omega)
  · show updT g1.t.fB (bkX q m) _ (bkX q' m') = none
    unfold updT
    rw [if_neg (bkX_ne (by omega)), k.t]
    exact h.fB q' m' hm' (by omega)
theorem cliX_net (j : Nat) (hj : j < 50) : Net (cliX j) := by
  unfold cliX
  exact ⟨by dsimp only; omega, by dsimp only; omega, by dsimp only; omega, by dsimp only; omega, by dsimp only; omega⟩
theorem keyX_ok (q : Nat) (hq : q < 100) : (keyX q).ok := ⟨show (Lit.int .i64 6).wf = true by decide, show (Lit.int .u32 7).wf = true by decide, u32_wf (show 0 ≤ 5 + (q : Int) by omega) (show 5 + (q : Int) < 4294967296 by omega), show (Lit.int .i64 80).wf = true by decide⟩
theorem bkX_ok (q m : Nat) (hq : q < 100) (hm : m < 4) : (bkX q m).ok := ⟨show (Lit.int .i64 6).wf = true by decide, show (Lit.int .u32 7).wf = true by decide, u32_wf (show 0 ≤ 5 + (q : Int) by omega) (show 5 + (q : Int) < 4294967296 by omega), i64_wf' (show -9223372036854775808 ≤ ((1000 + m : Nat) : Int) by omega) (show ((1000 + m : Nat) : Int) ≤ 9223372036854775807 by omega), show (Lit.int .i64 80).wf = true by decide⟩
section
variable {S : Nat → Prop} {pl : Pl} {g : FlG} {w : World}
def fwX (s q m : Nat) (bi : Int) : Fw := ⟨cliX s, bkX q m, 1, bi, 1, false⟩
theorem open_next (room : Nat) (h : Fls pl (cfR room) g S w) (hTb : TabAt 0 Lib.deBruijn64tab w) (hT0 : 0 < w.heap.size ∧ ¬ S 0) {s : Nat} (k : Fu s g) (q m : Nat) (hq : s = 4 * q + m) (hm : m < 4) (hs : s < 40) (hN : g.N < 1000) (hroom : s ≠ room) (bi : Int) :
    Calls Tryd.prog 15 #[.pointer (some ⟨pl.F, 0, none⟩), .agg #[.int .i64 6, .int .u32 (s : Int), .int .u32 99, .int .i64 1, .int .i64 80], .int .i64 1, .int .u32 7, .agg #[.int .i64 bi, .int .u32 (5 + (q : Int)), .int .i64 80], .int .i64 2] w fun e w' => e = .returned (.tuple #[.int .i64 ((s + 1 : Nat) : Int), .int .i64 0]) ∧ ∃ g', Fu (s + 1) g' ∧ g'.N = g.N + 1 ∧ Tn (Fls pl (cfR room) g') S w w' := by
  have hnow0 := k.now
  refine (open_nat h hTb hT0 (cliX_net s (by omega)) 1 7 bi (5 + (q : Int)) 80 2 (by decide) 1 fstep_syn (k.fA s (Nat.le_refl _)) (by rw [k.cnt]; exact hroom) (by rw [hnow0]; omega) ((1000 + m : Nat) : Int) ((s + 1 : Nat) : Int) (by omega) (Took s g) (fun g2 => ∃ g1, Took s g g1 ∧ g2 = putG g1 (cliX s) (bkX q m) (fwX s q m bi)) ?_ ?_ 5 (by decide) rfl (by omega) (by omega) ?_).mono ?_
  · intro U W kk z1 z2
    by_cases hm0 : m = 0
    · subst hm0
      refine (take_in kk z1 z2 (keyX_ok q (by omega)) (k.ports.off q (by omega)) (show 1 ≤ 4 ∧ 4 ≤ 64 by omega) (by omega) (show 1000 ≤ 65536 by omega) _).mono ?_
      rintro e w' ⟨rfl, pb, ht⟩
      exact ⟨rfl, takeG (cfR room) g (keyX q) pb, ⟨rfl, rfl, rfl, rfl, rfl, fuP_fresh k.ports q (by omega) pb⟩, ht⟩
    · obtain ⟨⟨pb, hpb⟩, hpm⟩ := k.ports.on q (by omega)
      rw [show min 4 (s - 4 * q) = m by omega] at hpm
      refine (take_in_there kk z1 z2 (keyX_ok q (by omega)) hpb (by omega) (show 1000 ≤ 65536 by omega) (by rw [hnow0]; omega) (fun i u e => by rw [hpm] at e; cases e) (show 4 ≤ 64 by omega) (some m) (by rw [hpm, hnow0]; exact says_M m hm)).mono ?_
      rintro e w' ⟨rfl, ht⟩
      refine ⟨rfl, tookG (cfR room) g (keyX q) (some m), ⟨rfl, rfl, rfl, rfl, rfl, ?_⟩, ht⟩
      show FuP (s + 1) g.lay (updL g.parts (keyX q) (takeP (afterP (g.parts (keyX q)) g.now) 4 (some m)))
      rw [hnow0]
      exact fuP_there k.ports q m hq hm hm0
  · rintro g1 kt U W kk
    have e1 : g1.t.rows.length = s + 1 := by rw [kt.t, k.len]
    have hpt := put_in kk (cliX_net s (by omega)).ok (bkX_ok q m (by omega) hm) (fwX s q m bi) (by rw [kt.t]; exact k.fA s (Nat.le_refl _)) (by rw [kt.t]; exact k.fB q m hm (by omega)) (by rw [kt.t, k.cnt]; exact hroom) (by rw [kt.t]; exact k.free) (by rw [kt.t, k.cnt]; omega) (by rw [kt.nB]; have := k.nB; omega) (by rw [e1]; omega)
    rw [e1] at hpt
    refine hpt.mono ?_
    rintro e w' ⟨rfl, ht⟩
    exact ⟨rfl, _, ⟨g1, kt, rfl⟩, ht⟩
  · rintro g2 ⟨g1, kt, rfl⟩
    exact ⟨kt.now, show g1.o < 549755813887 by rw [kt.o]; have := k.o; omega⟩
  · rintro e w' ⟨rfl, g2, ⟨g1, kt, rfl⟩, ht⟩
    exact ⟨rfl, _, fu_next k kt q m hq _ _, kt.N, ht⟩
theorem open_none (room : Nat) (h : Fls pl (cfR room) g S w) (hTb : TabAt 0 Lib.deBruijn64tab w) (hT0 : 0 < w.heap.size ∧ ¬ S 0) (k : Fu 4 g) (i : Nat) (hi : 4 ≤ i ∧ i < 40) (hN : g.N < 1000) (hroom : 4 ≠ room) (bi : Int) :
    Calls Tryd.prog 15 #[.pointer (some ⟨pl.F, 0, none⟩), .agg #[.int .i64 6, .int .u32 (i : Int), .int .u32 99, .int .i64 1, .int .i64 80], .int .i64 1, .int .u32 7, .agg #[.int .i64 bi, .int .u32 5, .int .i64 80], .int .i64 2] w fun e w' => e = .returned (.tuple #[.int .i64 0, .int .i64 17]) ∧ ∃ g', Fu 4 g' ∧ g'.N = g.N + 1 ∧ Tn (Fls pl (cfR room) g') S w w' := by
  have hnow0 := k.now
  refine (open_ports h hTb hT0 (cliX_net i (by omega)) 1 7 bi 5 80 2 (by decide) 1 fstep_syn (k.fA i hi.1) (by rw [k.cnt]; exact hroom) (by rw [hnow0]; omega) (fun g1 => Fu 4 g1 ∧ g1.N = g.N + 1) ?_).mono ?_
  · intro U W kk z1 z2
    obtain ⟨⟨pb, hpb⟩, hpm⟩ := k.ports.on 0 (by omega)
    have hpm : g.parts (keyX 0) = partM 4 := hpm
    refine (take_in_there kk z1 z2 (keyX_ok 0 (by omega)) hpb (by omega) (show 1000 ≤ 65536 by omega) (by rw [hnow0]; omega) (fun i u e => by rw [hpm] at e; cases e) (show 4 ≤ 64 by omega) none (by rw [hpm, hnow0]; exact says_full)).mono ?_
    rintro e w' ⟨rfl, ht⟩
    refine ⟨rfl, tookG (cfR room) g (keyX 0) none, ⟨⟨k.len, k.free, k.cnt, k.now, k.o, k.nB, k.fA, k.fB, ?_⟩, rfl⟩, ht⟩
    show FuP 4 g.lay (updL g.parts (keyX 0) (takeP (afterP (g.parts (keyX 0)) g.now) 4 none))
    rw [hnow0]
    exact fuP_full k.ports
  · rintro e w' ⟨rfl, g1, ⟨h1, h2⟩, ht⟩
    exact ⟨rfl, g1, h1, h2, ht⟩
end
end Go.Proofs.YtpbknbnhljjjcaaDoor

namespace Go.Proofs.YtpbknbnhljjjcaaDoor
open Go.RowKit Go.Maps Go.Lib
set_option maxRecDepth 100000 in
set_option maxHeartbeats 16000000 in
theorem walk_Full_all (z : Int) (hz : 0 ≤ z ∧ z < 256) (w : World) (hE : TabAt 0 Lib.deBruijn64tab w ∧ 0 < w.heap.size) :
    Calls Tryd.prog 4 #[.int .u8 z, .bool false] w fun e w' => e = .returned (.bool true) ∧ Below w.heap.size w w' := by
  obtain ⟨r, hr⟩ : ∃ r, z % 12 = r := ⟨_, rfl⟩
  have hrb : 0 ≤ r ∧ r < 12 := by omega
  obtain ⟨n, hn⟩ : ∃ n : Nat, (n : Int) = 1 + r := ⟨(1 + r).toNat, by omega⟩
  have hnb : 1 ≤ n ∧ n ≤ 12 := by omega
  have htm : z.tmod 12 = r := by rw [Int.tmod_eq_emod_of_nonneg hz.1]; exact hr
  have hw8 : IntKind.u8.wrap r = r := by simp [IntKind.wrap, IntKind.bits, IntKind.signed]; omega
  have hwr : wrap64 r = r := by unfold wrap64; omega
  have hadd : wrap64 (1 + r) = (n : Int) := by rw [hn]; unfold wrap64; omega
  have hn1 : wrap64 ((n : Int) + 1) = (n : Int) + 1 := by unfold wrap64; omega
  have HEX := Lib.hid (examples_ok w hE)
  have HPL := Lib.hid (fun (W : World) => plain_ok (n : Int) W)
  have HNW := Lib.hid (fun (W : World) (hb : Below w.heap.size w W) => new_plain n (by omega) w W hb)
  have HCL := Lib.hid (show ∀ (i : Nat), i < 50 → ∀ (W : World), Calls Tryd.prog 16 #[.int .u16 (i : Int)] W fun e w' => e = .returned (.agg #[.int .i64 6, .int .u32 (i : Int), .int .u32 99, .int .i64 1, .int .i64 80]) ∧ Below W.heap.size W w' from fun i hi W => by
    have h0 := client_ok (i : Int) (by omega) W
    have e : cliT (i : Int) = ⟨6, (i : Int), 99, 1, 80⟩ := by
      unfold cliT
      rw [show (i : Int) % 50 = i by omega, show 1 + (i : Int) / 50 = 1 by omega]
    rw [e] at h0
    exact h0)
  have HOP := Lib.hid (show ∀ (pl : Pl) (g : FlG) (U : Nat → Prop) (W : World), Lv pl (cfR n) w g U W → ∀ (s q m : Nat), Fu s g → s = 4 * q + m → m < 4 → s < 40 → g.N < 1000 → s ≠ n → ∀ bi : Int, Calls Tryd.prog 15 #[.pointer (some ⟨pl.F, 0, none⟩), .agg #[.int .i64 6, .int .u32 (s : Int), .int .u32 99, .int .i64 1, .int .i64 80], .int .i64 1, .int .u32 7, .agg #[.int .i64 bi, .int .u32 (5 + (q : Int)), .int .i64 80], .int .i64 2] W fun e w' => e = .returned (.tuple #[.int .i64 ((s + 1 : Nat) : Int), .int .i64 0]) ∧ ∃ g' V, Fu (s + 1) g' ∧ g'.N = g.N + 1 ∧ Lv pl (cfR n) w g' V w' ∧ ∀ b, Mine b U W → Mine b V w' ∧ w'.heap[b]? = W.heap[b]? from fun pl g U W k s q m fu h1 h2 h3 h4 h5 bi => by
    obtain ⟨z1, z2⟩ := k.tab hE
    refine (open_next n k.fl z1 z2 fu q m h1 h2 h3 h4 h5 bi).mono ?_
    rintro e w' ⟨rfl, g', f1, f2, ht⟩
    obtain ⟨V, k1, k2, k3⟩ := k.step ht
    exact ⟨rfl, g', V, f1, f2, k1, fun b hb => hb.step k2 k3⟩)
  have HO1 := Lib.hid (show ∀ (pl : Pl) (g : FlG) (U : Nat → Prop) (W : World), Lv pl (cfR n) w g U W → ∀ (s : Nat), Fu s g → s < 4 → g.N < 1000 → s ≠ n → ∀ bi : Int, Calls Tryd.prog 15 #[.pointer (some ⟨pl.F, 0, none⟩), .agg #[.int .i64 6, .int .u32 (s : Int), .int .u32 99, .int .i64 1, .int .i64 80], .int .i64 1, .int .u32 7, .agg #[.int .i64 bi, .int .u32 5, .int .i64 80], .int .i64 2] W fun e w' => e = .returned (.tuple #[.int .i64 ((s + 1 : Nat) : Int), .int .i64 0]) ∧ ∃ g' V, Fu (s + 1) g' ∧ g'.N = g.N + 1 ∧ Lv pl (cfR n) w g' V w' ∧ ∀ b, Mine b U W → Mine b V w' ∧ w'.heap[b]? = W.heap[b]? from fun pl g U W k s fu h3 h4 h5 bi => by
    have h0 := HOP.out pl g U W k s 0 s fu (by omega) h3 (by omega) h4 h5 bi
    have e5 : (5 : Int) + ((0 : Nat) : Int) = 5 := by omega
    rw [e5] at h0
    exact h0)
  have HOF := Lib.hid (show ∀ (pl : Pl) (g : FlG) (U : Nat → Prop) (W : World), Lv pl (cfR n) w g U W → Fu n g → ∀ (i : Nat), n ≤ i → i < 50 → ∀ bi ba : Int, Calls Tryd.prog 15 #[.pointer (some ⟨pl.F, 0, none⟩), .agg #[.int .i64 6, .int .u32 (i : Int), .int .u32 99, .int .i64 1, .int .i64 80], .int .i64 1, .int .u32 7, .agg #[.int .i64 bi, .int .u32 ba, .int .i64 80], .int .i64 2] W fun e w' => e = .returned (.tuple #[.int .i64 0, .int .i64 16]) ∧ Below W.heap.size W w' from fun pl g U W k fu i h1 h2 bi ba => open_full k.fl (cliX_net i h2) 1 7 bi ba 80 2 1 fstep_syn (fu.fA i h1) fu.cnt)
  have HON := Lib.hid (show ∀ (pl : Pl) (g : FlG) (U : Nat → Prop) (W : World), Lv pl (cfR n) w g U W → Fu 4 g → ∀ (i : Nat), 4 ≤ i → i < 40 → g.N < 1000 → 4 ≠ n → ∀ bi : Int, Calls Tryd.prog 15 #[.pointer (some ⟨pl.F, 0, none⟩), .agg #[.int .i64 6, .int .u32 (i : Int), .int .u32 99, .int .i64 1, .int .i64 80], .int .i64 1, .int .u32 7, .agg #[.int .i64 bi, .int .u32 5, .int .i64 80], .int .i64 2] W fun e w' => e = .returned (.tuple #[.int .i64 0, .int .i64 17]) ∧ ∃ g' V, Fu 4 g' ∧ g'.N = g.N + 1 ∧ Lv pl (cfR n) w g' V w' ∧ ∀ b, Mine b U W → Mine b V w' ∧ w'.heap[b]? = W.heap[b]? from fun pl g U W k fu i h1 h2 h3 h4 bi => by
    obtain ⟨z1, z2⟩ := k.tab hE
    refine (open_none n k.fl z1 z2 fu i ⟨h1, h2⟩ h3 h4 bi).mono ?_
    rintro e w' ⟨rfl, g', f1, f2, ht⟩
    obtain ⟨V, k1, k2, k3⟩ := k.step ht
    exact ⟨rfl, g', V, f1, f2, k1, fun b hb => hb.step k2 k3⟩)
  have HLN := Lib.hid (show ∀ (pl : Pl) (g : FlG) (U : Nat → Prop) (W : World), Lv pl (cfR n) w g U W → Fu n g → Calls Tryd.prog 17 #[.pointer (some ⟨pl.F, 0, none⟩)] W fun e w' => e = .returned (.int .i64 (n : Int)) ∧ w' = W from fun pl g U W k fu => by
    have h0 := len_fl k.fl
    rw [fu.cnt] at h0
    exact h0)
  have KB := Lib.hid (show ∀ (b : Nat) (bi ba : Int) (W : World), W.heap[b]? = some (boxB bi ba 80) → (W.cell? ⟨b, 0, none⟩ = some (.int .i64 bi) ∧ W.cell? ⟨b, 1, none⟩ = some (.int .u32 ba) ∧ W.cell? ⟨b, 2, none⟩ = some (.int .i64 80)) from fun b bi ba W e => by
    unfold boxB at e
    refine ⟨?_, ?_, ?_⟩ <;> simp [World.cell?, e])
  have HNB := Lib.hid hnb
  clear hE hz hr
  go_enter Tryd.func4, Tryd.ntmps4
  go_upto_region 4 with (go_at_call 11; refine HEX.out.mono ?_; rintro e wa ⟨rfl, hb⟩; have HB0 := Lib.hid hb; clear hb)
  go_upto_region 5 with fail
  rw [← hn]
  clear htm hw8 hwr hadd hrb hn
  go_upto_region 6 with (first
    | (go_at_call 14; refine (HPL.out _).mono ?_; rintro e wb ⟨rfl, hb⟩; have HB1 := Lib.hid (HB0.out.trans (hb.mono HB0.out.size)); clear hb)
    | (go_at_call 12; refine (HNW.out _ HB1.out).mono ?_; rintro e w2 ⟨pl, U2, rfl, k⟩; have HL2 := Lib.hid k; clear k))
  go_wp2_with fail
  go_loopw [9] (fun vi wr => ∃ (i s : Nat) (g : FlG) (U : Nat → Prop), vi = .int .i64 (i : Int) ∧ i ≤ n + 1 ∧ s = min i n ∧ Lv pl (cfR n) w g U wr ∧ Fu s g ∧ g.N ≤ i) (fun vi _ => n + 1 - (intOf vi).toNat)
  case atStart => exact ⟨0, 0, g0, U2, rfl, by omega, by omega, HL2.out, fu0, Nat.le_refl _⟩
  case round =>
    obtain ⟨i, s, g, U, rfl, hi, hs, hlv, hfu, hgN⟩ := hrel
    have HLV := Lib.hid hlv
    have HFU := Lib.hid hfu
    have HGN := Lib.hid hgN
    have HS := Lib.hid hs
    clear hlv hfu hgN hs
    by_cases hin : i < n + 1
    · have hinI : (i : Int) < (n : Int) + 1 := by omega
      obtain ⟨q, hq⟩ : ∃ q, i / 4 = q := ⟨_, rfl⟩
      have hq4 : (i : Int) / 4 = (q : Int) := by omega
      have hq5 : (i : Int).tdiv 4 = (q : Int) := by rw [Int.tdiv_eq_ediv_of_nonneg (by omega)]; exact hq4
      have hqb : q < 4 := by have := HNB.out; omega
      have hqw : wrap64 (q : Int) = (q : Int) := by unfold wrap64; omega
      have hqw1 : wrap64 (1 + (q : Int)) = 1 + (q : Int) := by unfold wrap64; omega
      have hqu : IntKind.u32.wrap (q : Int) = (q : Int) := by simp [IntKind.wrap, IntKind.bits, IntKind.signed]; omega
      have hqu5 : IntKind.u32.wrap (5 + (q : Int)) = 5 + (q : Int) := by simp [IntKind.wrap, IntKind.bits, IntKind.signed]; omega
      have hiu : IntKind.u16.wrap (i : Int) = (i : Int) := by simp [IntKind.wrap, IntKind.bits, IntKind.signed]; have := HNB.out; omega
      have HQ := Lib.hid (And.intro hq hqb)
      go_upto_region 12 with fail
      clear hq4 hq5 hqw hqw1 hqu hqu5 hq
      obtain ⟨b, hb⟩ : ∃ b, wr.heap.size = b := ⟨_, rfl⟩
      have k5 := HLV.out.below ((Below.refl _ wr).alloc (Nat.le_refl _) (boxB (1 + (q : Int)) (5 + (q : Int)) 80))
      have m5 := Mine.new HLV.out (boxB (1 + (q : Int)) (5 + (q : Int)) 80)
      have e5 := heap_alloc_new wr (boxB (1 + (q : Int)) (5 + (q : Int)) 80)
      unfold boxB at k5 m5 e5
      rw [hb] at m5 e5 ⊢
      revert k5 m5 e5
      generalize wr.alloc (.cells #[.int .i64 (1 + (q : Int)), .int .u32 (5 + (q : Int)), .int .i64 80] 37) = w4
      intro k5 m5 e5
      clear hb
      go_upto_region 14 with fail
      have e5 : w4.heap[b]? = some (boxB (1 + (q : Int)) (5 + (q : Int)) 80) := e5
      revert k5 m5 e5
      generalize w4 = w5
      intro k5 m5 e5
      have E5 := Lib.hid e5
      have M5 := Lib.hid m5
      have L5 := Lib.hid k5
      clear k5 m5 e5
      have hdr : Below w5.heap.size w5 w5.drew := below_drew (Below.refl _ w5)
      have E6 := Lib.hid (show w5.drew.heap[b]? = _ from E5.out)
      have M6 := Lib.hid (M5.out.below hdr).1
      have L6 := Lib.hid (L5.out.below hdr)
      clear hdr
      have HI50 := Lib.hid (show i < 50 from by have := HNB.out; omega)
      by_cases hlt : i < n
      · have hsi : s = i := by have := HS.out; omega
        subst hsi
        have hltI : (s : Int) < (n : Int) := by omega
        go_region_held3 (fun W : World => (W.cell? ⟨b, 0, none⟩ = some (.int .i64 (1 + (q : Int))) ∧ W.cell? ⟨b, 1, none⟩ = some (.int .u32 (5 + (q : Int))) ∧ W.cell? ⟨b, 2, none⟩ = some (.int .i64 80))) (first | exact KB.out _ _ _ _ E7.out | exact KB.out _ _ _ _ E6.out | exact KB.out _ _ _ _ E5.out) (first
          | (go_at_call 16; refine (HCL.out s HI50.out _).mono ?_; rintro e wc ⟨rfl, hb⟩; replace E6 := Lib.hid ((M6.out.below hb).2.trans E6.out); replace M6 := Lib.hid (M6.out.below hb).1; replace L6 := Lib.hid (L6.out.below hb); clear hb)
          | (go_at_call 15; refine (HOP.out _ _ _ _ L6.out s q (s % 4) HFU.out (by have := HQ.out; omega) (by omega) (by have := HI50.out; have := HNB.out; omega) (by have := HGN.out; have := HNB.out; omega) (by omega) _).mono ?_; rintro e w7 ⟨rfl, g7, U7, f7, n7, k7, kp⟩; have E7 := Lib.hid ((kp b M6.out).2.trans E6.out); have L7 := Lib.hid k7; have F7 := Lib.hid f7; have N7 := Lib.hid n7; clear kp k7 f7 n7))
        all_goals
          go_wp2_with fail
          all_goals exact ⟨⟨s + 1, s + 1, g7, U7, by go_num, by omega, by have := HS.out; have := HNB.out; omega, L7.out, F7.out, by rw [N7.out]; exact Nat.succ_le_succ HGN.out⟩, by simp [intOf]; omega⟩
      · have hsn : s = n := by have := HS.out; omega
        subst hsn
        have hgeI : ¬ (i : Int) < (s : Int) := by omega
        go_region_held3 (fun W : World => (W.cell? ⟨b, 0, none⟩ = some (.int .i64 (1 + (q : Int))) ∧ W.cell? ⟨b, 1, none⟩ = some (.int .u32 (5 + (q : Int))) ∧ W.cell? ⟨b, 2, none⟩ = some (.int .i64 80))) (first | exact KB.out _ _ _ _ E7.out | exact KB.out _ _ _ _ E6.out | exact KB.out _ _ _ _ E5.out) (first
          | (go_at_call 16; refine (HCL.out i HI50.out _).mono ?_; rintro e wc ⟨rfl, hb⟩; replace E6 := Lib.hid ((M6.out.below hb).2.trans E6.out); replace M6 := Lib.hid (M6.out.below hb).1; replace L6 := Lib.hid (L6.out.below hb); clear hb)
          | (go_at_call 15; refine (HOF.out _ _ _ _ L6.out HFU.out i (by omega) HI50.out _ _).mono ?_; rintro e w7 ⟨rfl, hb⟩; have E7 := Lib.hid ((M6.out.below hb).2.trans E6.out); have L7 := Lib.hid (L6.out.below hb); clear hb))
        all_goals
          go_wp2_with fail
          all_goals exact ⟨⟨i + 1, s, g, U, by go_num, by omega, by have := HS.out; have := HNB.out; omega, L7.out, HFU.out, Nat.le_succ_of_le HGN.out⟩, by simp [intOf]; omega⟩
    · have hinI : ¬ (i : Int) < (n : Int) + 1 := by omega
      have hsn : s = n := by have := HS.out; omega
      subst hsn
      go_wp2_with (go_at_call 17; refine (HLN.out _ _ _ _ HLV.out HFU.out).mono ?_; rintro e wx ⟨rfl, rfl⟩)
      go_ret
      exact ⟨rfl, HLV.out.bel⟩
set_option maxRecDepth 100000 in
set_option maxHeartbeats 16000000 in
theorem walk_Full_one (z : Int) (hz : 0 ≤ z ∧ z < 256) (w : World) (hE : TabAt 0 Lib.deBruijn64tab w ∧ 0 < w.heap.size) :
    Calls Tryd.prog 4 #[.int .u8 z, .bool true] w fun e w' => e = .returned (.bool true) ∧ Below w.heap.size w w' := by
  obtain ⟨r, hr⟩ : ∃ r, z % 12 = r := ⟨_, rfl⟩
  have hrb : 0 ≤ r ∧ r < 12 := by omega
  obtain ⟨n, hn⟩ : ∃ n : Nat, (n : Int) = 1 + r := ⟨(1 + r).toNat, by omega⟩
  have hnb : 1 ≤ n ∧ n ≤ 12 := by omega
  have htm : z.tmod 12 = r := by rw [Int.tmod_eq_emod_of_nonneg hz.1]; exact hr
  have hw8 : IntKind.u8.wrap r = r := by simp [IntKind.wrap, IntKind.bits, IntKind.signed]; omega
  have hwr : wrap64 r = r := by unfold wrap64; omega
  have hadd : wrap64 (1 + r) = (n : Int) := by rw [hn]; unfold wrap64; omega
  have hn1 : wrap64 ((n : Int) + 1) = (n : Int) + 1 := by unfold wrap64; omega
  have HEX := Lib.hid (examples_ok w hE)
  have HPL := Lib.hid (fun (W : World) => plain_ok (n : Int) W)
  have HNW := Lib.hid (fun (W : World) (hb : Below w.heap.size w W) => new_plain n (by omega) w W hb)
  have HCL := Lib.hid (show ∀ (i : Nat), i < 50 → ∀ (W : World), Calls Tryd.prog 16 #[.int .u16 (i : Int)] W fun e w' => e = .returned (.agg #[.int .i64 6, .int .u32 (i : Int), .int .u32 99, .int .i64 1, .int .i64 80]) ∧ Below W.heap.size W w' from fun i hi W => by
    have h0 := client_ok (i : Int) (by omega) W
    have e : cliT (i : Int) = ⟨6, (i : Int), 99, 1, 80⟩ := by
      unfold cliT
      rw [show (i : Int) % 50 = i by omega, show 1 + (i : Int) / 50 = 1 by omega]
    rw [e] at h0
    exact h0)
  have HOP := Lib.hid (show ∀ (pl : Pl) (g : FlG) (U : Nat → Prop) (W : World), Lv pl (cfR n) w g U W → ∀ (s q m : Nat), Fu s g → s = 4 * q + m → m < 4 → s < 40 → g.N < 1000 → s ≠ n → ∀ bi : Int, Calls Tryd.prog 15 #[.pointer (some ⟨pl.F, 0, none⟩), .agg #[.int .i64 6, .int .u32 (s : Int), .int .u32 99, .int .i64 1, .int .i64 80], .int .i64 1, .int .u32 7, .agg #[.int .i64 bi, .int .u32 (5 + (q : Int)), .int .i64 80], .int .i64 2] W fun e w' => e = .returned (.tuple #[.int .i64 ((s + 1 : Nat) : Int), .int .i64 0]) ∧ ∃ g' V, Fu (s + 1) g' ∧ g'.N = g.N + 1 ∧ Lv pl (cfR n) w g' V w' ∧ ∀ b, Mine b U W → Mine b V w' ∧ w'.heap[b]? = W.heap[b]? from fun pl g U W k s q m fu h1 h2 h3 h4 h5 bi => by
    obtain ⟨z1, z2⟩ := k.tab hE
    refine (open_next n k.fl z1 z2 fu q m h1 h2 h3 h4 h5 bi).mono ?_
    rintro e w' ⟨rfl, g', f1, f2, ht⟩
    obtain ⟨V, k1, k2, k3⟩ := k.step ht
    exact ⟨rfl, g', V, f1, f2, k1, fun b hb => hb.step k2 k3⟩)
  have HO1 := Lib.hid (show ∀ (pl : Pl) (g : FlG) (U : Nat → Prop) (W : World), Lv pl (cfR n) w g U W → ∀ (s : Nat), Fu s g → s < 4 → g.N < 1000 → s ≠ n → ∀ bi : Int, Calls Tryd.prog 15 #[.pointer (some ⟨pl.F, 0, none⟩), .agg #[.int .i64 6, .int .u32 (s : Int), .int .u32 99, .int .i64 1, .int .i64 80], .int .i64 1, .int .u32 7, .agg #[.int .i64 bi, .int .u32 5, .int .i64 80], .int .i64 2] W fun e w' => e = .returned (.tuple #[.int .i64 ((s + 1 : Nat) : Int), .int .i64 0]) ∧ ∃ g' V, Fu (s + 1) g' ∧ g'.N = g.N + 1 ∧ Lv pl (cfR n) w g' V w' ∧ ∀ b, Mine b U W → Mine b V w' ∧ w'.heap[b]? = W.heap[b]? from fun pl g U W k s fu h3 h4 h5 bi => by
    have h0 := HOP.out pl g U W k s 0 s fu (by omega) h3 (by omega) h4 h5 bi
    have e5 : (5 : Int) + ((0 : Nat) : Int) = 5 := by omega
    rw [e5] at h0
    exact h0)
  have HOF := Lib.hid (show ∀ (pl : Pl) (g : FlG) (U : Nat → Prop) (W : World), Lv pl (cfR n) w g U W → Fu n g → ∀ (i : Nat), n ≤ i → i < 50 → ∀ bi ba : Int, Calls Tryd.prog 15 #[.pointer (some ⟨pl.F, 0, none⟩), .agg #[.int .i64 6, .int .u32 (i : Int), .int .u32 99, .int .i64 1, .int .i64 80], .int .i64 1, .int .u32 7, .agg #[.int .i64 bi, .int .u32 ba, .int .i64 80], .int .i64 2] W fun e w' => e = .returned (.tuple #[.int .i64 0, .int .i64 16]) ∧ Below W.heap.size W w' from fun pl g U W k fu i h1 h2 bi ba => open_full k.fl (cliX_net i h2) 1 7 bi ba 80 2 1 fstep_syn (fu.fA i h1) fu.cnt)
  have HON := Lib.hid (show ∀ (pl : Pl) (g : FlG) (U : Nat → Prop) (W : World), Lv pl (cfR n) w g U W → Fu 4 g → ∀ (i : Nat), 4 ≤ i → i < 40 → g.N < 1000 → 4 ≠ n → ∀ bi : Int, Calls Tryd.prog 15 #[.pointer (some ⟨pl.F, 0, none⟩), .agg #[.int .i64 6, .int .u32 (i : Int), .int .u32 99, .int .i64 1, .int .i64 80], .int .i64 1, .int .u32 7, .agg #[.int .i64 bi, .int .u32 5, .int .i64 80], .int .i64 2] W fun e w' => e = .returned (.tuple #[.int .i64 0, .int .i64 17]) ∧ ∃ g' V, Fu 4 g' ∧ g'.N = g.N + 1 ∧ Lv pl (cfR n) w g' V w' ∧ ∀ b, Mine b U W → Mine b V w' ∧ w'.heap[b]? = W.heap[b]? from fun pl g U W k fu i h1 h2 h3 h4 bi => by
    obtain ⟨z1, z2⟩ := k.tab hE
    refine (open_none n k.fl z1 z2 fu i ⟨h1, h2⟩ h3 h4 bi).mono ?_
    rintro e w' ⟨rfl, g', f1, f2, ht⟩
    obtain ⟨V, k1, k2, k3⟩ := k.step ht
    exact ⟨rfl, g', V, f1, f2, k1, fun b hb => hb.step k2 k3⟩)
  have HLN := Lib.hid (show ∀ (pl : Pl) (g : FlG) (U : Nat → Prop) (W : World), Lv pl (cfR n) w g U W → Fu n g → Calls Tryd.prog 17 #[.pointer (some ⟨pl.F, 0, none⟩)] W fun e w' => e = .returned (.int .i64 (n : Int)) ∧ w' = W from fun pl g U W k fu => by
    have h0 := len_fl k.fl
    rw [fu.cnt] at h0
    exact h0)
  have KB := Lib.hid (show ∀ (b : Nat) (bi ba : Int) (W : World), W.heap[b]? = some (boxB bi ba 80) → (W.cell? ⟨b, 0, none⟩ = some (.int .i64 bi) ∧ W.cell? ⟨b, 1, none⟩ = some (.int .u32 ba) ∧ W.cell? ⟨b, 2, none⟩ = some (.int .i64 80)) from fun b bi ba W e => by
    unfold boxB at e
    refine ⟨?_, ?_, ?_⟩ <;> simp [World.cell?, e])
  have HNB := Lib.hid hnb
  clear hE hz hr
  go_enter Tryd.func4, Tryd.ntmps4
  go_upto_region 4 with (go_at_call 11; refine HEX.out.mono ?_; rintro e wa ⟨rfl, hb⟩; have HB0 := Lib.hid hb; clear hb)
  go_upto_region 5 with fail
  rw [← hn]
  clear htm hw8 hwr hadd hrb hn
  go_upto_region 6 with (first
    | (go_at_call 14; refine (HPL.out _).mono ?_; rintro e wb ⟨rfl, hb⟩; have HB1 := Lib.hid (HB0.out.trans (hb.mono HB0.out.size)); clear hb)
    | (go_at_call 12; refine (HNW.out _ HB1.out).mono ?_; rintro e w2 ⟨pl, U2, rfl, k⟩; have HL2 := Lib.hid k; clear k))
  go_wp2_with fail
  go_loopw [9] (fun vi wr => ∃ (i s : Nat) (g : FlG) (U : Nat → Prop), vi = .int .i64 (i : Int) ∧ i ≤ n + 1 ∧ s = min i (min n 4) ∧ Lv pl (cfR n) w g U wr ∧ Fu s g ∧ g.N ≤ i) (fun vi _ => n + 1 - (intOf vi).toNat)
  case atStart => exact ⟨0, 0, g0, U2, rfl, by omega, by omega, HL2.out, fu0, Nat.le_refl _⟩
  case round =>
    obtain ⟨i, s, g, U, rfl, hi, hs, hlv, hfu, hgN⟩ := hrel
    have HLV := Lib.hid hlv
    have HFU := Lib.hid hfu
    have HGN := Lib.hid hgN
    have HS := Lib.hid hs
    clear hlv hfu hgN hs
    by_cases hin : i < n + 1
    · have hinI : (i : Int) < (n : Int) + 1 := by omega
      obtain ⟨q, hq⟩ : ∃ q, i / 4 = q := ⟨_, rfl⟩
      have hq4 : (i : Int) / 4 = (q : Int) := by omega
      have hq5 : (i : Int).tdiv 4 = (q : Int) := by rw [Int.tdiv_eq_ediv_of_nonneg (by omega)]; exact hq4
      have hqb : q < 4 := by have := HNB.out; omega
      have hqw : wrap64 (q : Int) = (q : Int) := by unfold wrap64; omega
      have hqw1 : wrap64 (1 + (q : Int)) = 1 + (q : Int) := by unfold wrap64; omega
      have hqu : IntKind.u32.wrap (q : Int) = (q : Int) := by simp [IntKind.wrap, IntKind.bits, IntKind.signed]; omega
      have hqu5 : IntKind.u32.wrap (5 + (q : Int)) = 5 + (q : Int) := by simp [IntKind.wrap, IntKind.bits, IntKind.signed]; omega
      have hiu : IntKind.u16.wrap (i : Int) = (i : Int) := by simp [IntKind.wrap, IntKind.bits, IntKind.signed]; have := HNB.out; omega
      have HQ := Lib.hid (And.intro hq hqb)
      go_upto_region 12 with fail
      clear hq4 hq5 hqw hqw1 hqu hqu5 hq
      obtain ⟨b, hb⟩ : ∃ b, wr.heap.size = b := ⟨_, rfl⟩
      have k5 := HLV.out.below ((Below.refl _ wr).alloc (Nat.le_refl _) (boxB (1 + (q : Int)) (5 + (q : Int)) 80))
      have m5 := Mine.new HLV.out (boxB (1 + (q : Int)) (5 + (q : Int)) 80)
      have e5 := heap_alloc_new wr (boxB (1 + (q : Int)) (5 + (q : Int)) 80)
      unfold boxB at k5 m5 e5
      rw [hb] at m5 e5 ⊢
      revert k5 m5 e5
      generalize wr.alloc (.cells #[.int .i64 (1 + (q : Int)), .int .u32 (5 + (q : Int)), .int .i64 80] 37) = w4
      intro k5 m5 e5
      have BLOW := Lib.hid (show w.heap.size ≤ b from by rw [← hb]; exact HLV.out.bel.size)
      clear hb
      obtain ⟨d0, d1, d2⟩ := KB.out b _ _ w4 e5
      have ht4 : w4.there b 0 3 := fun j hj => by
        have h' : j = 0 ∨ j = 1 ∨ j = 2 := by omega
        rcases h' with rfl | rfl | rfl <;> simp [World.cell?, World.frozen?, e5]
      have HT4 := Lib.hid ht4
      have k6 : Lv pl (cfR n) w g U (w4.setCells b 0 [.int .i64 1, .int .u32 5, .int .i64 80]) := by
        obtain ⟨p1, p2, p3, p4⟩ := puts_world [.int .i64 1, .int .u32 5, .int .i64 80] w4 b 0
        have qq : ∀ j, U j → (w4.setCells b 0 [.int .i64 1, .int .u32 5, .int .i64 80]).heap[j]? = w4.heap[j]? := fun j hj => puts_else _ w4 b 0 (fun e => m5.2 (e ▸ hj))
        have hbl : w.heap.size ≤ b := BLOW.out
        exact ⟨Fls.comp.kept k5.fl qq (Nat.le_of_eq p4.symm), below_put k5.bel hbl 0 _, k5.new⟩
      have m6 : Mine b U (w4.setCells b 0 [.int .i64 1, .int .u32 5, .int .i64 80]) := ⟨by rw [(puts_world _ w4 b 0).2.2.2]; exact m5.1, m5.2⟩
      have e6 : (w4.setCells b 0 [.int .i64 1, .int .u32 5, .int .i64 80]).heap[b]? = some (boxB 1 5 80) := by
        unfold boxB
        simp [World.setCells, World.setCell, Array.getElem?_modify, e5]
      clear e5 ht4
      have z0 : w4.frozen? ⟨b, 0, none⟩ = false := (HT4.out 0 (by omega)).2
      have z1 : w4.frozen? ⟨b, 1, none⟩ = false := (HT4.out 1 (by omega)).2
      have z2 : w4.frozen? ⟨b, 2, none⟩ = false := (HT4.out 2 (by omega)).2
      go_upto_region 14 with fail
      have k6 : Lv pl (cfR n) w g U (((w4.setCell ⟨b, 0, none⟩ (.int .i64 1)).setCell ⟨b, 1, none⟩ (.int .u32 5)).setCell ⟨b, 2, none⟩ (.int .i64 80)) := k6
      have m6 : Mine b U (((w4.setCell ⟨b, 0, none⟩ (.int .i64 1)).setCell ⟨b, 1, none⟩ (.int .u32 5)).setCell ⟨b, 2, none⟩ (.int .i64 80)) := m6
      have e6 : (((w4.setCell ⟨b, 0, none⟩ (.int .i64 1)).setCell ⟨b, 1, none⟩ (.int .u32 5)).setCell ⟨b, 2, none⟩ (.int .i64 80)).heap[b]? = some (boxB 1 5 80) := e6
      clear z0 z1 z2
      clear d0 d1 d2 k5 m5
      revert k6 m6 e6
      generalize (((w4.setCell ⟨b, 0, none⟩ (.int .i64 1)).setCell ⟨b, 1, none⟩ (.int .u32 5)).setCell ⟨b, 2, none⟩ (.int .i64 80)) = w5
      intro k5 m5 e5
      have E5 := Lib.hid e5
      have M5 := Lib.hid m5
      have L5 := Lib.hid k5
      clear k5 m5 e5
      have hdr : Below w5.heap.size w5 w5.drew := below_drew (Below.refl _ w5)
      have E6 := Lib.hid (show w5.drew.heap[b]? = _ from E5.out)
      have M6 := Lib.hid (M5.out.below hdr).1
      have L6 := Lib.hid (L5.out.below hdr)
      clear hdr
      have HI50 := Lib.hid (show i < 50 from by have := HNB.out; omega)
      by_cases hlt : i < n ∧ i < 4
      · obtain ⟨hlt1, hlt2⟩ := hlt
        have hsi : s = i := by have := HS.out; omega
        subst hsi
        have h1I : (s : Int) < (n : Int) := by omega
        have h2I : (s : Int) < 4 := by omega
        go_region_held3 (fun W : World => (W.cell? ⟨b, 0, none⟩ = some (.int .i64 1) ∧ W.cell? ⟨b, 1, none⟩ = some (.int .u32 5) ∧ W.cell? ⟨b, 2, none⟩ = some (.int .i64 80))) (first | exact KB.out _ _ _ _ E7.out | exact KB.out _ _ _ _ E6.out | exact KB.out _ _ _ _ E5.out) (first
          | (go_at_call 16; refine (HCL.out s HI50.out _).mono ?_; rintro e wc ⟨rfl, hb⟩; replace E6 := Lib.hid ((M6.out.below hb).2.trans E6.out); replace M6 := Lib.hid (M6.out.below hb).1; replace L6 := Lib.hid (L6.out.below hb); clear hb)
          | (go_at_call 15; refine (HO1.out _ _ _ _ L6.out s HFU.out hlt2 (by have := HGN.out; omega) (by omega) 1).mono ?_; rintro e w7 ⟨rfl, g7, U7, f7, n7, k7, kp⟩; have E7 := Lib.hid ((kp b M6.out).2.trans E6.out); have L7 := Lib.hid k7; have F7 := Lib.hid f7; have N7 := Lib.hid n7; clear kp k7 f7 n7))
        all_goals
          go_wp2_with fail
          all_goals exact ⟨⟨s + 1, s + 1, g7, U7, by go_num, by omega, by have := HS.out; have := HNB.out; omega, L7.out, F7.out, by rw [N7.out]; exact Nat.succ_le_succ HGN.out⟩, by simp [intOf]; omega⟩
      · by_cases hn4 : 4 < n
        · have hs4 : s = 4 := by have := HS.out; omega
          subst hs4
          have hi4 : 4 ≤ i := by omega
          have h2I : ¬ (i : Int) < 4 := by omega
          have h4I : 4 < (n : Int) := by omega
          clear hlt
          by_cases hie : i < n
          · have h1I : (i : Int) < (n : Int) := by omega
            go_region_held3 (fun W : World => (W.cell? ⟨b, 0, none⟩ = some (.int .i64 1) ∧ W.cell? ⟨b, 1, none⟩ = some (.int .u32 5) ∧ W.cell? ⟨b, 2, none⟩ = some (.int .i64 80))) (first | exact KB.out _ _ _ _ E7.out | exact KB.out _ _ _ _ E6.out | exact KB.out _ _ _ _ E5.out) (first
              | (go_at_call 16; refine (HCL.out i HI50.out _).mono ?_; rintro e wc ⟨rfl, hb⟩; replace E6 := Lib.hid ((M6.out.below hb).2.trans E6.out); replace M6 := Lib.hid (M6.out.below hb).1; replace L6 := Lib.hid (L6.out.below hb); clear hb)
              | (go_at_call 15; refine (HON.out _ _ _ _ L6.out HFU.out i hi4 (by have := HI50.out; have := HNB.out; omega) (by have := HGN.out; have := HNB.out; omega) (by omega) 1).mono ?_; rintro e w7 ⟨rfl, g7, U7, f7, n7, k7, kp⟩; have E7 := Lib.hid ((kp b M6.out).2.trans E6.out); have L7 := Lib.hid k7; have F7 := Lib.hid f7; have N7 := Lib.hid n7; clear kp k7 f7 n7))
            all_goals
              go_wp2_with fail
              all_goals exact ⟨⟨i + 1, 4, g7, U7, by go_num, by omega, by have := HS.out; have := HNB.out; omega, L7.out, F7.out, by rw [N7.out]; exact Nat.succ_le_succ HGN.out⟩, by simp [intOf]; omega⟩
          · have h1I : ¬ (i : Int) < (n : Int) := by omega
            go_region_held3 (fun W : World => (W.cell? ⟨b, 0, none⟩ = some (.int .i64 1) ∧ W.cell? ⟨b, 1, none⟩ = some (.int .u32 5) ∧ W.cell? ⟨b, 2, none⟩ = some (.int .i64 80))) (first | exact KB.out _ _ _ _ E7.out | exact KB.out _ _ _ _ E6.out | exact KB.out _ _ _ _ E5.out) (first
              | (go_at_call 16; refine (HCL.out i HI50.out _).mono ?_; rintro e wc ⟨rfl, hb⟩; replace E6 := Lib.hid ((M6.out.below hb).2.trans E6.out); replace M6 := Lib.hid (M6.out.below hb).1; replace L6 := Lib.hid (L6.out.below hb); clear hb)
              | (go_at_call 15; refine (HON.out _ _ _ _ L6.out HFU.out i hi4 (by have := HI50.out; have := HNB.out; omega) (by have := HGN.out; have := HNB.out; omega) (by omega) 1).mono ?_; rintro e w7 ⟨rfl, g7, U7, f7, n7, k7, kp⟩; have E7 := Lib.hid ((kp b M6.out).2.trans E6.out); have L7 := Lib.hid k7; have F7 := Lib.hid f7; have N7 := Lib.hid n7; clear kp k7 f7 n7))
            all_goals
              go_wp2_with fail
              all_goals exact ⟨⟨i + 1, 4, g7, U7, by go_num, by omega, by have := HS.out; have := HNB.out; omega, L7.out, F7.out, by rw [N7.out]; exact Nat.succ_le_succ HGN.out⟩, by simp [intOf]; omega⟩
        · have hsn : s = n := by have := HS.out; omega
          subst hsn
          have h1I : ¬ (i : Int) < (s : Int) := by omega
          have h4I : ¬ 4 < (s : Int) := by omega
          clear hlt
          go_region_held3 (fun W : World => (W.cell? ⟨b, 0, none⟩ = some (.int .i64 1) ∧ W.cell? ⟨b, 1, none⟩ = some (.int .u32 5) ∧ W.cell? ⟨b, 2, none⟩ = some (.int .i64 80))) (first | exact KB.out _ _ _ _ E7.out | exact KB.out _ _ _ _ E6.out | exact KB.out _ _ _ _ E5.out) (first
            | (go_at_call 16; refine (HCL.out i HI50.out _).mono ?_; rintro e wc ⟨rfl, hb⟩; replace E6 := Lib.hid ((M6.out.below hb).2.trans E6.out); replace M6 := Lib.hid (M6.out.below hb).1; replace L6 := Lib.hid (L6.out.below hb); clear hb)
            | (go_at_call 15; refine (HOF.out _ _ _ _ L6.out HFU.out i (by omega) HI50.out _ _).mono ?_; rintro e w7 ⟨rfl, hb⟩; have E7 := Lib.hid ((M6.out.below hb).2.trans E6.out); have L7 := Lib.hid (L6.out.below hb); clear hb))
          all_goals
            go_wp2_with fail
            all_goals exact ⟨⟨i + 1, s, g, U, by go_num, by omega, by have := HS.out; have := HNB.out; omega, L7.out, HFU.out, Nat.le_succ_of_le HGN.out⟩, by simp [intOf]; omega⟩
    · have hinI : ¬ (i : Int) < (n : Int) + 1 := by omega
      go_wp2_with fail
      go_ret
      exact ⟨rfl, HLV.out.bel⟩
theorem walk_FlowFull (a0 : Int) (a1 : Bool) (w : World) (w0 : (Lit.int .u8 a0).wf = true) (hE : TabAt 0 Lib.deBruijn64tab w ∧ 0 < w.heap.size) :
    Calls Tryd.prog 4 #[.int .u8 a0, .bool a1] w fun e w' => e = .returned (.bool true) ∧ Below w.heap.size w w' := by
  cases a1
  · exact walk_Full_all a0 (u8_range w0) w hE
  · exact walk_Full_one a0 (u8_range w0) w hE
end Go.Proofs.YtpbknbnhljjjcaaDoor
