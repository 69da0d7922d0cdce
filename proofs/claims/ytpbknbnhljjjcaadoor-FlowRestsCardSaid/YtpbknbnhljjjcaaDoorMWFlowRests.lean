/- Texts of this proof, put together: GQ GW GX NP H1 H2 H3. -/
import Derived.Test.YtpbknbnhljjjcaaDoorML
import Derived.Deep.Grids
import Derived.Test.YtpbknbnhljjjcaaDoorMK5
import Derived.Deep.RegionHeld3
import Derived.BigQuiet
import Derived.Test.YtpbknbnhljjjcaaDoorMC
namespace Go.Proofs.YtpbknbnhljjjcaaDoor
open Go.RowKit Go.Maps Go.Lib Go.Deep
/-- A slice of integers that came in. -/
def RowIn (k : IntKind) (w : World) (a : Option Addr) (len cap : Nat) (zs : List Int) : Prop :=
  (a = none ∧ len = 0 ∧ cap = 0 ∧ zs = []) ∨
  ∃ x, a = some x ∧ len ≤ cap ∧ cap ≤ maxLen ∧ zs.length = cap ∧ (∀ i, i < zs.length → w.cell? (x.add i) = some (.int k (zs.getD i 0))) ∧ ∀ n ∈ zs, (Lit.int k n).wf = true
theorem cell_back {w w' : World} {p : Addr} {v : Value} (h : w.cell? p = some v) (hb : Below w.heap.size w w') : w'.cell? p = some v := by
  rw [hb.cell (p := p) ?_]
  · exact h
  · by_cases hl : p.block < w.heap.size
    · exact hl
    · simp [World.cell?, Array.getElem?_eq_none (Nat.le_of_not_lt hl)] at h
theorem RowIn.read {k : IntKind} {w w' : World} {a : Option Addr} {len cap : Nat} {zs : List Int} (h : RowIn k w a len cap zs) (hb : Below w.heap.size w w') {i : Nat} (hi : i < len) :
    ∃ x, a = some x ∧ len ≤ cap ∧ cap ≤ maxLen ∧ w'.cell? (x.add i) = some (.int k (zs.getD i 0)) ∧ (Lit.int k (zs.getD i 0)).wf = true := by
  rcases h with ⟨_, h, _⟩ | ⟨x, h1, h2, h3, h4, h5, h6⟩
  · omega
  · refine ⟨x, h1, h2, h3, cell_back (h5 i (by omega)) hb, h6 _ ?_⟩
    rw [List.getD_eq_getElem?_getD, List.getElem?_eq_getElem (by omega)]
    exact List.getElem_mem _
theorem RowIn.len {k : IntKind} {w : World} {a : Option Addr} {len cap : Nat} {zs : List Int} (h : RowIn k w a len cap zs) : len ≤ cap ∧ cap ≤ maxLen := by
  rcases h with ⟨_, h, h2, _⟩ | ⟨x, h1, h2, h3, _⟩
  · exact ⟨by omega, by unfold maxLen; omega⟩
  · exact ⟨h2, h3⟩
/-- A slice of bools that came in. -/
def BoolsIn (w : World) (a : Option Addr) (len cap : Nat) (B : Nat → Bool) : Prop :=
  (a = none ∧ len = 0 ∧ cap = 0) ∨ ∃ x, a = some x ∧ len ≤ cap ∧ cap ≤ maxLen ∧ ∀ i, i < cap → w.cell? (x.add i) = some (.bool (B i))
theorem BoolsIn.read {w w' : World} {a : Option Addr} {len cap : Nat} {B : Nat → Bool} (h : BoolsIn w a len cap B) (hb : Below w.heap.size w w') {i : Nat} (hi : i < len) :
    ∃ x, a = some x ∧ len ≤ cap ∧ cap ≤ maxLen ∧ w'.cell? (x.add i) = some (.bool (B i)) := by
  rcases h with ⟨_, h, _⟩ | ⟨x, h1, h2, h3, h4⟩
  · omega
  · exact ⟨x, h1, h2, h3, cell_back (h4 i (by omega)) hb⟩
theorem BoolsIn.len {w : World} {a : Option Addr} {len cap : Nat} {B : Nat → Bool} (h : BoolsIn w a len cap B) : len ≤ cap ∧ cap ≤ maxLen := by
  rcases h with ⟨_, h, h2⟩ | ⟨x, h1, h2, h3, _⟩
  · exact ⟨by omega, by unfold maxLen; omega⟩
  · exact ⟨h2, h3⟩
theorem open_boolsIn {H : Type} {enc : TypeId × Value → H} {w : World} {base : Nat} {held : Bool} {fuel : Nat} {a : Option Addr} {len cap : Nat} {x : DataW H × List MemPlace}
    (h : DataW.trod enc Tryd.prog w base (fun _ => true) held fuel 47 (Value.slice a len cap).cells.toList = some x) : ∃ B, BoolsIn w a len cap B := by
  rcases open_bools Tryd.underlying47 Tryd.underlying4 (by kernel_rfl) h with ⟨hc, _⟩ | ⟨y, l, c, B, hc, _, hl, hm, _, hx⟩
  · simp [Value.cells] at hc
    obtain ⟨rfl, rfl, rfl⟩ := hc
    exact ⟨fun _ => false, .inl ⟨rfl, rfl, rfl⟩⟩
  · simp [Value.cells] at hc
    obtain ⟨rfl, rfl, rfl⟩ := hc
    exact ⟨B, .inr ⟨y, rfl, hl, hm, hx⟩⟩
theorem step_le (s : Nat) (hs : 1 ≤ s ∧ s ≤ 7) (b : Bool) (z : Int) : (stepF s b z).1 ≤ 7 := by
  unfold stepF
  generalize fl z 4 = r
  generalize fl z 2 = y
  generalize fl z 16 = a
  generalize fl z 1 = f
  obtain rfl | rfl | rfl | rfl | rfl | rfl | rfl : s = 1 ∨ s = 2 ∨ s = 3 ∨ s = 4 ∨ s = 5 ∨ s = 6 ∨ s = 7 := by omega
  all_goals cases r <;> cases y <;> cases a <;> cases f <;> cases b <;> decide
theorem time_of (r x : Nat) (hx : 1 ≤ x ∧ x ≤ 7) : ∃ n : Nat, (cfR r).tm.of (x : Int) = some (n : Int) ∧ 1 ≤ n ∧ n ≤ 50 := by
  obtain rfl | rfl | rfl | rfl | rfl | rfl | rfl : x = 1 ∨ x = 2 ∨ x = 3 ∨ x = 4 ∨ x = 5 ∨ x = 6 ∨ x = 7 := by omega
  · exact ⟨5, rfl, by omega, by omega⟩
  · exact ⟨5, rfl, by omega, by omega⟩
  · exact ⟨50, rfl, by omega, by omega⟩
  · exact ⟨9, rfl, by omega, by omega⟩
  · exact ⟨9, rfl, by omega, by omega⟩
  · exact ⟨9, rfl, by omega, by omega⟩
  · exact ⟨7, rfl, by omega, by omega⟩
theorem fstep_tcp (s : Nat) (b : Bool) (z : Int) : fstep 6 s b z = stepF s b z := rfl
theorem u8_range {n : Int} (h : (Lit.int .u8 n).wf = true) : 0 ≤ n ∧ n < 256 := by
  simp [Lit.wf, IntKind.min, IntKind.max, IntKind.signed, IntKind.bits] at h
  omega
/-- A block of somebody's, and what lies in it. -/
def My (b : Nat) (o : Obj) (U : Nat → Prop) (W : World) : Prop := Mine b U W ∧ W.heap[b]? = some o
section
variable {pl : Pl} {c : Cf} {w : World} {g : FlG} {U : Nat → Prop} {W W' : World} {b : Nat} {o : Obj}
theorem My.new (h : Lv pl c w g U W) (o : Obj) : My W.heap.size o U (W.alloc o) := ⟨Mine.new h o, heap_alloc_new W o⟩
theorem My.below (h : My b o U W) (hb : Below W.heap.size W W') : My b o U W' := ⟨(h.1.below hb).1, (h.1.below hb).2.trans h.2⟩
theorem My.step {V : Nat → Prop} (h : My b o U W) (k2 : Only U W W') (k3 : ∀ i, V i → U i ∨ W.heap.size ≤ i) : My b o V W' := ⟨(h.1.step k2 k3).1, (h.1.step k2 k3).2.trans h.2⟩
end
end Go.Proofs.YtpbknbnhljjjcaaDoor

namespace Go.Proofs.YtpbknbnhljjjcaaDoor
open Go.RowKit Go.Maps Go.Lib
/-- A part that is there has been asked for a port. -/
def tookG (c : Cf) (g : FlG) (K : PKey) (r : Option Nat) : FlG := { g with N := g.N + 1, parts := updL g.parts K (takeP (afterP (g.parts K) g.now) c.many r) }
theorem take_in_there {S : Nat → Prop} {pl : Pl} {c : Cf} {g : FlG} {w : World} (h : Fls pl c g S w) (hTb : TabAt 0 Lib.deBruijn64tab w) (hT0 : 0 < w.heap.size ∧ ¬ S 0) {K : PKey} (hK : K.ok) {pb : PB} (hp : g.lay K = some pb) (hN : g.N < 1000000) (hlow : c.low ≤ 65536) (hnow : g.now ≤ 1099511627776) (hgu : ∀ i u, (g.parts K).given i = some u → i < c.many ∧ (g.parts K).used i = true) (hmany : c.many ≤ 64) (r : Option Nat) (hr : TakeSays (afterP (g.parts K) g.now) c.many r) :
    Calls Tryd.prog 34 #[.pointer (some ⟨pl.P, 0, none⟩), K.v, .int .i64 (g.now : Int)] w fun e w' => e = .returned (.tuple #[.int .i64 (takeN c.low r), .int .i64 (takeE r)]) ∧ Tn (Fls pl c (tookG c g K r)) S w w' := by
  obtain ⟨S1, hc, hsub, hT⟩ := Tri.one (B := PortsC pl.P pl.MP c (g.N + 1) g.lay (updL g.parts K (takeP (afterP (g.parts K) g.now) c.many r))) (clkC ..) (tabC ..) h
  refine (take_there (show PortsIn S1 pl.P pl.MP c.low c.many c.rest g.N g.lay g.parts w from hc) hTb ⟨hT0.1, fun e => hT0.2 (hsub 0 e)⟩ hK hp hN hlow g.now hnow hgu hmany r hr).mono ?_
  rintro e w' ⟨rfl, h1, h2⟩
  exact ⟨rfl, hT w' ⟨S1, h1, h2, fun i hi => .inl hi⟩⟩
set_option maxRecDepth 100000 in
set_option maxHeartbeats 4000000 in
theorem open_full {S : Nat → Prop} {pl : Pl} {c : Cf} {g : FlG} {w : World} (h : Fls pl c g S w) {xs xd xx xy : Int} (hx : Net ⟨6, xs, xd, xx, xy⟩) (sv nat bi ba bp flags : Int) (s : Nat) (hst : fstep 6 0 false flags = (s, true)) (hno : g.t.fA ⟨6, xs, xd, xx, xy⟩ = none) (hroom : g.t.n = c.room) :
    Calls Tryd.prog 15 #[.pointer (some ⟨pl.F, 0, none⟩), .agg #[.int .i64 6, .int .u32 xs, .int .u32 xd, .int .i64 xx, .int .i64 xy], .int .i64 sv, .int .u32 nat, .agg #[.int .i64 bi, .int .u32 ba, .int .i64 bp], .int .i64 flags] w fun e w' => e = .returned (.tuple #[.int .i64 0, .int .i64 16]) ∧ Below w.heap.size w w' := by
  obtain ⟨ks, hks⟩ := key_net hx
  have HKEY := Lib.hid hks
  have hxo := hx.ok
  obtain ⟨w1, hw1⟩ : ∃ w1, (w.alloc (boxT ⟨6, xs, xd, xx, xy⟩)).alloc (boxB bi ba bp) = w1 := ⟨_, rfl⟩
  have hb1 : Below w.heap.size w w1 := by rw [← hw1]; exact ((Below.refl _ w).alloc (Nat.le_refl _) _).alloc (by simp) _
  have hs1 : w1.heap.size = w.heap.size + 2 := by rw [← hw1]; simp
  have x7 : w1.heap[w.heap.size]? = some (boxT ⟨6, xs, xd, xx, xy⟩) := by
    rw [← hw1]
    exact (Below.heap_alloc _ _ _ (by simp)).trans (heap_alloc_new w _)
  have x10 : w1.heap[w.heap.size + 1]? = some (boxB bi ba bp) := by
    rw [← hw1]
    have := heap_alloc_new (w.alloc (boxT ⟨6, xs, xd, xx, xy⟩)) (boxB bi ba bp)
    rwa [World.size_alloc] at this
  have h1 := h.below hb1
  have HK := Lib.hid (show ∀ W : World, Below w1.heap.size w1 W → (W.cell? ⟨pl.F, 5, none⟩ = some (.pointer (some ⟨pl.P, 0, none⟩)) ∧ W.cell? ⟨pl.F, 7, none⟩ = some (.pointer (some ⟨pl.T, 0, none⟩)) ∧ W.cell? ⟨pl.F, 8, none⟩ = some (.int .i64 (c.room : Int)) ∧ W.cell? ⟨w.heap.size, 0, none⟩ = some (.int .i64 6) ∧ W.cell? ⟨w.heap.size, 1, none⟩ = some (.int .u32 xs) ∧ W.cell? ⟨w.heap.size, 2, none⟩ = some (.int .u32 xd) ∧ W.cell? ⟨w.heap.size, 3, none⟩ = some (.int .i64 xx) ∧ W.cell? ⟨w.heap.size, 4, none⟩ = some (.int .i64 xy) ∧ W.cell? ⟨(w.heap.size + 1), 0, none⟩ = some (.int .i64 bi) ∧ W.cell? ⟨(w.heap.size + 1), 1, none⟩ = some (.int .u32 ba) ∧ W.cell? ⟨(w.heap.size + 1), 2, none⟩ = some (.int .i64 bp)) from fun W hb => by
    obtain ⟨t0, t1, t2, t3, t4⟩ := boxT_cells ((hb.block _ (by omega)).trans x7)
    have e10 := (hb.block _ (by omega)).trans x10
    unfold boxB at e10
    have k := (h1.below hb).cells
    exact ⟨k.pp, k.tt, k.rr, t0, t1, t2, t3, t4, by simp [World.cell?, e10], by simp [World.cell?, e10], by simp [World.cell?, e10]⟩)
  have HLN := Lib.hid (fun (W : World) (hb : Below w1.heap.size w1 W) => len_fl (h1.below hb))
  have HNW := Lib.hid (fun (W : World) (hb : Below w1.heap.size w1 W) => now_fl (h1.below hb))
  have HAH := Lib.hid (fun (W : World) (hb : Below w1.heap.size w1 W) => ahead_fl (h1.below hb) hxo)
  have HSTP := Lib.hid (fun (W : World) => (show Calls Tryd.prog 33 #[.int .i64 6, .int .i64 0, .bool false, .int .i64 flags] W fun e w' => e = .returned (.tuple #[.int .i64 ((fstep 6 0 false flags).1 : Int), .bool (fstep 6 0 false flags).2]) ∧ Below W.heap.size W w' from fstep_ok 6 0 (by omega) false flags W))
  rw [hst] at HSTP
  rw [hno] at HAH
  unfold hT at HAH
  rw [hroom] at HLN
  have HW := Lib.hid hw1
  have HB1 := Lib.hid hb1
  obtain ⟨si, hsi⟩ : ∃ si, (s : Int) = si := ⟨_, rfl⟩
  obtain ⟨rm, hrm⟩ : ∃ rm, (c.room : Int) = rm := ⟨_, rfl⟩
  rw [hrm] at HLN HK
  simp only [hsi] at *
  have hnr : (rm == rm) = true := by simp
  clear hsi hrm h h1 hx hks hxo hw1 hb1 hs1 x7 x10 hst hno hroom
  unfold Tup.v at HKEY HAH
  dsimp only at HKEY HAH
  unfold boxT boxB at HW
  dsimp only at HW
  go_enter Tryd.func15, Tryd.ntmps15
  go_upto_region 1 with fail
  refine wp_world w1 HW.out ?_
  obtain ⟨cp, ct, cr, a0, a1, a2, a3, a4, b0, b1, b2⟩ := HK.out _ (Below.refl _ _)
  go_upto_region 2 with (go_at_call 32; refine (HKEY.out _).mono ?_; rintro e w2 ⟨rfl, hb⟩; have HB2 := Lib.hid hb; clear hb)
  clear cp ct cr a0 a1 a2 a3 a4 b0 b1 b2
  obtain ⟨cp, ct, cr, a0, a1, a2, a3, a4, b0, b1, b2⟩ := HK.out _ HB2.out
  go_upto_region 5 with (go_at_call 33; refine (HSTP.out _).mono ?_; rintro e w3 ⟨rfl, hb⟩; have HB3 := Lib.hid (HB2.out.trans (hb.mono HB2.out.size)); clear hb)
  clear cp ct cr a0 a1 a2 a3 a4 b0 b1 b2
  obtain ⟨cp, ct, cr, a0, a1, a2, a3, a4, b0, b1, b2⟩ := HK.out _ HB3.out
  go_upto_region 8 with (go_at_call 22; refine (HAH.out _ HB3.out).mono ?_; rintro e w4 ⟨rfl, hb⟩; have HB4 := Lib.hid (HB3.out.trans (hb.mono HB3.out.size)); clear hb)
  clear cp ct cr a0 a1 a2 a3 a4 b0 b1 b2
  obtain ⟨cp, ct, cr, a0, a1, a2, a3, a4, b0, b1, b2⟩ := HK.out _ HB4.out
  go_upto_region 10 with fail
  go_quiet ((first
    | (go_at_call 17; exact Calls.quiet_of_same (HLN.out _ (below_drewN HB4.out _)))
    | (go_at_call 26; exact Calls.quiet_of_same (HNW.out _ (below_drewN HB4.out _)))))
  go_wp2_with fail
  go_ret2
  exact ⟨rfl, HB1.out.trans ((below_drewN HB4.out _).mono HB1.out.size)⟩
set_option maxRecDepth 100000 in
set_option maxHeartbeats 4000000 in
theorem open_ports {S : Nat → Prop} {pl : Pl} {c : Cf} {g : FlG} {w : World} (h : Fls pl c g S w) (hTb : TabAt 0 Lib.deBruijn64tab w) (hT0 : 0 < w.heap.size ∧ ¬ S 0) {xs xd xx xy : Int} (hx : Net ⟨6, xs, xd, xx, xy⟩) (sv nat bi ba bp flags : Int) (hnat : (nat == 0) = false) (s : Nat) (hst : fstep 6 0 false flags = (s, true)) (hno : g.t.fA ⟨6, xs, xd, xx, xy⟩ = none) (hroom : g.t.n ≠ c.room) (hnow : g.now < 1099511627776) (RT : FlG → Prop)
    (hTk : ∀ (U : Nat → Prop) (W : World), Fls pl c g U W → TabAt 0 Lib.deBruijn64tab W → (0 < W.heap.size ∧ ¬ U 0) → Calls Tryd.prog 34 #[.pointer (some ⟨pl.P, 0, none⟩), .agg #[.int .i64 6, .int .u32 nat, .int .u32 ba, .int .i64 bp], .int .i64 (g.now : Int)] W fun e w' => e = .returned (.tuple #[.int .i64 0, .int .i64 17]) ∧ ∃ g1, RT g1 ∧ Tn (Fls pl c g1) U W w') :
    Calls Tryd.prog 15 #[.pointer (some ⟨pl.F, 0, none⟩), .agg #[.int .i64 6, .int .u32 xs, .int .u32 xd, .int .i64 xx, .int .i64 xy], .int .i64 sv, .int .u32 nat, .agg #[.int .i64 bi, .int .u32 ba, .int .i64 bp], .int .i64 flags] w fun e w' => e = .returned (.tuple #[.int .i64 0, .int .i64 17]) ∧ ∃ g1, RT g1 ∧ Tn (Fls pl c g1) S w w' := by
  obtain ⟨ks, hks⟩ := key_net hx
  have HKEY := Lib.hid hks
  have hxo := hx.ok
  obtain ⟨w1, hw1⟩ : ∃ w1, (w.alloc (boxT ⟨6, xs, xd, xx, xy⟩)).alloc (boxB bi ba bp) = w1 := ⟨_, rfl⟩
  have hb1 : Below w.heap.size w w1 := by rw [← hw1]; exact ((Below.refl _ w).alloc (Nat.le_refl _) _).alloc (by simp) _
  have hs1 : w1.heap.size = w.heap.size + 2 := by rw [← hw1]; simp
  have x7 : w1.heap[w.heap.size]? = some (boxT ⟨6, xs, xd, xx, xy⟩) := by
    rw [← hw1]
    exact (Below.heap_alloc _ _ _ (by simp)).trans (heap_alloc_new w _)
  have x10 : w1.heap[w.heap.size + 1]? = some (boxB bi ba bp) := by
    rw [← hw1]
    have := heap_alloc_new (w.alloc (boxT ⟨6, xs, xd, xx, xy⟩)) (boxB bi ba bp)
    rwa [World.size_alloc] at this
  have h1 := h.below hb1
  have HK := Lib.hid (show ∀ W : World, Below w1.heap.size w1 W → (W.cell? ⟨pl.F, 5, none⟩ = some (.pointer (some ⟨pl.P, 0, none⟩)) ∧ W.cell? ⟨pl.F, 7, none⟩ = some (.pointer (some ⟨pl.T, 0, none⟩)) ∧ W.cell? ⟨pl.F, 8, none⟩ = some (.int .i64 (c.room : Int)) ∧ W.cell? ⟨w.heap.size, 0, none⟩ = some (.int .i64 6) ∧ W.cell? ⟨w.heap.size, 1, none⟩ = some (.int .u32 xs) ∧ W.cell? ⟨w.heap.size, 2, none⟩ = some (.int .u32 xd) ∧ W.cell? ⟨w.heap.size, 3, none⟩ = some (.int .i64 xx) ∧ W.cell? ⟨w.heap.size, 4, none⟩ = some (.int .i64 xy) ∧ W.cell? ⟨(w.heap.size + 1), 0, none⟩ = some (.int .i64 bi) ∧ W.cell? ⟨(w.heap.size + 1), 1, none⟩ = some (.int .u32 ba) ∧ W.cell? ⟨(w.heap.size + 1), 2, none⟩ = some (.int .i64 bp)) from fun W hb => by
    obtain ⟨t0, t1, t2, t3, t4⟩ := boxT_cells ((hb.block _ (by omega)).trans x7)
    have e10 := (hb.block _ (by omega)).trans x10
    unfold boxB at e10
    have k := (h1.below hb).cells
    exact ⟨k.pp, k.tt, k.rr, t0, t1, t2, t3, t4, by simp [World.cell?, e10], by simp [World.cell?, e10], by simp [World.cell?, e10]⟩)
  have HLN := Lib.hid (fun (W : World) (hb : Below w1.heap.size w1 W) => len_fl (h1.below hb))
  have HNW := Lib.hid (fun (W : World) (hb : Below w1.heap.size w1 W) => now_fl (h1.below hb))
  have HAH := Lib.hid (fun (W : World) (hb : Below w1.heap.size w1 W) => ahead_fl (h1.below hb) hxo)
  have HSTP := Lib.hid (fun (W : World) => (show Calls Tryd.prog 33 #[.int .i64 6, .int .i64 0, .bool false, .int .i64 flags] W fun e w' => e = .returned (.tuple #[.int .i64 ((fstep 6 0 false flags).1 : Int), .bool (fstep 6 0 false flags).2]) ∧ Below W.heap.size W w' from fstep_ok 6 0 (by omega) false flags W))
  rw [hst] at HSTP
  have HNO := Lib.hid hno
  rw [hno] at HAH
  unfold hT at HAH
  have HNR := Lib.hid (show ((g.t.n : Int) == (c.room : Int)) = false from by simp; omega)
  have HNN := Lib.hid (show ((g.now : Int) == 1099511627776) = false from by simp; omega)
  have hS1 : ∀ i, S i → i < w1.heap.size := fun i hi => Fls.comp.low h1 i hi
  have hT1 : TabAt 0 Lib.deBruijn64tab w1 := TabAt.kept hTb (hb1.block 0 hT0.1)
  have hT01 : 0 < w1.heap.size ∧ ¬ S 0 := ⟨by omega, hT0.2⟩
  have HC := Lib.hid (fun (wx : World) (hb : Below w1.heap.size w1 wx) => cpy_box hb (⟨⟨6, xs, xd, xx, xy⟩, ⟨6, xs, xd, xx, xy⟩, sv, bi, (s : Int), false⟩ : Fw))
  have HO := Lib.hid (flow_one (⟨⟨6, xs, xd, xx, xy⟩, ⟨6, xs, xd, xx, xy⟩, sv, bi, (s : Int), false⟩ : Fw))
  have HKO := Lib.hid (fun (W : World) => keyOf_ok (⟨⟨6, xs, xd, xx, xy⟩, ⟨6, nat, ba, xx, bp⟩, sv, bi, (s : Int), false⟩ : Fw) W)
  have HTK := Lib.hid (show ∀ (bx : Nat) (W : World), Cpy w1 bx (⟨⟨6, xs, xd, xx, xy⟩, ⟨6, nat, ba, xx, bp⟩, sv, bi, (s : Int), false⟩ : Fw) W → Calls Tryd.prog 34 #[.pointer (some ⟨pl.P, 0, none⟩), .agg #[.int .i64 6, .int .u32 nat, .int .u32 ba, .int .i64 bp], .int .i64 (g.now : Int)] W fun e w' => e = .returned (.tuple #[.int .i64 0, .int .i64 17]) ∧ ∃ g1, RT g1 ∧ ∃ U, St pl c S w1 bx bx (⟨⟨6, xs, xd, xx, xy⟩, ⟨6, nat, ba, xx, bp⟩, sv, bi, (s : Int), false⟩ : Fw) g1 U w' from fun bx W k => by
    have s0 := k.start h1
    obtain ⟨z1, z2⟩ := s0.tab hT1 hT01
    refine (hTk _ _ s0.fl z1 z2).mono ?_
    rintro e w' ⟨rfl, g1, r1, t1⟩
    exact ⟨rfl, g1, r1, s0.step t1⟩)
  have HEN := Lib.hid (show ∀ (bx : Nat) (g1 : FlG) (U : Nat → Prop) (W : World), St pl c S w1 bx bx (⟨⟨6, xs, xd, xx, xy⟩, ⟨6, nat, ba, xx, bp⟩, sv, bi, (s : Int), false⟩ : Fw) g1 U W → Tn (Fls pl c g1) S w W from fun bx g1 U W k => Tn.after hb1 ⟨U, k.fl, k.on, k.new⟩)
  have HS1 := Lib.hid hs1
  have HW := Lib.hid hw1
  have HS := Lib.hid flow_size
  have HKA := Lib.hid (show ∀ (bx : Nat) (W : World), Cpy w1 bx (⟨⟨6, xs, xd, xx, xy⟩, ⟨6, xs, xd, xx, xy⟩, sv, bi, (s : Int), false⟩ : Fw) W → (W.cell? ⟨bx, 0, none⟩ = some (.int .i64 6) ∧ W.cell? ⟨bx, 1, none⟩ = some (.int .u32 xs) ∧ W.cell? ⟨bx, 2, none⟩ = some (.int .u32 xd) ∧ W.cell? ⟨bx, 3, none⟩ = some (.int .i64 xx) ∧ W.cell? ⟨bx, 4, none⟩ = some (.int .i64 xy) ∧ W.cell? ⟨bx, 5, none⟩ = some (.int .i64 6) ∧ W.cell? ⟨bx, 6, none⟩ = some (.int .u32 xs) ∧ W.cell? ⟨bx, 7, none⟩ = some (.int .u32 xd) ∧ W.cell? ⟨bx, 8, none⟩ = some (.int .i64 xx) ∧ W.cell? ⟨bx, 9, none⟩ = some (.int .i64 xy) ∧ W.cell? ⟨bx, 10, none⟩ = some (.int .i64 sv) ∧ W.cell? ⟨bx, 11, none⟩ = some (.int .i64 bi) ∧ W.cell? ⟨bx, 12, none⟩ = some (.int .i64 (s : Int)) ∧ W.cell? ⟨bx, 13, none⟩ = some (.bool false) ∧ W.frozen? ⟨bx, 6, none⟩ = false ∧ W.frozen? ⟨bx, 7, none⟩ = false ∧ W.frozen? ⟨bx, 9, none⟩ = false) from fun bx W k => by
    obtain ⟨⟨p0, p1, p2, p3, p4⟩, ⟨q0, q1, q2, q3, q4⟩, r0, r1, r2, r3⟩ := k.box
    have fz : ∀ o, o < 14 → W.frozen? ⟨bx, o, none⟩ = false := fun o ho => by have := (k.fre o ho).2; rwa [Nat.zero_add] at this
    exact ⟨p0, p1, p2, p3, p4, q0, q1, q2, q3, q4, r0, r1, r2, r3, fz _ (by omega), fz _ (by omega), fz _ (by omega)⟩)
  have HKB := Lib.hid (show ∀ (bx : Nat) (W : World), Cpy w1 bx (⟨⟨6, xs, xd, xx, xy⟩, ⟨6, nat, ba, xx, bp⟩, sv, bi, (s : Int), false⟩ : Fw) W → (W.cell? ⟨pl.F, 5, none⟩ = some (.pointer (some ⟨pl.P, 0, none⟩)) ∧ W.cell? ⟨bx, 0, none⟩ = some (.int .i64 6) ∧ W.cell? ⟨bx, 1, none⟩ = some (.int .u32 xs) ∧ W.cell? ⟨bx, 2, none⟩ = some (.int .u32 xd) ∧ W.cell? ⟨bx, 3, none⟩ = some (.int .i64 xx) ∧ W.cell? ⟨bx, 4, none⟩ = some (.int .i64 xy) ∧ W.cell? ⟨bx, 5, none⟩ = some (.int .i64 6) ∧ W.cell? ⟨bx, 6, none⟩ = some (.int .u32 nat) ∧ W.cell? ⟨bx, 7, none⟩ = some (.int .u32 ba) ∧ W.cell? ⟨bx, 8, none⟩ = some (.int .i64 xx) ∧ W.cell? ⟨bx, 9, none⟩ = some (.int .i64 bp) ∧ W.cell? ⟨bx, 10, none⟩ = some (.int .i64 sv) ∧ W.cell? ⟨bx, 11, none⟩ = some (.int .i64 bi) ∧ W.cell? ⟨bx, 12, none⟩ = some (.int .i64 (s : Int)) ∧ W.cell? ⟨bx, 13, none⟩ = some (.bool false)) from fun bx W k => by
    obtain ⟨⟨p0, p1, p2, p3, p4⟩, ⟨q0, q1, q2, q3, q4⟩, r0, r1, r2, r3⟩ := k.box
    exact ⟨(h1.below k.bel).cells.pp, p0, p1, p2, p3, p4, q0, q1, q2, q3, q4, r0, r1, r2, r3⟩)
  have HKT := Lib.hid (show ∀ (bx : Nat) (g1 : FlG) (U : Nat → Prop) (W : World), St pl c S w1 bx bx (⟨⟨6, xs, xd, xx, xy⟩, ⟨6, nat, ba, xx, bp⟩, sv, bi, (s : Int), false⟩ : Fw) g1 U W → (W.cell? ⟨pl.F, 5, none⟩ = some (.pointer (some ⟨pl.P, 0, none⟩)) ∧ W.cell? ⟨bx, 0, none⟩ = some (.int .i64 6) ∧ W.cell? ⟨bx, 1, none⟩ = some (.int .u32 xs) ∧ W.cell? ⟨bx, 2, none⟩ = some (.int .u32 xd) ∧ W.cell? ⟨bx, 3, none⟩ = some (.int .i64 xx) ∧ W.cell? ⟨bx, 4, none⟩ = some (.int .i64 xy) ∧ W.cell? ⟨bx, 5, none⟩ = some (.int .i64 6) ∧ W.cell? ⟨bx, 6, none⟩ = some (.int .u32 nat) ∧ W.cell? ⟨bx, 7, none⟩ = some (.int .u32 ba) ∧ W.cell? ⟨bx, 8, none⟩ = some (.int .i64 xx) ∧ W.cell? ⟨bx, 9, none⟩ = some (.int .i64 bp) ∧ W.cell? ⟨bx, 10, none⟩ = some (.int .i64 sv) ∧ W.cell? ⟨bx, 11, none⟩ = some (.int .i64 bi) ∧ W.cell? ⟨bx, 12, none⟩ = some (.int .i64 (s : Int)) ∧ W.cell? ⟨bx, 13, none⟩ = some (.bool false)) from fun bx g1 U W k => by
    obtain ⟨⟨p0, p1, p2, p3, p4⟩, ⟨q0, q1, q2, q3, q4⟩, r0, r1, r2, r3⟩ := k.c5
    exact ⟨k.fl.cells.pp, p0, p1, p2, p3, p4, q0, q1, q2, q3, q4, r0, r1, r2, r3⟩)
  obtain ⟨now, hnw⟩ : ∃ now, (g.now : Int) = now := ⟨_, rfl⟩
  obtain ⟨tn, htn⟩ : ∃ tn, (g.t.n : Int) = tn := ⟨_, rfl⟩
  obtain ⟨rm, hrm⟩ : ∃ rm, (c.room : Int) = rm := ⟨_, rfl⟩
  obtain ⟨si, hsi⟩ : ∃ si, (s : Int) = si := ⟨_, rfl⟩
  rw [hnw] at HNN HNW HTK
  rw [htn] at HNR HLN
  rw [hrm] at HNR HK
  simp only [hsi] at *
  clear hnw htn hrm hsi h h1 hTb hT0 hx hks hxo hw1 hb1 hs1 x7 x10 hst hno hroom hnow hTk hS1 hT1 hT01
  unfold Fw.v keyOf PKey.v at HKO
  dsimp only at HKO
  unfold Tup.v at HKEY HAH
  dsimp only at HKEY HAH
  unfold boxT boxB at HW
  dsimp only at HW
  have hnr := HNR.out
  have hnn := HNN.out
  go_enter Tryd.func15, Tryd.ntmps15
  go_upto_region 1 with fail
  refine wp_world w1 HW.out ?_
  obtain ⟨cp, ct, cr, a0, a1, a2, a3, a4, b0, b1, b2⟩ := HK.out _ (Below.refl _ _)
  go_upto_region 2 with (go_at_call 32; refine (HKEY.out _).mono ?_; rintro e w2 ⟨rfl, hb⟩; have HB2 := Lib.hid hb; clear hb)
  clear cp ct cr a0 a1 a2 a3 a4 b0 b1 b2
  obtain ⟨cp, ct, cr, a0, a1, a2, a3, a4, b0, b1, b2⟩ := HK.out _ HB2.out
  go_upto_region 5 with (go_at_call 33; refine (HSTP.out _).mono ?_; rintro e w3 ⟨rfl, hb⟩; have HB3 := Lib.hid (HB2.out.trans (hb.mono HB2.out.size)); clear hb)
  clear cp ct cr a0 a1 a2 a3 a4 b0 b1 b2
  obtain ⟨cp, ct, cr, a0, a1, a2, a3, a4, b0, b1, b2⟩ := HK.out _ HB3.out
  go_upto_region 8 with (go_at_call 22; refine (HAH.out _ HB3.out).mono ?_; rintro e w4 ⟨rfl, hb⟩; have HB4 := Lib.hid (HB3.out.trans (hb.mono HB3.out.size)); clear hb)
  clear cp ct cr a0 a1 a2 a3 a4 b0 b1 b2
  obtain ⟨cp, ct, cr, a0, a1, a2, a3, a4, b0, b1, b2⟩ := HK.out _ HB4.out
  go_upto_region 10 with fail
  go_quiet ((first
    | (go_at_call 17; exact Calls.quiet_of_same (HLN.out _ (below_drewN HB4.out _)))
    | (go_at_call 26; exact Calls.quiet_of_same (HNW.out _ (below_drewN HB4.out _)))))
  have hbq : Below w1.heap.size w1 (w4.drewN nq) := below_drewN HB4.out _
  generalize w4.drewN nq = w5 at *
  have HBQ := Lib.hid hbq
  have k5 := HC.out w5 hbq
  have HC5 := Lib.hid k5
  clear hbq k5
  clear cp ct cr a0 a1 a2 a3 a4 b0 b1 b2
  obtain ⟨cp, ct, cr, a0, a1, a2, a3, a4, b0, b1, b2⟩ := HK.out _ HBQ.out
  go_upto_region 13 with fail
  obtain ⟨bx, hbx⟩ : ∃ bx, w5.heap.size = bx := ⟨_, rfl⟩
  obtain ⟨w6, hw6⟩ : ∃ w6, w5.alloc (.cells #[.int .i64 6, .int .u32 xs, .int .u32 xd, .int .i64 xx, .int .i64 xy, .int .i64 6, .int .u32 xs, .int .u32 xd, .int .i64 xx, .int .i64 xy, .int .i64 sv, .int .i64 bi, .int .i64 si, .bool false] 52) = w6 := ⟨_, rfl⟩
  have k6 : Cpy w1 bx (⟨⟨6, xs, xd, xx, xy⟩, ⟨6, xs, xd, xx, xy⟩, sv, bi, si, false⟩ : Fw) w6 := by rw [← hw6, ← hbx]; exact HC5.out
  rw [hbx]
  refine wp_world w6 hw6 ?_
  clear hw6 hbx
  have HC6 := Lib.hid k6
  clear cp ct cr a0 a1 a2 a3 a4 b0 b1 b2
  obtain ⟨cp, ct, cr, a0, a1, a2, a3, a4, b0, b1, b2⟩ := HK.out _ k6.bel
  have p13 : w6.cell? ⟨bx, 13, none⟩ = some (.bool false) := k6.box.rr.2.2.2
  clear k6
  go_upto_region 15 with fail
  obtain ⟨_, _, _, _, _, _, m6, m7, _, m9, _, _, _, _, z6, z7, z9⟩ := HKA.out _ _ HC6.out
  clear cp ct cr a0 a1 a2 a3 a4 b0 p13
  go_region
  all_goals
    clear m6 m7 m9 z6 z7 z9 b1 b2
    have k7 := ((HC6.out.b6 nat).b7 ba).b9 bp
    have HC7 := Lib.hid (k7.below (below_drew (Below.refl _ _)))
    clear k7
    revert HC7
    generalize hw7 : (((w6.setCell ⟨bx, 6, none⟩ (.int .u32 nat)).setCell ⟨bx, 7, none⟩ (.int .u32 ba)).setCell ⟨bx, 9, none⟩ (.int .i64 bp)).drew = w7
    intro HC7
    clear hw7
    have HC8 := Lib.hid (HC7.out.below (below_drew (Below.refl _ w7)))
    have HLO := Lib.hid HC7.out.lo
    go_upto_region 16 with fail
    go_region_held3 (fun W : World => (W.cell? ⟨pl.F, 5, none⟩ = some (.pointer (some ⟨pl.P, 0, none⟩)) ∧ W.cell? ⟨bx, 0, none⟩ = some (.int .i64 6) ∧ W.cell? ⟨bx, 1, none⟩ = some (.int .u32 xs) ∧ W.cell? ⟨bx, 2, none⟩ = some (.int .u32 xd) ∧ W.cell? ⟨bx, 3, none⟩ = some (.int .i64 xx) ∧ W.cell? ⟨bx, 4, none⟩ = some (.int .i64 xy) ∧ W.cell? ⟨bx, 5, none⟩ = some (.int .i64 6) ∧ W.cell? ⟨bx, 6, none⟩ = some (.int .u32 nat) ∧ W.cell? ⟨bx, 7, none⟩ = some (.int .u32 ba) ∧ W.cell? ⟨bx, 8, none⟩ = some (.int .i64 xx) ∧ W.cell? ⟨bx, 9, none⟩ = some (.int .i64 bp) ∧ W.cell? ⟨bx, 10, none⟩ = some (.int .i64 sv) ∧ W.cell? ⟨bx, 11, none⟩ = some (.int .i64 bi) ∧ W.cell? ⟨bx, 12, none⟩ = some (.int .i64 si) ∧ W.cell? ⟨bx, 13, none⟩ = some (.bool false))) (first | exact HKB.out _ _ HC7.out | exact HKB.out _ _ HC8.out | exact HKT.out _ _ _ _ HS9.out) (first
      | (go_at_call 26; refine (HNW.out _ (by first | exact HC8.out.bel | exact HC7.out.bel)).mono ?_; rintro e wy ⟨rfl, rfl⟩)
      | (go_at_call 35; refine (HKO.out _).mono ?_; rintro e wx ⟨rfl, hb⟩; replace HC8 := Lib.hid (HC8.out.below hb); clear hb)
      | (go_at_call 34; refine (HTK.out _ _ HC8.out).mono ?_; rintro e w9 ⟨rfl, g1, r1, U9, s9⟩; have HR1 := Lib.hid r1; have HS9 := Lib.hid s9; clear r1 s9))
    all_goals
      go_wp2_with fail
      go_ret2
      exact ⟨rfl, g1, HR1.out, HEN.out _ _ _ _ HS9.out⟩
end Go.Proofs.YtpbknbnhljjjcaaDoor

namespace Go.Proofs.YtpbknbnhljjjcaaDoor
open Go.RowKit Go.Maps Go.Lib
/-- A part whose first m numbers of four are lent. -/
def partM (m : Nat) : PartG := ⟨fun i => decide (i < m), m % 4, fun i => decide (i < m), fun _ => none⟩
theorem part1_M : part1 4 = partM 1 := by
  unfold part1 partM updB
  congr 1
  · funext i
    by_cases e : i = 0
    · subst e; rfl
    · rw [if_neg e]; exact (decide_eq_false (by omega)).symm
  · funext i
    by_cases e : i = 0
    · subst e; rfl
    · rw [decide_eq_false e]; exact (decide_eq_false (by omega)).symm
theorem after_M (m now : Nat) : afterP (partM m) now = partM m := by
  unfold afterP rested partM
  simp
theorem take_M (m : Nat) : takeP (afterP (partM m) 0) 4 (some m) = partM (m + 1) := by
  rw [after_M]
  have h : updB (fun i => decide (i < m)) m true = fun i => decide (i < m + 1) := by
    funext i
    unfold updB
    by_cases e : i = m
    · rw [if_pos e]; exact (decide_eq_true (by omega)).symm
    · rw [if_neg e]; exact decide_eq_decide.2 (by omega)
  show (⟨updB (fun i => decide (i < m)) m true, (m + 1) % 4, updB (fun i => decide (i < m)) m true, fun _ => none⟩ : PartG) = ⟨fun i => decide (i < m + 1), (m + 1) % 4, fun i => decide (i < m + 1), fun _ => none⟩
  rw [h]
theorem says_M (m : Nat) (hm : m < 4) : TakeSays (afterP (partM m) 0) 4 (some m) := by
  rw [after_M]
  refine ⟨hm, decide_eq_false (by omega), .inl ⟨?_, fun j h1 h2 => ?_⟩⟩
  · show m % 4 ≤ m
    omega
  · have h1 : m % 4 ≤ j := h1
    omega
theorem says_full : TakeSays (afterP (partM 4) 0) 4 none := by
  rw [after_M]
  exact fun j hj => decide_eq_true hj
def cliX (j : Nat) : Tup := ⟨6, (j : Int), 99, 1, 80⟩
def bkX (q m : Nat) : Tup := ⟨6, 7, 5 + (q : Int), ((1000 + m : Nat) : Int), 80⟩
def keyX (q : Nat) : PKey := ⟨6, 7, 5 + (q : Int), 80⟩
theorem cliX_ne {i j : Nat} (h : i ≠ j) : cliX i ≠ cliX j := fun e => by
  unfold cliX at e
  injection e with _ e2
  omega
theorem bkX_ne {q m q' m' : Nat} (h : ¬ (q = q' ∧ m = m')) : bkX q m ≠ bkX q' m' := fun e => by
  unfold bkX at e
  injection e with _ _ e3 e4
  omega
theorem keyX_ne {q q' : Nat} (h : q ≠ q') : keyX q ≠ keyX q' := fun e => by
  unfold keyX at e
  injection e with _ _ e3
  omega
/-- Whose ports are lent behind s flows. -/
structure FuP (s : Nat) (lay : PKey → Option PB) (parts : PKey → PartG) : Prop where
  on : ∀ q, 4 * q < s → (∃ pb, lay (keyX q) = some pb) ∧ parts (keyX q) = partM (min 4 (s - 4 * q))
  off : ∀ q, s ≤ 4 * q → lay (keyX q) = none
structure Fu (s : Nat) (g : FlG) : Prop where
  len : g.t.rows.length = s + 1
  free : g.t.free = []
  cnt : g.t.n = s
  now : g.now = 0
  o : g.o ≤ s
  nB : g.nB ≤ s
  fA : ∀ j, s ≤ j → g.t.fA (cliX j) = none
  fB : ∀ q m, m < 4 → s ≤ 4 * q + m → g.t.fB (bkX q m) = none
  ports : FuP s g.lay g.parts
theorem fu0 : Fu 0 g0 := ⟨rfl, rfl, rfl, rfl, Nat.le_refl _, Nat.le_refl _, fun _ _ => rfl, fun _ _ _ _ => rfl, ⟨fun q h => by omega, fun _ _ => rfl⟩⟩
/-- A port is taken for the next flow. -/
structure Took (s : Nat) (g g1 : FlG) : Prop where
  t : g1.t = g.t
  now : g1.now = g.now
  o : g1.o = g.o
  nB : g1.nB = g.nB
  N : g1.N = g.N + 1
  ports : FuP (s + 1) g1.lay g1.parts
theorem fuP_fresh {s : Nat} {lay : PKey → Option PB} {parts : PKey → PartG} (h : FuP s lay parts) (q : Nat) (hq : s = 4 * q) (pb : PB) : FuP (s + 1) (updL lay (keyX q) (some pb)) (updL parts (keyX q) (part1 4)) := by
  refine ⟨fun q' hq' => ?_, fun q' hq' => ?_⟩
  · unfold updL
    by_cases e : q' = q
    · subst e
      rw [if_pos rfl, if_pos rfl, part1_M, show min 4 (s + 1 - 4 * q') = 1 by omega]
      exact ⟨⟨pb, rfl⟩, rfl⟩
    · rw [if_neg (keyX_ne e), if_neg (keyX_ne e)]
      have := h.on q' (by omega)
      rw [show min 4 (s + 1 - 4 * q') = min 4 (s - 4 * q') by omega]
      exact this
  · unfold updL
    rw [if_neg (keyX_ne (by omega))]
    exact h.off q' (by omega)
theorem fuP_there {s : Nat} {lay : PKey → Option PB} {parts : PKey → PartG} (h : FuP s lay parts) (q m : Nat) (hq : s = 4 * q + m) (hm : m < 4) (hm0 : m ≠ 0) : FuP (s + 1) lay (updL parts (keyX q) (takeP (afterP (parts (keyX q)) 0) 4 (some m))) := by
  have hpq := (h.on q (by omega)).2
  rw [show min 4 (s - 4 * q) = m by omega] at hpq
  refine ⟨fun q' hq' => ?_, fun q' hq' => h.off q' (by omega)⟩
  unfold updL
  by_cases e : q' = q
  · subst e
    rw [if_pos rfl, hpq, take_M m, show min 4 (s + 1 - 4 * q') = m + 1 by omega]
    exact ⟨(h.on q' (by omega)).1, rfl⟩
  · rw [if_neg (keyX_ne e)]
    have := h.on q' (by omega)
    rw [show min 4 (s + 1 - 4 * q') = min 4 (s - 4 * q') by omega]
    exact this
theorem fuP_full {lay : PKey → Option PB} {parts : PKey → PartG} (h : FuP 4 lay parts) : FuP 4 lay (updL parts (keyX 0) (takeP (afterP (parts (keyX 0)) 0) 4 none)) := by
  have hpq : parts (keyX 0) = partM 4 := (h.on 0 (by omega)).2
  refine ⟨fun q' hq' => ?_, h.off⟩
  obtain rfl : q' = 0 := by omega
  unfold updL
  rw [if_pos rfl, hpq, after_M]
  exact ⟨(h.on 0 (by omega)).1, rfl⟩
theorem fu_next {s : Nat} {g g1 : FlG} (h : Fu s g) (k : Took s g g1) (q m : Nat) (hq : s = 4 * q + m) (f : Fw) (t : Nat) : Fu (s + 1) (armG (putG g1 (cliX s) (bkX q m) f) ((s + 1 : Nat) : Int) t) := by
  refine ⟨?_, ?_, ?_, k.now.trans h.now, ?_, ?_, fun j hj => ?_, fun q' m' hm' hj => ?_, k.ports⟩
  · show (g1.t.rows ++ [_]).length = _
    rw [k.t, List.length_append, h.len]
    rfl
  · show g1.t.free = []
    rw [k.t, h.free]
  · show g1.t.n + 1 = _
    rw [k.t, h.cnt]
  · show g1.o + 1 ≤ s + 1
    rw [k.o]
    have := h.o
    omega
  · show g1.nB + 1 ≤ s + 1
    rw [k.nB]
    have := h.nB
    omega
  · show updT g1.t.fA (cliX s) _ (cliX j) = none
    unfold updT
    rw [if_neg (cliX_ne (by omega)), k.t]
    exact h.fA j (by omega)
  · show updT g1.t.fB (bkX q m) _ (bkX q' m') = none
    unfold updT
    rw [if_neg (bkX_ne (by omega)), k.t]
    exact h.fB q' m' hm' (by omega)
theorem cliX_net (j : Nat) (hj : j < 50) : Net (cliX j) := by
  unfold cliX
  exact ⟨by dsimp only; omega, by dsimp only; omega, by dsimp only; omega, by dsimp only; omega, by dsimp only; omega⟩
theorem keyX_ok (q : Nat) (hq : q < 100) : (keyX q).ok := ⟨show (Lit.int .i64 6).wf = true by decide, show (Lit.int .u32 7).wf = true by decide, u32_wf (show 0 ≤ 5 + (q : Int) by omega) (show 5 + (q : Int) < 4294967296 by omega), show (Lit.int .i64 80).wf = true by decide⟩
theorem bkX_ok (q m : Nat) (hq : q < 100) (hm : m < 4) : (bkX q m).ok := ⟨show (Lit.int .i64 6).wf = true by decide, show (Lit.int .u32 7).wf = true by decide, u32_wf (show 0 ≤ 5 + (q : Int) by omega) (show 5 + (q : Int) < 4294967296 by omega), i64_wf' (show -9223372036854775808 ≤ ((1000 + m : Nat) : Int) by omega) (show ((1000 + m : Nat) : Int) ≤ 9223372036854775807 by omega), show (Lit.int .i64 80).wf = true by decide⟩
section
variable {S : Nat → Prop} {pl : Pl} {g : FlG} {w : World}
def fwX (s q m : Nat) (bi : Int) : Fw := ⟨cliX s, bkX q m, 1, bi, 1, false⟩
theorem open_next (room : Nat) (h : Fls pl (cfR room) g S w) (hTb : TabAt 0 Lib.deBruijn64tab w) (hT0 : 0 < w.heap.size ∧ ¬ S 0) {s : Nat} (k : Fu s g) (q m : Nat) (hq : s = 4 * q + m) (hm : m < 4) (hs : s < 40) (hN : g.N < 1000) (hroom : s ≠ room) (bi : Int) :
    Calls Tryd.prog 15 #[.pointer (some ⟨pl.F, 0, none⟩), .agg #[.int .i64 6, .int .u32 (s : Int), .int .u32 99, .int .i64 1, .int .i64 80], .int .i64 1, .int .u32 7, .agg #[.int .i64 bi, .int .u32 (5 + (q : Int)), .int .i64 80], .int .i64 2] w fun e w' => e = .returned (.tuple #[.int .i64 ((s + 1 : Nat) : Int), .int .i64 0]) ∧ ∃ g', Fu (s + 1) g' ∧ g'.N = g.N + 1 ∧ Tn (Fls pl (cfR room) g') S w w' := by
  have hnow0 := k.now
  refine (open_nat h hTb hT0 (cliX_net s (by omega)) 1 7 bi (5 + (q : Int)) 80 2 (by decide) 1 fstep_syn (k.fA s (Nat.le_refl _)) (by rw [k.cnt]; exact hroom) (by rw [hnow0]; omega) ((1000 + m : Nat) : Int) ((s + 1 : Nat) : Int) (by omega) (Took s g) (fun g2 => ∃ g1, Took s g g1 ∧ g2 = putG g1 (cliX s) (bkX q m) (fwX s q m bi)) ?_ ?_ 5 (by decide) rfl (by omega) (by omega) ?_).mono ?_
  · intro U W kk z1 z2
    by_cases hm0 : m = 0
    · subst hm0
      refine (take_in kk z1 z2 (keyX_ok q (by omega)) (k.ports.off q (by omega)) (show 1 ≤ 4 ∧ 4 ≤ 64 by omega) (by omega) (show 1000 ≤ 65536 by omega) _).mono ?_
      rintro e w' ⟨rfl, pb, ht⟩
      exact ⟨rfl, takeG (cfR room) g (keyX q) pb, ⟨rfl, rfl, rfl, rfl, rfl, fuP_fresh k.ports q (by omega) pb⟩, ht⟩
    · obtain ⟨⟨pb, hpb⟩, hpm⟩ := k.ports.on q (by omega)
      rw [show min 4 (s - 4 * q) = m by omega] at hpm
      refine (take_in_there kk z1 z2 (keyX_ok q (by omega)) hpb (by omega) (show 1000 ≤ 65536 by omega) (by rw [hnow0]; omega) (fun i u e => by rw [hpm] at e; cases e) (show 4 ≤ 64 by omega) (some m) (by rw [hpm, hnow0]; exact says_M m hm)).mono ?_
      rintro e w' ⟨rfl, ht⟩
      refine ⟨rfl, tookG (cfR room) g (keyX q) (some m), ⟨rfl, rfl, rfl, rfl, rfl, ?_⟩, ht⟩
      show FuP (s + 1) g.lay (updL g.parts (keyX q) (takeP (afterP (g.parts (keyX q)) g.now) 4 (some m)))
      rw [hnow0]
      exact fuP_there k.ports q m hq hm hm0
  · rintro g1 kt U W kk
    have e1 : g1.t.rows.length = s + 1 := by rw [kt.t, k.len]
    have hpt := put_in kk (cliX_net s (by omega)).ok (bkX_ok q m (by omega) hm) (fwX s q m bi) (by rw [kt.t]; exact k.fA s (Nat.le_refl _)) (by rw [kt.t]; exact k.fB q m hm (by omega)) (by rw [kt.t, k.cnt]; exact hroom) (by rw [kt.t]; exact k.free) (by rw [kt.t, k.cnt]; omega) (by rw [kt.nB]; have := k.nB; omega) (by rw [e1]; omega)
    rw [e1] at hpt
    refine hpt.mono ?_
    rintro e w' ⟨rfl, ht⟩
    exact ⟨rfl, _, ⟨g1, kt, rfl⟩, ht⟩
  · rintro g2 ⟨g1, kt, rfl⟩
    exact ⟨kt.now, show g1.o < 549755813887 by rw [kt.o]; have := k.o; omega⟩
  · rintro e w' ⟨rfl, g2, ⟨g1, kt, rfl⟩, ht⟩
    exact ⟨rfl, _, fu_next k kt q m hq _ _, kt.N, ht⟩
theorem open_none (room : Nat) (h : Fls pl (cfR room) g S w) (hTb : TabAt 0 Lib.deBruijn64tab w) (hT0 : 0 < w.heap.size ∧ ¬ S 0) (k : Fu 4 g) (i : Nat) (hi : 4 ≤ i ∧ i < 40) (hN : g.N < 1000) (hroom : 4 ≠ room) (bi : Int) :
    Calls Tryd.prog 15 #[.pointer (some ⟨pl.F, 0, none⟩), .agg #[.int .i64 6, .int .u32 (i : Int), .int .u32 99, .int .i64 1, .int .i64 80], .int .i64 1, .int .u32 7, .agg #[.int .i64 bi, .int .u32 5, .int .i64 80], .int .i64 2] w fun e w' => e = .returned (.tuple #[.int .i64 0, .int .i64 17]) ∧ ∃ g', Fu 4 g' ∧ g'.N = g.N + 1 ∧ Tn (Fls pl (cfR room) g') S w w' := by
  have hnow0 := k.now
  refine (open_ports h hTb hT0 (cliX_net i (by omega)) 1 7 bi 5 80 2 (by decide) 1 fstep_syn (k.fA i hi.1) (by rw [k.cnt]; exact hroom) (by rw [hnow0]; omega) (fun g1 => Fu 4 g1 ∧ g1.N = g.N + 1) ?_).mono ?_
  · intro U W kk z1 z2
    obtain ⟨⟨pb, hpb⟩, hpm⟩ := k.ports.on 0 (by omega)
    have hpm : g.parts (keyX 0) = partM 4 := hpm
    refine (take_in_there kk z1 z2 (keyX_ok 0 (by omega)) hpb (by omega) (show 1000 ≤ 65536 by omega) (by rw [hnow0]; omega) (fun i u e => by rw [hpm] at e; cases e) (show 4 ≤ 64 by omega) none (by rw [hpm, hnow0]; exact says_full)).mono ?_
    rintro e w' ⟨rfl, ht⟩
    refine ⟨rfl, tookG (cfR room) g (keyX 0) none, ⟨⟨k.len, k.free, k.cnt, k.now, k.o, k.nB, k.fA, k.fB, ?_⟩, rfl⟩, ht⟩
    show FuP 4 g.lay (updL g.parts (keyX 0) (takeP (afterP (g.parts (keyX 0)) g.now) 4 none))
    rw [hnow0]
    exact fuP_full k.ports
  · rintro e w' ⟨rfl, g1, ⟨h1, h2⟩, ht⟩
    exact ⟨rfl, g1, h1, h2, ht⟩
end
end Go.Proofs.YtpbknbnhljjjcaaDoor

namespace Go.Proofs.YtpbknbnhljjjcaaDoor
open Go.RowKit Go.Maps Go.Lib
/-- What Put leaves where a number was free. -/
def TabPut (S : Nat → Prop) (T gR capR MA MB nB room : Nat) (a b : Tup) (v : Fw) (t : Tb) (i : Nat) (w w' : World) : Prop :=
  ∃ S' nB' lv' l', ((i : Int) :: l').Perm t.free ∧ nB' ≤ nB + 1 ∧ TabIn S' T gR capR MA MB nB' room lv' ⟨t.rows.set i (some ⟨a, b, v⟩), l', updT t.fA a (some i), updT t.fB b (some i), t.n + 1⟩ w' ∧ Only S w w' ∧ ∀ j, S' j → S j ∨ w.heap.size ≤ j
section
variable {S : Nat → Prop} {T gR capR MA MB nB room : Nat} {lvF : Value} {t : Tb} {w w' : World}
set_option maxRecDepth 100000 in
set_option maxHeartbeats 4000000 in
theorem put_pop (h : TabIn S T gR capR MA MB nB room lvF t w) {a b : Tup} (ha : a.ok) (hb : b.ok) (v : Fw) (hA : t.fA a = none) (hB : t.fB b = none) (hn : t.n ≠ room) {i : Nat} (hx0 : t.free[0]? = some (i : Int)) (hi : t.rows[i]? = some none) (hfl : t.free.length < 1000000) (hn1 : t.n < 1000000) (hnB : nB < 1000000) :
    Calls Tryd.prog 36 #[.pointer (some ⟨T, 0, none⟩), a.v, b.v, v.v] w fun e w' => e = .returned (.tuple #[.int .i64 (i : Int), .int .i64 0]) ∧ TabPut S T gR capR MA MB nB room a b v t i w w' := by
  obtain ⟨w0, hw0⟩ : ∃ w0, ((w.alloc (boxT a)).alloc (boxT b)).alloc (boxF v) = w0 := ⟨_, rfl⟩
  have hb0 : Below w.heap.size w w0 := by rw [← hw0]; exact (((Below.refl _ w).alloc (Nat.le_refl _) _).alloc (by simp) _).alloc (by simp; omega) _
  have hs0 : w0.heap.size = w.heap.size + 3 := by rw [← hw0]; simp
  have x5 : w0.heap[w.heap.size]? = some (boxT a) := by
    rw [← hw0]
    exact (Below.heap_alloc _ _ _ (by simp; omega)).trans ((Below.heap_alloc _ _ _ (by simp)).trans (heap_alloc_new w _))
  have x6 : w0.heap[w.heap.size + 1]? = some (boxT b) := by
    rw [← hw0]
    have := heap_alloc_new (w.alloc (boxT a)) (boxT b)
    rw [World.size_alloc] at this
    exact (Below.heap_alloc _ _ _ (by simp)).trans this
  have x7 : w0.heap[w.heap.size + 2]? = some (boxF v) := by
    rw [← hw0]
    have := heap_alloc_new ((w.alloc (boxT a)).alloc (boxT b)) (boxF v)
    rwa [World.size_alloc, World.size_alloc] at this
  have k0 := h.below hb0
  have HLOW := Lib.hid h.low
  have hdr : ∀ n, Below w0.heap.size w0 (w0.drewN n) := fun n => ⟨rfl, rfl, rfl, Nat.le_refl _, fun _ _ => rfl⟩
  have l1 : ∀ n, (Instr.lookup 67 (.map (some MA)) (.agg #[.int .i64 a.p, .int .u32 a.s, .int .u32 a.d, .int .i64 a.x, .int .i64 a.y]) true).run Tryd.prog (w0.drewN n) = .ok (.tuple #[.int .i64 0, .bool false]) (w0.drewN n) := fun n => by
    have h1 := (k0.below (hdr n)).mapA.look_ok (E := kT) (z := .int .i64 0) Tryd.underlying67 (zero3 _) ha
    rw [hA] at h1
    exact h1
  have l2 : ∀ n, (Instr.lookup 67 (.map (some MB)) (.agg #[.int .i64 b.p, .int .u32 b.s, .int .u32 b.d, .int .i64 b.x, .int .i64 b.y]) true).run Tryd.prog (w0.drewN n) = .ok (.tuple #[.int .i64 0, .bool false]) (w0.drewN n) := fun n => by
    have h1 := (k0.below (hdr n)).mapB.look_ok (E := kT) (z := .int .i64 0) Tryd.underlying67 (zero3 _) hb
    rw [hB] at h1
    exact h1
  have HLEN := Lib.hid (fun n => len_tab (k0.below (hdr n)))
  have HX := Lib.hid (And.intro x5 (And.intro x6 x7))
  have HW0 := Lib.hid hw0
  have HS0 := Lib.hid hs0
  have HB0 := Lib.hid hb0
  have HK0 := Lib.hid k0
  obtain ⟨⟨c0, c1, c2, c3, c4⟩, _⟩ := k0.cells
  obtain ⟨y0, y1, y2, y3, y4⟩ := boxT_cells x5
  obtain ⟨z0, z1, z2, z3, z4⟩ := boxT_cells x6
  obtain ⟨hc1, hc2⟩ := k0.cap
  obtain ⟨m, hm⟩ : ∃ m, t.rows.length = m := ⟨_, rfl⟩
  obtain ⟨q, hq⟩ : ∃ q, t.n = q := ⟨_, rfl⟩
  have HM := Lib.hid hm
  have HQ := Lib.hid hq
  rw [hm] at c1 hc1
  rw [hq] at hn hn1 HLEN
  have hcI : (m : Int) ≤ (capR : Int) := by omega
  have hnr : ((q : Int) == (room : Int)) = false := by simp; omega
  obtain ⟨p2, cap2, hv2, hcf, hcf2⟩ := row_form k0.fre
  obtain ⟨F, hF⟩ : ∃ F, t.free.length = F := ⟨_, rfl⟩
  have hF0 : 0 < F := by rw [← hF]; exact (List.getElem?_eq_some_iff.1 hx0).1
  rw [hF] at hv2
  have c2' := c2
  rw [hv2] at c2'
  clear c2
  have hFI : 0 < (F : Int) := by omega
  have HX0 := Lib.hid (And.intro hx0 (And.intro hi hfl))
  have him : i < m := by rw [← hm]; exact (List.getElem?_eq_some_iff.1 hi).1
  have HIM := Lib.hid him
  have HAB := Lib.hid (And.intro ha (And.intro hb (And.intro hA hB)))
  have HV2 := Lib.hid hv2
  clear h hw0 hs0 hb0 x5 x6 x7 k0 hdr hm hq hx0 hi hfl ha hb hA hB hv2 hc2 hcf hcf2 hF him hF0
  unfold Tup.v Fw.v
  go_enter Tryd.func36, Tryd.ntmps36
  go_upto_region 1 with fail
  refine wp_world w0 HW0.out ?_
  go_quiet (fail)
  revert l1
  generalize nq = nq1
  intro l1
  go_upto_region 2 with fail
  go_quiet (fail)
  go_upto_region 5 with fail
  clear l1 l2 c1 c2' c3 c4 y0 y1 y2 y3 y4 z0 z1 z2 z3 z4
  obtain ⟨wa, hwa⟩ : ∃ wa, w0.drewN (nq1 + nq) = wa := ⟨_, rfl⟩
  have c0a : wa.cell? ⟨T, 0, none⟩ = some (.int .i64 (room : Int)) := by rw [← hwa]; exact c0
  have HLA := Lib.hid (fun n => len_tab (HK0.out.below (show Below w0.heap.size w0 (wa.drewN n) from by rw [← hwa]; exact ⟨rfl, rfl, rfl, Nat.le_refl _, fun _ _ => rfl⟩)))
  rw [HQ.out] at HLA
  have HBA := Lib.hid (show Below w0.heap.size w0 wa from by rw [← hwa]; exact ⟨rfl, rfl, rfl, Nat.le_refl _, fun _ _ => rfl⟩)
  rw [hwa]
  clear hwa c0 HLEN
  go_quiet ((go_at_call 39; exact Calls.quiet_of_same (HLA.out _)))
  obtain ⟨w1, hw1⟩ : ∃ w1, wa.drewN nq = w1 := ⟨_, rfl⟩
  have hb1 : Below w0.heap.size w0 w1 := by rw [← hw1]; exact HBA.out.trans ⟨rfl, rfl, rfl, Nat.le_refl _, fun _ _ => rfl⟩
  rw [hw1]
  clear hw1 hnr c0a HLA HBA
  have k1 := HK0.out.below hb1
  obtain ⟨⟨c0, c1, c2, c3, c4⟩, f1, _⟩ := k1.cells
  rw [HM.out] at c1
  have HPOP := Lib.hid (pop_ok (T := T) (k := 2) c2 (k1.cells.2.2) k1.fre (fun e => (k1.apart.2 _ e).1 rfl) HX0.out.2.2 HX0.out.1)
  rw [HV2.out] at c2
  have HK1 := Lib.hid k1
  have HB1 := Lib.hid hb1
  clear k1 hb1
  go_upto_region 11 with (go_at_call 62; refine HPOP.out.mono ?_; rintro e W3 ⟨rfl, lv', l', hpm, hnu⟩; have HPM := Lib.hid hpm; have HNU := Lib.hid hnu; clear hpm hnu c0 c1 c2 c3 c4 f1)
  obtain ⟨k3, o3, hS3⟩ := HK1.out.heap HNU.out
  have hlow := HLOW.out
  have hMT := HK1.out.mem.1
  have lT := hlow T hMT.1
  have lR := hlow gR hMT.2.1
  have s0 := HS0.out
  have s1 := HB1.out.size
  have sG := o3.size
  have hbox : ∀ j, w.heap.size ≤ j → j < w0.heap.size → W3.heap[j]? = w0.heap[j]? := fun j h1 h2 => (o3.block j (by omega) (fun e => by have := hlow j e; omega)).trans (HB1.out.block j h2)
  have x5 := (hbox w.heap.size (Nat.le_refl _) (by omega)).trans HX.out.1
  have x6 := (hbox (w.heap.size + 1) (by omega) (by omega)).trans HX.out.2.1
  have x7 := (hbox (w.heap.size + 2) (by omega) (by omega)).trans HX.out.2.2
  have hrm : ({ t with free := l' } : Tb).rows[i]? = some none := HX0.out.2.1
  have hdr3 : Below W3.heap.size W3 W3.drew := ⟨rfl, rfl, rfl, Nat.le_refl _, fun _ _ => rfl⟩
  have k3d := k3.below hdr3
  have HTH := Lib.hid (show W3.drew.there gR (i * 25) (roC (some ⟨a, b, v⟩)).toArray.size from by
    have h5 := rows_there k3d.row hrm 0 25 (Nat.le_refl _)
    have e5 : (roC (some ⟨a, b, v⟩)).toArray.size = 25 := by rw [List.size_toArray, roC_len]
    rw [e5]
    exact h5)
  have HIN := Lib.hid (show (Tryd.prog.info? 144).map (·.size) = some (roC (some ⟨a, b, v⟩)).toArray.size from by
    have e5 : (roC (some ⟨a, b, v⟩)).toArray.size = 25 := by rw [List.size_toArray, roC_len]
    rw [e5]
    exact row_size)
  have HON := Lib.hid (roC_oneS ⟨a, b, v⟩)
  obtain ⟨k4, o4⟩ := k3d.put hrm 0 (roC (some ⟨a, b, v⟩)) (by rw [roC_len]; omega) (over_some ⟨a, b, v⟩)
  obtain ⟨W4, hW4⟩ : ∃ W4, W3.drew.setCells gR (i * 25) (roC (some ⟨a, b, v⟩)) = W4 := ⟨_, rfl⟩
  have e25 : i * 25 + 0 = i * 25 := rfl
  rw [e25, hW4] at k4 o4
  have hgw : ∀ i, w.heap.size ≤ i → i < w0.heap.size → W4.heap[i]? = W3.heap[i]? := fun i h1 h2 => by
    rw [← hW4]
    exact (puts_else _ _ _ _ (by omega)).trans rfl
  have X5 := (hgw w.heap.size (Nat.le_refl _) (by omega)).trans x5
  have X6 := (hgw (w.heap.size + 1) (by omega) (by omega)).trans x6
  dsimp only at k4
  have hdr4 : Below W4.heap.size W4 W4.drew := ⟨rfl, rfl, rfl, Nat.le_refl _, fun _ _ => rfl⟩
  have k4d := k4.below hdr4
  obtain ⟨va, sta, wa1, wa2, ra1, ra2, k5, o5, ga1, ga2⟩ := k4d.entryA HAB.out.1 (by rw [HQ.out]; exact hn1) HAB.out.2.2.1 i
  obtain ⟨vb, stb, wb1, wb2, nB2, rb1, rb2, k6, o6, hnB6, gb1, gb2⟩ := k5.entryB HAB.out.2.1 hnB i
  have HFIN := Lib.hid (show TabPut S T gR capR MA MB nB room a b v t i w wb2 from by
    have z3 := o3.size
    have z4 := o4.size
    have z4' : W3.heap.size ≤ W4.heap.size := z4
    have z5 := o5.size
    have z5' : W4.heap.size ≤ wa2.heap.size := z5
    have z6 := o6.size
    refine ⟨_, nB2, lv', l', HPM.out, hnB6, k6, ⟨?_, ?_, ?_, by omega, fun j hj hn => ?_⟩, fun j hj => ?_⟩
    · exact o6.os.trans (o5.os.trans (o4.os.trans (o3.os.trans (HB1.out.os.trans HB0.out.os))))
    · exact o6.tape.trans (o5.tape.trans (o4.tape.trans (o3.tape.trans (HB1.out.tape.trans HB0.out.tape))))
    · exact o6.output.trans (o5.output.trans (o4.output.trans (o3.output.trans (HB1.out.output.trans HB0.out.output))))
    · have hng : ¬ (S j ∨ lv'.ownBlock = some j) := fun e => by
        rcases hS3 j e with e | e
        · exact hn e
        · omega
      have q6 := o6.block j (by omega) hng
      have q5 := o5.block j (show j < W4.heap.size by omega) hng
      have q4 := o4.block j (show j < W3.heap.size by omega) hng
      have q3 := o3.block j (by omega) hn
      exact q6.trans (q5.trans (q4.trans (q3.trans ((HB1.out.block j (by omega)).trans (HB0.out.block j hj)))))
    · rcases hS3 j hj with e | e
      · exact .inl e
      · exact .inr (by omega))
  have C3 := k3.cells
  have C4 := k4.cells
  have C5 := k5.cells
  obtain ⟨⟨_, d1, _, _, _⟩, _⟩ := C3
  obtain ⟨⟨_, _, _, d3, d4⟩, _⟩ := C4
  obtain ⟨y0, y1, y2, y3, y4⟩ := boxT_cells x5
  obtain ⟨z0, z1, z2, z3, z4⟩ := boxT_cells x6
  obtain ⟨⟨v0, v1, v2, v3, v4⟩, ⟨v5, v6, v7, v8, v9⟩, v10, v11, v12, v13⟩ := boxF_cells x7
  obtain ⟨Y0, Y1, Y2, Y3, Y4⟩ := boxT_cells X5
  obtain ⟨Z0, Z1, Z2, Z3, Z4⟩ := boxT_cells X6
  replace d1 : W3.cell? ⟨T, 1, none⟩ = some (.slice (some ⟨gR, 0, none⟩) m capR) := by rw [← HM.out]; exact d1
  have hmI : (i : Int) < (m : Int) := by have := HIM.out; omega
  have hmI3 : i < m := HIM.out
  have hmI4 : 0 ≤ (i : Int) := by omega
  have HW4 := Lib.hid hW4
  have lMA := hlow MA hMT.2.2.1
  have lMB := hlow MB hMT.2.2.2
  have hap := HK1.out.apart.1
  have z4 : W3.heap.size ≤ W4.heap.size := o4.size
  have z3 := o3.size
  have F4 : SF T MA MB w.heap.size (w.heap.size + 1) a b W4.drew := ⟨d3, d4, boxT_cells X5, boxT_cells X6⟩
  have z4d : W4.drew.heap.size = W4.heap.size := rfl
  have F5 := F4.of ga1 ⟨hap.2.1, by omega⟩ ⟨by omega, by omega⟩ ⟨by omega, by omega⟩
  have F6 := F4.of ga2 ⟨hap.2.1, by omega⟩ ⟨by omega, by omega⟩ ⟨by omega, by omega⟩
  have z6 := ga2.size
  have F7 := F6.of gb1 ⟨hap.2.2.1, by omega⟩ ⟨by omega, by omega⟩ ⟨by omega, by omega⟩
  have F8 := F6.of gb2 ⟨hap.2.2.1, by omega⟩ ⟨by omega, by omega⟩ ⟨by omega, by omega⟩
  have HF4 := Lib.hid F4
  have HF5 := Lib.hid F5
  have HF6 := Lib.hid F6
  have HF7 := Lib.hid F7
  have HF8 := Lib.hid F8
  unfold Tup.v at ra1 rb1
  clear F4 F5 F6 F7 F8 z3 z4 z4d z6 lMA lMB hap ga1 ga2 gb1 gb2 k3 o3 hS3 hbox hrm hdr3 k3d k4 o4 hW4 hgw hdr4 k4d k5 o5 k6 o6 hnB6 hMT x5 x6 x7 X5 X6 e25 hlow lT lR s0 s1 sG C5
  refine reg_tail 10 (by kernel_rfl) (by kernel_rfl) ?_
  simp only [List.take_succ_cons, List.take_zero, List.drop_succ_cons, List.drop_zero]
  repeat still_step
  refine wpStill_nil ?_
  go_upto_region 12 with (refine wpList_store_mid rfl 144 _ _ rfl gR (i * 25) (roC (some ⟨a, b, v⟩)).toArray rfl rfl HTH.out HIN.out HON.out ?_)
  refine wp_world W4 HW4.out ?_
  have HF4' := Lib.hid HF4.out
  obtain ⟨g3, g4, ⟨g50, g51, g52, g53, g54⟩, g60, g61, g62, g63, g64⟩ := HF4'.out
  clear d1 d3 d4 y0 y1 y2 y3 y4 z0 z1 z2 z3 z4 v0 v1 v2 v3 v4 v5 v6 v7 v8 v9 v10 v11 v12 v13 Y0 Y1 Y2 Y3 Y4 Z0 Z1 Z2 Z3 Z4 HF4'
  go_region_held3 (fun W : World => ((W.cell? ⟨T, 3, none⟩ = some (.map (some MA)) ∧ W.cell? ⟨T, 4, none⟩ = some (.map (some MB))) ∧ (W.cell? ⟨w.heap.size, 0, none⟩ = some (.int .i64 a.p) ∧ W.cell? ⟨w.heap.size, 1, none⟩ = some (.int .u32 a.s) ∧ W.cell? ⟨w.heap.size, 2, none⟩ = some (.int .u32 a.d) ∧ W.cell? ⟨w.heap.size, 3, none⟩ = some (.int .i64 a.x) ∧ W.cell? ⟨w.heap.size, 4, none⟩ = some (.int .i64 a.y)) ∧ (W.cell? ⟨w.heap.size + 1, 0, none⟩ = some (.int .i64 b.p) ∧ W.cell? ⟨w.heap.size + 1, 1, none⟩ = some (.int .u32 b.s) ∧ W.cell? ⟨w.heap.size + 1, 2, none⟩ = some (.int .u32 b.d) ∧ W.cell? ⟨w.heap.size + 1, 3, none⟩ = some (.int .i64 b.x) ∧ W.cell? ⟨w.heap.size + 1, 4, none⟩ = some (.int .i64 b.y)))) ((first | exact SF.all HF4.out | exact SF.all HF5.out | exact SF.all HF6.out | exact SF.all HF7.out | exact SF.all HF8.out)) (fail)
  all_goals
    go_wp2_with fail
    go_ret2
    exact ⟨rfl, HFIN.out⟩
end
end Go.Proofs.YtpbknbnhljjjcaaDoor

namespace Go.Proofs.YtpbknbnhljjjcaaDoor
open Go.RowKit Go.Maps Go.Lib
def cfT : Cf := ⟨⟨1000, 50, 9, 7, 20⟩, 1000, 4, 10, 9⟩
theorem cfT_right : cfT.tm.right := by
  intro s n h
  unfold cfT Tms.of at h
  dsimp only at h
  repeat' split at h
  all_goals first | (cases h; decide) | (cases h)
theorem new_cfT (w W : World) (hb : Below w.heap.size w W) : Calls Tryd.prog 12 #[.agg #[.int .i64 9, .int .i64 1000, .int .i64 4, .int .i64 10, .int .i64 1000, .int .i64 50, .int .i64 9, .int .i64 7, .int .i64 20]] W fun e w' => ∃ pl U, e = .returned (.tuple #[.pointer (some ⟨pl.F, 0, none⟩), .int .i64 0]) ∧ Lv pl cfT w g0 U w' := by
  refine (new_fl cfT ⟨show 1 ≤ 9 by omega, show 9 ≤ 65536 by omega⟩ (by show ¬ PortsBad 1000 4 10; unfold PortsBad; omega) cfT_right W).mono ?_
  rintro e w' ⟨pl, U, rfl, h1, h2, h3⟩
  exact ⟨pl, U, rfl, h1, hb.trans (h2.mono hb.size), fun i hi => Nat.le_trans hb.size (h3 i hi)⟩
theorem mem_armL {k : Int} {t o : Nat} {l : List Ent} {x : Ent} (h : x ∈ armL k t o l) : x = ⟨k, t, o⟩ ∨ x ∈ l := by
  unfold armL at h
  rcases List.mem_append.1 h with h | h
  · exact .inr (mem_without.1 (mem_upTil.1 h).1).1
  · rcases List.mem_cons.1 h with h | h
    · exact .inl h
    · exact .inr (mem_without.1 (mem_past.1 h).1).1
def roX (j : Nat) : Ro := ⟨cliX j, bkX 0 j, fwX j 0 j 1⟩
/-- Behind s flows of the one backend. -/
structure Re (s : Nat) (g : FlG) : Prop extends Fu s g where
  rows : ∀ j, j < s → g.t.rows[j + 1]? = some (some (roX j))
  fAon : ∀ j, j < s → (g.t.fA (cliX j)).isSome = true
  L : ∀ x ∈ g.L, x.due = 1000
theorem re0 : Re 0 g0 := ⟨fu0, fun _ h => by omega, fun _ h => by omega, fun _ h => by cases h⟩
structure TookR (s : Nat) (g g1 : FlG) : Prop extends Took s g g1 where
  L : g1.L = g.L
section
variable {S : Nat → Prop} {pl : Pl} {g : FlG} {w : World}
theorem open_re (h : Fls pl cfT g S w) (hTb : TabAt 0 Lib.deBruijn64tab w) (hT0 : 0 < w.heap.size ∧ ¬ S 0) {s : Nat} (k : Re s g) (hs : s < 4) (hN : g.N < 1000) :
    Calls Tryd.prog 15 #[.pointer (some ⟨pl.F, 0, none⟩), .agg #[.int .i64 6, .int .u32 (s : Int), .int .u32 99, .int .i64 1, .int .i64 80], .int .i64 1, .int .u32 7, .agg #[.int .i64 1, .int .u32 5, .int .i64 80], .int .i64 2] w fun e w' => e = .returned (.tuple #[.int .i64 ((s + 1 : Nat) : Int), .int .i64 0]) ∧ ∃ g', Re (s + 1) g' ∧ g'.N = g.N + 1 ∧ Tn (Fls pl cfT g') S w w' := by
  have hnow0 := k.now
  refine (open_nat h hTb hT0 (cliX_net s (by omega)) 1 7 1 5 80 2 (by decide) 1 fstep_syn (k.fA s (Nat.le_refl _)) (by rw [k.cnt]; show s ≠ 9; omega) (by rw [hnow0]; omega) ((1000 + s : Nat) : Int) ((s + 1 : Nat) : Int) (by omega) (TookR s g) (fun g2 => ∃ g1, TookR s g g1 ∧ g2 = putG g1 (cliX s) (bkX 0 s) (fwX s 0 s 1)) ?_ ?_ 1000 (by decide) rfl (by omega) (by omega) ?_).mono ?_
  · intro U W kk z1 z2
    by_cases hm0 : s = 0
    · subst hm0
      refine (take_in kk z1 z2 (keyX_ok 0 (by omega)) (k.ports.off 0 (by omega)) (show 1 ≤ 4 ∧ 4 ≤ 64 by omega) (by omega) (show 1000 ≤ 65536 by omega) _).mono ?_
      rintro e w' ⟨rfl, pb, ht⟩
      exact ⟨rfl, takeG cfT g (keyX 0) pb, ⟨⟨rfl, rfl, rfl, rfl, rfl, fuP_fresh k.ports 0 (by omega) pb⟩, rfl⟩, ht⟩
    · obtain ⟨⟨pb, hpb⟩, hpm⟩ := k.ports.on 0 (by omega)
      rw [show min 4 (s - 4 * 0) = s by omega] at hpm
      refine (take_in_there kk z1 z2 (keyX_ok 0 (by omega)) hpb (by omega) (show 1000 ≤ 65536 by omega) (by rw [hnow0]; omega) (fun i u e => by rw [hpm] at e; cases e) (show 4 ≤ 64 by omega) (some s) (by rw [hpm, hnow0]; exact says_M s hs)).mono ?_
      rintro e w' ⟨rfl, ht⟩
      refine ⟨rfl, tookG cfT g (keyX 0) (some s), ⟨⟨rfl, rfl, rfl, rfl, rfl, ?_⟩, rfl⟩, ht⟩
      show FuP (s + 1) g.lay (updL g.parts (keyX 0) (takeP (afterP (g.parts (keyX 0)) g.now) 4 (some s)))
      rw [hnow0]
      exact fuP_there k.ports 0 s (by omega) hs hm0
  · rintro g1 kt U W kk
    have e1 : g1.t.rows.length = s + 1 := by rw [kt.t, k.len]
    have hpt := put_in kk (cliX_net s (by omega)).ok (bkX_ok 0 s (by omega) hs) (fwX s 0 s 1) (by rw [kt.t]; exact k.fA s (Nat.le_refl _)) (by rw [kt.t]; exact k.fB 0 s hs (by omega)) (by rw [kt.t, k.cnt]; show s ≠ 9; omega) (by rw [kt.t]; exact k.free) (by rw [kt.t, k.cnt]; omega) (by rw [kt.nB]; have := k.nB; omega) (by rw [e1]; omega)
    rw [e1] at hpt
    refine hpt.mono ?_
    rintro e w' ⟨rfl, ht⟩
    exact ⟨rfl, _, ⟨g1, kt, rfl⟩, ht⟩
  · rintro g2 ⟨g1, kt, rfl⟩
    exact ⟨kt.now, show g1.o < 549755813887 by rw [kt.o]; have := k.o; omega⟩
  · rintro e w' ⟨rfl, g2, ⟨g1, kt, rfl⟩, ht⟩
    rw [show min (g.now + 1000) 1099511627776 = 1000 by rw [hnow0]; omega] at ht
    refine ⟨rfl, _, ⟨fu_next k.toFu kt.toTook 0 s (by omega) _ _, fun j hj => ?_, fun j hj => ?_, fun x hx => ?_⟩, kt.N, ht⟩
    · show (g1.t.rows ++ [some ⟨cliX s, bkX 0 s, fwX s 0 s 1⟩])[j + 1]? = _
      rw [kt.t]
      by_cases e : j = s
      · subst e
        rw [List.getElem?_append_right (by rw [k.len]; omega), k.len, Nat.sub_self]
        rfl
      · rw [List.getElem?_append_left (by rw [k.len]; omega)]
        exact k.rows j (by omega)
    · show (updT g1.t.fA (cliX s) _ (cliX j)).isSome = true
      unfold updT
      by_cases e : j = s
      · subst e; rw [if_pos rfl]; rfl
      · rw [if_neg (cliX_ne e), kt.t]
        exact k.fAon j (by omega)
    · rcases mem_armL hx with e | e
      · rw [e]
      · have e : x ∈ g1.L := e
        rw [kt.L] at e
        exact k.L x e
theorem open_re_none (h : Fls pl cfT g S w) (hTb : TabAt 0 Lib.deBruijn64tab w) (hT0 : 0 < w.heap.size ∧ ¬ S 0) (k : Re 4 g) (i : Nat) (hi : 4 ≤ i ∧ i < 40) (hN : g.N < 1000) :
    Calls Tryd.prog 15 #[.pointer (some ⟨pl.F, 0, none⟩), .agg #[.int .i64 6, .int .u32 (i : Int), .int .u32 99, .int .i64 1, .int .i64 80], .int .i64 1, .int .u32 7, .agg #[.int .i64 1, .int .u32 5, .int .i64 80], .int .i64 2] w fun e w' => e = .returned (.tuple #[.int .i64 0, .int .i64 17]) ∧ ∃ g', Re 4 g' ∧ g'.N = g.N + 1 ∧ Tn (Fls pl cfT g') S w w' := by
  have hnow0 := k.now
  refine (open_ports h hTb hT0 (cliX_net i (by omega)) 1 7 1 5 80 2 (by decide) 1 fstep_syn (k.fA i hi.1) (by rw [k.cnt]; decide) (by rw [hnow0]; omega) (fun g1 => Re 4 g1 ∧ g1.N = g.N + 1) ?_).mono ?_
  · intro U W kk z1 z2
    obtain ⟨⟨pb, hpb⟩, hpm⟩ := k.ports.on 0 (by omega)
    have hpm : g.parts (keyX 0) = partM 4 := hpm
    refine (take_in_there kk z1 z2 (keyX_ok 0 (by omega)) hpb (by omega) (show 1000 ≤ 65536 by omega) (by rw [hnow0]; omega) (fun i u e => by rw [hpm] at e; cases e) (show 4 ≤ 64 by omega) none (by rw [hpm, hnow0]; exact says_full)).mono ?_
    rintro e w' ⟨rfl, ht⟩
    refine ⟨rfl, tookG cfT g (keyX 0) none, ⟨⟨⟨k.len, k.free, k.cnt, k.now, k.o, k.nB, k.fA, k.fB, ?_⟩, k.rows, k.fAon, k.L⟩, rfl⟩, ht⟩
    show FuP 4 g.lay (updL g.parts (keyX 0) (takeP (afterP (g.parts (keyX 0)) g.now) 4 none))
    rw [hnow0]
    exact fuP_full k.ports
  · rintro e w' ⟨rfl, g1, ⟨h1, h2⟩, ht⟩
    exact ⟨rfl, g1, h1, h2, ht⟩
end
end Go.Proofs.YtpbknbnhljjjcaaDoor

namespace Go.Proofs.YtpbknbnhljjjcaaDoor
open Go.RowKit Go.Maps Go.Lib
/-- A flow takes a number that was free. -/
def popG (g : FlG) (i : Nat) (a b : Tup) (v : Fw) (l : List Int) : FlG := { g with nB := g.nB + 1, t := ⟨g.t.rows.set i (some ⟨a, b, v⟩), l, updT g.t.fA a (some i), updT g.t.fB b (some i), g.t.n + 1⟩ }
theorem put_in_pop {S : Nat → Prop} {pl : Pl} {c : Cf} {g : FlG} {w : World} (h : Fls pl c g S w) {a b : Tup} (ha : a.ok) (hb : b.ok) (v : Fw) (hA : g.t.fA a = none) (hB : g.t.fB b = none) (hn : g.t.n ≠ c.room) {i : Nat} (hx0 : g.t.free[0]? = some (i : Int)) (hi : g.t.rows[i]? = some none) (hfl : g.t.free.length < 1000000) (hn1 : g.t.n < 1000000) (hnB : g.nB < 1000000) :
    Calls Tryd.prog 36 #[.pointer (some ⟨pl.T, 0, none⟩), a.v, b.v, v.v] w fun e w' => e = .returned (.tuple #[.int .i64 (i : Int), .int .i64 0]) ∧ ∃ l, ((i : Int) :: l).Perm g.t.free ∧ Tn (Fls pl c (popG g i a b v l)) S w w' := by
  have h0 : Tri (TabC pl.T c.room g.nB g.t) (PortsC pl.P pl.MP c g.N g.lay g.parts) (ClkC pl.W g.now g.o g.L) pl.F (objF pl c) S w := Tri.rot (Tri.rot h)
  obtain ⟨S3, ⟨gR, capR, MA, MB, nB, lvF, hnB0, ht⟩, _, hT⟩ := Tri.oneAll (portsC ..) (clkC ..) h0
  refine (put_pop ht ha hb v hA hB hn hx0 hi hfl hn1 (by omega)).mono ?_
  rintro e w' ⟨rfl, S', nB', lv', l', hp, hnB', hT', hO, hS'⟩
  exact ⟨rfl, l', hp, Tri.rotT (hT (TabC pl.T c.room (g.nB + 1) ⟨g.t.rows.set i (some ⟨a, b, v⟩), l', updT g.t.fA a (some i), updT g.t.fB b (some i), g.t.n + 1⟩) w' ⟨S', ⟨gR, capR, MA, MB, nB', lv', by omega, hT'⟩, hO, hS'⟩)⟩
/-- The part whose number j rests till 10. -/
def partR (j : Nat) : PartG := partGive (partM 4) j 10
theorem partR_given (j i : Nat) : (partR j).given i = if i = j then some 10 else none := by
  unfold partR partGive partM updN
  rfl
theorem partR_rests (j v i : Nat) : rested (partR j) v i = (decide (i = j) && decide (10 ≤ v)) := by
  unfold rested
  rw [partR_given]
  by_cases e : i = j
  · rw [if_pos e]; simp [e]
  · rw [if_neg e]; simp [e]
theorem says_rests (j v : Nat) (hv : v < 10) : TakeSays (afterP (partR j) v) 4 none := fun i hi => by
  show ((partR j).used i && !rested (partR j) v i) = true
  rw [partR_rests]
  have h1 : (partR j).used i = true := decide_eq_true hi
  rw [h1, decide_eq_false (show ¬ 10 ≤ v by omega)]
  simp
theorem says_again (j v : Nat) (hj : j < 4) (hv : 10 ≤ v) : TakeSays (afterP (partR j) v) 4 (some j) := by
  refine ⟨hj, ?_, .inl ⟨Nat.zero_le _, fun i _ hi => ?_⟩⟩
  · show ((partR j).used j && !rested (partR j) v j) = false
    rw [partR_rests]
    simp [hv]
  · show ((partR j).used i && !rested (partR j) v i) = true
    rw [partR_rests]
    have h1 : (partR j).used i = true := decide_eq_true (show i < 4 by omega)
    rw [h1, decide_eq_false (show ¬ i = j by omega)]
    simp
/-- Behind the reset of the flow j + 1. -/
structure Rst (j now : Nat) (g : FlG) : Prop where
  free : g.t.free = [((j + 1 : Nat) : Int)]
  row : g.t.rows[j + 1]? = some none
  n : g.t.n = 3
  fA : g.t.fA (cliX 11) = none
  fB : g.t.fB (bkX 0 j) = none
  part : ∃ pb, g.lay (keyX 0) = some pb
  parts : g.parts (keyX 0) = partR j
  L : ∀ x ∈ g.L, x.due = 1000
  now : g.now = now
  o : g.o ≤ 4
  nB : g.nB ≤ 4
  N : g.N < 1000
section
variable {S : Nat → Prop} {pl : Pl} {g : FlG} {w : World}
theorem touch_rst (h : Fls pl cfT g S w) (k : Re 4 g) (j : Nat) (hj : j < 4) (hN : g.N < 900) :
    Calls Tryd.prog 18 #[.pointer (some ⟨pl.F, 0, none⟩), .int .i64 ((j + 1 : Nat) : Int), .bool true, .int .i64 4] w fun e w' => e = .returned (.int .i64 0) ∧ ∃ g', Rst j 0 g' ∧ Tn (Fls pl cfT g') S w w' := by
  have hnow0 := k.now
  obtain ⟨⟨pb, hpb⟩, hpm⟩ := k.ports.on 0 (by omega)
  have hpm : g.parts (keyX 0) = partM 4 := hpm
  have hst : fstep 6 1 true 4 = (0, true) := by kernel_rfl
  refine (touch_ends h (show 1 ≤ j + 1 by omega) (k.rows j hj) 1 (by omega) rfl true 4 (show (fstep 6 1 true 4).2 = true by rw [hst]) (show (fstep 6 1 true 4).1 = 0 by rw [hst]) (cliX_net j (by omega)).ok (bkX_ok 0 j (by omega) hj) (k.fAon j hj) (by rw [k.free]; decide) (i64_wf' (by omega) (by omega)) j (fun _ => ⟨keyX_ok 0 (by omega), ⟨pb, hpb⟩, rfl, ?_, by omega⟩) (by rw [hnow0]; omega) (show 10 ≤ 1099511627776 by omega) (by omega)).mono ?_
  · show (g.parts (keyX 0)).lent j = true
    rw [hpm]
    exact decide_eq_true hj
  · rintro e w' ⟨rfl, l, hp, ht⟩
    rw [k.free] at hp
    have hl : l = [((j + 1 : Nat) : Int)] := List.perm_singleton.1 hp
    have eG : endG cfT g (j + 1) (roX j) l j = giveG cfT (offG (goneG g (j + 1) (roX j) l) ((j + 1 : Nat) : Int)) (keyX 0) j := by
      unfold endG givenG
      exact if_neg (show ¬ (roX j).v.dsr = true from fun e => by cases e)
    rw [eG] at ht
    refine ⟨rfl, giveG cfT (offG (goneG g (j + 1) (roX j) l) ((j + 1 : Nat) : Int)) (keyX 0) j, ⟨hl, ?_, ?_, ?_, ?_, ⟨pb, hpb⟩, ?_, fun x hx => ?_, hnow0, k.o, k.nB, show g.N + 1 < 1000 by omega⟩, ht⟩
    · show (g.t.rows.set (j + 1) none)[j + 1]? = some none
      exact List.getElem?_set_self (by rw [k.len]; omega)
    · show g.t.n - 1 = 3
      rw [k.cnt]
    · show updT g.t.fA (cliX j) none (cliX 11) = none
      unfold updT
      rw [if_neg (cliX_ne (by omega))]
      exact k.fA 11 (by omega)
    · show updT g.t.fB (bkX 0 j) none (bkX 0 j) = none
      unfold updT
      rw [if_pos rfl]
    · show updL g.parts (keyX 0) (partGive (g.parts (keyX 0)) j (g.now + 10)) (keyX 0) = partR j
      unfold updL
      rw [if_pos rfl, hpm, hnow0]
      rfl
    · exact k.L x (mem_without.1 hx).1
theorem adv_rst (h : Fls pl cfT g S w) (hTb : TabAt 0 Lib.deBruijn64tab w) (hT0 : 0 < w.heap.size ∧ ¬ S 0) {j : Nat} (k : Rst j 0 g) (v : Nat) (hv : v < 21) :
    Calls Tryd.prog 19 #[.pointer (some ⟨pl.F, 0, none⟩), .int .i64 (v : Int)] w fun e w' => ∃ u g', e = .returned u ∧ Rst j v g' ∧ Tn (Fls pl cfT g') S w w' := by
  have hL : upTil v g.L = [] := upTil_none (fun x hx => by rw [k.L x hx]; omega)
  refine (advance_fl h hTb hT0 (v : Int) (by omega) (by rw [k.now]; omega) v (by rw [k.now]; omega) (by rw [hL]; decide) (fun g' ks _ => g' = goG g v ∧ ks = []) (fun _ _ _ _ e => by cases e.2) ⟨rfl, by rw [hL]; rfl⟩).mono ?_
  rintro e w' ⟨u, g', out, S', rfl, ⟨rfl, _⟩, h1, h2⟩
  exact ⟨u, goG g v, rfl, ⟨k.free, k.row, k.n, k.fA, k.fB, k.part, k.parts, fun x hx => k.L x (mem_past.1 hx).1, rfl, k.o, k.nB, k.N⟩, S', h1.fl, h1.on, h1.new⟩
theorem rst_gu {j now : Nat} (k : Rst j now g) (hj : j < 4) : ∀ i u, (g.parts (keyX 0)).given i = some u → i < 4 ∧ (g.parts (keyX 0)).used i = true := fun i u e => by
  rw [k.parts, partR_given] at e
  by_cases h : i = j
  · subst h
    rw [k.parts]
    exact ⟨hj, decide_eq_true hj⟩
  · rw [if_neg h] at e
    cases e
theorem open_rests (h : Fls pl cfT g S w) (hTb : TabAt 0 Lib.deBruijn64tab w) (hT0 : 0 < w.heap.size ∧ ¬ S 0) {j v : Nat} (k : Rst j v g) (hj : j < 4) (hv : v < 10) :
    Calls Tryd.prog 15 #[.pointer (some ⟨pl.F, 0, none⟩), .agg #[.int .i64 6, .int .u32 11, .int .u32 99, .int .i64 1, .int .i64 80], .int .i64 1, .int .u32 7, .agg #[.int .i64 1, .int .u32 5, .int .i64 80], .int .i64 2] w fun e w' => e = .returned (.tuple #[.int .i64 0, .int .i64 17]) ∧ ∃ g', g'.t.n = 3 ∧ Tn (Fls pl cfT g') S w w' := by
  have hnow0 := k.now
  obtain ⟨pb, hpb⟩ := k.part
  refine (open_ports h hTb hT0 (cliX_net 11 (by omega)) 1 7 1 5 80 2 (by decide) 1 fstep_syn k.fA (by rw [k.n]; decide) (by rw [hnow0]; omega) (fun g1 => g1.t.n = 3) ?_).mono ?_
  · intro U W kk z1 z2
    refine (take_in_there kk z1 z2 (keyX_ok 0 (by omega)) hpb (by have := k.N; omega) (show 1000 ≤ 65536 by omega) (by rw [hnow0]; omega) (rst_gu k hj) (show 4 ≤ 64 by omega) none (by rw [k.parts, hnow0]; exact says_rests j v hv)).mono ?_
    rintro e w' ⟨rfl, ht⟩
    exact ⟨rfl, tookG cfT g (keyX 0) none, k.n, ht⟩
  · rintro e w' ⟨rfl, g1, h1, ht⟩
    exact ⟨rfl, g1, h1, ht⟩
theorem open_again (h : Fls pl cfT g S w) (hTb : TabAt 0 Lib.deBruijn64tab w) (hT0 : 0 < w.heap.size ∧ ¬ S 0) {j v : Nat} (k : Rst j v g) (hj : j < 4) (hv : 10 ≤ v) (hv2 : v < 21) :
    Calls Tryd.prog 15 #[.pointer (some ⟨pl.F, 0, none⟩), .agg #[.int .i64 6, .int .u32 11, .int .u32 99, .int .i64 1, .int .i64 80], .int .i64 1, .int .u32 7, .agg #[.int .i64 1, .int .u32 5, .int .i64 80], .int .i64 2] w fun e w' => e = .returned (.tuple #[.int .i64 ((j + 1 : Nat) : Int), .int .i64 0]) ∧ ∃ g', g'.t.rows[j + 1]? = some (some ⟨cliX 11, bkX 0 j, fwX 11 0 j 1⟩) ∧ g'.t.n = 4 ∧ Tn (Fls pl cfT g') S w w' := by
  have hnow0 := k.now
  obtain ⟨pb, hpb⟩ := k.part
  refine (open_nat h hTb hT0 (cliX_net 11 (by omega)) 1 7 1 5 80 2 (by decide) 1 fstep_syn k.fA (by rw [k.n]; decide) (by rw [hnow0]; omega) ((1000 + j : Nat) : Int) ((j + 1 : Nat) : Int) (by omega) (fun g1 => g1 = tookG cfT g (keyX 0) (some j)) (fun g2 => ∃ l, g2 = popG (tookG cfT g (keyX 0) (some j)) (j + 1) (cliX 11) (bkX 0 j) (fwX 11 0 j 1) l) ?_ ?_ 1000 (by decide) rfl (by omega) (by omega) ?_).mono ?_
  · intro U W kk z1 z2
    refine (take_in_there kk z1 z2 (keyX_ok 0 (by omega)) hpb (by have := k.N; omega) (show 1000 ≤ 65536 by omega) (by rw [hnow0]; omega) (rst_gu k hj) (show 4 ≤ 64 by omega) (some j) (by rw [k.parts, hnow0]; exact says_again j v hj hv)).mono ?_
    rintro e w' ⟨rfl, ht⟩
    exact ⟨rfl, _, rfl, ht⟩
  · rintro g1 rfl U W kk
    refine (put_in_pop kk (cliX_net 11 (by omega)).ok (bkX_ok 0 j (by omega) hj) (fwX 11 0 j 1) k.fA k.fB (show g.t.n ≠ 9 by rw [k.n]; decide) (show g.t.free[0]? = some ((j + 1 : Nat) : Int) by rw [k.free]; rfl) k.row (show g.t.free.length < 1000000 by rw [k.free, List.length_singleton]; decide) (show g.t.n < 1000000 by rw [k.n]; decide) (show g.nB < 1000000 by have := k.nB; omega)).mono ?_
    rintro e w' ⟨rfl, l, _, ht⟩
    exact ⟨rfl, _, ⟨l, rfl⟩, ht⟩
  · rintro g2 ⟨l, rfl⟩
    exact ⟨rfl, show g.o < 549755813887 by have := k.o; omega⟩
  · rintro e w' ⟨rfl, g2, ⟨l, rfl⟩, ht⟩
    refine ⟨rfl, _, ?_, ?_, ht⟩
    · show (g.t.rows.set (j + 1) _)[j + 1]? = _
      exact List.getElem?_set_self (List.getElem?_eq_some_iff.1 k.row).1
    · show g.t.n + 1 = 4
      rw [k.n]
end
end Go.Proofs.YtpbknbnhljjjcaaDoor

namespace Go.Proofs.YtpbknbnhljjjcaaDoor
open Go.RowKit Go.Maps Go.Lib
set_option maxRecDepth 100000 in
set_option maxHeartbeats 16000000 in
theorem walk_FlowRests (a0 a1 : Int) (w : World) (w0 : (Lit.int .u8 a0).wf = true) (w1 : (Lit.int .u8 a1).wf = true) (hE : TabAt 0 Lib.deBruijn64tab w ∧ 0 < w.heap.size) :
    Calls Tryd.prog 8 #[.int .u8 a0, .int .u8 a1] w fun e w' => e = .returned (.bool true) ∧ Below w.heap.size w w' := by
  have hz0 := u8_range w0
  have hz1 := u8_range w1
  obtain ⟨j, hj⟩ : ∃ j : Nat, a0 % 4 = (j : Int) := ⟨(a0 % 4).toNat, by omega⟩
  obtain ⟨v, hv⟩ : ∃ v : Nat, a1 % 21 = (v : Int) := ⟨(a1 % 21).toNat, by omega⟩
  have hjb : j < 4 := by omega
  have hvb : v < 21 := by omega
  have htj : a0.tmod 4 = (j : Int) := by rw [Int.tmod_eq_emod_of_nonneg hz0.1]; exact hj
  have htv : a1.tmod 21 = (v : Int) := by rw [Int.tmod_eq_emod_of_nonneg hz1.1]; exact hv
  have hj8 : IntKind.u8.wrap (j : Int) = (j : Int) := by simp [IntKind.wrap, IntKind.bits, IntKind.signed]; omega
  have hv8 : IntKind.u8.wrap (v : Int) = (v : Int) := by simp [IntKind.wrap, IntKind.bits, IntKind.signed]; omega
  have HEX := Lib.hid (examples_ok w hE)
  have HPL := Lib.hid (fun (W : World) => plain_ok 9 W)
  have HNW := Lib.hid (fun (W : World) (hb : Below w.heap.size w W) => new_cfT w W hb)
  have HCL := Lib.hid (show ∀ (i : Nat), i < 50 → ∀ (W : World), Calls Tryd.prog 16 #[.int .u16 (i : Int)] W fun e w' => e = .returned (.agg #[.int .i64 6, .int .u32 (i : Int), .int .u32 99, .int .i64 1, .int .i64 80]) ∧ Below W.heap.size W w' from fun i hi W => by
    have h0 := client_ok (i : Int) (by omega) W
    have e : cliT (i : Int) = ⟨6, (i : Int), 99, 1, 80⟩ := by
      unfold cliT
      rw [show (i : Int) % 50 = i by omega, show 1 + (i : Int) / 50 = 1 by omega]
    rw [e] at h0
    exact h0)
  have HC10 := Lib.hid (fun (W : World) => (show Calls Tryd.prog 16 #[.int .u16 10] W fun e w' => e = .returned (.agg #[.int .i64 6, .int .u32 10, .int .u32 99, .int .i64 1, .int .i64 80]) ∧ Below W.heap.size W w' from HCL.out 10 (by omega) W))
  have HC11 := Lib.hid (fun (W : World) => (show Calls Tryd.prog 16 #[.int .u16 11] W fun e w' => e = .returned (.agg #[.int .i64 6, .int .u32 11, .int .u32 99, .int .i64 1, .int .i64 80]) ∧ Below W.heap.size W w' from HCL.out 11 (by omega) W))
  have HOP := Lib.hid (show ∀ (pl : Pl) (g : FlG) (U : Nat → Prop) (W : World), Lv pl cfT w g U W → ∀ (s : Nat), Re s g → s < 4 → g.N < 1000 → Calls Tryd.prog 15 #[.pointer (some ⟨pl.F, 0, none⟩), .agg #[.int .i64 6, .int .u32 (s : Int), .int .u32 99, .int .i64 1, .int .i64 80], .int .i64 1, .int .u32 7, .agg #[.int .i64 1, .int .u32 5, .int .i64 80], .int .i64 2] W fun e w' => e = .returned (.tuple #[.int .i64 ((s : Int) + 1), .int .i64 0]) ∧ ∃ g' V, Re (s + 1) g' ∧ g'.N = g.N + 1 ∧ Lv pl cfT w g' V w' ∧ ∀ b, Mine b U W → Mine b V w' ∧ w'.heap[b]? = W.heap[b]? from fun pl g U W k s re h3 h4 => by
    obtain ⟨z1, z2⟩ := k.tab hE
    refine (open_re k.fl z1 z2 re h3 h4).mono ?_
    rintro e w' ⟨rfl, g', f1, f2, ht⟩
    obtain ⟨V, k1, k2, k3⟩ := k.step ht
    exact ⟨rfl, g', V, f1, f2, k1, fun b hb => hb.step k2 k3⟩)
  have HO10 := Lib.hid (show ∀ (pl : Pl) (g : FlG) (U : Nat → Prop) (W : World), Lv pl cfT w g U W → Re 4 g → g.N < 100 → Calls Tryd.prog 15 #[.pointer (some ⟨pl.F, 0, none⟩), .agg #[.int .i64 6, .int .u32 10, .int .u32 99, .int .i64 1, .int .i64 80], .int .i64 1, .int .u32 7, .agg #[.int .i64 1, .int .u32 5, .int .i64 80], .int .i64 2] W fun e w' => e = .returned (.tuple #[.int .i64 0, .int .i64 17]) ∧ ∃ g' V, Re 4 g' ∧ g'.N = g.N + 1 ∧ Lv pl cfT w g' V w' ∧ ∀ b, Mine b U W → Mine b V w' ∧ w'.heap[b]? = W.heap[b]? from fun pl g U W k re h4 => by
    obtain ⟨z1, z2⟩ := k.tab hE
    refine (show Calls Tryd.prog 15 #[.pointer (some ⟨pl.F, 0, none⟩), .agg #[.int .i64 6, .int .u32 10, .int .u32 99, .int .i64 1, .int .i64 80], .int .i64 1, .int .u32 7, .agg #[.int .i64 1, .int .u32 5, .int .i64 80], .int .i64 2] W _ from open_re_none k.fl z1 z2 re 10 (by omega) (by omega)).mono ?_
    rintro e w' ⟨rfl, g', f1, f2, ht⟩
    obtain ⟨V, k1, k2, k3⟩ := k.step ht
    exact ⟨rfl, g', V, f1, f2, k1, fun b hb => hb.step k2 k3⟩)
  have HTO := Lib.hid (show ∀ (pl : Pl) (g : FlG) (U : Nat → Prop) (W : World), Lv pl cfT w g U W → Re 4 g → g.N < 900 → Calls Tryd.prog 18 #[.pointer (some ⟨pl.F, 0, none⟩), .int .i64 ((j : Int) + 1), .bool true, .int .i64 4] W fun e w' => e = .returned (.int .i64 0) ∧ ∃ g' V, Rst j 0 g' ∧ Lv pl cfT w g' V w' ∧ ∀ b, Mine b U W → Mine b V w' ∧ w'.heap[b]? = W.heap[b]? from fun pl g U W k re h4 => by
    have h0 := touch_rst k.fl re j hjb h4
    rw [show ((j + 1 : Nat) : Int) = (j : Int) + 1 from by omega] at h0
    refine h0.mono ?_
    rintro e w' ⟨rfl, g', f1, ht⟩
    obtain ⟨V, k1, k2, k3⟩ := k.step ht
    exact ⟨rfl, g', V, f1, k1, fun b hb => hb.step k2 k3⟩)
  have HAD := Lib.hid (show ∀ (pl : Pl) (g : FlG) (U : Nat → Prop) (W : World), Lv pl cfT w g U W → Rst j 0 g → Calls Tryd.prog 19 #[.pointer (some ⟨pl.F, 0, none⟩), .int .i64 (v : Int)] W fun e w' => ∃ u g' V, e = .returned u ∧ Rst j v g' ∧ Lv pl cfT w g' V w' ∧ ∀ b, Mine b U W → Mine b V w' ∧ w'.heap[b]? = W.heap[b]? from fun pl g U W k re => by
    obtain ⟨z1, z2⟩ := k.tab hE
    refine (adv_rst k.fl z1 z2 re v hvb).mono ?_
    rintro e w' ⟨u, g', rfl, f1, ht⟩
    obtain ⟨V, k1, k2, k3⟩ := k.step ht
    exact ⟨u, g', V, rfl, f1, k1, fun b hb => hb.step k2 k3⟩)
  have HOR := Lib.hid (show ∀ (pl : Pl) (g : FlG) (U : Nat → Prop) (W : World), Lv pl cfT w g U W → Rst j v g → v < 10 → Calls Tryd.prog 15 #[.pointer (some ⟨pl.F, 0, none⟩), .agg #[.int .i64 6, .int .u32 11, .int .u32 99, .int .i64 1, .int .i64 80], .int .i64 1, .int .u32 7, .agg #[.int .i64 1, .int .u32 5, .int .i64 80], .int .i64 2] W fun e w' => e = .returned (.tuple #[.int .i64 0, .int .i64 17]) ∧ ∃ g' V, g'.t.n = 3 ∧ Lv pl cfT w g' V w' ∧ ∀ b, Mine b U W → Mine b V w' ∧ w'.heap[b]? = W.heap[b]? from fun pl g U W k re h => by
    obtain ⟨z1, z2⟩ := k.tab hE
    refine (open_rests k.fl z1 z2 re hjb h).mono ?_
    rintro e w' ⟨rfl, g', f1, ht⟩
    obtain ⟨V, k1, k2, k3⟩ := k.step ht
    exact ⟨rfl, g', V, f1, k1, fun b hb => hb.step k2 k3⟩)
  have HOG := Lib.hid (show ∀ (pl : Pl) (g : FlG) (U : Nat → Prop) (W : World), Lv pl cfT w g U W → Rst j v g → 10 ≤ v → Calls Tryd.prog 15 #[.pointer (some ⟨pl.F, 0, none⟩), .agg #[.int .i64 6, .int .u32 11, .int .u32 99, .int .i64 1, .int .i64 80], .int .i64 1, .int .u32 7, .agg #[.int .i64 1, .int .u32 5, .int .i64 80], .int .i64 2] W fun e w' => e = .returned (.tuple #[.int .i64 ((j : Int) + 1), .int .i64 0]) ∧ ∃ g' V, (g'.t.rows[j + 1]? = some (some ⟨cliX 11, bkX 0 j, fwX 11 0 j 1⟩) ∧ g'.t.n = 4) ∧ Lv pl cfT w g' V w' ∧ ∀ b, Mine b U W → Mine b V w' ∧ w'.heap[b]? = W.heap[b]? from fun pl g U W k re h => by
    obtain ⟨z1, z2⟩ := k.tab hE
    have h0 := open_again k.fl z1 z2 re hjb h hvb
    rw [show ((j + 1 : Nat) : Int) = (j : Int) + 1 from by omega] at h0
    refine h0.mono ?_
    rintro e w' ⟨rfl, g', f1, f2, ht⟩
    obtain ⟨V, k1, k2, k3⟩ := k.step ht
    exact ⟨rfl, g', V, ⟨f1, f2⟩, k1, fun b hb => hb.step k2 k3⟩)
  have HGT := Lib.hid (show ∀ (pl : Pl) (g : FlG) (U : Nat → Prop) (W : World), Lv pl cfT w g U W → g.t.rows[j + 1]? = some (some ⟨cliX 11, bkX 0 j, fwX 11 0 j 1⟩) → Calls Tryd.prog 20 #[.pointer (some ⟨pl.F, 0, none⟩), .int .i64 ((j : Int) + 1)] W fun e w' => e = .returned (.tuple #[.agg #[.int .i64 6, .int .u32 11, .int .u32 99, .int .i64 1, .int .i64 80, .int .i64 6, .int .u32 7, .int .u32 5, .int .i64 (1000 + (j : Int)), .int .i64 80, .int .i64 1, .int .i64 1, .int .i64 1, .bool false], .bool true]) ∧ Below W.heap.size W w' from fun pl g U W k hr => by
    have h0 := get_fl_some k.fl (show 1 ≤ j + 1 by omega) hr
    rw [show ((j + 1 : Nat) : Int) = (j : Int) + 1 from by omega] at h0
    unfold fwX Fw.v bkX cliX at h0
    dsimp only at h0
    rw [show ((1000 + j : Nat) : Int) = 1000 + (j : Int) from by omega, show (5 : Int) + ((0 : Nat) : Int) = 5 from by omega] at h0
    exact h0)
  have HL3 := Lib.hid (show ∀ (pl : Pl) (g : FlG) (U : Nat → Prop) (W : World), Lv pl cfT w g U W → g.t.n = 3 → Calls Tryd.prog 17 #[.pointer (some ⟨pl.F, 0, none⟩)] W fun e w' => e = .returned (.int .i64 3) ∧ w' = W from fun pl g U W k hr => by
    have h0 := len_fl k.fl
    rw [hr] at h0
    exact h0)
  have HL4 := Lib.hid (show ∀ (pl : Pl) (g : FlG) (U : Nat → Prop) (W : World), Lv pl cfT w g U W → g.t.n = 4 → Calls Tryd.prog 17 #[.pointer (some ⟨pl.F, 0, none⟩)] W fun e w' => e = .returned (.int .i64 4) ∧ w' = W from fun pl g U W k hr => by
    have h0 := len_fl k.fl
    rw [hr] at h0
    exact h0)
  have KB := Lib.hid (show ∀ (b : Nat) (W : World), W.heap[b]? = some (boxB 1 5 80) → (W.cell? ⟨b, 0, none⟩ = some (.int .i64 1) ∧ W.cell? ⟨b, 1, none⟩ = some (.int .u32 5) ∧ W.cell? ⟨b, 2, none⟩ = some (.int .i64 80)) from fun b W e => by
    unfold boxB at e
    refine ⟨?_, ?_, ?_⟩ <;> simp [World.cell?, e])
  clear hE hj hv w0 w1 hz0 hz1
  go_enter Tryd.func8, Tryd.ntmps8
  go_upto_region 4 with (go_at_call 11; refine HEX.out.mono ?_; rintro e wa ⟨rfl, hb⟩; have HB0 := Lib.hid hb; clear hb)
  go_upto_region 5 with (go_at_call 14; refine (HPL.out _).mono ?_; rintro e wb ⟨rfl, hb⟩; have HB1 := Lib.hid (HB0.out.trans (hb.mono HB0.out.size)); clear hb)
  obtain ⟨bc, hbc⟩ : ∃ bc, wb.heap.size = bc := ⟨_, rfl⟩
  have e2 := heap_alloc_new wb (boxCI 9 1000 4 10 5 50 9 7 20)
  have HB2 := Lib.hid (HB1.out.alloc HB1.out.size (boxCI 9 1000 4 10 5 50 9 7 20))
  have HLO := Lib.hid (show w.heap.size ≤ bc from by rw [← hbc]; exact HB1.out.size)
  unfold boxCI at e2 HB2
  rw [hbc] at e2 ⊢
  revert e2 HB2
  generalize wb.alloc (.cells #[.int .i64 9, .int .i64 1000, .int .i64 4, .int .i64 10, .int .i64 5, .int .i64 50, .int .i64 9, .int .i64 7, .int .i64 20] 25) = w2
  intro e2 HB2
  clear hbc
  have c4 : w2.cell? ⟨bc, 4, none⟩ = some (.int .i64 5) := by simp [World.cell?, e2]
  have z4 : w2.frozen? ⟨bc, 4, none⟩ = false := by simp [World.frozen?, e2]
  go_upto_region 6 with fail
  have HB3 := Lib.hid (show Below w.heap.size w (w2.setCell ⟨bc, 4, none⟩ (.int .i64 1000)) from below_put HB2.out HLO.out 4 [.int .i64 1000])
  have e3 : (w2.setCell ⟨bc, 4, none⟩ (.int .i64 1000)).heap[bc]? = some (boxCI 9 1000 4 10 1000 50 9 7 20) := by
    unfold boxCI
    simp [World.setCell, Array.getElem?_modify, e2]
  clear c4 z4 e2 HB2
  revert HB3 e3
  generalize w2.setCell ⟨bc, 4, none⟩ (.int .i64 1000) = w3
  intro HB3 e3
  obtain ⟨d0, d1, d2, d3, d4, d5, d6, d7, d8⟩ : w3.cell? ⟨bc, 0, none⟩ = some (.int .i64 9) ∧ w3.cell? ⟨bc, 1, none⟩ = some (.int .i64 1000) ∧ w3.cell? ⟨bc, 2, none⟩ = some (.int .i64 4) ∧ w3.cell? ⟨bc, 3, none⟩ = some (.int .i64 10) ∧ w3.cell? ⟨bc, 4, none⟩ = some (.int .i64 1000) ∧ w3.cell? ⟨bc, 5, none⟩ = some (.int .i64 50) ∧ w3.cell? ⟨bc, 6, none⟩ = some (.int .i64 9) ∧ w3.cell? ⟨bc, 7, none⟩ = some (.int .i64 7) ∧ w3.cell? ⟨bc, 8, none⟩ = some (.int .i64 20) := by
    unfold boxCI at e3
    refine ⟨?_, ?_, ?_, ?_, ?_, ?_, ?_, ?_, ?_⟩ <;> simp [World.cell?, e3]
  clear e3
  go_upto_region 7 with (go_at_call 12; refine (HNW.out _ HB3.out).mono ?_; rintro e w4 ⟨pl, U4, rfl, k⟩; have HL4' := Lib.hid k; clear k)
  clear d0 d1 d2 d3 d4 d5 d6 d7 d8
  go_upto_region 10 with fail
  obtain ⟨b, hb⟩ : ∃ b, w4.heap.size = b := ⟨_, rfl⟩
  have k5 := HL4'.out.below ((Below.refl _ w4).alloc (Nat.le_refl _) (boxB 1 5 80))
  have m5 := My.new HL4'.out (boxB 1 5 80)
  rw [hb] at m5
  have m5' := m5
  unfold boxB at k5 m5
  rw [hb]
  revert k5 m5 m5'
  unfold boxB
  generalize w4.alloc (.cells #[.int .i64 1, .int .u32 5, .int .i64 80] 37) = w5
  intro k5 m5 m5'
  have HL5 := Lib.hid k5
  have HM5 := Lib.hid (show My b (boxB 1 5 80) U4 w5 from m5)
  clear k5 m5 m5' hb
  go_wp2_with fail
  go_loopw [10] (fun vi wr => ∃ (s : Nat) (g : FlG) (U : Nat → Prop), vi = .int .i64 (s : Int) ∧ s ≤ 4 ∧ Lv pl cfT w g U wr ∧ Re s g ∧ g.N ≤ s ∧ My b (boxB 1 5 80) U wr) (fun vi _ => 4 - (intOf vi).toNat)
  case atStart => exact ⟨0, g0, U4, rfl, by omega, HL5.out, re0, Nat.le_refl _, HM5.out⟩
  case round =>
    obtain ⟨s, g, U, rfl, hs, hlv, hre, hgN, hmy⟩ := hrel
    have HLV := Lib.hid hlv
    have HRE := Lib.hid hre
    have HGN := Lib.hid hgN
    have L6 := Lib.hid (hlv.below (below_drew (Below.refl _ wr)))
    have M6 := Lib.hid (hmy.below (below_drew (Below.refl _ wr)))
    have M5 := Lib.hid hmy
    clear hlv hre hgN hmy
    by_cases hs4 : s < 4
    · have hsI : (s : Int) < 4 := by omega
      have hiu : IntKind.u16.wrap (s : Int) = (s : Int) := by simp [IntKind.wrap, IntKind.bits, IntKind.signed]; omega
      go_upto_region 13 with fail
      go_region_held3 (fun W : World => (W.cell? ⟨b, 0, none⟩ = some (.int .i64 1) ∧ W.cell? ⟨b, 1, none⟩ = some (.int .u32 5) ∧ W.cell? ⟨b, 2, none⟩ = some (.int .i64 80))) (first | exact KB.out _ _ M7.out.2 | exact KB.out _ _ M6.out.2 | exact KB.out _ _ M5.out.2) (first
        | (go_at_call 16; refine (HCL.out s (by omega) _).mono ?_; rintro e wc ⟨rfl, hb⟩; replace M6 := Lib.hid (M6.out.below hb); replace L6 := Lib.hid (L6.out.below hb); clear hb)
        | (go_at_call 15; refine (HOP.out _ _ _ _ L6.out s HRE.out hs4 (by have := HGN.out; omega)).mono ?_; rintro e w7 ⟨rfl, g7, U7, f7, n7, k7, kp⟩; have M7 := Lib.hid (show My b (boxB 1 5 80) U7 w7 from ⟨(kp b M6.out.1).1, (kp b M6.out.1).2.trans M6.out.2⟩); have L7 := Lib.hid k7; have F7 := Lib.hid f7; have N7 := Lib.hid n7; clear kp k7 f7 n7))
      all_goals
        go_wp2_with fail
        all_goals exact ⟨⟨s + 1, g7, U7, by go_num, by omega, L7.out, F7.out, by rw [N7.out]; exact Nat.succ_le_succ HGN.out, M7.out⟩, by simp [intOf]; omega⟩
    · obtain rfl : s = 4 := by omega
      go_upto_region 16 with fail
      go_region_held3 (fun W : World => (W.cell? ⟨b, 0, none⟩ = some (.int .i64 1) ∧ W.cell? ⟨b, 1, none⟩ = some (.int .u32 5) ∧ W.cell? ⟨b, 2, none⟩ = some (.int .i64 80))) (first | exact KB.out _ _ M7.out.2 | exact KB.out _ _ M6.out.2 | exact KB.out _ _ M5.out.2) (first
        | (go_at_call 16; refine (HC10.out _).mono ?_; rintro e wc ⟨rfl, hb⟩; replace M6 := Lib.hid (M6.out.below hb); replace L6 := Lib.hid (L6.out.below hb); clear hb)
        | (go_at_call 15; refine (HO10.out _ _ _ _ L6.out HRE.out (by have := HGN.out; omega)).mono ?_; rintro e w7 ⟨rfl, g7, U7, f7, n7, k7, kp⟩; have M7 := Lib.hid (show My b (boxB 1 5 80) U7 w7 from ⟨(kp b M6.out.1).1, (kp b M6.out.1).2.trans M6.out.2⟩); have L7 := Lib.hid k7; have F7 := Lib.hid f7; have N7 := Lib.hid n7; clear kp k7 f7 n7))
      all_goals
        go_upto_region 18 with fail
        clear M5 M6 L6
        go_upto_region 19 with (go_at_call 18; refine (HTO.out _ _ _ _ L7.out F7.out (by have := HGN.out; have := N7.out; omega)).mono ?_; rintro e w8 ⟨rfl, g8, U8, f8, k8, kp⟩; have M8 := Lib.hid (show My b (boxB 1 5 80) U8 w8 from ⟨(kp b M7.out.1).1, (kp b M7.out.1).2.trans M7.out.2⟩); have L8 := Lib.hid k8; have F8 := Lib.hid f8; clear kp k8 f8)
        go_upto_region 20 with (go_at_call 19; refine (HAD.out _ _ _ _ L8.out F8.out).mono ?_; rintro e w9 ⟨u9, g9, U9, rfl, f9, k9, kp⟩; have M5 := Lib.hid (show My b (boxB 1 5 80) U9 w9 from ⟨(kp b M8.out.1).1, (kp b M8.out.1).2.trans M8.out.2⟩); have L9 := Lib.hid k9; have F9 := Lib.hid f9; clear kp k9 f9)
        have L6 := Lib.hid (L9.out.below (below_drew (Below.refl _ w9)))
        have M6 := Lib.hid (M5.out.below (below_drew (Below.refl _ w9)))
        by_cases hv10 : v < 10
        · have hvI : (v : Int) < 10 := by omega
          go_region_held3 (fun W : World => (W.cell? ⟨b, 0, none⟩ = some (.int .i64 1) ∧ W.cell? ⟨b, 1, none⟩ = some (.int .u32 5) ∧ W.cell? ⟨b, 2, none⟩ = some (.int .i64 80))) (first | exact KB.out _ _ MA.out.2 | exact KB.out _ _ M6.out.2 | exact KB.out _ _ M5.out.2) (first
            | (go_at_call 16; refine (HC11.out _).mono ?_; rintro e wc ⟨rfl, hb⟩; replace M6 := Lib.hid (M6.out.below hb); replace L6 := Lib.hid (L6.out.below hb); clear hb)
            | (go_at_call 15; refine (HOR.out _ _ _ _ L6.out F9.out hv10).mono ?_; rintro e wA ⟨rfl, gA, UA, fA, kA, kp⟩; have MA := Lib.hid (show My b (boxB 1 5 80) UA wA from ⟨(kp b M6.out.1).1, (kp b M6.out.1).2.trans M6.out.2⟩); have LA := Lib.hid kA; have FA := Lib.hid fA; clear kp kA fA))
          all_goals
            go_wp2_with (go_at_call 17; refine (HL3.out _ _ _ _ LA.out FA.out).mono ?_; rintro e wx ⟨rfl, rfl⟩)
            go_ret
            exact ⟨rfl, LA.out.bel⟩
        · have hvI : ¬ (v : Int) < 10 := by omega
          go_region_held3 (fun W : World => (W.cell? ⟨b, 0, none⟩ = some (.int .i64 1) ∧ W.cell? ⟨b, 1, none⟩ = some (.int .u32 5) ∧ W.cell? ⟨b, 2, none⟩ = some (.int .i64 80))) (first | exact KB.out _ _ MA.out.2 | exact KB.out _ _ M6.out.2 | exact KB.out _ _ M5.out.2) (first
            | (go_at_call 16; refine (HC11.out _).mono ?_; rintro e wc ⟨rfl, hb⟩; replace M6 := Lib.hid (M6.out.below hb); replace L6 := Lib.hid (L6.out.below hb); clear hb)
            | (go_at_call 15; refine (HOG.out _ _ _ _ L6.out F9.out (by omega)).mono ?_; rintro e wA ⟨rfl, gA, UA, fA, kA, kp⟩; have MA := Lib.hid (show My b (boxB 1 5 80) UA wA from ⟨(kp b M6.out.1).1, (kp b M6.out.1).2.trans M6.out.2⟩); have LA := Lib.hid kA; have FA := Lib.hid fA; clear kp kA fA))
          all_goals
            go_upto_region 24 with (go_at_call 20; refine (HGT.out _ _ _ _ LA.out FA.out.1).mono ?_; rintro e wB ⟨rfl, hb⟩; have LB := Lib.hid (LA.out.below hb); clear hb)
            have LC := Lib.hid (LB.out.below ((Below.refl _ wB).alloc (Nat.le_refl _) (.cells #[.int .i64 6, .int .u32 11, .int .u32 99, .int .i64 1, .int .i64 80, .int .i64 6, .int .u32 7, .int .u32 5, .int .i64 (1000 + (j : Int)), .int .i64 80, .int .i64 1, .int .i64 1, .int .i64 1, .bool false] 52)))
            go_wp2_with (go_at_call 17; refine (HL4.out _ _ _ _ LC.out FA.out.2).mono ?_; rintro e wx ⟨rfl, rfl⟩)
            go_ret
            exact ⟨rfl, LC.out.bel⟩
end Go.Proofs.YtpbknbnhljjjcaaDoor
