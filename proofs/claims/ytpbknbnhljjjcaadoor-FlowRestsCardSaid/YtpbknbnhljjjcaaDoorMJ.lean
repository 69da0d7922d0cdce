/- Texts of this proof, put together: G1 G2 G3 G4 G5 G6 G7. -/
import Derived.Test.YtpbknbnhljjjcaaDoorMH
import Derived.Test.YtpbknbnhljjjcaaDoorMF
import Derived.Test.YtpbknbnhljjjcaaDoorMG
import Derived.Test.YtpbknbnhljjjcaaDoorMC
import Derived.Test.YtpbknbnhljjjcaaDoorMU
import Derived.Deep.RegionHeld3
namespace Go.Proofs.YtpbknbnhljjjcaaDoor
open Go.RowKit Go.Maps Go.Lib

theorem does1_ok (c5 c6 c7 s : Nat) (hs : s < 9) (b : Bool) (flags : Int) (w : World) (h5 : w.cell? ⟨c5, 0, none⟩ = some (.int .i64 (s : Int))) (h6 : w.cell? ⟨c6, 0, none⟩ = some (.bool b)) (h7 : w.cell? ⟨c7, 0, none⟩ = some (.int .i64 flags)) :
    Calls Tryd.prog 55 #[.pointer (some ⟨c5, 0, none⟩), .pointer (some ⟨c6, 0, none⟩), .pointer (some ⟨c7, 0, none⟩)] w fun e w' => e = .returned (.tuple #[.int .i64 ((stepF s b flags).1 : Int), .bool (stepF s b flags).2]) ∧ Below w.heap.size w w' := by
  have H := Lib.hid (step_ok s hs b flags)
  obtain ⟨R, hR⟩ : ∃ R, stepF s b flags = R := ⟨_, rfl⟩
  rw [hR] at H ⊢
  clear hR
  obtain ⟨r1, r2⟩ := R
  go_enter Tryd.func55, Tryd.ntmps55
  go_wp2_with (go_at_call 21; refine (H.out _).mono ?_; rintro e wx ⟨rfl, hb⟩; have HB := Lib.hid hb; clear hb)
  go_ret2
  exact ⟨rfl, HB.out⟩
/-- What Udp tells. -/
def udpF (s : Nat) (b : Bool) : Nat × Bool := (if s = 8 ∨ (s = 0 ∧ b = false) then 8 else 0, decide (s = 8 ∨ (s = 0 ∧ b = false)))
theorem udp_nat (s : Nat) (b : Bool) (w : World) :
    Calls Tryd.prog 57 #[.int .i64 (s : Int), .bool b] w fun e w' => e = .returned (.tuple #[.int .i64 ((udpF s b).1 : Int), .bool (udpF s b).2]) ∧ w' = w := by
  refine (udp_ok s b w).mono ?_
  rintro e w' ⟨rfl, rfl⟩
  refine ⟨?_, rfl⟩
  have h1 : ((s : Int) = 8 ∨ ((s : Int) = 0 ∧ b = false)) ↔ (s = 8 ∨ (s = 0 ∧ b = false)) := by
    constructor
    · rintro (h | ⟨h, h'⟩)
      · exact Or.inl (by omega)
      · exact Or.inr ⟨by omega, h'⟩
    · rintro (h | ⟨h, h'⟩)
      · exact Or.inl (by omega)
      · exact Or.inr ⟨by omega, h'⟩
  unfold udpF
  simp only [h1]
  by_cases h : s = 8 ∨ (s = 0 ∧ b = false)
  · simp [h]
  · simp [h]
theorem does2_ok (c5 c6 s : Nat) (b : Bool) (w : World) (h5 : w.cell? ⟨c5, 0, none⟩ = some (.int .i64 (s : Int))) (h6 : w.cell? ⟨c6, 0, none⟩ = some (.bool b)) :
    Calls Tryd.prog 56 #[.pointer (some ⟨c5, 0, none⟩), .pointer (some ⟨c6, 0, none⟩)] w fun e w' => e = .returned (.tuple #[.int .i64 ((udpF s b).1 : Int), .bool (udpF s b).2]) ∧ w' = w := by
  have H := Lib.hid (udp_nat s b)
  obtain ⟨R, hR⟩ : ∃ R, udpF s b = R := ⟨_, rfl⟩
  rw [hR] at H ⊢
  clear hR
  obtain ⟨r1, r2⟩ := R
  go_enter Tryd.func56, Tryd.ntmps56
  go_wp2_with (go_at_call 57; refine (H.out _).mono ?_; rintro e wx ⟨rfl, rfl⟩)
  go_ret2
  exact ⟨rfl, rfl⟩
/-- What flow.step tells. -/
def fstep (p : Int) (s : Nat) (b : Bool) (flags : Int) : Nat × Bool := if p = 17 then udpF s b else stepF s b flags
set_option maxRecDepth 100000 in
set_option maxHeartbeats 1000000 in
theorem fstep_ok (p : Int) (s : Nat) (hs : s < 9) (b : Bool) (flags : Int) (w : World) :
    Calls Tryd.prog 33 #[.int .i64 p, .int .i64 (s : Int), .bool b, .int .i64 flags] w fun e w' => e = .returned (.tuple #[.int .i64 ((fstep p s b flags).1 : Int), .bool (fstep p s b flags).2]) ∧ Below w.heap.size w w' := by
  have H1 := Lib.hid (fun (W : World) h5 h6 h7 => does1_ok w.heap.size (w.heap.size + 1) (w.heap.size + 1 + 1) s hs b flags W h5 h6 h7)
  have H2 := Lib.hid (fun (W : World) h5 h6 => does2_ok w.heap.size (w.heap.size + 1) s b W h5 h6)
  obtain ⟨R, hR⟩ : ∃ R, stepF s b flags = R := ⟨_, rfl⟩
  obtain ⟨U, hU⟩ : ∃ U, udpF s b = U := ⟨_, rfl⟩
  unfold fstep
  rw [hR] at H1 ⊢
  rw [hU] at H2 ⊢
  clear hR hU
  obtain ⟨r1, r2⟩ := R
  obtain ⟨u1, u2⟩ := U
  obtain ⟨w3, hw3⟩ : ∃ w3, ((w.alloc (.cells #[.int .i64 (s : Int)] 3)).alloc (.cells #[.bool b] 4)).alloc (.cells #[.int .i64 flags] 3) = w3 := ⟨_, rfl⟩
  have hb3 : Below w.heap.size w w3 := by rw [← hw3]; exact (((Below.refl _ w).alloc (Nat.le_refl _) _).alloc (by simp) _).alloc (by simp; omega) _
  have x5 : w3.cell? ⟨w.heap.size, 0, none⟩ = some (.int .i64 (s : Int)) := by rw [← hw3]; simp [go_sem]
  have x6 : w3.cell? ⟨w.heap.size + 1, 0, none⟩ = some (.bool b) := by rw [← hw3]; simp [go_sem]
  have x7 : w3.cell? ⟨w.heap.size + 1 + 1, 0, none⟩ = some (.int .i64 flags) := by rw [← hw3]; simp [go_sem]
  have HW := Lib.hid hw3
  have HB3 := Lib.hid hb3
  have HX := Lib.hid (And.intro x5 (And.intro x6 x7))
  clear hw3 hb3 x5 x6 x7
  by_cases hp : p = 17
  · subst hp
    go_enter Tryd.func33, Tryd.ntmps33
    go_upto_region 1 with fail
    refine wp_world w3 HW.out ?_
    go_wp2_with (go_at_call 56; refine (H2.out _ HX.out.1 HX.out.2.1).mono ?_; rintro e wx ⟨rfl, rfl⟩)
    go_ret2
    exact ⟨rfl, HB3.out⟩
  · have hpe : (p == 17) = false := by simpa using hp
    rw [if_neg hp]
    go_enter Tryd.func33, Tryd.ntmps33
    go_upto_region 1 with fail
    refine wp_world w3 HW.out ?_
    go_wp2_with (go_at_call 55; refine (H1.out _ HX.out.1 HX.out.2.1 HX.out.2.2).mono ?_; rintro e wx ⟨rfl, hb⟩; have HB := Lib.hid hb; clear hb)
    go_ret2
    exact ⟨rfl, HB3.out.trans (HB.out.mono HB3.out.size)⟩
end Go.Proofs.YtpbknbnhljjjcaaDoor

namespace Go.Proofs.YtpbknbnhljjjcaaDoor
open Go.RowKit Go.Maps Go.Lib

/-- A config. -/
structure Cf where
  tm : Tms
  low : Nat
  many : Nat
  rest : Nat
  room : Nat
/-- Where the parts lie. -/
structure Pl where
  F : Nat
  P : Nat
  MP : Nat
  W : Nat
  T : Nat
/-- The ghost of all flows. -/
structure FlG where
  now : Nat
  o : Nat
  L : List Ent
  N : Nat
  lay : PKey → Option PB
  parts : PKey → PartG
  nB : Nat
  t : Tb
def PortsC (P MP : Nat) (c : Cf) (N : Nat) (lay : PKey → Option PB) (parts : PKey → PartG) (S : Nat → Prop) (w : World) : Prop := PortsIn S P MP c.low c.many c.rest N lay parts w
def ClkC (W now o : Nat) (L : List Ent) (S : Nat → Prop) (w : World) : Prop := Whl S W now o L w
def TabC (T room M : Nat) (t : Tb) (S : Nat → Prop) (w : World) : Prop := ∃ gR capR MA MB nB lvF, nB ≤ M ∧ TabIn S T gR capR MA MB nB room lvF t w
theorem portsC (P MP : Nat) (c : Cf) (N : Nat) (lay : PKey → Option PB) (parts : PKey → PartG) : Comp (PortsC P MP c N lay parts) := ⟨fun h hb hs => PortsIn.kept h hb hs, fun h => PortsIn.lows h⟩
theorem clkC (W now o : Nat) (L : List Ent) : Comp (ClkC W now o L) := ⟨fun h hb hs => Whl.kept h hb hs, fun h => Whl.low h⟩
theorem tabC (T room M : Nat) (t : Tb) : Comp (TabC T room M t) :=
  ⟨fun ⟨gR, capR, MA, MB, nB, lvF, h1, h2⟩ hb hs => ⟨gR, capR, MA, MB, nB, lvF, h1, h2.kept hb hs⟩, fun ⟨_, _, _, _, _, _, _, h2⟩ => h2.low⟩
theorem flow_size : (Tryd.prog.info? 52).map (·.size) = some 14 := by kernel_rfl
theorem flow_one (f : Fw) : f.cells.toArray.all (·.oneCell') = true := by simp [Fw.cells, Tup.cells, Value.oneCell']
/-- A flow's own box may be written. -/
theorem box_there {w : World} {b : Nat} {f : Fw} (h : w.heap[b]? = some (boxF f)) : w.there b 0 14 := fun j hj => by
  unfold boxF at h
  have h' : j = 0 ∨ j = 1 ∨ j = 2 ∨ j = 3 ∨ j = 4 ∨ j = 5 ∨ j = 6 ∨ j = 7 ∨ j = 8 ∨ j = 9 ∨ j = 10 ∨ j = 11 ∨ j = 12 ∨ j = 13 := by omega
  rcases h' with rfl | rfl | rfl | rfl | rfl | rfl | rfl | rfl | rfl | rfl | rfl | rfl | rfl | rfl <;> simp [World.cell?, World.frozen?, h]
theorem box_put {w : World} {b : Nat} (f : Fw) (h : w.there b 0 14) : FCB b f (w.setCells b 0 f.cells) := by
  have q := fun (k : Nat) (v : Value) (hv : f.cells[k]? = some v) => by
    have := World.rangeAt_setCells_same w b 0 f.cells h k v hv
    rw [Nat.zero_add] at this
    exact this
  exact ⟨⟨q 0 _ rfl, q 1 _ rfl, q 2 _ rfl, q 3 _ rfl, q 4 _ rfl⟩, ⟨q 5 _ rfl, q 6 _ rfl, q 7 _ rfl, q 8 _ rfl, q 9 _ rfl⟩, ⟨q 10 _ rfl, q 11 _ rfl, q 12 _ rfl, q 13 _ rfl⟩⟩
def objF (pl : Pl) (c : Cf) : Obj := .cells #[.int .i64 c.tm.op, .int .i64 c.tm.on, .int .i64 c.tm.cl, .int .i64 c.tm.wa, .int .i64 c.tm.ud, .pointer (some ⟨pl.P, 0, none⟩), .pointer (some ⟨pl.W, 0, none⟩), .pointer (some ⟨pl.T, 0, none⟩), .int .i64 (c.room : Int)] 79
/-- All flows, in memory. -/
def Fls (pl : Pl) (c : Cf) (g : FlG) : (Nat → Prop) → World → Prop := Tri (PortsC pl.P pl.MP c g.N g.lay g.parts) (ClkC pl.W g.now g.o g.L) (TabC pl.T c.room g.nB g.t) pl.F (objF pl c)
structure FlC (pl : Pl) (c : Cf) (w : World) : Prop where
  tm : w.cell? ⟨pl.F, 0, none⟩ = some (.int .i64 c.tm.op) ∧ w.cell? ⟨pl.F, 1, none⟩ = some (.int .i64 c.tm.on) ∧ w.cell? ⟨pl.F, 2, none⟩ = some (.int .i64 c.tm.cl) ∧ w.cell? ⟨pl.F, 3, none⟩ = some (.int .i64 c.tm.wa) ∧ w.cell? ⟨pl.F, 4, none⟩ = some (.int .i64 c.tm.ud)
  pp : w.cell? ⟨pl.F, 5, none⟩ = some (.pointer (some ⟨pl.P, 0, none⟩))
  cc : w.cell? ⟨pl.F, 6, none⟩ = some (.pointer (some ⟨pl.W, 0, none⟩))
  tt : w.cell? ⟨pl.F, 7, none⟩ = some (.pointer (some ⟨pl.T, 0, none⟩))
  rr : w.cell? ⟨pl.F, 8, none⟩ = some (.int .i64 (c.room : Int))
section
variable {S : Nat → Prop} {pl : Pl} {c : Cf} {g : FlG} {w w' : World}
theorem Fls.comp : Comp (Fls pl c g) := Tri.comp (portsC ..) (clkC ..) (tabC ..)
theorem Fls.below (h : Fls pl c g S w) (hb : Below w.heap.size w w') : Fls pl c g S w' := Fls.comp.below h hb
theorem Fls.cells (h : Fls pl c g S w) : FlC pl c w := by
  have h1 := Tri.box h
  unfold objF at h1
  refine ⟨⟨?_, ?_, ?_, ?_, ?_⟩, ?_, ?_, ?_, ?_⟩ <;> simp [World.cell?, h1]
theorem Fls.lt (h : Fls pl c g S w) : pl.F < w.heap.size := (Array.getElem?_eq_some_iff.1 (Tri.box h)).1
theorem Fls.clk (h : Fls pl c g S w) : ∃ S2, Whl S2 pl.W g.now g.o g.L w := by
  obtain ⟨_, S2, _, ⟨_, h2, _⟩, _⟩ := h
  exact ⟨S2, h2⟩
theorem Fls.tab (h : Fls pl c g S w) : ∃ S3 gR capR MA MB nB lvF, nB ≤ g.nB ∧ TabIn S3 pl.T gR capR MA MB nB c.room lvF g.t w := by
  obtain ⟨_, _, S3, ⟨_, _, h3⟩, _⟩ := h
  exact ⟨S3, h3⟩
theorem now_fl (h : Fls pl c g S w) : Calls Tryd.prog 26 #[.pointer (some ⟨pl.F, 0, none⟩)] w fun e w' => e = .returned (.int .i64 (g.now : Int)) ∧ w' = w := by
  obtain ⟨S2, h2⟩ := h.clk
  have H := Lib.hid (now_whl h2)
  have c6 := h.cells.cc
  clear h h2
  go_enter Tryd.func26, Tryd.ntmps26
  go_wp2_with (go_at_call 50; refine H.out.mono ?_; rintro e wx ⟨rfl, rfl⟩)
  go_ret
  exact ⟨rfl, rfl⟩
theorem len_fl (h : Fls pl c g S w) : Calls Tryd.prog 17 #[.pointer (some ⟨pl.F, 0, none⟩)] w fun e w' => e = .returned (.int .i64 (g.t.n : Int)) ∧ w' = w := by
  obtain ⟨S3, gR, capR, MA, MB, nB, lvF, _, h3⟩ := h.tab
  have H := Lib.hid (len_tab h3)
  have c7 := h.cells.tt
  clear h h3
  go_enter Tryd.func17, Tryd.ntmps17
  go_wp2_with (go_at_call 39; refine H.out.mono ?_; rintro e wx ⟨rfl, rfl⟩)
  go_ret
  exact ⟨rfl, rfl⟩
set_option maxRecDepth 100000 in
set_option maxHeartbeats 1000000 in
theorem ahead_fl (h : Fls pl c g S w) {x : Tup} (hx : x.ok) : Calls Tryd.prog 22 #[.pointer (some ⟨pl.F, 0, none⟩), x.v] w fun e w' => e = .returned (hT (g.t.fA x)) ∧ Below w.heap.size w w' := by
  obtain ⟨bx, hbx⟩ : ∃ bx, w.alloc (boxT x) = bx := ⟨_, rfl⟩
  have hb1 : Below w.heap.size w bx := by rw [← hbx]; exact (Below.refl w.heap.size w).alloc (Nat.le_refl _) _
  have hob : TC w.heap.size x bx := boxT_cells (by rw [← hbx]; exact heap_alloc_new w _)
  have h1 := h.below hb1
  obtain ⟨S3, gR, capR, MA, MB, nB, lvF, _, h3⟩ := h1.tab
  have H := Lib.hid (fun n => (byA_tab (w := bx.drewN n) (h3.below ⟨rfl, rfl, rfl, Nat.le_refl _, fun _ _ => rfl⟩) hx).mono (fun e w' k => And.intro k.1 (Below.trans (⟨rfl, rfl, rfl, Nat.le_refl _, fun _ _ => rfl⟩ : Below bx.heap.size bx (bx.drewN n)) k.2)))
  have c7 := h1.cells.tt
  obtain ⟨e0, e1, e2, e3, e4⟩ := hob
  unfold hT at *
  obtain ⟨k, hk⟩ : ∃ k, (g.t.fA x).getD 0 = k := ⟨_, rfl⟩
  obtain ⟨ok, hok⟩ : ∃ ok, (g.t.fA x).isSome = ok := ⟨_, rfl⟩
  rw [hk, hok] at H ⊢
  have HBX := Lib.hid hbx
  have HB1 := Lib.hid hb1
  clear h hk hok hb1 hbx h3 h1
  unfold Tup.v at *
  unfold boxT at HBX
  go_enter Tryd.func22, Tryd.ntmps22
  go_upto_region 1 with fail
  refine wp_world bx HBX.out ?_
  go_region_with (go_at_call 47; refine (H.out _).mono ?_; rintro e wx ⟨rfl, hb⟩; have HB := Lib.hid hb; clear hb)
  all_goals
    go_wp2_with fail
    go_ret2
    exact ⟨rfl, HB1.out.trans (HB.out.mono HB1.out.size)⟩
set_option maxRecDepth 100000 in
set_option maxHeartbeats 1000000 in
theorem behind_fl (h : Fls pl c g S w) {x : Tup} (hx : x.ok) : Calls Tryd.prog 23 #[.pointer (some ⟨pl.F, 0, none⟩), x.v] w fun e w' => e = .returned (hT (g.t.fB x)) ∧ Below w.heap.size w w' := by
  obtain ⟨bx, hbx⟩ : ∃ bx, w.alloc (boxT x) = bx := ⟨_, rfl⟩
  have hb1 : Below w.heap.size w bx := by rw [← hbx]; exact (Below.refl w.heap.size w).alloc (Nat.le_refl _) _
  have hob : TC w.heap.size x bx := boxT_cells (by rw [← hbx]; exact heap_alloc_new w _)
  have h1 := h.below hb1
  obtain ⟨S3, gR, capR, MA, MB, nB, lvF, _, h3⟩ := h1.tab
  have H := Lib.hid (fun n => (byB_tab (w := bx.drewN n) (h3.below ⟨rfl, rfl, rfl, Nat.le_refl _, fun _ _ => rfl⟩) hx).mono (fun e w' k => And.intro k.1 (Below.trans (⟨rfl, rfl, rfl, Nat.le_refl _, fun _ _ => rfl⟩ : Below bx.heap.size bx (bx.drewN n)) k.2)))
  have c7 := h1.cells.tt
  obtain ⟨e0, e1, e2, e3, e4⟩ := hob
  unfold hT at *
  obtain ⟨k, hk⟩ : ∃ k, (g.t.fB x).getD 0 = k := ⟨_, rfl⟩
  obtain ⟨ok, hok⟩ : ∃ ok, (g.t.fB x).isSome = ok := ⟨_, rfl⟩
  rw [hk, hok] at H ⊢
  have HBX := Lib.hid hbx
  have HB1 := Lib.hid hb1
  clear h hk hok hb1 hbx h3 h1
  unfold Tup.v at *
  unfold boxT at HBX
  go_enter Tryd.func23, Tryd.ntmps23
  go_upto_region 1 with fail
  refine wp_world bx HBX.out ?_
  go_region_with (go_at_call 48; refine (H.out _).mono ?_; rintro e wx ⟨rfl, hb⟩; have HB := Lib.hid hb; clear hb)
  all_goals
    go_wp2_with fail
    go_ret2
    exact ⟨rfl, HB1.out.trans (HB.out.mono HB1.out.size)⟩
end
end Go.Proofs.YtpbknbnhljjjcaaDoor

namespace Go.Proofs.YtpbknbnhljjjcaaDoor
open Go.RowKit Go.Maps Go.Lib
section
variable {S : Nat → Prop} {pl : Pl} {c : Cf} {g : FlG} {w w' : World}
theorem below_put {w0 w : World} {B b : Nat} (h : Below B w0 w) (hb : B ≤ b) (o : Nat) (vs : List Value) : Below B w0 (w.setCells b o vs) := by
  obtain ⟨p1, p2, p3, p4⟩ := puts_world vs w b o
  exact ⟨p1.trans h.os, p2.trans h.tape, p3.trans h.output, by rw [p4]; exact h.size, fun i hi => (puts_else vs w b o (by omega)).trans (h.block i hi)⟩
set_option maxRecDepth 100000 in
set_option maxHeartbeats 1000000 in
theorem get_fl (f : Fw) (ok : Bool) (k : Int) (hl : pl.F < w.heap.size) (hc : w.cell? ⟨pl.F, 7, none⟩ = some (.pointer (some ⟨pl.T, 0, none⟩))) (H : ∀ w', Below w.heap.size w w' → Calls Tryd.prog 40 #[.pointer (some ⟨pl.T, 0, none⟩), .int .i64 k] w' fun e w'' => e = .returned (.tuple #[f.v, .bool ok]) ∧ Below w'.heap.size w' w'') :
    Calls Tryd.prog 20 #[.pointer (some ⟨pl.F, 0, none⟩), .int .i64 k] w fun e w' => e = .returned (.tuple #[f.v, .bool ok]) ∧ Below w.heap.size w w' := by
  have HH := Lib.hid H
  have HS := Lib.hid flow_size
  have HO := Lib.hid (flow_one f)
  have HP := Lib.hid (fun (W W' : World) (h : Below W.heap.size W W') (h0 : W.heap[w.heap.size]? = some (boxF zF)) => box_there ((h.block _ (Array.getElem?_eq_some_iff.1 h0).1).trans h0))
  clear H
  obtain ⟨w1, hw1⟩ : ∃ w1, w.alloc (boxF zF) = w1 := ⟨_, rfl⟩
  have hb1 : Below w.heap.size w w1 := by rw [← hw1]; exact (Below.refl _ w).alloc (Nat.le_refl _) _
  have h1 : w1.heap[w.heap.size]? = some (boxF zF) := by rw [← hw1]; exact heap_alloc_new w _
  have c7 : w1.cell? ⟨pl.F, 7, none⟩ = some (.pointer (some ⟨pl.T, 0, none⟩)) := (World.cell?_of_block (hb1.block _ hl)).trans hc
  have HW := Lib.hid hw1
  have HB1 := Lib.hid hb1
  have H1 := Lib.hid h1
  clear hw1 hb1 h1 hc hl
  have HC := Lib.hid (show f.v = .agg f.cells.toArray from rfl)
  have HN : f.cells.toArray.size = 14 := by simp [Fw.cells, Tup.cells]
  have HN := Lib.hid HN
  obtain ⟨fv, hfv⟩ : ∃ fv, f.v = fv := ⟨_, rfl⟩
  rw [hfv] at HH HC ⊢
  have HFV := Lib.hid hfv
  clear hfv
  go_enter Tryd.func20, Tryd.ntmps20
  go_upto_region 1 with fail
  refine wp_world w1 HW.out ?_
  go_wp2_with (first
    | (go_at_call 40; refine (HH.out _ HB1.out).mono ?_; rintro e wx ⟨rfl, hb⟩; have HT := Lib.hid (HP.out _ _ hb H1.out); have HB := Lib.hid (HB1.out.trans (hb.mono HB1.out.size)); clear hb)
    | (refine wpList_store_mid rfl 52 _ _ rfl w.heap.size 0 f.cells.toArray rfl HC.out (by rw [HN.out]; exact HT.out) (by rw [HN.out]; exact HS.out) HO.out ?_))
  obtain ⟨⟨c0, c1, c2, c3, c4⟩, ⟨d0, d1, d2, d3, d4⟩, e0, e1, e2, e3⟩ := box_put f HT.out
  have HB9 := below_put HB.out (Nat.le_refl _) 0 f.cells
  generalize wx.setCells w.heap.size 0 f.cells = w9 at *
  refine ⟨rfl, .tuple #[f.v, .bool ok], ?_, by rw [HFV.out], HB9⟩
  simp [results, Tryd.f20, go_sem, c0, c1, c2, c3, c4, d0, d1, d2, d3, d4, e0, e1, e2, e3, Fw.v]
theorem get_fl_some (h : Fls pl c g S w) {i : Nat} {r : Ro} (h1 : 1 ≤ i) (hi : g.t.rows[i]? = some (some r)) :
    Calls Tryd.prog 20 #[.pointer (some ⟨pl.F, 0, none⟩), .int .i64 (i : Int)] w fun e w' => e = .returned (.tuple #[r.v.v, .bool true]) ∧ Below w.heap.size w w' := by
  obtain ⟨S3, gR, capR, MA, MB, nB, lvF, _, h3⟩ := h.tab
  exact get_fl r.v true _ h.lt h.cells.tt (fun w' hb => get_some (h3.below hb) h1 hi)
theorem get_fl_nobody (h : Fls pl c g S w) (k : Int) (hk : k < 1 ∨ (g.t.rows.length : Int) ≤ k ∨ ∃ i : Nat, k = (i : Int) ∧ g.t.rows[i]? = some none) :
    Calls Tryd.prog 20 #[.pointer (some ⟨pl.F, 0, none⟩), .int .i64 k] w fun e w' => e = .returned (.tuple #[zF.v, .bool false]) ∧ Below w.heap.size w w' := by
  obtain ⟨S3, gR, capR, MA, MB, nB, lvF, _, h3⟩ := h.tab
  exact get_fl zF false _ h.lt h.cells.tt (fun w' hb => get_nobody (h3.below hb) k hk)
end
end Go.Proofs.YtpbknbnhljjjcaaDoor

namespace Go.Proofs.YtpbknbnhljjjcaaDoor
open Go.RowKit Go.Maps Go.Lib

/-- Whose ports a flow has. -/
def keyOf (f : Fw) : PKey := ⟨f.b.p, f.b.s, f.b.d, f.b.y⟩
set_option maxRecDepth 100000 in
set_option maxHeartbeats 1000000 in
theorem keyOf_ok (f : Fw) (w : World) : Calls Tryd.prog 35 #[f.v] w fun e w' => e = .returned (keyOf f).v ∧ Below w.heap.size w w' := by
  obtain ⟨⟨a0, a1, a2, a3, a4⟩, ⟨b0, b1, b2, b3, b4⟩, sv, bk, st, dsr⟩ := f
  unfold Fw.v keyOf PKey.v
  go_enter Tryd.func35, Tryd.ntmps35
  go_wp2_with fail
  refine ⟨rfl, .agg #[.int .i64 b0, .int .u32 b1, .int .u32 b2, .int .i64 b4], by simp [results, Tryd.f35, go_sem], rfl, ?_⟩
  exact ((Below.refl _ w).alloc (Nat.le_refl _) _).alloc (by simp) _
theorem below_drew {B : Nat} {w W : World} (h : Below B w W) : Below B w W.drew := h.trans ⟨rfl, rfl, rfl, Nat.le_refl _, fun _ _ => rfl⟩
theorem Tn.after {A : (Nat → Prop) → World → Prop} {S : Nat → Prop} {w w1 w2 : World} (hb : Below w.heap.size w w1) (h : Tn A S w1 w2) : Tn A S w w2 := by
  obtain ⟨U, k1, k2, k3⟩ := h
  refine ⟨U, k1, ⟨k2.os.trans hb.os, k2.tape.trans hb.tape, k2.output.trans hb.output, Nat.le_trans hb.size k2.size, fun i hi hn => (k2.block i (Nat.lt_of_lt_of_le hi hb.size) hn).trans (hb.block i hi)⟩, fun i hi => ?_⟩
  rcases k3 i hi with e | e
  · exact .inl e
  · exact .inr (Nat.le_trans hb.size e)
section
variable {S : Nat → Prop} {pl : Pl} {c : Cf} {g : FlG} {w w' : World}
/-- The clock has turned. -/
def armG (g : FlG) (k : Int) (t : Nat) : FlG := { g with o := g.o + 1, L := armL k t (g.o + 1) g.L }
theorem arm_in (h : Fls pl c g S w) {k : Int} (hkb : -9223372036854775808 ≤ k ∧ k ≤ 9223372036854775807) (t : Nat) (h1 : g.now < t) (h2 : t ≤ 1099511627776) (ho : g.o < 549755813887) :
    Calls Tryd.prog 65 #[.pointer (some ⟨pl.W, 0, none⟩), .int .i64 k, .int .i64 (t : Int)] w fun e w' => e = .returned (.int .i64 0) ∧ Tn (Fls pl c (armG g k t)) S w w' := by
  obtain ⟨S2, hc, _, hT⟩ := Tri.two (B := ClkC pl.W g.now (g.o + 1) (armL k t (g.o + 1) g.L)) (portsC ..) (tabC ..) h
  refine (arm_ok (show Whl S2 pl.W g.now g.o g.L w from hc) hkb t h1 h2 ho).mono ?_
  rintro e w' ⟨rfl, ht⟩
  exact ⟨rfl, hT w' ht⟩
set_option maxRecDepth 100000 in
set_option maxHeartbeats 2000000 in
theorem arm_fl (h : Fls pl c g S w) (f : Fw) {k : Int} (hkb : -9223372036854775808 ≤ k ∧ k ≤ 9223372036854775807) (n : Nat) (hs : (Lit.int .i64 f.st).wf = true) (hn : c.tm.of f.st = some (n : Int)) (hn1 : 1 ≤ n) (hn2 : n ≤ 1073741824) (hnow : g.now < 1099511627776) (ho : g.o < 549755813887) :
    Calls Tryd.prog 38 #[.pointer (some ⟨pl.F, 0, none⟩), .int .i64 k, f.v] w fun e w' => e = .returned (.tuple #[]) ∧ Tn (Fls pl c (armG g k (min (g.now + n) 1099511627776))) S w w' := by
  obtain ⟨t, ht⟩ : ∃ t, min (g.now + n) 1099511627776 = t := ⟨_, rfl⟩
  rw [ht]
  have HA := Lib.hid (fun (W : World) (hb : Below w.heap.size w W) => (arm_in (h.below hb) hkb t (by omega) (by omega) ho).mono (fun e w' k => And.intro k.1 (Tn.after hb k.2)))
  have HN := Lib.hid (fun (W : World) (hb : Below w.heap.size w W) => now_fl (h.below hb))
  have HO := Lib.hid (fun (W : World) (hb : Below w.heap.size w W) => (of_ok c.tm f.st hs W).mono (fun e w' k => And.intro k.1 (hb.trans (k.2.mono hb.size))))
  unfold Tms.ofV at HO
  rw [hn] at HO
  have hm : min ((g.now : Int) + (n : Int)) 1099511627776 = (t : Int) := by omega
  have hw : wrap64 ((g.now : Int) + (n : Int)) = (g.now : Int) + (n : Int) := by unfold wrap64; omega
  have hw2 : IntKind.i64.wrap ((g.now : Int) + (n : Int)) = (g.now : Int) + (n : Int) := wrap_small .i64 (.inl rfl) _ (by omega) (by omega)
  obtain ⟨w1, hw1⟩ : ∃ w1, w.alloc (boxF f) = w1 := ⟨_, rfl⟩
  have hb1 : Below w.heap.size w w1 := by rw [← hw1]; exact (Below.refl _ w).alloc (Nat.le_refl _) _
  have h1 := h.below hb1
  obtain ⟨⟨m0, m1, m2, m3, m4⟩, _, c6, _, _⟩ := h1.cells
  have e12 : w1.cell? ⟨w.heap.size, 12, none⟩ = some (.int .i64 f.st) := (boxF_cells (by rw [← hw1]; exact heap_alloc_new w _)).rr.2.2.1
  have HW := Lib.hid hw1
  have HB1 := Lib.hid hb1
  have C6 := Lib.hid (fun (W : World) (hb : Below w.heap.size w W) => (h.below hb).cells.cc)
  obtain ⟨now, hnw⟩ : ∃ now, g.now = now := ⟨_, rfl⟩
  rw [hnw] at HN hm hw hw2
  clear hnw hb1 hw1 h1 h hs hn hn1 hn2 hnow ho hkb ht
  unfold Tms.v at HO
  unfold boxF at HW
  unfold Fw.v
  go_enter Tryd.func38, Tryd.ntmps38
  go_upto_region 1 with fail
  refine wp_world w1 HW.out ?_
  go_region_with (go_at_call 64; refine (HO.out _ (by first | exact HB1.out | exact below_drew HB1.out | exact below_drew (below_drew HB1.out))).mono ?_; rintro e wx ⟨rfl, hb⟩; have HB := Lib.hid hb; clear hb; have c6' := C6.out _ HB.out)
  all_goals
    go_upto_region 2 with fail
    go_region_with (first
      | (go_at_call 26; refine (HN.out _ (by first | exact HB.out | exact below_drew HB.out | exact below_drew (below_drew HB.out))).mono ?_; rintro e wy ⟨rfl, rfl⟩)
      | (go_at_call 65; refine (HA.out _ (by first | exact HB.out | exact below_drew HB.out | exact below_drew (below_drew HB.out))).mono ?_; rintro e wz ⟨rfl, ht⟩; have HT := Lib.hid ht; clear ht))
    all_goals
      go_wp2_with fail
      go_end0
      exact ⟨rfl, HT.out⟩
end
end Go.Proofs.YtpbknbnhljjjcaaDoor

namespace Go.Proofs.YtpbknbnhljjjcaaDoor
open Go.RowKit Go.Maps Go.Lib
section
variable {S : Nat → Prop} {pl : Pl} {c : Cf} {g : FlG} {w w' : World}
/-- A port is given back. -/
def giveG (c : Cf) (g : FlG) (K : PKey) (i : Nat) : FlG := { g with N := g.N + 1, parts := updL g.parts K (partGive (g.parts K) i (g.now + c.rest)) }
theorem give_in (h : Fls pl c g S w) {K : PKey} (hK : K.ok) {pb : PB} (hp : g.lay K = some pb) (i : Nat) (hi : i < 1000000) (hl : (g.parts K).lent i = true) (hnow : g.now ≤ 1099511627776) (hrest : c.rest ≤ 1099511627776) (hN : g.N < 1000000) :
    Calls Tryd.prog 63 #[.pointer (some ⟨pl.P, 0, none⟩), K.v, .int .i64 ((c.low + i : Nat) : Int), .int .i64 (g.now : Int)] w fun e w' => e = .returned (.bool true) ∧ Tn (Fls pl c (giveG c g K i)) S w w' := by
  obtain ⟨S1, hc, _, hT⟩ := Tri.one (B := PortsC pl.P pl.MP c (g.N + 1) g.lay (updL g.parts K (partGive (g.parts K) i (g.now + c.rest)))) (clkC ..) (tabC ..) h
  refine (give_ok (show PortsIn S1 pl.P pl.MP c.low c.many c.rest g.N g.lay g.parts w from hc) hK hp i hi hl g.now hnow hrest hN).mono ?_
  rintro e w' ⟨rfl, h1, h2⟩
  exact ⟨rfl, hT w' ⟨S1, h1, h2, fun i hi => .inl hi⟩⟩
set_option maxRecDepth 100000 in
set_option maxHeartbeats 1000000 in
theorem give_fl_dsr (f : Fw) (hd : f.dsr = true) (F : Value) : Calls Tryd.prog 37 #[F, f.v] w fun e w' => e = .returned (.tuple #[]) ∧ Below w.heap.size w w' := by
  obtain ⟨⟨a0, a1, a2, a3, a4⟩, ⟨b0, b1, b2, b3, b4⟩, sv, bk, st, dsr⟩ := f
  obtain rfl : dsr = true := hd
  unfold Fw.v
  go_enter Tryd.func37, Tryd.ntmps37
  go_wp2_with fail
  go_end0
  exact ⟨rfl, (Below.refl _ w).alloc (Nat.le_refl _) _⟩
set_option maxRecDepth 100000 in
set_option maxHeartbeats 2000000 in
theorem give_fl (h : Fls pl c g S w) (f : Fw) (hd : f.dsr = false) (hK : (keyOf f).ok) {pb : PB} (hp : g.lay (keyOf f) = some pb) (i : Nat) (hx : f.b.x = ((c.low + i : Nat) : Int)) (hi : i < 1000000) (hl : (g.parts (keyOf f)).lent i = true) (hnow : g.now ≤ 1099511627776) (hrest : c.rest ≤ 1099511627776) (hN : g.N < 1000000) :
    Calls Tryd.prog 37 #[.pointer (some ⟨pl.F, 0, none⟩), f.v] w fun e w' => e = .returned (.tuple #[]) ∧ Tn (Fls pl c (giveG c g (keyOf f) i)) S w w' := by
  obtain ⟨w1, hw1⟩ : ∃ w1, w.alloc (boxF f) = w1 := ⟨_, rfl⟩
  have hb1 : Below w.heap.size w w1 := by rw [← hw1]; exact (Below.refl _ w).alloc (Nat.le_refl _) _
  have h1 := h.below hb1
  have hbx : w1.heap[w.heap.size]? = some (boxF f) := by rw [← hw1]; exact heap_alloc_new w _
  have hblt := (Array.getElem?_eq_some_iff.1 hbx).1
  obtain ⟨lw, hlw⟩ : ∃ lw, ((c.low + i : Nat) : Int) = lw := ⟨_, rfl⟩
  have hss : ∀ W : World, W.heap[w.heap.size]? = some (boxF f) → W.cell? ⟨pl.F, 5, none⟩ = some (.pointer (some ⟨pl.P, 0, none⟩)) → (W.cell? ⟨pl.F, 5, none⟩ = some (.pointer (some ⟨pl.P, 0, none⟩)) ∧ W.cell? ⟨w.heap.size, 0, none⟩ = some (.int .i64 f.c.p) ∧ W.cell? ⟨w.heap.size, 1, none⟩ = some (.int .u32 f.c.s) ∧ W.cell? ⟨w.heap.size, 2, none⟩ = some (.int .u32 f.c.d) ∧ W.cell? ⟨w.heap.size, 3, none⟩ = some (.int .i64 f.c.x) ∧ W.cell? ⟨w.heap.size, 4, none⟩ = some (.int .i64 f.c.y) ∧ W.cell? ⟨w.heap.size, 5, none⟩ = some (.int .i64 f.b.p) ∧ W.cell? ⟨w.heap.size, 6, none⟩ = some (.int .u32 f.b.s) ∧ W.cell? ⟨w.heap.size, 7, none⟩ = some (.int .u32 f.b.d) ∧ W.cell? ⟨w.heap.size, 8, none⟩ = some (.int .i64 lw) ∧ W.cell? ⟨w.heap.size, 9, none⟩ = some (.int .i64 f.b.y) ∧ W.cell? ⟨w.heap.size, 10, none⟩ = some (.int .i64 f.sv) ∧ W.cell? ⟨w.heap.size, 11, none⟩ = some (.int .i64 f.bk) ∧ W.cell? ⟨w.heap.size, 12, none⟩ = some (.int .i64 f.st) ∧ W.cell? ⟨w.heap.size, 13, none⟩ = some (.bool false)) := fun W e1 e2 => by
    obtain ⟨⟨p0, p1, p2, p3, p4⟩, ⟨q0, q1, q2, q3, q4⟩, r0, r1, r2, r3⟩ := boxF_cells e1
    rw [hx, hlw] at q3
    rw [hd] at r3
    exact ⟨e2, p0, p1, p2, p3, p4, q0, q1, q2, q3, q4, r0, r1, r2, r3⟩
  have HA := Lib.hid (fun (W : World) (hb : Below w1.heap.size w1 W) => (give_in (h1.below hb) hK hp i hi hl hnow hrest hN).mono (fun e w' k => And.intro k.1 (And.intro (Tn.after hb1 (Tn.after hb k.2)) (show ∀ W, W = w' → (W.cell? ⟨pl.F, 5, none⟩ = some (.pointer (some ⟨pl.P, 0, none⟩)) ∧ W.cell? ⟨w.heap.size, 0, none⟩ = some (.int .i64 f.c.p) ∧ W.cell? ⟨w.heap.size, 1, none⟩ = some (.int .u32 f.c.s) ∧ W.cell? ⟨w.heap.size, 2, none⟩ = some (.int .u32 f.c.d) ∧ W.cell? ⟨w.heap.size, 3, none⟩ = some (.int .i64 f.c.x) ∧ W.cell? ⟨w.heap.size, 4, none⟩ = some (.int .i64 f.c.y) ∧ W.cell? ⟨w.heap.size, 5, none⟩ = some (.int .i64 f.b.p) ∧ W.cell? ⟨w.heap.size, 6, none⟩ = some (.int .u32 f.b.s) ∧ W.cell? ⟨w.heap.size, 7, none⟩ = some (.int .u32 f.b.d) ∧ W.cell? ⟨w.heap.size, 8, none⟩ = some (.int .i64 lw) ∧ W.cell? ⟨w.heap.size, 9, none⟩ = some (.int .i64 f.b.y) ∧ W.cell? ⟨w.heap.size, 10, none⟩ = some (.int .i64 f.sv) ∧ W.cell? ⟨w.heap.size, 11, none⟩ = some (.int .i64 f.bk) ∧ W.cell? ⟨w.heap.size, 12, none⟩ = some (.int .i64 f.st) ∧ W.cell? ⟨w.heap.size, 13, none⟩ = some (.bool false)) from fun W e => by
    subst e
    obtain ⟨U, k1, k2, k3⟩ := k.2
    exact hss W ((k2.block _ (Nat.lt_of_lt_of_le hblt hb.size) (fun e => by have := Fls.comp.low h _ e; omega)).trans ((hb.block _ hblt).trans hbx)) (Fls.cells k1).pp))))
  have HS := Lib.hid (show ∀ W : World, Below w1.heap.size w1 W → (W.cell? ⟨pl.F, 5, none⟩ = some (.pointer (some ⟨pl.P, 0, none⟩)) ∧ W.cell? ⟨w.heap.size, 0, none⟩ = some (.int .i64 f.c.p) ∧ W.cell? ⟨w.heap.size, 1, none⟩ = some (.int .u32 f.c.s) ∧ W.cell? ⟨w.heap.size, 2, none⟩ = some (.int .u32 f.c.d) ∧ W.cell? ⟨w.heap.size, 3, none⟩ = some (.int .i64 f.c.x) ∧ W.cell? ⟨w.heap.size, 4, none⟩ = some (.int .i64 f.c.y) ∧ W.cell? ⟨w.heap.size, 5, none⟩ = some (.int .i64 f.b.p) ∧ W.cell? ⟨w.heap.size, 6, none⟩ = some (.int .u32 f.b.s) ∧ W.cell? ⟨w.heap.size, 7, none⟩ = some (.int .u32 f.b.d) ∧ W.cell? ⟨w.heap.size, 8, none⟩ = some (.int .i64 lw) ∧ W.cell? ⟨w.heap.size, 9, none⟩ = some (.int .i64 f.b.y) ∧ W.cell? ⟨w.heap.size, 10, none⟩ = some (.int .i64 f.sv) ∧ W.cell? ⟨w.heap.size, 11, none⟩ = some (.int .i64 f.bk) ∧ W.cell? ⟨w.heap.size, 12, none⟩ = some (.int .i64 f.st) ∧ W.cell? ⟨w.heap.size, 13, none⟩ = some (.bool false)) from fun W hb => hss W ((hb.block _ hblt).trans hbx) (h1.below hb).cells.pp)
  have HN := Lib.hid (fun (W : World) (hb : Below w1.heap.size w1 W) => now_fl (h1.below hb))
  have HO := Lib.hid (fun (W : World) (hb : Below w1.heap.size w1 W) => (keyOf_ok f W).mono (fun e w' k => And.intro k.1 (hb.trans (k.2.mono hb.size))))
  have HW := Lib.hid hw1
  have HB := Lib.hid (Below.refl w1.heap.size w1)
  have r3 := (HS.out _ HB.out).2.2.2.2.2.2.2.2.2.2.2.2.2.2
  obtain ⟨now, hnw⟩ : ∃ now, (g.now : Int) = now := ⟨_, rfl⟩
  obtain ⟨kv, hkv⟩ : ∃ kv, (keyOf f).v = kv := ⟨_, rfl⟩
  obtain ⟨G, hG⟩ : ∃ G, Fls pl c (giveG c g (keyOf f) i) = G := ⟨_, rfl⟩
  rw [hnw] at HN HA
  rw [hlw] at HA hx
  rw [hkv, hG] at HA
  rw [hkv] at HO
  rw [hG]
  unfold boxF at HW
  unfold Fw.v at *
  rw [hd] at HW HO ⊢
  rw [hx] at HW HO ⊢
  clear hnw hb1 hw1 h1 h hp hl hnow hrest hN hlw hkv hx hbx hK hi hG hss hblt hd
  go_enter Tryd.func37, Tryd.ntmps37
  go_upto_region 1 with fail
  refine wp_world w1 HW.out ?_
  go_upto_region 2 with fail
  go_region_held3 (fun W : World => (W.cell? ⟨pl.F, 5, none⟩ = some (.pointer (some ⟨pl.P, 0, none⟩)) ∧ W.cell? ⟨w.heap.size, 0, none⟩ = some (.int .i64 f.c.p) ∧ W.cell? ⟨w.heap.size, 1, none⟩ = some (.int .u32 f.c.s) ∧ W.cell? ⟨w.heap.size, 2, none⟩ = some (.int .u32 f.c.d) ∧ W.cell? ⟨w.heap.size, 3, none⟩ = some (.int .i64 f.c.x) ∧ W.cell? ⟨w.heap.size, 4, none⟩ = some (.int .i64 f.c.y) ∧ W.cell? ⟨w.heap.size, 5, none⟩ = some (.int .i64 f.b.p) ∧ W.cell? ⟨w.heap.size, 6, none⟩ = some (.int .u32 f.b.s) ∧ W.cell? ⟨w.heap.size, 7, none⟩ = some (.int .u32 f.b.d) ∧ W.cell? ⟨w.heap.size, 8, none⟩ = some (.int .i64 lw) ∧ W.cell? ⟨w.heap.size, 9, none⟩ = some (.int .i64 f.b.y) ∧ W.cell? ⟨w.heap.size, 10, none⟩ = some (.int .i64 f.sv) ∧ W.cell? ⟨w.heap.size, 11, none⟩ = some (.int .i64 f.bk) ∧ W.cell? ⟨w.heap.size, 12, none⟩ = some (.int .i64 f.st) ∧ W.cell? ⟨w.heap.size, 13, none⟩ = some (.bool false))) (first | exact HS.out _ HB.out | exact HS.out _ (below_drew HB.out) | exact HS.out _ (below_drew (below_drew HB.out)) | exact HF.out _ rfl) (first
    | (go_at_call 26; refine (HN.out _ (by first | exact HB.out | exact below_drew HB.out | exact below_drew (below_drew HB.out))).mono ?_; rintro e wy ⟨rfl, rfl⟩)
    | (go_at_call 35; refine (HO.out _ (by first | exact HB.out | exact below_drew HB.out | exact below_drew (below_drew HB.out))).mono ?_; rintro e wx ⟨rfl, hb⟩; replace HB := Lib.hid hb; clear hb)
    | (go_at_call 63; refine (HA.out _ (by first | exact HB.out | exact below_drew HB.out | exact below_drew (below_drew HB.out))).mono ?_; rintro e wz ⟨rfl, ht, hf⟩; have HT := Lib.hid ht; have HF := Lib.hid hf; clear ht hf))
  all_goals
    go_wp2_with fail
    go_end0
    exact ⟨rfl, HT.out⟩
end
end Go.Proofs.YtpbknbnhljjjcaaDoor

namespace Go.Proofs.YtpbknbnhljjjcaaDoor
open Go.RowKit Go.Maps Go.Lib
theorem Tri.oneAll {A1 A2 A3 : (Nat → Prop) → World → Prop} {F : Nat} {o : Obj} {S : Nat → Prop} {w : World} (C2 : Comp A2) (C3 : Comp A3) (h : Tri A1 A2 A3 F o S w) : ∃ S1, A1 S1 w ∧ (∀ i, S1 i → S i) ∧ ∀ (B : (Nat → Prop) → World → Prop) (w' : World), Tn B S1 w w' → Tn (Tri B A2 A3 F o) S w w' := by
  obtain ⟨S1, S2, S3, ⟨h1, h2, h3⟩, hF, d1, d2, d3, hS⟩ := h
  have hFl := (Array.getElem?_eq_some_iff.1 hF).1
  have hl2 := C2.low h2
  have hl3 := C3.low h3
  refine ⟨S1, h1, fun i hi => (hS i).2 (.inr (.inl hi)), fun B w' ht => ?_⟩
  obtain ⟨T, k1, k2, k3⟩ := ht
  have q : ∀ i, i < w.heap.size → ¬ S1 i → w'.heap[i]? = w.heap[i]? := fun i hi hn => k2.block i hi hn
  refine ⟨fun i => i = F ∨ T i ∨ S2 i ∨ S3 i, ⟨T, S2, S3, ⟨k1, C2.kept h2 (fun b hb => q b (hl2 b hb) (fun e => (d1 b e).2.1 hb)) k2.size, C3.kept h3 (fun b hb => q b (hl3 b hb) (fun e => (d1 b e).2.2 hb)) k2.size⟩, (q F hFl (fun e => (d1 F e).1 rfl)).trans hF, fun i hi => ?_, d2, d3, fun i => Iff.rfl⟩, ⟨k2.os, k2.tape, k2.output, k2.size, fun i hi hn => q i hi (fun e => hn ((hS i).2 (.inr (.inl e))))⟩, fun i hi => ?_⟩
  · rcases k3 i hi with e | e
    · exact d1 i e
    · exact ⟨by omega, fun e2 => by have := hl2 i e2; omega, fun e2 => by have := hl3 i e2; omega⟩
  · rcases hi with e | e | e | e
    · exact .inl ((hS i).2 (.inl e))
    · rcases k3 i e with e | e
      · exact .inl ((hS i).2 (.inr (.inl e)))
      · exact .inr e
    · exact .inl ((hS i).2 (.inr (.inr (.inl e))))
    · exact .inl ((hS i).2 (.inr (.inr (.inr e))))
section
variable {S : Nat → Prop} {pl : Pl} {c : Cf} {g : FlG} {w w' : World}
/-- A flow is out of the table. -/
def goneG (g : FlG) (i : Nat) (r : Ro) (l : List Int) : FlG := { g with t := ⟨g.t.rows.set i none, l, updT g.t.fA r.a none, updT g.t.fB r.b none, g.t.n - 1⟩ }
theorem rem_in (h : Fls pl c g S w) {i : Nat} {r : Ro} (h1 : 1 ≤ i) (hi : g.t.rows[i]? = some (some r)) (ha : r.a.ok) (hb : r.b.ok) (hA : (g.t.fA r.a).isSome = true) (hl : g.t.free.length < 1000000) :
    Calls Tryd.prog 67 #[.pointer (some ⟨pl.T, 0, none⟩), .int .i64 (i : Int)] w fun e w' => e = .returned (.bool true) ∧ ∃ l, l.Perm ((i : Int) :: g.t.free) ∧ Tn (Fls pl c (goneG g i r l)) S w w' := by
  have h0 : Tri (TabC pl.T c.room g.nB g.t) (PortsC pl.P pl.MP c g.N g.lay g.parts) (ClkC pl.W g.now g.o g.L) pl.F (objF pl c) S w := Tri.rot (Tri.rot h)
  obtain ⟨S3, ⟨gR, capR, MA, MB, nB, lvF, hnB, ht⟩, _, hT⟩ := Tri.oneAll (portsC ..) (clkC ..) h0
  refine (remove_some ht h1 hi ha hb hl).mono ?_
  rintro e w' ⟨rfl, S', lv', nB', l', n', hp, hnB', hn', hT', hO, hS'⟩
  rw [if_pos hA] at hn'
  obtain rfl : n' = g.t.n - 1 := by omega
  exact ⟨rfl, l', hp, Tri.rotT (hT _ w' (show Tn (TabC pl.T c.room g.nB ⟨g.t.rows.set i none, l', updT g.t.fA r.a none, updT g.t.fB r.b none, g.t.n - 1⟩) S3 w w' from ⟨S', ⟨gR, capR, MA, MB, nB', lv', by omega, hT'⟩, hO, hS'⟩))⟩
/-- A flow is off the clock. -/
def offG (g : FlG) (k : Int) : FlG := { g with L := without k g.L }
theorem cancel_in (h : Fls pl c g S w) {k : Int} (hw : (Lit.int .i64 k).wf = true) :
    Calls Tryd.prog 68 #[.pointer (some ⟨pl.W, 0, none⟩), .int .i64 k] w fun e w' => e = .returned (.bool (hasKey k g.L).isSome) ∧ Tn (Fls pl c (offG g k)) S w w' := by
  obtain ⟨S2, hc, _, hT⟩ := Tri.two (B := ClkC pl.W g.now g.o (without k g.L)) (portsC ..) (tabC ..) h
  refine (cancel_whl (show Whl S2 pl.W g.now g.o g.L w from hc) hw).mono ?_
  rintro e w' ⟨rfl, ht⟩
  exact ⟨rfl, hT w' ht⟩
/-- May a flow's port be given back? -/
structure GiveOk (c : Cf) (g : FlG) (f : Fw) (j : Nat) : Prop where
  key : (keyOf f).ok
  part : ∃ pb, g.lay (keyOf f) = some pb
  port : f.b.x = ((c.low + j : Nat) : Int)
  lent : (g.parts (keyOf f)).lent j = true
  small : j < 1000000
/-- The flow's port is given back, if it has one. -/
def givenG (c : Cf) (g : FlG) (f : Fw) (j : Nat) : FlG := if f.dsr = true then g else giveG c g (keyOf f) j
theorem give_any (h : Fls pl c g S w) (f : Fw) (j : Nat) (hd : f.dsr = false → GiveOk c g f j) (hnow : g.now ≤ 1099511627776) (hrest : c.rest ≤ 1099511627776) (hN : g.N < 1000000) :
    Calls Tryd.prog 37 #[.pointer (some ⟨pl.F, 0, none⟩), f.v] w fun e w' => e = .returned (.tuple #[]) ∧ Tn (Fls pl c (givenG c g f j)) S w w' := by
  unfold givenG
  by_cases e : f.dsr = true
  · rw [if_pos e]
    exact (give_fl_dsr f e _).mono (fun e w' k => ⟨k.1, Tn.of_below Fls.comp h k.2⟩)
  · rw [if_neg e]
    have e : f.dsr = false := by simpa using e
    obtain ⟨k1, ⟨pb, k2⟩, k3, k4, k5⟩ := hd e
    exact give_fl h f e k1 k2 j k3 k5 k4 hnow hrest hN
end
/-- A flow's copy lies in a box, another box waits for the answer; behind some turns. -/
structure St (pl : Pl) (c : Cf) (S : Nat → Prop) (w : World) (b4 b5 : Nat) (f : Fw) (g : FlG) (U : Nat → Prop) (W : World) : Prop where
  fl : Fls pl c g U W
  on : Only S w W
  new : ∀ i, U i → S i ∨ w.heap.size ≤ i
  n4 : ¬ U b4
  n5 : ¬ U b5
  c5 : FCB b5 f W
  t4 : W.there b4 0 14
  l4 : b4 < W.heap.size
  l5 : b5 < W.heap.size
theorem FCB.keep {b : Nat} {f : Fw} {W W' : World} (h : FCB b f W) (e : W'.heap[b]? = W.heap[b]?) : FCB b f W' := by
  obtain ⟨⟨p0, p1, p2, p3, p4⟩, ⟨q0, q1, q2, q3, q4⟩, r0, r1, r2, r3⟩ := h
  have q : ∀ o, W'.cell? ⟨b, o, none⟩ = W.cell? ⟨b, o, none⟩ := fun o => World.cell?_of_block e
  exact ⟨⟨(q _).trans p0, (q _).trans p1, (q _).trans p2, (q _).trans p3, (q _).trans p4⟩, ⟨(q _).trans q0, (q _).trans q1, (q _).trans q2, (q _).trans q3, (q _).trans q4⟩, ⟨(q _).trans r0, (q _).trans r1, (q _).trans r2, (q _).trans r3⟩⟩
theorem there_keep {b n : Nat} {W W' : World} (h : W.there b 0 n) (e : W'.heap[b]? = W.heap[b]?) : W'.there b 0 n := fun j hj => by
  obtain ⟨h1, h2⟩ := h j hj
  rw [World.cell?_of_block e, World.frozen?_of_block e]
  exact ⟨h1, h2⟩
theorem St.step {pl : Pl} {c : Cf} {S : Nat → Prop} {w : World} {b4 b5 : Nat} {f : Fw} {g g' : FlG} {U : Nat → Prop} {W W' : World} (h : St pl c S w b4 b5 f g U W) (ht : Tn (Fls pl c g') U W W') : ∃ U', St pl c S w b4 b5 f g' U' W' := by
  obtain ⟨V, k1, k2, k3⟩ := ht
  have e4 := k2.block b4 h.l4 h.n4
  have e5 := k2.block b5 h.l5 h.n5
  refine ⟨V, k1, ⟨k2.os.trans h.on.os, k2.tape.trans h.on.tape, k2.output.trans h.on.output, Nat.le_trans h.on.size k2.size, fun i hi hn => ?_⟩, fun i hi => ?_, fun e => ?_, fun e => ?_, h.c5.keep e5, there_keep h.t4 e4, Nat.lt_of_lt_of_le h.l4 k2.size, Nat.lt_of_lt_of_le h.l5 k2.size⟩
  · refine (k2.block i (Nat.lt_of_lt_of_le hi h.on.size) (fun e => ?_)).trans (h.on.block i hi hn)
    rcases h.new i e with e | e
    · exact hn e
    · omega
  · rcases k3 i hi with e | e
    · exact h.new i e
    · exact .inr (Nat.le_trans h.on.size e)
  · rcases k3 _ e with e | e
    · exact h.n4 e
    · have := h.l4; omega
  · rcases k3 _ e with e | e
    · exact h.n5 e
    · have := h.l5; omega
end Go.Proofs.YtpbknbnhljjjcaaDoor

namespace Go.Proofs.YtpbknbnhljjjcaaDoor
open Go.RowKit Go.Maps Go.Lib
/-- All flows behind a flow's end. -/
def endG (c : Cf) (g : FlG) (i : Nat) (r : Ro) (l : List Int) (j : Nat) : FlG := givenG c (offG (goneG g i r l) (i : Int)) r.v j
set_option maxRecDepth 100000 in
set_option maxHeartbeats 2000000 in
theorem end_fl {S : Nat → Prop} {pl : Pl} {c : Cf} {g : FlG} {w : World} (h : Fls pl c g S w) {i : Nat} {r : Ro} (h1 : 1 ≤ i) (hi : g.t.rows[i]? = some (some r)) (ha : r.a.ok) (hb : r.b.ok) (hA : (g.t.fA r.a).isSome = true) (hl : g.t.free.length < 1000000) (hw : (Lit.int .i64 (i : Int)).wf = true) (j : Nat) (hd : r.v.dsr = false → GiveOk c g r.v j) (hnow : g.now ≤ 1099511627776) (hrest : c.rest ≤ 1099511627776) (hN : g.N < 1000000) :
    Calls Tryd.prog 41 #[.pointer (some ⟨pl.F, 0, none⟩), .int .i64 (i : Int)] w fun e w' => e = .returned r.v.v ∧ ∃ l, l.Perm ((i : Int) :: g.t.free) ∧ Tn (Fls pl c (endG c g i r l j)) S w w' := by
  have hlow := Fls.comp.low h
  obtain ⟨w1, hw1⟩ : ∃ w1, w.alloc (boxF zF) = w1 := ⟨_, rfl⟩
  have hb1 : Below w.heap.size w w1 := by rw [← hw1]; exact (Below.refl _ w).alloc (Nat.le_refl _) _
  have hx1 : w1.heap[w.heap.size]? = some (boxF zF) := by rw [← hw1]; exact heap_alloc_new w _
  have f1 := h.below hb1
  have c7 := f1.cells.tt
  obtain ⟨S3, gR, capR, MA, MB, nB, lvF, _, h3⟩ := f1.tab
  have HG := Lib.hid (get_some h3 h1 hi)
  have HW := Lib.hid hw1
  have HS := Lib.hid flow_size
  have HO := Lib.hid (flow_one r.v)
  have HNS := Lib.hid (show r.v.cells.toArray.size = 14 from by simp [Fw.cells, Tup.cells])
  obtain ⟨fv, hfv⟩ : ∃ fv, r.v.v = fv := ⟨_, rfl⟩
  have HC := Lib.hid (show fv = .agg r.v.cells.toArray from by rw [← hfv]; rfl)
  have HFV := Lib.hid hfv
  rw [hfv] at HG ⊢
  -- behind Get, the copy is made
  have HST := Lib.hid (show ∀ wx : World, Below w1.heap.size w1 wx → (wx.alloc (boxF zF)).there wx.heap.size 0 14 ∧ St pl c S w w.heap.size wx.heap.size r.v g S ((wx.alloc (boxF zF)).setCells wx.heap.size 0 r.v.cells) from fun wx hbx => by
    have t5 := box_there (heap_alloc_new wx (boxF zF))
    have hlt1 : w.heap.size < w1.heap.size := (Array.getElem?_eq_some_iff.1 hx1).1
    have hB2 : Below w1.heap.size w1 ((wx.alloc (boxF zF)).setCells wx.heap.size 0 r.v.cells) := below_put (hbx.alloc hbx.size _) hbx.size 0 r.v.cells
    have hB3 : Below w.heap.size w ((wx.alloc (boxF zF)).setCells wx.heap.size 0 r.v.cells) := hb1.trans (hB2.mono (Nat.le_of_lt hlt1))
    have hsz : wx.heap.size < ((wx.alloc (boxF zF)).setCells wx.heap.size 0 r.v.cells).heap.size := by
      rw [(puts_world r.v.cells (wx.alloc (boxF zF)) wx.heap.size 0).2.2.2]
      simp
    have hle := hbx.size
    exact ⟨t5, h.below hB3, Only.of_below hB3, fun i hi => .inl hi, fun e => by have := hlow _ e; omega, fun e => by have := hlow _ e; omega, box_put r.v t5, box_there ((hB2.block _ hlt1).trans hx1), by omega, hsz⟩)
  have HR := Lib.hid (fun (U : Nat → Prop) (W : World) (k : Fls pl c g U W) => rem_in k h1 hi ha hb hA hl)
  have HCN := Lib.hid (fun (l : List Int) (U : Nat → Prop) (W : World) (k : Fls pl c (goneG g i r l) U W) => cancel_in k hw)
  have HGV := Lib.hid (fun (l : List Int) (U : Nat → Prop) (W : World) (k : Fls pl c (offG (goneG g i r l) (i : Int)) U W) => give_any k r.v j (fun e => ⟨(hd e).key, (hd e).part, (hd e).port, (hd e).lent, (hd e).small⟩) hnow hrest hN)
  unfold Fw.v at HGV
  have HFIN := Lib.hid (show ∀ (l : List Int) (b5 : Nat) (U : Nat → Prop) (W : World), St pl c S w w.heap.size b5 r.v (endG c g i r l j) U W → FCB w.heap.size r.v (W.setCells w.heap.size 0 r.v.cells) ∧ Tn (Fls pl c (endG c g i r l j)) S w (W.setCells w.heap.size 0 r.v.cells) from fun l b5 U W k => by
    obtain ⟨p1, p2, p3, p4⟩ := puts_world r.v.cells W w.heap.size 0
    have q : ∀ b, b ≠ w.heap.size → (W.setCells w.heap.size 0 r.v.cells).heap[b]? = W.heap[b]? := fun b hb => puts_else r.v.cells W w.heap.size 0 hb
    refine ⟨box_put r.v k.t4, U, Fls.comp.kept k.fl (fun b hb => q b (fun e => k.n4 (e ▸ hb))) (by rw [p4]; exact Nat.le_refl _), ⟨p1.trans k.on.os, p2.trans k.on.tape, p3.trans k.on.output, by rw [p4]; exact k.on.size, fun i hi hn => (q i (by omega)).trans (k.on.block i hi hn)⟩, k.new⟩)
  have hlt1 : w.heap.size < w1.heap.size := (Array.getElem?_eq_some_iff.1 hx1).1
  clear h hlow hb1 hx1 f1 h3 hw1 hfv h1 hi ha hb hA hl hw hd hnow hrest hN
  go_enter Tryd.func41, Tryd.ntmps41
  go_upto_region 1 with fail
  refine wp_world w1 HW.out ?_
  go_upto_region 2 with (first
    | (go_at_call 40; refine HG.out.mono ?_; rintro e wx ⟨rfl, hb⟩; obtain ⟨t5, hst⟩ := HST.out wx hb; have HT5 := Lib.hid t5; have HST0 := Lib.hid hst; clear hb t5 hst)
    | (refine wpList_store_mid rfl 52 _ _ rfl wx.heap.size 0 r.v.cells.toArray rfl HC.out (by rw [HNS.out]; exact HT5.out) (by rw [HNS.out]; exact HS.out) HO.out ?_))
  obtain ⟨w3, hw3⟩ : ∃ w3, (wx.alloc (boxF zF)).setCells wx.heap.size 0 r.v.cells = w3 := ⟨_, rfl⟩
  have s3 := HST0.out
  rw [hw3] at s3
  have c7' := s3.fl.cells.tt
  have S3 := Lib.hid s3
  clear s3 HST0 HST HG c7
  refine wp_world w3 hw3 ?_
  clear hw3
  go_upto_region 3 with (go_at_call 67; refine (HR.out _ _ S3.out.fl).mono ?_; rintro e w4 ⟨rfl, l, hp, ht⟩; obtain ⟨U4, s4⟩ := S3.out.step ht; have HP := Lib.hid hp; have c6 := s4.fl.cells.cc; have S4 := Lib.hid s4; clear hp ht s4)
  go_upto_region 4 with (go_at_call 68; refine (HCN.out l _ _ S4.out.fl).mono ?_; rintro e w5 ⟨rfl, ht⟩; obtain ⟨U5, s5⟩ := S4.out.step ht; have S5 := Lib.hid s5; clear ht s5)
  obtain ⟨⟨p0, p1, p2, p3, p4⟩, ⟨q0, q1, q2, q3, q4⟩, r0, r1, r2, r3⟩ := S5.out.c5
  go_upto_region 5 with (go_at_call 37; refine (HGV.out l _ _ S5.out.fl).mono ?_; rintro e w6 ⟨rfl, ht⟩; obtain ⟨U6, s6⟩ := S5.out.step ht; have S6 := Lib.hid s6; clear ht s6)
  clear p0 p1 p2 p3 p4 q0 q1 q2 q3 q4 r0 r1 r2 r3
  obtain ⟨⟨p0, p1, p2, p3, p4⟩, ⟨q0, q1, q2, q3, q4⟩, r0, r1, r2, r3⟩ := S6.out.c5
  go_wp2_with (refine wpList_store_mid rfl 52 _ _ rfl w.heap.size 0 r.v.cells.toArray rfl rfl (by rw [HNS.out]; exact S6.out.t4) (by rw [HNS.out]; exact HS.out) HO.out ?_)
  obtain ⟨k1, k2⟩ := HFIN.out l _ _ _ S6.out
  clear p0 p1 p2 p3 p4 q0 q1 q2 q3 q4 r0 r1 r2 r3
  obtain ⟨⟨p0, p1, p2, p3, p4⟩, ⟨q0, q1, q2, q3, q4⟩, r0, r1, r2, r3⟩ := k1
  generalize w6.setCells w.heap.size 0 r.v.cells = w9 at *
  refine ⟨rfl, r.v.v, ?_, by rw [HFV.out], l, HP.out, k2⟩
  simp [results, Tryd.f41, go_sem, p0, p1, p2, p3, p4, q0, q1, q2, q3, q4, r0, r1, r2, r3, Fw.v]
end Go.Proofs.YtpbknbnhljjjcaaDoor
