/- Texts of this proof, put together: F1 F2 F3 F4 F5. -/
import Derived.Test.YtpbknbnhljjjcaaDoorMB
import Derived.WalkKit
import Derived.Test.YtpbknbnhljjjcaaDoorMC
import Derived.Maps.RangeWalk
namespace Go.Proofs.YtpbknbnhljjjcaaDoor
open Go.RowKit Go.Maps Go.Lib

def openF (s : Nat) (b y a f : Bool) : Nat × Bool :=
  match s with
  | 0 => (1, (!b && y && !a) && !f)
  | 1 => if b && y && a then (2, true) else (1, !b && y && !a)
  | _ => if (!b && y && !a) || (b && y && a) then (2, true) else (if f then 4 else 3, !b && a && !y)
def closeF (s : Nat) (b a f : Bool) : Nat :=
  if s = 3 ∧ f = true ∧ b = true then 5
  else if s = 3 ∧ f = true then 4
  else if (s = 4 ∧ f = true ∧ b = true) ∨ (s = 5 ∧ f = true ∧ b = false) then 6
  else if s = 6 ∧ a = true ∧ f = false then 7
  else s
theorem below_box (w : World) (o : Obj) : Below w.heap.size w (w.alloc o) := (Below.refl _ w).alloc (Nat.le_refl _) _
theorem below_boxN (w : World) (o : Obj) (n : Nat) : Below w.heap.size w ((w.alloc o).drewN n) := (below_box w o).trans ⟨rfl, rfl, rfl, Nat.le_refl _, fun _ _ => rfl⟩
set_option maxRecDepth 100000 in
set_option maxHeartbeats 8000000 in
theorem opening_ok (s : Nat) (hs : s < 3) (b y a f : Bool) (w : World) :
    Calls Tryd.prog 45 #[.int .i64 (s : Int), .agg #[.bool b, .bool y, .bool a, .bool f]] w fun e w' => e = .returned (.tuple #[.int .i64 ((openF s b y a f).1 : Int), .bool (openF s b y a f).2]) ∧ Below w.heap.size w w' := by
  have h3 : s = 0 ∨ s = 1 ∨ s = 2 := by omega
  clear hs
  rcases h3 with rfl | rfl | rfl <;> cases b <;> cases y <;> cases a <;> cases f
  all_goals
    go_enter Tryd.func45, Tryd.ntmps45
    go_wp2_with fail
    first
      | (go_ret2; first | exact ⟨rfl, below_box _ _⟩ | exact ⟨rfl, below_boxN _ _ _⟩)
      | (go_quiet (fail); go_wp2_with fail; go_ret2; first | exact ⟨rfl, below_box _ _⟩ | exact ⟨rfl, below_boxN _ _ _⟩)
set_option maxRecDepth 100000 in
set_option maxHeartbeats 8000000 in
theorem closing_ok (s : Nat) (hs : 3 ≤ s ∧ s ≤ 7) (b y a f : Bool) (w : World) :
    Calls Tryd.prog 46 #[.int .i64 (s : Int), .agg #[.bool b, .bool y, .bool a, .bool f]] w fun e w' => e = .returned (.int .i64 (closeF s b a f : Int)) ∧ Below w.heap.size w w' := by
  have h3 : s = 3 ∨ s = 4 ∨ s = 5 ∨ s = 6 ∨ s = 7 := by omega
  clear hs
  rcases h3 with rfl | rfl | rfl | rfl | rfl <;> cases b <;> cases a <;> cases f
  all_goals
    go_enter Tryd.func46, Tryd.ntmps46
    go_wp2_with fail
    go_ret
    exact ⟨rfl, below_box _ _⟩
end Go.Proofs.YtpbknbnhljjjcaaDoor

namespace Go.Proofs.YtpbknbnhljjjcaaDoor
open Go.RowKit Go.Maps Go.Lib

set_option maxRecDepth 100000 in
set_option maxHeartbeats 1000000 in
theorem udp_ok (s : Int) (b : Bool) (w : World) :
    Calls Tryd.prog 57 #[.int .i64 s, .bool b] w fun e w' => e = .returned (.tuple #[.int .i64 (if s = 8 ∨ (s = 0 ∧ b = false) then 8 else 0), .bool (decide (s = 8 ∨ (s = 0 ∧ b = false)))]) ∧ w' = w := by
  by_cases h8 : s = 8
  · subst h8
    cases b
    all_goals
      go_enter Tryd.func57, Tryd.ntmps57
      go_wp2_with fail
      go_ret2
      exact ⟨by simp, rfl⟩
  · have e8 : (s == 8) = false := by simpa using h8
    by_cases h0 : s = 0
    · subst h0
      cases b
      · go_enter Tryd.func57, Tryd.ntmps57
        go_wp2_with fail
        go_ret2
        exact ⟨by simp, rfl⟩
      · go_enter Tryd.func57, Tryd.ntmps57
        go_wp2_with fail
        go_ret2
        exact ⟨by simp, rfl⟩
    · have e0 : (s == 0) = false := by simpa using h0
      go_enter Tryd.func57, Tryd.ntmps57
      go_wp2_with fail
      go_ret2
      exact ⟨by simp, rfl⟩
end Go.Proofs.YtpbknbnhljjjcaaDoor

namespace Go.Proofs.YtpbknbnhljjjcaaDoor
open Go.RowKit Go.Maps Go.Lib

/-- Has it a flag? -/
def fl (flags k : Int) : Bool := bits .and .i64 flags k != 0
set_option maxHeartbeats 1000000 in
theorem has_ok (b : Nat) (flags k : Int) (w : World) (h : w.cell? ⟨b, 0, none⟩ = some (.int .i64 flags)) :
    Calls Tryd.prog 44 #[.int .i64 k, .pointer (some ⟨b, 0, none⟩)] w fun e w' => e = .returned (.bool (fl flags k)) ∧ w' = w := by
  unfold fl
  go_enter Tryd.func44, Tryd.ntmps44
  go_wp2_with fail
  go_ret
  exact ⟨rfl, rfl⟩
/-- What Step tells. -/
def stepF (s : Nat) (b : Bool) (flags : Int) : Nat × Bool :=
  if 7 < s then (0, false)
  else if fl flags 4 = true then (0, decide (s ≠ 0))
  else if s < 3 then (if (openF s b (fl flags 2) (fl flags 16) (fl flags 1)).2 = true then ((openF s b (fl flags 2) (fl flags 16) (fl flags 1)).1, true) else (0, false))
  else if fl flags 2 = true ∧ fl flags 16 = false then (0, false)
  else (closeF s b (fl flags 16) (fl flags 1), true)
set_option maxRecDepth 100000 in
set_option maxHeartbeats 4000000 in
theorem step_ok (s : Nat) (hs : s < 9) (b : Bool) (flags : Int) (w : World) :
    Calls Tryd.prog 21 #[.int .i64 (s : Int), .bool b, .int .i64 flags] w fun e w' => e = .returned (.tuple #[.int .i64 ((stepF s b flags).1 : Int), .bool (stepF s b flags).2]) ∧ Below w.heap.size w w' := by
  obtain ⟨y, hy⟩ : ∃ y, fl flags 2 = y := ⟨_, rfl⟩
  obtain ⟨a, ha⟩ : ∃ a, fl flags 16 = a := ⟨_, rfl⟩
  obtain ⟨f, hf⟩ : ∃ f, fl flags 1 = f := ⟨_, rfl⟩
  obtain ⟨r, hr⟩ : ∃ r, fl flags 4 = r := ⟨_, rfl⟩
  have HB := Lib.hid (fun (W : World) (bx : Nat) (h : W.cell? ⟨bx, 0, none⟩ = some (.int .i64 flags)) => has_ok bx flags 2 W h)
  have HB16 := Lib.hid (fun (W : World) (bx : Nat) (h : W.cell? ⟨bx, 0, none⟩ = some (.int .i64 flags)) => has_ok bx flags 16 W h)
  have HB1 := Lib.hid (fun (W : World) (bx : Nat) (h : W.cell? ⟨bx, 0, none⟩ = some (.int .i64 flags)) => has_ok bx flags 1 W h)
  have HB4 := Lib.hid (fun (W : World) (bx : Nat) (h : W.cell? ⟨bx, 0, none⟩ = some (.int .i64 flags)) => has_ok bx flags 4 W h)
  rw [hy] at HB
  rw [ha] at HB16
  rw [hf] at HB1
  rw [hr] at HB4
  obtain ⟨R, hR⟩ : ∃ R, stepF s b flags = R := ⟨_, rfl⟩
  rw [hR]
  unfold stepF at hR
  rw [hy, ha, hf, hr] at hR
  clear hy ha hf hr
  have HR := Lib.hid hR
  clear hR
  obtain ⟨w0, hw0⟩ : ∃ w0, w.alloc (.cells #[.int .i64 flags] 3) = w0 := ⟨_, rfl⟩
  have hb0 : Below w.heap.size w w0 := by rw [← hw0]; exact below_box _ _
  have x0 : w0.cell? ⟨w.heap.size, 0, none⟩ = some (.int .i64 flags) := by
    have := heap_alloc_new w (.cells #[.int .i64 flags] 3)
    rw [hw0] at this
    simp [World.cell?, this]
  have HW0 := Lib.hid hw0
  have HB0 := Lib.hid hb0
  have HX0 := Lib.hid x0
  clear hw0 hb0 x0
  go_enter Tryd.func21, Tryd.ntmps21
  go_upto_region 2 with fail
  refine wp_world w0 HW0.out ?_
  go_upto_region 3 with (first
    | (go_at_call 44; refine (HB.out _ _ HX0.out).mono ?_; rintro e wx ⟨rfl, rfl⟩)
    | (go_at_call 44; refine (HB16.out _ _ HX0.out).mono ?_; rintro e wx ⟨rfl, rfl⟩)
    | (go_at_call 44; refine (HB1.out _ _ HX0.out).mono ?_; rintro e wx ⟨rfl, rfl⟩))
  obtain ⟨b9, hb9⟩ : ∃ b9, wx.heap.size = b9 := ⟨_, rfl⟩
  obtain ⟨w1, hw1⟩ : ∃ w1, wx.alloc (.cells #[.bool b, .bool y, .bool a, .bool f] 98) = w1 := ⟨_, rfl⟩
  have hx1 := heap_alloc_new wx (.cells #[.bool b, .bool y, .bool a, .bool f] 98)
  have hbx : Below wx.heap.size wx w1 := by rw [← hw1]; exact below_box _ _
  have hlt := World.block_lt_of_cell? _ _ HX0.out
  rw [hb9, hw1] at hx1
  rw [hb9]
  refine wp_world w1 hw1 ?_
  have p0 : w1.cell? ⟨b9, 0, none⟩ = some (.bool b) := by simp [World.cell?, hx1]
  have p1 : w1.cell? ⟨b9, 1, none⟩ = some (.bool y) := by simp [World.cell?, hx1]
  have p2 : w1.cell? ⟨b9, 2, none⟩ = some (.bool a) := by simp [World.cell?, hx1]
  have p3 : w1.cell? ⟨b9, 3, none⟩ = some (.bool f) := by simp [World.cell?, hx1]
  have HX1 := Lib.hid ((hbx.cell hlt).trans HX0.out)
  have HW1 := Lib.hid (HB0.out.trans (hbx.mono HB0.out.size))
  clear hb9 hw1 hx1 hbx hlt HB HB16 HB1 HX0
  by_cases h7 : s = 8
  · subst h7
    go_wp2_with fail
    go_ret2
    exact ⟨by rw [← HR.out]; simp, HW1.out⟩
  · have h8 : ¬ 7 < s := by omega
    have h8I : ¬ (7 : Int) < (s : Int) := by omega
    have h0I : ¬ (s : Int) < 0 := by omega
    cases r
    · by_cases h3 : s < 3
      · have h3I : (s : Int) < 3 := by omega
        have HO := Lib.hid (fun W => opening_ok s h3 b y a f W)
        obtain ⟨q1, hq1⟩ : ∃ q1, (openF s b y a f).1 = q1 := ⟨_, rfl⟩
        obtain ⟨q2, hq2⟩ : ∃ q2, (openF s b y a f).2 = q2 := ⟨_, rfl⟩
        rw [hq1, hq2] at HO
        have HRR := HR.out
        rw [hq1, hq2] at HRR
        have HRR := Lib.hid HRR
        clear hq1 hq2
        cases q2
        · go_wp2_with (first
            | (go_at_call 44; refine (HB4.out _ _ HX1.out).mono ?_; rintro e wy ⟨rfl, rfl⟩)
            | (go_at_call 45; refine (HO.out _).mono ?_; rintro e wz ⟨rfl, hbz⟩; have HZ := Lib.hid hbz; clear hbz))
          go_ret2
          exact ⟨by rw [← HRR.out]; simp [h8, h3], HW1.out.trans (HZ.out.mono HW1.out.size)⟩
        · go_wp2_with (first
            | (go_at_call 44; refine (HB4.out _ _ HX1.out).mono ?_; rintro e wy ⟨rfl, rfl⟩)
            | (go_at_call 45; refine (HO.out _).mono ?_; rintro e wz ⟨rfl, hbz⟩; have HZ := Lib.hid hbz; clear hbz))
          go_ret2
          exact ⟨by rw [← HRR.out]; simp [h8, h3], HW1.out.trans (HZ.out.mono HW1.out.size)⟩
      · have h3I : ¬ (s : Int) < 3 := by omega
        have HO := Lib.hid (fun W => closing_ok s (by omega) b y a f W)
        obtain ⟨q1, hq1⟩ : ∃ q1, closeF s b a f = q1 := ⟨_, rfl⟩
        rw [hq1] at HO
        have HRR := HR.out
        rw [hq1] at HRR
        have HRR := Lib.hid HRR
        clear hq1
        cases y
        · go_wp2_with (first
            | (go_at_call 44; refine (HB4.out _ _ HX1.out).mono ?_; rintro e wy ⟨rfl, rfl⟩)
            | (go_at_call 46; refine (HO.out _).mono ?_; rintro e wz ⟨rfl, hbz⟩; have HZ := Lib.hid hbz; clear hbz))
          go_ret2
          exact ⟨by rw [← HRR.out]; simp [h8, h3], HW1.out.trans (HZ.out.mono HW1.out.size)⟩
        · cases a
          · go_wp2_with (first
              | (go_at_call 44; refine (HB4.out _ _ HX1.out).mono ?_; rintro e wy ⟨rfl, rfl⟩))
            go_ret2
            exact ⟨by rw [← HRR.out]; simp [h8, h3], HW1.out⟩
          · go_wp2_with (first
              | (go_at_call 44; refine (HB4.out _ _ HX1.out).mono ?_; rintro e wy ⟨rfl, rfl⟩)
              | (go_at_call 46; refine (HO.out _).mono ?_; rintro e wz ⟨rfl, hbz⟩; have HZ := Lib.hid hbz; clear hbz))
            go_ret2
            exact ⟨by rw [← HRR.out]; simp [h8, h3], HW1.out.trans (HZ.out.mono HW1.out.size)⟩
    · have hne : ((s : Int) != 0) = decide (s ≠ 0) := by
        by_cases e : s = 0
        · subst e; rfl
        · have : ¬ (s : Int) = 0 := by omega
          simp [e]
      obtain ⟨z, hz⟩ : ∃ z, decide (s ≠ 0) = z := ⟨_, rfl⟩
      have HRR := HR.out
      rw [hz] at hne HRR
      have HRR := Lib.hid HRR
      clear hz
      go_wp2_with (first
        | (go_at_call 44; refine (HB4.out _ _ HX1.out).mono ?_; rintro e wy ⟨rfl, rfl⟩))
      go_ret2
      exact ⟨by rw [← HRR.out]; simp [h8], HW1.out⟩
end Go.Proofs.YtpbknbnhljjjcaaDoor

namespace Go.Proofs.YtpbknbnhljjjcaaDoor
open Go.RowKit Go.Maps Go.Lib

structure Tms where
  op : Int
  on : Int
  cl : Int
  wa : Int
  ud : Int
def Tms.v (t : Tms) : Value := .agg #[.int .i64 t.op, .int .i64 t.on, .int .i64 t.cl, .int .i64 t.wa, .int .i64 t.ud]
def boxM (t : Tms) : Obj := .cells #[.int .i64 t.op, .int .i64 t.on, .int .i64 t.cl, .int .i64 t.wa, .int .i64 t.ud] 23
def Tms.of (t : Tms) (s : Int) : Option Int := if s = 1 then some t.op else if s = 2 then some t.op else if s = 3 then some t.on else if s = 4 then some t.cl else if s = 5 then some t.cl else if s = 6 then some t.cl else if s = 7 then some t.wa else if s = 8 then some t.ud else none
structure BM (b : Nat) (t : Tms) (w : World) : Prop where
  c0 : w.cell? ⟨b, 0, none⟩ = some (.int .i64 t.op)
  c1 : w.cell? ⟨b, 1, none⟩ = some (.int .i64 t.on)
  c2 : w.cell? ⟨b, 2, none⟩ = some (.int .i64 t.cl)
  c3 : w.cell? ⟨b, 3, none⟩ = some (.int .i64 t.wa)
  c4 : w.cell? ⟨b, 4, none⟩ = some (.int .i64 t.ud)
theorem BM.of {w : World} {b : Nat} {t : Tms} (h : w.heap[b]? = some (boxM t)) : BM b t w := by
  unfold boxM at h
  constructor <;> simp [World.cell?, h]
theorem ins_step {M c b B : Nat} {f : Int → Option Value} {w : World} {t : Tms} (h : MapG kI M c f w) (hx : w.heap[b]? = some (boxM t)) (hb : b ≠ M) (hB : B ≤ M) (hc : c < 1000) (k : Int) (hk : (Lit.int .i64 k).wf = true) (v : Int) :
    ∃ w' c', (Instr.mapUpdate 108 (.map (some M)) (.int .i64 k) (.int .i64 v)).run Tryd.prog w = .ok () w' ∧ MapG kI M c' (fun j => if j = k then some (.int .i64 v) else f j) w' ∧ w'.heap[b]? = some (boxM t) ∧ Below B w w' ∧ c' ≤ c + 1 := by
  obtain ⟨w', h1, h2, h3⟩ := h.store (E := kI) Tryd.underlying108 (by unfold maxLen; omega) hk (.int .i64 v)
  refine ⟨w', _, h1, h2, (h3.block b (Array.getElem?_eq_some_iff.1 hx).1 (fun e => hb (Option.some.inj e))).trans hx, ⟨h3.os, h3.tape, h3.output, h3.size, fun i hi => h3.block i (by have := h.lt; omega) (fun e => by have := Option.some.inj e; omega)⟩, ?_⟩
  split <;> omega
/-- The map of all. -/
def AllIs (M : Nat) (t : Tms) (w : World) : Prop := ∃ c, MapG kI M c (fun s => (t.of s).map (Value.int .i64)) w
set_option maxRecDepth 100000 in
set_option maxHeartbeats 4000000 in
theorem all_ok (t : Tms) (w : World) : Calls Tryd.prog 51 #[t.v] w fun e w' => e = .returned (.map (some (w.heap.size + 1))) ∧ AllIs (w.heap.size + 1) t w' ∧ Below w.heap.size w w' := by
  obtain ⟨w0, hw0⟩ : ∃ w0, w.alloc (boxM t) = w0 := ⟨_, rfl⟩
  have hs0 : w0.heap.size = w.heap.size + 1 := by rw [← hw0]; simp
  have x0 : w0.heap[w.heap.size]? = some (boxM t) := by rw [← hw0]; exact heap_alloc_new w _
  have hb0 : Below w.heap.size w w0 := by rw [← hw0]; exact below_box _ _
  obtain ⟨w1, hw1⟩ : ∃ w1, w0.alloc (.map #[] 0) = w1 := ⟨_, rfl⟩
  have m1 := MapG.made kI w0
  rw [hw1, hs0] at m1
  have x1 : w1.heap[w.heap.size]? = some (boxM t) := by rw [← hw1]; exact (Below.heap_alloc _ _ _ (by omega)).trans x0
  have hb1 : Below w.heap.size w0 w1 := by rw [← hw1]; exact (below_box w0 _).mono (by omega)
  have hne : w.heap.size ≠ w.heap.size + 1 := by omega
  obtain ⟨w2, c2, r2, m2, x2, b2, k2⟩ := ins_step (B := w.heap.size) m1 x1 hne (by omega) (by omega) 1 (by decide) t.op
  obtain ⟨w3, c3, r3, m3, x3, b3, k3⟩ := ins_step (B := w.heap.size) m2 x2 hne (by omega) (by omega) 2 (by decide) t.op
  obtain ⟨w4, c4, r4, m4, x4, b4, k4⟩ := ins_step (B := w.heap.size) m3 x3 hne (by omega) (by omega) 3 (by decide) t.on
  obtain ⟨w5, c5, r5, m5, x5, b5, k5⟩ := ins_step (B := w.heap.size) m4 x4 hne (by omega) (by omega) 4 (by decide) t.cl
  obtain ⟨w6, c6, r6, m6, x6, b6, k6⟩ := ins_step (B := w.heap.size) m5 x5 hne (by omega) (by omega) 5 (by decide) t.cl
  obtain ⟨w7, c7, r7, m7, x7, b7, k7⟩ := ins_step (B := w.heap.size) m6 x6 hne (by omega) (by omega) 6 (by decide) t.cl
  obtain ⟨w8, c8, r8, m8, x8, b8, k8⟩ := ins_step (B := w.heap.size) m7 x7 hne (by omega) (by omega) 7 (by decide) t.wa
  obtain ⟨w9, c9, r9, m9, x9, b9, k9⟩ := ins_step (B := w.heap.size) m8 x8 hne (by omega) (by omega) 8 (by decide) t.ud
  have HFIN := Lib.hid (show AllIs (w.heap.size + 1) t w9 ∧ Below w.heap.size w w9 from by
    refine ⟨⟨c9, m9.ext (fun s _ => ?_)⟩, hb0.trans (hb1.trans (b2.trans (b3.trans (b4.trans (b5.trans (b6.trans (b7.trans (b8.trans b9))))))))⟩
    unfold Tms.of
    by_cases e1 : s = 1
    · subst e1; rfl
    by_cases e2 : s = 2
    · subst e2; rfl
    by_cases e3 : s = 3
    · subst e3; rfl
    by_cases e4 : s = 4
    · subst e4; rfl
    by_cases e5 : s = 5
    · subst e5; rfl
    by_cases e6 : s = 6
    · subst e6; rfl
    by_cases e7 : s = 7
    · subst e7; rfl
    by_cases e8 : s = 8
    · subst e8; rfl
    simp [e1, e2, e3, e4, e5, e6, e7, e8])
  obtain ⟨p10, _, _, _, _⟩ := BM.of x1
  obtain ⟨p20, _, _, _, _⟩ := BM.of x2
  obtain ⟨_, p31, _, _, _⟩ := BM.of x3
  obtain ⟨_, _, p42, _, _⟩ := BM.of x4
  obtain ⟨_, _, p52, _, _⟩ := BM.of x5
  obtain ⟨_, _, p62, _, _⟩ := BM.of x6
  obtain ⟨_, _, _, p73, _⟩ := BM.of x7
  obtain ⟨_, _, _, _, p84⟩ := BM.of x8
  have HW0 := Lib.hid hw0
  have HS0 := Lib.hid hs0
  have hmm : (Instr.makeMap 108 none).run Tryd.prog w0 = .ok (.map (some (w.heap.size + 1))) w1 := by
    have h9 := @run_makeMap Tryd.prog 108 w0
    rw [hs0, hw1] at h9
    exact h9
  clear hw0 hs0 x0 hb0 hw1 m1 x1 hb1 hne m2 x2 b2 k2 m3 x3 b3 k3 m4 x4 b4 k4 m5 x5 b5 k5 m6 x6 b6 k6 m7 x7 b7 k7 m8 x8 b8 k8 m9 x9 b9 k9
  unfold Tms.v
  go_enter Tryd.func51, Tryd.ntmps51
  go_upto_region 1 with fail
  refine wp_world w0 HW0.out ?_
  go_wp2_with fail
  go_ret
  exact ⟨rfl, HFIN.out⟩
/-- What Of tells. -/
def Tms.ofV (t : Tms) (s : Int) : Value := .tuple #[.int .i64 ((t.of s).getD 0), .bool (t.of s).isSome]
set_option maxRecDepth 100000 in
set_option maxHeartbeats 2000000 in
theorem of_ok (t : Tms) (s : Int) (hs : (Lit.int .i64 s).wf = true) (w : World) : Calls Tryd.prog 64 #[t.v, .int .i64 s] w fun e w' => e = .returned (t.ofV s) ∧ Below w.heap.size w w' := by
  have HA := Lib.hid (fun W => all_ok t W)
  have HL := Lib.hid (fun (M : Nat) (W : World) (h : AllIs M t W) => show (Instr.lookup 108 (.map (some M)) (.int .i64 s) true).run Tryd.prog W = .ok (t.ofV s) W from by
    obtain ⟨c, hm⟩ := h
    have h1 := hm.look_ok (E := kI) (z := .int .i64 0) Tryd.underlying108 (zero3 W) (k := s) hs
    unfold Tms.ofV
    cases hx : t.of s with
    | none => rw [hx] at h1; exact h1
    | some n => rw [hx] at h1; exact h1)
  unfold Tms.ofV at *
  obtain ⟨n, hn⟩ : ∃ n, (t.of s).getD 0 = n := ⟨_, rfl⟩
  obtain ⟨o, ho⟩ : ∃ o, (t.of s).isSome = o := ⟨_, rfl⟩
  rw [hn, ho] at HL ⊢
  clear hs hn ho
  unfold Tms.v at *
  go_enter Tryd.func64, Tryd.ntmps64
  go_wp2_with (go_at_call 51; refine (HA.out _).mono ?_; rintro e wx ⟨rfl, ha, hb⟩; have hl := HL.out _ _ ha; rw [World.size_alloc] at hl; have HBX := Lib.hid hb; clear ha hb)
  go_ret2
  exact ⟨rfl, (below_box _ _).trans (HBX.out.mono (by simp))⟩
end Go.Proofs.YtpbknbnhljjjcaaDoor

namespace Go.Proofs.YtpbknbnhljjjcaaDoor
open Go.RowKit Go.Maps Go.Lib

theorem heldR_inv9 : ∀ v y, heldR v = some y → ∃ c : Value, v = (id : Value → Value) c := fun v _ _ => ⟨v, rfl⟩
/-- All may be. -/
def Tms.right (t : Tms) : Prop := ∀ s n, t.of s = some n → 1 ≤ n ∧ n ≤ 1073741824
set_option maxRecDepth 100000 in
set_option maxHeartbeats 2000000 in
theorem right_ok (t : Tms) (hr : t.right) (w : World) : Calls Tryd.prog 29 #[t.v] w fun e w' => e = .returned (.bool true) ∧ Below w.heap.size w w' := by
  have HA := Lib.hid (fun W => all_ok t W)
  have HR := Lib.hid hr
  clear hr
  unfold Tms.v at *
  go_enter Tryd.func29, Tryd.ntmps29
  go_wp2_with (first
    | (go_at_call 51; refine (HA.out _).mono ?_; rintro e wx ⟨rfl, ⟨c, D, hown, hsz, hD⟩, hb⟩; have HB := Lib.hid ((below_box w (boxM t)).trans (hb.mono (by rw [World.size_alloc]; omega))); have HD := Lib.hid hD; clear hsz hD hb; rw [World.size_alloc] at hown)
    | (at_range; refine wpList_range_own _ rfl _ 108 rfl 3 3 (int_keyed int3) Tryd.underlying108 heldR (w.heap.size + 1 + 1) c _ rfl hown ?_; intro w2 hrg2 hg2 hs2))
  go_frame
  obtain ⟨r, hr⟩ : ∃ r, wx.heap.size = r := ⟨_, rfl⟩
  obtain ⟨M, hM⟩ : ∃ M, w.heap.size + 1 + 1 = M := ⟨_, rfl⟩
  rw [hr] at hrg2 hs2 ⊢
  rw [hM] at hrg2
  have HB2 := Lib.hid (HB.out.grown hg2 HB.out.size (fun j e => by cases e))
  have HRW := Lib.hid (show w.heap.size ≤ r from by rw [← hr]; exact HB.out.size)
  have HRG2 := Lib.hid hrg2
  clear hown hg2 hs2 hr hM hrg2 HA
  go_loopw [4] (fun _ wr => ∃ (left : Lit → Bool) (cnt : Nat), wr.ranges Tryd.prog 3 heldR M r c D left cnt ∧ (∀ kl, left kl = true → Maps.has D kl = true) ∧ Below w.heap.size w wr) (fun _ wr => wr.rangeLeft M r)
  case atStart => exact ⟨_, _, HRG2.out, fun kl h => h, HB2.out⟩
  case round =>
    obtain ⟨left, cnt, hrg, hle, hbr⟩ := hrel
    have HLE := Lib.hid hle
    have HBR := Lib.hid hbr
    have HRG := Lib.hid hrg
    clear hle hbr hrg
    go_wp2_with (at_next; refine wpList_next_ranges wr rfl (.tmp 7) rfl 3 (int_keyed int3) heldR (Value.int .i64) (id : Value → Value) (fun key kl hk => by obtain ⟨x, rfl, _⟩ := Maps.keyOf_int_inv int3 hk; exact ⟨x, rfl⟩) heldR_inv9 M r c D left cnt (by rfl) HRG.out ?_ ?_)
    · intro _ _
      go_wp2_with fail
      go_ret
      exact ⟨rfl, HBR.out⟩
    · intro x v kl y1 y2 w3 cnt1 hkey hlk hRv hat hrg3 hlt3 hg3 hs3 hen
      obtain ⟨x', ex, rfl, hwx⟩ := Maps.keyOf_int_inv int3 hkey
      cases ex
      obtain ⟨hd1, hd2⟩ := HD.out x hwx
      have hh : ((t.of x).map (Value.int .i64)).isSome = true := by
        rw [← hd2]
        exact HLE.out _ hlk
      cases hof : t.of x with
      | none => rw [hof] at hh; cases hh
      | some n =>
        have hav : v = .int .i64 n := by
          have h1 := hat (.held v)
          have h2 := hd1 v
          rw [hof] at h2
          have h3 : D.atKey (.int .i64 x) (.held v) = .held (Value.int .i64 n) := h2
          rw [h3] at h1
          cases hRv
          have h1 : DataW.held (Value.int .i64 n) = DataW.held v := h1
          cases h1
          rfl
        subst hav
        have hn := HR.out x n hof
        have hn1 : ¬ n < 1 := by omega
        have hn2 : ¬ 1073741824 < n := by omega
        have hen : (Instr.entry (.pointer (some ⟨r, 0, none⟩))).run Tryd.prog w3 = .ok (.tuple #[.int .i64 x, .int .i64 n]) w3 := hen
        have HR3 := Lib.hid hrg3
        have HB3 := Lib.hid (HBR.out.grown hg3 HBR.out.size (fun j e => by cases e; exact HRW.out))
        have HL3 := Lib.hid hlt3
        clear hkey hlk hRv hat hrg3 hlt3 hg3 hs3 hh hof hd1 hd2 hn
        go_wp2_with fail
        go_roundw
        case rel => exact ⟨_, cnt1, HR3.out, fun kl h => HLE.out kl (by simp only [Bool.and_eq_true] at h; exact h.1), HB3.out⟩
        case measure => rw [HR3.out.left_eq, HRG.out.left_eq]; exact HL3.out
end Go.Proofs.YtpbknbnhljjjcaaDoor
