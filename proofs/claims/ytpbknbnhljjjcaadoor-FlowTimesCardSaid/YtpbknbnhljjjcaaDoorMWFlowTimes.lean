/- Texts of this proof, put together: GQ GS. -/
import Derived.Test.YtpbknbnhljjjcaaDoorML
import Derived.Deep.Grids
import Derived.BigQuiet
namespace Go.Proofs.YtpbknbnhljjjcaaDoor
open Go.RowKit Go.Maps Go.Lib Go.Deep
/-- A slice of integers that came in. -/
def RowIn (k : IntKind) (w : World) (a : Option Addr) (len cap : Nat) (zs : List Int) : Prop :=
  (a = none ∧ len = 0 ∧ cap = 0 ∧ zs = []) ∨
  ∃ x, a = some x ∧ len ≤ cap ∧ cap ≤ maxLen ∧ zs.length = cap ∧ (∀ i, i < zs.length → w.cell? (x.add i) = some (.int k (zs.getD i 0))) ∧ ∀ n ∈ zs, (Lit.int k n).wf = true
theorem cell_back {w w' : World} {p : Addr} {v : Value} (h : w.cell? p = some v) (hb : Below w.heap.size w w') : w'.cell? p = some v := by
  rw [hb.cell (p := p) ?_]
  · exact h
  · by_cases hl : p.block < w.heap.size
    · exact hl
    · simp [World.cell?, Array.getElem?_eq_none (Nat.le_of_not_lt hl)] at h
theorem RowIn.read {k : IntKind} {w w' : World} {a : Option Addr} {len cap : Nat} {zs : List Int} (h : RowIn k w a len cap zs) (hb : Below w.heap.size w w') {i : Nat} (hi : i < len) :
    ∃ x, a = some x ∧ len ≤ cap ∧ cap ≤ maxLen ∧ w'.cell? (x.add i) = some (.int k (zs.getD i 0)) ∧ (Lit.int k (zs.getD i 0)).wf = true := by
  rcases h with ⟨_, h, _⟩ | ⟨x, h1, h2, h3, h4, h5, h6⟩
  · omega
  · refine ⟨x, h1, h2, h3, cell_back (h5 i (by omega)) hb, h6 _ ?_⟩
    rw [List.getD_eq_getElem?_getD, List.getElem?_eq_getElem (by omega)]
    exact List.getElem_mem _
theorem RowIn.len {k : IntKind} {w : World} {a : Option Addr} {len cap : Nat} {zs : List Int} (h : RowIn k w a len cap zs) : len ≤ cap ∧ cap ≤ maxLen := by
  rcases h with ⟨_, h, h2, _⟩ | ⟨x, h1, h2, h3, _⟩
  · exact ⟨by omega, by unfold maxLen; omega⟩
  · exact ⟨h2, h3⟩
/-- A slice of bools that came in. -/
def BoolsIn (w : World) (a : Option Addr) (len cap : Nat) (B : Nat → Bool) : Prop :=
  (a = none ∧ len = 0 ∧ cap = 0) ∨ ∃ x, a = some x ∧ len ≤ cap ∧ cap ≤ maxLen ∧ ∀ i, i < cap → w.cell? (x.add i) = some (.bool (B i))
theorem BoolsIn.read {w w' : World} {a : Option Addr} {len cap : Nat} {B : Nat → Bool} (h : BoolsIn w a len cap B) (hb : Below w.heap.size w w') {i : Nat} (hi : i < len) :
    ∃ x, a = some x ∧ len ≤ cap ∧ cap ≤ maxLen ∧ w'.cell? (x.add i) = some (.bool (B i)) := by
  rcases h with ⟨_, h, _⟩ | ⟨x, h1, h2, h3, h4⟩
  · omega
  · exact ⟨x, h1, h2, h3, cell_back (h4 i (by omega)) hb⟩
theorem BoolsIn.len {w : World} {a : Option Addr} {len cap : Nat} {B : Nat → Bool} (h : BoolsIn w a len cap B) : len ≤ cap ∧ cap ≤ maxLen := by
  rcases h with ⟨_, h, h2⟩ | ⟨x, h1, h2, h3, _⟩
  · exact ⟨by omega, by unfold maxLen; omega⟩
  · exact ⟨h2, h3⟩
theorem open_boolsIn {H : Type} {enc : TypeId × Value → H} {w : World} {base : Nat} {held : Bool} {fuel : Nat} {a : Option Addr} {len cap : Nat} {x : DataW H × List MemPlace}
    (h : DataW.trod enc Tryd.prog w base (fun _ => true) held fuel 47 (Value.slice a len cap).cells.toList = some x) : ∃ B, BoolsIn w a len cap B := by
  rcases open_bools Tryd.underlying47 Tryd.underlying4 (by kernel_rfl) h with ⟨hc, _⟩ | ⟨y, l, c, B, hc, _, hl, hm, _, hx⟩
  · simp [Value.cells] at hc
    obtain ⟨rfl, rfl, rfl⟩ := hc
    exact ⟨fun _ => false, .inl ⟨rfl, rfl, rfl⟩⟩
  · simp [Value.cells] at hc
    obtain ⟨rfl, rfl, rfl⟩ := hc
    exact ⟨B, .inr ⟨y, rfl, hl, hm, hx⟩⟩
theorem step_le (s : Nat) (hs : 1 ≤ s ∧ s ≤ 7) (b : Bool) (z : Int) : (stepF s b z).1 ≤ 7 := by
  unfold stepF
  generalize fl z 4 = r
  generalize fl z 2 = y
  generalize fl z 16 = a
  generalize fl z 1 = f
  obtain rfl | rfl | rfl | rfl | rfl | rfl | rfl : s = 1 ∨ s = 2 ∨ s = 3 ∨ s = 4 ∨ s = 5 ∨ s = 6 ∨ s = 7 := by omega
  all_goals cases r <;> cases y <;> cases a <;> cases f <;> cases b <;> decide
theorem time_of (r x : Nat) (hx : 1 ≤ x ∧ x ≤ 7) : ∃ n : Nat, (cfR r).tm.of (x : Int) = some (n : Int) ∧ 1 ≤ n ∧ n ≤ 50 := by
  obtain rfl | rfl | rfl | rfl | rfl | rfl | rfl : x = 1 ∨ x = 2 ∨ x = 3 ∨ x = 4 ∨ x = 5 ∨ x = 6 ∨ x = 7 := by omega
  · exact ⟨5, rfl, by omega, by omega⟩
  · exact ⟨5, rfl, by omega, by omega⟩
  · exact ⟨50, rfl, by omega, by omega⟩
  · exact ⟨9, rfl, by omega, by omega⟩
  · exact ⟨9, rfl, by omega, by omega⟩
  · exact ⟨9, rfl, by omega, by omega⟩
  · exact ⟨7, rfl, by omega, by omega⟩
theorem fstep_tcp (s : Nat) (b : Bool) (z : Int) : fstep 6 s b z = stepF s b z := rfl
theorem u8_range {n : Int} (h : (Lit.int .u8 n).wf = true) : 0 ≤ n ∧ n < 256 := by
  simp [Lit.wf, IntKind.min, IntKind.max, IntKind.signed, IntKind.bits] at h
  omega
/-- A block of somebody's, and what lies in it. -/
def My (b : Nat) (o : Obj) (U : Nat → Prop) (W : World) : Prop := Mine b U W ∧ W.heap[b]? = some o
section
variable {pl : Pl} {c : Cf} {w : World} {g : FlG} {U : Nat → Prop} {W W' : World} {b : Nat} {o : Obj}
theorem My.new (h : Lv pl c w g U W) (o : Obj) : My W.heap.size o U (W.alloc o) := ⟨Mine.new h o, heap_alloc_new W o⟩
theorem My.below (h : My b o U W) (hb : Below W.heap.size W W') : My b o U W' := ⟨(h.1.below hb).1, (h.1.below hb).2.trans h.2⟩
theorem My.step {V : Nat → Prop} (h : My b o U W) (k2 : Only U W W') (k3 : ∀ i, V i → U i ∨ W.heap.size ≤ i) : My b o V W' := ⟨(h.1.step k2 k3).1, (h.1.step k2 k3).2.trans h.2⟩
end
end Go.Proofs.YtpbknbnhljjjcaaDoor

namespace Go.Proofs.YtpbknbnhljjjcaaDoor
open Go.RowKit Go.Maps Go.Lib
theorem fstep_a : fstep 6 1 true 18 = (2, true) := by kernel_rfl
theorem fstep_b : fstep 6 2 false 16 = (3, true) := by kernel_rfl
theorem fstep_c (b : Bool) : fstep 6 3 b 24 = (3, true) := by cases b <;> kernel_rfl
set_option maxRecDepth 100000 in
set_option maxHeartbeats 16000000 in
theorem walk_FlowTimes (a0 : Option Addr) (len0 cap0 : Nat) (z0 : List Int) (a1 : Option Addr) (len1 cap1 : Nat) (z1 : Nat → Bool) (w : World) (w0 : RowIn .u8 w a0 len0 cap0 z0) (w1 : BoolsIn w a1 len1 cap1 z1) (hE : TabAt 0 Lib.deBruijn64tab w ∧ 0 < w.heap.size) :
    Calls Tryd.prog 5 #[.slice a0 len0 cap0, .slice a1 len1 cap1] w fun e w' => e = .returned (.bool true) ∧ Below w.heap.size w w' := by
  have HEX := Lib.hid (examples_ok w hE)
  have HPL := Lib.hid (fun (W : World) => plain_ok 3 W)
  have HNW := Lib.hid (fun (W : World) (hb : Below w.heap.size w W) => (show Calls Tryd.prog 12 #[.agg #[.int .i64 3, .int .i64 1000, .int .i64 4, .int .i64 10, .int .i64 5, .int .i64 50, .int .i64 9, .int .i64 7, .int .i64 20]] W _ from new_plain 3 (by omega) w W hb))
  have HCL := Lib.hid (fun (W : World) => (show Calls Tryd.prog 16 #[.int .u16 1] W fun e w' => e = .returned (.agg #[.int .i64 6, .int .u32 1, .int .u32 99, .int .i64 1, .int .i64 80]) ∧ Below W.heap.size W w' from client_ok 1 (by omega) W))
  have HOP := Lib.hid (show ∀ (pl : Pl) (U : Nat → Prop) (W : World), Lv pl (cfR 3) w g0 U W → Calls Tryd.prog 15 #[.pointer (some ⟨pl.F, 0, none⟩), .agg #[.int .i64 6, .int .u32 1, .int .u32 99, .int .i64 1, .int .i64 80], .int .i64 1, .int .u32 7, .agg #[.int .i64 1, .int .u32 5, .int .i64 80], .int .i64 2] W fun e w' => e = .returned (.tuple #[.int .i64 1, .int .i64 0]) ∧ ∃ g' V, One (cfR 3) g' (⟨⟨6, 1, 99, 1, 80⟩, ⟨6, 7, 5, 1000, 80⟩, 1, 1, ((1 : Nat) : Int), false⟩ : Fw) 5 ∧ g'.now = 0 ∧ g'.o = 1 ∧ Lv pl (cfR 3) w g' V w' from fun pl U W k => by
    obtain ⟨z1, z2⟩ := k.tab hE
    refine (open_one k.fl z1 z2 ⟨by decide, by decide, by decide, by decide, by decide⟩ 1 7 1 5 80 2 (by omega) (by omega) (by omega) 1 fstep_syn 5 (by decide) rfl (by omega) (by omega) (by decide) (by decide) (by decide)).mono ?_
    rintro e w' ⟨rfl, g', h1, h2, h3, ht⟩
    obtain ⟨V, k1, _, _⟩ := k.step ht
    exact ⟨rfl, g', V, h1, h2, h3, k1⟩)
  have HTA := Lib.hid (show ∀ (pl : Pl) (g : FlG) (U : Nat → Prop) (W : World), Lv pl (cfR 3) w g U W → One (cfR 3) g (⟨⟨6, 1, 99, 1, 80⟩, ⟨6, 7, 5, 1000, 80⟩, 1, 1, ((1 : Nat) : Int), false⟩ : Fw) 5 → g.now = 0 → g.o = 1 → Calls Tryd.prog 18 #[.pointer (some ⟨pl.F, 0, none⟩), .int .i64 1, .bool true, .int .i64 18] W fun e w' => e = .returned (.int .i64 0) ∧ ∃ g' V, One (cfR 3) g' (⟨⟨6, 1, 99, 1, 80⟩, ⟨6, 7, 5, 1000, 80⟩, 1, 1, ((2 : Nat) : Int), false⟩ : Fw) 5 ∧ g'.now = 0 ∧ g'.o = 2 ∧ Lv pl (cfR 3) w g' V w' from fun pl g U W k o hn ho => by
    refine (touch_stay k.fl o 1 (by omega) rfl true 18 2 fstep_a (by omega) 5 (by decide) rfl (by omega) (by omega) (by omega) (by omega)).mono ?_
    rintro e w' ⟨rfl, g', h1, h2, h3, ht⟩
    obtain ⟨V, k1, _, _⟩ := k.step ht
    rw [hn] at h1 h2
    rw [ho] at h3
    rw [Nat.min_eq_left (by omega), Nat.zero_add] at h1
    exact ⟨rfl, g', V, h1, h2, h3, k1⟩)
  have HTB := Lib.hid (show ∀ (pl : Pl) (g : FlG) (U : Nat → Prop) (W : World), Lv pl (cfR 3) w g U W → One (cfR 3) g (⟨⟨6, 1, 99, 1, 80⟩, ⟨6, 7, 5, 1000, 80⟩, 1, 1, ((2 : Nat) : Int), false⟩ : Fw) 5 → g.now = 0 → g.o = 2 → Calls Tryd.prog 18 #[.pointer (some ⟨pl.F, 0, none⟩), .int .i64 1, .bool false, .int .i64 16] W fun e w' => e = .returned (.int .i64 0) ∧ ∃ g' V, One (cfR 3) g' (⟨⟨6, 1, 99, 1, 80⟩, ⟨6, 7, 5, 1000, 80⟩, 1, 1, ((3 : Nat) : Int), false⟩ : Fw) 50 ∧ g'.now = 0 ∧ g'.o = 3 ∧ Lv pl (cfR 3) w g' V w' from fun pl g U W k o hn ho => by
    refine (touch_stay k.fl o 2 (by omega) rfl false 16 3 fstep_b (by omega) 50 (by decide) rfl (by omega) (by omega) (by omega) (by omega)).mono ?_
    rintro e w' ⟨rfl, g', h1, h2, h3, ht⟩
    obtain ⟨V, k1, _, _⟩ := k.step ht
    rw [hn] at h1 h2
    rw [ho] at h3
    rw [Nat.min_eq_left (by omega), Nat.zero_add] at h1
    exact ⟨rfl, g', V, h1, h2, h3, k1⟩)
  have HTC := Lib.hid (show ∀ (pl : Pl) (g : FlG) (U : Nat → Prop) (W : World), Lv pl (cfR 3) w g U W → ∀ t, One (cfR 3) g (⟨⟨6, 1, 99, 1, 80⟩, ⟨6, 7, 5, 1000, 80⟩, 1, 1, ((3 : Nat) : Int), false⟩ : Fw) t → g.now < 100000 → g.o < 100000 → ∀ b : Bool, Calls Tryd.prog 18 #[.pointer (some ⟨pl.F, 0, none⟩), .int .i64 1, .bool b, .int .i64 24] W fun e w' => e = .returned (.int .i64 0) ∧ ∃ g' V, One (cfR 3) g' (⟨⟨6, 1, 99, 1, 80⟩, ⟨6, 7, 5, 1000, 80⟩, 1, 1, ((3 : Nat) : Int), false⟩ : Fw) (g.now + 50) ∧ g'.now = g.now ∧ g'.o = g.o + 1 ∧ Lv pl (cfR 3) w g' V w' from fun pl g U W k t o hn ho b => by
    refine (touch_stay k.fl o 3 (by omega) rfl b 24 3 (fstep_c b) (by omega) 50 (by decide) rfl (by omega) (by omega) (by omega) (by omega)).mono ?_
    rintro e w' ⟨rfl, g', h1, h2, h3, ht⟩
    obtain ⟨V, k1, _, _⟩ := k.step ht
    rw [Nat.min_eq_left (by omega)] at h1
    exact ⟨rfl, g', V, h1, h2, h3, k1⟩)
  have HAS := Lib.hid (show ∀ (pl : Pl) (g : FlG) (U : Nat → Prop) (W : World), Lv pl (cfR 3) w g U W → One (cfR 3) g (⟨⟨6, 1, 99, 1, 80⟩, ⟨6, 7, 5, 1000, 80⟩, 1, 1, ((3 : Nat) : Int), false⟩ : Fw) (g.now + 50) → g.now < 100000 → ∀ n : Int, 0 ≤ n ∧ n < 50 → Calls Tryd.prog 19 #[.pointer (some ⟨pl.F, 0, none⟩), .int .i64 n] W fun e w' => ∃ p cap g' V, e = .returned (.slice p 0 cap) ∧ One (cfR 3) g' (⟨⟨6, 1, 99, 1, 80⟩, ⟨6, 7, 5, 1000, 80⟩, 1, 1, ((3 : Nat) : Int), false⟩ : Fw) (g.now + 50) ∧ (g'.now : Int) = g.now + n ∧ g'.o = g.o ∧ Lv pl (cfR 3) w g' V w' ∧ Only U W w' ∧ ∀ i, V i → U i ∨ W.heap.size ≤ i from fun pl g U W k o hn n hb => by
    obtain ⟨z1, z2⟩ := k.tab hE
    obtain ⟨te, hte⟩ : ∃ te : Nat, (te : Int) = g.now + n := ⟨(g.now + n).toNat, by omega⟩
    refine (adv_stay k.fl z1 z2 o n (by omega) (by omega) te (by omega) (by omega)).mono ?_
    rintro e w' ⟨v, g', V, rfl, h1, h2, h3, h4, h5⟩
    obtain ⟨p, cap, rfl, _⟩ := row_form h5.1
    exact ⟨p, cap, g', V, rfl, h1, by rw [h2]; exact hte, h3, k.turn h4.fl h4.on h4.new, h4.on, h4.new⟩)
  have HAD := Lib.hid (show ∀ (pl : Pl) (g : FlG) (U : Nat → Prop) (W : World), Lv pl (cfR 3) w g U W → ∀ t, One (cfR 3) g (⟨⟨6, 1, 99, 1, 80⟩, ⟨6, 7, 5, 1000, 80⟩, 1, 1, ((3 : Nat) : Int), false⟩ : Fw) t → g.now < 100000 → t = g.now + 1 → Calls Tryd.prog 19 #[.pointer (some ⟨pl.F, 0, none⟩), .int .i64 1] W fun e w' => ∃ gb cap g' V, e = .returned (.slice (some ⟨gb, 0, none⟩) 1 cap) ∧ Gone g' ∧ Lv pl (cfR 3) w g' V w' ∧ (Only U W w' ∧ ∀ i, V i → U i ∨ W.heap.size ≤ i) ∧ ∀ W', Below w'.heap.size w' W' → (W'.cell? ⟨gb, 0, none⟩ = some (.int .i64 6) ∧ W'.cell? ⟨gb, 1, none⟩ = some (.int .u32 1) ∧ W'.cell? ⟨gb, 2, none⟩ = some (.int .u32 99) ∧ W'.cell? ⟨gb, 3, none⟩ = some (.int .i64 1) ∧ W'.cell? ⟨gb, 4, none⟩ = some (.int .i64 80) ∧ W'.cell? ⟨gb, 5, none⟩ = some (.int .i64 6) ∧ W'.cell? ⟨gb, 6, none⟩ = some (.int .u32 7) ∧ W'.cell? ⟨gb, 7, none⟩ = some (.int .u32 5) ∧ W'.cell? ⟨gb, 8, none⟩ = some (.int .i64 1000) ∧ W'.cell? ⟨gb, 9, none⟩ = some (.int .i64 80) ∧ W'.cell? ⟨gb, 10, none⟩ = some (.int .i64 1) ∧ W'.cell? ⟨gb, 11, none⟩ = some (.int .i64 1) ∧ W'.cell? ⟨gb, 12, none⟩ = some (.int .i64 3) ∧ W'.cell? ⟨gb, 13, none⟩ = some (.bool false)) from fun pl g U W k t o hn ht => by
    obtain ⟨z1, z2⟩ := k.tab hE
    refine (adv_due k.fl z1 z2 o 1 (by omega) (by omega) (by decide) (g.now + 1) (by omega) (by omega) (by omega)).mono ?_
    rintro e w' ⟨v, g', V, rfl, h1, h2, h4, h5⟩
    obtain ⟨p, cap, rfl, _⟩ := row_form h5.1
    obtain ⟨gb, rfl⟩ := row_some h5.1 (by omega)
    exact ⟨gb, cap, g', V, rfl, h1, k.turn h4.fl h4.on h4.new, ⟨h4.on, h4.new⟩, fun W' hb => ⟨cell_back (rown_at h5.1 (i := 0) rfl) hb, cell_back (rown_at h5.1 (i := 1) rfl) hb, cell_back (rown_at h5.1 (i := 2) rfl) hb, cell_back (rown_at h5.1 (i := 3) rfl) hb, cell_back (rown_at h5.1 (i := 4) rfl) hb, cell_back (rown_at h5.1 (i := 5) rfl) hb, cell_back (rown_at h5.1 (i := 6) rfl) hb, cell_back (rown_at h5.1 (i := 7) rfl) hb, cell_back (rown_at h5.1 (i := 8) rfl) hb, cell_back (rown_at h5.1 (i := 9) rfl) hb, cell_back (rown_at h5.1 (i := 10) rfl) hb, cell_back (rown_at h5.1 (i := 11) rfl) hb, cell_back (rown_at h5.1 (i := 12) rfl) hb, cell_back (rown_at h5.1 (i := 13) rfl) hb⟩⟩)
  have HGT := Lib.hid (show ∀ (pl : Pl) (g : FlG) (U : Nat → Prop) (W : World), Lv pl (cfR 3) w g U W → ∀ t, One (cfR 3) g (⟨⟨6, 1, 99, 1, 80⟩, ⟨6, 7, 5, 1000, 80⟩, 1, 1, ((3 : Nat) : Int), false⟩ : Fw) t → Calls Tryd.prog 20 #[.pointer (some ⟨pl.F, 0, none⟩), .int .i64 1] W fun e w' => e = .returned (.tuple #[.agg #[.int .i64 6, .int .u32 1, .int .u32 99, .int .i64 1, .int .i64 80, .int .i64 6, .int .u32 7, .int .u32 5, .int .i64 1000, .int .i64 80, .int .i64 1, .int .i64 1, .int .i64 3, .bool false], .bool true]) ∧ Below W.heap.size W w' from fun pl g U W k t o => get_one k.fl o)
  have HGG := Lib.hid (show ∀ (pl : Pl) (g : FlG) (U : Nat → Prop) (W : World), Lv pl (cfR 3) w g U W → Gone g → Calls Tryd.prog 20 #[.pointer (some ⟨pl.F, 0, none⟩), .int .i64 1] W fun e w' => e = .returned (.tuple #[.agg #[.int .i64 0, .int .u32 0, .int .u32 0, .int .i64 0, .int .i64 0, .int .i64 0, .int .u32 0, .int .u32 0, .int .i64 0, .int .i64 0, .int .i64 0, .int .i64 0, .int .i64 0, .bool false], .bool false]) ∧ Below W.heap.size W w' from fun pl g U W k o => get_gone k.fl o)
  have HLG := Lib.hid (show ∀ (pl : Pl) (g : FlG) (U : Nat → Prop) (W : World), Lv pl (cfR 3) w g U W → Gone g → Calls Tryd.prog 17 #[.pointer (some ⟨pl.F, 0, none⟩)] W fun e w' => e = .returned (.int .i64 0) ∧ w' = W from fun pl g U W k o => by
    have h0 := len_fl k.fl
    rw [o.n] at h0
    exact h0)
  have hl0 := w0.len
  have hl1 := w1.len
  have HR0 := Lib.hid w0
  have HR1 := Lib.hid w1
  clear hE w0 w1
  go_enter Tryd.func5, Tryd.ntmps5
  go_upto_region 4 with (go_at_call 11; refine HEX.out.mono ?_; rintro e wa ⟨rfl, hb⟩; have HB0 := Lib.hid hb; clear hb)
  go_upto_region 5 with (first
    | (go_at_call 14; refine (HPL.out _).mono ?_; rintro e wb ⟨rfl, hb⟩; have HB1 := Lib.hid (HB0.out.trans (hb.mono HB0.out.size)); clear hb)
    | (go_at_call 12; refine (HNW.out _ HB1.out).mono ?_; rintro e w2 ⟨pl, U2, rfl, k⟩; have HL2 := Lib.hid k; clear k))
  go_upto_region 8 with (first
    | (go_at_call 16; refine (HCL.out _).mono ?_; rintro e w3 ⟨rfl, hb⟩; have HL3 := Lib.hid (HL2.out.below hb); clear hb)
    | (go_at_call 15; refine (HOP.out _ _ _ HL3.out).mono ?_; rintro e w4 ⟨rfl, g4, U4, o4, n4, m4, k4⟩; have HO4 := Lib.hid o4; have HN4 := Lib.hid n4; have HM4 := Lib.hid m4; have HL4 := Lib.hid k4; clear o4 n4 m4 k4))
  go_wp2_with fail
  refine (HTA.out _ _ _ _ HL4.out HO4.out HN4.out HM4.out).mono ?_
  rintro e w5 ⟨rfl, g5, U5, o5, n5, m5, k5⟩
  have HO5 := Lib.hid o5
  have HN5 := Lib.hid n5
  have HM5 := Lib.hid m5
  have HL5 := Lib.hid k5
  clear o5 n5 m5 k5
  go_wp2_with fail
  refine (HTB.out _ _ _ _ HL5.out HO5.out HN5.out HM5.out).mono ?_
  rintro e w6 ⟨rfl, g6, U6, o6, n6, m6, k6⟩
  have HO6 := Lib.hid o6
  have HN6 := Lib.hid n6
  have HM6 := Lib.hid m6
  have HL6 := Lib.hid k6
  clear o6 n6 m6 k6
  go_wp2_with fail
  go_loopw [10] (fun vi wr => ∃ (k : Nat) (g : FlG) (U : Nat → Prop), vi = .int .i64 (k : Int) ∧ k ≤ 20 ∧ Lv pl (cfR 3) w g U wr ∧ One (cfR 3) g (⟨⟨6, 1, 99, 1, 80⟩, ⟨6, 7, 5, 1000, 80⟩, 1, 1, ((3 : Nat) : Int), false⟩ : Fw) (g.now + 50) ∧ g.now ≤ 50 * k ∧ g.o ≤ k + 3) (fun vi _ => 20 - (intOf vi).toNat)
  case atStart => exact ⟨0, g6, U6, rfl, by omega, HL6.out, by rw [HN6.out]; exact HO6.out, by rw [HN6.out]; omega, by rw [HM6.out]; omega⟩
  case round =>
    obtain ⟨k, g, U, rfl, hk, hlv, hone, hnow, hgo⟩ := hrel
    have HLV := Lib.hid hlv
    have HONE := Lib.hid hone
    have HNOW := Lib.hid hnow
    have HGO := Lib.hid hgo
    clear hlv hone hnow hgo
    by_cases h0 : k < len0 ∧ k < 20
    · obtain ⟨h0, h20⟩ := h0
      obtain ⟨x0, rfl, q1, q2, c0, q3⟩ := HR0.out.read HLV.out.bel h0
      obtain ⟨z, hz⟩ : ∃ z, z0.getD k 0 = z := ⟨_, rfl⟩
      rw [hz] at c0 q3
      have hzr := u8_range q3
      obtain ⟨m, hm⟩ : ∃ m, z % 50 = m := ⟨_, rfl⟩
      have hmr : 0 ≤ m ∧ m < 50 := by omega
      have htm : z.tmod 50 = m := by rw [Int.tmod_eq_emod_of_nonneg hzr.1]; exact hm
      have hmw : wrap64 m = m := by unfold wrap64; omega
      have hmw8 : IntKind.u8.wrap m = m := by simp [IntKind.wrap, IntKind.bits, IntKind.signed]; omega
      have HAV := Lib.hid (HAS.out _ _ _ _ HLV.out HONE.out (by have := HNOW.out; omega) m hmr)
      have HMR := Lib.hid hmr
      clear hz q3
      go_upto_region 14 with (go_at_call 19; refine HAV.out.mono ?_; rintro e wd ⟨pd, capd, gd, Ud, rfl, od, nd, md, kd, _, _⟩; have HOd := Lib.hid od; have HNd := Lib.hid nd; have HMd := Lib.hid md; have HLd := Lib.hid kd; clear od nd md kd)
      clear c0
      have HFN := Lib.hid (show ∀ (ge : FlG) (Ue : Nat → Prop) (we : World), One (cfR 3) ge (⟨⟨6, 1, 99, 1, 80⟩, ⟨6, 7, 5, 1000, 80⟩, 1, 1, ((3 : Nat) : Int), false⟩ : Fw) (gd.now + 50) → ge.now = gd.now → ge.o = gd.o + 1 → Lv pl (cfR 3) w ge Ue we → (∃ (k' : Nat) (g : FlG) (U : Nat → Prop), Value.int .i64 ((k : Int) + 1) = .int .i64 (k' : Int) ∧ k' ≤ 20 ∧ Lv pl (cfR 3) w g U we ∧ One (cfR 3) g (⟨⟨6, 1, 99, 1, 80⟩, ⟨6, 7, 5, 1000, 80⟩, 1, 1, ((3 : Nat) : Int), false⟩ : Fw) (g.now + 50) ∧ g.now ≤ 50 * k' ∧ g.o ≤ k' + 3) from fun ge Ue we o1 n1 m1 k1 => by
        have e1 := HNd.out
        have e2 := HMd.out
        have e3 := HNOW.out
        have e4 := HGO.out
        have e5 := HMR.out
        exact ⟨k + 1, ge, Ue, by go_num, by omega, k1, by rw [n1]; exact o1, by omega, by omega⟩)
      have HND := Lib.hid (show gd.now < 100000 ∧ gd.o < 100000 from by
        have e1 := HNd.out
        have e2 := HMd.out
        have e3 := HNOW.out
        have e4 := HGO.out
        have e5 := HMR.out
        omega)
      clear hm hmr htm hmw hmw8
      by_cases h1 : k < len1
      · obtain ⟨x1, rfl, r1, r2, c1⟩ := HR1.out.read HLd.out.bel h1
        obtain ⟨b, hb1⟩ : ∃ b, z1 k = b := ⟨_, rfl⟩
        rw [hb1] at c1
        clear hb1
        have HTT := Lib.hid (HTC.out _ _ _ _ HLd.out _ HOd.out HND.out.1 HND.out.2 b)
        go_wp2_with (go_at_call 18; refine HTT.out.mono ?_; rintro e we ⟨rfl, ge, Ue, oe, ne, me, ke⟩; have HE := Lib.hid (HFN.out ge Ue we oe ne me ke); clear oe ne me ke)
        exact ⟨HE.out, by simp [intOf]; omega⟩
      · have HTT := Lib.hid (HTC.out _ _ _ _ HLd.out _ HOd.out HND.out.1 HND.out.2 false)
        go_wp2_with (go_at_call 18; refine HTT.out.mono ?_; rintro e we ⟨rfl, ge, Ue, oe, ne, me, ke⟩; have HE := Lib.hid (HFN.out ge Ue we oe ne me ke); clear oe ne me ke)
        exact ⟨HE.out, by simp [intOf]; omega⟩
    · have HEND : RowKit.Hid (∀ P : Prop, (k < len0 → ¬ k < 20 → P) → (¬ k < len0 → P) → P) := Lib.hid (fun P p1 p2 => by
        by_cases e : k < len0
        · exact p1 e (fun e2 => h0 ⟨e, e2⟩)
        · exact p2 e)
      clear h0
      have HND := Lib.hid (show g.now < 50000 from by have := HNOW.out; omega)
      refine HEND.out _ (fun h1 h2 => ?_) (fun h1 => ?_)
      all_goals
        go_upto_region 16 with fail
        go_upto_region 17 with (go_at_call 20; refine (HGT.out _ _ _ _ HLV.out _ HONE.out).mono ?_; rintro e w7 ⟨rfl, hb⟩; have HL7 := Lib.hid (HLV.out.below hb); clear hb)
        obtain ⟨bf, hbf⟩ : ∃ bf, w7.heap.size = bf := ⟨_, rfl⟩
        have k8 := HL7.out.below ((Below.refl _ w7).alloc (Nat.le_refl _) (.cells #[.int .i64 6, .int .u32 1, .int .u32 99, .int .i64 1, .int .i64 80, .int .i64 6, .int .u32 7, .int .u32 5, .int .i64 1000, .int .i64 80, .int .i64 1, .int .i64 1, .int .i64 3, .bool false] 52))
        have m8 := My.new HL7.out (.cells #[.int .i64 6, .int .u32 1, .int .u32 99, .int .i64 1, .int .i64 80, .int .i64 6, .int .u32 7, .int .u32 5, .int .i64 1000, .int .i64 80, .int .i64 1, .int .i64 1, .int .i64 3, .bool false] 52)
        rw [hbf] at m8 ⊢
        revert k8 m8
        generalize w7.alloc (.cells #[.int .i64 6, .int .u32 1, .int .u32 99, .int .i64 1, .int .i64 80, .int .i64 6, .int .u32 7, .int .u32 5, .int .i64 1000, .int .i64 80, .int .i64 1, .int .i64 1, .int .i64 3, .bool false] 52) = w8
        intro k8 m8
        have HL8 := Lib.hid k8
        have HF8 := Lib.hid m8
        clear k8 m8 hbf
        have HA1 := Lib.hid (HAS.out _ _ _ _ HL8.out HONE.out (by have := HND.out; omega) 49 (by omega))
        go_upto_region 18 with (go_at_call 19; refine HA1.out.mono ?_; rintro e w9 ⟨p9, cap9, g9, U9, rfl, o9, n9, m9, k9, q9, r9⟩; have HO9 := Lib.hid o9; have HN9 := Lib.hid n9; have HL9 := Lib.hid k9; have HF9 := Lib.hid (HF8.out.step q9 r9); clear o9 n9 m9 k9 q9 r9)
        have HA2 := Lib.hid (HAD.out _ _ _ _ HL9.out _ HO9.out (by have := HN9.out; have := HND.out; omega) (by have := HN9.out; omega))
        go_upto_region 19 with (go_at_call 19; refine HA2.out.mono ?_; rintro e wA ⟨gb, capA, gA, UA, rfl, oA, kA, ⟨qA, rA⟩, xA⟩; have HOA := Lib.hid oA; have HLA := Lib.hid kA; have HFA := Lib.hid (HF9.out.step qA rA); have HXA := Lib.hid xA; clear oA kA qA rA xA)
        go_upto_region 20 with (go_at_call 20; refine (HGG.out _ _ _ _ HLA.out HOA.out).mono ?_; rintro e wB ⟨rfl, hb⟩; have HLB := Lib.hid (HLA.out.below hb); have HFB := Lib.hid (HFA.out.below hb); have HBB := Lib.hid hb; clear hb)
        have kC := HLB.out.below ((Below.refl _ wB).alloc (Nat.le_refl _) (.cells #[.int .i64 0, .int .u32 0, .int .u32 0, .int .i64 0, .int .i64 0, .int .i64 0, .int .u32 0, .int .u32 0, .int .i64 0, .int .i64 0, .int .i64 0, .int .i64 0, .int .i64 0, .bool false] 52))
        have fC := HFB.out.below ((Below.refl _ wB).alloc (Nat.le_refl _) (.cells #[.int .i64 0, .int .u32 0, .int .u32 0, .int .i64 0, .int .i64 0, .int .i64 0, .int .u32 0, .int .u32 0, .int .i64 0, .int .i64 0, .int .i64 0, .int .i64 0, .int .i64 0, .bool false] 52))
        have xC := HXA.out _ (HBB.out.alloc HBB.out.size (.cells #[.int .i64 0, .int .u32 0, .int .u32 0, .int .i64 0, .int .i64 0, .int .i64 0, .int .u32 0, .int .u32 0, .int .i64 0, .int .i64 0, .int .i64 0, .int .i64 0, .int .i64 0, .bool false] 52))
        revert kC fC xC
        generalize wB.alloc (.cells #[.int .i64 0, .int .u32 0, .int .u32 0, .int .i64 0, .int .i64 0, .int .i64 0, .int .u32 0, .int .u32 0, .int .i64 0, .int .i64 0, .int .i64 0, .int .i64 0, .int .i64 0, .bool false] 52) = wC
        intro kC fC xC
        have HLC := Lib.hid kC
        obtain ⟨l0, l1, l2, l3, l4, l5, l6, l7, l8, l9, lA, lB, lC, lD⟩ := xC
        have eC := fC.2
        have HFC := Lib.hid (show ∀ W : World, W.heap[bf]? = some (.cells #[.int .i64 6, .int .u32 1, .int .u32 99, .int .i64 1, .int .i64 80, .int .i64 6, .int .u32 7, .int .u32 5, .int .i64 1000, .int .i64 80, .int .i64 1, .int .i64 1, .int .i64 3, .bool false] 52) → (W.cell? ⟨bf, 0, none⟩ = some (.int .i64 6) ∧ W.cell? ⟨bf, 1, none⟩ = some (.int .u32 1) ∧ W.cell? ⟨bf, 2, none⟩ = some (.int .u32 99) ∧ W.cell? ⟨bf, 3, none⟩ = some (.int .i64 1) ∧ W.cell? ⟨bf, 4, none⟩ = some (.int .i64 80) ∧ W.cell? ⟨bf, 5, none⟩ = some (.int .i64 6) ∧ W.cell? ⟨bf, 6, none⟩ = some (.int .u32 7) ∧ W.cell? ⟨bf, 7, none⟩ = some (.int .u32 5) ∧ W.cell? ⟨bf, 8, none⟩ = some (.int .i64 1000) ∧ W.cell? ⟨bf, 9, none⟩ = some (.int .i64 80) ∧ W.cell? ⟨bf, 10, none⟩ = some (.int .i64 1) ∧ W.cell? ⟨bf, 11, none⟩ = some (.int .i64 1) ∧ W.cell? ⟨bf, 12, none⟩ = some (.int .i64 3) ∧ W.cell? ⟨bf, 13, none⟩ = some (.bool false)) from fun W e => by
          refine ⟨?_, ?_, ?_, ?_, ?_, ?_, ?_, ?_, ?_, ?_, ?_, ?_, ?_, ?_⟩ <;> simp [World.cell?, e])
        obtain ⟨v0, v1, v2, v3, v4, v5, v6, v7, v8, v9, vA, vB, vC, vD⟩ := HFC.out _ eC
        clear kC fC eC
        go_quiet ((go_at_call 17; exact Calls.quiet_of_same (HLG.out _ _ _ _ (HLC.out.below (below_drewN (Below.refl _ wC) _)) HOA.out)))
        go_wp2_with fail
        go_ret
        exact ⟨rfl, HLC.out.bel.trans ⟨rfl, rfl, rfl, Nat.le_refl _, fun _ _ => rfl⟩⟩
end Go.Proofs.YtpbknbnhljjjcaaDoor
