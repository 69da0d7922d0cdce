/- Texts of this proof, put together: GQ GR. -/
import Derived.Test.YtpbknbnhljjjcaaDoorML
import Derived.Deep.Grids
namespace Go.Proofs.YtpbknbnhljjjcaaDoor
open Go.RowKit Go.Maps Go.Lib Go.Deep
/-- A slice of integers that came in. -/
def RowIn (k : IntKind) (w : World) (a : Option Addr) (len cap : Nat) (zs : List Int) : Prop :=
  (a = none ∧ len = 0 ∧ cap = 0 ∧ zs = []) ∨
  ∃ x, a = some x ∧ len ≤ cap ∧ cap ≤ maxLen ∧ zs.length = cap ∧ (∀ i, i < zs.length → w.cell? (x.add i) = some (.int k (zs.getD i 0))) ∧ ∀ n ∈ zs, (Lit.int k n).wf = true
theorem cell_back {w w' : World} {p : Addr} {v : Value} (h : w.cell? p = some v) (hb : Below w.heap.size w w') : w'.cell? p = some v := by
  rw [hb.cell (p := p) ?_]
  · exact h
  · by_cases hl : p.block < w.heap.size
    · exact hl
    · simp [World.cell?, Array.getElem?_eq_none (Nat.le_of_not_lt hl)] at h
theorem RowIn.read {k : IntKind} {w w' : World} {a : Option Addr} {len cap : Nat} {zs : List Int} (h : RowIn k w a len cap zs) (hb : Below w.heap.size w w') {i : Nat} (hi : i < len) :
    ∃ x, a = some x ∧ len ≤ cap ∧ cap ≤ maxLen ∧ w'.cell? (x.add i) = some (.int k (zs.getD i 0)) ∧ (Lit.int k (zs.getD i 0)).wf = true := by
  rcases h with ⟨_, h, _⟩ | ⟨x, h1, h2, h3, h4, h5, h6⟩
  · omega
  · refine ⟨x, h1, h2, h3, cell_back (h5 i (by omega)) hb, h6 _ ?_⟩
    rw [List.getD_eq_getElem?_getD, List.getElem?_eq_getElem (by omega)]
    exact List.getElem_mem _
theorem RowIn.len {k : IntKind} {w : World} {a : Option Addr} {len cap : Nat} {zs : List Int} (h : RowIn k w a len cap zs) : len ≤ cap ∧ cap ≤ maxLen := by
  rcases h with ⟨_, h, h2, _⟩ | ⟨x, h1, h2, h3, _⟩
  · exact ⟨by omega, by unfold maxLen; omega⟩
  · exact ⟨h2, h3⟩
/-- A slice of bools that came in. -/
def BoolsIn (w : World) (a : Option Addr) (len cap : Nat) (B : Nat → Bool) : Prop :=
  (a = none ∧ len = 0 ∧ cap = 0) ∨ ∃ x, a = some x ∧ len ≤ cap ∧ cap ≤ maxLen ∧ ∀ i, i < cap → w.cell? (x.add i) = some (.bool (B i))
theorem BoolsIn.read {w w' : World} {a : Option Addr} {len cap : Nat} {B : Nat → Bool} (h : BoolsIn w a len cap B) (hb : Below w.heap.size w w') {i : Nat} (hi : i < len) :
    ∃ x, a = some x ∧ len ≤ cap ∧ cap ≤ maxLen ∧ w'.cell? (x.add i) = some (.bool (B i)) := by
  rcases h with ⟨_, h, _⟩ | ⟨x, h1, h2, h3, h4⟩
  · omega
  · exact ⟨x, h1, h2, h3, cell_back (h4 i (by omega)) hb⟩
theorem BoolsIn.len {w : World} {a : Option Addr} {len cap : Nat} {B : Nat → Bool} (h : BoolsIn w a len cap B) : len ≤ cap ∧ cap ≤ maxLen := by
  rcases h with ⟨_, h, h2⟩ | ⟨x, h1, h2, h3, _⟩
  · exact ⟨by omega, by unfold maxLen; omega⟩
  · exact ⟨h2, h3⟩
theorem open_boolsIn {H : Type} {enc : TypeId × Value → H} {w : World} {base : Nat} {held : Bool} {fuel : Nat} {a : Option Addr} {len cap : Nat} {x : DataW H × List MemPlace}
    (h : DataW.trod enc Tryd.prog w base (fun _ => true) held fuel 47 (Value.slice a len cap).cells.toList = some x) : ∃ B, BoolsIn w a len cap B := by
  rcases open_bools Tryd.underlying47 Tryd.underlying4 (by kernel_rfl) h with ⟨hc, _⟩ | ⟨y, l, c, B, hc, _, hl, hm, _, hx⟩
  · simp [Value.cells] at hc
    obtain ⟨rfl, rfl, rfl⟩ := hc
    exact ⟨fun _ => false, .inl ⟨rfl, rfl, rfl⟩⟩
  · simp [Value.cells] at hc
    obtain ⟨rfl, rfl, rfl⟩ := hc
    exact ⟨B, .inr ⟨y, rfl, hl, hm, hx⟩⟩
theorem step_le (s : Nat) (hs : 1 ≤ s ∧ s ≤ 7) (b : Bool) (z : Int) : (stepF s b z).1 ≤ 7 := by
  unfold stepF
  generalize fl z 4 = r
  generalize fl z 2 = y
  generalize fl z 16 = a
  generalize fl z 1 = f
  obtain rfl | rfl | rfl | rfl | rfl | rfl | rfl : s = 1 ∨ s = 2 ∨ s = 3 ∨ s = 4 ∨ s = 5 ∨ s = 6 ∨ s = 7 := by omega
  all_goals cases r <;> cases y <;> cases a <;> cases f <;> cases b <;> decide
theorem time_of (r x : Nat) (hx : 1 ≤ x ∧ x ≤ 7) : ∃ n : Nat, (cfR r).tm.of (x : Int) = some (n : Int) ∧ 1 ≤ n ∧ n ≤ 50 := by
  obtain rfl | rfl | rfl | rfl | rfl | rfl | rfl : x = 1 ∨ x = 2 ∨ x = 3 ∨ x = 4 ∨ x = 5 ∨ x = 6 ∨ x = 7 := by omega
  · exact ⟨5, rfl, by omega, by omega⟩
  · exact ⟨5, rfl, by omega, by omega⟩
  · exact ⟨50, rfl, by omega, by omega⟩
  · exact ⟨9, rfl, by omega, by omega⟩
  · exact ⟨9, rfl, by omega, by omega⟩
  · exact ⟨9, rfl, by omega, by omega⟩
  · exact ⟨7, rfl, by omega, by omega⟩
theorem fstep_tcp (s : Nat) (b : Bool) (z : Int) : fstep 6 s b z = stepF s b z := rfl
theorem u8_range {n : Int} (h : (Lit.int .u8 n).wf = true) : 0 ≤ n ∧ n < 256 := by
  simp [Lit.wf, IntKind.min, IntKind.max, IntKind.signed, IntKind.bits] at h
  omega
/-- A block of somebody's, and what lies in it. -/
def My (b : Nat) (o : Obj) (U : Nat → Prop) (W : World) : Prop := Mine b U W ∧ W.heap[b]? = some o
section
variable {pl : Pl} {c : Cf} {w : World} {g : FlG} {U : Nat → Prop} {W W' : World} {b : Nat} {o : Obj}
theorem My.new (h : Lv pl c w g U W) (o : Obj) : My W.heap.size o U (W.alloc o) := ⟨Mine.new h o, heap_alloc_new W o⟩
theorem My.below (h : My b o U W) (hb : Below W.heap.size W W') : My b o U W' := ⟨(h.1.below hb).1, (h.1.below hb).2.trans h.2⟩
theorem My.step {V : Nat → Prop} (h : My b o U W) (k2 : Only U W W') (k3 : ∀ i, V i → U i ∨ W.heap.size ≤ i) : My b o V W' := ⟨(h.1.step k2 k3).1, (h.1.step k2 k3).2.trans h.2⟩
end
end Go.Proofs.YtpbknbnhljjjcaaDoor

namespace Go.Proofs.YtpbknbnhljjjcaaDoor
open Go.RowKit Go.Maps Go.Lib
set_option maxRecDepth 100000 in
set_option maxHeartbeats 16000000 in
theorem walk_FlowStates (a0 : Option Addr) (len0 cap0 : Nat) (z0 : List Int) (a1 : Option Addr) (len1 cap1 : Nat) (z1 : Nat → Bool) (w : World) (w0 : RowIn .u8 w a0 len0 cap0 z0) (w1 : BoolsIn w a1 len1 cap1 z1) (hE : TabAt 0 Lib.deBruijn64tab w ∧ 0 < w.heap.size) :
    Calls Tryd.prog 6 #[.slice a0 len0 cap0, .slice a1 len1 cap1] w fun e w' => e = .returned (.bool true) ∧ Below w.heap.size w w' := by
  have HEX := Lib.hid (examples_ok w hE)
  have HPL := Lib.hid (fun (W : World) => plain_ok 3 W)
  have HNW := Lib.hid (fun (W : World) (hb : Below w.heap.size w W) => (show Calls Tryd.prog 12 #[.agg #[.int .i64 3, .int .i64 1000, .int .i64 4, .int .i64 10, .int .i64 5, .int .i64 50, .int .i64 9, .int .i64 7, .int .i64 20]] W _ from new_plain 3 (by omega) w W hb))
  have HCL := Lib.hid (fun (W : World) => (show Calls Tryd.prog 16 #[.int .u16 5] W fun e w' => e = .returned (.agg #[.int .i64 6, .int .u32 5, .int .u32 99, .int .i64 1, .int .i64 80]) ∧ Below W.heap.size W w' from client_ok 5 (by omega) W))
  have HOP := Lib.hid (show ∀ (pl : Pl) (U : Nat → Prop) (W : World), Lv pl (cfR 3) w g0 U W → Calls Tryd.prog 15 #[.pointer (some ⟨pl.F, 0, none⟩), .agg #[.int .i64 6, .int .u32 5, .int .u32 99, .int .i64 1, .int .i64 80], .int .i64 1, .int .u32 7, .agg #[.int .i64 1, .int .u32 5, .int .i64 80], .int .i64 2] W fun e w' => e = .returned (.tuple #[.int .i64 1, .int .i64 0]) ∧ ∃ g' V, One (cfR 3) g' (⟨⟨6, 5, 99, 1, 80⟩, ⟨6, 7, 5, 1000, 80⟩, 1, 1, ((1 : Nat) : Int), false⟩ : Fw) 5 ∧ g'.now = 0 ∧ g'.o = 1 ∧ Lv pl (cfR 3) w g' V w' from fun pl U W k => by
    obtain ⟨z1, z2⟩ := k.tab hE
    refine (open_one k.fl z1 z2 ⟨by decide, by decide, by decide, by decide, by decide⟩ 1 7 1 5 80 2 (by omega) (by omega) (by omega) 1 fstep_syn 5 (by decide) rfl (by omega) (by omega) (by decide) (by decide) (by decide)).mono ?_
    rintro e w' ⟨rfl, g', h1, h2, h3, ht⟩
    obtain ⟨V, k1, _, _⟩ := k.step ht
    exact ⟨rfl, g', V, h1, h2, h3, k1⟩)
  have HSTP := Lib.hid (show ∀ (s : Nat) (b : Bool) (z : Int) (x : Nat) (ok : Bool), s ≤ 7 → stepF s b z = (x, ok) → ∀ W : World, Calls Tryd.prog 21 #[.int .i64 (s : Int), .bool b, .int .i64 z] W fun e w' => e = .returned (.tuple #[.int .i64 (x : Int), .bool ok]) ∧ Below W.heap.size W w' from fun s b z x ok hs hR W => by
    have h0 := step_ok s (by omega) b z W
    rw [hR] at h0
    exact h0)
  have HTN := Lib.hid (show ∀ (pl : Pl) (g : FlG) (U : Nat → Prop) (W : World), Lv pl (cfR 3) w g U W → ∀ (s t : Nat), One (cfR 3) g (⟨⟨6, 5, 99, 1, 80⟩, ⟨6, 7, 5, 1000, 80⟩, 1, 1, (s : Int), false⟩ : Fw) t → s ≤ 7 → ∀ (b : Bool) (z : Int) (x : Nat), stepF s b z = (x, false) → Calls Tryd.prog 18 #[.pointer (some ⟨pl.F, 0, none⟩), .int .i64 1, .bool b, .int .i64 z] W fun e w' => e = .returned (.int .i64 15) ∧ Below W.heap.size W w' from fun pl g U W k s t o hs b z x hR => touch_no k.fl o s (by omega) rfl b z (by show (fstep 6 s b z).2 = false; rw [fstep_tcp, hR]))
  have HTO := Lib.hid (show ∀ (pl : Pl) (g : FlG) (U : Nat → Prop) (W : World), Lv pl (cfR 3) w g U W → ∀ (s t : Nat), One (cfR 3) g (⟨⟨6, 5, 99, 1, 80⟩, ⟨6, 7, 5, 1000, 80⟩, 1, 1, (s : Int), false⟩ : Fw) t → s ≤ 7 → g.now = 0 → ∀ (b : Bool) (z : Int), stepF s b z = (0, true) → Calls Tryd.prog 18 #[.pointer (some ⟨pl.F, 0, none⟩), .int .i64 1, .bool b, .int .i64 z] W fun e w' => e = .returned (.int .i64 0) ∧ ∃ g' V, Gone g' ∧ Lv pl (cfR 3) w g' V w' from fun pl g U W k s t o hs hn0 b z hR => by
    refine (touch_over k.fl o s (by omega) rfl b z (by show fstep 6 s b z = _; rw [fstep_tcp, hR]) (by rw [hn0]; omega) (by decide)).mono ?_
    rintro e w' ⟨rfl, g', h1, h2, ht⟩
    obtain ⟨V, k1, _, _⟩ := k.step ht
    exact ⟨rfl, g', V, h1, k1⟩)
  have HTS := Lib.hid (show ∀ (pl : Pl) (g : FlG) (U : Nat → Prop) (W : World), Lv pl (cfR 3) w g U W → ∀ (s t : Nat), One (cfR 3) g (⟨⟨6, 5, 99, 1, 80⟩, ⟨6, 7, 5, 1000, 80⟩, 1, 1, (s : Int), false⟩ : Fw) t → s ≤ 7 → g.now = 0 → g.o < 1000 → ∀ (b : Bool) (z : Int) (x : Nat), stepF s b z = (x, true) → 1 ≤ x ∧ x ≤ 7 → Calls Tryd.prog 18 #[.pointer (some ⟨pl.F, 0, none⟩), .int .i64 1, .bool b, .int .i64 z] W fun e w' => e = .returned (.int .i64 0) ∧ ∃ g' t' V, One (cfR 3) g' (⟨⟨6, 5, 99, 1, 80⟩, ⟨6, 7, 5, 1000, 80⟩, 1, 1, (x : Int), false⟩ : Fw) t' ∧ g'.now = 0 ∧ g'.o = g.o + 1 ∧ Lv pl (cfR 3) w g' V w' from fun pl g U W k s t o hs hn0 ho b z x hR hx => by
    obtain ⟨n, hn, hn1, hn2⟩ := time_of 3 x hx
    refine (touch_stay k.fl o s (by omega) rfl b z x (by show fstep 6 s b z = _; rw [fstep_tcp, hR]) (by omega) n (i64_wf' (by omega) (by omega)) hn hn1 (by omega) (by rw [hn0]; omega) (by omega)).mono ?_
    rintro e w' ⟨rfl, g', h1, h2, h3, ht⟩
    obtain ⟨V, k1, _, _⟩ := k.step ht
    exact ⟨rfl, g', _, V, h1, by rw [h2, hn0], h3, k1⟩)
  have HGT := Lib.hid (show ∀ (pl : Pl) (g : FlG) (U : Nat → Prop) (W : World), Lv pl (cfR 3) w g U W → ∀ (s t : Nat), One (cfR 3) g (⟨⟨6, 5, 99, 1, 80⟩, ⟨6, 7, 5, 1000, 80⟩, 1, 1, (s : Int), false⟩ : Fw) t → Calls Tryd.prog 20 #[.pointer (some ⟨pl.F, 0, none⟩), .int .i64 1] W fun e w' => e = .returned (.tuple #[.agg #[.int .i64 6, .int .u32 5, .int .u32 99, .int .i64 1, .int .i64 80, .int .i64 6, .int .u32 7, .int .u32 5, .int .i64 1000, .int .i64 80, .int .i64 1, .int .i64 1, .int .i64 (s : Int), .bool false], .bool true]) ∧ Below W.heap.size W w' from fun pl g U W k s t o => get_one k.fl o)
  have HGG := Lib.hid (show ∀ (pl : Pl) (g : FlG) (U : Nat → Prop) (W : World), Lv pl (cfR 3) w g U W → Gone g → Calls Tryd.prog 20 #[.pointer (some ⟨pl.F, 0, none⟩), .int .i64 1] W fun e w' => e = .returned (.tuple #[.agg #[.int .i64 0, .int .u32 0, .int .u32 0, .int .i64 0, .int .i64 0, .int .i64 0, .int .u32 0, .int .u32 0, .int .i64 0, .int .i64 0, .int .i64 0, .int .i64 0, .int .i64 0, .bool false], .bool false]) ∧ Below W.heap.size W w' from fun pl g U W k o => get_gone k.fl o)
  have HLG := Lib.hid (show ∀ (pl : Pl) (g : FlG) (U : Nat → Prop) (W : World), Lv pl (cfR 3) w g U W → Gone g → Calls Tryd.prog 17 #[.pointer (some ⟨pl.F, 0, none⟩)] W fun e w' => e = .returned (.int .i64 0) ∧ w' = W from fun pl g U W k o => by
    have h0 := len_fl k.fl
    rw [o.n] at h0
    exact h0)
  have HLO := Lib.hid (show ∀ (pl : Pl) (g : FlG) (U : Nat → Prop) (W : World), Lv pl (cfR 3) w g U W → ∀ (s t : Nat), One (cfR 3) g (⟨⟨6, 5, 99, 1, 80⟩, ⟨6, 7, 5, 1000, 80⟩, 1, 1, (s : Int), false⟩ : Fw) t → Calls Tryd.prog 17 #[.pointer (some ⟨pl.F, 0, none⟩)] W fun e w' => e = .returned (.int .i64 1) ∧ w' = W from fun pl g U W k s t o => by
    have h0 := len_fl k.fl
    rw [o.n] at h0
    exact h0)
  have HTG := Lib.hid (show ∀ (pl : Pl) (g : FlG) (U : Nat → Prop) (W : World), Lv pl (cfR 3) w g U W → Gone g → Calls Tryd.prog 18 #[.pointer (some ⟨pl.F, 0, none⟩), .int .i64 1, .bool false, .int .i64 16] W fun e w' => e = .returned (.int .i64 19) ∧ Below W.heap.size W w' from fun pl g U W k o => touch_gone k.fl o false 16)
  have hl0 := w0.len
  have hl1 := w1.len
  have HR0 := Lib.hid w0
  have HR1 := Lib.hid w1
  clear hE w0 w1
  go_enter Tryd.func6, Tryd.ntmps6
  go_upto_region 4 with (go_at_call 11; refine HEX.out.mono ?_; rintro e wa ⟨rfl, hb⟩; have HB0 := Lib.hid hb; clear hb)
  go_upto_region 5 with (first
    | (go_at_call 14; refine (HPL.out _).mono ?_; rintro e wb ⟨rfl, hb⟩; have HB1 := Lib.hid (HB0.out.trans (hb.mono HB0.out.size)); clear hb)
    | (go_at_call 12; refine (HNW.out _ HB1.out).mono ?_; rintro e w2 ⟨pl, U2, rfl, k⟩; have HL2 := Lib.hid k; clear k))
  go_upto_region 8 with (first
    | (go_at_call 16; refine (HCL.out _).mono ?_; rintro e w3 ⟨rfl, hb⟩; have HL3 := Lib.hid (HL2.out.below hb); clear hb)
    | (go_at_call 15; refine (HOP.out _ _ _ HL3.out).mono ?_; rintro e w4 ⟨rfl, g4, U4, o4, n4, m4, k4⟩; have HO4 := Lib.hid o4; have HN4 := Lib.hid n4; have HM4 := Lib.hid m4; have HL4 := Lib.hid k4; clear o4 n4 m4 k4))
  go_wp2_with fail
  go_loopw [10, 11] (fun vs vi wr => ∃ (k s t : Nat) (g : FlG) (U : Nat → Prop), vi = .int .i64 (k : Int) ∧ vs = .int .i64 (s : Int) ∧ k ≤ 30 ∧ (1 ≤ s ∧ s ≤ 7) ∧ Lv pl (cfR 3) w g U wr ∧ One (cfR 3) g (⟨⟨6, 5, 99, 1, 80⟩, ⟨6, 7, 5, 1000, 80⟩, 1, 1, (s : Int), false⟩ : Fw) t ∧ g.now = 0 ∧ g.o ≤ k + 1) (fun _ vi _ => 30 - (intOf vi).toNat)
  case atStart => exact ⟨0, 1, 5, g4, U4, rfl, rfl, by omega, by omega, HL4.out, HO4.out, HN4.out, by rw [HM4.out]; omega⟩
  case round =>
    obtain ⟨k, s, t, g, U, rfl, rfl, hk, hs, hlv, hone, hnow, hgo⟩ := hrel
    have HLV := Lib.hid hlv
    have HONE := Lib.hid hone
    have HNOW := Lib.hid hnow
    have HGO := Lib.hid hgo
    have HS := Lib.hid hs
    have hsz : ((s : Int) == 0) = false := by simp; omega
    have hsn : ((s : Int) != 0) = true := by simp; omega
    clear hlv hone hnow hgo hs
    by_cases h0 : k < len0
    · by_cases h30 : k < 30
      · obtain ⟨x0, rfl, q1, q2, c0, q3⟩ := HR0.out.read HLV.out.bel h0
        obtain ⟨z, hz⟩ : ∃ z, z0.getD k 0 = z := ⟨_, rfl⟩
        rw [hz] at c0 q3
        have hzr := u8_range q3
        have hzw : wrap64 z = z := by unfold wrap64; omega
        clear hz q3
        by_cases h1 : k < len1
        · obtain ⟨x1, rfl, r1, r2, c1⟩ := HR1.out.read HLV.out.bel h1
          obtain ⟨b, hb1⟩ : ∃ b, z1 k = b := ⟨_, rfl⟩
          rw [hb1] at c1
          clear hb1
          go_upto_region 15 with fail
          clear c1
          obtain ⟨x, ok, hR⟩ : ∃ x ok, stepF s b z = (x, ok) := ⟨_, _, rfl⟩
          have hxl := step_le s HS.out b z
          rw [hR] at hxl
          have hxl : x ≤ 7 := hxl
          have HSP := Lib.hid (HSTP.out s b z x ok HS.out.2 hR)
          have HCB := Lib.hid (fun (W : World) (hb : Below wr.heap.size wr W) => (cell_back c0 hb))
          cases ok
          · have HTT := Lib.hid (fun (W : World) (hb : Below wr.heap.size wr W) => HTN.out _ _ _ _ (HLV.out.below hb) s t HONE.out HS.out.2 b z x hR)
            have HGE := Lib.hid (fun (W : World) (hb : Below wr.heap.size wr W) => HGT.out _ _ _ _ (HLV.out.below hb) s t HONE.out)
            clear hR
            go_upto_region 16 with (go_at_call 21; refine (HSP.out _).mono ?_; rintro e wc ⟨rfl, hb⟩; have HBc := Lib.hid hb; clear hb)
            clear c0
            have c0 := HCB.out _ HBc.out
            go_upto_region 17 with (go_at_call 18; refine (HTT.out _ HBc.out).mono ?_; rintro e wd ⟨rfl, hb⟩; have HBd := Lib.hid (HBc.out.trans (hb.mono HBc.out.size)); clear hb)
            clear c0
            go_wp2_with (go_at_call 20; refine (HGE.out _ HBd.out).mono ?_; rintro e we ⟨rfl, hb⟩; have HLe := Lib.hid (HLV.out.below (HBd.out.trans (hb.mono HBd.out.size))); clear hb)
            exact ⟨⟨k + 1, s, t, g, U, by go_num, rfl, by omega, HS.out, HLe.out.below ((Below.refl _ _).alloc (Nat.le_refl _) _), HONE.out, HNOW.out, Nat.le_trans HGO.out (by omega)⟩, by simp [intOf]; omega⟩
          · by_cases hx0 : x = 0
            · subst hx0
              have HTT := Lib.hid (fun (W : World) (hb : Below wr.heap.size wr W) => HTO.out _ _ _ _ (HLV.out.below hb) s t HONE.out HS.out.2 HNOW.out b z hR)
              clear hR hxl
              go_upto_region 16 with (go_at_call 21; refine (HSP.out _).mono ?_; rintro e wc ⟨rfl, hb⟩; have HBc := Lib.hid hb; clear hb)
              clear c0
              have c0 := HCB.out _ HBc.out
              go_upto_region 17 with (go_at_call 18; refine (HTT.out _ HBc.out).mono ?_; rintro e wd ⟨rfl, gd, Ud, od, kd⟩; have HOd := Lib.hid od; have HLd := Lib.hid kd; clear od kd)
              clear c0
              go_upto_region 22 with (go_at_call 20; refine (HGG.out _ _ _ _ HLd.out HOd.out).mono ?_; rintro e we ⟨rfl, hb⟩; have HLe := Lib.hid (HLd.out.below hb); clear hb)
              have HLf := Lib.hid (HLe.out.below ((Below.refl _ we).alloc (Nat.le_refl _) (.cells #[.int .i64 0, .int .u32 0, .int .u32 0, .int .i64 0, .int .i64 0, .int .i64 0, .int .u32 0, .int .u32 0, .int .i64 0, .int .i64 0, .int .i64 0, .int .i64 0, .int .i64 0, .bool false] 52)))
              go_wp2_with (first
                | (go_at_call 17; refine (HLG.out _ _ _ _ HLf.out HOd.out).mono ?_; rintro e wx ⟨rfl, rfl⟩)
                | (go_at_call 18; refine (HTG.out _ _ _ _ HLf.out HOd.out).mono ?_; rintro e wg ⟨rfl, hb⟩; have HLg := Lib.hid (HLf.out.below hb); clear hb))
              go_ret
              exact ⟨rfl, HLg.out.bel⟩
            · have HTT := Lib.hid (fun (W : World) (hb : Below wr.heap.size wr W) => HTS.out _ _ _ _ (HLV.out.below hb) s t HONE.out HS.out.2 HNOW.out (by have := HGO.out; omega) b z x hR ⟨by omega, hxl⟩)
              have hxz : ((x : Int) == 0) = false := by simp; omega
              have hxn : ((x : Int) != 0) = true := by simp; omega
              have HXR := Lib.hid (show 1 ≤ x ∧ x ≤ 7 from ⟨by omega, hxl⟩)
              clear hR hxl hx0 hsz hsn
              go_upto_region 16 with (go_at_call 21; refine (HSP.out _).mono ?_; rintro e wc ⟨rfl, hb⟩; have HBc := Lib.hid hb; clear hb)
              clear c0
              have c0 := HCB.out _ HBc.out
              go_upto_region 17 with (go_at_call 18; refine (HTT.out _ HBc.out).mono ?_; rintro e wd ⟨rfl, gd, td, Ud, od, nd, md, kd⟩; have HOd := Lib.hid od; have HNd := Lib.hid nd; have HMd := Lib.hid md; have HLd := Lib.hid kd; clear od nd md kd)
              clear c0
              go_wp2_with (go_at_call 20; refine (HGT.out _ _ _ _ HLd.out x td HOd.out).mono ?_; rintro e we ⟨rfl, hb⟩; have HLe := Lib.hid (HLd.out.below hb); clear hb)
              exact ⟨⟨k + 1, x, td, gd, Ud, by go_num, rfl, by omega, HXR.out, HLe.out.below ((Below.refl _ _).alloc (Nat.le_refl _) _), HOd.out, HNd.out, by rw [HMd.out]; exact Nat.succ_le_succ HGO.out⟩, by simp [intOf]; omega⟩
        · go_upto_region 15 with fail
          obtain ⟨x, ok, hR⟩ : ∃ x ok, stepF s false z = (x, ok) := ⟨_, _, rfl⟩
          have hxl := step_le s HS.out false z
          rw [hR] at hxl
          have hxl : x ≤ 7 := hxl
          have HSP := Lib.hid (HSTP.out s false z x ok HS.out.2 hR)
          have HCB := Lib.hid (fun (W : World) (hb : Below wr.heap.size wr W) => (cell_back c0 hb))
          cases ok
          · have HTT := Lib.hid (fun (W : World) (hb : Below wr.heap.size wr W) => HTN.out _ _ _ _ (HLV.out.below hb) s t HONE.out HS.out.2 false z x hR)
            have HGE := Lib.hid (fun (W : World) (hb : Below wr.heap.size wr W) => HGT.out _ _ _ _ (HLV.out.below hb) s t HONE.out)
            clear hR
            go_upto_region 16 with (go_at_call 21; refine (HSP.out _).mono ?_; rintro e wc ⟨rfl, hb⟩; have HBc := Lib.hid hb; clear hb)
            clear c0
            have c0 := HCB.out _ HBc.out
            go_upto_region 17 with (go_at_call 18; refine (HTT.out _ HBc.out).mono ?_; rintro e wd ⟨rfl, hb⟩; have HBd := Lib.hid (HBc.out.trans (hb.mono HBc.out.size)); clear hb)
            clear c0
            go_wp2_with (go_at_call 20; refine (HGE.out _ HBd.out).mono ?_; rintro e we ⟨rfl, hb⟩; have HLe := Lib.hid (HLV.out.below (HBd.out.trans (hb.mono HBd.out.size))); clear hb)
            exact ⟨⟨k + 1, s, t, g, U, by go_num, rfl, by omega, HS.out, HLe.out.below ((Below.refl _ _).alloc (Nat.le_refl _) _), HONE.out, HNOW.out, Nat.le_trans HGO.out (by omega)⟩, by simp [intOf]; omega⟩
          · by_cases hx0 : x = 0
            · subst hx0
              have HTT := Lib.hid (fun (W : World) (hb : Below wr.heap.size wr W) => HTO.out _ _ _ _ (HLV.out.below hb) s t HONE.out HS.out.2 HNOW.out false z hR)
              clear hR hxl
              go_upto_region 16 with (go_at_call 21; refine (HSP.out _).mono ?_; rintro e wc ⟨rfl, hb⟩; have HBc := Lib.hid hb; clear hb)
              clear c0
              have c0 := HCB.out _ HBc.out
              go_upto_region 17 with (go_at_call 18; refine (HTT.out _ HBc.out).mono ?_; rintro e wd ⟨rfl, gd, Ud, od, kd⟩; have HOd := Lib.hid od; have HLd := Lib.hid kd; clear od kd)
              clear c0
              go_upto_region 22 with (go_at_call 20; refine (HGG.out _ _ _ _ HLd.out HOd.out).mono ?_; rintro e we ⟨rfl, hb⟩; have HLe := Lib.hid (HLd.out.below hb); clear hb)
              have HLf := Lib.hid (HLe.out.below ((Below.refl _ we).alloc (Nat.le_refl _) (.cells #[.int .i64 0, .int .u32 0, .int .u32 0, .int .i64 0, .int .i64 0, .int .i64 0, .int .u32 0, .int .u32 0, .int .i64 0, .int .i64 0, .int .i64 0, .int .i64 0, .int .i64 0, .bool false] 52)))
              go_wp2_with (first
                | (go_at_call 17; refine (HLG.out _ _ _ _ HLf.out HOd.out).mono ?_; rintro e wx ⟨rfl, rfl⟩)
                | (go_at_call 18; refine (HTG.out _ _ _ _ HLf.out HOd.out).mono ?_; rintro e wg ⟨rfl, hb⟩; have HLg := Lib.hid (HLf.out.below hb); clear hb))
              go_ret
              exact ⟨rfl, HLg.out.bel⟩
            · have HTT := Lib.hid (fun (W : World) (hb : Below wr.heap.size wr W) => HTS.out _ _ _ _ (HLV.out.below hb) s t HONE.out HS.out.2 HNOW.out (by have := HGO.out; omega) false z x hR ⟨by omega, hxl⟩)
              have hxz : ((x : Int) == 0) = false := by simp; omega
              have hxn : ((x : Int) != 0) = true := by simp; omega
              have HXR := Lib.hid (show 1 ≤ x ∧ x ≤ 7 from ⟨by omega, hxl⟩)
              clear hR hxl hx0 hsz hsn
              go_upto_region 16 with (go_at_call 21; refine (HSP.out _).mono ?_; rintro e wc ⟨rfl, hb⟩; have HBc := Lib.hid hb; clear hb)
              clear c0
              have c0 := HCB.out _ HBc.out
              go_upto_region 17 with (go_at_call 18; refine (HTT.out _ HBc.out).mono ?_; rintro e wd ⟨rfl, gd, td, Ud, od, nd, md, kd⟩; have HOd := Lib.hid od; have HNd := Lib.hid nd; have HMd := Lib.hid md; have HLd := Lib.hid kd; clear od nd md kd)
              clear c0
              go_wp2_with (go_at_call 20; refine (HGT.out _ _ _ _ HLd.out x td HOd.out).mono ?_; rintro e we ⟨rfl, hb⟩; have HLe := Lib.hid (HLd.out.below hb); clear hb)
              exact ⟨⟨k + 1, x, td, gd, Ud, by go_num, rfl, by omega, HXR.out, HLe.out.below ((Below.refl _ _).alloc (Nat.le_refl _) _), HOd.out, HNd.out, by rw [HMd.out]; exact Nat.succ_le_succ HGO.out⟩, by simp [intOf]; omega⟩
      · go_wp2_with (go_at_call 17; refine (HLO.out _ _ _ _ HLV.out s t HONE.out).mono ?_; rintro e wx ⟨rfl, rfl⟩)
        go_ret
        exact ⟨rfl, HLV.out.bel⟩
    · go_wp2_with (go_at_call 17; refine (HLO.out _ _ _ _ HLV.out s t HONE.out).mono ?_; rintro e wx ⟨rfl, rfl⟩)
      go_ret
      exact ⟨rfl, HLV.out.bel⟩
end Go.Proofs.YtpbknbnhljjjcaaDoor
