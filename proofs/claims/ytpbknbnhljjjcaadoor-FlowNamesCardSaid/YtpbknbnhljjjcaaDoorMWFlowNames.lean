/- Texts of this proof, put together: GP. -/
import Derived.Test.YtpbknbnhljjjcaaDoorML
namespace Go.Proofs.YtpbknbnhljjjcaaDoor
open Go.RowKit Go.Maps Go.Lib
/-- A block of somebody's, and what lies in it. -/
def Mx (b : Nat) (o : Obj) (U : Nat → Prop) (W : World) : Prop := Mine b U W ∧ W.heap[b]? = some o
section
variable {pl : Pl} {c : Cf} {w : World} {g : FlG} {U : Nat → Prop} {W W' : World} {b : Nat} {o : Obj}
theorem Mx.new (h : Lv pl c w g U W) (o : Obj) : Mx W.heap.size o U (W.alloc o) := ⟨Mine.new h o, heap_alloc_new W o⟩
theorem Mx.below (h : Mx b o U W) (hb : Below W.heap.size W W') : Mx b o U W' := ⟨(h.1.below hb).1, (h.1.below hb).2.trans h.2⟩
theorem Mx.step {V : Nat → Prop} (h : Mx b o U W) (k2 : Only U W W') (k3 : ∀ i, V i → U i ∨ W.heap.size ≤ i) : Mx b o V W' := ⟨(h.1.step k2 k3).1, (h.1.step k2 k3).2.trans h.2⟩
end
theorem cli_net (n : Int) (hn : 0 ≤ n ∧ n < 65536) : Net (cliT n) := by
  unfold cliT
  exact ⟨by dsimp only; omega, by dsimp only; omega, by dsimp only; omega, by dsimp only; omega, by dsimp only; omega⟩
theorem fstep_ack : fstep 6 0 false 16 = (0, false) := by kernel_rfl
theorem fstep_rst (s : Nat) (hs : 1 ≤ s ∧ s ≤ 7) (b : Bool) : fstep 6 s b 4 = (0, true) := by
  obtain rfl | rfl | rfl | rfl | rfl | rfl | rfl : s = 1 ∨ s = 2 ∨ s = 3 ∨ s = 4 ∨ s = 5 ∨ s = 6 ∨ s = 7 := by omega
  all_goals cases b <;> kernel_rfl
set_option maxRecDepth 100000 in
set_option maxHeartbeats 8000000 in
theorem walk_Names_nat (n : Int) (w : World) (hn : 0 ≤ n ∧ n < 65536) (hE : TabAt 0 Lib.deBruijn64tab w ∧ 0 < w.heap.size) :
    Calls Tryd.prog 7 #[.int .u16 n, .bool false] w fun e w' => e = .returned (.bool true) ∧ Below w.heap.size w w' := by
  have HEX := Lib.hid (examples_ok w hE)
  have HPL := Lib.hid (fun (W : World) => plain_ok 3 W)
  have HNW := Lib.hid (fun (W : World) (hb : Below w.heap.size w W) => (show Calls Tryd.prog 12 #[.agg #[.int .i64 3, .int .i64 1000, .int .i64 4, .int .i64 10, .int .i64 5, .int .i64 50, .int .i64 9, .int .i64 7, .int .i64 20]] W _ from new_plain 3 (by omega) w W hb))
  have HCL := Lib.hid (fun (W : World) => client_ok n hn W)
  have hnet := cli_net n hn
  obtain ⟨m, hm⟩ : ∃ m, IntKind.u16.wrap (n + 1) = m := ⟨_, rfl⟩
  have hm1 : m = (n + 1) % 65536 := by rw [← hm]; simp [IntKind.wrap, IntKind.bits, IntKind.signed]
  have hmb : 0 ≤ m ∧ m < 65536 := by omega
  have HCM := Lib.hid (fun (W : World) => client_ok m hmb W)
  have hnetm := cli_net m hmb
  unfold cliT at HCL HCM hnet hnetm
  unfold Tup.v at HCL HCM
  dsimp only at HCL HCM
  obtain ⟨cs, hcs⟩ : ∃ cs, n % 50 = cs := ⟨_, rfl⟩
  obtain ⟨cx, hcx⟩ : ∃ cx, 1 + n / 50 = cx := ⟨_, rfl⟩
  obtain ⟨ms, hms⟩ : ∃ ms, m % 50 = ms := ⟨_, rfl⟩
  obtain ⟨mx, hmx⟩ : ∃ mx, 1 + m / 50 = mx := ⟨_, rfl⟩
  rw [hcs, hcx] at HCL hnet
  rw [hms, hmx] at HCM hnetm
  have HM := Lib.hid hm
  clear hm hm1 hmb hcs hcx hms hmx
  have HOP := Lib.hid (show ∀ (pl : Pl) (U : Nat → Prop) (W : World), Lv pl (cfR 3) w g0 U W → Calls Tryd.prog 15 #[.pointer (some ⟨pl.F, 0, none⟩), .agg #[.int .i64 6, .int .u32 cs, .int .u32 99, .int .i64 cx, .int .i64 80], .int .i64 1, .int .u32 7, .agg #[.int .i64 1, .int .u32 5, .int .i64 80], .int .i64 2] W fun e w' => e = .returned (.tuple #[.int .i64 1, .int .i64 0]) ∧ ∃ g' V, One (cfR 3) g' (⟨⟨6, cs, 99, cx, 80⟩, ⟨6, 7, 5, 1000, 80⟩, 1, 1, 1, false⟩ : Fw) 5 ∧ g'.now = 0 ∧ Lv pl (cfR 3) w g' V w' ∧ Only U W w' ∧ ∀ i, V i → U i ∨ W.heap.size ≤ i from fun pl U W k => by
    obtain ⟨z1, z2⟩ := k.tab hE
    refine (open_one k.fl z1 z2 hnet 1 7 1 5 80 2 (by omega) (by omega) (by omega) 1 fstep_syn 5 (by decide) rfl (by omega) (by omega) (by decide) (by decide) (by decide)).mono ?_
    rintro e w' ⟨rfl, g', h1, h2, h3, ht⟩
    obtain ⟨V, k1, k2, k3⟩ := k.step ht
    exact ⟨rfl, g', V, h1, h2, k1, k2, k3⟩)
  have HAG := Lib.hid (show ∀ (pl : Pl) (g : FlG) (U : Nat → Prop) (W : World), Lv pl (cfR 3) w g U W → One (cfR 3) g (⟨⟨6, cs, 99, cx, 80⟩, ⟨6, 7, 5, 1000, 80⟩, 1, 1, 1, false⟩ : Fw) 5 → Calls Tryd.prog 15 #[.pointer (some ⟨pl.F, 0, none⟩), .agg #[.int .i64 6, .int .u32 cs, .int .u32 99, .int .i64 cx, .int .i64 80], .int .i64 1, .int .u32 7, .agg #[.int .i64 1, .int .u32 5, .int .i64 80], .int .i64 2] W fun e w' => e = .returned (.tuple #[.int .i64 0, .int .i64 20]) ∧ Below W.heap.size W w' from fun pl g U W k o => open_exists k.fl hnet 1 7 1 5 80 2 1 fstep_syn 1 (by rw [o.fA]; exact if_pos rfl))
  have HNO := Lib.hid (show ∀ (pl : Pl) (g : FlG) (U : Nat → Prop) (W : World), Lv pl (cfR 3) w g U W → Calls Tryd.prog 15 #[.pointer (some ⟨pl.F, 0, none⟩), .agg #[.int .i64 6, .int .u32 ms, .int .u32 99, .int .i64 mx, .int .i64 80], .int .i64 1, .int .u32 7, .agg #[.int .i64 1, .int .u32 0, .int .i64 0], .int .i64 16] W fun e w' => e = .returned (.tuple #[.int .i64 0, .int .i64 15]) ∧ Below W.heap.size W w' from fun pl g U W k => open_state k.fl hnetm 1 7 1 0 0 16 0 fstep_ack)
  have HGT := Lib.hid (show ∀ (pl : Pl) (g : FlG) (U : Nat → Prop) (W : World), Lv pl (cfR 3) w g U W → One (cfR 3) g (⟨⟨6, cs, 99, cx, 80⟩, ⟨6, 7, 5, 1000, 80⟩, 1, 1, 1, false⟩ : Fw) 5 → _ from fun pl g U W k o => get_one k.fl o)
  have HAH := Lib.hid (show ∀ (pl : Pl) (g : FlG) (U : Nat → Prop) (W : World), Lv pl (cfR 3) w g U W → One (cfR 3) g (⟨⟨6, cs, 99, cx, 80⟩, ⟨6, 7, 5, 1000, 80⟩, 1, 1, 1, false⟩ : Fw) 5 → Calls Tryd.prog 22 #[.pointer (some ⟨pl.F, 0, none⟩), .agg #[.int .i64 6, .int .u32 cs, .int .u32 99, .int .i64 cx, .int .i64 80]] W fun e w' => e = .returned (.tuple #[.int .i64 1, .bool true]) ∧ Below W.heap.size W w' from fun pl g U W k o => by
    have h0 := ahead_fl k.fl (x := ⟨6, cs, 99, cx, 80⟩) hnet.ok
    rw [show g.t.fA ⟨6, cs, 99, cx, 80⟩ = some 1 from by rw [o.fA]; exact if_pos rfl] at h0
    exact h0)
  have HBH := Lib.hid (show ∀ (pl : Pl) (g : FlG) (U : Nat → Prop) (W : World), Lv pl (cfR 3) w g U W → One (cfR 3) g (⟨⟨6, cs, 99, cx, 80⟩, ⟨6, 7, 5, 1000, 80⟩, 1, 1, 1, false⟩ : Fw) 5 → Calls Tryd.prog 23 #[.pointer (some ⟨pl.F, 0, none⟩), .agg #[.int .i64 6, .int .u32 7, .int .u32 5, .int .i64 1000, .int .i64 80]] W fun e w' => e = .returned (.tuple #[.int .i64 1, .bool true]) ∧ Below W.heap.size W w' from fun pl g U W k o => by
    have h0 := behind_fl k.fl (x := ⟨6, 7, 5, 1000, 80⟩) o.okb
    rw [show g.t.fB ⟨6, 7, 5, 1000, 80⟩ = some 1 from by rw [o.fB]; exact if_pos rfl] at h0
    exact h0)
  have HBN := Lib.hid (show ∀ (pl : Pl) (g : FlG) (U : Nat → Prop) (W : World), Lv pl (cfR 3) w g U W → One (cfR 3) g (⟨⟨6, cs, 99, cx, 80⟩, ⟨6, 7, 5, 1000, 80⟩, 1, 1, 1, false⟩ : Fw) 5 → Calls Tryd.prog 23 #[.pointer (some ⟨pl.F, 0, none⟩), .agg #[.int .i64 6, .int .u32 cs, .int .u32 99, .int .i64 cx, .int .i64 80]] W fun e w' => e = .returned (.tuple #[.int .i64 0, .bool false]) ∧ Below W.heap.size W w' from fun pl g U W k o => by
    have h0 := behind_fl k.fl (x := ⟨6, cs, 99, cx, 80⟩) hnet.ok
    rw [show g.t.fB ⟨6, cs, 99, cx, 80⟩ = none from by rw [o.fB]; exact if_neg (fun e => by injection e with e1 e2 e3 e4 e5; revert e3; decide)] at h0
    exact h0)
  have HTO := Lib.hid (show ∀ (pl : Pl) (g : FlG) (U : Nat → Prop) (W : World), Lv pl (cfR 3) w g U W → One (cfR 3) g (⟨⟨6, cs, 99, cx, 80⟩, ⟨6, 7, 5, 1000, 80⟩, 1, 1, 1, false⟩ : Fw) 5 → g.now = 0 → Calls Tryd.prog 18 #[.pointer (some ⟨pl.F, 0, none⟩), .int .i64 1, .bool false, .int .i64 4] W fun e w' => e = .returned (.int .i64 0) ∧ ∃ g' V, Gone g' ∧ Lv pl (cfR 3) w g' V w' ∧ Only U W w' ∧ ∀ i, V i → U i ∨ W.heap.size ≤ i from fun pl g U W k o hn0 => by
    refine (touch_over k.fl o 1 (by omega) rfl false 4 (fstep_rst 1 (by omega) false) (by rw [hn0]; omega) (by decide)).mono ?_
    rintro e w' ⟨rfl, g', h1, h2, ht⟩
    obtain ⟨V, k1, k2, k3⟩ := k.step ht
    exact ⟨rfl, g', V, h1, k1, k2, k3⟩)
  have HAN := Lib.hid (show ∀ (pl : Pl) (g : FlG) (U : Nat → Prop) (W : World), Lv pl (cfR 3) w g U W → Gone g → Calls Tryd.prog 22 #[.pointer (some ⟨pl.F, 0, none⟩), .agg #[.int .i64 6, .int .u32 cs, .int .u32 99, .int .i64 cx, .int .i64 80]] W fun e w' => e = .returned (.tuple #[.int .i64 0, .bool false]) ∧ Below W.heap.size W w' from fun pl g U W k o => by
    have h0 := ahead_fl k.fl (x := ⟨6, cs, 99, cx, 80⟩) hnet.ok
    rw [o.fA] at h0
    exact h0)
  have HBG := Lib.hid (show ∀ (pl : Pl) (g : FlG) (U : Nat → Prop) (W : World), Lv pl (cfR 3) w g U W → (⟨⟨6, cs, 99, cx, 80⟩, ⟨6, 7, 5, 1000, 80⟩, 1, 1, 1, false⟩ : Fw).b.ok → Gone g → Calls Tryd.prog 23 #[.pointer (some ⟨pl.F, 0, none⟩), .agg #[.int .i64 6, .int .u32 7, .int .u32 5, .int .i64 1000, .int .i64 80]] W fun e w' => e = .returned (.tuple #[.int .i64 0, .bool false]) ∧ Below W.heap.size W w' from fun pl g U W k ob o => by
    have h0 := behind_fl k.fl (x := ⟨6, 7, 5, 1000, 80⟩) ob
    rw [o.fB] at h0
    exact h0)
  clear hE hn hnet hnetm
  unfold Fw.v at HGT
  dsimp only at HGT
  go_enter Tryd.func7, Tryd.ntmps7
  go_upto_region 4 with (go_at_call 11; refine HEX.out.mono ?_; rintro e w0 ⟨rfl, hb⟩; have HB0 := Lib.hid hb; clear hb)
  go_upto_region 5 with (first
    | (go_at_call 14; refine (HPL.out _).mono ?_; rintro e w1 ⟨rfl, hb⟩; have HB1 := Lib.hid (HB0.out.trans (hb.mono HB0.out.size)); clear hb)
    | (go_at_call 12; refine (HNW.out _ HB1.out).mono ?_; rintro e w2 ⟨pl, U2, rfl, k⟩; have HL2 := Lib.hid k; clear k))
  go_upto_region 11 with (go_at_call 16; refine (HCL.out _).mono ?_; rintro e w3 ⟨rfl, hb⟩; have HL3 := Lib.hid (HL2.out.below hb); clear hb)
  obtain ⟨bt, hbt⟩ : ∃ bt, w3.heap.size = bt := ⟨_, rfl⟩
  have k4 := HL3.out.below ((Below.refl _ w3).alloc (Nat.le_refl _) (.cells #[.int .i64 6, .int .u32 cs, .int .u32 99, .int .i64 cx, .int .i64 80] 41))
  have m4 := Mx.new HL3.out (.cells #[.int .i64 6, .int .u32 cs, .int .u32 99, .int .i64 cx, .int .i64 80] 41)
  rw [hbt] at m4 ⊢
  revert k4 m4
  generalize w3.alloc (.cells #[.int .i64 6, .int .u32 cs, .int .u32 99, .int .i64 cx, .int .i64 80] 41) = w4
  intro k4 m4
  have HL4 := Lib.hid k4
  have HM4 := Lib.hid m4
  clear k4 m4 hbt
  have KT := Lib.hid (show ∀ (U : Nat → Prop) (W : World), Mx bt (.cells #[.int .i64 6, .int .u32 cs, .int .u32 99, .int .i64 cx, .int .i64 80] 41) U W → (W.cell? ⟨bt, 0, none⟩ = some (.int .i64 6) ∧ W.cell? ⟨bt, 1, none⟩ = some (.int .u32 cs) ∧ W.cell? ⟨bt, 2, none⟩ = some (.int .u32 99) ∧ W.cell? ⟨bt, 3, none⟩ = some (.int .i64 cx) ∧ W.cell? ⟨bt, 4, none⟩ = some (.int .i64 80)) from fun U W k => by
    have := k.2
    refine ⟨?_, ?_, ?_, ?_, ?_⟩ <;> simp [World.cell?, this])
  obtain ⟨t0, t1, t2, t3, t4⟩ := KT.out _ _ HM4.out
  go_upto_region 12 with (go_at_call 15; refine (HOP.out _ _ _ HL4.out).mono ?_; rintro e w5 ⟨rfl, g5, U5, o5, n5, k5, q5, r5⟩; have HO5 := Lib.hid o5; have HN5 := Lib.hid n5; have HL5 := Lib.hid k5; have HM5 := Lib.hid (HM4.out.step q5 r5); clear o5 n5 k5 q5 r5)
  clear t0 t1 t2 t3 t4
  obtain ⟨t0, t1, t2, t3, t4⟩ := KT.out _ _ HM5.out
  go_upto_region 13 with (go_at_call 15; refine (HAG.out _ _ _ _ HL5.out HO5.out).mono ?_; rintro e w6 ⟨rfl, hb⟩; have HL6 := Lib.hid (HL5.out.below hb); have HM6 := Lib.hid (HM5.out.below hb); clear hb)
  clear t0 t1 t2 t3 t4
  go_upto_region 14 with (go_at_call 20; refine (HGT.out _ _ _ _ HL6.out HO5.out).mono ?_; rintro e w7 ⟨rfl, hb⟩; have HL7 := Lib.hid (HL6.out.below hb); have HM7 := Lib.hid (HM6.out.below hb); clear hb)
  obtain ⟨bf, hbf⟩ : ∃ bf, w7.heap.size = bf := ⟨_, rfl⟩
  have k8 := HL7.out.below ((Below.refl _ w7).alloc (Nat.le_refl _) (.cells #[.int .i64 6, .int .u32 cs, .int .u32 99, .int .i64 cx, .int .i64 80, .int .i64 6, .int .u32 7, .int .u32 5, .int .i64 1000, .int .i64 80, .int .i64 1, .int .i64 1, .int .i64 1, .bool false] 52))
  have n8 := HM7.out.below ((Below.refl _ w7).alloc (Nat.le_refl _) (.cells #[.int .i64 6, .int .u32 cs, .int .u32 99, .int .i64 cx, .int .i64 80, .int .i64 6, .int .u32 7, .int .u32 5, .int .i64 1000, .int .i64 80, .int .i64 1, .int .i64 1, .int .i64 1, .bool false] 52))
  have m8 := Mx.new HL7.out (.cells #[.int .i64 6, .int .u32 cs, .int .u32 99, .int .i64 cx, .int .i64 80, .int .i64 6, .int .u32 7, .int .u32 5, .int .i64 1000, .int .i64 80, .int .i64 1, .int .i64 1, .int .i64 1, .bool false] 52)
  rw [hbf] at m8 ⊢
  revert k8 m8 n8
  generalize w7.alloc (.cells #[.int .i64 6, .int .u32 cs, .int .u32 99, .int .i64 cx, .int .i64 80, .int .i64 6, .int .u32 7, .int .u32 5, .int .i64 1000, .int .i64 80, .int .i64 1, .int .i64 1, .int .i64 1, .bool false] 52) = w8
  intro k8 n8 m8
  have HL8 := Lib.hid k8
  have HM8 := Lib.hid n8
  have HF8 := Lib.hid m8
  clear k8 m8 n8 hbf
  have KF := Lib.hid (show ∀ (U : Nat → Prop) (W : World), Mx bf (.cells #[.int .i64 6, .int .u32 cs, .int .u32 99, .int .i64 cx, .int .i64 80, .int .i64 6, .int .u32 7, .int .u32 5, .int .i64 1000, .int .i64 80, .int .i64 1, .int .i64 1, .int .i64 1, .bool false] 52) U W → (W.cell? ⟨bf, 5, none⟩ = some (.int .i64 6) ∧ W.cell? ⟨bf, 6, none⟩ = some (.int .u32 7) ∧ W.cell? ⟨bf, 7, none⟩ = some (.int .u32 5) ∧ W.cell? ⟨bf, 8, none⟩ = some (.int .i64 1000) ∧ W.cell? ⟨bf, 9, none⟩ = some (.int .i64 80) ∧ W.cell? ⟨bf, 13, none⟩ = some (.bool false)) from fun U W k => by
    have := k.2
    refine ⟨?_, ?_, ?_, ?_, ?_, ?_⟩ <;> simp [World.cell?, this])
  obtain ⟨t0, t1, t2, t3, t4⟩ := KT.out _ _ HM8.out
  go_upto_region 15 with (go_at_call 22; refine (HAH.out _ _ _ _ HL8.out HO5.out).mono ?_; rintro e w9 ⟨rfl, hb⟩; have HL9 := Lib.hid (HL8.out.below hb); have HM9 := Lib.hid (HM8.out.below hb); have HF9 := Lib.hid (HF8.out.below hb); clear hb)
  clear t0 t1 t2 t3 t4
  obtain ⟨f5, f6, f7, f8, f9, f13⟩ := KF.out _ _ HF9.out
  go_upto_region 16 with (go_at_call 23; refine (HBH.out _ _ _ _ HL9.out HO5.out).mono ?_; rintro e wA ⟨rfl, hb⟩; have HLA := Lib.hid (HL9.out.below hb); have HMA := Lib.hid (HM9.out.below hb); have HFA := Lib.hid (HF9.out.below hb); clear hb)
  clear f5 f6 f7 f8 f9 f13
  obtain ⟨t0, t1, t2, t3, t4⟩ := KT.out _ _ HMA.out
  go_upto_region 17 with (go_at_call 23; refine (HBN.out _ _ _ _ HLA.out HO5.out).mono ?_; rintro e wB ⟨rfl, hb⟩; have HLB := Lib.hid (HLA.out.below hb); have HMB := Lib.hid (HMA.out.below hb); have HFB := Lib.hid (HFA.out.below hb); clear hb)
  clear t0 t1 t2 t3 t4
  have hmm := HM.out
  go_upto_region 18 with (first
    | (go_at_call 16; refine (HCM.out _).mono ?_; rintro e wC ⟨rfl, hb⟩; have HLC := Lib.hid (HLB.out.below hb); have HMC := Lib.hid (HMB.out.below hb); have HFC := Lib.hid (HFB.out.below hb); clear hb)
    | (go_at_call 15; refine (HNO.out _ _ _ _ HLC.out).mono ?_; rintro e wD ⟨rfl, hb⟩; have HLD := Lib.hid (HLC.out.below hb); have HMD := Lib.hid (HMC.out.below hb); have HFD := Lib.hid (HFC.out.below hb); clear hb))
  clear hmm
  go_upto_region 19 with (go_at_call 18; refine (HTO.out _ _ _ _ HLD.out HO5.out HN5.out).mono ?_; rintro e wE ⟨rfl, gE, UE, oE, kE, qE, rE⟩; have HOE := Lib.hid oE; have HLE := Lib.hid kE; have HME := Lib.hid (HMD.out.step qE rE); have HFE := Lib.hid (HFD.out.step qE rE); clear oE kE qE rE)
  obtain ⟨t0, t1, t2, t3, t4⟩ := KT.out _ _ HME.out
  go_upto_region 20 with (go_at_call 22; refine (HAN.out _ _ _ _ HLE.out HOE.out).mono ?_; rintro e wF ⟨rfl, hb⟩; have HLF := Lib.hid (HLE.out.below hb); have HFF := Lib.hid (HFE.out.below hb); clear hb)
  clear t0 t1 t2 t3 t4
  obtain ⟨f5, f6, f7, f8, f9, f13⟩ := KF.out _ _ HFF.out
  go_wp2_with (go_at_call 23; refine (HBG.out _ _ _ _ HLF.out HO5.out.okb HOE.out).mono ?_; rintro e wG ⟨rfl, hb⟩; have HLG := Lib.hid (HLF.out.below hb); have HFG := Lib.hid (HFF.out.below hb); clear hb; obtain ⟨f5, f6, f7, f8, f9, f13⟩ := KF.out _ _ HFG.out)
  all_goals
    go_ret
    exact ⟨rfl, HLG.out.bel⟩
set_option maxRecDepth 100000 in
set_option maxHeartbeats 8000000 in
theorem walk_Names_dsr (n : Int) (w : World) (hn : 0 ≤ n ∧ n < 65536) (hE : TabAt 0 Lib.deBruijn64tab w ∧ 0 < w.heap.size) :
    Calls Tryd.prog 7 #[.int .u16 n, .bool true] w fun e w' => e = .returned (.bool true) ∧ Below w.heap.size w w' := by
  have HEX := Lib.hid (examples_ok w hE)
  have HPL := Lib.hid (fun (W : World) => plain_ok 3 W)
  have HNW := Lib.hid (fun (W : World) (hb : Below w.heap.size w W) => (show Calls Tryd.prog 12 #[.agg #[.int .i64 3, .int .i64 1000, .int .i64 4, .int .i64 10, .int .i64 5, .int .i64 50, .int .i64 9, .int .i64 7, .int .i64 20]] W _ from new_plain 3 (by omega) w W hb))
  have HCL := Lib.hid (fun (W : World) => client_ok n hn W)
  have hnet := cli_net n hn
  obtain ⟨m, hm⟩ : ∃ m, IntKind.u16.wrap (n + 1) = m := ⟨_, rfl⟩
  have hm1 : m = (n + 1) % 65536 := by rw [← hm]; simp [IntKind.wrap, IntKind.bits, IntKind.signed]
  have hmb : 0 ≤ m ∧ m < 65536 := by omega
  have HCM := Lib.hid (fun (W : World) => client_ok m hmb W)
  have hnetm := cli_net m hmb
  unfold cliT at HCL HCM hnet hnetm
  unfold Tup.v at HCL HCM
  dsimp only at HCL HCM
  obtain ⟨cs, hcs⟩ : ∃ cs, n % 50 = cs := ⟨_, rfl⟩
  obtain ⟨cx, hcx⟩ : ∃ cx, 1 + n / 50 = cx := ⟨_, rfl⟩
  obtain ⟨ms, hms⟩ : ∃ ms, m % 50 = ms := ⟨_, rfl⟩
  obtain ⟨mx, hmx⟩ : ∃ mx, 1 + m / 50 = mx := ⟨_, rfl⟩
  rw [hcs, hcx] at HCL hnet
  rw [hms, hmx] at HCM hnetm
  have HM := Lib.hid hm
  clear hm hm1 hmb hcs hcx hms hmx
  have HOP := Lib.hid (show ∀ (pl : Pl) (U : Nat → Prop) (W : World), Lv pl (cfR 3) w g0 U W → Calls Tryd.prog 15 #[.pointer (some ⟨pl.F, 0, none⟩), .agg #[.int .i64 6, .int .u32 cs, .int .u32 99, .int .i64 cx, .int .i64 80], .int .i64 1, .int .u32 0, .agg #[.int .i64 1, .int .u32 5, .int .i64 80], .int .i64 2] W fun e w' => e = .returned (.tuple #[.int .i64 1, .int .i64 0]) ∧ ∃ g' V, One (cfR 3) g' (⟨⟨6, cs, 99, cx, 80⟩, ⟨-6, cs, 99, cx, 80⟩, 1, 1, 1, true⟩ : Fw) 5 ∧ g'.now = 0 ∧ Lv pl (cfR 3) w g' V w' ∧ Only U W w' ∧ ∀ i, V i → U i ∨ W.heap.size ≤ i from fun pl U W k => by
    refine (open_one_dsr k.fl hnet 1 1 5 80 2 1 fstep_syn 5 (by decide) rfl (by omega) (by omega) (by decide)).mono ?_
    rintro e w' ⟨rfl, g', h1, h2, h3, ht⟩
    obtain ⟨V, k1, k2, k3⟩ := k.step ht
    exact ⟨rfl, g', V, h1, h2, k1, k2, k3⟩)
  have HAG := Lib.hid (show ∀ (pl : Pl) (g : FlG) (U : Nat → Prop) (W : World), Lv pl (cfR 3) w g U W → One (cfR 3) g (⟨⟨6, cs, 99, cx, 80⟩, ⟨-6, cs, 99, cx, 80⟩, 1, 1, 1, true⟩ : Fw) 5 → Calls Tryd.prog 15 #[.pointer (some ⟨pl.F, 0, none⟩), .agg #[.int .i64 6, .int .u32 cs, .int .u32 99, .int .i64 cx, .int .i64 80], .int .i64 1, .int .u32 0, .agg #[.int .i64 1, .int .u32 5, .int .i64 80], .int .i64 2] W fun e w' => e = .returned (.tuple #[.int .i64 0, .int .i64 20]) ∧ Below W.heap.size W w' from fun pl g U W k o => open_exists k.fl hnet 1 0 1 5 80 2 1 fstep_syn 1 (by rw [o.fA]; exact if_pos rfl))
  have HNO := Lib.hid (show ∀ (pl : Pl) (g : FlG) (U : Nat → Prop) (W : World), Lv pl (cfR 3) w g U W → Calls Tryd.prog 15 #[.pointer (some ⟨pl.F, 0, none⟩), .agg #[.int .i64 6, .int .u32 ms, .int .u32 99, .int .i64 mx, .int .i64 80], .int .i64 1, .int .u32 0, .agg #[.int .i64 1, .int .u32 0, .int .i64 0], .int .i64 16] W fun e w' => e = .returned (.tuple #[.int .i64 0, .int .i64 15]) ∧ Below W.heap.size W w' from fun pl g U W k => open_state k.fl hnetm 1 0 1 0 0 16 0 fstep_ack)
  have HGT := Lib.hid (show ∀ (pl : Pl) (g : FlG) (U : Nat → Prop) (W : World), Lv pl (cfR 3) w g U W → One (cfR 3) g (⟨⟨6, cs, 99, cx, 80⟩, ⟨-6, cs, 99, cx, 80⟩, 1, 1, 1, true⟩ : Fw) 5 → _ from fun pl g U W k o => get_one k.fl o)
  have HAH := Lib.hid (show ∀ (pl : Pl) (g : FlG) (U : Nat → Prop) (W : World), Lv pl (cfR 3) w g U W → One (cfR 3) g (⟨⟨6, cs, 99, cx, 80⟩, ⟨-6, cs, 99, cx, 80⟩, 1, 1, 1, true⟩ : Fw) 5 → Calls Tryd.prog 22 #[.pointer (some ⟨pl.F, 0, none⟩), .agg #[.int .i64 6, .int .u32 cs, .int .u32 99, .int .i64 cx, .int .i64 80]] W fun e w' => e = .returned (.tuple #[.int .i64 1, .bool true]) ∧ Below W.heap.size W w' from fun pl g U W k o => by
    have h0 := ahead_fl k.fl (x := ⟨6, cs, 99, cx, 80⟩) hnet.ok
    rw [show g.t.fA ⟨6, cs, 99, cx, 80⟩ = some 1 from by rw [o.fA]; exact if_pos rfl] at h0
    exact h0)
  have HBH := Lib.hid (show ∀ (pl : Pl) (g : FlG) (U : Nat → Prop) (W : World), Lv pl (cfR 3) w g U W → One (cfR 3) g (⟨⟨6, cs, 99, cx, 80⟩, ⟨-6, cs, 99, cx, 80⟩, 1, 1, 1, true⟩ : Fw) 5 → Calls Tryd.prog 23 #[.pointer (some ⟨pl.F, 0, none⟩), .agg #[.int .i64 (-6), .int .u32 cs, .int .u32 99, .int .i64 cx, .int .i64 80]] W fun e w' => e = .returned (.tuple #[.int .i64 1, .bool true]) ∧ Below W.heap.size W w' from fun pl g U W k o => by
    have h0 := behind_fl k.fl (x := ⟨-6, cs, 99, cx, 80⟩) o.okb
    rw [show g.t.fB ⟨-6, cs, 99, cx, 80⟩ = some 1 from by rw [o.fB]; exact if_pos rfl] at h0
    exact h0)
  have HBN := Lib.hid (show ∀ (pl : Pl) (g : FlG) (U : Nat → Prop) (W : World), Lv pl (cfR 3) w g U W → One (cfR 3) g (⟨⟨6, cs, 99, cx, 80⟩, ⟨-6, cs, 99, cx, 80⟩, 1, 1, 1, true⟩ : Fw) 5 → Calls Tryd.prog 23 #[.pointer (some ⟨pl.F, 0, none⟩), .agg #[.int .i64 6, .int .u32 cs, .int .u32 99, .int .i64 cx, .int .i64 80]] W fun e w' => e = .returned (.tuple #[.int .i64 0, .bool false]) ∧ Below W.heap.size W w' from fun pl g U W k o => by
    have h0 := behind_fl k.fl (x := ⟨6, cs, 99, cx, 80⟩) hnet.ok
    rw [show g.t.fB ⟨6, cs, 99, cx, 80⟩ = none from by rw [o.fB]; exact if_neg (fun e => by injection e with e1 e2 e3 e4 e5; revert e1; decide)] at h0
    exact h0)
  have HTO := Lib.hid (show ∀ (pl : Pl) (g : FlG) (U : Nat → Prop) (W : World), Lv pl (cfR 3) w g U W → One (cfR 3) g (⟨⟨6, cs, 99, cx, 80⟩, ⟨-6, cs, 99, cx, 80⟩, 1, 1, 1, true⟩ : Fw) 5 → g.now = 0 → Calls Tryd.prog 18 #[.pointer (some ⟨pl.F, 0, none⟩), .int .i64 1, .bool false, .int .i64 4] W fun e w' => e = .returned (.int .i64 0) ∧ ∃ g' V, Gone g' ∧ Lv pl (cfR 3) w g' V w' ∧ Only U W w' ∧ ∀ i, V i → U i ∨ W.heap.size ≤ i from fun pl g U W k o hn0 => by
    refine (touch_over k.fl o 1 (by omega) rfl false 4 (fstep_rst 1 (by omega) false) (by rw [hn0]; omega) (by decide)).mono ?_
    rintro e w' ⟨rfl, g', h1, h2, ht⟩
    obtain ⟨V, k1, k2, k3⟩ := k.step ht
    exact ⟨rfl, g', V, h1, k1, k2, k3⟩)
  have HAN := Lib.hid (show ∀ (pl : Pl) (g : FlG) (U : Nat → Prop) (W : World), Lv pl (cfR 3) w g U W → Gone g → Calls Tryd.prog 22 #[.pointer (some ⟨pl.F, 0, none⟩), .agg #[.int .i64 6, .int .u32 cs, .int .u32 99, .int .i64 cx, .int .i64 80]] W fun e w' => e = .returned (.tuple #[.int .i64 0, .bool false]) ∧ Below W.heap.size W w' from fun pl g U W k o => by
    have h0 := ahead_fl k.fl (x := ⟨6, cs, 99, cx, 80⟩) hnet.ok
    rw [o.fA] at h0
    exact h0)
  have HBG := Lib.hid (show ∀ (pl : Pl) (g : FlG) (U : Nat → Prop) (W : World), Lv pl (cfR 3) w g U W → (⟨⟨6, cs, 99, cx, 80⟩, ⟨-6, cs, 99, cx, 80⟩, 1, 1, 1, true⟩ : Fw).b.ok → Gone g → Calls Tryd.prog 23 #[.pointer (some ⟨pl.F, 0, none⟩), .agg #[.int .i64 (-6), .int .u32 cs, .int .u32 99, .int .i64 cx, .int .i64 80]] W fun e w' => e = .returned (.tuple #[.int .i64 0, .bool false]) ∧ Below W.heap.size W w' from fun pl g U W k ob o => by
    have h0 := behind_fl k.fl (x := ⟨-6, cs, 99, cx, 80⟩) ob
    rw [o.fB] at h0
    exact h0)
  clear hE hn hnet hnetm
  unfold Fw.v at HGT
  dsimp only at HGT
  go_enter Tryd.func7, Tryd.ntmps7
  go_upto_region 4 with (go_at_call 11; refine HEX.out.mono ?_; rintro e w0 ⟨rfl, hb⟩; have HB0 := Lib.hid hb; clear hb)
  go_upto_region 5 with (first
    | (go_at_call 14; refine (HPL.out _).mono ?_; rintro e w1 ⟨rfl, hb⟩; have HB1 := Lib.hid (HB0.out.trans (hb.mono HB0.out.size)); clear hb)
    | (go_at_call 12; refine (HNW.out _ HB1.out).mono ?_; rintro e w2 ⟨pl, U2, rfl, k⟩; have HL2 := Lib.hid k; clear k))
  go_upto_region 11 with (go_at_call 16; refine (HCL.out _).mono ?_; rintro e w3 ⟨rfl, hb⟩; have HL3 := Lib.hid (HL2.out.below hb); clear hb)
  obtain ⟨bt, hbt⟩ : ∃ bt, w3.heap.size = bt := ⟨_, rfl⟩
  have k4 := HL3.out.below ((Below.refl _ w3).alloc (Nat.le_refl _) (.cells #[.int .i64 6, .int .u32 cs, .int .u32 99, .int .i64 cx, .int .i64 80] 41))
  have m4 := Mx.new HL3.out (.cells #[.int .i64 6, .int .u32 cs, .int .u32 99, .int .i64 cx, .int .i64 80] 41)
  rw [hbt] at m4 ⊢
  revert k4 m4
  generalize w3.alloc (.cells #[.int .i64 6, .int .u32 cs, .int .u32 99, .int .i64 cx, .int .i64 80] 41) = w4
  intro k4 m4
  have HL4 := Lib.hid k4
  have HM4 := Lib.hid m4
  clear k4 m4 hbt
  have KT := Lib.hid (show ∀ (U : Nat → Prop) (W : World), Mx bt (.cells #[.int .i64 6, .int .u32 cs, .int .u32 99, .int .i64 cx, .int .i64 80] 41) U W → (W.cell? ⟨bt, 0, none⟩ = some (.int .i64 6) ∧ W.cell? ⟨bt, 1, none⟩ = some (.int .u32 cs) ∧ W.cell? ⟨bt, 2, none⟩ = some (.int .u32 99) ∧ W.cell? ⟨bt, 3, none⟩ = some (.int .i64 cx) ∧ W.cell? ⟨bt, 4, none⟩ = some (.int .i64 80)) from fun U W k => by
    have := k.2
    refine ⟨?_, ?_, ?_, ?_, ?_⟩ <;> simp [World.cell?, this])
  obtain ⟨t0, t1, t2, t3, t4⟩ := KT.out _ _ HM4.out
  go_upto_region 12 with (go_at_call 15; refine (HOP.out _ _ _ HL4.out).mono ?_; rintro e w5 ⟨rfl, g5, U5, o5, n5, k5, q5, r5⟩; have HO5 := Lib.hid o5; have HN5 := Lib.hid n5; have HL5 := Lib.hid k5; have HM5 := Lib.hid (HM4.out.step q5 r5); clear o5 n5 k5 q5 r5)
  clear t0 t1 t2 t3 t4
  obtain ⟨t0, t1, t2, t3, t4⟩ := KT.out _ _ HM5.out
  go_upto_region 13 with (go_at_call 15; refine (HAG.out _ _ _ _ HL5.out HO5.out).mono ?_; rintro e w6 ⟨rfl, hb⟩; have HL6 := Lib.hid (HL5.out.below hb); have HM6 := Lib.hid (HM5.out.below hb); clear hb)
  clear t0 t1 t2 t3 t4
  go_upto_region 14 with (go_at_call 20; refine (HGT.out _ _ _ _ HL6.out HO5.out).mono ?_; rintro e w7 ⟨rfl, hb⟩; have HL7 := Lib.hid (HL6.out.below hb); have HM7 := Lib.hid (HM6.out.below hb); clear hb)
  obtain ⟨bf, hbf⟩ : ∃ bf, w7.heap.size = bf := ⟨_, rfl⟩
  have k8 := HL7.out.below ((Below.refl _ w7).alloc (Nat.le_refl _) (.cells #[.int .i64 6, .int .u32 cs, .int .u32 99, .int .i64 cx, .int .i64 80, .int .i64 (-6), .int .u32 cs, .int .u32 99, .int .i64 cx, .int .i64 80, .int .i64 1, .int .i64 1, .int .i64 1, .bool true] 52))
  have n8 := HM7.out.below ((Below.refl _ w7).alloc (Nat.le_refl _) (.cells #[.int .i64 6, .int .u32 cs, .int .u32 99, .int .i64 cx, .int .i64 80, .int .i64 (-6), .int .u32 cs, .int .u32 99, .int .i64 cx, .int .i64 80, .int .i64 1, .int .i64 1, .int .i64 1, .bool true] 52))
  have m8 := Mx.new HL7.out (.cells #[.int .i64 6, .int .u32 cs, .int .u32 99, .int .i64 cx, .int .i64 80, .int .i64 (-6), .int .u32 cs, .int .u32 99, .int .i64 cx, .int .i64 80, .int .i64 1, .int .i64 1, .int .i64 1, .bool true] 52)
  rw [hbf] at m8 ⊢
  revert k8 m8 n8
  generalize w7.alloc (.cells #[.int .i64 6, .int .u32 cs, .int .u32 99, .int .i64 cx, .int .i64 80, .int .i64 (-6), .int .u32 cs, .int .u32 99, .int .i64 cx, .int .i64 80, .int .i64 1, .int .i64 1, .int .i64 1, .bool true] 52) = w8
  intro k8 n8 m8
  have HL8 := Lib.hid k8
  have HM8 := Lib.hid n8
  have HF8 := Lib.hid m8
  clear k8 m8 n8 hbf
  have KF := Lib.hid (show ∀ (U : Nat → Prop) (W : World), Mx bf (.cells #[.int .i64 6, .int .u32 cs, .int .u32 99, .int .i64 cx, .int .i64 80, .int .i64 (-6), .int .u32 cs, .int .u32 99, .int .i64 cx, .int .i64 80, .int .i64 1, .int .i64 1, .int .i64 1, .bool true] 52) U W → (W.cell? ⟨bf, 5, none⟩ = some (.int .i64 (-6)) ∧ W.cell? ⟨bf, 6, none⟩ = some (.int .u32 cs) ∧ W.cell? ⟨bf, 7, none⟩ = some (.int .u32 99) ∧ W.cell? ⟨bf, 8, none⟩ = some (.int .i64 cx) ∧ W.cell? ⟨bf, 9, none⟩ = some (.int .i64 80) ∧ W.cell? ⟨bf, 13, none⟩ = some (.bool true)) from fun U W k => by
    have := k.2
    refine ⟨?_, ?_, ?_, ?_, ?_, ?_⟩ <;> simp [World.cell?, this])
  obtain ⟨t0, t1, t2, t3, t4⟩ := KT.out _ _ HM8.out
  go_upto_region 15 with (go_at_call 22; refine (HAH.out _ _ _ _ HL8.out HO5.out).mono ?_; rintro e w9 ⟨rfl, hb⟩; have HL9 := Lib.hid (HL8.out.below hb); have HM9 := Lib.hid (HM8.out.below hb); have HF9 := Lib.hid (HF8.out.below hb); clear hb)
  clear t0 t1 t2 t3 t4
  obtain ⟨f5, f6, f7, f8, f9, f13⟩ := KF.out _ _ HF9.out
  go_upto_region 16 with (go_at_call 23; refine (HBH.out _ _ _ _ HL9.out HO5.out).mono ?_; rintro e wA ⟨rfl, hb⟩; have HLA := Lib.hid (HL9.out.below hb); have HMA := Lib.hid (HM9.out.below hb); have HFA := Lib.hid (HF9.out.below hb); clear hb)
  clear f5 f6 f7 f8 f9 f13
  obtain ⟨t0, t1, t2, t3, t4⟩ := KT.out _ _ HMA.out
  go_upto_region 17 with (go_at_call 23; refine (HBN.out _ _ _ _ HLA.out HO5.out).mono ?_; rintro e wB ⟨rfl, hb⟩; have HLB := Lib.hid (HLA.out.below hb); have HMB := Lib.hid (HMA.out.below hb); have HFB := Lib.hid (HFA.out.below hb); clear hb)
  clear t0 t1 t2 t3 t4
  have hmm := HM.out
  go_upto_region 18 with (first
    | (go_at_call 16; refine (HCM.out _).mono ?_; rintro e wC ⟨rfl, hb⟩; have HLC := Lib.hid (HLB.out.below hb); have HMC := Lib.hid (HMB.out.below hb); have HFC := Lib.hid (HFB.out.below hb); clear hb)
    | (go_at_call 15; refine (HNO.out _ _ _ _ HLC.out).mono ?_; rintro e wD ⟨rfl, hb⟩; have HLD := Lib.hid (HLC.out.below hb); have HMD := Lib.hid (HMC.out.below hb); have HFD := Lib.hid (HFC.out.below hb); clear hb))
  clear hmm
  go_upto_region 19 with (go_at_call 18; refine (HTO.out _ _ _ _ HLD.out HO5.out HN5.out).mono ?_; rintro e wE ⟨rfl, gE, UE, oE, kE, qE, rE⟩; have HOE := Lib.hid oE; have HLE := Lib.hid kE; have HME := Lib.hid (HMD.out.step qE rE); have HFE := Lib.hid (HFD.out.step qE rE); clear oE kE qE rE)
  obtain ⟨t0, t1, t2, t3, t4⟩ := KT.out _ _ HME.out
  go_upto_region 20 with (go_at_call 22; refine (HAN.out _ _ _ _ HLE.out HOE.out).mono ?_; rintro e wF ⟨rfl, hb⟩; have HLF := Lib.hid (HLE.out.below hb); have HFF := Lib.hid (HFE.out.below hb); clear hb)
  clear t0 t1 t2 t3 t4
  obtain ⟨f5, f6, f7, f8, f9, f13⟩ := KF.out _ _ HFF.out
  go_wp2_with (go_at_call 23; refine (HBG.out _ _ _ _ HLF.out HO5.out.okb HOE.out).mono ?_; rintro e wG ⟨rfl, hb⟩; have HLG := Lib.hid (HLF.out.below hb); have HFG := Lib.hid (HFF.out.below hb); clear hb; obtain ⟨f5, f6, f7, f8, f9, f13⟩ := KF.out _ _ HFG.out)
  all_goals
    go_ret
    exact ⟨rfl, HLG.out.bel⟩
theorem walk_FlowNames (a0 : Int) (a1 : Bool) (w : World) (w0 : (Lit.int .u16 a0).wf = true) (hE : TabAt 0 Lib.deBruijn64tab w ∧ 0 < w.heap.size) :
    Calls Tryd.prog 7 #[.int .u16 a0, .bool a1] w fun e w' => e = .returned (.bool true) ∧ Below w.heap.size w w' := by
  have hn : 0 ≤ a0 ∧ a0 < 65536 := by
    simp [Lit.wf, IntKind.min, IntKind.max, IntKind.signed, IntKind.bits] at w0
    omega
  cases a1
  · exact walk_Names_nat a0 w hn hE
  · exact walk_Names_dsr a0 w hn hE
end Go.Proofs.YtpbknbnhljjjcaaDoor
