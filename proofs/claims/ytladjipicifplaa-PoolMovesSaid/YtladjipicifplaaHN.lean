import Derived.Test.YtladjipicifplaaHM
namespace Go.Proofs.Ytladjipicifplaa
open Go.RowKit Go.Shelf Go.Maps

theorem two_start {B Xa Xb : Nat} {p q : Po} {w w1 w2 : World} (hB : B ≤ w.heap.size) (h1 : PoolAt w.heap.size (fun b => w.heap.size ≤ b ∧ b < w1.heap.size) Xa 0 p w1) (h2 : PoolAt w1.heap.size (fun b => w1.heap.size ≤ b ∧ b < w2.heap.size) Xb 0 q w2) (hb : Below w1.heap.size w1 w2) : TwoP B Xa Xb 0 p q w2 :=
  ⟨_, _, (at_below h1 hb).down hB, h2.down (by have := h1.low.2.2; omega), fun i a b => by omega⟩
theorem new_other (key : ByteArray) (G : Int) (hG : (if key.size = 16 then (0 : Int) else 1) = G) (w : World) :
    Calls Try.prog 34 #[.int .i64 12, .string key] w fun e w' => (∃ v, e = .returned (.tuple #[.pointer v, .int .i64 G])) ∧ Below w.heap.size w w' := by
  by_cases hk : key.size = 16
  · rw [if_pos hk] at hG
    subst hG
    refine (at_new 12 (by omega) (by omega) key hk w).mono ?_
    rintro e w' ⟨Xp, he, _, hb⟩
    exact ⟨⟨_, he⟩, hb⟩
  · rw [if_neg hk] at hG
    subst hG
    refine (pool_bad 12 (by omega) (by omega) key hk w).mono ?_
    rintro e w' ⟨he, hb⟩
    exact ⟨⟨_, he⟩, hb⟩
def seqS (i : Nat) : Po := seqP 12 poKey (fun _ => 0) 0 i
theorem seqS_all (i : Nat) (h : i ≤ 12) : SeqAll 12 poKey (fun _ => 0) 0 i := seq_all _ _ (by omega) (by omega) rfl i h
attribute [irreducible] seqS
/-- Somebody is to drain, whoever. -/
def codeD (p : Po) (d : Int) : Int := match p.all d with | some m => if m.state = 1 then 0 else 15 | none => 19
def afterD (p : Po) (d : Int) : Po := match p.all d with | some m => if m.state = 1 then drainP p d m else p | none => p
theorem Good.after {p : Po} (h : Good p) (d : Int) : Good (afterD p d) := by
  unfold afterD
  cases e : p.all d with
  | none => exact h
  | some m =>
    dsimp only
    by_cases hs : m.state = 1
    · rw [if_pos hs]; exact h.drain e hs
    · rw [if_neg hs]; exact h
theorem at_drain_any {B Xp N : Nat} {S : Nat → Prop} {p : Po} {w : World} (h : PoolAt B S Xp N p w) (g : Good p) (hN : N < maxLen) (d : Int) (hd : -9223372036854775808 ≤ d ∧ d ≤ 9223372036854775807) :
    Calls Try.prog 36 #[.pointer (some ⟨Xp, 0, none⟩), .int .i64 d] w fun e w' => e = .returned (.int .i64 (codeD p d)) ∧ Turned B S Xp (N + 1) (afterD p d) w w' := by
  unfold codeD afterD
  cases e : p.all d with
  | none =>
    refine (at_drain_none h hd e).mono ?_
    rintro e w' ⟨he, hb⟩
    exact ⟨he, turned_below h (Nat.le_succ _) hb⟩
  | some m =>
    dsimp only
    by_cases hs : m.state = 1
    · rw [if_pos hs, if_pos hs]; exact at_drain h g hN e hs
    · rw [if_neg hs, if_neg hs]
      refine (at_drain_state h hd e hs).mono ?_
      rintro e w' ⟨he, hb⟩
      exact ⟨he, turned_below h (Nat.le_succ _) hb⟩
theorem seqS_succ (k : Nat) : addP (seqS k) ((k + 1 : Nat) : Int) 0 0 = seqS (k + 1) := by unfold seqS; rfl
theorem seqS_zero : seqS 0 = newPo 12 poKey := by unfold seqS; rfl
theorem two_add1 {B Xa Xb N k j : Nat} {Q : Po} {w : World} (h : TwoP B Xa Xb N (seqS k) Q w) (hj : k + 1 = j) (hk : k < 12) (hN : N + 1 < maxLen) :
    Calls Try.prog 35 #[.pointer (some ⟨Xa, 0, none⟩), .agg #[.int .i64 (j : Int), .int .u32 0, .int .i64 0]] w fun e w' => e = .returned (.int .i64 0) ∧ TwoP B Xa Xb (N + 1) (seqS (k + 1)) Q w' ∧ Below B w w' := by
  subst hj
  have hs := seqS_all k (by omega)
  unfold seqS at *
  exact h.call (Nat.le_succ _) (fun S hS => at_add hS hs.good hN (by omega) (by omega) (hs.none _ (.inr (by omega))) (by rw [hs.act, hs.room]; exact hk))
theorem two_add2 {B Xa Xb N k j : Nat} {Q : Po} {w : World} (h : TwoP B Xa Xb N Q (seqS k) w) (hj : k + 1 = j) (hk : k < 12) (hN : N + 1 < maxLen) :
    Calls Try.prog 35 #[.pointer (some ⟨Xb, 0, none⟩), .agg #[.int .i64 (j : Int), .int .u32 0, .int .i64 0]] w fun e w' => e = .returned (.int .i64 0) ∧ TwoP B Xa Xb (N + 1) Q (seqS (k + 1)) w' ∧ Below B w w' :=
  (two_add1 h.swap hj hk hN).mono fun _ _ ⟨h1, h2, h3⟩ => ⟨h1, h2.swap, h3⟩
theorem two_drain1 {B Xa Xb N : Nat} {p Q : Po} {w : World} (h : TwoP B Xa Xb N p Q w) (g : Good p) (hN : N < maxLen) (d : Int) (hd : 0 ≤ d ∧ d ≤ 100) :
    Calls Try.prog 36 #[.pointer (some ⟨Xa, 0, none⟩), .int .i64 d] w fun e w' => e = .returned (.int .i64 (codeD p d)) ∧ TwoP B Xa Xb (N + 1) (afterD p d) Q w' ∧ Below B w w' :=
  h.call (Nat.le_succ _) (fun S hS => at_drain_any hS g hN d (by omega))
theorem two_drain2 {B Xa Xb N : Nat} {p Q : Po} {w : World} (h : TwoP B Xa Xb N Q p w) (g : Good p) (hN : N < maxLen) (d : Int) (hd : 0 ≤ d ∧ d ≤ 100) :
    Calls Try.prog 36 #[.pointer (some ⟨Xb, 0, none⟩), .int .i64 d] w fun e w' => e = .returned (.int .i64 (codeD p d)) ∧ TwoP B Xa Xb (N + 1) Q (afterD p d) w' ∧ Below B w w' :=
  (two_drain1 h.swap g hN d hd).mono fun _ _ ⟨h1, h2, h3⟩ => ⟨h1, h2.swap, h3⟩
/-- A pool's answer to a number, wherever it lies. -/
def Says (p : Po) (v : Nat) (i a q : Int) (ok : Bool) : Prop := ∀ (S : Nat → Prop) (B Xp N : Nat) (w : World), PoolAt B S Xp N p w →
    Calls Try.prog 37 #[.pointer (some ⟨Xp, 0, none⟩), tupleV 6 v 9 (v % 60000) 80] w fun e w' => e = .returned (.tuple #[.agg #[.int .i64 i, .int .u32 a, .int .i64 q], .bool ok]) ∧ Below w.heap.size w w'
/-- What every pool like it answers to a number. -/
theorem same_choice {p : Po} (g : Good p) (v : Nat) (hv : v < 4294967296) : ∃ i a q : Int, Says p v i a q (decide (0 < (p.act : Int))) := by
  by_cases h0 : p.act = 0
  · refine ⟨0, 0, 0, fun S B Xp N w h => ?_⟩
    rw [h0]
    exact at_choose_none h h0 6 v 9 (v % 60000) 80 (by omega) hv (by omega) (by omega) (by omega)
  · obtain ⟨id, hp⟩ := g.pickId h0 (tupK p.key 6 v 9 (v % 60000) 80)
    obtain ⟨m, g1, _⟩ := hp.mem g
    refine ⟨id, m.addr, m.port, fun S B Xp N w h => ?_⟩
    have e : decide (0 < (p.act : Int)) = true := by simp; omega
    rw [e]
    exact at_choose h g h0 6 v 9 (v % 60000) 80 (by omega) hv (by omega) (by omega) (by omega) hp g1
theorem two_says1 {B Xa Xb N v : Nat} {p Q : Po} {i a q : Int} {ok : Bool} {w : World} (h : TwoP B Xa Xb N p Q w) (hs : Says p v i a q ok) :
    Calls Try.prog 37 #[.pointer (some ⟨Xa, 0, none⟩), tupleV 6 v 9 (v % 60000) 80] w fun e w' => e = .returned (.tuple #[.agg #[.int .i64 i, .int .u32 a, .int .i64 q], .bool ok]) ∧ Below w.heap.size w w' := by
  obtain ⟨S, T, h1, h2, h3⟩ := h
  exact hs _ _ _ _ _ h1
theorem two_says2 {B Xa Xb N v : Nat} {p Q : Po} {i a q : Int} {ok : Bool} {w : World} (h : TwoP B Xa Xb N Q p w) (hs : Says p v i a q ok) :
    Calls Try.prog 37 #[.pointer (some ⟨Xb, 0, none⟩), tupleV 6 v 9 (v % 60000) 80] w fun e w' => e = .returned (.tuple #[.agg #[.int .i64 i, .int .u32 a, .int .i64 q], .bool ok]) ∧ Below w.heap.size w w' := two_says1 h.swap hs
theorem two_act1 {B Xa Xb N : Nat} {p Q : Po} {w : World} (h : TwoP B Xa Xb N p Q w) (A : Int) (hA : (p.act : Int) = A) : Calls Try.prog 39 #[.pointer (some ⟨Xa, 0, none⟩)] w fun e w' => e = .returned (.int .i64 A) ∧ w' = w := by
  obtain ⟨S, T, h1, h2, h3⟩ := h
  exact at_active h1 A hA
theorem two_act2 {B Xa Xb N : Nat} {p Q : Po} {w : World} (h : TwoP B Xa Xb N Q p w) (A : Int) (hA : (p.act : Int) = A) : Calls Try.prog 39 #[.pointer (some ⟨Xb, 0, none⟩)] w fun e w' => e = .returned (.int .i64 A) ∧ w' = w := two_act1 h.swap A hA
theorem RowIn.cell {k : IntKind} {w w' : World} {x : Addr} {len cap : Nat} {zs : List Int} (h : RowIn k w (some x) len cap zs) (hb : Below w.heap.size w w') {i : Nat} (hi : i < len) {v : Int} (hz : zs.getD i 0 = v) : w'.cell? (x.add i) = some (.int k v) := by
  obtain ⟨y, hy, _, _, hc, _⟩ := h.read hb hi
  cases hy
  rw [hc, hz]
theorem same_16 {n : Nat} {G : Int} (h : (if n = 16 then (0 : Int) else 1) = G) : ((G == 0) == ((n : Int) == 16)) = true := by
  by_cases e : n = 16
  · rw [if_pos e] at h
    subst h
    subst e
    rfl
  · rw [if_neg e] at h
    subst h
    have e2 : ((n : Int) == 16) = false := by simp; omega
    rw [e2]
    rfl
theorem box_on {wx wt : World} {o : Obj} (hB : Below (wx.alloc o).heap.size (wx.alloc o) wt) : wt.heap[wx.heap.size]? = some o := (hB.block _ (by simp)).trans (World.alloc_heap_new wx o)
theorem box_go {w w' : World} {b : Nat} {o : Obj} (h : w.heap[b]? = some o) (hB : Below w.heap.size w w') : w'.heap[b]? = some o := (hB.block _ (Array.getElem?_eq_some_iff.1 h).1).trans h
theorem u32_nat {x : Int} (h : (Lit.int .u32 x).wf = true) : ∃ z : Nat, x = (z : Int) ∧ z < 4294967296 := by
  simp [Lit.wf, IntKind.min, IntKind.max, IntKind.signed, IntKind.bits] at h
  exact ⟨x.toNat, by omega, by omega⟩

set_option maxRecDepth 100000 in
set_option maxHeartbeats 2000000 in
theorem walk_PoolSame (a0 : Int) (a1 : Int) (a2 : Option Addr) (len2 cap2 : Nat) (z2 : List Int) (a3 : ByteArray) (w : World) (w0 : (Lit.int .u8 a0).wf = true) (w1 : (Lit.int .u8 a1).wf = true) (w2 : RowIn .u32 w a2 len2 cap2 z2) (_w3 : a3.size ≤ maxLen) :
    Calls Try.prog 12 #[.int .u8 a0, .int .u8 a1, .slice a2 len2 cap2, .string a3] w fun e w' => e = .returned (.bool true) ∧ Below w.heap.size w w' := by
  obtain ⟨m, rfl, hm⟩ := u8_nat w0
  obtain ⟨q, rfl, hq⟩ := u8_nat w1
  have hl1 : len2 ≤ cap2 := w2.len.1
  have hl2 : cap2 ≤ 9223372036854775807 := w2.len.2
  obtain ⟨n, hn2⟩ : ∃ n, 1 + m % 10 = n := ⟨_, rfl⟩
  have hn : (1 : Int) + (m : Int) % 10 = (n : Int) := by omega
  have hn10 : n ≤ 10 := by omega
  obtain ⟨d, hd2⟩ : ∃ d, q % 11 = d := ⟨_, rfl⟩
  have hd : (q : Int) % 11 = (d : Int) := by omega
  have hd10 : d ≤ 10 := by omega
  clear hn2 hd2 hm hq
  obtain ⟨G, hG⟩ : ∃ G : Int, (if a3.size = 16 then (0 : Int) else 1) = G := ⟨_, rfl⟩
  have HO := Lib.hid (fun w => new_other a3 G hG w)
  have HG := Lib.hid hG
  have W2 := Lib.hid w2
  have HB := Lib.hid (Below.refl w.heap.size w)
  have ST := Stage.mk 0
  clear w0 w1 w2 hG
  go_enter Try.func12, Try.ntmps12
  go_wp2_with (first
    | (go_at_call 33; refine (examples13 _).mono ?_; rintro e wx ⟨rfl, hB⟩; replace HB := Lib.hid (below_step HB.out hB); clear hB)
    | (go_at_call 34; have := (ST : Stage 0); clear this; replace ST := Stage.mk 1; refine (at_new 12 (by omega) (by omega) poKey rfl _).mono ?_; rintro e wa ⟨Xa, rfl, hA, hB⟩; have HA := Lib.hid hA; have HB1 := Lib.hid hB; clear hA hB)
    | (go_at_call 34; have := (ST : Stage 1); clear this; replace ST := Stage.mk 2; refine (at_new 12 (by omega) (by omega) poKey rfl _).mono ?_; rintro e wb ⟨Xb, rfl, hA, hB⟩; have HT := Lib.hid (two_start HB.out.size HA.out hA hB); replace HB := Lib.hid (below_step (below_step HB.out HB1.out) hB); clear hA hB HA HB1)
    | (go_at_call 34; have := (ST : Stage 2); clear this; replace ST := Stage.mk 3; refine (HO.out _).mono ?_; rintro e wc ⟨⟨vg, rfl⟩, hB⟩; replace HT := Lib.hid (HT.out.below hB); replace HB := Lib.hid (below_step HB.out hB); clear hB))
  go_loopw [17] (fun i wr => ∃ k : Nat, k ≤ n ∧ i = .int .i64 ((k + 1 : Nat) : Int) ∧ TwoP w.heap.size Xa Xb (k + k) (seqS k) (seqS k) wr ∧ Below w.heap.size w wr) (fun i _ => n + 1 - (intOf i).toNat)
  case atStart => exact ⟨0, Nat.zero_le _, rfl, by rw [seqS_zero]; exact HT.out, HB.out⟩
  case round =>
    obtain ⟨k, hk, rfl, hT, hB⟩ := hrel
    have HT := Lib.hid hT
    have HB := Lib.hid hB
    clear hT hB
    obtain ⟨j, hj⟩ : ∃ j, k + 1 = j := ⟨_, rfl⟩
    rw [hj]
    by_cases hlt : k < n
    · have hjn : (j : Int) ≤ (n : Int) := by omega
      have hkm : k + k + 1 < maxLen := by unfold maxLen; omega
      have hkm2 : k + k + 1 + 1 < maxLen := by unfold maxLen; omega
      go_wp2_with (first
        | (go_at_call 35; refine (two_add1 HT.out hj (by omega) hkm).mono ?_; rintro e wx ⟨rfl, hT, hB⟩; replace HT := Lib.hid hT; replace HB := Lib.hid (HB.out.trans hB); clear hT hB)
        | (go_at_call 35; refine (two_add2 HT.out hj (by omega) hkm2).mono ?_; rintro e wx ⟨rfl, hT, hB⟩; replace HT := Lib.hid hT; replace HB := Lib.hid (HB.out.trans hB); clear hT hB))
      subst hj
      refine ⟨⟨k + 1, by omega, by simp, ?_, HB.out⟩, by simp [intOf]; omega⟩
      rw [show k + 1 + (k + 1) = k + k + 1 + 1 by omega]
      exact HT.out
    · obtain rfl : k = n := by omega
      have hjn : ¬ (j : Int) ≤ (k : Int) := by omega
      have hs := seqS_all k (by omega)
      have hgood : Good (seqS k) := by unfold seqS; exact hs.good
      have HS := Lib.hid hgood
      clear hgood hs
      obtain ⟨P, hP⟩ : ∃ P, seqS k = P := ⟨_, rfl⟩
      rw [hP] at HT HS
      obtain ⟨P2, hP2⟩ : ∃ P2, afterD P (d : Int) = P2 := ⟨_, rfl⟩
      have HS2 := Lib.hid (hP2 ▸ HS.out.after (d : Int))
      have hkm : k + k < maxLen := by unfold maxLen; omega
      have hkm2 : k + k + 1 < maxLen := by unfold maxLen; omega
      have hdd : (0 : Int) ≤ (d : Int) ∧ (d : Int) ≤ 100 := by omega
      go_wp2_with (first
        | (go_at_call 36; refine (two_drain1 HT.out HS.out hkm (d : Int) hdd).mono ?_; rintro e wx ⟨rfl, hT, hB⟩; rw [hP2] at hT; replace HT := Lib.hid hT; replace HB := Lib.hid (HB.out.trans hB); clear hT hB)
        | (go_at_call 36; refine (two_drain2 HT.out HS.out hkm2 (d : Int) hdd).mono ?_; rintro e wx ⟨rfl, hT, hB⟩; rw [hP2] at hT; replace HT := Lib.hid hT; replace HB := Lib.hid (HB.out.trans hB); clear hT hB))
      clear hjn hkm hkm2 hdd
      have HST := ST
      clear ST
      go_loopw [18] (fun ii wr => ∃ i : Nat, i ≤ len2 ∧ ii = .int .i64 (i : Int) ∧ TwoP w.heap.size Xa Xb (k + k + 1 + 1) P2 P2 wr ∧ Below w.heap.size w wr) (fun ii _ => len2 - (intOf ii).toNat)
      case atStart => exact ⟨0, Nat.zero_le _, rfl, HT.out, HB.out⟩
      case round =>
        obtain ⟨i, hi, rfl, hT, hB⟩ := hrel
        have HT := Lib.hid hT
        have HB := Lib.hid hB
        clear hT hB
        obtain ⟨A, hA⟩ : ∃ A : Int, (P2.act : Int) = A := ⟨_, rfl⟩
        have HA := Lib.hid hA
        by_cases hlt : i < len2
        · have hlti : (i : Int) < (len2 : Int) := by omega
          by_cases h40 : (i : Int) < 40
          · obtain ⟨x, rfl, _, _, hx, hwf⟩ := W2.out.read HB.out hlt
            obtain ⟨v, hz, hv⟩ := u32_nat hwf
            rw [hz] at hx
            have HZ := Lib.hid hz
            obtain ⟨s1, s2, s3, hsay⟩ := same_choice HS2.out v hv
            rw [hA] at hsay
            have ST := Stage.mk 0
            by_cases hA0 : 0 < A
            case' pos =>
              have e0 : decide (0 < A) = true := by simp [hA0]
            case' neg =>
              have e0 : decide (0 < A) = false := by simp [hA0]
            all_goals
              rw [e0] at hsay
              have HSAY := Lib.hid hsay
              clear hsay hwf hz hA e0
              go_wp2_with (first
                | (go_at_call 38; have := (ST : Stage 0); clear this; replace ST := Stage.mk 1; refine (tuple_ok v hv _).mono ?_; rintro e wt ⟨rfl, hB⟩; replace HT := Lib.hid (HT.out.below hB); replace HB := Lib.hid (below_step HB.out hB); clear hB)
                | (go_at_call 37; have := (ST : Stage 1); clear this; replace ST := Stage.mk 2; refine (two_says1 HT.out HSAY.out).mono ?_; rintro e wx ⟨rfl, hB⟩; replace HT := Lib.hid (HT.out.below hB); replace HB := Lib.hid (below_step HB.out hB); have hx2 := W2.out.cell (HB.out.alloc HB.out.size (.cells #[.int .i64 s1, .int .u32 s2, .int .i64 s3] 71)) hlt HZ.out; clear hB)
                | (go_at_call 38; have := (ST : Stage 2); clear this; replace ST := Stage.mk 3; refine (tuple_ok v hv _).mono ?_; rintro e wt ⟨rfl, hB⟩; replace HT := Lib.hid ((HT.out.below ((Below.refl _ _).alloc (Nat.le_refl _) _)).below hB); replace HB := Lib.hid (below_step (HB.out.alloc HB.out.size _) hB); have HX := Lib.hid (box_on hB); clear hB)
                | (go_at_call 37; have := (ST : Stage 3); clear this; replace ST := Stage.mk 4; refine (two_says2 HT.out HSAY.out).mono ?_; rintro e wy ⟨rfl, hB⟩; replace HT := Lib.hid (HT.out.below hB); replace HB := Lib.hid (below_step HB.out hB); have hbx := box_go HX.out hB; obtain ⟨d0, d1, d2⟩ := cell3 hbx; have lx := (Array.getElem?_eq_some_iff.1 hbx).1; clear hB hbx)
                | (go_at_call 39; refine (two_act1 (HT.out.below ((Below.refl _ _).alloc (Nat.le_refl _) _)) A HA.out).mono ?_; rintro e wu ⟨rfl, rfl⟩))
              exact ⟨⟨i + 1, by omega, by simp, HT.out.below ((Below.refl _ _).alloc (Nat.le_refl _) _), HB.out.alloc HB.out.size _⟩, by simp [intOf]; omega⟩
          · go_wp2_with (first
              | (go_at_call 39; refine (two_act1 HT.out A HA.out).mono ?_; rintro e wu ⟨rfl, rfl⟩)
              | (go_at_call 39; refine (two_act2 HT.out A HA.out).mono ?_; rintro e wu ⟨rfl, rfl⟩))
            go_ret
            exact ⟨by rw [same_16 HG.out]; rfl, HB.out⟩
        · obtain rfl : i = len2 := by omega
          go_wp2_with (first
              | (go_at_call 39; refine (two_act1 HT.out A HA.out).mono ?_; rintro e wu ⟨rfl, rfl⟩)
              | (go_at_call 39; refine (two_act2 HT.out A HA.out).mono ?_; rintro e wu ⟨rfl, rfl⟩))
          go_ret
          exact ⟨by rw [same_16 HG.out]; rfl, HB.out⟩
end Go.Proofs.Ytladjipicifplaa
