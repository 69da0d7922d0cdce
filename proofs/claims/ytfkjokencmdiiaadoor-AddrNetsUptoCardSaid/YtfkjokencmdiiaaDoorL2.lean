import Derived.Test.YtfkjokencmdiiaaDoorL1
namespace Go.Proofs.YtfkjokencmdiiaaDoor
open Go.RowKit Go.Shelf

/-- A number cut to its first k bits. -/
def cutN (a k : Nat) : Nat := a - a % 2 ^ (32 - k)
theorem cutN_le (a k : Nat) : cutN a k ≤ a := Nat.sub_le _ _
theorem cutN_div (a k : Nat) : cutN a k = a / 2 ^ (32 - k) * 2 ^ (32 - k) := by
  have := Nat.div_add_mod a (2 ^ (32 - k))
  rw [Nat.mul_comm] at this
  unfold cutN
  omega
theorem cutN_mod (a k : Nat) : cutN a k % 2 ^ (32 - k) = 0 := by
  rw [cutN_div]
  exact Nat.mul_mod_left _ _
theorem cutN_cutN {k l : Nat} (a : Nat) (h : k ≤ l) (hl : l ≤ 32) : cutN (cutN a l) k = cutN a k := by
  have e : 2 ^ (32 - k) = 2 ^ (32 - l) * 2 ^ (l - k) := by rw [← Nat.pow_add, show 32 - l + (l - k) = 32 - k by omega]
  rw [cutN_div (cutN a l) k, cutN_div a k, cutN_div a l, e, ← Nat.div_div_eq_div_mul, ← Nat.div_div_eq_div_mul, Nat.mul_div_cancel _ (Nat.two_pow_pos _)]
theorem and_cut (a k : Nat) (ha : a < 4294967296) (hk : k ≤ 32) : bits .and .u32 (a : Int) (maskN k : Int) = (cutN a k : Int) := by
  rw [u32_and_nat a _ ha (mask_lt k), and_mask a k ha hk]; rfl

/-- Whether an address is in a net, for any numbers. -/
def hasB (a k x : Int) : Bool := decide (0 ≤ k ∧ k ≤ 32 ∧ a.toNat % 2 ^ (32 - k.toNat) = 0 ∧ cutN x.toNat k.toNat = a.toNat)
theorem has_any (a k x : Int) (ha : 0 ≤ a ∧ a < 4294967296) (hx : 0 ≤ x ∧ x < 4294967296) (w : World) :
    Calls Tryd.prog 16 #[.agg #[.int .u32 a, .int .i64 k], .int .u32 x] w fun e w' => e = .returned (.bool (hasB a k x)) ∧ Below w.heap.size w w' := by
  obtain ⟨A, rfl⟩ : ∃ A : Nat, a = A := ⟨a.toNat, by omega⟩
  obtain ⟨X, rfl⟩ : ∃ X : Nat, x = X := ⟨x.toNat, by omega⟩
  by_cases h : 0 ≤ k ∧ k ≤ 32
  · obtain ⟨K, rfl⟩ : ∃ K : Nat, k = K := ⟨k.toNat, by omega⟩
    refine (has_calls A K X (by omega) (by omega) (by omega) w).mono ?_
    rintro e w' ⟨he, hb⟩
    refine ⟨?_, hb⟩
    rw [he]
    congr 2
    unfold hasB cutN
    simp only [Int.toNat_natCast]
    exact decide_eq_decide.2 ⟨fun h2 => ⟨h.1, h.2, h2.1, h2.2⟩, fun h2 => ⟨h2.2.2.1, h2.2.2.2⟩⟩
  · have e : hasB (A : Int) k (X : Int) = false := by
      unfold hasB
      simp only [decide_eq_false_iff_not]
      exact fun h2 => h ⟨h2.1, h2.2.1⟩
    rw [e]
    exact has_bad A k X (by omega) w
theorem hasB_cut {a k x : Nat} (hk : k ≤ 32) : hasB (cutN a k : Int) (k : Int) (x : Int) = decide (cutN x k = cutN a k) := by
  unfold hasB
  simp only [Int.toNat_natCast]
  refine decide_eq_decide.2 ⟨fun h => h.2.2.2, fun h => ⟨by omega, by omega, cutN_mod a k, h⟩⟩

theorem box3 {w wy : World} {a b c d e f : Value} (hB : Below (((w.alloc (.cells #[a, b] 30)).alloc (.cells #[c, d] 30)).alloc (.cells #[e, f] 30)).heap.size (((w.alloc (.cells #[a, b] 30)).alloc (.cells #[c, d] 30)).alloc (.cells #[e, f] 30)) wy) :
    wy.cell? ⟨w.heap.size, 0, none⟩ = some a ∧ wy.cell? ⟨w.heap.size, 1, none⟩ = some b ∧ wy.cell? ⟨w.heap.size + 1, 0, none⟩ = some c ∧ wy.cell? ⟨w.heap.size + 1, 1, none⟩ = some d ∧ wy.cell? ⟨w.heap.size + 1 + 1, 0, none⟩ = some e ∧ wy.cell? ⟨w.heap.size + 1 + 1, 1, none⟩ = some f ∧ Below w.heap.size w wy := by
  have h2 : Below (w.alloc (.cells #[a, b] 30)).heap.size (w.alloc (.cells #[a, b] 30)) wy := (((Below.refl _ _).alloc (Nat.le_refl _) _).alloc (by simp) _).trans (hB.mono (by simp))
  have h1 : Below ((w.alloc (.cells #[a, b] 30)).alloc (.cells #[c, d] 30)).heap.size ((w.alloc (.cells #[a, b] 30)).alloc (.cells #[c, d] 30)) wy := ((Below.refl _ _).alloc (Nat.le_refl _) _).trans (hB.mono (by simp))
  obtain ⟨⟨k0, k1⟩, k2⟩ := box2 h2
  obtain ⟨⟨k3, k4⟩, _⟩ := box2 h1
  obtain ⟨⟨k5, k6⟩, _⟩ := box2 hB
  simp only [World.size_alloc] at k3 k4 k5 k6
  exact ⟨k0, k1, k3, k4, k5, k6, k2⟩

set_option maxRecDepth 100000 in
set_option maxHeartbeats 3000000 in
theorem walk_AddrNested (a0 : Int) (a1 : Int) (a2 : Int) (a3 : Int) (a4 : Int) (w : World) (w0 : (Lit.int .u32 a0).wf = true) (w1 : (Lit.int .u32 a1).wf = true) (w2 : (Lit.int .u8 a2).wf = true) (w3 : (Lit.int .u8 a3).wf = true) (w4 : (Lit.int .u32 a4).wf = true) (hE : Env w) :
    Calls Tryd.prog 7 #[.int .u32 a0, .int .u32 a1, .int .u8 a2, .int .u8 a3, .int .u32 a4] w fun e w' => e = .returned (.bool true) ∧ Below w.heap.size w w' := by
  obtain ⟨a, rfl, ha⟩ := u32_nat w0
  obtain ⟨b, rfl, hb⟩ := u32_nat w1
  obtain ⟨mo, rfl, _⟩ := u8_nat w2
  obtain ⟨bi, rfl, _⟩ := u8_nat w3
  obtain ⟨x, rfl, hx⟩ := u32_nat w4
  have HE := Lib.hid hE
  have HB := Lib.hid (Below.refl w.heap.size w)
  obtain ⟨k, hk⟩ : ∃ k : Nat, bi % 33 = k := ⟨_, rfl⟩
  have hkI : (bi : Int) % 33 = (k : Int) := by omega
  have hk3 : k ≤ 32 := by omega
  obtain ⟨r, hr⟩ : ∃ r : Nat, mo % (33 - k) = r := ⟨_, rfl⟩
  have hr3 : r < 33 - k := by rw [← hr]; exact Nat.mod_lt _ (by omega)
  have hrI : (mo : Int) % (33 - (k : Int)) = (r : Int) := by
    rw [show (33 : Int) - (k : Int) = ((33 - k : Nat) : Int) by omega, ← Int.natCast_emod, hr]
  have hne : (33 : Int) - (k : Int) ≠ 0 := by omega
  clear w0 w1 w2 w3 w4 hE hk hr
  obtain ⟨l, hl⟩ : ∃ l : Nat, k + r = l := ⟨_, rfl⟩
  have hlI : (k : Int) + (r : Int) = (l : Int) := by omega
  have hl3 : l ≤ 32 := by omega
  have hkl : k ≤ l := by omega
  have m1 := maskI_nat hk3
  have m2 := maskI_nat hl3
  have c1 := and_cut a k ha hk3
  have c2 := and_cut a l ha hl3
  have c3 := and_cut b k hb hk3
  have p1 := @hasB_cut a k x hk3
  have p2 := @hasB_cut a l x hl3
  have p3 := @hasB_cut b k x hk3
  have p4 := @hasB_cut a l a hl3
  simp only [decide_true] at p4
  have q1 : cutN x l = cutN a l → cutN x k = cutN a k := fun e => by rw [← cutN_cutN x hkl hl3, e, cutN_cutN a hkl hl3]
  have b1 : 0 ≤ (cutN a k : Int) ∧ (cutN a k : Int) < 4294967296 := by have := cutN_le a k; omega
  have b2 : 0 ≤ (cutN a l : Int) ∧ (cutN a l : Int) < 4294967296 := by have := cutN_le a l; omega
  have b3 : 0 ≤ (cutN b k : Int) ∧ (cutN b k : Int) < 4294967296 := by have := cutN_le b k; omega
  have b4 : 0 ≤ (x : Int) ∧ (x : Int) < 4294967296 := by omega
  have b5 : 0 ≤ (a : Int) ∧ (a : Int) < 4294967296 := by omega
  have BB := Lib.hid (And.intro b1 (And.intro b2 (And.intro b3 (And.intro b4 b5))))
  clear b1 b2 b3 b4 b5 ha hb hx hl hr3
  generalize cutN a k = A at *
  generalize cutN a l = L at *
  generalize cutN b k = O at *
  generalize cutN x k = X at *
  generalize cutN x l = Z at *
  have S1 : Stage 1 := Stage.mk 1
  by_cases e1 : X = A
  case' pos =>
    have f1 : decide (X = A) = true := by simp [e1]
    rw [f1] at p1
    by_cases e3 : X = O
    case' pos =>
      have f3 : decide (X = O) = true := by simp [e3]
      rw [f3] at p3
      have hAO : ((A : Int) == (O : Int)) = true := by simp; omega
    case' neg =>
      have f3 : decide (X = O) = false := by simp [e3]
      rw [f3] at p3
      have hAO : ((A : Int) == (O : Int)) = false := by simp; omega
    all_goals
      obtain ⟨z, hz⟩ : ∃ z, decide (Z = L) = z := ⟨_, rfl⟩
      rw [hz] at p2
      clear hz q1
      cases z
  case' neg =>
    have f1 : decide (X = A) = false := by simp [e1]
    have f2 : decide (Z = L) = false := by
      have : ¬ Z = L := fun e => e1 (q1 e)
      simp [this]
    rw [f1] at p1
    rw [f2] at p2
    clear q1
    by_cases e3 : A = O
    case' pos => have hAO : ((A : Int) == (O : Int)) = true := by simp; omega
    case' neg => have hAO : ((A : Int) == (O : Int)) = false := by simp; omega
  all_goals
    go_enter Tryd.func7, Tryd.ntmps7
    go_wp2_with (first
      | (go_at_call 10; refine (examples02 _ HE.out).mono ?_; rintro e wx ⟨rfl, hB⟩; replace HB := Lib.hid (below_step HB.out hB); clear hB)
      | (go_at_call 15; refine (mask_any _ _).mono ?_; rintro e wx ⟨rfl, rfl⟩)
      | (go_at_call 16; clear S1; refine (has_any _ _ _ BB.out.2.1 BB.out.2.2.2.1 _).mono ?_; rintro e wy ⟨rfl, hB⟩; obtain ⟨n0, n1, n2, n3, n4, n5, hB2⟩ := box3 hB; replace HB := Lib.hid (below_step HB.out hB2); clear hB hB2)
      | (go_at_call 16; refine (has_any _ _ _ (by first | exact BB.out.1 | exact BB.out.2.1 | exact BB.out.2.2.1) (by first | exact BB.out.2.2.2.1 | exact BB.out.2.2.2.2) _).mono ?_; rintro e wz ⟨rfl, hB⟩; replace n0 := (hB.cell (World.block_lt_of_cell? _ _ n0)).trans n0; replace n1 := (hB.cell (World.block_lt_of_cell? _ _ n1)).trans n1; replace n2 := (hB.cell (World.block_lt_of_cell? _ _ n2)).trans n2; replace n3 := (hB.cell (World.block_lt_of_cell? _ _ n3)).trans n3; replace n4 := (hB.cell (World.block_lt_of_cell? _ _ n4)).trans n4; replace n5 := (hB.cell (World.block_lt_of_cell? _ _ n5)).trans n5; replace HB := Lib.hid (below_step HB.out hB); clear hB))
    go_ret
    exact ⟨rfl, HB.out⟩
end Go.Proofs.YtfkjokencmdiiaaDoor
