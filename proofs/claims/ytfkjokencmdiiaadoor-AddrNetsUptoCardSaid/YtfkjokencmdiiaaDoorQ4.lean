import Derived.Test.YtfkjokencmdiiaaDoorQ3
namespace Go.Proofs.YtfkjokencmdiiaaDoor
open Go.RowKit Go.Shelf

set_option maxRecDepth 100000 in
set_option maxHeartbeats 1000000 in
theorem refHas_calls (a : Nat) (ha : a < 4294967296) (b : Int) (x : Nat) (hx : x < 4294967296) (w : World) :
    Calls Tryd.prog 22 #[.int .u32 (a : Int), .int .i64 b, .int .u32 (x : Int)] w fun e w' => e = .returned (.bool (hasB (a : Int) b (x : Int))) ∧ w' = w := by
  have HR := Lib.hid (refRight_calls a ha b)
  by_cases h : 0 ≤ b ∧ b ≤ 32
  · obtain ⟨k, rfl⟩ : ∃ k : Nat, b = k := ⟨b.toNat, by omega⟩
    have hk : k ≤ 32 := by omega
    have m1 := maskI_nat hk
    have o1 := okB_nat hk
    have c1 := and_cut x k hx hk
    have hr : hasB (a : Int) (k : Int) (x : Int) = (rightI a (k : Int) && ((cutN x k : Int) == (a : Int))) := by
      unfold hasB rightI
      simp only [Int.toNat_natCast]
      by_cases h0 : a % 2 ^ (32 - k) = 0
      · by_cases h1 : cutN x k = a
        · simp [h0, h1, h]
        · have : ((cutN x k : Int) == (a : Int)) = false := by simp; omega
          rw [this]
          simp [h1]
      · simp [h0]
    rw [hr]
    obtain ⟨r, hr2⟩ : ∃ r, rightI a (k : Int) = r := ⟨_, rfl⟩
    rw [hr2] at HR ⊢
    clear hr hr2
    generalize cutN x k = X at *
    cases hz : ((X : Int) == (a : Int)) <;> cases r
    all_goals
      go_enter Tryd.func22, Tryd.ntmps22
      go_wp2_with (first
        | (go_at_call 17; refine (refMask_any _ _).mono ?_; rintro e wx ⟨rfl, rfl⟩)
        | (go_at_call 29; refine (HR.out _).mono ?_; rintro e wx ⟨rfl, rfl⟩))
      go_ret
      exact ⟨rfl, rfl⟩
  · have e2 : okB b = false := by simp [okB]; omega
    have e1 : maskI b = 0 := by unfold maskI; rw [if_neg h]
    have hr : hasB (a : Int) b (x : Int) = false := by
      unfold hasB
      simp only [decide_eq_false_iff_not]
      exact fun h2 => h ⟨h2.1, h2.2.1⟩
    have hr2 : rightI a b = false := by unfold rightI; simp only [decide_eq_false_iff_not]; exact fun h2 => h ⟨h2.1, h2.2.1⟩
    rw [hr]
    rw [hr2] at HR
    go_enter Tryd.func22, Tryd.ntmps22
    go_wp2_with (first
      | (go_at_call 17; refine (refMask_any _ _).mono ?_; rintro e wx ⟨rfl, rfl⟩)
      | (go_at_call 29; refine (HR.out _).mono ?_; rintro e wx ⟨rfl, rfl⟩))
    go_ret
    exact ⟨rfl, rfl⟩

/-- What a net is written as, for any number of bits. -/
def textI (a : Nat) (b : Int) : ByteArray := if rightI a b then ⟨(netText a b.toNat).toArray⟩ else ⟨#[]⟩
theorem rightI_nat {a : Nat} {b : Int} (h : rightI a b = true) : ∃ k : Nat, b = k ∧ k ≤ 32 ∧ a % 2 ^ (32 - k) = 0 := by
  unfold rightI at h
  have h2 := of_decide_eq_true h
  refine ⟨b.toNat, by omega, by omega, h2.2.2⟩
theorem right_any (a : Nat) (ha : a < 4294967296) (b : Int) (w : World) :
    Calls Tryd.prog 28 #[.agg #[.int .u32 (a : Int), .int .i64 b]] w fun e w' => e = .returned (.bool (rightI a b)) ∧ Below w.heap.size w w' := by
  by_cases h : 0 ≤ b ∧ b ≤ 32
  · obtain ⟨k, rfl⟩ : ∃ k : Nat, b = k := ⟨b.toNat, by omega⟩
    have e : rightI a (k : Int) = decide (a % 2 ^ (32 - k) = 0) := by
      unfold rightI
      simp only [Int.toNat_natCast]
      exact decide_eq_decide.2 ⟨fun h2 => h2.2.2, fun h2 => ⟨h.1, h.2, h2⟩⟩
    rw [e]
    exact right_calls a k ha (by omega) w
  · have e : rightI a b = false := by unfold rightI; simp only [decide_eq_false_iff_not]; exact fun h2 => h ⟨h2.1, h2.2.1⟩
    rw [e]
    exact right_bad a b (by omega) w

set_option maxRecDepth 100000 in
set_option maxHeartbeats 1000000 in
theorem netText_any (a : Nat) (ha : a < 4294967296) (b : Int) (w : World) (hE : Env w) :
    Calls Tryd.prog 18 #[.agg #[.int .u32 (a : Int), .int .i64 b]] w fun e w' => e = .returned (.tuple #[.string (textI a b), .bool (rightI a b)]) ∧ Below w.heap.size w w' := by
  cases hr : rightI a b with
  | true =>
    obtain ⟨k, rfl, hk, h0⟩ := rightI_nat hr
    have e : textI a (k : Int) = ⟨(netText a k).toArray⟩ := by unfold textI; rw [hr]; rfl
    rw [e]
    exact netText_calls a k ha hk h0 w hE
  | false =>
    have e : textI a b = ⟨#[]⟩ := by unfold textI; rw [hr]; rfl
    rw [e]
    have HR := Lib.hid (right_any a ha b)
    rw [hr] at HR
    have HB := Lib.hid (Below.refl w.heap.size w)
    clear hr e
    go_enter Tryd.func18, Tryd.ntmps18
    go_wp2_with (go_at_call 28; refine (HR.out _).mono ?_; rintro e wx ⟨rfl, hB⟩; obtain ⟨⟨n0, n1⟩, hB2⟩ := box2 hB; replace HB := Lib.hid (below_step HB.out hB2); clear hB hB2)
    go_ret2
    exact ⟨rfl, HB.out⟩

set_option maxRecDepth 100000 in
set_option maxHeartbeats 1000000 in
theorem refNetText_any (a : Nat) (ha : a < 4294967296) (b : Int) (w : World) :
    Calls Tryd.prog 19 #[.int .u32 (a : Int), .int .i64 b] w fun e w' => e = .returned (.tuple #[.string (textI a b), .bool (rightI a b)]) ∧ Below w.heap.size w w' := by
  have HR := Lib.hid (refRight_calls a ha b)
  have HB := Lib.hid (Below.refl w.heap.size w)
  cases hr : rightI a b with
  | true =>
    rw [hr] at HR
    obtain ⟨k, rfl, hk, h0⟩ := rightI_nat hr
    have e : textI a (k : Int) = ⟨(netText a k).toArray⟩ := by unfold textI; rw [hr]; rfl
    rw [e]
    have HT := Lib.hid (refText_calls a ha)
    have HI := Lib.hid (digits_calls k (by omega))
    have hst : ((⟨(textOf a).toArray⟩ : ByteArray) ++ ⟨#[47]⟩) ++ ⟨(dig k).toArray⟩ = ⟨(netText a k).toArray⟩ := by
      apply Go.WideShapes.bytes_inj
      simp [netText]
    have HST := Lib.hid hst
    have hs1 : (⟨(textOf a).toArray⟩ : ByteArray).size ≤ 100 := by rw [size_of_list]; exact text_le a
    have hs2 : (⟨(dig k).toArray⟩ : ByteArray).size ≤ 3 := by rw [size_of_list]; exact (dig_facts (show k < 256 by omega)).2.1.2
    generalize (⟨(textOf a).toArray⟩ : ByteArray) = T at *
    generalize (⟨(dig k).toArray⟩ : ByteArray) = D at *
    generalize (⟨(netText a k).toArray⟩ : ByteArray) = N at *
    have hs3 : (T.size : Int) ≤ 100 := by omega
    have hs4 : (D.size : Int) ≤ 3 := by omega
    have hs5 : (T ++ ⟨#[47]⟩ : ByteArray).size = T.size + 1 := by rw [ByteArray.size_append]; rfl
    clear h0 hst e hr
    go_enter Tryd.func19, Tryd.ntmps19
    go_wp2_with (first
      | (go_at_call 29; refine (HR.out _).mono ?_; rintro e wx ⟨rfl, rfl⟩)
      | (go_at_call 14; refine (HT.out _).mono ?_; rintro e wx ⟨rfl, hB⟩; replace HB := Lib.hid (below_step HB.out hB); clear hB)
      | (go_at_call 27; refine (HI.out _).mono ?_; rintro e wx ⟨rfl, hB⟩; replace HB := Lib.hid (below_step HB.out hB); clear hB))
    go_ret2
    exact ⟨by rw [← HST.out]; rfl, HB.out⟩
  | false =>
    rw [hr] at HR
    have e : textI a b = ⟨#[]⟩ := by unfold textI; rw [hr]; rfl
    rw [e]
    clear hr e
    go_enter Tryd.func19, Tryd.ntmps19
    go_wp2_with (go_at_call 29; refine (HR.out _).mono ?_; rintro e wx ⟨rfl, rfl⟩)
    go_ret2
    exact ⟨rfl, HB.out⟩
end Go.Proofs.YtfkjokencmdiiaaDoor
