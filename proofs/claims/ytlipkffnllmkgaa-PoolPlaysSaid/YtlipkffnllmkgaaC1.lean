import Derived.Test.YtlipkffnllmkgaaA4
import Derived.Test.YtlipkffnllmkgaaB1
namespace Go.Proofs.Ytlipkffnllmkgaa
open Go.RowKit

theorem left13 (x : Int) (w : World) : Calls Try.prog 63 #[.int .u64 x, .int .u64 13] w fun e w' => e = .returned (.int .u64 (rotl 8192 2251799813685248 x)) ∧ w' = w := by
  go_enter Try.func63, Try.ntmps63
  go_wp2
  go_ret
  exact ⟨rfl, rfl⟩
theorem left16 (x : Int) (w : World) : Calls Try.prog 63 #[.int .u64 x, .int .u64 16] w fun e w' => e = .returned (.int .u64 (rotl 65536 281474976710656 x)) ∧ w' = w := by
  go_enter Try.func63, Try.ntmps63
  go_wp2
  go_ret
  exact ⟨rfl, rfl⟩
theorem left32 (x : Int) (w : World) : Calls Try.prog 63 #[.int .u64 x, .int .u64 32] w fun e w' => e = .returned (.int .u64 (rotl 4294967296 4294967296 x)) ∧ w' = w := by
  go_enter Try.func63, Try.ntmps63
  go_wp2
  go_ret
  exact ⟨rfl, rfl⟩
theorem left17 (x : Int) (w : World) : Calls Try.prog 63 #[.int .u64 x, .int .u64 17] w fun e w' => e = .returned (.int .u64 (rotl 131072 140737488355328 x)) ∧ w' = w := by
  go_enter Try.func63, Try.ntmps63
  go_wp2
  go_ret
  exact ⟨rfl, rfl⟩
theorem left21 (x : Int) (w : World) : Calls Try.prog 63 #[.int .u64 x, .int .u64 21] w fun e w' => e = .returned (.int .u64 (rotl 2097152 8796093022208 x)) ∧ w' = w := by
  go_enter Try.func63, Try.ntmps63
  go_wp2
  go_ret
  exact ⟨rfl, rfl⟩

/-- The document's Mix. -/
def mixR (k b : Int) : Int :=
  let x0 := IntKind.u64.wrap (k + IntKind.u64.wrap (11400714819323198485 * IntKind.u64.wrap (b + 1)))
  let x1 := IntKind.u64.wrap (bits .xor .u64 x0 (x0 / 1073741824) * 13787848793156543929)
  let x2 := IntKind.u64.wrap (bits .xor .u64 x1 (x1 / 134217728) * 10723151780598845931)
  bits .xor .u64 x2 (x2 / 2147483648)
theorem mixR_calls (k b : Int) (w : World) : Calls Try.prog 57 #[.int .u64 k, .int .u64 b] w fun e w' => e = .returned (.int .u64 (mixR k b)) ∧ w' = w := by
  go_enter Try.func57, Try.ntmps57
  go_wp2
  go_ret
  exact ⟨rfl, rfl⟩
theorem mixR_base (k b : Int) : IntKind.u64.wrap (k + IntKind.u64.wrap (11400714819323198485 * IntKind.u64.wrap (b + 1))) = IntKind.u64.wrap (IntKind.u64.wrap (k + 11400714819323198485) + IntKind.u64.wrap (11400714819323198485 * b)) := by
  simp only [IntKind.wrap_u64]
  rw [Int.add_emod k, Int.emod_emod, Int.mul_emod, Int.emod_emod, ← Int.mul_emod, ← Int.add_emod]
  omega
theorem mixR_eq (k b : Int) : mixR k b = mixI k b := by
  unfold mixR mixI
  rw [mixR_base]

set_option maxRecDepth 100000 in
set_option maxHeartbeats 1000000 in
/-- The reference's round: a struct that comes by value and goes back by value. -/
theorem roundR_calls (v : S4) (w : World) : Calls Try.prog 56 #[.agg #[.int .u64 v.p, .int .u64 v.q, .int .u64 v.r, .int .u64 v.s]] w fun e w' => e = .returned (.agg #[.int .u64 (rnd v).p, .int .u64 (rnd v).q, .int .u64 (rnd v).r, .int .u64 (rnd v).s]) ∧ Below w.heap.size w w' := by
  obtain ⟨p1, hp1⟩ : ∃ x, IntKind.u64.wrap (v.p + v.q) = x := ⟨_, rfl⟩
  obtain ⟨q1, hq1⟩ : ∃ x, bits .xor .u64 (rotl 8192 2251799813685248 v.q) p1 = x := ⟨_, rfl⟩
  obtain ⟨p2, hp2⟩ : ∃ x, rotl 4294967296 4294967296 p1 = x := ⟨_, rfl⟩
  obtain ⟨r1, hr1⟩ : ∃ x, IntKind.u64.wrap (v.r + v.s) = x := ⟨_, rfl⟩
  obtain ⟨s1, hs1⟩ : ∃ x, bits .xor .u64 (rotl 65536 281474976710656 v.s) r1 = x := ⟨_, rfl⟩
  obtain ⟨p3, hp3⟩ : ∃ x, IntKind.u64.wrap (p2 + s1) = x := ⟨_, rfl⟩
  obtain ⟨s2, hs2⟩ : ∃ x, bits .xor .u64 (rotl 2097152 8796093022208 s1) p3 = x := ⟨_, rfl⟩
  obtain ⟨r2, hr2⟩ : ∃ x, IntKind.u64.wrap (r1 + q1) = x := ⟨_, rfl⟩
  obtain ⟨q2, hq2⟩ : ∃ x, bits .xor .u64 (rotl 131072 140737488355328 q1) r2 = x := ⟨_, rfl⟩
  obtain ⟨r3, hr3⟩ : ∃ x, rotl 4294967296 4294967296 r2 = x := ⟨_, rfl⟩
  have hend : rnd v = ⟨p3, q2, r3, s2⟩ := by subst hp1 hq1 hp2 hr1 hs1 hp3 hs2 hr2 hq2 hr3; rfl
  rw [hend]
  clear hend
  go_enter Try.func56, Try.ntmps56
  go_wp2_with fail
  refine wp_tail 7 (by kernel_rfl) (by kernel_rfl) ?_
  simp only [List.take_succ_cons, List.take_zero, List.drop_succ_cons, List.drop_zero]
  repeat (first | still_step | still_call (left13 _ _))
  refine wpStill_nil ?_
  go_wp2_with (go_at_call 63; refine (left32 _ _).mono ?_; rintro e wx ⟨rfl, rfl⟩)
  refine wp_tail 7 (by kernel_rfl) (by kernel_rfl) ?_
  simp only [List.take_succ_cons, List.take_zero, List.drop_succ_cons, List.drop_zero]
  repeat (first | still_step | still_call (left16 _ _))
  refine wpStill_nil ?_
  go_wp2_with fail
  refine wp_tail 7 (by kernel_rfl) (by kernel_rfl) ?_
  simp only [List.take_succ_cons, List.take_zero, List.drop_succ_cons, List.drop_zero]
  repeat (first | still_step | still_call (left21 _ _))
  refine wpStill_nil ?_
  go_wp2_with fail
  refine wp_tail 7 (by kernel_rfl) (by kernel_rfl) ?_
  simp only [List.take_succ_cons, List.take_zero, List.drop_succ_cons, List.drop_zero]
  repeat (first | still_step | still_call (left17 _ _))
  refine wpStill_nil ?_
  go_wp2_with (go_at_call 63; refine (left32 _ _).mono ?_; rintro e wx ⟨rfl, rfl⟩)
  exact bodyPost_ret (v := .agg #[.int .u64 p3, .int .u64 q2, .int .u64 r3, .int .u64 s2]) (by simp [results, go_sem]) rfl ⟨rfl, ((((((Below.refl _ _).alloc (Nat.le_refl _) _).alloc (by simp) _).drew).drew).drew).drew⟩

/-- The number of the bytes f k .. f 7, the first the lowest: the reference's way. -/
def horn (f : Nat → Int) : Nat → Int
  | 0 => 0
  | m + 1 => IntKind.u64.wrap (IntKind.u64.wrap (horn f m * 256) + IntKind.u64.wrap (f (7 - m)))
set_option maxRecDepth 100000 in
set_option maxHeartbeats 1000000 in
theorem wordR_calls (s : ByteArray) (a : Nat) (w : World) (hs : s.size ≤ 1000000) (ha : a + 8 ≤ s.size) : Calls Try.prog 55 #[.string s, .int .i64 (a : Int)] w fun e w' => e = .returned (.int .u64 (horn (fun j => byteAt s (a + j)) 8)) ∧ w' = w := by
  go_enter Try.func55, Try.ntmps55
  go_wp2_with fail
  go_loop [5, 6] (fun n i => ∃ k : Nat, k ≤ 8 ∧ i = .int .i64 ((k : Int) - 1) ∧ n = .int .u64 (horn (fun j => byteAt s (a + j)) (8 - k))) (fun _ i => (intOf i + 1).toNat)
  case atStart => exact ⟨8, Nat.le_refl _, rfl, rfl⟩
  case round =>
    obtain ⟨k, hk, hi, rfl⟩ := hrel
    rcases k with _ | j
    · obtain rfl := hi
      go_wp2
      go_ret
      exact ⟨rfl, rfl⟩
    · have hi' : Value.int .i64 (((j + 1 : Nat) : Int) - 1) = .int .i64 (j : Int) := by congr 1; omega
      rw [hi'] at hi
      subst hi
      have hlt : (a : Int) + (j : Int) < (s.size : Int) := by omega
      go_wp2
      go_round
      case rel =>
        refine ⟨j, by omega, rfl, ?_⟩
        rw [show 8 - j = (7 - j) + 1 from by omega]
        simp only [horn]
        rw [show 7 - (7 - j) = j from by omega, byteAt_eq s (a + j) (by omega)]
      case measure => simp [intOf]
end Go.Proofs.Ytlipkffnllmkgaa
