import Derived.Test.YtlipkffnllmkgaaH0
import Derived.RangeFuncRecord
namespace Go.Proofs.Ytlipkffnllmkgaa
open Go.RowKit

/-- The parts of a key, and what stands ahead of the j-th of them. -/
def keyN (p s d x y : Nat) : Nat → Nat | 0 => p | 1 => s | 2 => d | 3 => x | _ => y
def keyM : Nat → Nat | 0 => 1 | 1 => 4 | 2 => 4 | _ => 2
def keyTo (p s d x y : Nat) : Nat → ByteArray
  | 0 => ⟨#[]⟩
  | j + 1 => keyTo p s d x y j ++ putS (keyM j) (keyN p s d x y j)
def keyS (p s d x y : Nat) : ByteArray := keyTo p s d x y 5

theorem keyTo_size (p s d x y : Nat) : ∀ j, (keyTo p s d x y j).size ≤ 4 * j
  | 0 => Nat.le_refl _
  | j + 1 => by
    have h1 := keyTo_size p s d x y j
    have h2 : keyM j ≤ 4 := by unfold keyM; split <;> omega
    unfold keyTo
    rw [ByteArray.size_append, putS_size]
    omega
theorem put_next {p s d x y j : Nat} {A : ByteArray} (h : keyTo p s d x y j = A) : A ++ putS (keyM j) (keyN p s d x y j) = keyTo p s d x y (j + 1) := by rw [← h]; rfl
theorem boxN {w wx : World} {u v : Value} {t : TypeId} (hB : Below (w.alloc (.cells #[u, v] t)).heap.size (w.alloc (.cells #[u, v] t)) wx) : Below w.heap.size w wx :=
  ((Below.refl _ w).alloc (Nat.le_refl _) _).trans (hB.mono (by simp))
theorem stepB {w0 w w' : World} (h : Below w0.heap.size w0 w) (hb : Below w.heap.size w w') : Below w0.heap.size w0 w' := h.trans (hb.mono h.size)
def keyRow (p s d x y : Nat) : Obj := .cells #[.int .i64 1, .int .i64 p, .int .i64 4, .int .i64 s, .int .i64 4, .int .i64 d, .int .i64 2, .int .i64 x, .int .i64 2, .int .i64 y] 104 (0, 0)

set_option maxRecDepth 100000 in
set_option maxHeartbeats 1000000 in
theorem key_ok (p s d x y : Nat) (hp : p < 256) (hs : s < 4294967296) (hd : d < 4294967296) (hx : x < 65536) (hy : y < 65536) (w : World) :
    Calls Try.prog 31 #[.agg #[.int .i64 (p : Int), .int .u32 (s : Int), .int .u32 (d : Int), .int .i64 (x : Int), .int .i64 (y : Int)]] w fun e w' => e = .returned (.tuple #[.string (keyS p s d x y), .bool true]) ∧ Below w.heap.size w w' := by
  have HP0 := Lib.hid (put1_ok p hp)
  have HP1 := Lib.hid (put4_ok s hs)
  have HP2 := Lib.hid (put4_ok d hd)
  have HP3 := Lib.hid (put2_ok x hx)
  have HP4 := Lib.hid (put2_ok y hy)
  go_enter Try.func31, Try.ntmps31
  go_wp2_with fail
  go_loopw [28, 4] (fun vi vo wr => ∃ k : Nat, k ≤ 5 ∧ vi = .int .i64 (k : Int) ∧ vo = .string (keyTo p s d x y k) ∧ Below w.heap.size w wr ∧ wr.heap[w.heap.size + 1]? = some (keyRow p s d x y)) (fun vi _ _ => 5 - (intOf vi).toNat)
  case atStart =>
    refine ⟨0, Nat.zero_le _, rfl, rfl, ((Below.refl _ _).alloc (Nat.le_refl _) _).alloc (by simp) _, ?_⟩
    have h := World.alloc_heap_new (w.alloc (.cells #[.int .i64 (p : Int), .int .u32 (s : Int), .int .u32 (d : Int), .int .i64 (x : Int), .int .i64 (y : Int)] 35)) (.cells #[.int .i64 1, .int .i64 p, .int .i64 4, .int .i64 s, .int .i64 4, .int .i64 d, .int .i64 2, .int .i64 x, .int .i64 2, .int .i64 y] 104)
    simp only [World.size_alloc] at h
    exact h
  case round =>
    obtain ⟨k, hk, rfl, rfl, hB, hrow⟩ := hrel
    have HB := Lib.hid hB
    have HROW := Lib.hid hrow
    clear hB
    have hsz := keyTo_size p s d x y k
    obtain ⟨A, hA⟩ : ∃ A, keyTo p s d x y k = A := ⟨_, rfl⟩
    have HN := Lib.hid (put_next hA)
    rw [hA] at hsz
    have hszI : (A.size : Int) ≤ 20 := by omega
    rw [hA]
    by_cases hlt : k < 5
    · clear hA
      obtain rfl | rfl | rfl | rfl | rfl : k = 0 ∨ k = 1 ∨ k = 2 ∨ k = 3 ∨ k = 4 := by omega
      case' inl =>
        have HP := HP0
        have hps : (putS 1 p).size = 1 := putS_size _ _
        have c0 : wr.cell? ⟨w.heap.size + 1, 0, none⟩ = some (.int .i64 1) := by simp [World.cell?, hrow, keyRow]
        have c1 : wr.cell? ⟨w.heap.size + 1, 1, none⟩ = some (.int .i64 p) := by simp [World.cell?, hrow, keyRow]
        have HNN := Lib.hid (show A ++ putS 1 p = _ from HN.out)
        generalize putS 1 p = T at *
      case' inr.inl =>
        have HP := HP1
        have hps : (putS 4 s).size = 4 := putS_size _ _
        have c0 : wr.cell? ⟨w.heap.size + 1, 2, none⟩ = some (.int .i64 4) := by simp [World.cell?, hrow, keyRow]
        have c1 : wr.cell? ⟨w.heap.size + 1, 3, none⟩ = some (.int .i64 s) := by simp [World.cell?, hrow, keyRow]
        have HNN := Lib.hid (show A ++ putS 4 s = _ from HN.out)
        generalize putS 4 s = T at *
      case' inr.inr.inl =>
        have HP := HP2
        have hps : (putS 4 d).size = 4 := putS_size _ _
        have c0 : wr.cell? ⟨w.heap.size + 1, 4, none⟩ = some (.int .i64 4) := by simp [World.cell?, hrow, keyRow]
        have c1 : wr.cell? ⟨w.heap.size + 1, 5, none⟩ = some (.int .i64 d) := by simp [World.cell?, hrow, keyRow]
        have HNN := Lib.hid (show A ++ putS 4 d = _ from HN.out)
        generalize putS 4 d = T at *
      case' inr.inr.inr.inl =>
        have HP := HP3
        have hps : (putS 2 x).size = 2 := putS_size _ _
        have c0 : wr.cell? ⟨w.heap.size + 1, 6, none⟩ = some (.int .i64 2) := by simp [World.cell?, hrow, keyRow]
        have c1 : wr.cell? ⟨w.heap.size + 1, 7, none⟩ = some (.int .i64 x) := by simp [World.cell?, hrow, keyRow]
        have HNN := Lib.hid (show A ++ putS 2 x = _ from HN.out)
        generalize putS 2 x = T at *
      case' inr.inr.inr.inr =>
        have HP := HP4
        have hps : (putS 2 y).size = 2 := putS_size _ _
        have c0 : wr.cell? ⟨w.heap.size + 1, 8, none⟩ = some (.int .i64 2) := by simp [World.cell?, hrow, keyRow]
        have c1 : wr.cell? ⟨w.heap.size + 1, 9, none⟩ = some (.int .i64 y) := by simp [World.cell?, hrow, keyRow]
        have HNN := Lib.hid (show A ++ putS 2 y = _ from HN.out)
        generalize putS 2 y = T at *
      all_goals
        clear HN hrow
        go_wp2_with (go_at_call 46; refine (HP.out _).mono ?_; rintro e wx ⟨rfl, hb⟩; replace hb := boxN hb; replace HROW := Lib.hid ((hb.block _ (Array.getElem?_eq_some_iff.1 HROW.out).1).trans HROW.out); replace HB := Lib.hid (stepB HB.out hb); clear hb)
        first | exact ⟨⟨1, by omega, rfl, congrArg Value.string HNN.out, HB.out, HROW.out⟩, by simp [intOf]⟩ | exact ⟨⟨2, by omega, rfl, congrArg Value.string HNN.out, HB.out, HROW.out⟩, by simp [intOf]⟩ | exact ⟨⟨3, by omega, rfl, congrArg Value.string HNN.out, HB.out, HROW.out⟩, by simp [intOf]⟩ | exact ⟨⟨4, by omega, rfl, congrArg Value.string HNN.out, HB.out, HROW.out⟩, by simp [intOf]⟩ | exact ⟨⟨5, by omega, rfl, congrArg Value.string HNN.out, HB.out, HROW.out⟩, by simp [intOf]⟩
    · obtain rfl : k = 5 := by omega
      have HNN := Lib.hid (show keyS p s d x y = A from hA)
      clear hA
      go_wp2_with fail
      go_ret2
      exact ⟨by rw [HNN.out]; rfl, HB.out⟩
end Go.Proofs.Ytlipkffnllmkgaa
