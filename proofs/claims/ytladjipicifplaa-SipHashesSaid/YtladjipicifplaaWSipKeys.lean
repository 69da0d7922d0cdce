import Derived.Test.YtladjipicifplaaWSipSame
import Derived.Laws.IdiomStrings
import Derived.Lib.ConvBytes
namespace Go.Proofs.Ytladjipicifplaa
open Go.RowKit

theorem ba_eq {a b : ByteArray} (h : a.toList = b.toList) : a = b := by
  rw [ByteArray.toList_eq, ByteArray.toList_eq] at h
  exact ByteArray.ext (Array.toList_inj.1 h)
theorem six_size (s : ByteArray) : (six s).size = 16 := by unfold six; rw [strOfNums_size]; simp
theorem bytesRow_get (x : ByteArray) (c j : Nat) (hj : j < x.data.toList.length) : (bytesRow x c)[j]? = some (.int .u8 (x.data.toList[j].toNat : Int)) := by
  have hj' : j < x.data.size := by simpa using hj
  unfold bytesRow
  rw [Array.getElem?_append_left (by simpa using hj'), Array.getElem?_map, Array.getElem?_eq_getElem hj']
  rfl
/-- 'string([]byte(x))' is x. -/
theorem there_back (x : ByteArray) (W : World) : ∃ (v : Value) (W1 : World), (convert 9 28 (.string x)).run Try.prog W = .ok v W1 ∧ (convert 28 9 v).run Try.prog W1 = .ok (.string x) W1 ∧ Below W.heap.size W W1 := by
  have h1 := run_bytes_of_string (P := Try.prog) W 9 28 5 x Try.underlying9 Try.underlying28 Try.underlying5
  refine ⟨_, _, h1, ?_, ((Below.refl _ _).drew).alloc (Nat.le_refl _) _⟩
  generalize grownCap W x.size 0 5 = c
  generalize ((bytesRow x c).size, (bytesRow x c).size + 1) = fr
  exact run_convert_bytes_back (P := Try.prog) (W.drew.alloc (.cells (bytesRow x c) 5 fr)) 28 9 5 ⟨W.heap.size, 0, none⟩ c x.data.toList Try.underlying28 Try.underlying5 Try.underlying9
    (fun j hj => by
      have e : (⟨W.heap.size, 0, none⟩ : Addr).add j = ⟨W.heap.size, j, none⟩ := by
        unfold Addr.add
        split
        · simp_all
        · simp
      rw [e]
      refine Eq.trans (World.cell?_alloc_mark W.drew (bytesRow x c) 5 fr j) ?_
      exact bytesRow_get x c j hj)

set_option maxRecDepth 100000 in
set_option maxHeartbeats 2000000 in
theorem walk_SipKeys (a0 a1 a2 : ByteArray) (w : World) (w0 : a0.size ≤ maxLen) (w1 : a1.size ≤ maxLen) (w2 : a2.size ≤ maxLen) :
    Calls Try.prog 5 #[.string a0, .string a1, .string a2] w fun e w' => e = .returned (.bool true) ∧ Below w.heap.size w w' := by
  have W0 := Lib.hid w0
  have W1 := Lib.hid w1
  unfold maxLen at w2
  clear w0 w1
  have HB := Lib.hid (Below.refl w.heap.size w)
  have s0 : (8 : Int) ≤ ((six a0).size : Int) := by rw [six_size]; decide
  have s1 : (8 : Int) ≤ ((six a1).size : Int) := by rw [six_size]; decide
  obtain ⟨x, hx⟩ : ∃ x, (six a0).extract 0 8 = x := ⟨_, rfl⟩
  obtain ⟨y, hy⟩ : ∃ y, (six a1).extract 0 8 = y := ⟨_, rfl⟩
  have hxs : x.size = 8 := by rw [← hx]; simp [six_size]
  have hys : y.size = 8 := by rw [← hy]; simp [six_size]
  have hsum : ¬ (x.size + y.size > 9223372036854775807) := by omega
  have hsum2 : ¬ (y.size + x.size > 9223372036854775807) := by omega
  have hk1 : (x ++ y).size = 16 := by rw [ByteArray.size_append]; omega
  have hk2 : (y ++ x).size = 16 := by rw [ByteArray.size_append]; omega
  have K1 := Lib.hid hk1
  have K2 := Lib.hid hk2
  clear hk1 hk2 hxs hys
  by_cases h40 : a2.size ≤ 40
  · have H4 : Hid (a2.size ≤ maxLen) := Lib.hid w2
    go_enter Try.func5, Try.ntmps5
    go_wp2_with (first
      | (go_at_call 14; refine (examples_calls _).mono ?_; rintro e wx ⟨rfl, hb1⟩; replace HB := Lib.hid (below_step HB.out hb1); clear hb1)
      | (go_at_call 16; refine (sixteen_calls a0 _ W0.out).mono ?_; rintro e wx ⟨rfl, hb1⟩; replace HB := Lib.hid (below_step HB.out hb1); clear hb1 W0)
      | (go_at_call 16; refine (sixteen_calls a1 _ W1.out).mono ?_; rintro e wx ⟨rfl, hb1⟩; replace HB := Lib.hid (below_step HB.out hb1); clear hb1 W1))
    refine (hash_good _ _ _ K1.out H4.out).mono ?_
    rintro e wx1 ⟨rfl, hb1⟩
    replace HB := Lib.hid (below_step HB.out hb1)
    clear hb1
    obtain ⟨v1, W1, c1, b1, B1⟩ := there_back x wx1
    obtain ⟨v2, W2, c2, b2, B2⟩ := there_back y W1
    replace HB := Lib.hid (below_step (below_step HB.out B1) B2)
    clear B1 B2
    go_wp2_with fail
    refine (hash_good _ _ _ K1.out H4.out).mono ?_
    rintro e wx2 ⟨rfl, hb1⟩
    replace HB := Lib.hid (below_step HB.out hb1)
    clear hb1 c1 b1 c2 b2
    go_wp2_with fail
    refine (hash_good _ _ _ K2.out H4.out).mono ?_
    rintro e wx3 ⟨rfl, hb1⟩
    replace HB := Lib.hid (below_step HB.out hb1)
    clear hb1
    go_wp2_with fail
    all_goals
      go_ret
      refine ⟨?_, HB.out⟩
      first
        | rfl
        | (have e : x = y := ba_eq (by assumption)
           show Ending.returned (.bool (hashF (y ++ x) _ == hashF (x ++ y) _)) = _
           rw [e]
           simp)
  · have H4 : Hid ((a2.extract 0 40).size ≤ maxLen) := Lib.hid (by unfold maxLen; simp; omega)
    go_enter Try.func5, Try.ntmps5
    go_wp2_with (first
      | (go_at_call 14; refine (examples_calls _).mono ?_; rintro e wx ⟨rfl, hb1⟩; replace HB := Lib.hid (below_step HB.out hb1); clear hb1)
      | (go_at_call 16; refine (sixteen_calls a0 _ W0.out).mono ?_; rintro e wx ⟨rfl, hb1⟩; replace HB := Lib.hid (below_step HB.out hb1); clear hb1 W0)
      | (go_at_call 16; refine (sixteen_calls a1 _ W1.out).mono ?_; rintro e wx ⟨rfl, hb1⟩; replace HB := Lib.hid (below_step HB.out hb1); clear hb1 W1))
    refine (hash_good _ _ _ K1.out H4.out).mono ?_
    rintro e wx1 ⟨rfl, hb1⟩
    replace HB := Lib.hid (below_step HB.out hb1)
    clear hb1
    obtain ⟨v1, W1, c1, b1, B1⟩ := there_back x wx1
    obtain ⟨v2, W2, c2, b2, B2⟩ := there_back y W1
    replace HB := Lib.hid (below_step (below_step HB.out B1) B2)
    clear B1 B2
    go_wp2_with fail
    refine (hash_good _ _ _ K1.out H4.out).mono ?_
    rintro e wx2 ⟨rfl, hb1⟩
    replace HB := Lib.hid (below_step HB.out hb1)
    clear hb1 c1 b1 c2 b2
    go_wp2_with fail
    refine (hash_good _ _ _ K2.out H4.out).mono ?_
    rintro e wx3 ⟨rfl, hb1⟩
    replace HB := Lib.hid (below_step HB.out hb1)
    clear hb1
    go_wp2_with fail
    all_goals
      go_ret
      refine ⟨?_, HB.out⟩
      first
        | rfl
        | (have e : x = y := ba_eq (by assumption)
           show Ending.returned (.bool (hashF (y ++ x) _ == hashF (x ++ y) _)) = _
           rw [e]
           simp)
end Go.Proofs.Ytladjipicifplaa
