import Derived.Test.YtbahcpejippcjaaDoorTA
import Derived.Laws.IdiomStrings
namespace Go.Proofs.YtbahcpejippcjaaDoor
open Go.RowKit Go.Shelf

/-- What the reference's loop does with a byte. -/
def stepP (st : Nat × Nat) (c : Nat) : Nat × Nat := if c = 46 then ((st.1 * 256 % 4294967296) ||| (st.2 % 256), 0) else (st.1, (st.2 * 10 + c + 4294967296 - 48) % 4294967296)
def foldP (l : List UInt8) (st : Nat × Nat) : Nat × Nat := l.foldl (fun st c => stepP st c.toNat) st
def finalP (l : List UInt8) : Nat := ((foldP l (0, 0)).1 * 256 % 4294967296) ||| ((foldP l (0, 0)).2 % 256)

theorem stepP_lt {st : Nat × Nat} {c : Nat} (h : st.1 < 4294967296 ∧ st.2 < 4294967296) : (stepP st c).1 < 4294967296 ∧ (stepP st c).2 < 4294967296 := by
  unfold stepP
  split
  · exact ⟨Nat.or_lt_two_pow (n := 32) (by simp; omega) (by simp; omega), by simp⟩
  · exact ⟨h.1, Nat.mod_lt _ (by omega)⟩
theorem or256 (x y : Nat) (hy : y < 256) : x * 256 ||| y = x * 256 + y := by
  rw [show x * 256 = 2 ^ 8 * x by omega]
  exact (Nat.two_pow_add_eq_or_of_lt (by omega : y < 2 ^ 8) x).symm
theorem ofNat_digit {d : Nat} (h : d < 10) : (UInt8.ofNat (48 + d)).toNat = 48 + d := by
  rw [UInt8.toNat_ofNat']
  omega
theorem step_digit (A n d : Nat) (h : d < 10) (hn : n < 100) : stepP (A, n) (UInt8.ofNat (48 + d)).toNat = (A, n * 10 + d) := by
  rw [ofNat_digit h]
  unfold stepP
  rw [if_neg (by omega)]
  have e : (n * 10 + (48 + d) + 4294967296 - 48) % 4294967296 = n * 10 + d := by omega
  show (A, (n * 10 + (48 + d) + 4294967296 - 48) % 4294967296) = _
  rw [e]
theorem fold_dig (A : Nat) {n : Nat} (h : n < 256) : foldP (dig n) (A, 0) = (A, n) := by
  unfold foldP dig
  split
  · simp only [List.foldl_cons, List.foldl_nil]
    rw [step_digit A 0 n (by omega) (by omega)]
    simp
  · split
    · simp only [List.foldl_cons, List.foldl_nil]
      rw [step_digit A 0 (n / 10) (by omega) (by omega), step_digit A _ (n % 10) (by omega) (by omega)]
      congr 1
      omega
    · simp only [List.foldl_cons, List.foldl_nil]
      rw [step_digit A 0 (n / 100) (by omega) (by omega), step_digit A _ (n / 10 % 10) (by omega) (by omega), step_digit A _ (n % 10) (by omega) (by omega)]
      congr 1
      omega
theorem fold_app (l r : List UInt8) (st : Nat × Nat) : foldP (l ++ r) st = foldP r (foldP l st) := by unfold foldP; rw [List.foldl_append]
theorem fold_dot (r : List UInt8) (A n : Nat) : foldP (46 :: r) (A, n) = foldP r ((A * 256 % 4294967296) ||| (n % 256), 0) := rfl
theorem final_text (a : Nat) (ha : a < 4294967296) : finalP (textOf a) = a := by
  have m0 : a / 16777216 % 256 < 256 := Nat.mod_lt _ (by omega)
  have m1 : a / 65536 % 256 < 256 := Nat.mod_lt _ (by omega)
  have m2 : a / 256 % 256 < 256 := Nat.mod_lt _ (by omega)
  have m3 : a % 256 < 256 := Nat.mod_lt _ (by omega)
  rw [text_dots]
  have he : a = a / 16777216 % 256 * 16777216 + a / 65536 % 256 * 65536 + a / 256 % 256 * 256 + a % 256 := by omega
  generalize a / 16777216 % 256 = n0 at *
  generalize a / 65536 % 256 = n1 at *
  generalize a / 256 % 256 = n2 at *
  generalize a % 256 = n3 at *
  have e0 : 0 * 256 % 4294967296 ||| n0 % 256 = n0 := by rw [Nat.mod_eq_of_lt m0]; simp
  have e1 : n0 * 256 % 4294967296 ||| n1 % 256 = n0 * 256 + n1 := by rw [Nat.mod_eq_of_lt m1, Nat.mod_eq_of_lt (by omega : n0 * 256 < 4294967296), or256 _ _ m1]
  have e2 : (n0 * 256 + n1) * 256 % 4294967296 ||| n2 % 256 = (n0 * 256 + n1) * 256 + n2 := by rw [Nat.mod_eq_of_lt m2, Nat.mod_eq_of_lt (by omega : (n0 * 256 + n1) * 256 < 4294967296), or256 _ _ m2]
  have e3 : ((n0 * 256 + n1) * 256 + n2) * 256 % 4294967296 ||| n3 % 256 = ((n0 * 256 + n1) * 256 + n2) * 256 + n3 := by rw [Nat.mod_eq_of_lt m3, Nat.mod_eq_of_lt (by omega : ((n0 * 256 + n1) * 256 + n2) * 256 < 4294967296), or256 _ _ m3]
  have hf : foldP (dots (dig n0) (dig n1) (dig n2) (dig n3)) (0, 0) = ((n0 * 256 + n1) * 256 + n2, n3) := by
    unfold dots
    rw [fold_app, fold_dig 0 m0, fold_dot, e0, fold_app, fold_dig _ m1, fold_dot, e1, fold_app, fold_dig _ m2, fold_dot, e2, fold_dig _ m3]
  unfold finalP
  rw [hf]
  dsimp only
  rw [e3]
  omega
theorem foldP_lt (l : List UInt8) : ∀ st : Nat × Nat, st.1 < 4294967296 ∧ st.2 < 4294967296 → (foldP l st).1 < 4294967296 ∧ (foldP l st).2 < 4294967296 := by
  induction l with
  | nil => exact fun st h => h
  | cons c l ih => exact fun st h => ih _ (stepP_lt h)
theorem final_lt (l : List UInt8) : finalP l < 4294967296 := Nat.or_lt_two_pow (n := 32) (by simp; omega) (by simp; omega)
/-- The reference's answer is the program's. -/
theorem ref_same (s : ByteArray) : (textOf (finalP s.data.toList) = s.data.toList → parseOf s = some (finalP s.data.toList)) ∧ (textOf (finalP s.data.toList) ≠ s.data.toList → parseOf s = none) := by
  refine ⟨fun h => ?_, fun h => ?_⟩
  · have h1 := parse_text (finalP s.data.toList) (final_lt _)
    rw [show (⟨(textOf (finalP s.data.toList)).toArray⟩ : ByteArray) = s from Go.WideShapes.bytes_inj (by rw [h])] at h1
    exact h1
  · cases hp : parseOf s with
    | none => rfl
    | some c =>
      have h1 := text_parse hp
      have h2 := final_text c (parseOf_lt hp)
      rw [h1] at h2
      rw [h2] at h
      exact absurd h1 h

set_option maxRecDepth 100000 in
set_option maxHeartbeats 2000000 in
theorem ref02Parse_calls (s : ByteArray) (hs : s.size < 4294967281) (w : World) :
    Calls Tryd.prog 38 #[.string s] w fun e w' => e = .returned (.tuple #[.int .u32 (((parseOf s).getD 0 : Nat) : Int), .bool (parseOf s).isSome]) ∧ Below w.heap.size w w' := by
  have hsI : (s.size : Int) < 4294967281 := by omega
  have HB := Lib.hid (Below.refl w.heap.size w)
  have HT := Lib.hid (refText_calls (finalP s.data.toList) (final_lt _))
  have HRS := Lib.hid (ref_same s)
  obtain ⟨res, hres⟩ : ∃ res, parseOf s = res := ⟨_, rfl⟩
  rw [hres] at HRS ⊢
  clear hres
  go_enter Tryd.func38, Tryd.ntmps38
  go_wp2_with fail
  go_loop [4, 5, 6] (fun va vn vi => ∃ i A n : Nat, i ≤ s.size ∧ vi = .int .i64 (i : Int) ∧ va = .int .u32 (A : Int) ∧ vn = .int .u32 (n : Int) ∧ (A < 4294967296 ∧ n < 4294967296) ∧ foldP (s.data.toList.take i) (0, 0) = (A, n)) (fun _ _ vi => s.size - (intOf vi).toNat)
  case atStart => exact ⟨0, 0, 0, Nat.zero_le _, rfl, rfl, rfl, by omega, rfl⟩
  case round =>
    obtain ⟨i, A, n, hi, rfl, rfl, rfl, ⟨hA, hn⟩, hf⟩ := hrel
    by_cases hlt : i < s.size
    · have hil : (i : Int) < (s.size : Int) := by omega
      have hlt2 : i < s.data.toList.length := by simpa using hlt
      obtain ⟨x, hx⟩ : ∃ x : Nat, s[i].toNat = x := ⟨_, rfl⟩
      have hxI : ((s[i].toNat : Nat) : Int) = (x : Int) := by rw [hx]
      have hgx : (s.data.toList[i]).toNat = x := by rw [← hx]; simp [ByteArray.getElem_eq_getElem_data]
      have hx256 : x < 256 := by rw [← hx]; exact UInt8.toNat_lt _
      have hstep : foldP (s.data.toList.take (i + 1)) (0, 0) = stepP (A, n) x := by
        rw [List.take_add_one, List.getElem?_eq_getElem hlt2, fold_app, hf]
        simp only [Option.toList_some]
        unfold foldP
        simp only [List.foldl_cons, List.foldl_nil, hgx]
      have HS := Lib.hid hstep
      have HL := Lib.hid (stepP_lt (st := (A, n)) (c := x) ⟨hA, hn⟩)
      clear hx hgx hstep hf
      by_cases h46 : x = 46
      · subst h46
        have hor : bits .or .u32 ((A : Int) * 256 % 4294967296) (bits .and .u32 (n : Int) 255) = ((stepP (A, n) 46).1 : Int) := by
          rw [and255 _ hn, show (A : Int) * 256 % 4294967296 = ((A * 256 % 4294967296 : Nat) : Int) by omega, u32_or_nat _ _ (by omega) (by omega)]
          rfl
        go_wp2_with fail
        exact ⟨⟨i + 1, (stepP (A, n) 46).1, 0, by omega, by go_num, rfl, rfl, ⟨HL.out.1, by omega⟩, by rw [HS.out]; rfl⟩, by simp [intOf]; omega⟩
      · have g1 : ((x : Int) == 46) = false := by simp; omega
        have e : stepP (A, n) x = (A, (n * 10 + x + 4294967296 - 48) % 4294967296) := by unfold stepP; rw [if_neg h46]
        have HE := Lib.hid e
        clear e
        go_wp2_with fail
        have hL := HL.out
        rw [HE.out] at hL
        exact ⟨⟨i + 1, A, (n * 10 + x + 4294967296 - 48) % 4294967296, by omega, by go_num, rfl, by congr 1; omega, ⟨hA, hL.2⟩, by rw [HS.out, HE.out]⟩, by simp [intOf]; omega⟩
    · obtain rfl : i = s.size := by omega
      rw [List.take_of_length_le (by simp)] at hf
      have hF : finalP s.data.toList = (A * 256 % 4294967296) ||| (n % 256) := by unfold finalP; rw [hf]
      have hor : bits .or .u32 ((A : Int) * 256 % 4294967296) (bits .and .u32 (n : Int) 255) = ((finalP s.data.toList : Nat) : Int) := by
        rw [and255 _ hn, show (A : Int) * 256 % 4294967296 = ((A * 256 % 4294967296 : Nat) : Int) by omega, u32_or_nat _ _ (by omega) (by omega), hF]
      obtain ⟨T, hT⟩ : ∃ T : ByteArray, (⟨(textOf (finalP s.data.toList)).toArray⟩ : ByteArray) = T := ⟨_, rfl⟩
      rw [hT] at HT
      have hTd : T.data.toList = textOf (finalP s.data.toList) := by rw [← hT]
      clear hf hF hT
      by_cases heq : textOf (finalP s.data.toList) = s.data.toList
      · have hr := HRS.out.1 heq
        subst hr
        obtain rfl : T = s := Go.WideShapes.bytes_inj (hTd.trans heq)
        clear HRS hTd heq
        go_wp2_with (go_at_call 30; refine (HT.out _).mono ?_; rintro e wx ⟨rfl, hB⟩; replace HB := Lib.hid (below_step HB.out hB); clear hB)
        go_ret2
        exact ⟨rfl, HB.out⟩
      · have hr := HRS.out.2 heq
        subst hr
        have hne : (T.toList == s.toList) = false := by
          rw [ByteArray.toList_eq, ByteArray.toList_eq, hTd]
          exact beq_eq_false_iff_ne.2 heq
        have hne2 : (T.toList != s.toList) = true := by simp only [bne, hne]; rfl
        have hne3 : ¬ T = s := fun e => heq (by rw [← hTd, e])
        generalize finalP s.data.toList = F at *
        clear HRS hTd heq
        go_wp2_with (go_at_call 30; refine (HT.out _).mono ?_; rintro e wx ⟨rfl, hB⟩; replace HB := Lib.hid (below_step HB.out hB); clear hB)
        go_ret2
        exact ⟨rfl, HB.out⟩
end Go.Proofs.YtbahcpejippcjaaDoor
