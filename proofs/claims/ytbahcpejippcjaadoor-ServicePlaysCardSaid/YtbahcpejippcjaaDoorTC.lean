import Derived.Test.YtbahcpejippcjaaDoorTB
namespace Go.Proofs.YtbahcpejippcjaaDoor
open Go.RowKit Go.Shelf

/-! ### The reference's numbers -/
def stepN (n : Int) (c : UInt8) : Int := n * 10 + (c.toNat : Int) - 48
def foldN (l : List UInt8) : Int := l.foldl stepN 0
def valN (s : ByteArray) : Int := foldN (s.data.toList.take 10)
def numR (s : ByteArray) : Option Nat := if 0 ≤ valN s ∧ Lib.decDigits (valN s).toNat = s.data.toList then some (valN s).toNat else none
theorem fold_bd : ∀ (l : List UInt8) (P n : Int), 1 ≤ P → -(23 * P - 23) ≤ n → n ≤ 23 * P - 23 →
    -(23 * (P * 10 ^ l.length) - 23) ≤ l.foldl stepN n ∧ l.foldl stepN n ≤ 23 * (P * 10 ^ l.length) - 23
  | [], P, n, _, h1, h2 => by simpa using ⟨h1, h2⟩
  | c :: l, P, n, hP, h1, h2 => by
    have hc : (c.toNat : Int) < 256 := by have := UInt8.toNat_lt c; omega
    have := fold_bd l (P * 10) (stepN n c) (by omega) (by unfold stepN; omega) (by unfold stepN; omega)
    have e : P * 10 ^ (l.length + 1) = P * 10 * 10 ^ l.length := by rw [Int.pow_succ, Int.mul_comm (10 ^ l.length) 10, Int.mul_assoc]
    rw [List.foldl_cons, List.length_cons, e]
    exact this
theorem foldN_bd {l : List UInt8} (h : l.length ≤ 10) : -230000000000 ≤ foldN l ∧ foldN l ≤ 230000000000 := by
  have h1 := fold_bd l 1 0 (by omega) (by omega) (by omega)
  have h3 : 10 ^ l.length ≤ 10 ^ 10 := Nat.pow_le_pow_right (by omega) h
  have h4 : (10 : Int) ^ l.length = ((10 ^ l.length : Nat) : Int) := by simp
  have h5 : (10 : Nat) ^ 10 = 10000000000 := by decide
  rw [h4] at h1
  unfold foldN
  omega
theorem digit_is {b : UInt8} {d : Nat} (h : Lib.digitVal b = some d) : b.toNat = 48 + d := by
  unfold Lib.digitVal at h
  split at h
  · have := Option.some.inj h; omega
  · cases h
theorem fold_dec : ∀ (l : List UInt8) (a m : Nat), Lib.decFrom a l = some m → l.foldl stepN (a : Int) = (m : Int)
  | [], a, m, h => by simp [Lib.decFrom] at h; simp [h]
  | b :: l, a, m, h => by
    unfold Lib.decFrom at h
    split at h
    · rename_i d hd
      have := fold_dec l _ m h
      rw [List.foldl_cons, ← this]
      congr 1
      unfold stepN
      have := digit_is hd
      omega
    · cases h
theorem numR_dec {m : Nat} (h : m < 10000000000) : numR ⟨(Lib.decDigits m).toArray⟩ = some m := by
  have hl := dec_len 9 m (by simpa using h)
  have hv : valN ⟨(Lib.decDigits m).toArray⟩ = (m : Int) := by
    unfold valN foldN
    rw [List.take_of_length_le (by simpa using hl)]
    exact fold_dec _ 0 m (dec_from m)
  unfold numR
  rw [hv, if_pos ⟨by omega, by simp⟩]
  simp
theorem numR_lt {s : ByteArray} {m : Nat} (h : numR s = some m) : m ≤ 230000000000 := by
  unfold numR at h
  split at h
  · have := foldN_bd (l := s.data.toList.take 10) (List.length_take_le _ _)
    have h2 := Option.some.inj h
    unfold valN at h2
    omega
  · cases h

set_option maxRecDepth 100000 in
set_option maxHeartbeats 1000000 in
theorem numR_calls (s : ByteArray) (hs : s.size < 4294967281) (w : World) :
    Calls Tryd.prog 51 #[.string s] w fun e w' => e = .returned (.tuple #[.int .i64 (((numR s).getD 0 : Nat) : Int), .bool (numR s).isSome]) ∧ Below w.heap.size w w' := by
  have hsI : (s.size : Int) < 4294967281 := by omega
  have HB := Lib.hid (Below.refl w.heap.size w)
  have HR := Lib.hid (show ∃ r, numR s = r ∧ (0 ≤ valN s ∧ Lib.decDigits (valN s).toNat = s.data.toList → r = some (valN s).toNat) ∧ (¬ (0 ≤ valN s ∧ Lib.decDigits (valN s).toNat = s.data.toList) → r = none) from ⟨_, rfl, fun h => if_pos h, fun h => if_neg h⟩)
  obtain ⟨res, hres, hy, hn⟩ := HR.out
  rw [hres]
  have HY := Lib.hid hy
  have HN := Lib.hid hn
  clear HR hres hy hn
  go_enter Tryd.func51, Tryd.ntmps51
  go_wp2_with fail
  go_loop [4, 5] (fun vn vi => ∃ i : Nat, i ≤ s.size ∧ i ≤ 10 ∧ vi = .int .i64 (i : Int) ∧ vn = .int .i64 (foldN (s.data.toList.take i))) (fun _ vi => s.size - (intOf vi).toNat)
  case atStart => exact ⟨0, Nat.zero_le _, by omega, rfl, rfl⟩
  case round =>
    obtain ⟨i, hi, hi10, rfl, rfl⟩ := hrel
    obtain ⟨n, hn⟩ : ∃ n, foldN (s.data.toList.take i) = n := ⟨_, rfl⟩
    have hb := foldN_bd (l := s.data.toList.take i) (by rw [List.length_take]; omega)
    rw [hn] at hb ⊢
    by_cases hlt : i < s.size ∧ i < 10
    · obtain ⟨hlt, h10⟩ := hlt
      have hil : (i : Int) < (s.size : Int) := by omega
      have hi10' : (i : Int) < 10 := by omega
      have hlt2 : i < s.data.toList.length := by simpa using hlt
      obtain ⟨x, hx⟩ : ∃ x : Nat, s[i].toNat = x := ⟨_, rfl⟩
      have hgx : (s.data.toList[i]).toNat = x := by rw [← hx]; simp [ByteArray.getElem_eq_getElem_data]
      have hx256 : x < 256 := by rw [← hx]; exact UInt8.toNat_lt _
      have hxI : ((s[i].toNat : Nat) : Int) = (x : Int) := by rw [hx]
      have hstep : foldN (s.data.toList.take (i + 1)) = n * 10 + (x : Int) - 48 := by
        rw [List.take_add_one, List.getElem?_eq_getElem hlt2]
        unfold foldN at hn ⊢
        rw [List.foldl_append, hn]
        simp only [Option.toList_some, List.foldl_cons, List.foldl_nil, stepN, hgx]
      have HS := Lib.hid hstep
      clear hx hgx hstep hn
      go_wp2_with fail
      go_round
      case rel => exact ⟨i + 1, by omega, by omega, by go_num, by rw [HS.out]⟩
      case measure => simp [intOf]; omega
    · have hv : valN s = n := by
        unfold valN
        rw [← hn]
        rcases Nat.lt_or_ge i 10 with h | h
        · have : i = s.size := by omega
          subst this
          rw [List.take_of_length_le (by simp; omega), List.take_of_length_le (by simp)]
        · rw [show i = 10 by omega]
      have hY := HY.out
      have hN := HN.out
      rw [hv] at hY hN
      replace HY := Lib.hid hY
      replace HN := Lib.hid hN
      clear hY hN hv hn
      have hor : i < s.size → ¬ i < 10 := fun h h2 => hlt ⟨h, h2⟩
      clear hlt
      by_cases hneg : n < 0
      · have hr := HN.out (by omega)
        subst hr
        by_cases hlt : i < s.size
        · have h10 := hor hlt
          have hil : (i : Int) < (s.size : Int) := by omega
          have hi10' : ¬ (i : Int) < 10 := by omega
          go_wp2_with fail
          go_ret2
          exact ⟨rfl, HB.out⟩
        · have hil : ¬ (i : Int) < (s.size : Int) := by omega
          go_wp2_with fail
          go_ret2
          exact ⟨rfl, HB.out⟩
      · obtain ⟨m, rfl⟩ : ∃ m : Nat, n = (m : Int) := ⟨n.toNat, by omega⟩
        have HD := Lib.hid (digits_calls31 m (by omega))
        obtain ⟨T, hT⟩ : ∃ T : ByteArray, (⟨(Lib.decDigits m).toArray⟩ : ByteArray) = T := ⟨_, rfl⟩
        rw [hT] at HD
        have hTd : T.data.toList = Lib.decDigits m := by rw [← hT]
        have hY := HY.out
        have hN := HN.out
        rw [Int.toNat_natCast, ← hTd] at hY hN
        clear HY HN hT
        have key : (∃ b, (T.toList == s.toList) = b ∧ (b = true → res = some m) ∧ (b = false → res = none)) := by
          refine ⟨_, rfl, fun h => hY ⟨by omega, ?_⟩, fun h => hN ?_⟩
          · rw [ByteArray.toList_eq, ByteArray.toList_eq] at h; exact eq_of_beq h
          · rintro ⟨_, h2⟩
            rw [ByteArray.toList_eq, ByteArray.toList_eq, h2] at h
            simp at h
        obtain ⟨b, hb1, hb2, hb3⟩ := key
        have hb4 : (T.toList != s.toList) = !b := by rw [← hb1]; rfl
        have HB2 := Lib.hid hb2
        have HB3 := Lib.hid hb3
        clear hY hN hTd hb2 hb3
        by_cases hlt : i < s.size
        all_goals
          first
            | (have h10 := hor hlt; have hil : (i : Int) < (s.size : Int) := (by omega); have hi10' : ¬ (i : Int) < 10 := (by omega))
            | have hil : ¬ (i : Int) < (s.size : Int) := by omega
          clear hor
          cases b
          · obtain rfl := HB3.out rfl
            go_wp2_with (go_at_call 31; refine (HD.out _).mono ?_; rintro e wx ⟨rfl, hB⟩; replace HB := Lib.hid (below_step HB.out hB); clear hB)
            go_ret2
            exact ⟨rfl, HB.out⟩
          · obtain rfl := HB2.out rfl
            go_wp2_with (go_at_call 31; refine (HD.out _).mono ?_; rintro e wx ⟨rfl, hB⟩; replace HB := Lib.hid (below_step HB.out hB); clear hB)
            go_ret2
            exact ⟨rfl, HB.out⟩

/-! ### An address and a port -/
def endR (s : ByteArray) : Nat × Nat × Bool :=
  match s.data.toList.findIdx? (· == 58) with
  | some i => ((parseOf (s.extract 0 i)).getD 0, (numR (s.extract (i + 1) s.size)).getD 0, (parseOf (s.extract 0 i)).isSome && (numR (s.extract (i + 1) s.size)).isSome)
  | none => (0, 0, false)
theorem endR_at {s : ByteArray} (i : Nat) (hi : i < s.size) (h : s[i] = 58) (hb : ∀ j (hj : j < s.size), j < i → s[j] ≠ 58) :
    endR s = ((parseOf (s.extract 0 i)).getD 0, (numR (s.extract (i + 1) s.size)).getD 0, (parseOf (s.extract 0 i)).isSome && (numR (s.extract (i + 1) s.size)).isSome) := by
  have e : s.data.toList.findIdx? (· == 58) = some i := by
    rw [List.findIdx?_eq_some_iff_getElem]
    refine ⟨by simpa using hi, ?_, fun j hj => ?_⟩
    · have : s.data.toList[i]'(by simpa using hi) = s[i] := by simp [ByteArray.getElem_eq_getElem_data]
      rw [this, h]; rfl
    · have : s.data.toList[j]'(by have := hi; simp; omega) = s[j]'(by omega) := by simp [ByteArray.getElem_eq_getElem_data]
      rw [this]
      simp [hb j (by omega) hj]
  unfold endR
  rw [e]
theorem endR_none {s : ByteArray} (hb : ∀ j (hj : j < s.size), s[j] ≠ 58) : endR s = (0, 0, false) := by
  have e : s.data.toList.findIdx? (· == 58) = none := by
    rw [List.findIdx?_eq_none_iff]
    intro x hx
    obtain ⟨j, hj, rfl⟩ := List.getElem_of_mem hx
    have : s.data.toList[j] = s[j]'(by simpa using hj) := by simp [ByteArray.getElem_eq_getElem_data]
    rw [this]
    simp [hb j (by simpa using hj)]
  unfold endR
  rw [e]

set_option maxRecDepth 100000 in
set_option maxHeartbeats 1000000 in
theorem endR_calls (s : ByteArray) (hs : s.size < 4294967281) (w : World) :
    Calls Tryd.prog 37 #[.string s] w fun e w' => e = .returned (.tuple #[.int .u32 ((endR s).1 : Int), .int .i64 ((endR s).2.1 : Int), .bool (endR s).2.2]) ∧ Below w.heap.size w w' := by
  have hsI : (s.size : Int) < 4294967281 := by omega
  have HB := Lib.hid (Below.refl w.heap.size w)
  have HA := Lib.hid (@endR_at s)
  have HZ := Lib.hid (@endR_none s)
  obtain ⟨R, hR⟩ : ∃ R, endR s = R := ⟨_, rfl⟩
  rw [hR] at HA HZ ⊢
  obtain ⟨r0, r1, r2⟩ := R
  clear hR
  go_enter Tryd.func37, Tryd.ntmps37
  go_wp2_with fail
  go_loop [5] (fun vi => ∃ i : Nat, i ≤ s.size ∧ vi = .int .i64 (i : Int) ∧ ∀ j (hj : j < s.size), j < i → s[j] ≠ 58) (fun vi => s.size - (intOf vi).toNat)
  case atStart => exact ⟨0, Nat.zero_le _, rfl, fun _ _ h => absurd h (Nat.not_lt_zero _)⟩
  case round =>
    obtain ⟨i, hi, rfl, hno⟩ := hrel
    have HNO := Lib.hid hno
    clear hno
    by_cases hlt : i < s.size
    · have hil : (i : Int) < (s.size : Int) := by omega
      by_cases h58 : s[i] = 58
      · have hr := HA.out i hlt h58 (fun j hj h => HNO.out j hj h)
        have hsz1 : (s.extract 0 i).size < 4294967281 := by rw [ByteArray.size_extract]; omega
        have hsz2 : (s.extract (i + 1) s.size).size < 4294967281 := by rw [ByteArray.size_extract]; omega
        have HP := Lib.hid (ref02Parse_calls (s.extract 0 i) hsz1)
        have HQ := Lib.hid (numR_calls (s.extract (i + 1) s.size) hsz2)
        have hx : ((s[i].toNat : Nat) : Int) = 58 := by rw [h58]; rfl
        obtain ⟨p, hp⟩ : ∃ p, parseOf (s.extract 0 i) = p := ⟨_, rfl⟩
        obtain ⟨q, hq⟩ : ∃ q, numR (s.extract (i + 1) s.size) = q := ⟨_, rfl⟩
        rw [hp] at HP
        rw [hq] at HQ
        rw [hp, hq] at hr
        simp only [Prod.mk.injEq] at hr
        obtain ⟨rfl, rfl, rfl⟩ := hr
        clear hp hq h58 hsz1 hsz2 HA HZ HNO
        cases p <;> cases q
        all_goals
          go_wp2_with (first
            | (go_at_call 38; refine (HP.out _).mono ?_; rintro e wx ⟨rfl, hB⟩; replace HB := Lib.hid (below_step HB.out hB); clear hB)
            | (go_at_call 51; refine (HQ.out _).mono ?_; rintro e wx ⟨rfl, hB⟩; replace HB := Lib.hid (below_step HB.out hB); clear hB))
          exact bodyPost_ret (v := .tuple #[_, _, _]) (by simp [results, Tryd.f37, go_sem]; try rfl) rfl ⟨rfl, HB.out⟩
      · obtain ⟨x, hx⟩ : ∃ x : Nat, s[i].toNat = x := ⟨_, rfl⟩
        have hxI : ((s[i].toNat : Nat) : Int) = (x : Int) := by rw [hx]
        have hx58 : ¬ x = 58 := by
          intro h
          exact h58 (UInt8.toNat_inj.1 (by rw [hx, h]; rfl))
        have g1 : ((x : Int) == 58) = false := by simp; omega
        clear hx hx58
        have hn2 : ∀ j (hj : j < s.size), j < i + 1 → s[j] ≠ 58 := fun j hj h => by
          rcases Nat.lt_or_ge j i with h2 | h2
          · exact HNO.out j hj h2
          · obtain rfl : j = i := by omega
            exact h58
        have HN2 := Lib.hid hn2
        clear hn2 h58 HA HZ
        go_wp2_with fail
        go_round
        case rel => exact ⟨i + 1, by omega, by go_num, HN2.out⟩
        case measure => simp [intOf]; omega
    · have hil : ¬ (i : Int) < (s.size : Int) := by omega
      have hr := HZ.out (fun j hj => HNO.out j hj (by omega))
      simp only [Prod.mk.injEq] at hr
      obtain ⟨rfl, rfl, rfl⟩ := hr
      clear HA HZ HNO
      go_wp2_with fail
      exact bodyPost_ret (v := .tuple #[_, _, _]) (by simp [results, Tryd.f37, go_sem]; try rfl) rfl ⟨rfl, HB.out⟩
end Go.Proofs.YtbahcpejippcjaaDoor
