import Derived.Test.YtfkjokencmdiiaaDoorP4
import Derived.Laws.DeepStrings4
namespace Go.Proofs.YtfkjokencmdiiaaDoor
open Go.RowKit Go.Shelf

theorem end_join (j : Nat) : (⟨#[47]⟩ : ByteArray) ++ ⟨(dig j).toArray⟩ = endOf j := by
  apply Go.WideShapes.bytes_inj
  simp [endOf]

set_option maxRecDepth 100000 in
set_option maxHeartbeats 2000000 in
theorem refParseNet_calls (s : ByteArray) (hs : s.size < 4294967281) (w : World) :
    Calls Tryd.prog 21 #[.string s] w fun e w' => e = .returned (.tuple #[.int .u32 ((((netOf s).getD (0, 0)).1 : Nat) : Int), .int .i64 ((((netOf s).getD (0, 0)).2 : Nat) : Int), .bool (netOf s).isSome]) ∧ Below w.heap.size w w' := by
  have hsI : (s.size : Int) < 4294967281 := by omega
  have HB0 := Lib.hid (Below.refl w.heap.size w)
  obtain ⟨res, hres⟩ : ∃ res, netOf s = res := ⟨_, rfl⟩
  rw [hres]
  have HRES := Lib.hid hres
  clear hres
  go_enter Tryd.func21, Tryd.ntmps21
  go_wp2_with fail
  go_loopw [5] (fun vi wr => ∃ i : Nat, i ≤ 33 ∧ vi = .int .i64 (i : Int) ∧ (∀ x k, res = some (x, k) → i ≤ k) ∧ Below w.heap.size w wr) (fun vi _ => 33 - (intOf vi).toNat)
  case atStart => exact ⟨0, Nat.zero_le _, rfl, fun _ _ _ => Nat.zero_le _, Below.refl _ _⟩
  case round =>
    obtain ⟨i, hi, rfl, hno, hB⟩ := hrel
    have HB := Lib.hid hB
    have HNO := Lib.hid hno
    clear hB hno HB0
    by_cases hlt : i ≤ 32
    · have hil : (i : Int) ≤ 32 := by omega
      have HI := Lib.hid (digits_calls i (by omega))
      have hz := endOf_size hlt
      have hj := end_join i
      have hd2 : (⟨(dig i).toArray⟩ : ByteArray).size ≤ 3 := by rw [size_of_list]; exact (dig_facts (show i < 256 by omega)).2.1.2
      obtain ⟨E, hE⟩ : ∃ E, endOf i = E := ⟨_, rfl⟩
      rw [hE] at hz hj
      obtain ⟨D, hD⟩ : ∃ D : ByteArray, (⟨(dig i).toArray⟩ : ByteArray) = D := ⟨_, rfl⟩
      rw [hD] at hj hd2 HI
      have hsz : E.size ≤ 4 := hz.2.2
      have hszI : (E.size : Int) ≤ 4 := by omega
      have HE := Lib.hid hE
      clear hE hD hz
      by_cases h0 : s.size < E.size
      · have h0I : (s.size : Int) < (E.size : Int) := by omega
        have hN : ∀ x k, res = some (x, k) → i + 1 ≤ k := fun x k h => by
          have h1 := HNO.out x k h
          rcases Nat.lt_or_eq_of_le h1 with h2 | h2
          · exact h2
          · subst h2
            have := (net_end (HRES.out.trans h)).1
            rw [HE.out] at this
            omega
        go_wp2_with (go_at_call 27; refine (HI.out _).mono ?_; rintro e wx ⟨rfl, hB⟩; replace HB := Lib.hid (below_step HB.out hB); clear hB)
        exact ⟨⟨i + 1, by omega, by go_num, hN, HB.out⟩, by simp [intOf]; omega⟩
      · have h0I : ¬ (s.size : Int) < (E.size : Int) := by omega
        obtain ⟨m, hm⟩ : ∃ m : Nat, s.size - E.size = m := ⟨_, rfl⟩
        have hmI : (s.size : Int) - (E.size : Int) = (m : Int) := by omega
        have hml : m ≤ s.size := by omega
        by_cases h1 : s.extract m s.size = E
        · have HP := Lib.hid (refParse_calls (s.extract 0 m) (by rw [ByteArray.size_extract]; omega))
          obtain ⟨pa, hpa⟩ : ∃ pa, parseOf (s.extract 0 m) = pa := ⟨_, rfl⟩
          have HPA := Lib.hid hpa
          rw [hpa] at HP
          obtain ⟨A, hA⟩ : ∃ A : Nat, pa.getD 0 = A := ⟨_, rfl⟩
          have hAl : A < 4294967296 := by
            rw [← hA]
            cases pa with
            | none => simp
            | some x => exact parseOf_lt hpa
          obtain ⟨ok, hok⟩ : ∃ ok, pa.isSome = ok := ⟨_, rfl⟩
          have HR := Lib.hid (refRight_calls A hAl (i : Int))
          obtain ⟨r, hr⟩ : ∃ r, rightI A (i : Int) = r := ⟨_, rfl⟩
          rw [hA, hok] at HP
          rw [hr] at HR
          have h1t : s.extract m s.size = E := h1
          by_cases hboth : ok = true ∧ r = true
          · obtain ⟨rfl, rfl⟩ := hboth
            have hres2 : res = some (A, i) := by
              rw [← HRES.out]
              refine end_net hlt (by rw [HE.out]; omega) (by rw [HE.out, hm]; exact h1) ?_ hr
              rw [HE.out, hm, HPA.out]
              cases pa with
              | none => cases hok
              | some x => exact congrArg some hA
            subst hres2
            clear HPA hpa hA hAl hok hr HRES HE HNO
            go_wp2_with (first
              | (go_at_call 27; refine (HI.out _).mono ?_; rintro e wx ⟨rfl, hB⟩; replace HB := Lib.hid (below_step HB.out hB); clear hB)
              | (go_at_call 12; refine (HP.out _).mono ?_; rintro e wx ⟨rfl, hB⟩; replace HB := Lib.hid (below_step HB.out hB); clear hB)
              | (go_at_call 29; refine (HR.out _).mono ?_; rintro e wx ⟨rfl, rfl⟩))
            exact ⟨rfl, .tuple #[.int .u32 (A : Int), .int .i64 (i : Int), .bool true], by simp [results, Tryd.f21, go_sem], rfl, HB.out⟩
          · have hN : ∀ x k, res = some (x, k) → i + 1 ≤ k := fun x k h => by
              have h1 := HNO.out x k h
              rcases Nat.lt_or_eq_of_le h1 with h2 | h2
              · exact h2
              · subst h2
                obtain ⟨_, _, g3, g4⟩ := net_end (HRES.out.trans h)
                rw [HE.out, hm, HPA.out] at g3
                subst g3
                exfalso
                apply hboth
                refine ⟨by rw [← hok]; rfl, ?_⟩
                rw [← hr, ← hA]
                exact g4
            clear HPA hpa hA hAl hok hr HRES HE HNO h1t
            cases ok <;> cases r
            case' true.true => simp at hboth
            all_goals
              clear hboth
              go_wp2_with (first
                | (go_at_call 27; refine (HI.out _).mono ?_; rintro e wx ⟨rfl, hB⟩; replace HB := Lib.hid (below_step HB.out hB); clear hB)
                | (go_at_call 12; refine (HP.out _).mono ?_; rintro e wx ⟨rfl, hB⟩; replace HB := Lib.hid (below_step HB.out hB); clear hB)
                | (go_at_call 29; refine (HR.out _).mono ?_; rintro e wx ⟨rfl, rfl⟩))
              exact ⟨⟨i + 1, by omega, by go_num, hN, HB.out⟩, by simp [intOf]; omega⟩
        · have hN : ∀ x k, res = some (x, k) → i + 1 ≤ k := fun x k h => by
            have h2 := HNO.out x k h
            rcases Nat.lt_or_eq_of_le h2 with h3 | h3
            · exact h3
            · subst h3
              obtain ⟨_, g2, _, _⟩ := net_end (HRES.out.trans h)
              rw [HE.out, hm] at g2
              exact absurd g2 h1
          have hne : ((s.extract m s.size).toList == E.toList) = false := by
            rw [ByteArray.toList_eq, ByteArray.toList_eq]
            exact beq_eq_false_iff_ne.2 (fun e => h1 (Go.WideShapes.bytes_inj e))
          have hne2 : ((s.extract m s.size).toList != E.toList) = true := by simp only [bne, hne]; rfl
          obtain ⟨X, hX⟩ : ∃ X, s.extract m s.size = X := ⟨_, rfl⟩
          rw [hX] at hne hne2 h1
          clear HRES HE HNO
          go_wp2_with (go_at_call 27; refine (HI.out _).mono ?_; rintro e wx ⟨rfl, hB⟩; replace HB := Lib.hid (below_step HB.out hB); clear hB)
          exact ⟨⟨i + 1, by omega, by go_num, hN, HB.out⟩, by simp [intOf]; omega⟩
    · have hil : ¬ (i : Int) ≤ 32 := by omega
      have hres2 : res = none := by
        cases res with
        | none => rfl
        | some v =>
          obtain ⟨x, k⟩ := v
          have h1 := HNO.out x k rfl
          have h2 := (net_inv HRES.out).2.1
          omega
      subst hres2
      clear HRES HNO
      go_wp2_with fail
      exact ⟨rfl, .tuple #[.int .u32 0, .int .i64 0, .bool false], by simp [results, Tryd.f21, go_sem], rfl, HB.out⟩
end Go.Proofs.YtfkjokencmdiiaaDoor
