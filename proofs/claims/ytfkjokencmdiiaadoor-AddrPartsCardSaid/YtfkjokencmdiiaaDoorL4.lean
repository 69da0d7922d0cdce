import Derived.Test.YtfkjokencmdiiaaDoorP2
import Derived.Deep.CutRange
namespace Go.Proofs.YtfkjokencmdiiaaDoor
open Go.RowKit Go.Shelf

set_option maxRecDepth 100000 in
set_option maxHeartbeats 3000000 in
theorem walk_AddrParts (a0 : Int) (a1 : Int) (w : World) (w0 : (Lit.int .u32 a0).wf = true) (w1 : (Lit.int .u32 a1).wf = true) (hE : Env w) :
    Calls Tryd.prog 6 #[.int .u32 a0, .int .u32 a1] w fun e w' => e = .returned (.bool true) ∧ Below w.heap.size w w' := by
  obtain ⟨a, rfl, ha⟩ := u32_nat w0
  obtain ⟨b, rfl, hb⟩ := u32_nat w1
  have HE := Lib.hid hE
  have HB := Lib.hid (Below.refl w.heap.size w)
  obtain ⟨S, hS⟩ : ∃ S : ByteArray, (⟨(textOf a).toArray⟩ : ByteArray) = S := ⟨_, rfl⟩
  obtain ⟨T, hT⟩ : ∃ T : ByteArray, (⟨(textOf b).toArray⟩ : ByteArray) = T := ⟨_, rfl⟩
  have HA := Lib.hid (text_calls a ha)
  have HT := Lib.hid (text_calls b hb)
  rw [hS] at HA
  rw [hT] at HT
  have F := text_facts a S (by rw [← hS])
  have hST : (S.toList == T.toList) = ((a : Int) == (b : Int)) := by
    by_cases e : a = b
    · subst e
      have : S = T := hS.symm.trans hT
      subst this
      simp
    · have h1 : ((a : Int) == (b : Int)) = false := by simp; omega
      rw [h1]
      simp only [beq_eq_false_iff_ne]
      intro e2
      apply e
      rw [ByteArray.toList_eq, ByteArray.toList_eq, ← hS, ← hT] at e2
      exact text_inj ha hb (by simpa using e2)
  have hl1 : (7 : Int) ≤ (S.size : Int) := by have := F.len; omega
  have hl2 : (S.size : Int) ≤ 15 := by have := F.len; omega
  have HF := Lib.hid F
  have S1 : Stage 1 := Stage.mk 1
  clear w0 w1 hE hS hT F ha hb
  go_enter Tryd.func6, Tryd.ntmps6
  go_wp2_with (first
    | (go_at_call 10; refine (examples02 _ HE.out).mono ?_; rintro e wx ⟨rfl, hB⟩; replace HB := Lib.hid (below_step HB.out hB); replace HE := Lib.hid (HE.out.below hB); clear hB)
    | (go_at_call 13; refine (HA.out _ HE.out).mono ?_; rintro e wx ⟨rfl, hB⟩; replace HB := Lib.hid (below_step HB.out hB); replace HE := Lib.hid (HE.out.below hB); clear hB))
  go_loop [7, 8] (fun pts ii => ∃ i : Nat, i ≤ S.size ∧ ii = .int .i64 (i : Int) ∧ pts = .int .i64 (((S.data.toList.take i).count 46 : Nat) : Int)) (fun _ ii => S.size - (intOf ii).toNat)
  case atStart => exact ⟨0, Nat.zero_le _, rfl, rfl⟩
  case round =>
    obtain ⟨i, hi, rfl, rfl⟩ := hrel
    by_cases hlt : i < S.size
    · have hil : (i : Int) < (S.size : Int) := by omega
      have hlt2 : i < S.data.toList.length := by simpa using hlt
      obtain ⟨x, hx⟩ : ∃ x : Nat, S[i].toNat = x := ⟨_, rfl⟩
      have hxI : ((S[i].toNat : Nat) : Int) = (x : Int) := by rw [hx]
      have hgx : (S.data.toList[i]).toNat = x := by rw [← hx]; simp [ByteArray.getElem_eq_getElem_data]
      have hby := HF.out.bytes (S.data.toList[i]) (List.getElem_mem hlt2)
      obtain ⟨n, hn⟩ : ∃ n, (S.data.toList.take i).count 46 = n := ⟨_, rfl⟩
      have hn15 : (n : Int) ≤ 15 := by
        have h1 : n ≤ i := by rw [← hn]; exact Nat.le_trans List.count_le_length (List.length_take_le _ _)
        omega
      have hstep : (S.data.toList.take (i + 1)).count 46 = if x = 46 then n + 1 else n := by
        rw [List.take_add_one, List.getElem?_eq_getElem hlt2, List.count_append, hn]
        simp only [Option.toList_some, List.count_singleton]
        by_cases e : S.data.toList[i] = 46
        · have : x = 46 := by rw [← hgx, e]; rfl
          simp [e, this]
        · have : x ≠ 46 := fun h => e (UInt8.toNat_inj.1 (by rw [hgx, h]; rfl))
          have e2 : (S.data.toList[i] == (46 : UInt8)) = false := beq_eq_false_iff_ne.2 e
          rw [e2, if_neg this]
          rfl
      have HS := Lib.hid hstep
      have hx2 : x = 46 ∨ (48 ≤ x ∧ x ≤ 57) := by
        rcases hby with e | e
        · left; rw [← hgx, e]; rfl
        · right; rw [← hgx]; exact e
      rw [hn]
      clear hx hgx hby hn hstep
      by_cases h46 : x = 46
      · subst h46
        go_wp2_with fail
        exact ⟨⟨i + 1, by omega, by go_num, by rw [HS.out]; simp⟩, by simp [intOf]; omega⟩
      · have g1 : ((x : Int) == 46) = false := by simp; omega
        have g2 : ¬ (x : Int) < 48 := by omega
        have g3 : ¬ (57 : Int) < (x : Int) := by omega
        go_wp2_with fail
        exact ⟨⟨i + 1, by omega, by go_num, by rw [HS.out, if_neg h46]⟩, by simp [intOf]; omega⟩
    · obtain rfl : i = S.size := by omega
      have hpt : (((S.data.toList.take S.size).count 46 : Nat) : Int) = 3 := by
        rw [List.take_of_length_le (by simp), HF.out.points]
        rfl
      rw [hpt]
      obtain ⟨M, hM⟩ : ∃ M : ByteArray, S ++ ⟨#[46, 48]⟩ = M := ⟨_, rfl⟩
      obtain ⟨Z, hZ⟩ : ∃ Z : ByteArray, ⟨#[48]⟩ ++ S = Z := ⟨_, rfl⟩
      have hMd : M.data.toList = S.data.toList ++ [46, 48] := by rw [← hM]; simp
      have hZd : Z.data.toList = 48 :: S.data.toList := by rw [← hZ]; simp
      have hMs : M.size < 4294967281 := by
        have h2 : (⟨#[46, 48]⟩ : ByteArray).size = 2 := rfl
        rw [← hM, ByteArray.size_append, h2]
        omega
      have hZs : Z.size < 4294967281 := by
        have h1 : (⟨#[48]⟩ : ByteArray).size = 1 := rfl
        rw [← hZ, ByteArray.size_append, h1]
        omega
      have HM := Lib.hid (parse_calls M hMs)
      have HZ := Lib.hid (parse_calls Z hZs)
      rw [HF.out.more M hMd] at HM
      rw [HF.out.zero Z hZd] at HZ
      simp only [Option.getD_none, Option.isSome_none] at HM HZ
      clear hpt hMd hZd hMs hZs
      cases hab : ((a : Int) == (b : Int))
      all_goals
        rw [hab] at hST
        go_wp2_with (first
          | (go_at_call 11; clear S1; refine (HM.out _ HE.out).mono ?_; rintro e wy ⟨rfl, hB⟩; replace HB := Lib.hid (below_step HB.out hB); replace HE := Lib.hid (HE.out.below hB); clear hB)
          | (go_at_call 11; refine (HZ.out _ HE.out).mono ?_; rintro e wy ⟨rfl, hB⟩; replace HB := Lib.hid (below_step HB.out hB); replace HE := Lib.hid (HE.out.below hB); clear hB)
          | (go_at_call 13; refine (HT.out _ HE.out).mono ?_; rintro e wy ⟨rfl, hB⟩; replace HB := Lib.hid (below_step HB.out hB); clear hB))
        go_ret
        exact ⟨rfl, HB.out⟩
end Go.Proofs.YtfkjokencmdiiaaDoor
