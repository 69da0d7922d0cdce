import Derived.Test.YtbahcpejippcjaaDoorS8
import Derived.Test.YtbahcpejippcjaaDoorPL
namespace Go.Proofs.YtbahcpejippcjaaDoor
open Go.RowKit Go.Shelf

theorem parse_not (line : ByteArray) (hs : line.size < 4294967281) (h : parseS line = none) (w : World) (hE : Env w) :
    Calls Tryd.prog 13 #[.string line] w fun e w' => e = .returned (.tuple #[.agg #[.int .i64 0, .int .u32 0, .int .i64 0, .bool false, .int .u32 0], .bool false]) ∧ Below w.heap.size w w' := by
  have := parse_line line hs w hE
  rw [h] at this
  exact this
theorem none_if {line : ByteArray} (h : ∀ y, rightB y = true → svcL y = line.data.toList → False) : parseS line = none := by
  cases hp : parseS line with
  | none => rfl
  | some y =>
    obtain ⟨h1, h2⟩ := svc_parse hp
    exact (h y h1 h2).elim
theorem size_data (b : ByteArray) : b.data.toList.length = b.size := rfl
theorem line_a {s : Svc} (hs : rightB s = true) (word : ByteArray) : parseS (⟨(svcL s).toArray⟩ ++ ⟨#[32]⟩ ++ word) = none :=
  none_if fun y hy h => no_more (m := word.data.toList) hs hy (by rw [h]; simp [ByteArray.data_append])
theorem line_b (t : ByteArray) : parseS (⟨#[32]⟩ ++ t) = none :=
  none_if fun y hy h => no_head (y := y) (x := 32) (m := t.data.toList) (by decide) (by decide) (by rw [h]; simp [ByteArray.data_append])
theorem line_d (t : ByteArray) : parseS (⟨#[84, 67, 80]⟩ ++ t) = none :=
  none_if fun y hy h => no_head (y := y) (x := 84) (m := 67 :: 80 :: t.data.toList) (by decide) (by decide) (by rw [h]; simp [ByteArray.data_append])
theorem cut_data (l : List UInt8) : ((⟨l.toArray⟩ : ByteArray).extract 0 (l.length - 1)).data.toList = l.dropLast := by
  rw [ByteArray.data_extract]
  simp [List.dropLast_eq_take]
theorem line_c {s x : Svc} (hs : rightB s = true) (h : parseS ((⟨(svcL s).toArray⟩ : ByteArray).extract 0 ((svcL s).length - 1)) = some x) : x ≠ s ∧ s.dsr = false := by
  obtain ⟨h1, h2⟩ := svc_parse h
  rw [cut_data] at h2
  refine ⟨no_same h2, ?_⟩
  cases hd : s.dsr
  · rfl
  · exact (no_less hs h1 hd h2).elim

set_option maxRecDepth 100000 in
set_option maxHeartbeats 1600000 in
theorem walk_ServiceLines (s : Svc) (word : ByteArray) (w : World) (ho : s.ok) (hl : word.size ≤ 1048576) (hE : Env w) :
    Calls Tryd.prog 6 #[s.val, .string word] w fun e w' => e = .returned (.bool true) ∧ Below w.heap.size w w' := by
  obtain ⟨T, hT⟩ : ∃ T, textS s = T := ⟨_, rfl⟩
  have hTs := textS_size s
  have HT := Lib.hid (textS_any s ho)
  rw [hT] at HT hTs
  obtain ⟨ok, hok⟩ : ∃ b, rightB s = b := ⟨_, rfl⟩
  rw [hok] at HT
  have hsm : ok = true → 3 < T.size := by
    intro h
    rw [h] at hok
    rw [← hT]
    unfold textS
    rw [if_pos hok, size_of_list]
    exact (svc_three s).1
  have HA : ok = true → ∀ w, Env w → Calls Tryd.prog 13 #[.string (T ++ ⟨#[32]⟩ ++ word)] w fun e w' => e = .returned (.tuple #[.agg #[.int .i64 0, .int .u32 0, .int .i64 0, .bool false, .int .u32 0], .bool false]) ∧ Below w.heap.size w w' := by
    intro h
    refine parse_not _ ?_ ?_
    · simp only [ByteArray.size_append]
      have : (⟨#[32]⟩ : ByteArray).size = 1 := rfl
      omega
    · rw [h] at hok
      rw [← hT]
      unfold textS
      rw [if_pos hok]
      exact line_a hok word
  have HP := Lib.hid (parse_not (⟨#[32]⟩ ++ T) (by
    simp only [ByteArray.size_append]
    have : (⟨#[32]⟩ : ByteArray).size = 1 := rfl
    omega) (line_b T))
  have HD : ∀ U : ByteArray, U.size < 2000 → ∀ w, Env w → Calls Tryd.prog 13 #[.string (⟨#[84, 67, 80]⟩ ++ U)] w fun e w' => e = .returned (.tuple #[.agg #[.int .i64 0, .int .u32 0, .int .i64 0, .bool false, .int .u32 0], .bool false]) ∧ Below w.heap.size w w' := by
    intro U hU
    refine parse_not _ ?_ (line_d U)
    simp only [ByteArray.size_append]
    have : (⟨#[84, 67, 80]⟩ : ByteArray).size = 3 := rfl
    omega
  obtain ⟨X, hX⟩ : ∃ X, gotS (T.extract 0 (T.size - 1)) = X := ⟨_, rfl⟩
  obtain ⟨c, hc⟩ : ∃ c, (parseS (T.extract 0 (T.size - 1))).isSome = c := ⟨_, rfl⟩
  have hcx : ok = true → c = true → X ≠ s ∧ s.dsr = false := by
    intro h h2
    rw [h] at hok
    have hT2 : T = ⟨(svcL s).toArray⟩ := by rw [← hT]; unfold textS; rw [if_pos hok]
    rw [h2] at hc
    have hsz : T.size = (svcL s).length := by rw [hT2, size_of_list]
    unfold gotS at hX
    cases hp : parseS (T.extract 0 (T.size - 1)) with
    | none => rw [hp] at hc; cases hc
    | some x =>
      rw [hp] at hX
      simp only [Option.getD_some] at hX
      rw [hsz, hT2] at hp
      rw [← hX]
      exact line_c hok hp
  have HC := Lib.hid (parse_any (T.extract 0 (T.size - 1)) (by rw [ByteArray.size_extract]; omega))
  rw [hX, hc] at HC
  have hTe : ok = false → T = ⟨#[]⟩ := by
    intro h
    rw [h] at hok
    rw [← hT]
    unfold textS
    rw [if_neg (by rw [hok]; decide)]
  replace HD := Lib.hid HD
  obtain ⟨a0, a1, a2, a3, a4⟩ := s
  obtain ⟨x0, x1, x2, x3, x4⟩ := X
  have HE := Lib.hid hE
  have HB := Lib.hid (Below.refl w.heap.size w)
  have S1 := Stage.mk 1
  have S2 := Stage.mk 2
  have S3 := Stage.mk 3
  have S4 := Stage.mk 4
  have S5 := Stage.mk 5
  clear hT hok hE ho hX hc
  unfold Svc.val at *
  cases ok
  · obtain rfl := hTe rfl
    clear HA hcx hsm hTe HP HD HC S1 S2 S3 S4 S5
    go_enter Tryd.func6, Tryd.ntmps6
    go_wp2_with (first
        | (go_at_call 9; refine (examples19 _ (HE.out.below (HB.out.alloc HB.out.size _))).mono ?_; rintro e wx ⟨rfl, hB⟩; have HS := Lib.hid (box_on hB); obtain ⟨⟨d0, d1, d2, d3, d4⟩, _⟩ := cells5 HS.out; replace HB := Lib.hid (below_step (HB.out.alloc HB.out.size _) hB); clear hB)
        | (go_at_call 10; refine (HT.out _ (HE.out.below HB.out)).mono ?_; rintro e w1 ⟨rfl, hB⟩; replace HB := Lib.hid (below_step HB.out hB); clear hB))
    go_ret
    exact ⟨rfl, HB.out⟩
  · replace HA := Lib.hid (HA rfl)
    replace hsm := hsm rfl
    have HCX := Lib.hid (hcx rfl)
    clear hcx
    clear hTe
    go_enter Tryd.func6, Tryd.ntmps6
    go_wp2_with (first
        | (go_at_call 9; refine (examples19 _ (HE.out.below (HB.out.alloc HB.out.size _))).mono ?_; rintro e wx ⟨rfl, hB⟩; have HS := Lib.hid (box_on hB); obtain ⟨⟨d0, d1, d2, d3, d4⟩, _⟩ := cells5 HS.out; replace HB := Lib.hid (below_step (HB.out.alloc HB.out.size _) hB); clear hB)
        | (go_at_call 10; refine (HT.out _ (HE.out.below HB.out)).mono ?_; rintro e w1 ⟨rfl, hB⟩; replace HS := Lib.hid (box_go HS.out hB); clear d0 d1 d2 d3 d4; obtain ⟨⟨d0, d1, d2, d3, d4⟩, _⟩ := cells5 HS.out; replace HB := Lib.hid (below_step HB.out hB); clear hB)
        | (clear S1; go_at_call 13; refine (HA.out _ (HE.out.below HB.out)).mono ?_; rintro e w2 ⟨rfl, hB⟩; replace HS := Lib.hid (box_go HS.out hB); clear d0 d1 d2 d3 d4; obtain ⟨⟨d0, d1, d2, d3, d4⟩, _⟩ := cells5 HS.out; replace HB := Lib.hid (below_step HB.out hB); clear hB)
        | (clear S2; go_at_call 13; refine (HP.out _ (HE.out.below (HB.out.alloc HB.out.size _))).mono ?_; rintro e w3 ⟨rfl, hB⟩; replace HS := Lib.hid (box_over HS.out hB); clear d0 d1 d2 d3 d4; obtain ⟨⟨d0, d1, d2, d3, d4⟩, _⟩ := cells5 HS.out; replace HB := Lib.hid (below_step (HB.out.alloc HB.out.size _) hB); clear hB)
        | (clear S3; go_at_call 13; refine (HC.out _ (HE.out.below (HB.out.alloc HB.out.size _))).mono ?_; rintro e w4 ⟨rfl, hB⟩; replace HS := Lib.hid (box_over HS.out hB); clear d0 d1 d2 d3 d4; obtain ⟨⟨d0, d1, d2, d3, d4⟩, _⟩ := cells5 HS.out; replace HB := Lib.hid (below_step (HB.out.alloc HB.out.size _) hB); clear hB)
        | (clear S4; go_at_call 13; refine (HD.out _ (by rw [ByteArray.size_extract]; omega) _ (HE.out.below (HB.out.alloc HB.out.size _))).mono ?_; rintro e w5 ⟨rfl, hB⟩; replace HS := Lib.hid (box_over HS.out hB); clear d0 d1 d2 d3 d4; obtain ⟨⟨d0, d1, d2, d3, d4⟩, _⟩ := cells5 HS.out; replace HB := Lib.hid (below_step (HB.out.alloc HB.out.size _) hB); clear hB)
        | (clear S5; go_at_call 13; refine (HC.out _ (HE.out.below (HB.out.alloc HB.out.size _))).mono ?_; rintro e w6 ⟨rfl, hB⟩; replace HS := Lib.hid (box_over HS.out hB); clear d0 d1 d2 d3 d4; have d0 := fun o => (cells5 (box_go HS.out ((Below.refl _ _).alloc (Nat.le_refl _) o))).1.1; have d1 := fun o => (cells5 (box_go HS.out ((Below.refl _ _).alloc (Nat.le_refl _) o))).1.2.1; have d2 := fun o => (cells5 (box_go HS.out ((Below.refl _ _).alloc (Nat.le_refl _) o))).1.2.2.1; have d3 := fun o => (cells5 (box_go HS.out ((Below.refl _ _).alloc (Nat.le_refl _) o))).1.2.2.2.1; have d4 := fun o => (cells5 (box_go HS.out ((Below.refl _ _).alloc (Nat.le_refl _) o))).1.2.2.2.2; replace HB := Lib.hid (below_step (HB.out.alloc HB.out.size _) hB); clear hB))
    all_goals
      go_ret
      refine ⟨?_, HB.out.alloc HB.out.size _⟩
      have hq := HCX.out
      clear HA HP HC HD HT HE HS HB HCX d0 d1 d2 d3 d4
      first
        | rfl
        | (exfalso
           obtain ⟨q1, q2⟩ := hq ‹c = true›
           first
             | exact absurd (q2.symm.trans ‹a3 = true›) (by decide)
             | exact q1 (by simp only [Svc.mk.injEq]; exact ⟨‹x0 = a0›, by omega, ‹x2 = a2›, ‹x3 = a3›, by omega⟩))
end Go.Proofs.YtbahcpejippcjaaDoor
