import Derived.Test.YtbahcpejippcjaaDoorS7
namespace Go.Proofs.YtbahcpejippcjaaDoor
open Go.RowKit Go.Shelf

theorem box_over {wx wt : World} {b : Nat} {o p : Obj} (h : wx.heap[b]? = some p) (hB : Below (wx.alloc o).heap.size (wx.alloc o) wt) : wt.heap[b]? = some p := box_go (box_go h ((Below.refl _ _).alloc (Nat.le_refl _) _)) hB
theorem svc_length {s : Svc} (h : rightB s = true) : (svcL s).length ≤ 400 := by
  obtain ⟨hpr, hp1, hp2, _⟩ := right_facts h
  have s1 := text_le s.vip
  have s2 := text_le s.nat
  have s3 := Lib.itoa_length_le s.port (by omega) (by omega)
  have s4 : (protoL s.proto).length = 3 := by unfold protoL; split <;> rfl
  unfold svcL atL howL natL
  split <;> simp <;> omega
theorem parse_none : parseS ⟨#[]⟩ = none := by unfold parseS; rw [if_pos (by decide)]
/-- What a service is written as. -/
def textS (s : Svc) : ByteArray := if rightB s = true then ⟨(svcL s).toArray⟩ else ⟨#[]⟩
theorem textS_any (s : Svc) (ho : s.ok) (w : World) (hE : Env w) : Calls Tryd.prog 10 #[s.val] w fun e w' => e = .returned (.tuple #[.string (textS s), .bool (rightB s)]) ∧ Below w.heap.size w w' := by
  unfold textS
  cases h : rightB s
  · exact text_no s h w
  · exact text_yes s h ho w hE
theorem textS_size (s : Svc) : (textS s).size < 1000 := by
  unfold textS
  split
  · rename_i h
    have := svc_length h
    rw [size_of_list]; omega
  · decide
def zeroSvc : Svc := ⟨0, 0, 0, false, 0⟩
def gotS (line : ByteArray) : Svc := (parseS line).getD zeroSvc
theorem parse_any (line : ByteArray) (hs : line.size < 4294967281) (w : World) (hE : Env w) :
    Calls Tryd.prog 13 #[.string line] w fun e w' => e = .returned (.tuple #[(gotS line).val, .bool (parseS line).isSome]) ∧ Below w.heap.size w w' := by
  refine (parse_line line hs w hE).mono ?_
  rintro e w' ⟨rfl, hb⟩
  refine ⟨?_, hb⟩
  unfold gotS
  cases parseS line <;> rfl
theorem got_ok {line : ByteArray} : (gotS line).ok := by
  unfold gotS
  cases h : parseS line with
  | none => exact ⟨by decide, by decide⟩
  | some y =>
    unfold parseS at h
    split at h
    · cases h
    · split at h
      · obtain rfl := Option.some.inj h
        unfold Svc.ok readS
        refine ⟨parse_lt _, ?_⟩
        show (if _ then _ else _) < _
        split
        · exact parse_lt _
        · decide
      · cases h
theorem parse_text_is (s : Svc) (ho : s.ok) : gotS (textS s) = (if rightB s = true then s else zeroSvc) ∧ (parseS (textS s)).isSome = rightB s := by
  unfold gotS textS
  cases h : rightB s
  · simp [parse_none]
  · simp [parse_svc h ho]
theorem text_got {line : ByteArray} : rightB (gotS line) = (parseS line).isSome ∧ ((parseS line).isSome = true → textS (gotS line) = line) := by
  unfold gotS
  cases h : parseS line with
  | none => exact ⟨by decide, by simp⟩
  | some y =>
    obtain ⟨h1, h2⟩ := svc_parse h
    refine ⟨h1, fun _ => ?_⟩
    unfold textS
    simp only [Option.getD_some]
    rw [if_pos h1, h2]

set_option maxRecDepth 100000 in
set_option maxHeartbeats 1600000 in
theorem walk_ServiceBack (s : Svc) (line : ByteArray) (w : World) (ho : s.ok) (hl : line.size ≤ 1048576) (hE : Env w) :
    Calls Tryd.prog 4 #[s.val, .string line] w fun e w' => e = .returned (.bool true) ∧ Below w.heap.size w w' := by
  obtain ⟨T, hT⟩ : ∃ T, textS s = T := ⟨_, rfl⟩
  obtain ⟨Y, hY⟩ : ∃ Y, gotS line = Y := ⟨_, rfl⟩
  obtain ⟨U, hU⟩ : ∃ U, textS Y = U := ⟨_, rfl⟩
  obtain ⟨hx, hxs⟩ := parse_text_is s ho
  have hTs := textS_size s
  obtain ⟨hy, hyl⟩ := @text_got line
  have hYo := @got_ok line
  have HT := Lib.hid (textS_any s ho)
  have HX := Lib.hid (parse_any (textS s) (by omega))
  have HY := Lib.hid (parse_any line (by omega))
  have HR := Lib.hid (right_calls s)
  rw [hY] at hy hyl hYo HY
  have HU := Lib.hid (textS_any Y hYo)
  have HQ := Lib.hid (right_calls Y)
  obtain ⟨X, hX⟩ : ∃ X, gotS (textS s) = X := ⟨_, rfl⟩
  rw [hX] at hx HX
  rw [hxs, hT] at HX
  rw [hU] at HU hyl
  rw [hT] at HT
  obtain ⟨ok, hok⟩ : ∃ b, rightB s = b := ⟨_, rfl⟩
  obtain ⟨fine, hfine⟩ : ∃ b, (parseS line).isSome = b := ⟨_, rfl⟩
  rw [hok] at HT HX HR hx
  have hxl : ok = true → X = s := by intro h; rw [hx, if_pos h]
  rw [hfine] at HY hy hyl
  rw [hy] at HU HQ
  clear hX hx
  obtain ⟨a0, a1, a2, a3, a4⟩ := s
  obtain ⟨x0, x1, x2, x3, x4⟩ := X
  obtain ⟨y0, y1, y2, y3, y4⟩ := Y
  have hul : fine = true → U = line := hyl
  have HE := Lib.hid hE
  have HB := Lib.hid (Below.refl w.heap.size w)
  have S1 := Stage.mk 1
  have S2 := Stage.mk 2
  have S3 := Stage.mk 3
  have S4 := Stage.mk 4
  have S5 := Stage.mk 5
  have S6 := Stage.mk 6
  clear hT hY hU hxs hTs hy hyl hYo hok hfine hE ho hl
  unfold Svc.val at *
  cases ok
  all_goals cases fine
  all_goals first | (obtain rfl := hul rfl) | skip
  all_goals first | (obtain ⟨⟩ := hxl rfl) | skip
  all_goals
    clear hul hxl
    go_enter Tryd.func4, Tryd.ntmps4
    go_wp2_with (first
      | (go_at_call 9; refine (examples19 _ (HE.out.below (HB.out.alloc HB.out.size _))).mono ?_; rintro e wx ⟨rfl, hB⟩; have HS := Lib.hid (box_on hB); obtain ⟨⟨d0, d1, d2, d3, d4⟩, _⟩ := cells5 HS.out; replace HB := Lib.hid (below_step (HB.out.alloc HB.out.size _) hB); clear hB)
      | (clear S1; go_at_call 10; refine (HT.out _ (HE.out.below HB.out)).mono ?_; rintro e w1 ⟨rfl, hB⟩; replace HS := Lib.hid (box_go HS.out hB); clear d0 d1 d2 d3 d4; obtain ⟨⟨d0, d1, d2, d3, d4⟩, _⟩ := cells5 HS.out; replace HB := Lib.hid (below_step HB.out hB); clear hB)
      | (clear S2; go_at_call 13; refine (HX.out _ (HE.out.below HB.out)).mono ?_; rintro e w2 ⟨rfl, hB⟩; replace HS := Lib.hid (box_go HS.out hB); clear d0 d1 d2 d3 d4; obtain ⟨⟨d0, d1, d2, d3, d4⟩, _⟩ := cells5 HS.out; replace HB := Lib.hid (below_step HB.out hB); clear hB)
      | (clear S3; go_at_call 13; refine (HY.out _ (HE.out.below (HB.out.alloc HB.out.size _))).mono ?_; rintro e w3 ⟨rfl, hB⟩; have HX0 := Lib.hid (box_on hB); obtain ⟨⟨e0, e1, e2, e3, e4⟩, _⟩ := cells5 HX0.out; replace HS := Lib.hid (box_over HS.out hB); clear d0 d1 d2 d3 d4; obtain ⟨⟨d0, d1, d2, d3, d4⟩, _⟩ := cells5 HS.out; replace HB := Lib.hid (below_step (HB.out.alloc HB.out.size _) hB); clear hB)
      | (clear S4; go_at_call 10; refine (HU.out _ (HE.out.below (HB.out.alloc HB.out.size _))).mono ?_; rintro e w4 ⟨rfl, hB⟩; have HY0 := Lib.hid (box_on hB); obtain ⟨⟨f0, f1, f2, f3, f4⟩, _⟩ := cells5 HY0.out; replace HX0 := Lib.hid (box_over HX0.out hB); clear e0 e1 e2 e3 e4; obtain ⟨⟨e0, e1, e2, e3, e4⟩, _⟩ := cells5 HX0.out; replace HS := Lib.hid (box_over HS.out hB); clear d0 d1 d2 d3 d4; obtain ⟨⟨d0, d1, d2, d3, d4⟩, _⟩ := cells5 HS.out; replace HB := Lib.hid (below_step (HB.out.alloc HB.out.size _) hB); clear hB)
      | (clear S5; go_at_call 15; refine (HR.out _).mono ?_; rintro e w5 ⟨rfl, hB⟩; replace HY0 := Lib.hid (box_go HY0.out hB); clear f0 f1 f2 f3 f4; obtain ⟨⟨f0, f1, f2, f3, f4⟩, _⟩ := cells5 HY0.out; replace HX0 := Lib.hid (box_go HX0.out hB); clear e0 e1 e2 e3 e4; obtain ⟨⟨e0, e1, e2, e3, e4⟩, _⟩ := cells5 HX0.out; replace HS := Lib.hid (box_go HS.out hB); clear d0 d1 d2 d3 d4; obtain ⟨⟨d0, d1, d2, d3, d4⟩, _⟩ := cells5 HS.out; replace HB := Lib.hid (below_step HB.out hB); clear hB)
      | (clear S6; go_at_call 15; refine (HQ.out _).mono ?_; rintro e w6 ⟨rfl, hB⟩; replace HB := Lib.hid (below_step HB.out hB); clear hB))
    all_goals
      go_ret
      exact ⟨rfl, HB.out⟩
end Go.Proofs.YtbahcpejippcjaaDoor
