import Derived.Test.YtbahcpejippcjaaDoorPS
namespace Go.Proofs.YtbahcpejippcjaaDoor
open Go.RowKit

/-- Where a text is parted at its first space is told by the text. -/
theorem split_first {a a' b b' : List UInt8} (h : a ++ 32 :: b = a' ++ 32 :: b') (ha : (32 : UInt8) ∉ a) (ha' : (32 : UInt8) ∉ a') : a = a' ∧ b = b' := by
  induction a generalizing a' with
  | nil =>
    cases a' with
    | nil => simpa using h
    | cons x l =>
      simp only [List.nil_append, List.cons_append, List.cons.injEq] at h
      exact absurd (List.mem_cons.2 (Or.inl h.1)) ha'
  | cons y m ih =>
    cases a' with
    | nil =>
      simp only [List.nil_append, List.cons_append, List.cons.injEq] at h
      exact absurd (List.mem_cons.2 (Or.inl h.1.symm)) ha
    | cons x l =>
      simp only [List.cons_append, List.cons.injEq] at h
      obtain ⟨h1, h2⟩ := ih h.2 (fun hm => ha (List.mem_cons.2 (Or.inr hm))) (fun hm => ha' (List.mem_cons.2 (Or.inr hm)))
      exact ⟨by rw [h.1, h1], h2⟩
theorem how_of {s y : Svc} {m : List UInt8} (hs : rightB s = true) (hy : rightB y = true) (h : svcL y = protoL s.proto ++ 32 :: (atL s ++ 32 :: m)) : howL y = m := by
  unfold svcL at h
  obtain ⟨_, h2⟩ := split_first h (proto_no _) (proto_no _)
  exact (split_first h2 (at_no hy) (at_no hs)).2
/-- A line with something more is none. -/
theorem no_more {s y : Svc} {m : List UInt8} (hs : rightB s = true) (hy : rightB y = true) (h : svcL y = svcL s ++ 32 :: m) : False := by
  have h1 : howL y = howL s ++ 32 :: m := how_of hs hy (by rw [h]; unfold svcL; simp)
  unfold howL natL at h1
  split at h1 <;> split at h1
  · simp at h1
  · simp at h1
  · simp at h1
  · simp only [List.cons_append, List.nil_append, List.cons.injEq, true_and] at h1
    have hm : (32 : UInt8) ∈ textOf y.nat := by rw [h1]; simp
    exact addr_no (by decide) (by decide) hm
theorem proto_head (p : Int) : ∃ x l, protoL p = x :: l ∧ (x = 116 ∨ x = 117) := by
  unfold protoL
  split
  · exact ⟨_, _, rfl, Or.inr rfl⟩
  · exact ⟨_, _, rfl, Or.inl rfl⟩
theorem no_head {y : Svc} {x : UInt8} {m : List UInt8} (h1 : x ≠ 116) (h2 : x ≠ 117) (h : svcL y = x :: m) : False := by
  obtain ⟨z, l, hz, hzz⟩ := proto_head y.proto
  unfold svcL at h
  rw [hz] at h
  simp only [List.cons_append, List.cons.injEq] at h
  rcases hzz with rfl | rfl
  · exact h1 h.1.symm
  · exact h2 h.1.symm
/-- By DSR a line without its last byte is none. -/
theorem no_less {s y : Svc} (hs : rightB s = true) (hy : rightB y = true) (hd : s.dsr = true) (h : svcL y = (svcL s).dropLast) : False := by
  have h1 : howL y = [100, 115] := how_of hs hy (by
    rw [h]
    unfold svcL howL
    rw [if_pos hd]
    rw [show protoL s.proto ++ 32 :: (atL s ++ 32 :: [100, 115, 114]) = (protoL s.proto ++ 32 :: (atL s ++ 32 :: [100, 115])) ++ [114] by simp, List.dropLast_concat])
  unfold howL natL at h1
  split at h1 <;> simp at h1
theorem no_same {s y : Svc} (h : svcL y = (svcL s).dropLast) : y ≠ s := by
  rintro rfl
  obtain ⟨z, l, hz, _⟩ := proto_head y.proto
  have h1 := congrArg List.length h
  have h2 : 0 < (svcL y).length := by unfold svcL; rw [hz]; simp
  rw [List.length_dropLast] at h1
  omega
theorem svc_three (s : Svc) : 3 < (svcL s).length ∧ ∃ m, svcL s = protoL s.proto ++ m := by
  refine ⟨?_, _, rfl⟩
  have h4 : (protoL s.proto).length = 3 := by unfold protoL; split <;> rfl
  unfold svcL
  simp
  omega
end Go.Proofs.YtbahcpejippcjaaDoor
