import Derived.Test.YtbahcpejippcjaaDoorV3
namespace Go.Proofs.YtbahcpejippcjaaDoor
open Go.RowKit Go.Shelf

/-! ### The rows of a table -/
def occ (f : Nat → Svc) (k : Nat) : Option (Nat × Svc) := if 1 ≤ k ∧ (f k).proto ≠ 0 then some (k, f k) else none
def listTo (f : Nat → Svc) (n : Nat) : List (Nat × Svc) := (List.range n).filterMap (occ f)
def listOf (f : Nat → Svc) : List (Nat × Svc) := listTo f 65
theorem occ_some {f : Nat → Svc} {k : Nat} (h1 : 1 ≤ k) (h : (f k).proto ≠ 0) : occ f k = some (k, f k) := if_pos ⟨h1, h⟩
theorem occ_none {f : Nat → Svc} {k : Nat} (h : (f k).proto = 0) : occ f k = none := if_neg (fun e => e.2 h)
theorem listTo_succ (f : Nat → Svc) (n : Nat) : listTo f (n + 1) = listTo f n ++ (occ f n).toList := by
  unfold listTo
  rw [List.range_succ, List.filterMap_append]
  cases h : occ f n <;> simp [h]
theorem listOf_mem {f : Nat → Svc} {r : Nat × Svc} (h : r ∈ listOf f) : 1 ≤ r.1 ∧ r.1 ≤ 64 ∧ (f r.1).proto ≠ 0 ∧ r.2 = f r.1 := by
  unfold listOf listTo at h
  obtain ⟨k, hk, ho⟩ := List.mem_filterMap.1 h
  have := List.mem_range.1 hk
  unfold occ at ho
  split at ho
  · rename_i hc
    obtain rfl := Option.some.inj ho
    exact ⟨hc.1, by show k ≤ 64; omega, hc.2, rfl⟩
  · cases ho
theorem mem_listOf {f : Nat → Svc} {k : Nat} (h1 : 1 ≤ k) (h2 : k ≤ 64) (h : (f k).proto ≠ 0) : (k, f k) ∈ listOf f :=
  List.mem_filterMap.2 ⟨k, List.mem_range.2 (by omega), occ_some h1 h⟩
theorem find_has_some {f : Nat → Svc} {p q : Int} {v k : Nat} (h : Has f p v q k) (hu : ∀ j, Has f p v q j → j = k) : findL (listOf f) p v q = some k := by
  obtain ⟨h1, h2, h3, h4, h5, h6⟩ := h
  have hP : endIs p v q (k, f k) = true := by unfold endIs; simp [h4, h5, h6]
  cases hf : (listOf f).find? (endIs p v q) with
  | none =>
    rw [List.find?_eq_none] at hf
    exact absurd hP (hf _ (mem_listOf h1 h2 h3))
  | some r =>
    have hm := List.mem_of_find?_eq_some hf
    have hp := List.find?_some hf
    obtain ⟨a, b, c, d⟩ := listOf_mem hm
    have : r.1 = k := by
      refine hu r.1 ⟨a, b, c, ?_⟩
      unfold endIs at hp
      rw [d] at hp
      simpa [and_assoc] using hp
    unfold findL
    rw [hf]
    simp [this]
theorem find_has_none {f : Nat → Svc} {p q : Int} {v : Nat} (h : ∀ k, ¬ Has f p v q k) : findL (listOf f) p v q = none := by
  have : (listOf f).find? (endIs p v q) = none := by
    rw [List.find?_eq_none]
    intro r hr hp
    obtain ⟨a, b, c, d⟩ := listOf_mem hr
    refine h r.1 ⟨a, b, c, ?_⟩
    unfold endIs at hp
    rw [d] at hp
    simpa [and_assoc] using hp
  unfold findL
  rw [this]; rfl
theorem get_some' {f : Nat → Svc} {k : Nat} (h1 : 1 ≤ k) (h2 : k ≤ 64) (h : (f k).proto ≠ 0) : getL (listOf f) (k : Int) = some (f k) := by
  have hP : idIs (k : Int) (k, f k) = true := by unfold idIs; simp
  cases hf : (listOf f).find? (idIs (k : Int)) with
  | none =>
    rw [List.find?_eq_none] at hf
    exact absurd hP (hf _ (mem_listOf h1 h2 h))
  | some r =>
    have hp := List.find?_some hf
    obtain ⟨_, _, _, d⟩ := listOf_mem (List.mem_of_find?_eq_some hf)
    unfold idIs at hp
    have : r.1 = k := by simp at hp; omega
    unfold getL
    rw [hf]
    simp [d, this]
theorem not_there {f : Nat → Svc} {id : Int} (h : ¬ there f id) {r : Nat × Svc} (hr : r ∈ listOf f) : idIs id r = false := by
  obtain ⟨a, b, c, _⟩ := listOf_mem hr
  unfold idIs
  simp
  intro e
  subst e
  exact h ⟨by omega, by omega, by rw [Int.toNat_natCast]; exact c⟩
theorem get_none' {f : Nat → Svc} {id : Int} (h : ¬ there f id) : getL (listOf f) id = none := by
  have : (listOf f).find? (idIs id) = none := by
    rw [List.find?_eq_none]
    intro r hr
    rw [not_there h hr]
    simp
  unfold getL
  rw [this]; rfl
theorem rem_not {f : Nat → Svc} {id : Int} (h : ¬ there f id) : remL (listOf f) id = listOf f := by
  unfold remL
  rw [List.filter_eq_self]
  intro r hr
  rw [not_there h hr]
  rfl
theorem rem_to (f : Nat → Svc) (k : Nat) : ∀ n, (listTo f n).filter (fun r => !idIs (k : Int) r) = listTo (upd f k zeroS) n
  | 0 => rfl
  | n + 1 => by
    rw [listTo_succ, listTo_succ, List.filter_append, rem_to f k n]
    congr 1
    by_cases e : n = k
    · subst e
      rw [occ_none (f := upd f n zeroS) (by rw [upd_same]; rfl)]
      unfold occ
      split
      · simp [idIs]
      · rfl
    · have e2 : occ (upd f k zeroS) n = occ f n := by unfold occ; rw [upd_other f zeroS e]
      rw [e2]
      unfold occ
      split
      · simp [idIs]; omega
      · rfl
theorem rem_is (f : Nat → Svc) (k : Nat) : remL (listOf f) (k : Int) = listOf (upd f k zeroS) := rem_to f k 65
theorem rem_shorter {f : Nat → Svc} {k : Nat} (h1 : 1 ≤ k) (h2 : k ≤ 64) (h : (f k).proto ≠ 0) : (remL (listOf f) (k : Int)).length < (listOf f).length := by
  unfold remL
  rw [List.length_filter_lt_length_iff_exists]
  exact ⟨(k, f k), mem_listOf h1 h2 h, by simp [idIs]⟩
theorem listTo_len (f : Nat → Svc) : ∀ n, (listTo f (n + 1)).length ≤ n
  | 0 => by rw [listTo_succ]; simp [listTo, occ]
  | n + 1 => by
    rw [listTo_succ, List.length_append]
    have := listTo_len f n
    cases occ f (n + 1) <;> simp <;> omega
theorem listOf_len (f : Nat → Svc) : (listOf f).length ≤ 64 := listTo_len f 64
theorem listTo_full {f : Nat → Svc} : ∀ y, (∀ k, 1 ≤ k → k ≤ y → (f k).proto ≠ 0) → listTo f (y + 1) = (List.range y).map fun i => (i + 1, f (i + 1))
  | 0, _ => by rw [listTo_succ]; simp [listTo, occ]
  | y + 1, h => by
    rw [listTo_succ, listTo_full y (fun k h1 h2 => h k h1 (by omega)), occ_some (by omega) (h (y + 1) (by omega) (Nat.le_refl _)), List.range_succ, List.map_append]
    rfl
theorem full_len {f : Nat → Svc} (h : ∀ k, 1 ≤ k → k ≤ 64 → (f k).proto ≠ 0) : (listOf f).length = 64 := by
  unfold listOf
  rw [listTo_full 64 h]
  simp
theorem fm_congr {α β : Type} {f g : α → Option β} : ∀ {l : List α}, (∀ x ∈ l, f x = g x) → l.filterMap f = l.filterMap g
  | [], _ => rfl
  | x :: l, h => by
    rw [List.filterMap_cons, List.filterMap_cons, h x (by simp), fm_congr (l := l) (fun y hy => h y (by simp [hy]))]
/-- Behind the first free number. -/
theorem listOf_split (f : Nat → Svc) {y : Nat} (h64 : y + 1 ≤ 64) : listOf f = listTo f (y + 1) ++ ((occ f (y + 1)).toList ++ ((List.range (63 - y)).map (y + 2 + ·)).filterMap (occ f)) := by
  unfold listOf
  have e : (65 : Nat) = (y + 2) + (63 - y) := by omega
  conv => lhs; rw [e]
  unfold listTo
  rw [List.range_add, List.filterMap_append]
  have := listTo_succ f (y + 1)
  unfold listTo at this
  rw [this, List.append_assoc]
theorem gap_of {f : Nat → Svc} {y : Nat} (h64 : y + 1 ≤ 64) (h0 : (f (y + 1)).proto = 0) (hlt : ∀ k, 1 ≤ k → k ≤ y → (f k).proto ≠ 0) : Gap (listOf f) y := by
  have hs := listOf_split f h64
  have hl := listTo_full y hlt
  rw [occ_none h0, hl] at hs
  refine ⟨?_, fun i hi => ?_, fun r hr => ?_⟩
  · rw [hs]; simp
  · refine ⟨(i + 1, f (i + 1)), ?_, rfl⟩
    rw [hs, List.getElem?_append_left (by simpa using hi)]
    simp [hi]
  · rw [hs, List.getElem?_append_right (by simp)] at hr
    simp only [List.length_map, List.length_range, Nat.sub_self, Option.toList_none, List.nil_append] at hr
    have hm := List.mem_of_getElem? hr
    obtain ⟨k, hk, ho⟩ := List.mem_filterMap.1 hm
    obtain ⟨j, _, rfl⟩ := List.mem_map.1 hk
    unfold occ at ho
    split at ho
    · obtain rfl := Option.some.inj ho
      show y + 2 + j ≠ y + 1
      omega
    · cases ho
theorem ins_of {f : Nat → Svc} {y : Nat} (h64 : y + 1 ≤ 64) (h0 : (f (y + 1)).proto = 0) (hlt : ∀ k, 1 ≤ k → k ≤ y → (f k).proto ≠ 0) {s : Svc} (hsp : s.proto ≠ 0) : insL (listOf f) y s = listOf (upd f (y + 1) s) := by
  have hs := listOf_split f h64
  have hl := listTo_full y hlt
  have hs2 := listOf_split (upd f (y + 1) s) h64
  have hl2 : listTo (upd f (y + 1) s) (y + 1) = listTo f (y + 1) := by
    unfold listTo
    refine fm_congr fun k hk => ?_
    have := List.mem_range.1 hk
    unfold occ
    rw [upd_other f s (by omega)]
  have hr2 : ((List.range (63 - y)).map (y + 2 + ·)).filterMap (occ (upd f (y + 1) s)) = ((List.range (63 - y)).map (y + 2 + ·)).filterMap (occ f) := by
    refine fm_congr fun k hk => ?_
    obtain ⟨j, _, rfl⟩ := List.mem_map.1 hk
    unfold occ
    rw [upd_other f s (by omega)]
  rw [occ_some (f := upd f (y + 1) s) (by omega) (by rw [upd_same]; exact hsp), upd_same, hl2, hr2] at hs2
  rw [occ_none h0] at hs
  have hlen : (listTo f (y + 1)).length = y := by rw [hl]; simp
  unfold insL
  rw [hs2, hs, List.take_left' hlen, List.drop_left' hlen]
  simp
def svcD0 : Svc := ⟨6, 9, 1, true, 0⟩
theorem not_full_len {f : Nat → Svc} {y : Nat} (h64 : y + 1 ≤ 64) (h0 : (f (y + 1)).proto = 0) (hlt : ∀ k, 1 ≤ k → k ≤ y → (f k).proto ≠ 0) : (listOf f).length < 64 := by
  have h := ins_of h64 h0 hlt (s := svcD0) (by decide)
  have h2 := listOf_len (upd f (y + 1) svcD0)
  rw [← h] at h2
  have h3 := (gap_of h64 h0 hlt).le
  unfold insL at h2
  simp at h2
  omega
theorem first_free (f : Nat → Svc) : ∀ n, (∀ k, 1 ≤ k → k ≤ n → (f k).proto ≠ 0) ∨ ∃ y, y + 1 ≤ n ∧ (f (y + 1)).proto = 0 ∧ ∀ k, 1 ≤ k → k ≤ y → (f k).proto ≠ 0
  | 0 => .inl fun k h1 h2 => by omega
  | n + 1 => by
    rcases first_free f n with h | ⟨y, h1, h2, h3⟩
    · by_cases e : (f (n + 1)).proto = 0
      · exact .inr ⟨n, Nat.le_refl _, e, h⟩
      · refine .inl fun k h1 h2 => ?_
        by_cases ek : k = n + 1
        · subst ek; exact e
        · exact h k h1 (by omega)
    · exact .inr ⟨y, by omega, h2, h3⟩
end Go.Proofs.YtbahcpejippcjaaDoor
