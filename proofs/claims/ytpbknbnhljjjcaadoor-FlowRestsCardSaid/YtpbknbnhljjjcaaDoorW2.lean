/- Plain: places of times in a wheel of digits, lists of who is armed. -/
import Derived.Below
namespace Go.Proofs.YtpbknbnhljjjcaaDoor


/-- The level of a time. -/
def lvl (a b : Nat) : Nat := Nat.log2 (a ^^^ b) / 6
theorem pow64 (k : Nat) : 64 ^ k = 2 ^ (6 * k) := by
  rw [Nat.pow_mul]
theorem xor_lt (a b m : Nat) : a ^^^ b < 2 ^ m ↔ a / 2 ^ m = b / 2 ^ m := by
  rw [← Nat.shiftRight_eq_div_pow, ← Nat.shiftRight_eq_div_pow]
  constructor
  · intro h
    have h1 : (a ^^^ b) >>> m = 0 := by rw [Nat.shiftRight_eq_div_pow]; exact Nat.div_eq_of_lt h
    rw [Nat.shiftRight_xor_distrib] at h1
    have h2 : (a >>> m ^^^ b >>> m) ^^^ b >>> m = 0 ^^^ b >>> m := by rw [h1]
    rw [Nat.xor_assoc, Nat.xor_self, Nat.xor_zero, Nat.zero_xor] at h2
    exact h2
  · intro h
    have h1 : (a ^^^ b) >>> m = 0 := by rw [Nat.shiftRight_xor_distrib, h, Nat.xor_self]
    rw [Nat.shiftRight_eq_div_pow] at h1
    rcases Nat.div_eq_zero_iff.1 h1 with h | h
    · have := Nat.two_pow_pos m; omega
    · exact h
theorem log2_lt_iff (x m : Nat) (hm : 0 < m) : Nat.log2 x < m ↔ x < 2 ^ m := by
  by_cases h : x = 0
  · subst h; simp [hm, Nat.two_pow_pos]
  · exact Nat.log2_lt h
theorem lvl_lt {a b k : Nat} (hk : 0 < k) : lvl a b < k ↔ a / 64 ^ k = b / 64 ^ k := by
  unfold lvl
  rw [Nat.div_lt_iff_lt_mul (by omega), Nat.mul_comm, log2_lt_iff _ _ (by omega), pow64]
  exact xor_lt a b (6 * k)
theorem lvl_le {a b k : Nat} : lvl a b ≤ k ↔ a / 64 ^ (k + 1) = b / 64 ^ (k + 1) := by
  rw [← lvl_lt (by omega)]; omega
theorem lvl_above (a b : Nat) : a / 64 ^ (lvl a b + 1) = b / 64 ^ (lvl a b + 1) := lvl_le.1 (Nat.le_refl _)
theorem lvl_at {a b : Nat} (h : 0 < lvl a b) : a / 64 ^ lvl a b ≠ b / 64 ^ lvl a b := fun e => by
  have := (lvl_lt h).2 e
  omega
theorem lvl_is {a b k : Nat} (h : a / 64 ^ (k + 1) = b / 64 ^ (k + 1)) (h2 : k = 0 ∨ a / 64 ^ k ≠ b / 64 ^ k) : lvl a b = k := by
  have h1 := lvl_le.2 h
  rcases h2 with h2 | h2
  · omega
  · by_cases h3 : k = 0
    · omega
    · by_cases h4 : lvl a b < k
      · exact (h2 ((lvl_lt (by omega)).1 h4)).elim
      · omega
theorem div_up {a b k j : Nat} (h : a / 64 ^ k = b / 64 ^ k) (hj : k ≤ j) : a / 64 ^ j = b / 64 ^ j := by
  obtain ⟨d, rfl⟩ : ∃ d, j = k + d := ⟨j - k, by omega⟩
  rw [Nat.pow_add, ← Nat.div_div_eq_div_mul, ← Nat.div_div_eq_div_mul, h]
theorem div_digit (a k : Nat) : a / 64 ^ k = a / 64 ^ (k + 1) * 64 + a / 64 ^ k % 64 := by
  have h : a / 64 ^ (k + 1) = a / 64 ^ k / 64 := by rw [Nat.pow_succ, Nat.div_div_eq_div_mul]
  rw [h]
  omega
/-- The slot of a time. -/
def slt (now t : Nat) : Nat := t / 64 ^ lvl t now % 64
theorem slt_lt (now t : Nat) : slt now t < 64 := Nat.mod_lt _ (by decide)
theorem lvl_six {a b : Nat} (ha : a < 4398046511104) (hb : b < 4398046511104) : lvl a b < 7 := by
  rw [lvl_lt (by omega)]
  have e : (64 : Nat) ^ 7 = 4398046511104 := by decide
  rw [e, Nat.div_eq_of_lt ha, Nat.div_eq_of_lt hb]
/-- The first time of a slot. -/
def fromOf (now lv sl : Nat) : Nat := now / 64 ^ (lv + 1) * 64 ^ (lv + 1) + sl * 64 ^ lv
theorem from_div {now lv sl : Nat} : fromOf now lv sl / 64 ^ lv = now / 64 ^ (lv + 1) * 64 + sl := by
  unfold fromOf
  have e : now / 64 ^ (lv + 1) * 64 ^ (lv + 1) + sl * 64 ^ lv = (now / 64 ^ (lv + 1) * 64 + sl) * 64 ^ lv := by
    rw [Nat.add_mul, Nat.pow_succ, Nat.mul_assoc, Nat.mul_comm (64 ^ lv) 64]
  rw [e, Nat.mul_div_cancel _ (Nat.pow_pos (by decide))]
theorem from_above {now lv sl : Nat} (hs : sl < 64) : fromOf now lv sl / 64 ^ (lv + 1) = now / 64 ^ (lv + 1) := by
  rw [Nat.pow_succ, ← Nat.div_div_eq_div_mul, from_div]
  rw [Nat.pow_succ]
  omega
/-- Times in a slot are not ahead of its first one. -/
theorem from_le {now lv sl t : Nat} (h : t / 64 ^ (lv + 1) = now / 64 ^ (lv + 1)) (hs : sl ≤ t / 64 ^ lv % 64) : fromOf now lv sl ≤ t := by
  have h1 := div_digit t lv
  rw [h] at h1
  have h2 : (now / 64 ^ (lv + 1) * 64 + sl) * 64 ^ lv ≤ t / 64 ^ lv * 64 ^ lv := Nat.mul_le_mul_right _ (by omega)
  have h3 : t / 64 ^ lv * 64 ^ lv ≤ t := Nat.div_mul_le_self _ _
  have e : fromOf now lv sl = (now / 64 ^ (lv + 1) * 64 + sl) * 64 ^ lv := by
    unfold fromOf
    rw [Nat.add_mul, Nat.pow_succ, Nat.mul_assoc, Nat.mul_comm (64 ^ lv) 64]
  omega
theorem lt_of_div {a b m : Nat} (h : a / m < b / m) : a < b := by
  by_cases h1 : a < b
  · exact h1
  · have := Nat.div_le_div_right (c := m) (show b ≤ a by omega)
    omega
/-- Where the least slot that has somebody is slot sl of level lv: the time goes on within it, and nobody else is moved. -/
theorem lvl_stay {now n t lv k : Nat} (hk : lvl t now = k) (hn : n / 64 ^ (lv + 1) = now / 64 ^ (lv + 1)) (hlv : lv ≤ k) (hne : k = lv → 0 < lv → t / 64 ^ lv ≠ n / 64 ^ lv) : lvl t n = k := by
  have ha := lvl_above t now
  rw [hk] at ha
  refine lvl_is (ha.trans (div_up hn (by omega)).symm) ?_
  by_cases h0 : k = 0
  · exact .inl h0
  · refine .inr ?_
    by_cases e : k = lv
    · subst e; exact hne rfl (by omega)
    · have h2 := lvl_at (a := t) (b := now) (by omega)
      rw [hk] at h2
      rw [div_up hn (by omega : lv + 1 ≤ k)]
      exact h2
/-- Whoever is of a higher level is later. -/
theorem later {now n t lv : Nat} (h1 : now ≤ t) (hk : lv < lvl t now) (hn : n / 64 ^ (lv + 1) = now / 64 ^ (lv + 1)) : n < t := by
  have h2 := lvl_at (a := t) (b := now) (by omega)
  have h3 : now / 64 ^ lvl t now ≤ t / 64 ^ lvl t now := Nat.div_le_div_right h1
  have h4 := div_up hn (show lv + 1 ≤ lvl t now by omega)
  refine lt_of_div (m := 64 ^ lvl t now) ?_
  omega
/-- Times of a slot of the lowest level are its own. -/
theorem from_zero {now sl t : Nat} (h : lvl t now = 0) (hs : t % 64 = sl) : t = fromOf now 0 sl := by
  have h1 := lvl_above t now
  rw [h] at h1
  unfold fromOf
  simp at h1 ⊢
  omega


structure Ent where
  key : Int
  due : Nat
  ord : Nat
theorem Ent.ext' {a b : Ent} (h1 : a.key = b.key) (h2 : a.due = b.due) (h3 : a.ord = b.ord) : a = b := by
  cases a; cases b; simp_all
def Ent.lt (a b : Ent) : Prop := a.due < b.due ∨ (a.due = b.due ∧ a.ord < b.ord)
theorem Ent.lt_trans {a b c : Ent} (h : a.lt b) (k : b.lt c) : a.lt c := by unfold Ent.lt at *; omega
theorem Ent.lt_asymm {a b : Ent} (h : a.lt b) : ¬ b.lt a := by unfold Ent.lt at *; omega
theorem Ent.lt_due {a b : Ent} (h : a.lt b) : a.due ≤ b.due := by unfold Ent.lt at *; omega
def Up (l : List Ent) : Prop := l.Pairwise Ent.lt
theorem up_one : ∀ {l m : List Ent}, Up l → Up m → l.Perm m → l = m
  | [], m, _, _, h => h.nil_eq
  | a :: l, [], _, _, h => by have := h.length_eq; simp at this
  | a :: l, b :: m, hl, hm, h => by
    have hl2 := List.pairwise_cons.1 hl
    have hm2 := List.pairwise_cons.1 hm
    have e : a = b := by
      have h1 : a ∈ b :: m := h.subset (List.mem_cons_self ..)
      have h2 : b ∈ a :: l := h.symm.subset (List.mem_cons_self ..)
      rcases List.mem_cons.1 h1 with h1 | h1
      · exact h1
      · rcases List.mem_cons.1 h2 with h2 | h2
        · exact h2.symm
        · exact (Ent.lt_asymm (hl2.1 b h2) (hm2.1 a h1)).elim
    subst e
    rw [up_one hl2.2 hm2.2 ((List.perm_cons a).1 h)]
theorem Up.filter {l : List Ent} (h : Up l) (p : Ent → Bool) : Up (l.filter p) := List.Pairwise.sublist List.filter_sublist h
/-- Those of up to a time, and those behind it. -/
def upTil (t : Nat) (l : List Ent) : List Ent := l.filter (fun x => decide (x.due ≤ t))
def past (t : Nat) (l : List Ent) : List Ent := l.filter (fun x => decide (t < x.due))
theorem mem_upTil {t : Nat} {l : List Ent} {x : Ent} : x ∈ upTil t l ↔ x ∈ l ∧ x.due ≤ t := by unfold upTil; rw [List.mem_filter, decide_eq_true_iff]
theorem mem_past {t : Nat} {l : List Ent} {x : Ent} : x ∈ past t l ↔ x ∈ l ∧ t < x.due := by unfold past; rw [List.mem_filter, decide_eq_true_iff]
theorem upTil_all {t : Nat} {l : List Ent} (h : ∀ x ∈ l, x.due ≤ t) : upTil t l = l := List.filter_eq_self.2 (fun x hx => decide_eq_true (h x hx))
theorem upTil_none {t : Nat} {l : List Ent} (h : ∀ x ∈ l, t < x.due) : upTil t l = [] := List.filter_eq_nil_iff.2 (fun x hx e => by have := h x hx; have := of_decide_eq_true e; omega)
theorem past_all {t : Nat} {l : List Ent} (h : ∀ x ∈ l, t < x.due) : past t l = l := List.filter_eq_self.2 (fun x hx => decide_eq_true (h x hx))
theorem past_none {t : Nat} {l : List Ent} (h : ∀ x ∈ l, x.due ≤ t) : past t l = [] := List.filter_eq_nil_iff.2 (fun x hx e => by have := h x hx; have := of_decide_eq_true e; omega)
theorem upTil_append (t : Nat) (l m : List Ent) : upTil t (l ++ m) = upTil t l ++ upTil t m := List.filter_append _ _
theorem past_append (t : Nat) (l m : List Ent) : past t (l ++ m) = past t l ++ past t m := List.filter_append _ _
theorem up_split : ∀ {l : List Ent} (_ : Up l) (t : Nat), l = upTil t l ++ past t l
  | [], _, _ => rfl
  | a :: l, h, t => by
    have h2 := List.pairwise_cons.1 h
    have ih := up_split h2.2 t
    by_cases e : a.due ≤ t
    · have e1 : upTil t (a :: l) = a :: upTil t l := by unfold upTil; rw [List.filter_cons_of_pos (by simpa using e)]
      have e2 : past t (a :: l) = past t l := by unfold past; rw [List.filter_cons_of_neg (by simp; omega)]
      rw [e1, e2, List.cons_append, ← ih]
    · have h3 : ∀ x ∈ a :: l, t < x.due := fun x hx => by
        rcases List.mem_cons.1 hx with rfl | hx
        · omega
        · have := Ent.lt_due (h2.1 x hx); omega
      rw [upTil_none h3, past_all h3]; rfl
theorem upTil_perm {t : Nat} {l m : List Ent} (h : l.Perm m) : (upTil t l).Perm (upTil t m) := h.filter _
/-- The list without a key. -/
def without (k : Int) (l : List Ent) : List Ent := l.filter (fun x => decide (x.key ≠ k))
theorem mem_without {k : Int} {l : List Ent} {x : Ent} : x ∈ without k l ↔ x ∈ l ∧ x.key ≠ k := by unfold without; rw [List.mem_filter, decide_eq_true_iff]
def armL (k : Int) (t o : Nat) (l : List Ent) : List Ent := upTil t (without k l) ++ ⟨k, t, o⟩ :: past t (without k l)
/-- Who is told by a key. -/
def hasKey (k : Int) (l : List Ent) : Option Ent := l.find? (fun x => decide (x.key = k))
theorem hasKey_some {k : Int} {l : List Ent} {x : Ent} (h : hasKey k l = some x) : x ∈ l ∧ x.key = k := ⟨List.mem_of_find?_eq_some h, by have := List.find?_some h; exact of_decide_eq_true this⟩
theorem hasKey_none {k : Int} {l : List Ent} (h : hasKey k l = none) : ∀ x ∈ l, x.key ≠ k := fun x hx e => by
  have := List.find?_eq_none.1 h x hx
  exact this (decide_eq_true e)
theorem pair_ne : ∀ {l : List Ent} (_ : l.Pairwise (fun a b => a.key ≠ b.key)) {x y : Ent} (_ : x ∈ l) (_ : y ∈ l) (_ : x ≠ y), x.key ≠ y.key
  | [], _, _, _, h, _, _ => by cases h
  | a :: l, hp, x, y, hx, hy, hne => by
    have hp := List.pairwise_cons.1 hp
    rcases List.mem_cons.1 hx with ex | hx2
    · rcases List.mem_cons.1 hy with ey | hy2
      · exact (hne (ex.trans ey.symm)).elim
      · rw [ex]; exact hp.1 y hy2
    · rcases List.mem_cons.1 hy with ey | hy2
      · rw [ey]; exact fun e => hp.1 x hx2 e.symm
      · exact pair_ne hp.2 hx2 hy2 hne
theorem pair_ord : ∀ {l : List Ent} (_ : l.Pairwise (fun a b => a.ord ≠ b.ord)) {x y : Ent} (_ : x ∈ l) (_ : y ∈ l) (_ : x ≠ y), x.ord ≠ y.ord
  | [], _, _, _, h, _, _ => by cases h
  | a :: l, hp, x, y, hx, hy, hne => by
    have hp := List.pairwise_cons.1 hp
    rcases List.mem_cons.1 hx with ex | hx2
    · rcases List.mem_cons.1 hy with ey | hy2
      · exact (hne (ex.trans ey.symm)).elim
      · rw [ex]; exact hp.1 y hy2
    · rcases List.mem_cons.1 hy with ey | hy2
      · rw [ey]; exact fun e => hp.1 x hx2 e.symm
      · exact pair_ord hp.2 hx2 hy2 hne
theorem hasKey_of {k : Int} {l : List Ent} {x : Ent} (hn : (l.map Ent.key).Nodup) (hx : x ∈ l) (hk : x.key = k) : hasKey k l = some x := by
  cases h : hasKey k l with
  | none => exact (hasKey_none h x hx hk).elim
  | some y =>
    obtain ⟨h1, h2⟩ := hasKey_some h
    have : x = y := by
      have hp := List.pairwise_map.1 hn
      by_cases e : x = y
      · exact e
      · exact (pair_ne hp hx h1 e (hk.trans h2.symm)).elim
    rw [this]
theorem without_none {k : Int} {l : List Ent} (h : ∀ x ∈ l, x.key ≠ k) : without k l = l := List.filter_eq_self.2 (fun x hx => decide_eq_true (h x hx))
/-- What holds of a wheel's list. -/
structure Wh (now orders : Nat) (l : List Ent) : Prop where
  up : Up l
  keys : (l.map Ent.key).Nodup
  ords : (l.map Ent.ord).Nodup
  due : ∀ x ∈ l, now < x.due ∧ x.due ≤ 1099511627776
  ord : ∀ x ∈ l, 1 ≤ x.ord ∧ x.ord ≤ orders
  kb : ∀ x ∈ l, -9223372036854775808 ≤ x.key ∧ x.key ≤ 9223372036854775807
theorem Wh.without {now o : Nat} {l : List Ent} (h : Wh now o l) (k : Int) : Wh now o (without k l) :=
  ⟨h.up.filter _, h.keys.sublist (List.Sublist.map _ List.filter_sublist), h.ords.sublist (List.Sublist.map _ List.filter_sublist), fun x hx => h.due x (mem_without.1 hx).1, fun x hx => h.ord x (mem_without.1 hx).1, fun x hx => h.kb x (mem_without.1 hx).1⟩
theorem Wh.new : Wh 0 0 [] := ⟨List.Pairwise.nil, List.nodup_nil, List.nodup_nil, (fun x hx => by cases hx), (fun x hx => by cases hx), (fun x hx => by cases hx)⟩
theorem armL_perm {k : Int} {t o : Nat} {l : List Ent} (h : Up l) : (armL k t o l).Perm (⟨k, t, o⟩ :: Go.Proofs.YtpbknbnhljjjcaaDoor.without k l) := by
  unfold armL
  refine List.perm_middle.trans ((List.perm_cons _).2 ?_)
  rw [← up_split (show Up (Go.Proofs.YtpbknbnhljjjcaaDoor.without k l) from h.filter _) t]
theorem Wh.arm {now o : Nat} {l : List Ent} (h : Wh now o l) {k : Int} (hkb : -9223372036854775808 ≤ k ∧ k ≤ 9223372036854775807) {t : Nat} (h1 : now < t) (h2 : t ≤ 1099511627776) : Wh now (o + 1) (armL k t (o + 1) l) := by
  have hw := h.without k
  have hp := armL_perm (k := k) (t := t) (o := o + 1) h.up
  have hm : ∀ x, x ∈ armL k t (o + 1) l → x = ⟨k, t, o + 1⟩ ∨ x ∈ Go.Proofs.YtpbknbnhljjjcaaDoor.without k l := fun x hx => List.mem_cons.1 (hp.subset hx)
  refine ⟨?_, ?_, ?_, fun x hx => ?_, fun x hx => ?_, fun x hx => ?_⟩
  · unfold armL Up
    rw [List.pairwise_append]
    refine ⟨hw.up.filter _, List.pairwise_cons.2 ⟨fun x hx => .inl (mem_past.1 hx).2, hw.up.filter _⟩, fun x hx y hy => ?_⟩
    have h3 := mem_upTil.1 hx
    have h4 := hw.ord x h3.1
    rcases List.mem_cons.1 hy with rfl | hy
    · unfold Ent.lt; dsimp only; omega
    · have := (mem_past.1 hy).2; exact .inl (by omega)
  · rw [(hp.map Ent.key).nodup_iff]
    refine List.nodup_cons.2 ⟨fun hx => ?_, hw.keys⟩
    obtain ⟨x, hx, e⟩ := List.mem_map.1 hx
    exact (mem_without.1 hx).2 e
  · rw [(hp.map Ent.ord).nodup_iff]
    refine List.nodup_cons.2 ⟨fun hx => ?_, hw.ords⟩
    obtain ⟨x, hx, e⟩ := List.mem_map.1 hx
    have := hw.ord x hx
    have e : x.ord = o + 1 := e
    omega
  · rcases hm x hx with rfl | hx
    · exact ⟨h1, h2⟩
    · exact hw.due x hx
  · rcases hm x hx with rfl | hx
    · exact ⟨by simp, by simp⟩
    · have := hw.ord x hx; omega
  · rcases hm x hx with rfl | hx
    · exact hkb
    · exact hw.kb x hx
theorem Wh.past {now o : Nat} {l : List Ent} (h : Wh now o l) (t : Nat) (_ : now ≤ t) : Wh t o (past t l) :=
  ⟨h.up.filter _, h.keys.sublist (List.Sublist.map _ List.filter_sublist), h.ords.sublist (List.Sublist.map _ List.filter_sublist), fun x hx => ⟨(mem_past.1 hx).2, (h.due x (mem_past.1 hx).1).2⟩, fun x hx => h.ord x (mem_past.1 hx).1, fun x hx => h.kb x (mem_past.1 hx).1⟩
theorem ord_key {l : List Ent} (hk : (l.map Ent.key).Nodup) (ho : (l.map Ent.ord).Nodup) {x y : Ent} (hx : x ∈ l) (hy : y ∈ l) : x.ord = y.ord ↔ x.key = y.key := by
  constructor
  · intro e
    by_cases e2 : x = y
    · rw [e2]
    · exact (pair_ord (List.pairwise_map.1 ho) hx hy e2 e).elim
  · intro e
    by_cases e2 : x = y
    · rw [e2]
    · exact (pair_ne (List.pairwise_map.1 hk) hx hy e2 e).elim
theorem without_ord {l : List Ent} (hk : (l.map Ent.key).Nodup) (ho : (l.map Ent.ord).Nodup) {x : Ent} (hx : x ∈ l) : l.filter (fun y => decide (y.ord ≠ x.ord)) = without x.key l := by
  unfold without
  refine List.filter_congr (fun y hy => ?_)
  have := ord_key hk ho hy hx
  by_cases e : y.ord = x.ord
  · simp [e, this.1 e]
  · have e2 : y.key ≠ x.key := fun e2 => e (this.2 e2)
    simp [e, e2]
theorem split_of {t : Nat} {D L : List Ent} (h1 : ∀ x ∈ D, x.due ≤ t) (h2 : ∀ x ∈ L, t < x.due) : upTil t (D ++ L) = D ∧ past t (D ++ L) = L := by
  rw [upTil_append, past_append, upTil_all h1, upTil_none h2, past_none h1, past_all h2]
  simp


/-- The place of a time, as one number. -/
def qOf (now t : Nat) : Nat := lvl t now * 64 + slt now t
theorem qOf_lt {now t : Nat} (h1 : now < 4398046511104) (h2 : t < 4398046511104) : qOf now t < 448 := by
  have := lvl_six h2 h1
  have := slt_lt now t
  unfold qOf
  omega
theorem qOf_lv {now t : Nat} : qOf now t / 64 = lvl t now := by
  have := slt_lt now t
  unfold qOf
  omega
theorem qOf_sl {now t : Nat} : qOf now t % 64 = slt now t := by
  have := slt_lt now t
  unfold qOf
  omega
def updF {α : Type} (f : Nat → α) (q : Nat) (v : α) (i : Nat) : α := if i = q then v else f i
theorem updF_same {α : Type} (f : Nat → α) (q : Nat) (v : α) : updF f q v q = v := if_pos rfl
theorem updF_ne {α : Type} (f : Nat → α) {q i : Nat} (v : α) (h : i ≠ q) : updF f q v i = f i := if_neg h
/-- Those of a place. -/
def ofQ (now q : Nat) (P : List Ent) : List Ent := P.filter (fun x => decide (qOf now x.due = q))
def notQ (now q : Nat) (P : List Ent) : List Ent := P.filter (fun x => decide (qOf now x.due ≠ q))
theorem mem_ofQ {now q : Nat} {P : List Ent} {x : Ent} : x ∈ ofQ now q P ↔ x ∈ P ∧ qOf now x.due = q := by unfold ofQ; rw [List.mem_filter, decide_eq_true_iff]
theorem mem_notQ {now q : Nat} {P : List Ent} {x : Ent} : x ∈ notQ now q P ↔ x ∈ P ∧ qOf now x.due ≠ q := by unfold notQ; rw [List.mem_filter, decide_eq_true_iff]
/-- The slots' rows hold just those of P, each where it belongs. -/
def Placed (now : Nat) (rows : Nat → List Ent) (P : List Ent) : Prop := ∀ q, q < 448 → (rows q).Perm (ofQ now q P)
theorem Placed.perm {now : Nat} {rows : Nat → List Ent} {P P' : List Ent} (h : Placed now rows P) (hp : P.Perm P') : Placed now rows P' := fun q hq => (h q hq).trans (hp.filter _)
theorem Placed.new : Placed 0 (fun _ => []) [] := fun _ _ => List.Perm.refl _
theorem Placed.lay {now : Nat} {rows : Nat → List Ent} {P : List Ent} (h : Placed now rows P) (x : Ent) {q : Nat} (hq : qOf now x.due = q) : Placed now (updF rows q (rows q ++ [x])) (x :: P) := fun i hi => by
  unfold ofQ
  by_cases e : i = q
  · subst e
    rw [updF_same, List.filter_cons_of_pos (by simpa using hq)]
    exact (List.perm_append_comm).trans ((List.perm_cons _).2 (h _ hi))
  · rw [updF_ne _ _ e, List.filter_cons_of_neg (by simpa using fun e2 => e (e2.symm.trans hq))]
    exact h i hi
theorem Placed.take {now : Nat} {rows : Nat → List Ent} {P : List Ent} (h : Placed now rows P) (q : Nat) : Placed now (updF rows q []) (notQ now q P) := fun i hi => by
  unfold ofQ notQ
  rw [List.filter_filter]
  by_cases e : i = q
  · subst e
    rw [updF_same, List.filter_eq_nil_iff.2 (fun x _ => by simp)]
  · rw [updF_ne _ _ e]
    refine (h i hi).trans (List.Perm.of_eq ?_)
    unfold ofQ
    refine List.filter_congr (fun x _ => ?_)
    by_cases e2 : qOf now x.due = i
    · simp [e2, e]
    · simp [e2]
theorem Placed.cancel {now : Nat} {rows : Nat → List Ent} {P : List Ent} (h : Placed now rows P) (x : Ent) {q : Nat} (hq : qOf now x.due = q) (hord : ∀ y ∈ P, y.ord = x.ord → qOf now y.due = q) :
    Placed now (updF rows q ((rows q).filter (fun y => decide (y.ord ≠ x.ord)))) (P.filter (fun y => decide (y.ord ≠ x.ord))) := fun i hi => by
  unfold ofQ
  rw [List.filter_filter]
  by_cases e : i = q
  · subst e
    rw [updF_same]
    refine ((h _ hi).filter _).trans (List.Perm.of_eq ?_)
    unfold ofQ
    rw [List.filter_filter]
    exact List.filter_congr (fun y _ => Bool.and_comm _ _)
  · rw [updF_ne _ _ e]
    refine (h i hi).trans (List.Perm.of_eq ?_)
    unfold ofQ
    refine List.filter_congr (fun y hy => ?_)
    by_cases e2 : y.ord = x.ord
    · have := hord y hy e2
      simp [e2]; omega
    · simp [e2]
theorem Placed.move {now n : Nat} {rows : Nat → List Ent} {P : List Ent} (h : Placed now rows P) (hs : ∀ x ∈ P, qOf n x.due = qOf now x.due) : Placed n rows P := fun q hq => by
  refine (h q hq).trans (List.Perm.of_eq ?_)
  unfold ofQ
  exact List.filter_congr (fun x hx => by rw [hs x hx])
/-- The words of bits. -/
def SomeOk (sm : Nat → Nat) (rows : Nat → List Ent) : Prop := ∀ lv, lv < 7 → sm lv < 2 ^ 64 ∧ ∀ s, s < 64 → ((sm lv).testBit s = true ↔ rows (lv * 64 + s) ≠ [])
/-- The first slot that has somebody. -/
structure First (now : Nat) (P : List Ent) (lv s : Nat) : Prop where
  lv7 : lv < 7
  s64 : s < 64
  low : ∀ x ∈ P, lv ≤ lvl x.due now
  slot : ∀ x ∈ P, lvl x.due now = lv → s ≤ slt now x.due
  some : ∃ x ∈ P, lvl x.due now = lv ∧ slt now x.due = s
theorem Placed.none_of {now : Nat} {rows : Nat → List Ent} {P : List Ent} (h : Placed now rows P) {q : Nat} (hq : q < 448) (h0 : rows q = []) : ∀ x ∈ P, qOf now x.due ≠ q := fun x hx e => by
  have h1 := h q hq
  rw [h0] at h1
  have h2 := mem_ofQ.2 ⟨hx, e⟩
  rw [h1.symm.eq_nil] at h2
  cases h2
theorem Placed.some_of {now : Nat} {rows : Nat → List Ent} {P : List Ent} (h : Placed now rows P) {q : Nat} (hq : q < 448) (h0 : rows q ≠ []) : ∃ x ∈ P, qOf now x.due = q := by
  cases hr : rows q with
  | nil => exact (h0 hr).elim
  | cons x l =>
    have := (h q hq).subset (show x ∈ rows q by rw [hr]; exact List.mem_cons_self ..)
    exact ⟨x, mem_ofQ.1 this⟩
theorem zero_bit {n : Nat} (h : n < 2 ^ 64) (hb : ∀ s, s < 64 → n.testBit s = false) : n = 0 := by
  refine Nat.eq_of_testBit_eq (fun i => ?_)
  rw [Nat.zero_testBit]
  by_cases hi : i < 64
  · exact hb i hi
  · exact Nat.testBit_lt_two_pow (Nat.lt_of_lt_of_le h (Nat.pow_le_pow_right (by decide) (by omega)))
theorem SomeOk.zero {sm : Nat → Nat} {rows : Nat → List Ent} (h : SomeOk sm rows) {lv : Nat} (hl : lv < 7) (h0 : sm lv = 0) : ∀ s, s < 64 → rows (lv * 64 + s) = [] := fun s hs => by
  by_cases e : rows (lv * 64 + s) = []
  · exact e
  · have := ((h lv hl).2 s hs).2 e
    rw [h0, Nat.zero_testBit] at this
    cases this
/-- Below level lv there is nobody; s is the least bit of its word. -/
theorem first_of {now : Nat} {rows : Nat → List Ent} {P : List Ent} {sm : Nat → Nat} (h : Placed now rows P) (hs : SomeOk sm rows) {lv s : Nat} (h7 : lv < 7) (hz : ∀ i, i < lv → sm i = 0) (h64 : s < 64) (hb : (sm lv).testBit s = true) (hlow : ∀ i, i < s → (sm lv).testBit i = false) : First now P lv s := by
  refine ⟨h7, h64, fun x hx => ?_, fun x hx hl => ?_, ?_⟩
  · by_cases e : lv ≤ lvl x.due now
    · exact e
    · have h1 := hs.zero (show lvl x.due now < 7 by omega) (hz _ (by omega)) (slt now x.due) (slt_lt _ _)
      exact (h.none_of (by have := slt_lt now x.due; omega) h1 x hx rfl).elim
  · by_cases e : s ≤ slt now x.due
    · exact e
    · have h1 := hlow (slt now x.due) (by omega)
      have h2 : rows (lv * 64 + slt now x.due) = [] := by
        by_cases e3 : rows (lv * 64 + slt now x.due) = []
        · exact e3
        · rw [((hs lv h7).2 _ (slt_lt _ _)).2 e3] at h1; cases h1
      exact (h.none_of (by have := slt_lt now x.due; omega) h2 x hx (by unfold qOf; rw [hl])).elim
  · obtain ⟨x, hx, e⟩ := h.some_of (by omega) (((hs lv h7).2 s h64).1 hb)
    have h1 := qOf_lv (now := now) (t := x.due)
    have h2 := qOf_sl (now := now) (t := x.due)
    rw [e] at h1 h2
    exact ⟨x, hx, by omega, by omega⟩
theorem none_of {now : Nat} {rows : Nat → List Ent} {P : List Ent} {sm : Nat → Nat} (h : Placed now rows P) (hs : SomeOk sm rows) (hz : ∀ i, i < 7 → sm i = 0) (hn : now < 4398046511104) (hd : ∀ x ∈ P, x.due < 4398046511104) : P = [] := by
  cases P with
  | nil => rfl
  | cons x P =>
    have hx : x ∈ x :: P := List.mem_cons_self ..
    have h7 := lvl_six (hd x hx) hn
    have h1 := hs.zero h7 (hz _ h7) (slt now x.due) (slt_lt _ _)
    exact (h.none_of (by have := slt_lt now x.due; omega) h1 x hx rfl).elim
theorem First.from_above {now lv s : Nat} {P : List Ent} (h : First now P lv s) : fromOf now lv s / 64 ^ (lv + 1) = now / 64 ^ (lv + 1) := Go.Proofs.YtpbknbnhljjjcaaDoor.from_above h.s64
/-- Nobody is due ahead of the first slot's time. -/
theorem First.le {now lv s : Nat} {P : List Ent} (h : First now P lv s) (hn : ∀ x ∈ P, now ≤ x.due) : ∀ x ∈ P, fromOf now lv s ≤ x.due := fun x hx => by
  by_cases e : lvl x.due now = lv
  · have h1 := lvl_above x.due now
    rw [e] at h1
    have h2 := h.slot x hx e
    unfold slt at h2
    rw [e] at h2
    exact from_le h1 h2
  · have := h.low x hx
    exact Nat.le_of_lt (later (hn x hx) (by omega) h.from_above)
/-- The first slot's time is not behind the time that is. -/
theorem First.ge {now lv s : Nat} {P : List Ent} (h : First now P lv s) (hn : ∀ x ∈ P, now ≤ x.due) : now ≤ fromOf now lv s := by
  obtain ⟨x, hx, h1, h2⟩ := h.some
  have h3 := lvl_above x.due now
  rw [h1] at h3
  unfold slt at h2
  rw [h1] at h2
  have h4 := div_digit x.due lv
  have h5 := div_digit now lv
  rw [h3, h2] at h4
  by_cases e : lv = 0
  · subst e
    have := hn x hx
    unfold fromOf
    simp at *
    omega
  · have h6 : now / 64 ^ lv ≤ x.due / 64 ^ lv := Nat.div_le_div_right (hn x hx)
    have h7 := lvl_at (a := x.due) (b := now) (by omega)
    rw [h1] at h7
    have h8 := from_div (now := now) (lv := lv) (sl := s)
    exact Nat.le_of_lt (lt_of_div (m := 64 ^ lv) (by omega))
/-- The time goes on to a time of no more than the first slot's: nobody else is moved. -/
theorem First.stay {now lv s n : Nat} {P : List Ent} (h : First now P lv s) (h1 : now ≤ n) (h2 : n ≤ fromOf now lv s) : ∀ x ∈ P, (lvl x.due now = lv → slt now x.due = s → n < fromOf now lv s) → qOf n x.due = qOf now x.due := fun x hx hne => by
  have hd : n / 64 ^ (lv + 1) = now / 64 ^ (lv + 1) := by
    have a := Nat.div_le_div_right (c := 64 ^ (lv + 1)) h1
    have b := Nat.div_le_div_right (c := 64 ^ (lv + 1)) h2
    rw [h.from_above] at b
    omega
  have hl : lvl x.due n = lvl x.due now := by
    refine lvl_stay rfl hd (h.low x hx) (fun e h0 => ?_)
    have h3 := h.slot x hx e
    have h4 := lvl_above x.due now
    rw [e] at h4
    have h5 := div_digit x.due lv
    have h6 := div_digit n lv
    unfold slt at h3 hne
    rw [e] at h3 hne
    have h7 : n / 64 ^ lv ≤ fromOf now lv s / 64 ^ lv := Nat.div_le_div_right h2
    rw [from_div] at h7
    intro e2
    have h8 : x.due / 64 ^ lv % 64 = s := by omega
    have h9 := hne rfl h8
    have h10 : fromOf now lv s / 64 ^ lv ≤ n / 64 ^ lv := by rw [from_div]; omega
    have h11 : fromOf now lv s / 64 ^ lv * 64 ^ lv = fromOf now lv s := by
      rw [from_div]
      unfold fromOf
      rw [Nat.add_mul, Nat.pow_succ, Nat.mul_assoc, Nat.mul_comm (64 ^ lv) 64]
    have h12 := Nat.mul_le_mul_right (64 ^ lv) h10
    have h13 := Nat.div_mul_le_self n (64 ^ lv)
    omega
  unfold qOf slt
  rw [hl]
/-- Those of the first slot get to lower levels, if it has not the lowest one. -/
theorem First.down {now lv s : Nat} {P : List Ent} (_ : First now P lv s) (h0 : 0 < lv) : ∀ x ∈ P, lvl x.due now = lv → slt now x.due = s → lvl x.due (fromOf now lv s) < lv := fun x _ h1 h2 => by
  rw [lvl_lt h0, from_div]
  have h3 := lvl_above x.due now
  rw [h1] at h3
  unfold slt at h2
  rw [h1] at h2
  have := div_digit x.due lv
  omega
theorem First.zero {now s : Nat} {P : List Ent} (_ : First now P 0 s) : ∀ x ∈ P, lvl x.due now = 0 → slt now x.due = s → x.due = fromOf now 0 s := fun x _ h1 h2 => by
  refine from_zero h1 ?_
  unfold slt at h2
  rw [h1] at h2
  simpa using h2
/-- A measure: how far all are from their end. -/
def mu (now : Nat) (P : List Ent) : Nat := (P.map (fun x => lvl x.due now + 1)).sum
theorem mu_perm {now : Nat} {P Q : List Ent} (h : P.Perm Q) : mu now P = mu now Q := (h.map _).sum_nat
theorem mu_le : ∀ {n m : Nat} {P : List Ent} (_ : ∀ x ∈ P, lvl x.due n ≤ lvl x.due m), mu n P ≤ mu m P
  | _, _, [], _ => Nat.le_refl _
  | n, m, a :: P, h => by
    have h1 := h a (List.mem_cons_self ..)
    have h2 := mu_le (n := n) (m := m) (P := P) (fun x hx => h x (List.mem_cons_of_mem _ hx))
    unfold mu at *
    simp only [List.map_cons, List.sum_cons]
    omega
theorem mu_lt : ∀ {n m : Nat} {P : List Ent} (_ : ∀ x ∈ P, lvl x.due n ≤ lvl x.due m) (_ : ∃ x ∈ P, lvl x.due n < lvl x.due m), mu n P < mu m P
  | _, _, [], _, ⟨_, hx, _⟩ => by cases hx
  | n, m, a :: P, h, ⟨x, hx, hl⟩ => by
    have h1 := h a (List.mem_cons_self ..)
    have h3 : ∀ x ∈ P, lvl x.due n ≤ lvl x.due m := fun x hx => h x (List.mem_cons_of_mem _ hx)
    rcases List.mem_cons.1 hx with e | hx
    · subst e
      have h2 := mu_le h3
      unfold mu at *
      simp only [List.map_cons, List.sum_cons]
      omega
    · have h2 := mu_lt h3 ⟨x, hx, hl⟩
      unfold mu at *
      simp only [List.map_cons, List.sum_cons]
      omega
end Go.Proofs.YtpbknbnhljjjcaaDoor
