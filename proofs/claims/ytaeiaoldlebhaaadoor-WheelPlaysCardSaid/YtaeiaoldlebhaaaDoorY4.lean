import Derived.Test.YtaeiaoldlebhaaaDoorY3
import Derived.Laws.AppendOwnNone
namespace Go.Proofs.YtaeiaoldlebhaaaDoor
open Go.RowKit Go.Shelf Go.Maps Go.Lib

inductive Stage : Nat → Prop
  | mk (n : Nat) : Stage n
/-- What is appended: a slice's elements. -/
def SrcR (p : Option Addr) (m c : Nat) (news : List Value) (w : World) : Prop :=
  (p = none ∧ m = 0 ∧ c = 0 ∧ news = []) ∨ ∃ ad, p = some ad ∧ news.length = m * 2 ∧ ∀ j u, news[j]? = some u → w.cell? (ad.add j) = some u
theorem Addr_add (g o k : Nat) : ((⟨g, o, none⟩ : Addr).add k) = ⟨g, o + k, none⟩ := by rw [Addr.add_lit]
/-- The first ones of a row. -/
theorem pre60 {w : World} {base n c k : Nat} {p : Option Addr} {l : List Ent} (h : w.ownsRow base 60 2 (.slice p n c) n (rowsE l)) (hn : l.length = n) (hk : k ≤ n) :
    (∀ W', (Instr.slice 50 (.slice p n c) none (some (.int .i64 (k : Int))) none).run Tryd.prog W' = .ok (.slice p k c) W') ∧ SrcR p k c (rowsE (l.take k)) w := by
  rcases h.2 with ⟨hv, h0⟩ | ⟨g, cap, cur, hv, hb, hg, hle, hm, hsz, htk⟩
  · cases hv
    obtain rfl : k = 0 := by omega
    exact ⟨fun W' => by kernel_rfl, .inl ⟨rfl, rfl, rfl, by simp [rowsE]⟩⟩
  · cases hv
    unfold maxLen at hm
    have h1 : (k : Int) ≤ (c : Int) := by omega
    have h3 : (c : Int) ≤ 9223372036854775807 := by omega
    have h4 : ¬ (k : Int) < 0 := by omega
    refine ⟨fun W' => by go_simp, .inr ⟨⟨g, 0, none⟩, rfl, by rw [rowsE_len, List.length_take]; omega, fun j u hu => ?_⟩⟩
    have hj : j < k * 2 := by have := (List.getElem?_eq_some_iff.1 hu).1; rw [rowsE_len, List.length_take] at this; omega
    have e : rowsE l = rowsE (l.take k) ++ rowsE (l.drop k) := by rw [← rowsE_append, List.take_append_drop]
    have hu2 : (rowsE l)[j]? = some u := by rw [e, List.getElem?_append_left (by rw [rowsE_len, List.length_take]; omega)]; exact hu
    exact h.cells (g := g) rfl j u hu2
/-- The last ones of a row. -/
theorem suf60 {w : World} {base n c k : Nat} {p : Option Addr} {l : List Ent} (h : w.ownsRow base 60 2 (.slice p n c) n (rowsE l)) (hn : l.length = n) (hk : k ≤ n) :
    ∃ p2 c2, (∀ W', (Instr.slice 50 (.slice p n c) (some (.int .i64 (k : Int))) none none).run Tryd.prog W' = .ok (.slice p2 (n - k) c2) W') ∧ SrcR p2 (n - k) c2 (rowsE (l.drop k)) w ∧ (True ∧ ∀ ad, p2 = some ad → ad.block < w.heap.size) := by
  rcases h.2 with ⟨hv, h0⟩ | ⟨g, cap, cur, hv, hb, hg, hle, hm, hsz, htk⟩
  · cases hv
    obtain rfl : k = 0 := by omega
    exact ⟨none, 0, fun W' => by kernel_rfl, .inl ⟨rfl, rfl, rfl, by have : l = [] := List.length_eq_zero_iff.1 hn; subst this; rfl⟩, trivial, fun ad e => by cases e⟩
  · cases hv
    unfold maxLen at hm
    have h1 : (k : Int) ≤ (n : Int) := by omega
    have h2 : (n : Int) ≤ (c : Int) := by omega
    have h3 : (c : Int) ≤ 9223372036854775807 := by omega
    have h4 : ¬ (k : Int) < 0 := by omega
    have hd : (rowsE (l.drop k)).length = (n - k) * 2 := by rw [rowsE_len, List.length_drop, hn]
    by_cases hck : c = k
    · have hkn : n = k := by omega
      subst hkn
      have hl0 : l.drop n = [] := List.drop_eq_nil_of_le (by omega)
      refine ⟨some ⟨g, 0, none⟩, 0, fun W' => ?_, .inr ⟨_, rfl, by rw [hl0]; simp [rowsE], fun j u hu => by rw [hl0] at hu; simp [rowsE] at hu⟩, trivial, fun ad e => by cases e; exact (Array.getElem?_eq_some_iff.1 hg).1⟩
      subst hck
      go_simp
    · have hck2 : ¬ (c : Int) = (k : Int) := by omega
      refine ⟨some ⟨g, k * 2, none⟩, c - k, fun W' => ?_, .inr ⟨_, rfl, hd, fun j u hu => ?_⟩, trivial, fun ad e => by cases e; exact (Array.getElem?_eq_some_iff.1 hg).1⟩
      · go_simp
      · have e : rowsE l = rowsE (l.take k) ++ rowsE (l.drop k) := by rw [← rowsE_append, List.take_append_drop]
        have hu2 : (rowsE l)[k * 2 + j]? = some u := by
          rw [e, List.getElem?_append_right (by rw [rowsE_len, List.length_take]; omega), rowsE_len, List.length_take, show k * 2 + j - min k l.length * 2 = j from by rw [Nat.min_eq_left (by omega)]; omega]
          exact hu
        have := h.cells (g := g) rfl (k * 2 + j) u hu2
        rw [Addr_add] at this ⊢
        rwa [Nat.zero_add] at this
theorem SrcR.kept {p : Option Addr} {m c : Nat} {news : List Value} {w w' : World} (h : SrcR p m c news w) (hb : ∀ ad, p = some ad → w'.heap[ad.block]? = w.heap[ad.block]?) : SrcR p m c news w' := by
  rcases h with h | ⟨ad, h1, h2, h3⟩
  · exact .inl h
  · refine .inr ⟨ad, h1, h2, fun j u hu => (World.cell?_of_block ?_).trans (h3 j u hu)⟩
    have e : (ad.add j).block = ad.block := by unfold Addr.add; split <;> rfl
    rw [e]
    exact hb ad h1
/-- 'append' of a slice's elements, nil or not. -/
theorem append_src {w : World} {ops : Array Oper} {rest : List Oper} {o : Oper} {a : Act} {Q : Exit → Act → World → Prop} (hgd : o.guard = none) (s x : Operand)
    (ho : o.op = .call { callee := .builtin .append, args := #[s, x], argTypes := #[50, 50] }) (base : Nat) (v : Value) (n : Nat) (xs : List Value) (hs : a.eval s = v) (hown : w.ownsRow base 60 2 v n xs)
    (p : Option Addr) (m c : Nat) (news : List Value) (hx : a.eval x = .slice p m c) (hsrc : SrcR p m c news w) (h1 : ∀ u ∈ news, u.oneCell' = true) (h63 : n + m < 1099511627776) (hbase : base ≤ w.heap.size)
    (h : ∀ q cq w', w'.ownsRow base 60 2 (.slice q (n + m) cq) (n + m) (xs ++ news) → w.grownBy w' v.ownBlock → wpList Tryd.prog ops Q rest (a.put o.dst (.slice q (n + m) cq)) w') : wpList Tryd.prog ops Q (o :: rest) a w := by
  obtain ⟨i0, hi, hz0, hz1, hz2⟩ := info_parts Tryd.info60
  rcases hsrc with ⟨rfl, rfl, rfl, rfl⟩ | ⟨ad, rfl, hl, hc⟩
  · obtain ⟨q, cq, hv, _, _⟩ := row_form hown
    subst hv
    refine wpList_append_own_none hgd s x 50 ho base 60 i0 2 Tryd.underlying50 hi _ n xs hs hown hx ?_
    have := h q cq w (by rw [List.append_nil, Nat.add_zero]; exact hown) ⟨rfl, rfl, rfl, Nat.le_refl _, fun _ _ _ => rfl⟩
    rwa [Nat.add_zero] at this
  · refine wpList_append_own w hgd s x 50 ho base 60 i0 (.agg #[.int .i64 0, .int .i64 0]) 2 16 Tryd.underlying50 hi hz0 hz1 hz2 rfl (by decide) v n xs hs hown ad m c news hx hl hc h1 (by unfold maxLen; omega) (by omega) hbase ?_
    intro v' w' hown' hg _
    obtain ⟨q, cq, rfl, _, _⟩ := row_form hown'
    exact h q cq w' hown' hg
section
variable {X c now : Nat} {A : Option Addr} {l : List Ent} {w : World}
set_option maxRecDepth 100000 in
set_option maxHeartbeats 1000000 in
theorem ref61_bad (h : RefT X A c now l w) (k a : Int) (ha : a ≤ (now : Int) ∨ 1099511627776 < a) :
    Calls Tryd.prog 61 #[.pointer (some ⟨X, 0, none⟩), .int .i64 k, .int .i64 a] w fun e w' => e = .returned (.int .i64 1) ∧ w' = w := by
  obtain ⟨b0, b1, f0, f1⟩ := h.cells
  clear h
  by_cases h1 : a ≤ (now : Int)
  · clear ha
    go_enter Tryd.func61, Tryd.ntmps61
    go_wp2_with fail
    go_ret
    exact ⟨rfl, rfl⟩
  · have h2 : 1099511627776 < a := by omega
    clear ha
    go_enter Tryd.func61, Tryd.ntmps61
    go_wp2_with fail
    go_ret
    exact ⟨rfl, rfl⟩
theorem arm_row {base w0n n j : Nat} {t o : Nat} {k : Int} {v : Value} {L lw : List Ent} {w1 : World} (ha : L = upTil t lw ++ [⟨k, t, o⟩] ++ past t lw) (hr : w1.ownsRow base 60 2 v (j + 1 + (n - j)) (rowsE (lw.take j) ++ [.int .i64 k, .int .i64 (t : Int)] ++ rowsE (lw.drop j))) (hb : w0n ≤ base) (hn : lw.length = n) (hj : (upTil t lw).length = j) (hjn : j ≤ n) (hs : lw = upTil t lw ++ past t lw) :
    w1.ownsRow w0n 60 2 v (j + 1 + (n - j)) (rowsE L) ∧ L.length = j + 1 + (n - j) := by
  have e1 : lw.take j = upTil t lw := by
    conv => lhs; rw [hs]
    exact List.take_left' hj
  have e2 : lw.drop j = past t lw := by
    conv => lhs; rw [hs]
    exact List.drop_left' hj
  rw [e1, e2] at hr
  refine ⟨ownsRow_base ?_ hb, ?_⟩
  · rw [ha, rowsE_append, rowsE_snoc]
    exact hr
  · have h1 := congrArg List.length hs
    rw [ha]
    simp at h1 ⊢
    omega
/-- Whom the loop of Arm passes over. -/
theorem up_pass {l : List Ent} (h : Up l) (t : Nat) : l = upTil t l ++ past t l ∧ (∀ i x, l[i]? = some x → (i < (upTil t l).length ↔ x.due ≤ t)) := by
  have hs := up_split h t
  refine ⟨hs, fun i x hx => ?_⟩
  rw [hs] at hx
  by_cases hi : i < (upTil t l).length
  · rw [List.getElem?_append_left hi] at hx
    have := (mem_upTil.1 (List.mem_of_getElem? hx)).2
    exact ⟨fun _ => this, fun _ => hi⟩
  · rw [List.getElem?_append_right (by omega)] at hx
    have := (mem_past.1 (List.mem_of_getElem? hx)).2
    exact ⟨fun h => (hi h).elim, fun h => by omega⟩
set_option maxRecDepth 100000 in
set_option maxHeartbeats 4000000 in
theorem ref61 (h : RefT X A c now l w) (hup : Up l) (hlen : l.length < 549755813888) (k : Int) (t o : Nat) (h1 : now < t) (h2 : t ≤ 1099511627776) :
    Calls Tryd.prog 61 #[.pointer (some ⟨X, 0, none⟩), .int .i64 k, .int .i64 (t : Int)] w fun e w' => e = .returned (.int .i64 0) ∧ RefTurn X now A (armL k t o l) w w' := by
  have HW := Lib.hid (ref96 h (by omega) k)
  have HH := Lib.hid h
  obtain ⟨b0, b1, f0, f1⟩ := h.cells
  have hX := h.lt
  have hupw : Up (without k l) := hup.filter _
  have HP := Lib.hid (up_pass hupw t)
  have hwl : (without k l).length < 549755813888 := Nat.lt_of_le_of_lt (List.length_filter_le _ _) hlen
  have h1I : ¬ (t : Int) ≤ (now : Int) := by omega
  have h2I : ¬ 1099511627776 < (t : Int) := by omega
  have HARM := Lib.hid (show armL k t o l = upTil t (without k l) ++ [⟨k, t, o⟩] ++ past t (without k l) from by unfold armL; simp)
  clear h hup hupw
  go_enter Tryd.func61, Tryd.ntmps61
  go_wp2_with (go_at_call 96; refine HW.out.mono ?_; rintro e w1 ⟨v, rfl, hr, hb⟩; obtain ⟨pv, cv, hv, hcv, hcv2⟩ := row_form hr; subst hv; have HR := Lib.hid hr; have HB := Lib.hid hb; clear hr hb)
  obtain ⟨lw, hlw⟩ : ∃ lw, without k l = lw := ⟨_, rfl⟩
  rw [hlw] at HR HP HARM hwl hcv ⊢
  obtain ⟨n, hn⟩ : ∃ n, lw.length = n := ⟨_, rfl⟩
  rw [hn] at HR hwl hcv ⊢
  have HN := Lib.hid hn
  obtain ⟨j, hj⟩ : ∃ j, (upTil t lw).length = j := ⟨_, rfl⟩
  have hjn : j ≤ n := by rw [← hj, ← hn]; exact List.length_filter_le _ _
  have HJ := Lib.hid hj
  rw [hj] at HP
  have hcvI : (n : Int) ≤ (cv : Int) := by omega
  have hjnI : (j : Int) ≤ (n : Int) := by omega
  have hjcI : (j : Int) ≤ (cv : Int) := by omega
  obtain ⟨hp1, hp2⟩ := pre60 HR.out hn hjn
  obtain ⟨p2, cs, hq1, hq2, hq3⟩ := suf60 HR.out hn hjn
  have HPRE := Lib.hid hp1
  have HSUF := Lib.hid hq1
  have HS1 := Lib.hid hp2
  have HS2 := Lib.hid hq2
  have HGB := Lib.hid (show ∀ ad, p2 = some ad → ad.block < w1.heap.size from fun ad e => hq3.2 ad e)
  have HUS := Lib.hid (show lw = upTil t lw ++ past t lw from HP.out.1)
  clear hlw hn hj hp1 hp2 hq1 hq2 hq3
  go_loop [8] (fun vi => ∃ i : Nat, i ≤ j ∧ vi = .int .i64 (i : Int)) (fun vi => n - (intOf vi).toNat)
  case atStart => exact ⟨0, Nat.zero_le _, rfl⟩
  case round =>
    obtain ⟨i, hi, rfl⟩ := hrel
    by_cases hlt : i < n
    · have hltI : (i : Int) < (n : Int) := by omega
      obtain ⟨x, hx⟩ : ∃ x, lw[i]? = some x := ⟨lw[i]'(by have := HN.out; omega), List.getElem?_eq_getElem _⟩
      have hiff := HP.out.2 i x hx
      obtain ⟨e1, e2⟩ := rowsE_at hx
      obtain ⟨g, cap, hv, _, hg⟩ := HR.out.form (by omega)
      cases hv
      have c1 := HR.out.cells (g := g) rfl _ _ e2
      rw [Addr_add, Nat.zero_add] at c1
      obtain ⟨xk, xd, xo⟩ := x
      dsimp only at c1 hiff
      clear e1 e2 hx
      by_cases hij : i < j
      · have hdI : (xd : Int) ≤ (t : Int) := by have := hiff.1 hij; omega
        clear hiff
        go_wp2_with fail
        go_round
        case rel => exact ⟨i + 1, by omega, by go_num⟩
        case measure => simp [intOf]; omega
      · have hdI : ¬ (xd : Int) ≤ (t : Int) := by have := (not_congr hiff).1 hij; omega
        obtain rfl : i = j := by omega
        clear hiff
        have hpre := fun W' => HPRE.out W'
        have hsuf := fun W' => HSUF.out W'
        have ST := Stage.mk 1
        go_wp2_with (first
          | (at_builtin; have := (ST : Stage 1); clear this; refine append_src rfl _ _ rfl w1.heap.size (.slice none 0 0) 0 [] rfl (World.ownsRow_nil _ _ _ _) _ i cv (rowsE (lw.take i)) rfl HS1.out (rowsE_one _) (by omega) (Nat.le_refl _) ?_; intro q2 c2 w2 hr2 hg2; replace ST := Stage.mk 2; have HR2 := Lib.hid (show w2.ownsRow w1.heap.size 60 2 (.slice q2 i c2) i (rowsE (lw.take i)) from (by simpa using hr2)); have HB2 := Lib.hid ((Below.refl w1.heap.size w1).grown hg2 (Nat.le_refl _) (fun b e => by cases e)); have HN2 := Lib.hid (heap_alloc_new w2 (.cells #[.int .i64 k, .int .i64 (t : Int)] 60)); clear hr2 hg2)
          | (at_builtin; have := (ST : Stage 2); clear this; refine append_src rfl _ _ rfl w1.heap.size (.slice q2 i c2) i (rowsE (lw.take i)) rfl (HR2.out.alloc _) (some ⟨w2.heap.size, 0, none⟩) 1 1 [.int .i64 k, .int .i64 (t : Int)] rfl (.inr ⟨_, rfl, rfl, World.news_of_block HN2.out⟩) (by simp [Value.oneCell']) (by omega) (by have := HB2.out.size; simp; omega) ?_; intro q3 c3 w3 hr3 hg3; replace ST := Stage.mk 3; have HR3 := Lib.hid hr3; have HB3 := Lib.hid (app_below HB2.out HR2.out hg3); have HS3 := Lib.hid (HS2.out.kept (w' := w3) (fun ad e => HB3.out.block _ (HGB.out ad e))); clear hr3 hg3)
          | (at_builtin; have := (ST : Stage 3); clear this; refine append_src rfl _ _ rfl w1.heap.size (.slice q3 (i + 1) c3) (i + 1) _ rfl HR3.out p2 (n - i) cs (rowsE (lw.drop i)) rfl HS3.out (rowsE_one _) (by omega) HB3.out.size ?_; intro q4 c4 w4 hr4 hg4; replace ST := Stage.mk 4; have HR4 := Lib.hid hr4; have HB4 := Lib.hid (HB3.out.grown hg4 HB3.out.size (fun b e => (HR3.out.lt b e).1)); have hX4 := ((HB4.out.block X (by have := HB.out.size; omega)).trans (HB.out.block X hX)).trans HH.out.box; have c4x : w4.cell? ⟨X, 1, none⟩ = some (.slice A l.length c) := (by simp [World.cell?, hX4]); have f4x : w4.frozen? ⟨X, 1, none⟩ = false := (by simp [World.frozen?, hX4]); clear hr4 hg4 hX4))
        go_ret
        exact ⟨rfl, ref_put HH.out (HB.out.trans (HB4.out.mono HB.out.size)) (arm_row HARM.out HR4.out HB.out.size HN.out HJ.out hjn HUS.out).1 (arm_row HARM.out HR4.out HB.out.size HN.out HJ.out hjn HUS.out).2⟩
    · obtain rfl : i = j := by omega
      have hltI : ¬ (i : Int) < (n : Int) := by omega
      have hpre := fun W' => HPRE.out W'
      have hsuf := fun W' => HSUF.out W'
      have ST := Stage.mk 1
      go_wp2_with (first
        | (at_builtin; have := (ST : Stage 1); clear this; refine append_src rfl _ _ rfl w1.heap.size (.slice none 0 0) 0 [] rfl (World.ownsRow_nil _ _ _ _) _ i cv (rowsE (lw.take i)) rfl HS1.out (rowsE_one _) (by omega) (Nat.le_refl _) ?_; intro q2 c2 w2 hr2 hg2; replace ST := Stage.mk 2; have HR2 := Lib.hid (show w2.ownsRow w1.heap.size 60 2 (.slice q2 i c2) i (rowsE (lw.take i)) from (by simpa using hr2)); have HB2 := Lib.hid ((Below.refl w1.heap.size w1).grown hg2 (Nat.le_refl _) (fun b e => by cases e)); have HN2 := Lib.hid (heap_alloc_new w2 (.cells #[.int .i64 k, .int .i64 (t : Int)] 60)); clear hr2 hg2)
        | (at_builtin; have := (ST : Stage 2); clear this; refine append_src rfl _ _ rfl w1.heap.size (.slice q2 i c2) i (rowsE (lw.take i)) rfl (HR2.out.alloc _) (some ⟨w2.heap.size, 0, none⟩) 1 1 [.int .i64 k, .int .i64 (t : Int)] rfl (.inr ⟨_, rfl, rfl, World.news_of_block HN2.out⟩) (by simp [Value.oneCell']) (by omega) (by have := HB2.out.size; simp; omega) ?_; intro q3 c3 w3 hr3 hg3; replace ST := Stage.mk 3; have HR3 := Lib.hid hr3; have HB3 := Lib.hid (app_below HB2.out HR2.out hg3); have HS3 := Lib.hid (HS2.out.kept (w' := w3) (fun ad e => HB3.out.block _ (HGB.out ad e))); clear hr3 hg3)
        | (at_builtin; have := (ST : Stage 3); clear this; refine append_src rfl _ _ rfl w1.heap.size (.slice q3 (i + 1) c3) (i + 1) _ rfl HR3.out p2 (n - i) cs (rowsE (lw.drop i)) rfl HS3.out (rowsE_one _) (by omega) HB3.out.size ?_; intro q4 c4 w4 hr4 hg4; replace ST := Stage.mk 4; have HR4 := Lib.hid hr4; have HB4 := Lib.hid (HB3.out.grown hg4 HB3.out.size (fun b e => (HR3.out.lt b e).1)); have hX4 := ((HB4.out.block X (by have := HB.out.size; omega)).trans (HB.out.block X hX)).trans HH.out.box; have c4x : w4.cell? ⟨X, 1, none⟩ = some (.slice A l.length c) := (by simp [World.cell?, hX4]); have f4x : w4.frozen? ⟨X, 1, none⟩ = false := (by simp [World.frozen?, hX4]); clear hr4 hg4 hX4))
      go_ret
      exact ⟨rfl, ref_put HH.out (HB.out.trans (HB4.out.mono HB.out.size)) (arm_row HARM.out HR4.out HB.out.size HN.out HJ.out hjn HUS.out).1 (arm_row HARM.out HR4.out HB.out.size HN.out HJ.out hjn HUS.out).2⟩
end
end Go.Proofs.YtaeiaoldlebhaaaDoor
