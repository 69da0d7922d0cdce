import Derived.Test.YtbahcpejippcjaaDoorU4
namespace Go.Proofs.YtbahcpejippcjaaDoor
open Go.RowKit Go.Shelf Go.Maps

/-- Number k is served at an end. -/
def Has (f : Nat → Svc) (p : Int) (v : Nat) (q : Int) (k : Nat) : Prop := 1 ≤ k ∧ k ≤ 64 ∧ (f k).proto ≠ 0 ∧ (f k).proto = p ∧ (f k).vip = v ∧ (f k).port = q
structure Ends (g : Lit → Option Value) (f : Nat → Svc) : Prop where
  goes : ∀ k kl, 1 ≤ k → k ≤ 64 → (f k).proto ≠ 0 → keyOf Tryd.prog 83 (endV (f k).proto (f k).vip (f k).port) = some kl → g kl = some (.int .i64 (k : Int))
  comes : ∀ p v q kl x, keyOf Tryd.prog 83 (endV p v q) = some kl → g kl = some x → ∃ k, Has f p v q k ∧ x = .int .i64 (k : Int)
theorem Ends.nobody {g : Lit → Option Value} {f : Nat → Svc} (h : Ends g f) {p q : Int} {v : Nat} {kl : Lit} (hk : keyOf Tryd.prog 83 (endV p v q) = some kl) (hn : ∀ k, ¬ Has f p v q k) : g kl = none := by
  cases hg : g kl with
  | none => rfl
  | some x =>
    obtain ⟨k, h1, _⟩ := h.comes p v q kl x hk hg
    exact absurd h1 (hn k)
theorem Ends.somebody {g : Lit → Option Value} {f : Nat → Svc} (h : Ends g f) {p q : Int} {v k : Nat} {kl : Lit} (hk : keyOf Tryd.prog 83 (endV p v q) = some kl) (hh : Has f p v q k) : g kl = some (.int .i64 (k : Int)) := by
  obtain ⟨h1, h2, h3, h4, h5, h6⟩ := hh
  exact h.goes k kl h1 h2 h3 (by rw [h4, h5, h6]; exact hk)
theorem Ends.uniq {g : Lit → Option Value} {f : Nat → Svc} (h : Ends g f) {p q : Int} {v k j : Nat} {kl : Lit} (hk : keyOf Tryd.prog 83 (endV p v q) = some kl) (h1 : Has f p v q k) (h2 : Has f p v q j) : k = j := by
  have e1 := h.somebody hk h1
  have e2 := h.somebody hk h2
  rw [e1] at e2
  have e3 := congrArg intOf (Option.some.inj e2)
  simp [intOf] at e3
  omega
open Classical in
theorem Ends.add {g : Lit → Option Value} {f : Nat → Svc} (h : Ends g f) {s : Svc} {x : Nat} (h1 : 1 ≤ x) (h64 : x ≤ 64) (h0 : (f x).proto = 0) (hs : s.proto ≠ 0) {kl : Lit} (hk : keyOf Tryd.prog 83 (endV s.proto s.vip s.port) = some kl) (hn : ∀ k, ¬ Has f s.proto s.vip s.port k) :
    Ends (fun j => if j = kl then some (.int .i64 (x : Int)) else g j) (upd f x s) := by
  refine ⟨fun k kl' hk1 hk2 hk3 hk4 => ?_, fun p v q kl' y hk4 hy => ?_⟩
  · by_cases e : k = x
    · subst e
      rw [upd_same] at hk4
      have e2 := Option.some.inj (hk4.symm.trans hk)
      simp [e2]
    · rw [upd_other f s e] at hk3 hk4
      have hne : kl' ≠ kl := by
        rintro rfl
        obtain ⟨e1, e2, e3⟩ := end_inj hk4 hk
        exact hn k ⟨hk1, hk2, hk3, e1, e2, e3⟩
      simp only [if_neg hne]
      exact h.goes k kl' hk1 hk2 hk3 hk4
  · by_cases e : kl' = kl
    · subst e
      simp only [if_true] at hy
      obtain ⟨e1, e2, e3⟩ := end_inj hk4 hk
      refine ⟨x, ⟨h1, h64, ?_, ?_, ?_, ?_⟩, (Option.some.inj hy).symm⟩ <;> rw [upd_same]
      · exact hs
      · exact e1.symm
      · exact e2.symm
      · exact e3.symm
    · simp only [if_neg e] at hy
      obtain ⟨k, ⟨a1, a2, a3, a4, a5, a6⟩, b⟩ := h.comes p v q kl' y hk4 hy
      have hkx : k ≠ x := by rintro rfl; exact a3 h0
      exact ⟨k, ⟨a1, a2, by rw [upd_other f s hkx]; exact a3, by rw [upd_other f s hkx]; exact a4, by rw [upd_other f s hkx]; exact a5, by rw [upd_other f s hkx]; exact a6⟩, b⟩
open Classical in
theorem Ends.del {g : Lit → Option Value} {f : Nat → Svc} (h : Ends g f) {x : Nat} (h1 : 1 ≤ x) (h64 : x ≤ 64) (h0 : (f x).proto ≠ 0) {kl : Lit} (hk : keyOf Tryd.prog 83 (endV (f x).proto (f x).vip (f x).port) = some kl) :
    Ends (fun j => if j = kl then none else g j) (upd f x zeroS) := by
  refine ⟨fun k kl' hk1 hk2 hk3 hk4 => ?_, fun p v q kl' y hk4 hy => ?_⟩
  · by_cases e : k = x
    · subst e
      rw [upd_same] at hk3
      exact absurd rfl hk3
    · rw [upd_other f zeroS e] at hk3 hk4
      have hne : kl' ≠ kl := by
        rintro rfl
        obtain ⟨e1, e2, e3⟩ := end_inj hk4 hk
        exact e (h.uniq hk ⟨hk1, hk2, hk3, e1, e2, e3⟩ ⟨h1, h64, h0, rfl, rfl, rfl⟩)
      simp only [if_neg hne]
      exact h.goes k kl' hk1 hk2 hk3 hk4
  · by_cases e : kl' = kl
    · subst e
      simp at hy
    · simp only [if_neg e] at hy
      obtain ⟨k, ⟨a1, a2, a3, a4, a5, a6⟩, b⟩ := h.comes p v q kl' y hk4 hy
      have hkx : k ≠ x := by
        rintro rfl
        rw [a4, a5, a6, hk4] at hk
        exact e (Option.some.inj hk)
      exact ⟨k, ⟨a1, a2, by rw [upd_other f zeroS hkx]; exact a3, by rw [upd_other f zeroS hkx]; exact a4, by rw [upd_other f zeroS hkx]; exact a5, by rw [upd_other f zeroS hkx]; exact a6⟩, b⟩
theorem wf_i64 {n : Int} (h1 : -9223372036854775808 ≤ n) (h2 : n ≤ 9223372036854775807) : (Lit.int .i64 n).wf = true := by
  simp [Lit.wf, IntKind.min, IntKind.max, IntKind.signed, IntKind.bits]; omega
theorem wf_u32 {v : Nat} (h : v < 4294967296) : (Lit.int .u32 (v : Int)).wf = true := by
  simp [Lit.wf, IntKind.min, IntKind.max, IntKind.signed, IntKind.bits]; omega
theorem right_key {s : Svc} (h : rightB s = true) (ho : s.ok) : ∃ kl, keyOf Tryd.prog 83 (endV s.proto s.vip s.port) = some kl ∧ WideAt.IsKeyLit kl := by
  obtain ⟨hp, h1, h2, _⟩ := right_facts h
  exact end_key _ _ _ (wf_i64 (by omega) (by omega)) (wf_i64 (by omega) (by omega)) (wf_u32 ho.1)
/-- A table of services in memory. -/
structure SvcTab (N T M : Nat) (f : Nat → Svc) (W : World) : Prop where
  tab : TabM T M f W
  ne : T ≠ M
  map : ∃ n g, n ≤ N ∧ MapE M n g W ∧ Ends g f
  good : ∀ k, 1 ≤ k → k ≤ 64 → (f k).proto ≠ 0 → rightB (f k) = true ∧ (f k).ok
theorem SvcTab.kept {N T M : Nat} {f : Nat → Svc} {W W' : World} (h : SvcTab N T M f W) (hs : W.heap.size ≤ W'.heap.size) (hT : W'.heap[T]? = W.heap[T]?) (hM : W'.heap[M]? = W.heap[M]?) : SvcTab N T M f W' := by
  obtain ⟨n, g, h1, h2, h3⟩ := h.map
  exact ⟨h.tab.block hT hs, h.ne, ⟨n, g, h1, h2.block hM, h3⟩, h.good⟩
theorem SvcTab.lowM {N T M : Nat} {f : Nat → Svc} {W : World} (h : SvcTab N T M f W) : M < W.heap.size := by
  obtain ⟨n, g, _, h2, _⟩ := h.map
  exact h2.lt
theorem SvcTab.below {N T M : Nat} {f : Nat → Svc} {W W' : World} (h : SvcTab N T M f W) (hb : Below W.heap.size W W') : SvcTab N T M f W' :=
  h.kept hb.size (hb.block T h.tab.low) (hb.block M h.lowM)
theorem SvcTab.start {W : World} (h1 : TabM (W.heap.size + 1) W.heap.size (fun _ => zeroS) W) (h2 : MapE W.heap.size 0 (fun _ => none) W) : SvcTab 0 (W.heap.size + 1) W.heap.size (fun _ => zeroS) W :=
  ⟨h1, by omega, ⟨0, _, Nat.le_refl _, h2, ⟨fun k kl _ _ h => absurd rfl h, fun _ _ _ _ _ _ h => by cases h⟩⟩, fun k _ _ h => absurd rfl h⟩
theorem find_yes {N T M k : Nat} {f : Nat → Svc} {w : World} (h : SvcTab N T M f w) {p q : Int} {v : Nat} (hh : Has f p v q k) (hp : (Lit.int .i64 p).wf = true) (hq : (Lit.int .i64 q).wf = true) (hv : (Lit.int .u32 (v : Int)).wf = true) :
    Calls Tryd.prog 19 #[.pointer (some ⟨T, 0, none⟩), .int .i64 p, .int .u32 (v : Int), .int .i64 q] w fun e w' => e = .returned (.tuple #[.int .i64 (k : Int), .bool true]) ∧ Below w.heap.size w w' := by
  obtain ⟨kl, hk, hkl⟩ := end_key p q v hp hq hv
  obtain ⟨n, g, _, h2, h3⟩ := h.map
  exact find_is h.tab.ids h2 hk hkl (k : Int) true (by rw [h3.somebody hk hh]; exact ⟨rfl, rfl⟩)
theorem find_no {N T M : Nat} {f : Nat → Svc} {w : World} (h : SvcTab N T M f w) {p q : Int} {v : Nat} (hh : ∀ k, ¬ Has f p v q k) (hp : (Lit.int .i64 p).wf = true) (hq : (Lit.int .i64 q).wf = true) (hv : (Lit.int .u32 (v : Int)).wf = true) :
    Calls Tryd.prog 19 #[.pointer (some ⟨T, 0, none⟩), .int .i64 p, .int .u32 (v : Int), .int .i64 q] w fun e w' => e = .returned (.tuple #[.int .i64 0, .bool false]) ∧ Below w.heap.size w w' := by
  obtain ⟨kl, hk, hkl⟩ := end_key p q v hp hq hv
  obtain ⟨n, g, _, h2, h3⟩ := h.map
  exact find_is h.tab.ids h2 hk hkl 0 false (by rw [h3.nobody hk hh]; exact ⟨rfl, rfl⟩)
theorem tadd_bad {N T M : Nat} {f : Nat → Svc} {w : World} (h : SvcTab N T M f w) (s : Svc) (hw : (Lit.int .i64 s.proto).wf = true ∧ (Lit.int .i64 s.port).wf = true ∧ s.ok) (hr : rightB s = false) :
    Calls Tryd.prog 18 #[.pointer (some ⟨T, 0, none⟩), s.val] w fun e w' => e = .returned (.tuple #[.int .i64 0, .int .i64 1]) ∧ Below w.heap.size w w' := by
  obtain ⟨kl, hk, hkl⟩ := end_key _ _ _ hw.1 hw.2.1 (wf_u32 hw.2.2.1)
  obtain ⟨n, g, _, h2, h3⟩ := h.map
  exact add_bad h.tab h2 s hr hk hkl
theorem tadd_there {N T M k : Nat} {f : Nat → Svc} {w : World} (h : SvcTab N T M f w) (s : Svc) (ho : s.ok) (hr : rightB s = true) (hh : Has f s.proto s.vip s.port k) :
    Calls Tryd.prog 18 #[.pointer (some ⟨T, 0, none⟩), s.val] w fun e w' => e = .returned (.tuple #[.int .i64 0, .int .i64 20]) ∧ Below w.heap.size w w' := by
  obtain ⟨kl, hk, hkl⟩ := right_key hr ho
  obtain ⟨n, g, _, h2, h3⟩ := h.map
  exact add_there h.tab h2 s hr hk hkl (h3.somebody hk hh)
theorem tadd_full {N T M : Nat} {f : Nat → Svc} {w : World} (h : SvcTab N T M f w) (s : Svc) (ho : s.ok) (hr : rightB s = true) (hh : ∀ k, ¬ Has f s.proto s.vip s.port k) (hf : ∀ k, 1 ≤ k → k ≤ 64 → (f k).proto ≠ 0) :
    Calls Tryd.prog 18 #[.pointer (some ⟨T, 0, none⟩), s.val] w fun e w' => e = .returned (.tuple #[.int .i64 0, .int .i64 16]) ∧ Below w.heap.size w w' := by
  obtain ⟨kl, hk, hkl⟩ := right_key hr ho
  obtain ⟨n, g, _, h2, h3⟩ := h.map
  exact add_full h.tab h2 s hr (freeTo_nil hf) hk hkl (h3.nobody hk hh)
theorem right_proto {s : Svc} (h : rightB s = true) : s.proto ≠ 0 := by
  obtain ⟨hp, _⟩ := right_facts h
  omega
theorem tadd_ok {N T M y : Nat} {f : Nat → Svc} {w : World} (h : SvcTab N T M f w) (hN : N < 1000000) (s : Svc) (ho : s.ok) (hr : rightB s = true) (hh : ∀ k, ¬ Has f s.proto s.vip s.port k) (h1 : 1 ≤ y) (h64 : y ≤ 64) (h0 : (f y).proto = 0) (hlt : ∀ k, 1 ≤ k → k < y → (f k).proto ≠ 0) :
    Calls Tryd.prog 18 #[.pointer (some ⟨T, 0, none⟩), s.val] w fun e w' => e = .returned (.tuple #[.int .i64 (y : Int), .int .i64 0]) ∧ SvcTab (N + 1) T M (upd f y s) w' ∧ Two T M w w' := by
  obtain ⟨kl, hk, hkl⟩ := right_key hr ho
  obtain ⟨n, g, hn, h2, h3⟩ := h.map
  refine (add_ok h.tab h2 h.ne (by unfold maxLen; omega) s hr (freeTo_head h1 h64 h0 hlt) hk hkl (h3.nobody hk hh)).mono ?_
  rintro e w' ⟨he, hT, hM, hTb⟩
  refine ⟨he, ⟨hTb, h.ne, ⟨n + 1, _, by omega, hM, h3.add h1 h64 h0 (right_proto hr) hk hh⟩, fun k hk1 hk2 hk3 => ?_⟩, hT⟩
  by_cases e : k = y
  · subst e; rw [upd_same]; exact ⟨hr, ho⟩
  · rw [upd_other f s e] at hk3 ⊢; exact h.good k hk1 hk2 hk3
theorem trem_yes {N T M k : Nat} {f : Nat → Svc} {w : World} (h : SvcTab N T M f w) (h1 : 1 ≤ k) (h64 : k ≤ 64) (h0 : (f k).proto ≠ 0) :
    Calls Tryd.prog 20 #[.pointer (some ⟨T, 0, none⟩), .int .i64 (k : Int)] w fun e w' => e = .returned (.bool true) ∧ SvcTab N T M (upd f k zeroS) w' ∧ Two T M w w' := by
  obtain ⟨g1, g2⟩ := h.good k h1 h64 h0
  obtain ⟨kl, hk, hkl⟩ := right_key g1 g2
  obtain ⟨n, g, hn, h2, h3⟩ := h.map
  refine (remove_yes h.tab h2 h.ne h1 h64 h0 hk hkl).mono ?_
  rintro e w' ⟨he, hT, hM, hTb⟩
  refine ⟨he, ⟨hTb, h.ne, ⟨n, _, hn, hM, h3.del h1 h64 h0 hk⟩, fun j hk1 hk2 hk3 => ?_⟩, hT⟩
  by_cases e : j = k
  · subst e; rw [upd_same] at hk3; exact absurd rfl hk3
  · rw [upd_other f zeroS e] at hk3 ⊢; exact h.good j hk1 hk2 hk3
end Go.Proofs.YtbahcpejippcjaaDoor
