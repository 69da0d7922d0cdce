import Derived.Test.YtlipkffnllmkgaaB1
namespace Go.Proofs.Ytlipkffnllmkgaa

/-- f, but v at i. -/
def upd (f : Nat → Nat) (i v : Nat) : Nat → Nat := fun j => if j = i then v else f j
theorem upd_same (f : Nat → Nat) (i v : Nat) : upd f i v i = v := by simp [upd]
theorem upd_ne (f : Nat → Nat) {i j : Nat} (v : Nat) (h : j ≠ i) : upd f i v j = f j := by simp [upd, h]

/-- The four lists, the stack (the last one first), how many work. -/
structure Anc where
  room : Nat
  gone : Nat → Nat
  works : Nat → Nat
  at_ : Nat → Nat
  next : Nat → Nat
  stack : List Nat
  n : Nat

def full (room : Nat) : Anc := ⟨room, fun _ => 0, fun i => i, fun i => i, fun i => i, [], room⟩
/-- b is taken away. -/
def rem (a : Anc) (b : Nat) : Anc :=
  ⟨a.room, upd a.gone b (a.n - 1), upd a.works (a.at_ b) (a.works (a.n - 1)), upd a.at_ (a.works (a.n - 1)) (a.at_ b), upd a.next b (a.works (a.n - 1)), b :: a.stack, a.n - 1⟩
/-- The last one that went comes back. -/
def back (a : Anc) (b : Nat) : Anc :=
  ⟨a.room, upd a.gone b 0, upd a.works (upd a.at_ (a.works a.n) a.n b) b, upd a.at_ (a.works a.n) a.n, upd a.next b b, a.stack.tail, a.n + 1⟩

/-- From h one comes to r, going on where somebody had gone when m worked. -/
inductive Chain (a : Anc) (m : Nat) : Nat → Nat → Prop where
  | done (h : Nat) (hh : h < a.room) (hg : a.gone h < m) : Chain a m h h
  | step (h r : Nat) (hh : h < a.room) (hg : m ≤ a.gone h) (hd : a.gone (a.next h) < a.gone h) (hc : Chain a m (a.next h) r) : Chain a m h r

structure Inv (a : Anc) : Prop where
  pos : 1 ≤ a.n
  le : a.n ≤ a.room
  w1 : ∀ i, i < a.n → a.works i < a.room ∧ a.gone (a.works i) = 0 ∧ a.at_ (a.works i) = i
  w2 : ∀ b, b < a.room → a.gone b = 0 → a.at_ b < a.n ∧ a.works (a.at_ b) = b ∧ a.next b = b
  g1 : ∀ b, b < a.room → a.gone b ≠ 0 → a.n ≤ a.gone b ∧ a.gone b < a.room
  nx : ∀ b, b < a.room → a.next b < a.room ∧ a.at_ b < a.room
  wx : ∀ i, i < a.room → a.works i < a.room
  ch : ∀ m, a.n ≤ m → m ≤ a.room → ∀ p, p < m → ∃ r, Chain a m p r ∧ (m = a.n → r = a.works p)
  cnt : a.stack.length + a.n = a.room

theorem full_inv (room : Nat) (h : 1 ≤ room) : Inv (full room) where
  pos := h
  le := Nat.le_refl _
  w1 := fun i hi => ⟨hi, rfl, rfl⟩
  w2 := fun b hb _ => ⟨hb, rfl, rfl⟩
  g1 := fun b _ hg => (hg rfl).elim
  nx := fun b hb => ⟨hb, hb⟩
  wx := fun i hi => hi
  ch := fun m _ hm p hp => ⟨p, .done p (Nat.lt_of_lt_of_le hp hm) (Nat.lt_of_le_of_lt (Nat.zero_le _) hp), fun _ => rfl⟩
  cnt := by simp [full]

/-- What holds of a chain whose bound is above what has gone since: it is the same. -/
theorem chain_rem {a : Anc} {b : Nat} (hg : a.gone b = 0) (h2 : 2 ≤ a.n) {m h r : Nat} (hm : a.n ≤ m) (c : Chain a m h r) : Chain (rem a b) m h r := by
  induction c with
  | done h hh hgo =>
    refine .done h hh ?_
    by_cases e : h = b
    · subst e; show upd a.gone h (a.n - 1) h < m; rw [upd_same]; omega
    · show upd a.gone b (a.n - 1) h < m; rw [upd_ne _ _ e]; exact hgo
  | step h r hh hgo hd hc ih =>
    have e : h ≠ b := by rintro rfl; omega
    have e1 : (rem a b).gone h = a.gone h := upd_ne _ _ e
    have e2 : (rem a b).next h = a.next h := upd_ne _ _ e
    refine .step h r hh (by rw [e1]; exact hgo) ?_ (by rw [e2]; exact ih)
    rw [e1, e2]
    by_cases e3 : a.next h = b
    · rw [e3]; show upd a.gone b (a.n - 1) b < _; rw [upd_same]; omega
    · show upd a.gone b (a.n - 1) (a.next h) < _; rw [upd_ne _ _ e3]; exact hd

theorem Inv.last {a : Anc} (I : Inv a) : a.works (a.n - 1) < a.room ∧ a.gone (a.works (a.n - 1)) = 0 ∧ a.at_ (a.works (a.n - 1)) = a.n - 1 := I.w1 _ (by have := I.pos; omega)

/-- At the bound of those that work now a chain ends at who works at that place; one bound lower, when b has gone. -/
theorem chain_low {a : Anc} (I : Inv a) {b : Nat} (hb : b < a.room) (hg : a.gone b = 0) (h2 : 2 ≤ a.n) {p h r : Nat} (hp : p < a.n - 1) (hr : r = a.works p) (c : Chain a a.n h r) : Chain (rem a b) (a.n - 1) h ((rem a b).works p) := by
  obtain ⟨l1, l2, l3⟩ := I.last
  obtain ⟨q1, q2, q3⟩ := I.w2 b hb hg
  induction c with
  | done h hh hgo =>
    subst hr
    have hpn : p < a.n := by omega
    obtain ⟨w1, w2, w3⟩ := I.w1 p hpn
    by_cases e : a.works p = b
    · have hpb : a.at_ b = p := by rw [← e]; exact w3
      have e1 : (rem a b).works p = a.works (a.n - 1) := by show upd a.works (a.at_ b) _ p = _; rw [hpb, upd_same]
      have hne : a.works (a.n - 1) ≠ b := by intro e2; rw [e2, hpb] at l3; omega
      rw [e1, e]
      have e3 : (rem a b).gone b = a.n - 1 := upd_same _ _ _
      have e4 : (rem a b).next b = a.works (a.n - 1) := upd_same _ _ _
      have e5 : (rem a b).gone (a.works (a.n - 1)) = 0 := by show upd a.gone b _ _ = 0; rw [upd_ne _ _ hne]; exact l2
      refine .step b _ hb (by rw [e3]; exact Nat.le_refl _) (by rw [e4, e5, e3]; omega) ?_
      rw [e4]
      exact .done _ l1 (by rw [e5]; omega)
    · have hpb : p ≠ a.at_ b := by rintro rfl; exact e q2
      have e1 : (rem a b).works p = a.works p := upd_ne _ _ hpb
      rw [e1]
      refine .done _ hh ?_
      show upd a.gone b (a.n - 1) (a.works p) < _
      rw [upd_ne _ _ e, w2]
      omega
  | step h r hh hgo hd hc ih =>
    have e : h ≠ b := by rintro rfl; omega
    have e1 : (rem a b).gone h = a.gone h := upd_ne _ _ e
    have e2 : (rem a b).next h = a.next h := upd_ne _ _ e
    refine .step h _ hh (by rw [e1]; omega) ?_ (by rw [e2]; exact ih hr)
    rw [e1, e2]
    by_cases e3 : a.next h = b
    · rw [e3]; show upd a.gone b (a.n - 1) b < _; rw [upd_same]; omega
    · show upd a.gone b (a.n - 1) (a.next h) < _; rw [upd_ne _ _ e3]; exact hd

theorem rem_inv {a : Anc} (I : Inv a) {b : Nat} (hb : b < a.room) (hg : a.gone b = 0) (h2 : 2 ≤ a.n) : Inv (rem a b) := by
  obtain ⟨l1, l2, l3⟩ := I.last
  obtain ⟨q1, q2, q3⟩ := I.w2 b hb hg
  refine ⟨?_, ?_, ?_, ?_, ?_, ?_, ?_, ?_, ?_⟩
  · show 1 ≤ a.n - 1; omega
  · have := I.le; show a.n - 1 ≤ a.room; omega
  · intro i hi
    have hi : i < a.n - 1 := hi
    obtain ⟨w1, w2, w3⟩ := I.w1 i (by omega)
    by_cases e : i = a.at_ b
    · subst e
      have hne : a.works (a.n - 1) ≠ b := by intro e2; rw [e2] at l3; omega
      have e1 : (rem a b).works (a.at_ b) = a.works (a.n - 1) := upd_same _ _ _
      rw [e1]
      refine ⟨l1, ?_, upd_same _ _ _⟩
      show upd a.gone b _ _ = 0
      rw [upd_ne _ _ hne]; exact l2
    · have e1 : (rem a b).works i = a.works i := upd_ne _ _ e
      rw [e1]
      have hne : a.works i ≠ b := by intro e2; rw [e2] at w3; exact e w3.symm
      have hne2 : a.works i ≠ a.works (a.n - 1) := by intro e2; rw [e2, l3] at w3; omega
      refine ⟨w1, ?_, ?_⟩
      · show upd a.gone b _ _ = 0
        rw [upd_ne _ _ hne]; exact w2
      · show upd a.at_ _ _ _ = i
        rw [upd_ne _ _ hne2]; exact w3
  · intro c hc hgc
    have hcb : c ≠ b := by
      rintro rfl
      have : (rem a c).gone c = a.n - 1 := upd_same _ _ _
      omega
    have hgc' : a.gone c = 0 := by have : upd a.gone b (a.n - 1) c = 0 := hgc; rwa [upd_ne _ _ hcb] at this
    obtain ⟨r1, r2, r3⟩ := I.w2 c hc hgc'
    have e3 : (rem a b).next c = c := by show upd a.next b _ c = c; rw [upd_ne _ _ hcb]; exact r3
    by_cases e : c = a.works (a.n - 1)
    · subst e
      have e1 : (rem a b).at_ (a.works (a.n - 1)) = a.at_ b := upd_same _ _ _
      rw [e1]
      refine ⟨?_, upd_same _ _ _, e3⟩
      show a.at_ b < a.n - 1
      have : a.at_ b ≠ a.n - 1 := by intro e5; rw [e5] at q2; exact hcb q2
      omega
    · have e1 : (rem a b).at_ c = a.at_ c := upd_ne _ _ e
      rw [e1]
      have hne : a.at_ c ≠ a.n - 1 := by intro e5; rw [e5] at r2; exact e r2.symm
      have hne2 : a.at_ c ≠ a.at_ b := by intro e5; rw [e5, q2] at r2; exact hcb r2.symm
      refine ⟨by show a.at_ c < a.n - 1; omega, ?_, e3⟩
      show upd a.works _ _ _ = c
      rw [upd_ne _ _ hne2]; exact r2
  · intro c hc hgc
    by_cases e : c = b
    · subst e
      have e1 : (rem a c).gone c = a.n - 1 := upd_same _ _ _
      rw [e1]
      have := I.le
      exact ⟨Nat.le_refl _, by show a.n - 1 < a.room; omega⟩
    · have e1 : (rem a b).gone c = a.gone c := upd_ne _ _ e
      rw [e1] at hgc ⊢
      obtain ⟨g1, g2⟩ := I.g1 c hc hgc
      exact ⟨by show a.n - 1 ≤ _; omega, g2⟩
  · intro c hc
    obtain ⟨n1, n2⟩ := I.nx c hc
    have hab := (I.nx b hb).2
    refine ⟨?_, ?_⟩
    · by_cases e : c = b
      · subst e; show upd a.next c _ c < _; rw [upd_same]; exact l1
      · show upd a.next b _ c < _; rw [upd_ne _ _ e]; exact n1
    · by_cases e : c = a.works (a.n - 1)
      · subst e; show upd a.at_ _ _ _ < _; rw [upd_same]; exact hab
      · show upd a.at_ _ _ c < _; rw [upd_ne _ _ e]; exact n2
  · intro i hi
    by_cases e : i = a.at_ b
    · subst e; show upd a.works _ _ _ < _; rw [upd_same]; exact l1
    · show upd a.works _ _ i < _; rw [upd_ne _ _ e]; exact I.wx i hi
  · intro m hm hmr p hp
    have hm : a.n - 1 ≤ m := hm
    by_cases e : m = a.n - 1
    · subst e
      obtain ⟨r, hc, hr⟩ := I.ch a.n (Nat.le_refl _) I.le p (by omega)
      exact ⟨_, chain_low I hb hg h2 hp (hr rfl) hc, fun _ => rfl⟩
    · obtain ⟨r, hc, hr⟩ := I.ch m (by omega) hmr p hp
      exact ⟨r, chain_rem hg h2 (by omega) hc, fun e2 => (e e2).elim⟩
  · have := I.cnt
    show (b :: a.stack).length + (a.n - 1) = a.room
    simp
    omega

theorem back_rem {a : Anc} (I : Inv a) {b : Nat} (hb : b < a.room) (hg : a.gone b = 0) (h2 : 2 ≤ a.n) : back (rem a b) b = a := by
  obtain ⟨l1, l2, l3⟩ := I.last
  obtain ⟨q1, q2, q3⟩ := I.w2 b hb hg
  have ew : (rem a b).works (a.n - 1) = a.works (a.n - 1) := by
    show upd a.works _ _ _ = _
    by_cases e : a.n - 1 = a.at_ b
    · rw [← e, upd_same]
    · rw [upd_ne _ _ e]
  have ea : upd (rem a b).at_ ((rem a b).works (rem a b).n) (rem a b).n = a.at_ := by
    show upd (upd a.at_ (a.works (a.n - 1)) (a.at_ b)) ((rem a b).works (a.n - 1)) (a.n - 1) = a.at_
    rw [ew]
    funext j
    by_cases e : j = a.works (a.n - 1)
    · subst e; rw [upd_same]; exact l3.symm
    · rw [upd_ne _ _ e, upd_ne _ _ e]
  have e1 : back (rem a b) b = ⟨a.room, upd (rem a b).gone b 0, upd (rem a b).works (upd (rem a b).at_ ((rem a b).works (rem a b).n) (rem a b).n b) b, upd (rem a b).at_ ((rem a b).works (rem a b).n) (rem a b).n, upd (rem a b).next b b, a.stack, a.n - 1 + 1⟩ := rfl
  rw [e1, ea]
  have g : upd (rem a b).gone b 0 = a.gone := by
    funext j
    by_cases e : j = b
    · subst e; rw [upd_same]; exact hg.symm
    · rw [upd_ne _ _ e]; exact upd_ne _ _ e
  have wk : upd (rem a b).works (a.at_ b) b = a.works := by
    funext j
    by_cases e : j = a.at_ b
    · subst e; rw [upd_same]; exact q2.symm
    · rw [upd_ne _ _ e]; exact upd_ne _ _ e
  have nx : upd (rem a b).next b b = a.next := by
    funext j
    by_cases e : j = b
    · subst e; rw [upd_same]; exact q3.symm
    · rw [upd_ne _ _ e]; exact upd_ne _ _ e
  rw [g, wk, nx, show a.n - 1 + 1 = a.n from by omega]

/-- What comes about by taking away, one by one. -/
inductive Reach (room : Nat) : Anc → Prop where
  | full : Reach room (full room)
  | rem (a : Anc) (b : Nat) (h : Reach room a) (hb : b < a.room) (hg : a.gone b = 0) (h2 : 2 ≤ a.n) : Reach room (rem a b)
theorem Reach.inv {room : Nat} (hr : 1 ≤ room) {a : Anc} (h : Reach room a) : Inv a ∧ a.room = room := by
  induction h with
  | full => exact ⟨full_inv room hr, rfl⟩
  | rem a b h hb hg h2 ih => exact ⟨rem_inv ih.1 hb hg h2, ih.2⟩
theorem Reach.pop {room : Nat} (hr : 1 ≤ room) {a : Anc} (h : Reach room a) {b : Nat} {st : List Nat} (e : a.stack = b :: st) : Reach room (back a b) ∧ b < room ∧ a.gone b = a.n ∧ (back a b).gone b = 0 ∧ 2 ≤ (back a b).n ∧ Go.Proofs.Ytlipkffnllmkgaa.rem (back a b) b = a := by
  cases h with
  | full => simp [Go.Proofs.Ytlipkffnllmkgaa.full] at e
  | rem a0 c h hb hg h2 =>
    have e2 : c :: a0.stack = b :: st := e
    obtain rfl : c = b := (List.cons.inj e2).1
    obtain ⟨I, hroom⟩ := h.inv hr
    rw [back_rem I hb hg h2]
    exact ⟨h, by omega, upd_same _ _ _, hg, h2, rfl⟩

theorem Chain.fn {a : Anc} {m h r r' : Nat} (c : Chain a m h r) (c' : Chain a m h r') : r = r' := by
  induction c with
  | done h hh hg =>
    cases c' with
    | done => rfl
    | step _ _ _ hg' => omega
  | step h r hh hg hd hc ih =>
    cases c' with
    | done _ _ hg' => omega
    | step _ _ _ _ _ hc' => exact ih hc'
theorem Chain.low {a : Anc} {m h r : Nat} (c : Chain a m h r) : a.gone r < m ∧ r < a.room := by
  induction c with
  | done h hh hg => exact ⟨hg, hh⟩
  | step h r hh hg hd hc ih => exact ih

/-- Whose number a key draws below m. -/
def drawN (k b m : Nat) : Nat := mixN k b % m

/-- Who is told a key, from b on. -/
inductive Find (a : Anc) (k : Nat) : Nat → Nat → Prop where
  | done (b : Nat) (hb : b < a.room) (hg : a.gone b = 0) : Find a k b b
  | step (b c r : Nat) (hb : b < a.room) (hg : a.gone b ≠ 0) (hc : Chain a (a.gone b) (drawN k b (a.gone b)) c) (hf : Find a k c r) : Find a k b r
theorem Find.fn {a : Anc} {k b r r' : Nat} (c : Find a k b r) (c' : Find a k b r') : r = r' := by
  induction c with
  | done b hb hg =>
    cases c' with
    | done => rfl
    | step _ _ _ _ hg' => exact (hg' hg).elim
  | step b c r hb hg hc hf ih =>
    cases c' with
    | done _ _ hg' => exact (hg hg').elim
    | step _ _ _ _ _ hc' hf' => rw [← hc.fn hc'] at hf'; exact ih hf'
theorem Find.low {a : Anc} {k b r : Nat} (c : Find a k b r) : a.gone r = 0 ∧ r < a.room := by
  induction c with
  | done b hb hg => exact ⟨hg, hb⟩
  | step b c r hb hg hc hf ih => exact ih
theorem find_from {a : Anc} (I : Inv a) (k : Nat) : ∀ (d b : Nat), a.gone b ≤ d → b < a.room → ∃ r, Find a k b r := by
  intro d
  induction d with
  | zero => exact fun b hd hb => ⟨b, .done b hb (by omega)⟩
  | succ d ih =>
    intro b hd hb
    by_cases hg : a.gone b = 0
    · exact ⟨b, .done b hb hg⟩
    · obtain ⟨g1, g2⟩ := I.g1 b hb hg
      obtain ⟨c, hc, _⟩ := I.ch (a.gone b) g1 (by omega) (drawN k b (a.gone b)) (Nat.mod_lt _ (by omega))
      obtain ⟨c1, c2⟩ := hc.low
      obtain ⟨r, hr⟩ := ih c (by omega) c2
      exact ⟨r, .step b c r hb hg hc hr⟩
theorem find_all {a : Anc} (I : Inv a) (k : Nat) : ∃ r, Find a k (drawN k a.room a.room) r :=
  find_from I k _ _ (Nat.le_refl _) (Nat.mod_lt _ (by have := I.pos; have := I.le; omega))
/-- P12.4: who was not told b is told what it was. -/
theorem find_rem {a : Anc} (I : Inv a) {b : Nat} (hg : a.gone b = 0) (h2 : 2 ≤ a.n) {k c r : Nat} (f : Find a k c r) (hr : r ≠ b) : Find (rem a b) k c r := by
  induction f with
  | done c hc hgc =>
    refine .done c hc ?_
    show upd a.gone b _ c = 0
    rw [upd_ne _ _ hr]; exact hgc
  | step c e r hc hgc hch hf ih =>
    have hcb : c ≠ b := by rintro rfl; exact hgc hg
    have e1 : (rem a b).gone c = a.gone c := upd_ne _ _ hcb
    refine .step c e r hc (by rw [e1]; exact hgc) ?_ (ih hr)
    rw [e1]
    exact chain_rem hg h2 (I.g1 c hc hgc).1 hch
end Go.Proofs.Ytlipkffnllmkgaa
