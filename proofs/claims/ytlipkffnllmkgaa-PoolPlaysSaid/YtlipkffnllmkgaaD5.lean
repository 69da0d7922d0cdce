import Derived.Test.YtlipkffnllmkgaaB1
import Derived.Laws.AppendOwn
import Derived.OwnWalk
import Derived.Deep.Slices
import Derived.Deep.RegionWith
import Derived.BigRegion
import Derived.WalkSmall
import Derived.RangeFuncBox
import Derived.Deep.CutRange
import Derived.Deep.DeepMust
import Derived.RangeFuncKeeps
import Derived.RangeFuncWrites
import Derived.RangeFuncNested
import Derived.RangeFuncBound
import Derived.RangeFuncCalls
import Derived.RangeFuncLeaves
import Derived.Shelf.Abstract
import Derived.OwnWalkIn
import Derived.TacticsInMore
import Derived.LoopNIn
import Derived.LoopIn
namespace Go.Proofs.Ytlipkffnllmkgaa

/-- f, but v at i. -/
def upd (f : Nat → Nat) (i v : Nat) : Nat → Nat := fun j => if j = i then v else f j
theorem upd_same (f : Nat → Nat) (i v : Nat) : upd f i v i = v := by simp [upd]
theorem upd_ne (f : Nat → Nat) {i j : Nat} (v : Nat) (h : j ≠ i) : upd f i v j = f j := by simp [upd, h]

/-- The four lists, the stack (the last one first), how many work. -/
structure Anc where
  room : Nat
  gone : Nat → Nat
  works : Nat → Nat
  at_ : Nat → Nat
  next : Nat → Nat
  stack : List Nat
  n : Nat

def full (room : Nat) : Anc := ⟨room, fun _ => 0, fun i => i, fun i => i, fun i => i, [], room⟩
/-- b is taken away. -/
def rem (a : Anc) (b : Nat) : Anc :=
  ⟨a.room, upd a.gone b (a.n - 1), upd a.works (a.at_ b) (a.works (a.n - 1)), upd a.at_ (a.works (a.n - 1)) (a.at_ b), upd a.next b (a.works (a.n - 1)), b :: a.stack, a.n - 1⟩
/-- The last one that went comes back. -/
def back (a : Anc) (b : Nat) : Anc :=
  ⟨a.room, upd a.gone b 0, upd a.works (upd a.at_ (a.works a.n) a.n b) b, upd a.at_ (a.works a.n) a.n, upd a.next b b, a.stack.tail, a.n + 1⟩

/-- From h one comes to r, going on where somebody had gone when m worked. -/
inductive Chain (a : Anc) (m : Nat) : Nat → Nat → Prop where
  | done (h : Nat) (hh : h < a.room) (hg : a.gone h < m) : Chain a m h h
  | step (h r : Nat) (hh : h < a.room) (hg : m ≤ a.gone h) (hd : a.gone (a.next h) < a.gone h) (hc : Chain a m (a.next h) r) : Chain a m h r

structure Inv (a : Anc) : Prop where
  pos : 1 ≤ a.n
  le : a.n ≤ a.room
  w1 : ∀ i, i < a.n → a.works i < a.room ∧ a.gone (a.works i) = 0 ∧ a.at_ (a.works i) = i
  w2 : ∀ b, b < a.room → a.gone b = 0 → a.at_ b < a.n ∧ a.works (a.at_ b) = b ∧ a.next b = b
  g1 : ∀ b, b < a.room → a.gone b ≠ 0 → a.n ≤ a.gone b ∧ a.gone b < a.room
  nx : ∀ b, b < a.room → a.next b < a.room ∧ a.at_ b < a.room
  wx : ∀ i, i < a.room → a.works i < a.room
  ch : ∀ m, a.n ≤ m → m ≤ a.room → ∀ p, p < m → ∃ r, Chain a m p r ∧ (m = a.n → r = a.works p)
  cnt : a.stack.length + a.n = a.room

theorem full_inv (room : Nat) (h : 1 ≤ room) : Inv (full room) where
  pos := h
  le := Nat.le_refl _
  w1 := fun i hi => ⟨hi, rfl, rfl⟩
  w2 := fun b hb _ => ⟨hb, rfl, rfl⟩
  g1 := fun b _ hg => (hg rfl).elim
  nx := fun b hb => ⟨hb, hb⟩
  wx := fun i hi => hi
  ch := fun m _ hm p hp => ⟨p, .done p (Nat.lt_of_lt_of_le hp hm) (Nat.lt_of_le_of_lt (Nat.zero_le _) hp), fun _ => rfl⟩
  cnt := by simp [full]

/-- What holds of a chain whose bound is above what has gone since: it is the same. -/
theorem chain_rem {a : Anc} {b : Nat} (hg : a.gone b = 0) (h2 : 2 ≤ a.n) {m h r : Nat} (hm : a.n ≤ m) (c : Chain a m h r) : Chain (rem a b) m h r := by
  induction c with
  | done h hh hgo =>
    refine .done h hh ?_
    by_cases e : h = b
    · subst e; show upd a.gone h (a.n - 1) h < m; rw [upd_same]; omega
    · show upd a.gone b (a.n - 1) h < m; rw [upd_ne _ _ e]; exact hgo
  | step h r hh hgo hd hc ih =>
    have e : h ≠ b := by rintro rfl; omega
    have e1 : (rem a b).gone h = a.gone h := upd_ne _ _ e
    have e2 : (rem a b).next h = a.next h := upd_ne _ _ e
    refine .step h r hh (by rw [e1]; exact hgo) ?_ (by rw [e2]; exact ih)
    rw [e1, e2]
    by_cases e3 : a.next h = b
    · rw [e3]; show upd a.gone b (a.n - 1) b < _; rw [upd_same]; omega
    · show upd a.gone b (a.n - 1) (a.next h) < _; rw [upd_ne _ _ e3]; exact hd

theorem Inv.last {a : Anc} (I : Inv a) : a.works (a.n - 1) < a.room ∧ a.gone (a.works (a.n - 1)) = 0 ∧ a.at_ (a.works (a.n - 1)) = a.n - 1 := I.w1 _ (by have := I.pos; omega)

/-- At the bound of those that work now a chain ends at who works at that place; one bound lower, when b has gone. -/
theorem chain_low {a : Anc} (I : Inv a) {b : Nat} (hb : b < a.room) (hg : a.gone b = 0) (h2 : 2 ≤ a.n) {p h r : Nat} (hp : p < a.n - 1) (hr : r = a.works p) (c : Chain a a.n h r) : Chain (rem a b) (a.n - 1) h ((rem a b).works p) := by
  obtain ⟨l1, l2, l3⟩ := I.last
  obtain ⟨q1, q2, q3⟩ := I.w2 b hb hg
  induction c with
  | done h hh hgo =>
    subst hr
    have hpn : p < a.n := by omega
    obtain ⟨w1, w2, w3⟩ := I.w1 p hpn
    by_cases e : a.works p = b
    · have hpb : a.at_ b = p := by rw [← e]; exact w3
      have e1 : (rem a b).works p = a.works (a.n - 1) := by show upd a.works (a.at_ b) _ p = _; rw [hpb, upd_same]
      have hne : a.works (a.n - 1) ≠ b := by intro e2; rw [e2, hpb] at l3; omega
      rw [e1, e]
      have e3 : (rem a b).gone b = a.n - 1 := upd_same _ _ _
      have e4 : (rem a b).next b = a.works (a.n - 1) := upd_same _ _ _
      have e5 : (rem a b).gone (a.works (a.n - 1)) = 0 := by show upd a.gone b _ _ = 0; rw [upd_ne _ _ hne]; exact l2
      refine .step b _ hb (by rw [e3]; exact Nat.le_refl _) (by rw [e4, e5, e3]; omega) ?_
      rw [e4]
      exact .done _ l1 (by rw [e5]; omega)
    · have hpb : p ≠ a.at_ b := by rintro rfl; exact e q2
      have e1 : (rem a b).works p = a.works p := upd_ne _ _ hpb
      rw [e1]
      refine .done _ hh ?_
      show upd a.gone b (a.n - 1) (a.works p) < _
      rw [upd_ne _ _ e, w2]
      omega
  | step h r hh hgo hd hc ih =>
    have e : h ≠ b := by rintro rfl; omega
    have e1 : (rem a b).gone h = a.gone h := upd_ne _ _ e
    have e2 : (rem a b).next h = a.next h := upd_ne _ _ e
    refine .step h _ hh (by rw [e1]; omega) ?_ (by rw [e2]; exact ih hr)
    rw [e1, e2]
    by_cases e3 : a.next h = b
    · rw [e3]; show upd a.gone b (a.n - 1) b < _; rw [upd_same]; omega
    · show upd a.gone b (a.n - 1) (a.next h) < _; rw [upd_ne _ _ e3]; exact hd

theorem rem_inv {a : Anc} (I : Inv a) {b : Nat} (hb : b < a.room) (hg : a.gone b = 0) (h2 : 2 ≤ a.n) : Inv (rem a b) := by
  obtain ⟨l1, l2, l3⟩ := I.last
  obtain ⟨q1, q2, q3⟩ := I.w2 b hb hg
  refine ⟨?_, ?_, ?_, ?_, ?_, ?_, ?_, ?_, ?_⟩
  · show 1 ≤ a.n - 1; omega
  · have := I.le; show a.n - 1 ≤ a.room; omega
  · intro i hi
    have hi : i < a.n - 1 := hi
    obtain ⟨w1, w2, w3⟩ := I.w1 i (by omega)
    by_cases e : i = a.at_ b
    · subst e
      have hne : a.works (a.n - 1) ≠ b := by intro e2; rw [e2] at l3; omega
      have e1 : (rem a b).works (a.at_ b) = a.works (a.n - 1) := upd_same _ _ _
      rw [e1]
      refine ⟨l1, ?_, upd_same _ _ _⟩
      show upd a.gone b _ _ = 0
      rw [upd_ne _ _ hne]; exact l2
    · have e1 : (rem a b).works i = a.works i := upd_ne _ _ e
      rw [e1]
      have hne : a.works i ≠ b := by intro e2; rw [e2] at w3; exact e w3.symm
      have hne2 : a.works i ≠ a.works (a.n - 1) := by intro e2; rw [e2, l3] at w3; omega
      refine ⟨w1, ?_, ?_⟩
      · show upd a.gone b _ _ = 0
        rw [upd_ne _ _ hne]; exact w2
      · show upd a.at_ _ _ _ = i
        rw [upd_ne _ _ hne2]; exact w3
  · intro c hc hgc
    have hcb : c ≠ b := by
      rintro rfl
      have : (rem a c).gone c = a.n - 1 := upd_same _ _ _
      omega
    have hgc' : a.gone c = 0 := by have : upd a.gone b (a.n - 1) c = 0 := hgc; rwa [upd_ne _ _ hcb] at this
    obtain ⟨r1, r2, r3⟩ := I.w2 c hc hgc'
    have e3 : (rem a b).next c = c := by show upd a.next b _ c = c; rw [upd_ne _ _ hcb]; exact r3
    by_cases e : c = a.works (a.n - 1)
    · subst e
      have e1 : (rem a b).at_ (a.works (a.n - 1)) = a.at_ b := upd_same _ _ _
      rw [e1]
      refine ⟨?_, upd_same _ _ _, e3⟩
      show a.at_ b < a.n - 1
      have : a.at_ b ≠ a.n - 1 := by intro e5; rw [e5] at q2; exact hcb q2
      omega
    · have e1 : (rem a b).at_ c = a.at_ c := upd_ne _ _ e
      rw [e1]
      have hne : a.at_ c ≠ a.n - 1 := by intro e5; rw [e5] at r2; exact e r2.symm
      have hne2 : a.at_ c ≠ a.at_ b := by intro e5; rw [e5, q2] at r2; exact hcb r2.symm
      refine ⟨by show a.at_ c < a.n - 1; omega, ?_, e3⟩
      show upd a.works _ _ _ = c
      rw [upd_ne _ _ hne2]; exact r2
  · intro c hc hgc
    by_cases e : c = b
    · subst e
      have e1 : (rem a c).gone c = a.n - 1 := upd_same _ _ _
      rw [e1]
      have := I.le
      exact ⟨Nat.le_refl _, by show a.n - 1 < a.room; omega⟩
    · have e1 : (rem a b).gone c = a.gone c := upd_ne _ _ e
      rw [e1] at hgc ⊢
      obtain ⟨g1, g2⟩ := I.g1 c hc hgc
      exact ⟨by show a.n - 1 ≤ _; omega, g2⟩
  · intro c hc
    obtain ⟨n1, n2⟩ := I.nx c hc
    have hab := (I.nx b hb).2
    refine ⟨?_, ?_⟩
    · by_cases e : c = b
      · subst e; show upd a.next c _ c < _; rw [upd_same]; exact l1
      · show upd a.next b _ c < _; rw [upd_ne _ _ e]; exact n1
    · by_cases e : c = a.works (a.n - 1)
      · subst e; show upd a.at_ _ _ _ < _; rw [upd_same]; exact hab
      · show upd a.at_ _ _ c < _; rw [upd_ne _ _ e]; exact n2
  · intro i hi
    by_cases e : i = a.at_ b
    · subst e; show upd a.works _ _ _ < _; rw [upd_same]; exact l1
    · show upd a.works _ _ i < _; rw [upd_ne _ _ e]; exact I.wx i hi
  · intro m hm hmr p hp
    have hm : a.n - 1 ≤ m := hm
    by_cases e : m = a.n - 1
    · subst e
      obtain ⟨r, hc, hr⟩ := I.ch a.n (Nat.le_refl _) I.le p (by omega)
      exact ⟨_, chain_low I hb hg h2 hp (hr rfl) hc, fun _ => rfl⟩
    · obtain ⟨r, hc, hr⟩ := I.ch m (by omega) hmr p hp
      exact ⟨r, chain_rem hg h2 (by omega) hc, fun e2 => (e e2).elim⟩
  · have := I.cnt
    show (b :: a.stack).length + (a.n - 1) = a.room
    simp
    omega

theorem back_rem {a : Anc} (I : Inv a) {b : Nat} (hb : b < a.room) (hg : a.gone b = 0) (h2 : 2 ≤ a.n) : back (rem a b) b = a := by
  obtain ⟨l1, l2, l3⟩ := I.last
  obtain ⟨q1, q2, q3⟩ := I.w2 b hb hg
  have ew : (rem a b).works (a.n - 1) = a.works (a.n - 1) := by
    show upd a.works _ _ _ = _
    by_cases e : a.n - 1 = a.at_ b
    · rw [← e, upd_same]
    · rw [upd_ne _ _ e]
  have ea : upd (rem a b).at_ ((rem a b).works (rem a b).n) (rem a b).n = a.at_ := by
    show upd (upd a.at_ (a.works (a.n - 1)) (a.at_ b)) ((rem a b).works (a.n - 1)) (a.n - 1) = a.at_
    rw [ew]
    funext j
    by_cases e : j = a.works (a.n - 1)
    · subst e; rw [upd_same]; exact l3.symm
    · rw [upd_ne _ _ e, upd_ne _ _ e]
  have e1 : back (rem a b) b = ⟨a.room, upd (rem a b).gone b 0, upd (rem a b).works (upd (rem a b).at_ ((rem a b).works (rem a b).n) (rem a b).n b) b, upd (rem a b).at_ ((rem a b).works (rem a b).n) (rem a b).n, upd (rem a b).next b b, a.stack, a.n - 1 + 1⟩ := rfl
  rw [e1, ea]
  have g : upd (rem a b).gone b 0 = a.gone := by
    funext j
    by_cases e : j = b
    · subst e; rw [upd_same]; exact hg.symm
    · rw [upd_ne _ _ e]; exact upd_ne _ _ e
  have wk : upd (rem a b).works (a.at_ b) b = a.works := by
    funext j
    by_cases e : j = a.at_ b
    · subst e; rw [upd_same]; exact q2.symm
    · rw [upd_ne _ _ e]; exact upd_ne _ _ e
  have nx : upd (rem a b).next b b = a.next := by
    funext j
    by_cases e : j = b
    · subst e; rw [upd_same]; exact q3.symm
    · rw [upd_ne _ _ e]; exact upd_ne _ _ e
  rw [g, wk, nx, show a.n - 1 + 1 = a.n from by omega]

/-- What comes about by taking away, one by one. -/
inductive Reach (room : Nat) : Anc → Prop where
  | full : Reach room (full room)
  | rem (a : Anc) (b : Nat) (h : Reach room a) (hb : b < a.room) (hg : a.gone b = 0) (h2 : 2 ≤ a.n) : Reach room (rem a b)
theorem Reach.inv {room : Nat} (hr : 1 ≤ room) {a : Anc} (h : Reach room a) : Inv a ∧ a.room = room := by
  induction h with
  | full => exact ⟨full_inv room hr, rfl⟩
  | rem a b h hb hg h2 ih => exact ⟨rem_inv ih.1 hb hg h2, ih.2⟩
theorem Reach.pop {room : Nat} (hr : 1 ≤ room) {a : Anc} (h : Reach room a) {b : Nat} {st : List Nat} (e : a.stack = b :: st) : Reach room (back a b) ∧ b < room ∧ a.gone b = a.n ∧ (back a b).gone b = 0 ∧ 2 ≤ (back a b).n ∧ Go.Proofs.Ytlipkffnllmkgaa.rem (back a b) b = a := by
  cases h with
  | full => simp [Go.Proofs.Ytlipkffnllmkgaa.full] at e
  | rem a0 c h hb hg h2 =>
    have e2 : c :: a0.stack = b :: st := e
    obtain rfl : c = b := (List.cons.inj e2).1
    obtain ⟨I, hroom⟩ := h.inv hr
    rw [back_rem I hb hg h2]
    exact ⟨h, by omega, upd_same _ _ _, hg, h2, rfl⟩

theorem Chain.fn {a : Anc} {m h r r' : Nat} (c : Chain a m h r) (c' : Chain a m h r') : r = r' := by
  induction c with
  | done h hh hg =>
    cases c' with
    | done => rfl
    | step _ _ _ hg' => omega
  | step h r hh hg hd hc ih =>
    cases c' with
    | done _ _ hg' => omega
    | step _ _ _ _ _ hc' => exact ih hc'
theorem Chain.low {a : Anc} {m h r : Nat} (c : Chain a m h r) : a.gone r < m ∧ r < a.room := by
  induction c with
  | done h hh hg => exact ⟨hg, hh⟩
  | step h r hh hg hd hc ih => exact ih

/-- Whose number a key draws below m. -/
def drawN (k b m : Nat) : Nat := mixN k b % m

/-- Who is told a key, from b on. -/
inductive Find (a : Anc) (k : Nat) : Nat → Nat → Prop where
  | done (b : Nat) (hb : b < a.room) (hg : a.gone b = 0) : Find a k b b
  | step (b c r : Nat) (hb : b < a.room) (hg : a.gone b ≠ 0) (hc : Chain a (a.gone b) (drawN k b (a.gone b)) c) (hf : Find a k c r) : Find a k b r
theorem Find.fn {a : Anc} {k b r r' : Nat} (c : Find a k b r) (c' : Find a k b r') : r = r' := by
  induction c with
  | done b hb hg =>
    cases c' with
    | done => rfl
    | step _ _ _ _ hg' => exact (hg' hg).elim
  | step b c r hb hg hc hf ih =>
    cases c' with
    | done _ _ hg' => exact (hg hg').elim
    | step _ _ _ _ _ hc' hf' => rw [← hc.fn hc'] at hf'; exact ih hf'
theorem Find.low {a : Anc} {k b r : Nat} (c : Find a k b r) : a.gone r = 0 ∧ r < a.room := by
  induction c with
  | done b hb hg => exact ⟨hg, hb⟩
  | step b c r hb hg hc hf ih => exact ih
theorem find_from {a : Anc} (I : Inv a) (k : Nat) : ∀ (d b : Nat), a.gone b ≤ d → b < a.room → ∃ r, Find a k b r := by
  intro d
  induction d with
  | zero => exact fun b hd hb => ⟨b, .done b hb (by omega)⟩
  | succ d ih =>
    intro b hd hb
    by_cases hg : a.gone b = 0
    · exact ⟨b, .done b hb hg⟩
    · obtain ⟨g1, g2⟩ := I.g1 b hb hg
      obtain ⟨c, hc, _⟩ := I.ch (a.gone b) g1 (by omega) (drawN k b (a.gone b)) (Nat.mod_lt _ (by omega))
      obtain ⟨c1, c2⟩ := hc.low
      obtain ⟨r, hr⟩ := ih c (by omega) c2
      exact ⟨r, .step b c r hb hg hc hr⟩
theorem find_all {a : Anc} (I : Inv a) (k : Nat) : ∃ r, Find a k (drawN k a.room a.room) r :=
  find_from I k _ _ (Nat.le_refl _) (Nat.mod_lt _ (by have := I.pos; have := I.le; omega))
/-- P12.4: who was not told b is told what it was. -/
theorem find_rem {a : Anc} (I : Inv a) {b : Nat} (hg : a.gone b = 0) (h2 : 2 ≤ a.n) {k c r : Nat} (f : Find a k c r) (hr : r ≠ b) : Find (rem a b) k c r := by
  induction f with
  | done c hc hgc =>
    refine .done c hc ?_
    show upd a.gone b _ c = 0
    rw [upd_ne _ _ hr]; exact hgc
  | step c e r hc hgc hch hf ih =>
    have hcb : c ≠ b := by rintro rfl; exact hgc hg
    have e1 : (rem a b).gone c = a.gone c := upd_ne _ _ hcb
    refine .step c e r hc (by rw [e1]; exact hgc) ?_ (ih hr)
    rw [e1]
    exact chain_rem hg h2 (I.g1 c hc hgc).1 hch
end Go.Proofs.Ytlipkffnllmkgaa

namespace Go.Proofs.Ytlipkffnllmkgaa
open Go.RowKit

/-- The places lie in block L. -/
def Places (L : Nat) (a : Anc) (w : World) : Prop := ∀ i, i < a.room →
  (w.cell? ⟨L, i * 4, none⟩ = some (.int .i64 (a.gone i)) ∧ w.cell? ⟨L, i * 4 + 1, none⟩ = some (.int .i64 (a.works i)) ∧ w.cell? ⟨L, i * 4 + 2, none⟩ = some (.int .i64 (a.at_ i)) ∧ w.cell? ⟨L, i * 4 + 3, none⟩ = some (.int .i64 (a.next i))) ∧
  (w.frozen? ⟨L, i * 4, none⟩ = false ∧ w.frozen? ⟨L, i * 4 + 1, none⟩ = false ∧ w.frozen? ⟨L, i * 4 + 2, none⟩ = false ∧ w.frozen? ⟨L, i * 4 + 3, none⟩ = false)

theorem draw_calls (k b m : Nat) (w : World) (hb : b ≤ 65536) (hm : 0 < m) (hm2 : m ≤ 65536) :
    Calls Try.prog 50 #[.int .u64 (k : Int), .int .i64 (b : Int), .int .i64 (m : Int)] w fun e w' => e = .returned (.int .i64 (drawN k b m : Nat)) ∧ w' = w := by
  go_enter Try.func50, Try.ntmps50
  go_wp2_with (go_at_call 62; refine (mix_calls _ _ _).mono ?_; rintro e wx ⟨rfl, rfl⟩)
  go_ret
  refine ⟨?_, rfl⟩
  have e : wrap64 ((mixI k b).tmod (m : Int)) = ((drawN k b m : Nat) : Int) := by
    have h1 := Nat.mod_lt (mixN k b) hm
    rw [mixI_eq, Int.tmod_eq_emod_of_nonneg (by omega)]
    unfold drawN wrap64
    omega
  show Ending.returned (.int .i64 (wrap64 ((mixI k b).tmod (m : Int)))) = _
  rw [e]

set_option maxRecDepth 100000 in
set_option maxHeartbeats 1000000 in
theorem bucket_calls (X L : Nat) (a : Anc) (w : World) (k r : Nat) (I : Inv a) (hp : Places L a w) (hx : w.cell? ⟨X, 0, none⟩ = some (.slice (some ⟨L, 0, none⟩) a.room a.room)) (hr2 : a.room ≤ 65536) (hf : Find a k (drawN k a.room a.room) r) :
    Calls Try.prog 33 #[.pointer (some ⟨X, 0, none⟩), .int .u64 (k : Int)] w fun e w' => e = .returned (.int .i64 (r : Nat)) ∧ ∃ m, w' = w.drewN m := by
  have HP := Lib.hid hp
  have HF := Lib.hid hf
  have HI := Lib.hid I
  have hr : 0 < a.room := by have := I.pos; have := I.le; omega
  clear hp hf I
  go_enter Try.func33, Try.ntmps33
  go_wp2_with fail
  go_quiet ((go_at_call 50; exact Calls.quiet_of_same (draw_calls k a.room a.room _ (by omega) (by omega) (by omega))))
  go_wp2_with fail
  go_loop [5, 6, 7] (fun b _ _ => ∃ b' : Nat, b = .int .i64 (b' : Int) ∧ b' < a.room ∧ Find a k b' r) (fun b _ _ => a.gone (intOf b).toNat)
  case atStart => exact ⟨drawN k a.room a.room, rfl, Nat.mod_lt _ hr, HF.out⟩
  case round =>
    obtain ⟨b, rfl, hb, hf⟩ := hrel
    have HF := Lib.hid hf
    obtain ⟨⟨p0, p1, p2, p3⟩, _⟩ := HP.out b hb
    clear hf
    by_cases hg : a.gone b = 0
    · have hgi : ((a.gone b : Int) != 0) = false := by simp; omega
      go_wp2_with fail
      go_ret
      have hf := HF.out
      cases hf with
      | done => exact ⟨rfl, _, rfl⟩
      | step _ _ _ _ hgc => exact (hgc hg).elim
    · have hgi : ((a.gone b : Int) != 0) = true := by simp; omega
      have HG := Lib.hid hg
      have hgb := HI.out.g1 b hb hg
      have hm0 : 0 < a.gone b := by omega
      have hm1 : a.gone b < a.room := hgb.2
      obtain ⟨c, HC, HFc⟩ : ∃ c, Hid (Chain a (a.gone b) (drawN k b (a.gone b)) c) ∧ Hid (Find a k c r) := by
        have hf := HF.out
        cases hf with
        | done _ _ hgc => exact (hg hgc).elim
        | step _ c _ _ _ hc hf' => exact ⟨c, hc, hf'⟩
      have hd : drawN k b (a.gone b) < a.room := Nat.lt_trans (Nat.mod_lt _ hm0) hm1
      clear hg hgb
      go_wp2_with (go_at_call 50; refine (draw_calls k b (a.gone b) _ (by omega) (by omega) (by omega)).mono ?_; rintro e wx ⟨rfl, rfl⟩)
      go_loop [7] (fun h => ∃ h' : Nat, h = .int .i64 (h' : Int) ∧ h' < a.room ∧ Chain a (a.gone b) h' c) (fun h => a.gone (intOf h).toNat)
      case atStart => exact ⟨_, rfl, hd, HC.out⟩
      case round =>
        obtain ⟨h, rfl, hh, hc⟩ := hrel
        have HC := Lib.hid hc
        obtain ⟨⟨q0, q1, q2, q3⟩, _⟩ := HP.out h hh
        clear hc
        by_cases hlt : a.gone b ≤ a.gone h
        · have hlti : (a.gone b : Int) ≤ (a.gone h : Int) := by omega
          go_wp2_with fail
          go_round
          case rel =>
            have hc := HC.out
            cases hc with
            | done _ _ hg' => omega
            | step _ _ _ _ hd' hc' => exact ⟨_, rfl, (HI.out.nx h hh).1, hc'⟩
          case measure =>
            have hc := HC.out
            cases hc with
            | done _ _ hg' => omega
            | step _ _ _ _ hd' hc' => simpa [intOf] using hd'
        · have hlti : ¬ (a.gone b : Int) ≤ (a.gone h : Int) := by omega
          go_wp2_with fail
          go_round
          case rel =>
            have hc := HC.out
            cases hc with
            | done _ _ hg' => exact ⟨_, rfl, hh, HFc.out⟩
            | step _ _ _ hg' => omega
          case measure =>
            have hc := HC.out
            cases hc with
            | done _ _ hg' => simp [intOf]; omega
            | step _ _ _ hg' => omega
end Go.Proofs.Ytlipkffnllmkgaa

namespace Go.Proofs.Ytlipkffnllmkgaa
open Go.RowKit

/-- Only blocks X, L and a row have turned, and new ones. -/
structure Moves (X L : Nat) (row : Option Nat) (w w' : World) : Prop where
  os : w'.os = w.os
  tape : w'.tape = w.tape
  output : w'.output = w.output
  size : w.heap.size ≤ w'.heap.size
  block : ∀ i, i < w.heap.size → i ≠ X → i ≠ L → some i ≠ row → w'.heap[i]? = w.heap[i]?
theorem Moves.refl (X L : Nat) (row : Option Nat) (w : World) : Moves X L row w w := ⟨rfl, rfl, rfl, Nat.le_refl _, fun _ _ _ _ _ => rfl⟩
theorem Moves.trans {X L : Nat} {row : Option Nat} {a b c : World} (h : Moves X L row a b) (k : Moves X L row b c) : Moves X L row a c :=
  ⟨k.os.trans h.os, k.tape.trans h.tape, k.output.trans h.output, Nat.le_trans h.size k.size, fun i hi h1 h2 h3 => (k.block i (Nat.lt_of_lt_of_le hi h.size) h1 h2 h3).trans (h.block i hi h1 h2 h3)⟩
theorem Moves.drewN {X L : Nat} {row : Option Nat} {a b : World} (h : Moves X L row a b) (n : Nat) : Moves X L row a (b.drewN n) := ⟨h.os, h.tape, h.output, h.size, h.block⟩
theorem Moves.drew {X L : Nat} {row : Option Nat} {a b : World} (h : Moves X L row a b) : Moves X L row a b.drew := ⟨h.os, h.tape, h.output, h.size, h.block⟩
theorem Moves.setCell {X L : Nat} {row : Option Nat} {a b : World} (h : Moves X L row a b) {p : Addr} (hp : p.block = X ∨ p.block = L) (v : Value) : Moves X L row a (b.setCell p v) :=
  ⟨h.os, h.tape, h.output, by simpa [World.setCell] using h.size, fun i hi h1 h2 h3 => (Below.heap_setCell b p v i (by rintro rfl; rcases hp with hp | hp; exact h1 hp; exact h2 hp)).trans (h.block i hi h1 h2 h3)⟩
theorem Moves.alloc {X L : Nat} {row : Option Nat} {a b : World} (h : Moves X L row a b) (o : Obj) : Moves X L row a (b.alloc o) :=
  ⟨h.os, h.tape, h.output, Nat.le_trans h.size (by simp), fun i hi h1 h2 h3 => (Below.heap_alloc b o i (Nat.lt_of_lt_of_le hi h.size)).trans (h.block i hi h1 h2 h3)⟩
theorem Moves.grown {X L : Nat} {row : Option Nat} {a b c : World} (h : Moves X L row a b) (k : b.grownBy c row) : Moves X L row a c :=
  ⟨k.os.trans h.os, k.tape.trans h.tape, k.output.trans h.output, Nat.le_trans h.size k.size, fun i hi h1 h2 h3 => (k.block i (Nat.lt_of_lt_of_le hi h.size) h3).trans (h.block i hi h1 h2 h3)⟩

theorem cell_set_ne {w : World} {L i j : Nat} {v : Value} {x : Option Value} (h : w.cell? ⟨L, j, none⟩ = x) (e : i ≠ j) : (w.setCell ⟨L, i, none⟩ v).cell? ⟨L, j, none⟩ = x := by
  rw [World.cell?_setCell_other _ _ _ _ (by intro h; injection h; omega)]; exact h
theorem cell_set_eq {w : World} {L i : Nat} {v : Value} {x : Value} (h : w.cell? ⟨L, i, none⟩ = some x) : (w.setCell ⟨L, i, none⟩ v).cell? ⟨L, i, none⟩ = some v := World.cell?_setCell_same' _ _ _ (by rw [h]; rfl)
theorem cell_set_far {w : World} {L X i j : Nat} {v : Value} {x : Option Value} (h : w.cell? ⟨L, j, none⟩ = x) (e : X ≠ L) : (w.setCell ⟨X, i, none⟩ v).cell? ⟨L, j, none⟩ = x := by
  rw [World.cell?_setCell_other _ _ _ _ (by intro h; injection h; omega)]; exact h

theorem Places.set0 {L : Nat} {a : Anc} {w : World} (h : Places L a w) (i : Nat) (hi : i < a.room) (v : Nat) : Places L { a with gone := upd a.gone i v } (w.setCell ⟨L, i * 4, none⟩ (.int .i64 v)) := by
  intro j hj
  obtain ⟨⟨c0, c1, c2, c3⟩, f0, f1, f2, f3⟩ := h j hj
  refine ⟨⟨?_, cell_set_ne c1 (by omega), cell_set_ne c2 (by omega), cell_set_ne c3 (by omega)⟩, by rw [World.frozen?_setCell]; exact f0, by rw [World.frozen?_setCell]; exact f1, by rw [World.frozen?_setCell]; exact f2, by rw [World.frozen?_setCell]; exact f3⟩
  by_cases e : j = i
  · subst e; dsimp only; rw [upd_same]; exact cell_set_eq c0
  · dsimp only; rw [upd_ne _ _ e]; exact cell_set_ne c0 (by omega)
theorem Places.set1 {L : Nat} {a : Anc} {w : World} (h : Places L a w) (i : Nat) (hi : i < a.room) (v : Nat) : Places L { a with works := upd a.works i v } (w.setCell ⟨L, i * 4 + 1, none⟩ (.int .i64 v)) := by
  intro j hj
  obtain ⟨⟨c0, c1, c2, c3⟩, f0, f1, f2, f3⟩ := h j hj
  refine ⟨⟨cell_set_ne c0 (by omega), ?_, cell_set_ne c2 (by omega), cell_set_ne c3 (by omega)⟩, by rw [World.frozen?_setCell]; exact f0, by rw [World.frozen?_setCell]; exact f1, by rw [World.frozen?_setCell]; exact f2, by rw [World.frozen?_setCell]; exact f3⟩
  by_cases e : j = i
  · subst e; dsimp only; rw [upd_same]; exact cell_set_eq c1
  · dsimp only; rw [upd_ne _ _ e]; exact cell_set_ne c1 (by omega)
theorem Places.set2 {L : Nat} {a : Anc} {w : World} (h : Places L a w) (i : Nat) (hi : i < a.room) (v : Nat) : Places L { a with at_ := upd a.at_ i v } (w.setCell ⟨L, i * 4 + 2, none⟩ (.int .i64 v)) := by
  intro j hj
  obtain ⟨⟨c0, c1, c2, c3⟩, f0, f1, f2, f3⟩ := h j hj
  refine ⟨⟨cell_set_ne c0 (by omega), cell_set_ne c1 (by omega), ?_, cell_set_ne c3 (by omega)⟩, by rw [World.frozen?_setCell]; exact f0, by rw [World.frozen?_setCell]; exact f1, by rw [World.frozen?_setCell]; exact f2, by rw [World.frozen?_setCell]; exact f3⟩
  by_cases e : j = i
  · subst e; dsimp only; rw [upd_same]; exact cell_set_eq c2
  · dsimp only; rw [upd_ne _ _ e]; exact cell_set_ne c2 (by omega)
theorem Places.set3 {L : Nat} {a : Anc} {w : World} (h : Places L a w) (i : Nat) (hi : i < a.room) (v : Nat) : Places L { a with next := upd a.next i v } (w.setCell ⟨L, i * 4 + 3, none⟩ (.int .i64 v)) := by
  intro j hj
  obtain ⟨⟨c0, c1, c2, c3⟩, f0, f1, f2, f3⟩ := h j hj
  refine ⟨⟨cell_set_ne c0 (by omega), cell_set_ne c1 (by omega), cell_set_ne c2 (by omega), ?_⟩, by rw [World.frozen?_setCell]; exact f0, by rw [World.frozen?_setCell]; exact f1, by rw [World.frozen?_setCell]; exact f2, by rw [World.frozen?_setCell]; exact f3⟩
  by_cases e : j = i
  · subst e; dsimp only; rw [upd_same]; exact cell_set_eq c3
  · dsimp only; rw [upd_ne _ _ e]; exact cell_set_ne c3 (by omega)
theorem Places.block {L : Nat} {a : Anc} {w w' : World} (h : Places L a w) (e : w'.heap[L]? = w.heap[L]?) : Places L a w' := by
  intro j hj
  obtain ⟨⟨c0, c1, c2, c3⟩, f0, f1, f2, f3⟩ := h j hj
  have ec : ∀ o, w'.cell? ⟨L, o, none⟩ = w.cell? ⟨L, o, none⟩ := fun o => World.cell?_of_block (w := w) e
  have ef : ∀ o, w'.frozen? ⟨L, o, none⟩ = w.frozen? ⟨L, o, none⟩ := fun o => World.frozen?_of_block (w := w) e
  exact ⟨⟨(ec _).trans c0, (ec _).trans c1, (ec _).trans c2, (ec _).trans c3⟩, (ef _).trans f0, (ef _).trans f1, (ef _).trans f2, (ef _).trans f3⟩

/-- The three fields of an anchor. -/
def Fields (X L : Nat) (room n : Nat) (sv : Value) (w : World) : Prop :=
  w.cell? ⟨X, 0, none⟩ = some (.slice (some ⟨L, 0, none⟩) room room) ∧ w.cell? ⟨X, 1, none⟩ = some sv ∧ w.cell? ⟨X, 2, none⟩ = some (.int .i64 (n : Int)) ∧
  w.frozen? ⟨X, 0, none⟩ = false ∧ w.frozen? ⟨X, 1, none⟩ = false ∧ w.frozen? ⟨X, 2, none⟩ = false
theorem Fields.block {X L room n : Nat} {sv : Value} {w w' : World} (h : Fields X L room n sv w) (e : w'.heap[X]? = w.heap[X]?) : Fields X L room n sv w' := by
  obtain ⟨c0, c1, c2, f0, f1, f2⟩ := h
  have ec : ∀ o, w'.cell? ⟨X, o, none⟩ = w.cell? ⟨X, o, none⟩ := fun o => World.cell?_of_block (w := w) e
  have ef : ∀ o, w'.frozen? ⟨X, o, none⟩ = w.frozen? ⟨X, o, none⟩ := fun o => World.frozen?_of_block (w := w) e
  exact ⟨(ec _).trans c0, (ec _).trans c1, (ec _).trans c2, (ef _).trans f0, (ef _).trans f1, (ef _).trans f2⟩
def ints (l : List Nat) : List Value := l.map fun (b : Nat) => .int .i64 (b : Int)

/-- An anchor lies in memory. -/
structure AncAt (X L base : Nat) (sv : Value) (a : Anc) (w : World) : Prop where
  fields : Fields X L a.room a.n sv w
  places : Places L a w
  own : w.ownsRow base 3 1 sv a.stack.length (ints a.stack.reverse)
  hX : X < base
  hL : L < base
  hXL : X ≠ L
  hb : base ≤ w.heap.size

theorem info3 : (Try.prog.info? 3).map (fun i => (i.zero, i.size, i.bytes)) = some (some (.int .i64 0), 1, 8) := by kernel_rfl

theorem remove_none (X L base : Nat) (sv : Value) (a : Anc) (w : World) (b : Int) (h : AncAt X L base sv a w) (hb : b < 0 ∨ (a.room : Int) ≤ b ∨ a.gone b.toNat ≠ 0) :
    Calls Try.prog 45 #[.pointer (some ⟨X, 0, none⟩), .int .i64 b] w fun e w' => e = .returned (.int .i64 19) ∧ w' = w := by
  obtain ⟨⟨c0, c1, c2, f0, f1, f2⟩, hp, _, _, _, _, _⟩ := h
  by_cases h1 : b < 0
  · clear hb
    go_enter Try.func45, Try.ntmps45
    go_wp2
    go_ret
    exact ⟨rfl, rfl⟩
  · by_cases h2 : (a.room : Int) ≤ b
    · clear hb
      go_enter Try.func45, Try.ntmps45
      go_wp2
      go_ret
      exact ⟨rfl, rfl⟩
    · obtain ⟨i, rfl⟩ := Int.eq_ofNat_of_zero_le (by omega : 0 ≤ b)
      have hi : i < a.room := by omega
      have hg : a.gone i ≠ 0 := by rcases hb with hb | hb | hb <;> first | omega | simpa using hb
      obtain ⟨⟨p0, p1, p2, p3⟩, _⟩ := hp i hi
      have hgi : ((a.gone i : Int) != 0) = true := by simp; omega
      clear hb hp hg
      go_enter Try.func45, Try.ntmps45
      go_wp2
      go_ret
      exact ⟨rfl, rfl⟩

theorem remove_state (X L base : Nat) (sv : Value) (a : Anc) (w : World) (b : Nat) (h : AncAt X L base sv a w) (hb : b < a.room) (hg : a.gone b = 0) (hn : a.n = 1) :
    Calls Try.prog 45 #[.pointer (some ⟨X, 0, none⟩), .int .i64 (b : Int)] w fun e w' => e = .returned (.int .i64 15) ∧ w' = w := by
  obtain ⟨⟨c0, c1, c2, f0, f1, f2⟩, hp, _, _, _, _, _⟩ := h
  obtain ⟨⟨p0, p1, p2, p3⟩, _⟩ := hp b hb
  rw [hn] at c2
  rw [hg] at p0
  clear hp hn hg
  go_enter Try.func45, Try.ntmps45
  go_wp2
  go_ret
  exact ⟨rfl, rfl⟩

/-- An anchor in memory has become a'. -/
def Became (X L base : Nat) (sv : Value) (a' : Anc) (w w' : World) : Prop := ∃ sv', AncAt X L base sv' a' w' ∧ Moves X L sv.ownBlock w w'

theorem Fields.far {X L L' room n o : Nat} {sv : Value} {w : World} (h : Fields X L room n sv w) (e : X ≠ L') (v : Value) : Fields X L room n sv (w.setCell ⟨L', o, none⟩ v) :=
  h.block (Below.heap_setCell w ⟨L', o, none⟩ v X e)
theorem AncAt.far {X L base : Nat} {sv : Value} {a : Anc} {w : World} (h : AncAt X L base sv a w) {o : Nat} {v : Value} {a' : Anc} (hp : Places L a' (w.setCell ⟨L, o, none⟩ v)) (h1 : a'.room = a.room) (h2 : a'.n = a.n) (h3 : a'.stack = a.stack) : AncAt X L base sv a' (w.setCell ⟨L, o, none⟩ v) :=
  ⟨by rw [h1, h2]; exact h.fields.far h.hXL v, hp, by rw [h3]; exact ownsRow_setCell_below h.own (a := ⟨L, o, none⟩) h.hL v, h.hX, h.hL, h.hXL, by simpa [World.setCell] using h.hb⟩
theorem AncAt.set0 {X L base : Nat} {sv : Value} {a : Anc} {w : World} (h : AncAt X L base sv a w) (i : Nat) (hi : i < a.room) (v : Nat) : AncAt X L base sv { a with gone := upd a.gone i v } (w.setCell ⟨L, i * 4, none⟩ (.int .i64 v)) := h.far (h.places.set0 i hi v) rfl rfl rfl
theorem AncAt.set1 {X L base : Nat} {sv : Value} {a : Anc} {w : World} (h : AncAt X L base sv a w) (i : Nat) (hi : i < a.room) (v : Nat) : AncAt X L base sv { a with works := upd a.works i v } (w.setCell ⟨L, i * 4 + 1, none⟩ (.int .i64 v)) := h.far (h.places.set1 i hi v) rfl rfl rfl
theorem AncAt.set2 {X L base : Nat} {sv : Value} {a : Anc} {w : World} (h : AncAt X L base sv a w) (i : Nat) (hi : i < a.room) (v : Nat) : AncAt X L base sv { a with at_ := upd a.at_ i v } (w.setCell ⟨L, i * 4 + 2, none⟩ (.int .i64 v)) := h.far (h.places.set2 i hi v) rfl rfl rfl
theorem AncAt.set3 {X L base : Nat} {sv : Value} {a : Anc} {w : World} (h : AncAt X L base sv a w) (i : Nat) (hi : i < a.room) (v : Nat) : AncAt X L base sv { a with next := upd a.next i v } (w.setCell ⟨L, i * 4 + 3, none⟩ (.int .i64 v)) := h.far (h.places.set3 i hi v) rfl rfl rfl
theorem AncAt.drewN {X L base : Nat} {sv : Value} {a : Anc} {w : World} (h : AncAt X L base sv a w) (n : Nat) : AncAt X L base sv a (w.drewN n) := ⟨h.fields, h.places, h.own, h.hX, h.hL, h.hXL, h.hb⟩
theorem AncAt.drew {X L base : Nat} {sv : Value} {a : Anc} {w : World} (h : AncAt X L base sv a w) : AncAt X L base sv a w.drew := ⟨h.fields, h.places, h.own, h.hX, h.hL, h.hXL, h.hb⟩
def Mid (X L base : Nat) (sv sv' : Value) (a' : Anc) (w w' : World) : Prop := AncAt X L base sv' a' w' ∧ Moves X L sv.ownBlock w w'

set_option maxRecDepth 100000 in
set_option maxHeartbeats 4000000 in
theorem remove_ok (X L base : Nat) (sv : Value) (a : Anc) (w : World) (b : Nat) (h : AncAt X L base sv a w) (I : Inv a) (hb : b < a.room) (hr2 : a.room ≤ 65536) (hg : a.gone b = 0) (m : Nat) (hn : a.n = m + 1) (hm : 1 ≤ m) :
    Calls Try.prog 45 #[.pointer (some ⟨X, 0, none⟩), .int .i64 (b : Int)] w fun e w' => e = .returned (.int .i64 0) ∧ Became X L base sv (rem a b) w w' := by
  obtain ⟨i0, hi, hz0, hz1, hz2⟩ := info_parts info3
  obtain ⟨⟨c0, c1, c2, f0, f1, f2⟩, hp, hown, hX, hL, hXL, hbs⟩ := h
  obtain ⟨⟨p0, p1, p2, p3⟩, _⟩ := hp b hb
  rw [hn] at c2
  have hn1 : ((m : Int) + 1 == 1) = false := by simp; omega
  have hn2 : (((m + 1 : Nat) : Int) == 1) = false := by simp; omega
  have hstk : a.stack.length ≤ 65536 := by have := I.cnt; omega
  have hle := I.le
  rw [hg] at p0
  have HP := Lib.hid hp
  have HI := Lib.hid I
  have HG := Lib.hid hg
  clear hp I hg
  have hF1 : Fields X L a.room m sv ((w.setCell ⟨X, 2, none⟩ (.int .i64 (m : Int))).alloc (.cells #[.int .i64 (b : Int)] 3)) := by
    have e : ((m + 1 : Nat) : Int) = (m : Int) + 1 := by omega
    have hF0 : Fields X L a.room m sv (w.setCell ⟨X, 2, none⟩ (.int .i64 (m : Int))) :=
      ⟨cell_set_ne c0 (by omega), cell_set_ne c1 (by omega), cell_set_eq c2, by rw [World.frozen?_setCell]; exact f0, by rw [World.frozen?_setCell]; exact f1, by rw [World.frozen?_setCell]; exact f2⟩
    exact hF0.block (Below.heap_alloc _ _ _ (by simp [World.setCell]; omega))
  have hP1 : Places L a ((w.setCell ⟨X, 2, none⟩ (.int .i64 (m : Int))).alloc (.cells #[.int .i64 (b : Int)] 3)) :=
    (HP.out.block (Below.heap_setCell w ⟨X, 2, none⟩ _ L (by simp; omega))).block (Below.heap_alloc _ _ _ (by simp [World.setCell]; omega))
  have hO1 : ((w.setCell ⟨X, 2, none⟩ (.int .i64 (m : Int))).alloc (.cells #[.int .i64 (b : Int)] 3)).ownsRow base 3 1 sv a.stack.length (ints a.stack.reverse) :=
    (ownsRow_setCell_below hown (a := ⟨X, 2, none⟩) hX _).alloc _
  have hM1 : Moves X L sv.ownBlock w ((w.setCell ⟨X, 2, none⟩ (.int .i64 (m : Int))).alloc (.cells #[.int .i64 (b : Int)] 3)) :=
    ((Moves.refl X L sv.ownBlock w).setCell (p := ⟨X, 2, none⟩) (.inl rfl) _).alloc _
  have hN1 : ∀ (j : Nat) (u : Value), [Value.int .i64 (b : Int)][j]? = some u → ((w.setCell ⟨X, 2, none⟩ (.int .i64 (m : Int))).alloc (.cells #[.int .i64 (b : Int)] 3)).cell? ((⟨w.heap.size, 0, none⟩ : Addr).add j) = some u := by
    intro j u hj
    rcases j with _ | j
    · simp at hj
      subst hj
      simp [Addr.add, go_sem, World.setCell]
    · simp at hj
  have hS1 : base ≤ ((w.setCell ⟨X, 2, none⟩ (.int .i64 (m : Int))).alloc (.cells #[.int .i64 (b : Int)] 3)).heap.size := by simp [World.setCell]; omega
  have HF1 := Lib.hid hF1
  have HP1 := Lib.hid hP1
  have HO1 := Lib.hid hO1
  have HM1 := Lib.hid hM1
  have HN1 := Lib.hid hN1
  have HS1 := Lib.hid hS1
  have HROW := Lib.hid hown.lt
  clear hF1 hP1 hO1 hM1 hN1 hS1 hown HP
  go_enter Try.func45, Try.ntmps45
  go_wp2_with (at_builtin; go_must (refine wpList_append_own _ rfl _ _ 44 rfl base 3 i0 (.int .i64 0) 1 8 Try.underlying44 hi hz0 hz1 hz2 rfl (by decide) sv a.stack.length (ints a.stack.reverse) rfl HO1.out ⟨w.heap.size, 0, none⟩ 1 1 [.int .i64 (b : Int)] rfl rfl HN1.out (by simp [Value.oneCell']) (by unfold maxLen; omega) (by omega) HS1.out ?_); intro v' w1 hown' hgrow _; obtain ⟨g', cap', rfl⟩ := ownsRow_succ hown'; have HO2 := Lib.hid hown'; have HM2 := Lib.hid (HM1.out.grown hgrow); have hX1 := fun e => (by have := (HROW.out X e).1; omega : False); have hF2 := HF1.out.block (hgrow.block X (by have := HS1.out; omega) (fun e => (by have := (HROW.out X e.symm).1; omega : False))); have HP2 := Lib.hid (HP1.out.block (hgrow.block L (by have := HS1.out; omega) (fun e => (by have := (HROW.out L e.symm).1; omega : False)))); have HF2 := Lib.hid hF2; obtain ⟨d0, d1, d2, g0, g1, g2⟩ := hF2; clear hown' hgrow hX1)
  have hA1 : AncAt X L base (.slice (some ⟨g', 0, none⟩) (a.stack.length + 1) cap') { a with n := m, stack := b :: a.stack } (w1.setCell ⟨X, 1, none⟩ (.slice (some ⟨g', 0, none⟩) (a.stack.length + 1) cap')) := by
    refine ⟨⟨cell_set_ne d0 (by omega), cell_set_eq d1, cell_set_ne d2 (by omega), by rw [World.frozen?_setCell]; exact g0, by rw [World.frozen?_setCell]; exact g1, by rw [World.frozen?_setCell]; exact g2⟩, HP2.out.block (Below.heap_setCell w1 ⟨X, 1, none⟩ _ L (fun e => hXL e.symm)), ?_, hX, hL, hXL, ?_⟩
    · have := ownsRow_setCell_below HO2.out (a := ⟨X, 1, none⟩) hX (.slice (some ⟨g', 0, none⟩) (a.stack.length + 1) cap')
      simpa [ints] using this
    · have h1 := HM2.out.size
      simpa [World.setCell] using Nat.le_trans hbs h1
  have hM3 := HM2.out.setCell (p := ⟨X, 1, none⟩) (.inl rfl) (.slice (some ⟨g', 0, none⟩) (a.stack.length + 1) cap')
  generalize Value.slice (some ⟨g', 0, none⟩) (a.stack.length + 1) cap' = sv' at *
  have hM1' : Mid X L base sv sv' { a with n := m, stack := b :: a.stack } w (w1.setCell ⟨X, 1, none⟩ sv') := ⟨hA1, hM3⟩
  clear hA1 hM3 HF1 HP1 HO1 HM1 HN1 HS1 HROW HO2 HM2 HP2 HF2 d0 d1 d2 g0 g1 g2 c0 c1 c2 f0 f1 f2 p0 p1 p2 p3 hn2
  generalize w1.setCell ⟨X, 1, none⟩ sv' = w2 at *
  obtain ⟨last, hlast⟩ : ∃ l, l = a.works m := ⟨_, rfl⟩
  obtain ⟨l1, l2, l3⟩ := HI.out.last
  have hmr : m < a.room := by omega
  rw [hn, Nat.add_sub_cancel, ← hlast] at l1 l2 l3
  have hpr := (HI.out.nx b hb).2
  have hA := hM1'.1
  obtain ⟨⟨c0, c1, c2, f0, f1, f2⟩, hpl, _, _, _, _, _⟩ := hA
  obtain ⟨⟨_, q1, _, _⟩, _⟩ := hpl m hmr
  have q1 : w2.cell? ⟨L, m * 4 + 1, none⟩ = some (.int .i64 (last : Int)) := by rw [hlast]; exact q1
  have HLAST := Lib.hid hlast
  have HL2 := Lib.hid l2
  have HL3 := Lib.hid l3
  have HM := Lib.hid hM1'
  clear hpl hlast l2 l3 hM1'
  go_wp2_with fail
  go_quiet (fail)
  go_wp2_with fail
  go_cut [] from 6 to 111 (fun w' => Mid X L base sv sv' { a with n := m, stack := b :: a.stack, gone := upd a.gone b m, next := upd a.next b last } w w')
  case first =>
    obtain ⟨⟨p0, p1, p2, p3⟩, r0, r1, r2, r3⟩ := HM.out.1.places b hb
    clear q1
    go_region
    all_goals
      go_wp2_with fail
      go_meet
      case rel =>
        rw [HLAST.out]
        exact ⟨((HM.out.1.drewN _).set0 b hb m).set3 b hb _, ((HM.out.2.drewN _).setCell (p := ⟨L, b * 4, none⟩) (.inr rfl) _).setCell (p := ⟨L, b * 4 + 3, none⟩) (.inr rfl) _⟩
  clear HM c0 c1 c2 f0 f1 f2 q1
  rw [← HLAST.out]
  have hA := hcut.1
  obtain ⟨⟨c0, c1, c2, f0, f1, f2⟩, hpl, _, _, _, _, _⟩ := hA
  obtain ⟨⟨_, _, p2, _⟩, _⟩ := hpl b hb
  obtain ⟨⟨_, t1, _, _⟩, _, r1, _, _⟩ := hpl (a.at_ b) hpr
  have HM := Lib.hid hcut
  clear hpl hcut
  go_wp2_with fail
  go_cut [] from 6 to 111 (fun w' => Mid X L base sv sv' { a with n := m, stack := b :: a.stack, gone := upd a.gone b m, next := upd a.next b last, works := upd a.works (a.at_ b) last } w w')
  case first =>
    refine wp_tail 15 (by kernel_rfl) (by kernel_rfl) ?_
    simp only [List.take_succ_cons, List.take_zero, List.drop_succ_cons, List.drop_zero]
    repeat still_step
    refine wpStill_nil ?_
    go_wp2_with fail
    go_meet
    case rel => exact ⟨(HM.out.1.set1 (a.at_ b) hpr last).drew, (HM.out.2.setCell (p := ⟨L, a.at_ b * 4 + 1, none⟩) (.inr rfl) _).drew⟩
  clear HM c0 c1 c2 f0 f1 f2 p2 t1 r1
  have hA := hcut.1
  obtain ⟨⟨c0, c1, c2, f0, f1, f2⟩, hpl, _, _, _, _, _⟩ := hA
  obtain ⟨⟨_, _, p2, _⟩, _⟩ := hpl b hb
  obtain ⟨⟨_, _, t2, _⟩, _, _, r2, _⟩ := hpl last l1
  have HM := Lib.hid hcut
  clear hpl hcut
  go_wp2_with fail
  refine wp_tail 15 (by kernel_rfl) (by kernel_rfl) ?_
  simp only [List.take_succ_cons, List.take_zero, List.drop_succ_cons, List.drop_zero]
  repeat still_step
  refine wpStill_nil ?_
  go_wp2_with fail
  go_ret
  refine ⟨rfl, sv', ?_, (HM.out.2.setCell (p := ⟨L, last * 4 + 2, none⟩) (.inr rfl) _).drew⟩
  have hfin := (HM.out.1.set2 last l1 (a.at_ b)).drew
  have e : rem a b = { a with n := m, stack := b :: a.stack, gone := upd a.gone b m, next := upd a.next b last, works := upd a.works (a.at_ b) last, at_ := upd a.at_ last (a.at_ b) } := by
    unfold rem
    rw [hn, Nat.add_sub_cancel, ← HLAST.out]
  rw [e]
  exact hfin
end Go.Proofs.Ytlipkffnllmkgaa

namespace Go.Proofs.Ytlipkffnllmkgaa
open Go.RowKit

theorem addr_add (b j : Nat) : (⟨b, 0, none⟩ : Addr).add j = ⟨b, j, none⟩ := by unfold Addr.add; split <;> simp_all
theorem add_full (X L base : Nat) (sv : Value) (a : Anc) (w : World) (h : AncAt X L base sv a w) (hs : a.stack = []) :
    Calls Try.prog 29 #[.pointer (some ⟨X, 0, none⟩)] w fun e w' => e = .returned (.tuple #[.int .i64 0, .int .i64 16]) ∧ w' = w := by
  obtain ⟨⟨c0, c1, c2, f0, f1, f2⟩, _, hown, _, _, _, _⟩ := h
  rw [hs] at hown
  obtain ⟨p, c, rfl⟩ : ∃ p c, sv = .slice p 0 c := by
    rcases hown.2 with ⟨h, _⟩ | ⟨g, cap, _, h, _⟩
    · exact ⟨none, 0, h⟩
    · exact ⟨some ⟨g, 0, none⟩, cap, h⟩
  clear hown hs
  go_enter Try.func29, Try.ntmps29
  go_wp2
  go_ret2
  exact ⟨rfl, rfl⟩

set_option maxRecDepth 100000 in
set_option maxHeartbeats 4000000 in
theorem add_ok (X L base : Nat) (sv : Value) (a : Anc) (w : World) (b : Nat) (st : List Nat) (h : AncAt X L base sv a w) (I : Inv a) (hr2 : a.room ≤ 65536) (hs : a.stack = b :: st) (hb : b < a.room) :
    Calls Try.prog 29 #[.pointer (some ⟨X, 0, none⟩)] w fun e w' => e = .returned (.tuple #[.int .i64 (b : Int), .int .i64 0]) ∧ ∃ sv', AncAt X L base sv' (back a b) w' ∧ Moves X L none w w' ∧ sv'.ownBlock = sv.ownBlock := by
  have hA0 := Lib.hid h
  have HS := Lib.hid hs
  have HI := Lib.hid I
  have hnr : a.n < a.room := by have := I.cnt; rw [hs] at this; simp at this; omega
  have hwn := I.wx a.n hnr
  have hl : st.length ≤ 65536 := by have := I.cnt; rw [hs] at this; simp at this; omega
  obtain ⟨⟨c0, c1, c2, f0, f1, f2⟩, hpl, hown, hX, hL, hXL, hbs⟩ := h
  rw [hs] at hown
  obtain ⟨g, cap, rfl⟩ := ownsRow_succ hown
  have hcap : st.length + 1 ≤ cap ∧ cap ≤ maxLen := by
    rcases hown.2 with ⟨h, _⟩ | ⟨g', cap', cur, h, _, _, h1, h2, _⟩
    · cases h
    · cases h; exact ⟨h1, h2⟩
  have hpop : w.ownsRow base 3 1 (.slice (some ⟨g, 0, none⟩) st.length cap) st.length (ints st.reverse) :=
    ownsRow_pop (xs := ints st.reverse) (last := [.int .i64 (b : Int)]) (by simp [ints]) (by simpa [ints] using hown)
  have hlast : w.cell? ⟨g, st.length, none⟩ = some (.int .i64 (b : Int)) := by
    have := hown.cells (g := g) rfl st.length (.int .i64 (b : Int)) (by simp [ints])
    rwa [addr_add] at this
  have hgX : X ≠ g := by have := (hown.lt g rfl).1; omega
  have hgL : L ≠ g := by have := (hown.lt g rfl).1; omega
  have hcapi : (st.length : Int) ≤ (cap : Int) := by omega
  have hwr : IntKind.i64.wrap (st.length : Int) = (st.length : Int) := IntWalk.i64_in _ (by omega)
  have hcapm := hcap.2
  unfold maxLen at hcapm
  have HP := Lib.hid hpl
  have HPOP := Lib.hid hpop
  clear hs I hpl hown hpop hcap
  go_enter Try.func29, Try.ntmps29
  go_wp2_with fail
  go_quiet (fail)
  go_wp2_with fail
  go_cut [] from 5 to 95 (fun w' => AncAt X L base (.slice (some ⟨g, 0, none⟩) st.length cap) { a with stack := st } w' ∧ Moves X L none w w')
  case first =>
    refine wp_tail 14 (by kernel_rfl) (by kernel_rfl) ?_
    simp only [List.take_succ_cons, List.take_zero, List.drop_succ_cons, List.drop_zero]
    repeat still_step
    refine wpStill_nil ?_
    go_wp2_with fail
    go_meet
    case rel =>
      refine ⟨⟨⟨cell_set_ne c0 (by omega), cell_set_eq c1, cell_set_ne c2 (by omega), by rw [World.frozen?_setCell]; exact f0, by rw [World.frozen?_setCell]; exact f1, by rw [World.frozen?_setCell]; exact f2⟩, HP.out.block (Below.heap_setCell w ⟨X, 1, none⟩ _ L (fun e => hXL e.symm)), ?_, hX, hL, hXL, by simpa [World.setCell] using hbs⟩, ((Moves.refl X L none w).setCell (p := ⟨X, 1, none⟩) (.inl rfl) _).drewN _⟩
      exact ownsRow_setCell_below HPOP.out (a := ⟨X, 1, none⟩) hX _
  clear hA0 HP HPOP c0 c1 c2 f0 f1 f2 hlast
  have HM := Lib.hid hcut
  obtain ⟨⟨⟨c0, c1, c2, f0, f1, f2⟩, hpl, _, _, _, _, _⟩, _⟩ := hcut
  obtain ⟨⟨_, p1, _, _⟩, _⟩ := hpl a.n hnr
  obtain ⟨⟨_, _, p2, _⟩, _, _, r2, _⟩ := hpl (a.works a.n) hwn
  clear hpl
  go_wp2_with fail
  go_cut [] from 5 to 95 (fun w' => AncAt X L base (.slice (some ⟨g, 0, none⟩) st.length cap) { a with stack := st, at_ := upd a.at_ (a.works a.n) a.n } w' ∧ Moves X L none w w')
  case first =>
    refine wp_tail 21 (by kernel_rfl) (by kernel_rfl) ?_
    simp only [List.take_succ_cons, List.take_zero, List.drop_succ_cons, List.drop_zero]
    repeat still_step
    refine wpStill_nil ?_
    go_wp2_with fail
    go_meet
    case rel => exact ⟨(HM.out.1.set2 (a.works a.n) hwn a.n).drew, (HM.out.2.setCell (p := ⟨L, a.works a.n * 4 + 2, none⟩) (.inr rfl) _).drew⟩
  clear HM c0 c1 c2 f0 f1 f2 p1 p2 r2
  have HM := Lib.hid hcut
  obtain ⟨q, hq⟩ : ∃ q, q = upd a.at_ (a.works a.n) a.n b := ⟨_, rfl⟩
  have hqr : q < a.room := by
    rw [hq]
    unfold upd
    split
    · exact hnr
    · exact (HI.out.nx b hb).2
  obtain ⟨⟨⟨c0, c1, c2, f0, f1, f2⟩, hpl, _, _, _, _, _⟩, _⟩ := hcut
  have p2 : wc.cell? ⟨L, b * 4 + 2, none⟩ = some (.int .i64 (q : Int)) := by rw [hq]; exact (hpl b hb).1.2.2.1
  obtain ⟨⟨_, t1, _, _⟩, _, r1, _, _⟩ := hpl q hqr
  have HQ := Lib.hid hq
  clear hpl hq
  go_wp2_with fail
  go_cut [] from 5 to 95 (fun w' => AncAt X L base (.slice (some ⟨g, 0, none⟩) st.length cap) { a with stack := st, at_ := upd a.at_ (a.works a.n) a.n, works := upd a.works (upd a.at_ (a.works a.n) a.n b) b } w' ∧ Moves X L none w w')
  case first =>
    refine wp_tail 15 (by kernel_rfl) (by kernel_rfl) ?_
    simp only [List.take_succ_cons, List.take_zero, List.drop_succ_cons, List.drop_zero]
    repeat still_step
    refine wpStill_nil ?_
    go_wp2_with fail
    go_meet
    case rel =>
      rw [← HQ.out]
      exact ⟨(HM.out.1.set1 q hqr b).drew, (HM.out.2.setCell (p := ⟨L, q * 4 + 1, none⟩) (.inr rfl) _).drew⟩
  clear HM c0 c1 c2 f0 f1 f2 p2 t1 r1
  have HM := Lib.hid hcut
  obtain ⟨⟨⟨c0, c1, c2, f0, f1, f2⟩, hpl, _, _, _, _, _⟩, _⟩ := hcut
  obtain ⟨⟨p0, _, _, p3⟩, r0, _, _, r3⟩ := hpl b hb
  clear hpl
  go_wp2_with fail
  go_cut [] from 5 to 95 (fun w' => AncAt X L base (.slice (some ⟨g, 0, none⟩) st.length cap) { a with stack := st, at_ := upd a.at_ (a.works a.n) a.n, works := upd a.works (upd a.at_ (a.works a.n) a.n b) b, gone := upd a.gone b 0, next := upd a.next b b } w' ∧ Moves X L none w w')
  case first =>
    go_region
    all_goals
      go_wp2_with fail
      go_meet
      case rel => exact ⟨((HM.out.1.set0 b hb 0).set3 b hb b).drew, ((HM.out.2.setCell (p := ⟨L, b * 4, none⟩) (.inr rfl) _).setCell (p := ⟨L, b * 4 + 3, none⟩) (.inr rfl) _).drew⟩
  clear HM c0 c1 c2 f0 f1 f2 p0 p3 r0 r3
  have HM := Lib.hid hcut
  obtain ⟨⟨⟨c0, c1, c2, f0, f1, f2⟩, hpl, _, _, _, _, _⟩, _⟩ := hcut
  have HPL := Lib.hid hpl
  clear hpl
  go_wp2_with fail
  go_ret2
  refine ⟨rfl, _, ⟨⟨cell_set_ne c0 (by omega), cell_set_ne c1 (by omega), cell_set_eq c2, by rw [World.frozen?_setCell]; exact f0, by rw [World.frozen?_setCell]; exact f1, by rw [World.frozen?_setCell]; exact f2⟩, HPL.out.block (Below.heap_setCell wc ⟨X, 2, none⟩ _ L (fun e => hXL e.symm)), ?_, hX, hL, hXL, by have := HM.out.1.hb; simpa [World.setCell] using this⟩, HM.out.2.setCell (p := ⟨X, 2, none⟩) (.inl rfl) _, rfl⟩
  have := ownsRow_setCell_below HM.out.1.own (a := ⟨X, 2, none⟩) hX (.int .i64 ((a.n : Int) + 1))
  show World.ownsRow _ _ _ _ _ (back a b).stack.length (ints (back a b).stack.reverse)
  rw [show (back a b).stack = st from by show a.stack.tail = st; rw [HS.out]; rfl]
  exact this
end Go.Proofs.Ytlipkffnllmkgaa

namespace Go.Proofs.Ytlipkffnllmkgaa
open Go.RowKit Go.Shelf
attribute [local go_sem] Oper.semAt_some

/-- What falling hands on: from - 1 down to to. -/
def fallList (f t : Nat) : List Nat := (List.range (f - t)).map fun i => f - 1 - i
theorem fallList_take (f t k : Nat) (hk : k < f - t) : (fallList f t).take (k + 1) = (fallList f t).take k ++ [f - 1 - k] := by
  have h : k < (fallList f t).length := by simp [fallList]; exact hk
  rw [List.take_succ_eq_append_getElem h]
  simp [fallList]

theorem falling_in (F : Fence) (n : Nat) (h46 : F.fn 34) (hro : F.round = none) (f t : Int) (w : World) :
    CallsIn F n Try.prog 34 #[.int .i64 f, .int .i64 t] w fun e w' => e = .returned (.func (.func 51) #[] #[.pointer (some ⟨w.heap.size, 0, none⟩), .pointer (some ⟨w.heap.size + 1, 0, none⟩)]) ∧ w' = (w.alloc (.cells #[.int .i64 f] 3)).alloc (.cells #[.int .i64 t] 3) := by
  refine callsIn_of_wp Try.func34 rfl h46 ?_ hro
  simp only [Try.ntmps34, List.size_toArray, List.length_cons, List.length_nil, Nat.reduceAdd, Nat.reduceSub, Array.replicate_succ, Array.replicate_zero, List.push_toArray, List.append_toArray, List.nil_append, List.cons_append]
  gi_wp2
  go_ret
  exact ⟨rfl, rfl⟩

/-- What a round keeps: the two boxes. -/
def KeepTwo (a b : Nat) (W W' : World) : Prop := W'.heap[a]? = W.heap[a]? ∧ W'.heap[b]? = W.heap[b]?

set_option maxHeartbeats 1000000 in
theorem falling1_in (F : Fence) (n : Nat) (h54 : F.fn 51) (hro : F.round = none) (hn : 1 ≤ n) (l B1 B2 : Nat) (f t : Nat) (hft : t ≤ f) (ht : 1 ≤ t) (hf : f ≤ 65536) (J Jx : List Nat → World → Prop)
    (hY : ∀ pre x W, x < f → J pre W → pre.length < f - t → YieldAt F (n - 1) Try.prog l #[.int .i64 (x : Nat)] W fun e W' =>
      (e = .returned (.bool true) ∧ J (pre ++ [x]) W' ∧ KeepTwo B1 B2 W W') ∨ (e = .returned (.bool false) ∧ Jx (pre ++ [x]) W'))
    (W : World) (hB1 : W.heap[B1]? = some (.cells #[.int .i64 (f : Int)] 3 (0, 0))) (hB2 : W.heap[B2]? = some (.cells #[.int .i64 (t : Int)] 3 (0, 0))) (h0 : J [] W) :
    CallsIn F n Try.prog 51 #[.func (.yield l) #[] #[], .pointer (some ⟨B1, 0, none⟩), .pointer (some ⟨B2, 0, none⟩)] W fun e W' => (∃ v, e = .returned v) ∧
      ((∃ ys, ys = fallList f t ∧ J ys W') ∨ (∃ pre, pre <+: fallList f t ∧ Jx pre W')) := by
  have c1 : W.cell? ⟨B1, 0, none⟩ = some (.int .i64 (f : Int)) := by simp [World.cell?, hB1]
  obtain ⟨g, hg⟩ : ∃ g, f = g + 1 := ⟨f - 1, by omega⟩
  have c1' : W.cell? ⟨B1, 0, none⟩ = some (.int .i64 ((g : Int) + 1)) := by rw [c1, hg]; rfl
  have hgb : (g : Int) ≤ 65536 := by omega
  have HC := Lib.hid c1
  have HY := Lib.hid hY
  have HB1 := Lib.hid hB1
  have HB2 := Lib.hid hB2
  have HG := Lib.hid hg
  have HJ := Lib.hid h0
  clear c1 hY hB1 hB2 h0 hg
  refine callsIn_of_wp Try.func51 rfl h54 ?_ hro
  simp only [Try.ntmps51, List.size_toArray, List.length_cons, List.length_nil, Nat.reduceAdd, Nat.reduceSub, Array.replicate_succ, Array.replicate_zero, List.push_toArray, List.append_toArray, List.nil_append, List.cons_append]
  gi_wp2
  gi_loopw [4] (fun b wr => ∃ k c : Nat, c + k = g ∧ k ≤ f - t ∧ b = .int .i64 (c : Int) ∧ wr.heap[B1]? = some (.cells #[.int .i64 (f : Int)] 3 (0, 0)) ∧ wr.heap[B2]? = some (.cells #[.int .i64 (t : Int)] 3 (0, 0)) ∧ J ((fallList f t).take k) wr)
    (fun b _ => (intOf b).toNat)
  case atStart => exact ⟨0, g, rfl, Nat.zero_le _, rfl, HB1.out, HB2.out, HJ.out⟩
  case round =>
    obtain ⟨k, c, hck, hk, rfl, hb1, hb2, hJk⟩ := hrel
    have c2 : wr.cell? ⟨B2, 0, none⟩ = some (.int .i64 (t : Int)) := by simp [World.cell?, hb2]
    have hcb : (c : Int) ≤ 65536 := by omega
    have HK := Lib.hid hck
    have HB1 := Lib.hid hb1
    have HB2 := Lib.hid hb2
    clear hck hb1 hb2
    by_cases hlt : t ≤ c
    · obtain ⟨fn, tmps, assign, body, hy, hR⟩ := HY.out _ c wr (by have := HK.out; have := HG.out; omega) hJk (by have := HK.out; have := HG.out; simp [fallList]; omega)
      have hlti : (t : Int) ≤ (c : Int) := by omega
      have hc1 : (1 : Int) ≤ (c : Int) := by omega
      gi_wp2
      refine hR.mono ?_
      rintro e W3 (⟨rfl, hJ3, hk3⟩ | ⟨rfl, hJx3⟩)
      · have hJ4 := Lib.hid hJ3
        have hb13 := Lib.hid (hk3.1.trans HB1.out)
        have hb23 := Lib.hid (hk3.2.trans HB2.out)
        clear hJ3 hk3
        gi_wp2
        go_roundw
        case rel =>
          have h1 := HK.out
          have h2 := HG.out
          have e := fallList_take f t k (by omega)
          rw [show f - 1 - k = c from by omega] at e
          exact ⟨k + 1, c - 1, by omega, by omega, by congr 1; omega, hb13.out, hb23.out, by rw [e]; exact hJ4.out⟩
        case measure => simp [intOf]; omega
      · gi_wp2
        refine bodyPost_ret (results_none rfl _ _ _) rfl ?_
        have h1 := HK.out
        have h2 := HG.out
        have e := fallList_take f t k (by omega)
        rw [show f - 1 - k = c from by omega] at e
        exact ⟨⟨_, rfl⟩, .inr ⟨_, by rw [← e]; exact List.take_prefix _ _, hJx3⟩⟩
    · have hlti : ¬ (t : Int) ≤ (c : Int) := by omega
      gi_wp2
      go_end0
      have h1 := HK.out
      have h2 := HG.out
      have e : k = (fallList f t).length := by simp [fallList]; omega
      rw [e, List.take_length] at hJk
      exact ⟨⟨_, rfl⟩, .inl hJk⟩

/-- What falling hands back goes down through f-1, ..., t. -/
theorem falling_stops (F : Fence) (n : Nat) (h54 : F.fn 51) (hro : F.round = none) (hn : 1 ≤ n) (B1 B2 f t : Nat) (hft : t ≤ f) (ht : 1 ≤ t) (hf : f ≤ 65536) (w : World) (hB1 : w.heap[B1]? = some (.cells #[.int .i64 (f : Int)] 3 (0, 0))) (hB2 : w.heap[B2]? = some (.cells #[.int .i64 (t : Int)] 3 (0, 0))) :
    SeqStopsK F n Try.prog 51 #[.pointer (some ⟨B1, 0, none⟩), .pointer (some ⟨B2, 0, none⟩)] (fun x : {x : Nat // x < f} => #[Value.int .i64 (x.1 : Int)]) (KeepTwo B1 B2) (fun xs => xs.map (·.1) = fallList f t) (fun _ => True) (f - t) w := by
  intro l J Jx W hW _ _ hY h0
  have l1 : B1 < w.heap.size := (Array.getElem?_eq_some_iff.1 hB1).1
  have l2 : B2 < w.heap.size := (Array.getElem?_eq_some_iff.1 hB2).1
  refine (falling1_in F n h54 hro hn l B1 B2 f t hft ht hf (fun ys W => ∃ xs : List {x : Nat // x < f}, xs.map (·.1) = ys ∧ J xs W) (fun _ W => ∃ xs, Jx xs W) ?_ W ((hW.block _ l1).trans hB1) ((hW.block _ l2).trans hB2) ⟨[], rfl, h0⟩).mono ?_
  · rintro pre x W1 hx ⟨xs, rfl, hJ⟩ hlen
    obtain ⟨fn, tmps, assign, body, hy, hR⟩ := hY xs ⟨x, hx⟩ W1 hJ (by simpa using hlen)
    refine ⟨fn, tmps, assign, body, hy, hR.mono ?_⟩
    rintro e W3 (⟨rfl, h1, h2⟩ | ⟨rfl, h1⟩)
    · exact .inl ⟨rfl, ⟨xs ++ [⟨x, hx⟩], by simp, h1⟩, h2⟩
    · exact .inr ⟨rfl, _, h1⟩
  · rintro e W3 ⟨hv, (⟨ys, rfl, xs, hxs, hJ⟩ | ⟨pre, _, xs, hJ⟩)⟩
    · exact ⟨hv, .inl ⟨xs, hxs, hJ⟩⟩
    · exact ⟨hv, .inr ⟨xs, trivial, hJ⟩⟩
end Go.Proofs.Ytlipkffnllmkgaa

namespace Go.Proofs.Ytlipkffnllmkgaa
open Go.RowKit Go.Shelf
attribute [local go_sem] Oper.semAt_some

/-- Those below k that work, rising. -/
def workTo (a : Anc) (k : Nat) : List Nat := (List.range k).filter fun b => a.gone b == 0
theorem workTo_yes (a : Anc) (k : Nat) (h : a.gone k = 0) : workTo a (k + 1) = workTo a k ++ [k] := by
  unfold workTo; rw [List.range_succ, List.filter_append]; simp [h]
theorem workTo_no (a : Anc) (k : Nat) (h : a.gone k ≠ 0) : workTo a (k + 1) = workTo a k := by
  unfold workTo; rw [List.range_succ, List.filter_append]; simp [h]
theorem workTo_prefix (a : Anc) (k : Nat) : ∀ d, workTo a k <+: workTo a (k + d)
  | 0 => List.prefix_rfl
  | d + 1 => by
    refine (workTo_prefix a k d).trans ?_
    rw [← Nat.add_assoc]
    by_cases h : a.gone (k + d) = 0
    · rw [workTo_yes _ _ h]; exact List.prefix_append _ _
    · rw [workTo_no _ _ h]; exact List.prefix_rfl
theorem workTo_le (a : Anc) {k n : Nat} (h : k ≤ n) : workTo a k <+: workTo a n := by
  have := workTo_prefix a k (n - k)
  rwa [show k + (n - k) = n from by omega] at this

theorem working_in (F : Fence) (n : Nat) (h30 : F.fn 28) (hro : F.round = none) (X : Nat) (w : World) :
    CallsIn F n Try.prog 28 #[.pointer (some ⟨X, 0, none⟩)] w fun e w' => e = .returned (.func (.func 44) #[] #[.pointer (some ⟨w.heap.size, 0, none⟩)]) ∧ w' = w.alloc (.cells #[.pointer (some ⟨X, 0, none⟩)] 60) := by
  refine callsIn_of_wp Try.func28 rfl h30 ?_ hro
  simp only [Try.ntmps28, List.size_toArray, List.length_cons, List.length_nil, Nat.reduceAdd, Nat.reduceSub, Array.replicate_succ, Array.replicate_zero, List.push_toArray, List.append_toArray, List.nil_append, List.cons_append]
  gi_wp2
  go_ret
  exact ⟨rfl, rfl⟩

/-- What a round keeps: the places. -/
def KeepOne (L : Nat) (W W' : World) : Prop := W'.heap[L]? = W.heap[L]? ∧ W.heap.size ≤ W'.heap.size

set_option maxRecDepth 100000 in
set_option maxHeartbeats 2000000 in
theorem working1_in (F : Fence) (n : Nat) (h48 : F.fn 44) (hro : F.round = none) (hn : 1 ≤ n) (l Bx X L : Nat) (a : Anc) (hr2 : a.room ≤ 65536) (J Jx : List Nat → World → Prop) (W0 : World)
    (hJ : AbidesFrom W0.heap.size J)
    (hY : ∀ pre x W, J pre W → pre.length < (workTo a a.room).length → YieldAt F (n - 1) Try.prog l #[.int .i64 (x : Nat)] W fun e W' =>
      (e = .returned (.bool true) ∧ J (pre ++ [x]) W' ∧ KeepOne L W W') ∨ (e = .returned (.bool false) ∧ Jx (pre ++ [x]) W'))
    (hBx : W0.cell? ⟨Bx, 0, none⟩ = some (.pointer (some ⟨X, 0, none⟩))) (hX : W0.cell? ⟨X, 0, none⟩ = some (.slice (some ⟨L, 0, none⟩) a.room a.room)) (hP : Places L a W0) (hL : L < W0.heap.size) (h0 : J [] W0) :
    CallsIn F n Try.prog 44 #[.func (.yield l) #[] #[], .pointer (some ⟨Bx, 0, none⟩)] W0 fun e W' => (∃ v, e = .returned v) ∧
      ((∃ ys, ys = workTo a a.room ∧ J ys W') ∨ (∃ pre, pre <+: workTo a a.room ∧ Jx pre W')) := by
  have HY := Lib.hid hY
  have HJ := Lib.hid hJ
  have HP := Lib.hid hP
  have H0 := Lib.hid h0
  clear hY hJ hP h0
  refine callsIn_of_wp Try.func44 rfl h48 ?_ hro
  simp only [Try.ntmps44, List.size_toArray, List.length_cons, List.length_nil, Nat.reduceAdd, Nat.reduceSub, Array.replicate_succ, Array.replicate_zero, List.push_toArray, List.append_toArray, List.nil_append, List.cons_append]
  gi_wp2
  gi_loopw [10] (fun i wr => ∃ k : Nat, k ≤ a.room ∧ i = .int .i64 (k : Int) ∧ wr.heap[L]? = W0.heap[L]? ∧ W0.heap.size ≤ wr.heap.size ∧ J (workTo a k) wr)
    (fun i _ => a.room - (intOf i).toNat)
  case atStart => exact ⟨0, Nat.zero_le _, rfl, rfl, Nat.le_refl _, H0.out⟩
  case round =>
    obtain ⟨k, hk, rfl, hLk, hsz, hJk⟩ := hrel
    have HLK := Lib.hid hLk
    have HJK := Lib.hid hJk
    have HSZ := Lib.hid hsz
    clear hLk hJk hsz
    by_cases hlt : k < a.room
    · obtain ⟨⟨p0, p1, p2, p3⟩, _⟩ := (HP.out.block HLK.out) k hlt
      by_cases hg : a.gone k = 0
      · rw [hg] at p0
        have hJ2 := HJ.out _ _ _ none HJK.out (World.grownBy_alloc wr (.cells #[.int .i64 0, .int .i64 (a.works k : Int), .int .i64 (a.at_ k : Int), .int .i64 (a.next k : Int)] 93) none) (fun r e => by cases e)
        have hlen : (workTo a k).length < (workTo a a.room).length := by
          have h1 := (workTo_le a (show k + 1 ≤ a.room by omega)).length_le
          rw [workTo_yes _ _ hg] at h1
          simp at h1
          omega
        obtain ⟨fn, tmps, assign, body, hy, hR⟩ := HY.out _ k _ hJ2 hlen
        have HG := Lib.hid hg
        clear hg hJ2 hlen
        gi_wp2
        refine hR.mono ?_
        rintro e W3 (⟨rfl, hJ3, hk3⟩ | ⟨rfl, hJx3⟩)
        · have HJ3 := Lib.hid hJ3
          have HL3 : Hid (W3.heap[L]? = W0.heap[L]?) := Lib.hid (hk3.1.trans ((Below.heap_alloc wr _ L (by have := HSZ.out; omega)).trans HLK.out))
          have HS3 : Hid (W0.heap.size ≤ W3.heap.size) := Lib.hid (by have h1 := hk3.2; have h2 := HSZ.out; simp at h1; omega)
          clear hJ3 hk3
          gi_wp2
          go_roundw
          case rel => exact ⟨k + 1, by omega, by go_num, HL3.out, HS3.out, by rw [workTo_yes _ _ HG.out]; exact HJ3.out⟩
          case measure => simp [intOf]; omega
        · gi_wp2
          refine bodyPost_ret (results_none rfl _ _ _) rfl ?_
          exact ⟨⟨_, rfl⟩, .inr ⟨_, by rw [← workTo_yes _ _ HG.out]; exact workTo_le a (by omega), hJx3⟩⟩
      · have hgi : ((a.gone k : Int) == 0) = false := by simp; omega
        have hJ2 := HJ.out _ _ _ none HJK.out (World.grownBy_alloc wr (.cells #[.int .i64 (a.gone k : Int), .int .i64 (a.works k : Int), .int .i64 (a.at_ k : Int), .int .i64 (a.next k : Int)] 93) none) (fun r e => by cases e)
        have HG := Lib.hid hg
        have HJ2 := Lib.hid hJ2
        clear hg hJ2
        gi_wp2
        refine ⟨fun _ h => (by cases h), ?_⟩
        gi_wp2
        go_roundw
        case rel => exact ⟨k + 1, by omega, by go_num, (Below.heap_alloc wr _ L (by have := HSZ.out; omega)).trans HLK.out, by have := HSZ.out; simp; omega, by rw [workTo_no _ _ HG.out]; exact HJ2.out⟩
        case measure => simp [intOf]; omega
    · gi_wp2
      go_end0
      obtain rfl : k = a.room := by omega
      exact ⟨⟨_, rfl⟩, .inl ⟨_, rfl, HJK.out⟩⟩
end Go.Proofs.Ytlipkffnllmkgaa
