import Derived.Test.YtlipkffnllmkgaaH9
namespace Go.Proofs.Ytlipkffnllmkgaa

/-- A pool in which all is well. -/
structure Good (p : Po) : Prop where
  reach : Reach p.room p.anc
  r1 : 1 ≤ p.room
  r2 : p.room ≤ 65536
  key : p.key.size = 16
  act : p.act ≤ p.room
  n : (p.act = 0 → p.anc.n = 1) ∧ (p.act ≠ 0 → p.anc.n = p.act)
  own : ∀ b id, p.own b = some id → ∃ m, p.all id = some m ∧ m.state = 1 ∧ m.bucket = b
  all : ∀ id m, p.all id = some m → m.id = id ∧ 1 ≤ id ∧ id ≤ 65535
  at_ : ∀ id m, p.all id = some m → m.state = 1 → ∃ b : Nat, m.bucket = (b : Int) ∧ b < p.room ∧ p.anc.gone b = 0 ∧ p.own (b : Int) = some id
  has : p.act ≠ 0 → ∀ b : Nat, b < p.room → p.anc.gone b = 0 → ∃ id, p.own (b : Int) = some id
  no : p.act = 0 → ∀ id m, p.all id = some m → m.state ≠ 1

theorem Good.inv {p : Po} (h : Good p) : Inv p.anc ∧ p.anc.room = p.room := h.reach.inv h.r1
theorem Good.new {r : Nat} {key : ByteArray} (h1 : 1 ≤ r) (h2 : r ≤ 65536) (hk : key.size = 16) : Good (newPo r key) where
  reach := newAnc_reach r (r - 1) (by omega)
  r1 := h1
  r2 := h2
  key := hk
  act := Nat.zero_le _
  n := ⟨fun _ => by show r - (r - 1) = 1; omega, fun h => (h rfl).elim⟩
  own := fun b id h => by cases h
  all := fun b id h => by cases h
  at_ := fun b id h => by cases h
  has := fun h => (h rfl).elim
  no := fun _ id m h => by cases h

/-- The bucket of who comes. -/
def newB (p : Po) : Nat := if p.act = 0 then p.anc.works 0 else p.anc.stack.headD 0
def addAnc (p : Po) : Anc := if p.act = 0 then p.anc else back p.anc (newB p)
def addP (p : Po) (id a pt : Int) : Po := { (Po.set { p with anc := addAnc p } id (newB p : Int) ⟨id, a, pt, 1, (newB p : Int)⟩) with act := p.act + 1 }
theorem Good.first {p : Po} (h : Good p) (h0 : p.act = 0) : newB p = p.anc.works 0 ∧ newB p < p.room ∧ p.anc.gone (newB p) = 0 ∧ (∀ b, b < p.room → p.anc.gone b = 0 → b = newB p) ∧ workTo p.anc p.anc.room = [newB p] ∧ addAnc p = p.anc := by
  obtain ⟨I, hr⟩ := h.inv
  have hn := h.n.1 h0
  have e : newB p = p.anc.works 0 := by unfold newB; rw [if_pos h0]
  obtain ⟨w1, w2, w3⟩ := I.w1 0 (by omega)
  have hu : ∀ b, b < p.room → p.anc.gone b = 0 → b = p.anc.works 0 := fun b hb hg => by
    obtain ⟨q1, q2, _⟩ := I.w2 b (by omega) hg
    have : p.anc.at_ b = 0 := by omega
    rw [this] at q2
    exact q2.symm
  refine ⟨e, by rw [e]; omega, by rw [e]; exact w2, by rw [e]; exact hu, ?_, by unfold addAnc; rw [if_pos h0]⟩
  have hl : (workTo p.anc p.anc.room).length = 1 := by rw [hr, workTo_len h.r1 h.reach, hn]
  obtain ⟨x, hx⟩ := List.length_eq_one_iff.1 hl
  have hm : x ∈ workTo p.anc p.anc.room := by rw [hx]; simp
  obtain ⟨m1, m2⟩ := (mem_workTo _ _ _).1 hm
  rw [hx, e, hu x (by omega) m2]
theorem Good.next {p : Po} (h : Good p) (h0 : p.act ≠ 0) (h1 : p.act < p.room) : (∃ st, p.anc.stack = newB p :: st) ∧ addAnc p = back p.anc (newB p) ∧ newB p < p.room ∧ p.anc.gone (newB p) ≠ 0 := by
  obtain ⟨I, hr⟩ := h.inv
  have hn := h.n.2 h0
  have hc := I.cnt
  have e : newB p = p.anc.stack.headD 0 := by unfold newB; rw [if_neg h0]
  cases hs : p.anc.stack with
  | nil => rw [hs] at hc; simp at hc; omega
  | cons b st =>
    have eb : newB p = b := by rw [e, hs]; rfl
    obtain ⟨_, p1, p2, _⟩ := h.reach.pop h.r1 hs
    exact ⟨⟨st, by rw [eb]⟩, by unfold addAnc; rw [if_neg h0], by rw [eb]; exact p1, by rw [eb, p2]; omega⟩
theorem Good.add {p : Po} (h : Good p) {id : Int} (a pt : Int) (hm : p.all id = none) (h1 : p.act < p.room) (hid : 1 ≤ id ∧ id ≤ 65535) : Good (addP p id a pt) := by
  have hall : ∀ j m, (addP p id a pt).all j = some m → (j = id ∧ m = ⟨id, a, pt, 1, (newB p : Int)⟩) ∨ (j ≠ id ∧ p.all j = some m) := fun j m hj => by
    have hj : (if j = id then some (⟨id, a, pt, 1, (newB p : Int)⟩ : Mem) else p.all j) = some m := hj
    split at hj
    · next e => cases hj; exact .inl ⟨e, rfl⟩
    · next e => exact .inr ⟨e, hj⟩
  have hown : ∀ b, (addP p id a pt).own b = if b = (newB p : Int) then some id else p.own b := fun b => rfl
  have halln : ∀ j m, p.all j = some m → (addP p id a pt).all j = some m := fun j m hj => by
    show (if j = id then some (⟨id, a, pt, 1, (newB p : Int)⟩ : Mem) else p.all j) = some m
    have : j ≠ id := by rintro rfl; rw [hm] at hj; cases hj
    rw [if_neg this]; exact hj
  have hself : (addP p id a pt).all id = some ⟨id, a, pt, 1, (newB p : Int)⟩ := by
    show (if id = id then some (⟨id, a, pt, 1, (newB p : Int)⟩ : Mem) else p.all id) = _
    rw [if_pos rfl]
  have hbase : ∀ b jd, (addP p id a pt).own b = some jd → ∃ m, (addP p id a pt).all jd = some m ∧ m.state = 1 ∧ m.bucket = b := fun b jd hb => by
    rw [hown] at hb
    split at hb
    · next e => cases hb; exact ⟨_, hself, rfl, e.symm⟩
    · obtain ⟨m, g1, g2, g3⟩ := h.own b jd hb
      exact ⟨m, halln _ _ g1, g2, g3⟩
  have hids : ∀ j m, (addP p id a pt).all j = some m → m.id = j ∧ 1 ≤ j ∧ j ≤ 65535 := fun j m hj => by
    rcases hall j m hj with ⟨rfl, rfl⟩ | ⟨_, hj⟩
    · exact ⟨rfl, hid⟩
    · exact h.all j m hj
  by_cases h0 : p.act = 0
  · obtain ⟨e1, e2, e3, e4, _, e5⟩ := h.first h0
    refine ⟨?_, h.r1, h.r2, h.key, ?_, ⟨fun e => ?_, fun _ => ?_⟩, hbase, hids, fun j m hj hs => ?_, fun _ b hb hg => ?_, fun e => ?_⟩
    · show Reach p.room (addAnc p); rw [e5]; exact h.reach
    · show p.act + 1 ≤ p.room; omega
    · cases e
    · show (addAnc p).n = p.act + 1; rw [e5, h0]; exact h.n.1 h0
    · rcases hall j m hj with ⟨rfl, rfl⟩ | ⟨_, hj⟩
      · refine ⟨newB p, rfl, e2, ?_, ?_⟩
        · show (addAnc p).gone _ = 0; rw [e5]; exact e3
        · rw [hown, if_pos rfl]
      · exact (h.no h0 j m hj hs).elim
    · have hg : (addAnc p).gone b = 0 := hg
      rw [e5] at hg
      exact ⟨id, by rw [hown, e4 b hb hg, if_pos rfl]⟩
    · cases e
  · obtain ⟨⟨st, e1⟩, e2, e3, e4⟩ := h.next h0 h1
    obtain ⟨p1, p2, p3, p4, p5, _⟩ := h.reach.pop h.r1 e1
    have hgo : ∀ b, (addAnc p).gone b = if b = newB p then 0 else p.anc.gone b := fun b => by rw [e2]; rfl
    refine ⟨?_, h.r1, h.r2, h.key, ?_, ⟨fun e => ?_, fun _ => ?_⟩, hbase, hids, fun j m hj hs => ?_, fun _ b hb hg => ?_, fun e => ?_⟩
    · show Reach p.room (addAnc p); rw [e2]; exact p1
    · show p.act + 1 ≤ p.room; omega
    · cases e
    · show (addAnc p).n = p.act + 1; rw [e2]; show p.anc.n + 1 = _; rw [h.n.2 h0]
    · rcases hall j m hj with ⟨rfl, rfl⟩ | ⟨_, hj⟩
      · refine ⟨newB p, rfl, e3, ?_, ?_⟩
        · show (addAnc p).gone _ = 0; rw [hgo, if_pos rfl]
        · rw [hown, if_pos rfl]
      · obtain ⟨b, b1, b2, b3, b4⟩ := h.at_ j m hj hs
        have hne : b ≠ newB p := by rintro rfl; exact e4 b3
        refine ⟨b, b1, b2, ?_, ?_⟩
        · show (addAnc p).gone _ = 0; rw [hgo, if_neg hne]; exact b3
        · rw [hown, if_neg (by omega)]; exact b4
    · have hg : (addAnc p).gone b = 0 := hg
      by_cases e : b = newB p
      · exact ⟨id, by rw [hown, e, if_pos rfl]⟩
      · rw [hgo, if_neg e] at hg
        obtain ⟨jd, hj⟩ := h.has h0 b hb hg
        exact ⟨jd, by rw [hown, if_neg (by omega)]; exact hj⟩
    · cases e

def drainP (p : Po) (id : Int) (m : Mem) : Po :=
  if p.act = 1 then Po.put { (p.drop m.bucket) with act := 0 } id { m with state := 2 }
  else Po.put { (p.drop m.bucket) with anc := rem p.anc m.bucket.toNat, act := p.act - 1 } id { m with state := 2 }
theorem Good.drain {p : Po} (h : Good p) {id : Int} {m : Mem} (hm : p.all id = some m) (hs : m.state = 1) : Good (drainP p id m) := by
  obtain ⟨b, hb, b1, b2, b3⟩ := h.at_ id m hm hs
  have hact : p.act ≠ 0 := fun e => h.no e id m hm hs
  obtain ⟨I, hr⟩ := h.inv
  obtain ⟨i1, i2, i3⟩ := h.all id m hm
  have hbt : m.bucket.toNat = b := by omega
  by_cases h0 : p.act = 1
  · have ed : drainP p id m = Po.put { (p.drop m.bucket) with act := 0 } id { m with state := 2 } := by unfold drainP; rw [if_pos h0]
    rw [ed]
    have hn := h.n.2 hact
    have hu : ∀ c, c < p.room → p.anc.gone c = 0 → c = b := fun c hc hg => by
      obtain ⟨q1, q2, _⟩ := I.w2 c (by omega) hg
      obtain ⟨q3, q4, _⟩ := I.w2 b (by omega) b2
      rw [show p.anc.at_ c = p.anc.at_ b by omega, q4] at q2
      exact q2.symm
    have hall : ∀ j x, (if j = id then some { m with state := 2 } else p.all j) = some x → (j = id ∧ x = { m with state := 2 }) ∨ (j ≠ id ∧ p.all j = some x) := fun j x hj => by
      split at hj
      · next e => cases hj; exact .inl ⟨e, rfl⟩
      · next e => exact .inr ⟨e, hj⟩
    have hno : ∀ j x, (if j = id then some { m with state := 2 } else p.all j) = some x → x.state ≠ 1 := fun j x hj => by
      rcases hall j x hj with ⟨rfl, rfl⟩ | ⟨hne, hj⟩
      · simp
      · intro hx
        obtain ⟨c, c1, c2, c3, c4⟩ := h.at_ j x hj hx
        rw [hu c c2 c3, b3] at c4
        cases c4
        exact hne rfl
    refine ⟨h.reach, h.r1, h.r2, h.key, Nat.zero_le _, ⟨fun _ => ?_, fun e => (e rfl).elim⟩, fun c jd hc => ?_, fun j x hj => ?_, fun j x hj hx => (hno j x hj hx).elim, fun e => (e rfl).elim, fun _ => hno⟩
    · show p.anc.n = 1; omega
    · have hc : (if c = m.bucket then none else p.own c) = some jd := hc
      split at hc
      · cases hc
      · next e =>
        obtain ⟨x, g1, g2, g3⟩ := h.own c jd hc
        obtain ⟨d, d1, d2, d3, d4⟩ := h.at_ jd x g1 g2
        rw [hu d d2 d3] at d1
        exact (e (by omega)).elim
    · rcases hall j x hj with ⟨rfl, rfl⟩ | ⟨_, hj⟩
      · exact ⟨i1, i2, i3⟩
      · exact h.all j x hj
  · have ed : drainP p id m = Po.put { (p.drop m.bucket) with anc := rem p.anc m.bucket.toNat, act := p.act - 1 } id { m with state := 2 } := by unfold drainP; rw [if_neg h0]
    rw [ed, hbt]
    have hn := h.n.2 hact
    have hle := h.act
    have hall : ∀ j x, (if j = id then some { m with state := 2 } else p.all j) = some x → (j = id ∧ x = { m with state := 2 }) ∨ (j ≠ id ∧ p.all j = some x) := fun j x hj => by
      split at hj
      · next e => cases hj; exact .inl ⟨e, rfl⟩
      · next e => exact .inr ⟨e, hj⟩
    refine ⟨h.reach.rem _ b (by omega) b2 (by omega), h.r1, h.r2, h.key, ?_, ⟨fun e => ?_, fun _ => ?_⟩, fun c jd hc => ?_, fun j x hj => ?_, fun j x hj hx => ?_, fun _ c hc hg => ?_, fun e => ?_⟩
    · show p.act - 1 ≤ p.room; omega
    · have e : p.act - 1 = 0 := e; omega
    · show p.anc.n - 1 = p.act - 1; omega
    · have hc : (if c = m.bucket then none else p.own c) = some jd := hc
      split at hc
      · cases hc
      · next e =>
        obtain ⟨x, g1, g2, g3⟩ := h.own c jd hc
        refine ⟨x, ?_, g2, g3⟩
        show (if jd = id then some { m with state := 2 } else p.all jd) = some x
        have hne : jd ≠ id := by
          rintro rfl
          rw [hm] at g1
          cases g1
          exact e g3.symm
        rw [if_neg hne]; exact g1
    · rcases hall j x hj with ⟨rfl, rfl⟩ | ⟨_, hj⟩
      · exact ⟨i1, i2, i3⟩
      · exact h.all j x hj
    · rcases hall j x hj with ⟨rfl, rfl⟩ | ⟨hne, hj⟩
      · simp at hx
      · obtain ⟨c, c1, c2, c3, c4⟩ := h.at_ j x hj hx
        have hcb : c ≠ b := by
          rintro rfl
          rw [b3] at c4
          cases c4
          exact hne rfl
        refine ⟨c, c1, c2, ?_, ?_⟩
        · show upd p.anc.gone b _ c = 0
          rw [upd_ne _ _ hcb]; exact c3
        · show (if (c : Int) = m.bucket then none else p.own c) = some j
          rw [if_neg (by omega)]; exact c4
    · have hg : upd p.anc.gone b (p.anc.n - 1) c = 0 := hg
      have hcb : c ≠ b := by
        rintro rfl
        rw [upd_same] at hg
        omega
      rw [upd_ne _ _ hcb] at hg
      obtain ⟨jd, hj⟩ := h.has hact c hc hg
      refine ⟨jd, ?_⟩
      show (if (c : Int) = m.bucket then none else p.own c) = some jd
      rw [if_neg (by omega)]; exact hj
    · have e : p.act - 1 = 0 := e; omega
theorem Good.leave {p : Po} (h : Good p) {id : Int} {m : Mem} (hm : p.all id = some m) (hs : m.state ≠ 1) : Good (p.gone id) := by
  have hall : ∀ j x, (if j = id then none else p.all j) = some x → j ≠ id ∧ p.all j = some x := fun j x hj => by
    split at hj
    · cases hj
    · next e => exact ⟨e, hj⟩
  refine ⟨h.reach, h.r1, h.r2, h.key, h.act, h.n, fun b jd hb => ?_, fun j x hj => h.all j x (hall j x hj).2, fun j x hj hx => h.at_ j x (hall j x hj).2 hx, h.has, fun e j x hj => h.no e j x (hall j x hj).2⟩
  obtain ⟨x, g1, g2, g3⟩ := h.own b jd hb
  refine ⟨x, ?_, g2, g3⟩
  show (if jd = id then none else p.all jd) = some x
  have hne : jd ≠ id := by
    rintro rfl
    rw [hm] at g1
    cases g1
    exact hs g2
  rw [if_neg hne]; exact g1

/-- Who is chosen for a number. -/
theorem Good.pick {p : Po} (h : Good p) (h0 : p.act ≠ 0) (k : Nat) : ∃ (r : Nat) (id : Int) (m : Mem), Find p.anc k (drawN k p.anc.room p.anc.room) r ∧ r < p.room ∧ p.own (r : Int) = some id ∧ p.all id = some m ∧ m.state = 1 ∧ m.id = id ∧ 1 ≤ id ∧ id ≤ 65535 := by
  obtain ⟨I, hr⟩ := h.inv
  obtain ⟨r, hf⟩ := find_all I k
  obtain ⟨f1, f2⟩ := hf.low
  obtain ⟨id, hid⟩ := h.has h0 r (by omega) f1
  obtain ⟨m, g1, g2, g3⟩ := h.own _ _ hid
  obtain ⟨i1, i2, i3⟩ := h.all _ _ g1
  exact ⟨r, id, m, hf, by omega, hid, g1, g2, i1, i2, i3⟩
end Go.Proofs.Ytlipkffnllmkgaa

namespace Go.Proofs.Ytlipkffnllmkgaa

/-- Whom a number chooses. -/
def PickId (p : Po) (k : Nat) (id : Int) : Prop := ∃ r, Find p.anc k (drawN k p.anc.room p.anc.room) r ∧ p.own (r : Int) = some id
theorem PickId.fn {p : Po} {k : Nat} {i j : Int} (h : PickId p k i) (h' : PickId p k j) : i = j := by
  obtain ⟨r, f, o⟩ := h
  obtain ⟨s, g, q⟩ := h'
  rw [f.fn g, q] at o
  cases o
  rfl
theorem Good.pickId {p : Po} (h : Good p) (h0 : p.act ≠ 0) (k : Nat) : ∃ id, PickId p k id := by
  obtain ⟨r, id, m, hf, _, ho, _⟩ := h.pick h0 k
  exact ⟨id, r, hf, ho⟩
theorem PickId.mem {p : Po} (h : Good p) {k : Nat} {id : Int} (hp : PickId p k id) : ∃ m, p.all id = some m ∧ m.state = 1 ∧ m.id = id ∧ 1 ≤ id ∧ id ≤ 65535 := by
  obtain ⟨r, f, o⟩ := hp
  obtain ⟨m, g1, g2, g3⟩ := h.own _ _ o
  obtain ⟨i1, i2, i3⟩ := h.all _ _ g1
  exact ⟨m, g1, g2, i1, i2, i3⟩

theorem drain_all {p : Po} {id : Int} {m : Mem} : (drainP p id m).all = fun j => if j = id then some { m with state := 2 } else p.all j := by
  unfold drainP; split <;> rfl
theorem drain_own {p : Po} {id : Int} {m : Mem} : (drainP p id m).own = fun j => if j = m.bucket then none else p.own j := by
  unfold drainP; split <;> rfl
theorem drain_act {p : Po} (h : Good p) {id : Int} {m : Mem} (hm : p.all id = some m) (hs : m.state = 1) : (drainP p id m).act + 1 = p.act := by
  have hact : p.act ≠ 0 := fun e => h.no e id m hm hs
  unfold drainP
  split
  · next e => show 0 + 1 = p.act; omega
  · show p.act - 1 + 1 = p.act; omega
theorem drain_key {p : Po} {id : Int} {m : Mem} : (drainP p id m).key = p.key ∧ (drainP p id m).room = p.room := by
  unfold drainP; split <;> exact ⟨rfl, rfl⟩
/-- Who drains is chosen no more. -/
theorem pick_not {p : Po} (h : Good p) {k : Int} {m : Mem} (hm : p.all k = some m) (hs : m.state = 1) {n : Nat} {id : Int} (hp : PickId (drainP p k m) n id) : id ≠ k := by
  obtain ⟨x, g1, g2, _⟩ := hp.mem (h.drain hm hs)
  rw [drain_all] at g1
  rintro rfl
  simp at g1
  subst g1
  simp at g2
/-- Who was to go to another one goes to it still. -/
theorem pick_drain {p : Po} (h : Good p) {k : Int} {m : Mem} (hm : p.all k = some m) (hs : m.state = 1) (h2 : 2 ≤ p.act) {n : Nat} {id : Int} (hp : PickId p n id) (hne : id ≠ k) : PickId (drainP p k m) n id := by
  obtain ⟨b, hb, b1, b2, b3⟩ := h.at_ k m hm hs
  obtain ⟨r, f, o⟩ := hp
  obtain ⟨I, hr⟩ := h.inv
  have hn := h.n.2 (by omega)
  have hrb : r ≠ b := by
    rintro rfl
    rw [b3] at o
    cases o
    exact hne rfl
  have e : drainP p k m = Po.put { (p.drop m.bucket) with anc := rem p.anc m.bucket.toNat, act := p.act - 1 } k { m with state := 2 } := by unfold drainP; rw [if_neg (by omega)]
  have hbt : m.bucket.toNat = b := by omega
  refine ⟨r, ?_, ?_⟩
  · rw [e]
    show Find (rem p.anc m.bucket.toNat) n _ r
    rw [hbt]
    exact find_rem I b2 (by omega) f hrb
  · rw [drain_own]
    show (if (r : Int) = m.bucket then none else p.own r) = some id
    rw [if_neg (by omega)]
    exact o
/-- When it goes, and one comes by its ID, all are chosen as they were. -/
theorem pick_back {p : Po} (h : Good p) {k : Int} {m : Mem} (hm : p.all k = some m) (hs : m.state = 1) (a pt : Int) {n : Nat} {id : Int} (hp : PickId p n id) : PickId (addP ((drainP p k m).gone k) k a pt) n id := by
  obtain ⟨b, hb, b1, b2, b3⟩ := h.at_ k m hm hs
  obtain ⟨r, f, o⟩ := hp
  obtain ⟨I, hr⟩ := h.inv
  have hact : p.act ≠ 0 := fun e => h.no e k m hm hs
  have hn := h.n.2 hact
  have hbt : m.bucket.toNat = b := by omega
  have key : addAnc ((drainP p k m).gone k) = p.anc ∧ newB ((drainP p k m).gone k) = b := by
    by_cases h1 : p.act = 1
    · have e : (drainP p k m).gone k = Po.gone (Po.put { (p.drop m.bucket) with act := 0 } k { m with state := 2 }) k := by unfold drainP; rw [if_pos h1]
      have ha : ((drainP p k m).gone k).act = 0 := by rw [e]; rfl
      have hc : ((drainP p k m).gone k).anc = p.anc := by rw [e]; rfl
      refine ⟨by unfold addAnc; rw [if_pos ha, hc], ?_⟩
      unfold newB
      rw [if_pos ha, hc]
      obtain ⟨q1, q2, _⟩ := I.w2 b (by omega) b2
      rw [show p.anc.at_ b = 0 by omega] at q2
      exact q2
    · have e : (drainP p k m).gone k = Po.gone (Po.put { (p.drop m.bucket) with anc := rem p.anc b, act := p.act - 1 } k { m with state := 2 }) k := by unfold drainP; rw [if_neg h1, hbt]
      rw [e]
      have ha : (Po.gone (Po.put { (p.drop m.bucket) with anc := rem p.anc b, act := p.act - 1 } k { m with state := 2 }) k).act ≠ 0 := by show p.act - 1 ≠ 0; omega
      have hnb : newB (Po.gone (Po.put { (p.drop m.bucket) with anc := rem p.anc b, act := p.act - 1 } k { m with state := 2 }) k) = b := by
        unfold newB
        rw [if_neg ha]
        rfl
      refine ⟨?_, hnb⟩
      unfold addAnc
      rw [if_neg ha, hnb]
      exact back_rem I (by omega) b2 (by omega)
  obtain ⟨k1, k2⟩ := key
  refine ⟨r, ?_, ?_⟩
  · show Find (addAnc ((drainP p k m).gone k)) n (drawN n (addAnc ((drainP p k m).gone k)).room (addAnc ((drainP p k m).gone k)).room) r
    rw [k1]
    exact f
  · show (if (r : Int) = (newB ((drainP p k m).gone k) : Int) then some k else (drainP p k m).own r) = some id
    rw [k2, drain_own]
    dsimp only
    by_cases e : r = b
    · subst e
      rw [if_pos rfl]
      rw [b3] at o
      exact o
    · rw [if_neg (by omega), if_neg (by omega)]
      exact o

/-- The pool to which 1, .., n came. -/
def seqP (r : Nat) (key : ByteArray) (A : Nat → Int) (pt : Int) : Nat → Po
  | 0 => newPo r key
  | i + 1 => addP (seqP r key A pt i) ((i + 1 : Nat) : Int) (A (i + 1)) pt
structure SeqAll (r : Nat) (ky : ByteArray) (A : Nat → Int) (pt : Int) (i : Nat) : Prop where
  good : Good (seqP r ky A pt i)
  act : (seqP r ky A pt i).act = i
  room : (seqP r ky A pt i).room = r
  key : (seqP r ky A pt i).key = ky
  none : ∀ j : Int, j < 1 ∨ (i : Int) < j → (seqP r ky A pt i).all j = Option.none
  some : ∀ j : Nat, 1 ≤ j → j ≤ i → ∃ m, (seqP r ky A pt i).all (j : Int) = Option.some m ∧ m.state = 1
theorem seq_all {r : Nat} {ky : ByteArray} (A : Nat → Int) (pt : Int) (h1 : 1 ≤ r) (h2 : r ≤ 65535) (hk : ky.size = 16) : ∀ i, i ≤ r → SeqAll r ky A pt i := by
  intro i
  induction i with
  | zero => exact fun _ => ⟨Good.new h1 (by omega) hk, rfl, rfl, rfl, fun _ _ => rfl, fun j h3 h4 => by omega⟩
  | succ i ih =>
    intro hi
    obtain ⟨g, g1, g2, g3, g4, g5⟩ := ih (by omega)
    refine ⟨g.add _ _ (g4 _ (.inr (by omega))) (by omega) (by omega), ?_, g2, g3, fun j hj => ?_, fun j h3 h4 => ?_⟩
    · show (seqP r ky A pt i).act + 1 = i + 1; omega
    · show (if j = ((i + 1 : Nat) : Int) then some _ else (seqP r ky A pt i).all j) = none
      rw [if_neg (by omega)]
      exact g4 j (by omega)
    · show ∃ m, (if (j : Int) = ((i + 1 : Nat) : Int) then some (⟨((i + 1 : Nat) : Int), A (i + 1), pt, 1, (newB (seqP r ky A pt i) : Int)⟩ : Mem) else (seqP r ky A pt i).all j) = some m ∧ m.state = 1
      by_cases e : j = i + 1
      · rw [if_pos (by omega)]
        exact ⟨_, rfl, rfl⟩
      · rw [if_neg (by omega)]
        exact g5 j h3 (by omega)
theorem SeqAll.range {r : Nat} {ky : ByteArray} {A : Nat → Int} {pt : Int} {i : Nat} (h : SeqAll r ky A pt i) {k : Nat} {id : Int} (hp : PickId (seqP r ky A pt i) k id) : 1 ≤ id ∧ id ≤ (i : Int) := by
  obtain ⟨m, g, _⟩ := hp.mem h.good
  by_cases e : id < 1 ∨ (i : Int) < id
  · rw [h.none id e] at g
    cases g
  · omega
end Go.Proofs.Ytlipkffnllmkgaa
