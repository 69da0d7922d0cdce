import Derived.Test.YtladjipicifplaaHG
namespace Go.Proofs.Ytladjipicifplaa

/-- Whom a number chooses. -/
def PickId (p : Po) (k : Nat) (id : Int) : Prop := ∃ r, Find p.anc k (drawN k p.anc.room p.anc.room) r ∧ p.own (r : Int) = some id
theorem PickId.fn {p : Po} {k : Nat} {i j : Int} (h : PickId p k i) (h' : PickId p k j) : i = j := by
  obtain ⟨r, f, o⟩ := h
  obtain ⟨s, g, q⟩ := h'
  rw [f.fn g, q] at o
  cases o
  rfl
theorem Good.pickId {p : Po} (h : Good p) (h0 : p.act ≠ 0) (k : Nat) : ∃ id, PickId p k id := by
  obtain ⟨r, id, m, hf, _, ho, _⟩ := h.pick h0 k
  exact ⟨id, r, hf, ho⟩
theorem PickId.mem {p : Po} (h : Good p) {k : Nat} {id : Int} (hp : PickId p k id) : ∃ m, p.all id = some m ∧ m.state = 1 ∧ m.id = id ∧ 1 ≤ id ∧ id ≤ 65535 := by
  obtain ⟨r, f, o⟩ := hp
  obtain ⟨m, g1, g2, g3⟩ := h.own _ _ o
  obtain ⟨i1, i2, i3⟩ := h.all _ _ g1
  exact ⟨m, g1, g2, i1, i2, i3⟩

theorem drain_all {p : Po} {id : Int} {m : Mem} : (drainP p id m).all = fun j => if j = id then some { m with state := 2 } else p.all j := by
  unfold drainP; split <;> rfl
theorem drain_own {p : Po} {id : Int} {m : Mem} : (drainP p id m).own = fun j => if j = m.bucket then none else p.own j := by
  unfold drainP; split <;> rfl
theorem drain_act {p : Po} (h : Good p) {id : Int} {m : Mem} (hm : p.all id = some m) (hs : m.state = 1) : (drainP p id m).act + 1 = p.act := by
  have hact : p.act ≠ 0 := fun e => h.no e id m hm hs
  unfold drainP
  split
  · next e => show 0 + 1 = p.act; omega
  · show p.act - 1 + 1 = p.act; omega
theorem drain_key {p : Po} {id : Int} {m : Mem} : (drainP p id m).key = p.key ∧ (drainP p id m).room = p.room := by
  unfold drainP; split <;> exact ⟨rfl, rfl⟩
/-- Who drains is chosen no more. -/
theorem pick_not {p : Po} (h : Good p) {k : Int} {m : Mem} (hm : p.all k = some m) (hs : m.state = 1) {n : Nat} {id : Int} (hp : PickId (drainP p k m) n id) : id ≠ k := by
  obtain ⟨x, g1, g2, _⟩ := hp.mem (h.drain hm hs)
  rw [drain_all] at g1
  rintro rfl
  simp at g1
  subst g1
  simp at g2
/-- Who was to go to another one goes to it still. -/
theorem pick_drain {p : Po} (h : Good p) {k : Int} {m : Mem} (hm : p.all k = some m) (hs : m.state = 1) (h2 : 2 ≤ p.act) {n : Nat} {id : Int} (hp : PickId p n id) (hne : id ≠ k) : PickId (drainP p k m) n id := by
  obtain ⟨b, hb, b1, b2, b3⟩ := h.at_ k m hm hs
  obtain ⟨r, f, o⟩ := hp
  obtain ⟨I, hr⟩ := h.inv
  have hn := h.n.2 (by omega)
  have hrb : r ≠ b := by
    rintro rfl
    rw [b3] at o
    cases o
    exact hne rfl
  have e : drainP p k m = Po.put { (p.drop m.bucket) with anc := rem p.anc m.bucket.toNat, act := p.act - 1 } k { m with state := 2 } := by unfold drainP; rw [if_neg (by omega)]
  have hbt : m.bucket.toNat = b := by omega
  refine ⟨r, ?_, ?_⟩
  · rw [e]
    show Find (rem p.anc m.bucket.toNat) n _ r
    rw [hbt]
    exact find_rem I b2 (by omega) f hrb
  · rw [drain_own]
    show (if (r : Int) = m.bucket then none else p.own r) = some id
    rw [if_neg (by omega)]
    exact o
/-- When it goes, and one comes by its ID, all are chosen as they were. -/
theorem pick_back {p : Po} (h : Good p) {k : Int} {m : Mem} (hm : p.all k = some m) (hs : m.state = 1) (a pt : Int) {n : Nat} {id : Int} (hp : PickId p n id) : PickId (addP ((drainP p k m).gone k) k a pt) n id := by
  obtain ⟨b, hb, b1, b2, b3⟩ := h.at_ k m hm hs
  obtain ⟨r, f, o⟩ := hp
  obtain ⟨I, hr⟩ := h.inv
  have hact : p.act ≠ 0 := fun e => h.no e k m hm hs
  have hn := h.n.2 hact
  have hbt : m.bucket.toNat = b := by omega
  have key : addAnc ((drainP p k m).gone k) = p.anc ∧ newB ((drainP p k m).gone k) = b := by
    by_cases h1 : p.act = 1
    · have e : (drainP p k m).gone k = Po.gone (Po.put { (p.drop m.bucket) with act := 0 } k { m with state := 2 }) k := by unfold drainP; rw [if_pos h1]
      have ha : ((drainP p k m).gone k).act = 0 := by rw [e]; rfl
      have hc : ((drainP p k m).gone k).anc = p.anc := by rw [e]; rfl
      refine ⟨by unfold addAnc; rw [if_pos ha, hc], ?_⟩
      unfold newB
      rw [if_pos ha, hc]
      obtain ⟨q1, q2, _⟩ := I.w2 b (by omega) b2
      rw [show p.anc.at_ b = 0 by omega] at q2
      exact q2
    · have e : (drainP p k m).gone k = Po.gone (Po.put { (p.drop m.bucket) with anc := rem p.anc b, act := p.act - 1 } k { m with state := 2 }) k := by unfold drainP; rw [if_neg h1, hbt]
      rw [e]
      have ha : (Po.gone (Po.put { (p.drop m.bucket) with anc := rem p.anc b, act := p.act - 1 } k { m with state := 2 }) k).act ≠ 0 := by show p.act - 1 ≠ 0; omega
      have hnb : newB (Po.gone (Po.put { (p.drop m.bucket) with anc := rem p.anc b, act := p.act - 1 } k { m with state := 2 }) k) = b := by
        unfold newB
        rw [if_neg ha]
        rfl
      refine ⟨?_, hnb⟩
      unfold addAnc
      rw [if_neg ha, hnb]
      exact back_rem I (by omega) b2 (by omega)
  obtain ⟨k1, k2⟩ := key
  refine ⟨r, ?_, ?_⟩
  · show Find (addAnc ((drainP p k m).gone k)) n (drawN n (addAnc ((drainP p k m).gone k)).room (addAnc ((drainP p k m).gone k)).room) r
    rw [k1]
    exact f
  · show (if (r : Int) = (newB ((drainP p k m).gone k) : Int) then some k else (drainP p k m).own r) = some id
    rw [k2, drain_own]
    dsimp only
    by_cases e : r = b
    · subst e
      rw [if_pos rfl]
      rw [b3] at o
      exact o
    · rw [if_neg (by omega), if_neg (by omega)]
      exact o

/-- The pool to which 1, .., n came. -/
def seqP (r : Nat) (key : ByteArray) (A : Nat → Int) (pt : Int) : Nat → Po
  | 0 => newPo r key
  | i + 1 => addP (seqP r key A pt i) ((i + 1 : Nat) : Int) (A (i + 1)) pt
structure SeqAll (r : Nat) (ky : ByteArray) (A : Nat → Int) (pt : Int) (i : Nat) : Prop where
  good : Good (seqP r ky A pt i)
  act : (seqP r ky A pt i).act = i
  room : (seqP r ky A pt i).room = r
  key : (seqP r ky A pt i).key = ky
  none : ∀ j : Int, j < 1 ∨ (i : Int) < j → (seqP r ky A pt i).all j = Option.none
  some : ∀ j : Nat, 1 ≤ j → j ≤ i → ∃ m, (seqP r ky A pt i).all (j : Int) = Option.some m ∧ m.state = 1
theorem seq_all {r : Nat} {ky : ByteArray} (A : Nat → Int) (pt : Int) (h1 : 1 ≤ r) (h2 : r ≤ 65535) (hk : ky.size = 16) : ∀ i, i ≤ r → SeqAll r ky A pt i := by
  intro i
  induction i with
  | zero => exact fun _ => ⟨Good.new h1 (by omega) hk, rfl, rfl, rfl, fun _ _ => rfl, fun j h3 h4 => by omega⟩
  | succ i ih =>
    intro hi
    obtain ⟨g, g1, g2, g3, g4, g5⟩ := ih (by omega)
    refine ⟨g.add _ _ (g4 _ (.inr (by omega))) (by omega) (by omega), ?_, g2, g3, fun j hj => ?_, fun j h3 h4 => ?_⟩
    · show (seqP r ky A pt i).act + 1 = i + 1; omega
    · show (if j = ((i + 1 : Nat) : Int) then some _ else (seqP r ky A pt i).all j) = none
      rw [if_neg (by omega)]
      exact g4 j (by omega)
    · show ∃ m, (if (j : Int) = ((i + 1 : Nat) : Int) then some (⟨((i + 1 : Nat) : Int), A (i + 1), pt, 1, (newB (seqP r ky A pt i) : Int)⟩ : Mem) else (seqP r ky A pt i).all j) = some m ∧ m.state = 1
      by_cases e : j = i + 1
      · rw [if_pos (by omega)]
        exact ⟨_, rfl, rfl⟩
      · rw [if_neg (by omega)]
        exact g5 j h3 (by omega)
theorem SeqAll.range {r : Nat} {ky : ByteArray} {A : Nat → Int} {pt : Int} {i : Nat} (h : SeqAll r ky A pt i) {k : Nat} {id : Int} (hp : PickId (seqP r ky A pt i) k id) : 1 ≤ id ∧ id ≤ (i : Int) := by
  obtain ⟨m, g, _⟩ := hp.mem h.good
  by_cases e : id < 1 ∨ (i : Int) < id
  · rw [h.none id e] at g
    cases g
  · omega
end Go.Proofs.Ytladjipicifplaa
