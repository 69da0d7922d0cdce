import Derived.Test.YtlipkffnllmkgaaPD
namespace Go.Proofs.Ytlipkffnllmkgaa
open Go.RowKit Go.Shelf Go.Maps Go.Lib

/-- A member as the reference keeps it: who drains has no bucket. -/
def refM (m : Mem) : Mem := if m.state = 1 then m else { m with bucket := 0 }
theorem refM_id (m : Mem) : (refM m).id = m.id ∧ (refM m).addr = m.addr ∧ (refM m).port = m.port ∧ (refM m).state = m.state := by
  unfold refM; split <;> exact ⟨rfl, rfl, rfl, rfl⟩
theorem refM_on {m : Mem} (h : m.state = 1) : refM m = m := if_pos h
/-- Who is there, by their IDs. -/
structure ListOf (p : Po) (l : List Mem) : Prop where
  up : l.Pairwise (fun a b => a.id < b.id)
  mem : ∀ m, m ∈ l ↔ p.all m.id = some m
theorem ListOf.new (r : Nat) (key : ByteArray) : ListOf (newPo r key) [] := ⟨List.Pairwise.nil, fun m => by simp [newPo]⟩
theorem place_map (id : Int) (l : List Mem) : placeN id (l.map refM) = placeN id l := by
  unfold placeN
  induction l with
  | nil => rfl
  | cons m l ih =>
    rw [List.map_cons, List.takeWhile_cons, List.takeWhile_cons, (refM_id m).1]
    split
    · simpa using ih
    · rfl
theorem actN_map (l : List Mem) : actN (l.map refM) = actN l := by
  unfold actN
  induction l with
  | nil => rfl
  | cons m l ih =>
    rw [List.map_cons, List.filter_cons, List.filter_cons, (refM_id m).2.2.2]
    split
    · simpa using ih
    · exact ih
theorem place_split (id : Int) {l : List Mem} (h : l.Pairwise (fun a b => a.id < b.id)) : (∀ m ∈ l.take (placeN id l), m.id < id) ∧ ∀ m ∈ l.drop (placeN id l), id ≤ m.id := by
  induction l with
  | nil => simp [placeN]
  | cons x l ih =>
    obtain ⟨hx, hl⟩ := List.pairwise_cons.1 h
    by_cases hd : x.id < id
    · have e : placeN id (x :: l) = placeN id l + 1 := by unfold placeN; rw [List.takeWhile_cons, if_pos (by simpa using hd)]; rfl
      rw [e, List.take_succ_cons, List.drop_succ_cons]
      refine ⟨fun m hm => ?_, (ih hl).2⟩
      rcases List.mem_cons.1 hm with rfl | hm
      · exact hd
      · exact (ih hl).1 m hm
    · have e : placeN id (x :: l) = 0 := by unfold placeN; rw [List.takeWhile_cons, if_neg (by simpa using hd)]; rfl
      rw [e]
      refine ⟨fun m hm => by simp at hm, fun m hm => ?_⟩
      rcases List.mem_cons.1 hm with rfl | hm
      · omega
      · have := hx m hm; omega
theorem ListOf.at {p : Po} {l : List Mem} (h : ListOf p l) (g : Good p) {id : Int} {m : Mem} (hm : p.all id = some m) : l[placeN id l]? = some m ∧ m.id = id := by
  have hid := (g.all id m hm).1
  have hml : m ∈ l := (h.mem m).2 (by rw [hid]; exact hm)
  obtain ⟨s1, s2⟩ := place_split id h.up
  have hd : m ∈ l.drop (placeN id l) := by
    have : m ∈ l.take (placeN id l) ++ l.drop (placeN id l) := by rwa [List.take_append_drop]
    rcases List.mem_append.1 this with e | e
    · have := s1 m e; omega
    · exact e
  refine ⟨?_, hid⟩
  have hup : (l.drop (placeN id l)).Pairwise (fun a b => a.id < b.id) := h.up.sublist (List.drop_sublist _ _)
  cases hdl : l.drop (placeN id l) with
  | nil => rw [hdl] at hd; cases hd
  | cons y t =>
    rw [hdl] at hd hup s2
    have hy : m = y := by
      rcases List.mem_cons.1 hd with e | e
      · exact e
      · have h1 := (List.pairwise_cons.1 hup).1 m e
        have h2 := s2 y (by simp)
        omega
    have : (l.drop (placeN id l))[0]? = some y := by rw [hdl]; rfl
    rw [List.getElem?_drop] at this
    rw [hy]
    exact this
theorem ListOf.there {p : Po} {l : List Mem} (h : ListOf p l) (g : Good p) (id : Int) : thereB id (l.map refM) = (p.all id).isSome := by
  unfold thereB
  rw [place_map, List.getElem?_map]
  cases hm : p.all id with
  | some m =>
    obtain ⟨h1, h2⟩ := h.at g hm
    rw [h1]
    simp [(refM_id m).1, h2]
  | none =>
    cases hx : l[placeN id l]? with
    | none => rfl
    | some x =>
      simp only [Option.map_some, (refM_id x).1, Option.isSome_none]
      have := (h.mem x).1 (List.mem_of_getElem? hx)
      by_cases e : x.id = id
      · rw [e, hm] at this; cases this
      · simpa using e
theorem ListOf.keys {p : Po} {l : List Mem} (h : ListOf p l) (g : Good p) : KeysOf p.all (l.map Mem.id) ∧ (l.map Mem.id).filterMap p.all = l := by
  refine ⟨⟨List.pairwise_map.2 h.up, fun x hx => ?_, fun x _ => ⟨fun hx => ?_, fun hx => ?_⟩⟩, ?_⟩
  · obtain ⟨m, hm, rfl⟩ := List.mem_map.1 hx
    have := (g.all _ _ ((h.mem m).1 hm)).2
    exact i64_wf' (by omega) (by omega)
  · obtain ⟨m, hm, rfl⟩ := List.mem_map.1 hx
    rw [(h.mem m).1 hm]; rfl
  · obtain ⟨m, hm⟩ := Option.isSome_iff_exists.1 hx
    have hid := (g.all _ _ hm).1
    exact List.mem_map.2 ⟨m, (h.mem m).2 (by rw [hid]; exact hm), hid⟩
  · have : ∀ t : List Mem, (∀ m ∈ t, p.all m.id = some m) → (t.map Mem.id).filterMap p.all = t := fun t => by
      induction t with
      | nil => intro _; rfl
      | cons m t ih =>
        intro ht
        rw [List.map_cons, List.filterMap_cons, ht m (by simp)]
        exact congrArg _ (ih fun x hx => ht x (List.mem_cons_of_mem _ hx))
    exact this l fun m hm => (h.mem m).1 hm
theorem ListOf.act {p : Po} {l : List Mem} (h : ListOf p l) (c : Cnt 65535 p) : actN (l.map refM) = p.act := by
  obtain ⟨hk, he⟩ := h.keys c.good
  have := c.active (Nat.le_refl _) hk
  rw [he] at this
  rw [actN_map]
  exact this
theorem split_set {α : Type} {l : List α} {k : Nat} {m : α} (h : l[k]? = some m) (m' : α) : l = l.take k ++ m :: l.drop (k + 1) ∧ l.set k m' = l.take k ++ m' :: l.drop (k + 1) := by
  obtain ⟨hk, e⟩ := List.getElem?_eq_some_iff.1 h
  refine ⟨?_, ?_⟩
  · conv => lhs; rw [← List.take_append_drop k l]
    congr 1
    rw [List.drop_eq_getElem_cons hk, e]
  · rw [List.set_eq_take_append_cons_drop, if_pos hk]
theorem ListOf.parts {p : Po} {A B : List Mem} {m : Mem} (h : ListOf p (A ++ m :: B)) : (∀ a ∈ A, a.id < m.id) ∧ (∀ b ∈ B, m.id < b.id) ∧ A.Pairwise (fun a b => a.id < b.id) ∧ B.Pairwise (fun a b => a.id < b.id) ∧ ∀ a ∈ A, ∀ b ∈ B, a.id < b.id := by
  obtain ⟨h1, h2, h3⟩ := List.pairwise_append.1 h.up
  obtain ⟨h4, h5⟩ := List.pairwise_cons.1 h2
  exact ⟨fun a ha => h3 a ha m (by simp), h4, h1, h5, fun a ha b hb => h3 a ha b (by simp [hb])⟩
theorem ListOf.swap {p q : Po} {A B : List Mem} {m m' : Mem} (h : ListOf p (A ++ m :: B)) (hi : m'.id = m.id) (hq : q.all = fun j => if j = m.id then some m' else p.all j) : ListOf q (A ++ m' :: B) := by
  obtain ⟨h1, h2, h3, h4, h5⟩ := h.parts
  refine ⟨List.pairwise_append.2 ⟨h3, List.pairwise_cons.2 ⟨fun b hb => by rw [hi]; exact h2 b hb, h4⟩, fun a ha b hb => ?_⟩, fun x => ?_⟩
  · rcases List.mem_cons.1 hb with rfl | hb
    · rw [hi]; exact h1 a ha
    · exact h5 a ha b hb
  · rw [hq]
    by_cases e : x.id = m.id
    · simp only [e, if_true, Option.some.injEq]
      constructor
      · intro hx
        rcases List.mem_append.1 hx with hx | hx
        · have := h1 x hx; omega
        · rcases List.mem_cons.1 hx with hx | hx
          · exact hx.symm
          · have := h2 x hx; omega
      · intro hx; subst hx; simp
    · simp only [e, if_false]
      rw [← h.mem x]
      simp only [List.mem_append, List.mem_cons]
      have n1 : x ≠ m := fun e2 => e (by rw [e2])
      have n2 : x ≠ m' := fun e2 => e (by rw [e2, hi])
      simp [n1, n2]
theorem ListOf.cut {p q : Po} {A B : List Mem} {m : Mem} (h : ListOf p (A ++ m :: B)) (hq : ∀ j, q.all j = if j = m.id then none else p.all j) : ListOf q (A ++ B) := by
  obtain ⟨h1, h2, h3, h4, h5⟩ := h.parts
  refine ⟨List.pairwise_append.2 ⟨h3, h4, h5⟩, fun x => ?_⟩
  rw [hq]
  by_cases e : x.id = m.id
  · simp only [e, if_true]
    constructor
    · intro hx
      rcases List.mem_append.1 hx with hx | hx
      · have := h1 x hx; omega
      · have := h2 x hx; omega
    · intro hx; cases hx
  · simp only [e, if_false]
    rw [← h.mem x]
    have n1 : x ≠ m := fun e2 => e (by rw [e2])
    simp [n1]
theorem ListOf.add {p q : Po} {l : List Mem} (h : ListOf p l) {m : Mem} (hn : p.all m.id = none) (hq : q.all = fun j => if j = m.id then some m else p.all j) : ListOf q (l.take (placeN m.id l) ++ [m] ++ l.drop (placeN m.id l)) := by
  obtain ⟨s1, s2⟩ := place_split m.id h.up
  have hne : ∀ x ∈ l, x.id ≠ m.id := fun x hx e => by
    have := (h.mem x).1 hx
    rw [e, hn] at this; cases this
  have u1 : (l.take (placeN m.id l)).Pairwise (fun a b => a.id < b.id) := h.up.sublist (List.take_sublist _ _)
  have u2 : (l.drop (placeN m.id l)).Pairwise (fun a b => a.id < b.id) := h.up.sublist (List.drop_sublist _ _)
  have h2 : ∀ b ∈ l.drop (placeN m.id l), m.id < b.id := fun b hb => by
    have := s2 b hb
    have := hne b (List.mem_of_mem_drop hb)
    omega
  rw [List.append_assoc, List.singleton_append]
  refine ⟨List.pairwise_append.2 ⟨u1, List.pairwise_cons.2 ⟨h2, u2⟩, fun a ha b hb => ?_⟩, fun x => ?_⟩
  · have := s1 a ha
    rcases List.mem_cons.1 hb with rfl | hb
    · exact this
    · have := h2 b hb; omega
  · rw [hq]
    have hm : x ∈ l ↔ x ∈ l.take (placeN m.id l) ∨ x ∈ l.drop (placeN m.id l) := by
      conv => lhs; rw [← List.take_append_drop (placeN m.id l) l]
      exact List.mem_append
    by_cases e : x.id = m.id
    · simp only [e, if_true, Option.some.injEq]
      constructor
      · intro hx
        rcases List.mem_append.1 hx with hx | hx
        · exact (hne x (List.mem_of_mem_take hx) e).elim
        · rcases List.mem_cons.1 hx with hx | hx
          · exact hx.symm
          · exact (hne x (List.mem_of_mem_drop hx) e).elim
      · intro hx; subst hx; simp
    · simp only [e, if_false]
      rw [← h.mem x, hm]
      have n1 : x ≠ m := fun e2 => e (by rw [e2])
      simp [n1]
/-- Whose the buckets are, as the reference keeps it. -/
def ownR (p : Po) (b : Nat) : Nat := ((p.own (b : Int)).getD 0).toNat
theorem ownR_drop {p q : Po} {b : Nat} (hq : q.own = fun j => if j = (b : Int) then none else p.own j) : ownR q = upd (ownR p) b 0 := by
  funext c
  unfold ownR upd
  rw [hq]
  by_cases e : c = b
  · subst e; simp
  · have : ¬ (c : Int) = (b : Int) := by omega
    simp [e, this]
theorem ownR_set {p q : Po} {b id : Nat} (hq : q.own = fun j => if j = (b : Int) then some (id : Int) else p.own j) : ownR q = upd (ownR p) b id := by
  funext c
  unfold ownR upd
  rw [hq]
  by_cases e : c = b
  · subst e; simp
  · have : ¬ (c : Int) = (b : Int) := by omega
    simp [e, this]
end Go.Proofs.Ytlipkffnllmkgaa

namespace Go.Proofs.Ytlipkffnllmkgaa
open Go.RowKit Go.Shelf Go.Maps Go.Lib

/-- The reference's pool of a ghost. -/
def RAt (B N : Nat) (Q : Nat → Prop) (XP : Nat) (p : Po) (w : World) : Prop := ∃ l Qa Y gO lv, ListOf p l ∧ l.length ≤ N ∧ RefP Q Qa XP Y gO p.room lv p.key p.anc (l.map refM) (ownR p) w ∧ ∀ i, Q i → B ≤ i
def RTurned (B N : Nat) (Q : Nat → Prop) (XP : Nat) (p' : Po) (w w' : World) : Prop := ∃ Q', RAt B N Q' XP p' w' ∧ Only Q w w' ∧ ∀ i, Q' i → Q i ∨ w.heap.size ≤ i
theorem RTurned.of {B N : Nat} {Q : Nat → Prop} {XP : Nat} {p' : Po} {l' : List Mem} {w w' : World} (h : RTurn Q XP p'.room p'.key p'.anc (l'.map refM) (ownR p') w w') (hl : ListOf p' l') (hn : l'.length ≤ N) (hB : ∀ i, Q i → B ≤ i) (hs : B ≤ w.heap.size) : RTurned B N Q XP p' w w' := by
  obtain ⟨Q', Qa', Y, gO, lv', hR, hO, hQ⟩ := h
  refine ⟨Q', ⟨l', Qa', Y, gO, lv', hl, hn, hR, fun i hi => ?_⟩, hO, hQ⟩
  rcases hQ i hi with h | h
  · exact hB i h
  · omega
theorem RAt.size {B N : Nat} {Q : Nat → Prop} {XP : Nat} {p : Po} {w : World} (h : RAt B N Q XP p w) : B ≤ w.heap.size ∧ (∀ i, Q i → B ≤ i) ∧ ∀ i, Q i → i < w.heap.size := by
  obtain ⟨l, Qa, Y, gO, lv, _, _, hR, hB⟩ := h
  have := hB XP hR.mem.1
  have := hR.lt
  exact ⟨by omega, hB, hR.low⟩
theorem RAt.kept {B N : Nat} {Q : Nat → Prop} {XP : Nat} {p : Po} {w w' : World} (h : RAt B N Q XP p w) (hb : ∀ b, Q b → w'.heap[b]? = w.heap[b]?) (hs : w.heap.size ≤ w'.heap.size) : RAt B N Q XP p w' := by
  obtain ⟨l, Qa, Y, gO, lv, h1, h2, hR, hB⟩ := h
  exact ⟨l, Qa, Y, gO, lv, h1, h2, hR.kept hb hs, hB⟩
theorem RAt.more {B N N' : Nat} {Q : Nat → Prop} {XP : Nat} {p : Po} {w : World} (h : RAt B N Q XP p w) (hN : N ≤ N') : RAt B N' Q XP p w := by
  obtain ⟨l, Qa, Y, gO, lv, h1, h2, h3⟩ := h
  exact ⟨l, Qa, Y, gO, lv, h1, Nat.le_trans h2 hN, h3⟩
theorem drain_anc {p : Po} (g : Good p) {id : Int} {m : Mem} (hm : p.all id = some m) (hs : m.state = 1) {b : Nat} (hb : m.bucket = (b : Int)) : (drainP p id m).anc = if 2 ≤ p.act then rem p.anc b else p.anc := by
  have h0 : p.act ≠ 0 := fun e => g.no e id m hm hs
  unfold drainP
  by_cases h1 : p.act = 1
  · rw [if_pos h1, if_neg (by omega)]; rfl
  · rw [if_neg h1, if_pos (by omega), hb]; rfl
section
variable {B N XP : Nat} {Q : Nat → Prop} {p : Po} {w : World}
theorem rat_active (h : RAt B N Q XP p w) (c : Cnt 65535 p) : Calls Try.prog 11 #[.pointer (some ⟨XP, 0, none⟩)] w fun e w' => e = .returned (.int .i64 (p.act : Int)) ∧ w' = w := by
  obtain ⟨l, Qa, Y, gO, lv, h1, _, hR, _⟩ := h
  have := ractive hR
  rwa [h1.act c] at this
theorem rat_drain (h : RAt B N Q XP p w) (c : Cnt 65535 p) (id : Int) :
    Calls Try.prog 21 #[.pointer (some ⟨XP, 0, none⟩), .int .i64 id] w fun e w' => e = .returned (.int .i64 (drainE p id)) ∧ RTurned B N Q XP (drainG p id) w w' := by
  have hsz := h.size.1
  obtain ⟨l, Qa, Y, gO, lv, hl, hN, hR, hB⟩ := h
  have g := c.good
  have ht := hl.there g id
  unfold drainE drainG
  cases hm : p.all id with
  | none =>
    rw [hm] at ht
    refine (rdrain_none hR ht).mono ?_
    rintro e w' ⟨rfl, hT⟩
    exact ⟨rfl, RTurned.of hT hl hN hB hsz⟩
  | some m =>
    obtain ⟨hat, hid⟩ := hl.at g hm
    have hrm : (l.map refM)[placeN id l]? = some (refM m) := by rw [List.getElem?_map, hat]; rfl
    by_cases hs : m.state = 1
    · simp only [hs, if_true]
      obtain ⟨b, hb, hbr, hg, _⟩ := g.at_ id m hm hs
      rw [refM_on hs] at hrm
      have h0 : p.act ≠ 0 := fun e => g.no e id m hm hs
      refine (rdrain_ok hR (place_map id l) hrm hid hs b hb hbr hg (fun h2 => by rw [hl.act c] at h2; rw [g.n.2 h0]; exact h2)).mono ?_
      rintro e w' ⟨rfl, hT⟩
      refine ⟨rfl, RTurned.of (l' := l.set (placeN id l) { m with state := 2 }) ?_ ?_ (by rw [List.length_set]; exact hN) hB hsz⟩
      · rw [drain_key.1, drain_key.2, drain_anc g hm hs hb, ownR_drop (p := p) (b := b) (by rw [drain_own, hb]), List.map_set, ← hl.act c]
        exact hT
      · obtain ⟨e1, e2⟩ := split_set hat { m with state := 2 }
        rw [e2]
        rw [e1] at hl
        exact hl.swap rfl (by rw [drain_all, hid])
    · simp only [hs, if_false]
      refine (rdrain_state hR (place_map id l) hrm (by rw [(refM_id m).1]; exact hid) (by rw [(refM_id m).2.2.2]; exact hs)).mono ?_
      rintro e w' ⟨rfl, hT⟩
      exact ⟨rfl, RTurned.of hT hl hN hB hsz⟩
theorem rat_remove (h : RAt B N Q XP p w) (c : Cnt 65535 p) (hN9 : N < 900000) (id : Int) :
    Calls Try.prog 22 #[.pointer (some ⟨XP, 0, none⟩), .int .i64 id] w fun e w' => e = .returned (.int .i64 (removeE p id)) ∧ RTurned B N Q XP (removeG p id) w w' := by
  have hsz := h.size.1
  obtain ⟨l, Qa, Y, gO, lv, hl, hN, hR, hB⟩ := h
  have g := c.good
  have ht := hl.there g id
  unfold removeE removeG
  cases hm : p.all id with
  | none =>
    rw [hm] at ht
    refine (rremove_none hR ht).mono ?_
    rintro e w' ⟨rfl, hT⟩
    exact ⟨rfl, RTurned.of hT hl hN hB hsz⟩
  | some m =>
    obtain ⟨hat, hid⟩ := hl.at g hm
    have hrm : (l.map refM)[placeN id l]? = some (refM m) := by rw [List.getElem?_map, hat]; rfl
    have hlen : (l.map refM).length < 1000000 := by rw [List.length_map]; omega
    have hcl : (l.take (placeN id l) ++ l.drop (placeN id l + 1)).length ≤ N := by
      rw [List.length_append, List.length_take, List.length_drop]; omega
    have hmap : (l.take (placeN id l) ++ l.drop (placeN id l + 1)).map refM = (l.map refM).take (placeN id l) ++ (l.map refM).drop (placeN id l + 1) := by
      rw [List.map_append, List.map_take, List.map_drop]
    have e1 := (split_set hat m).1
    by_cases hs : m.state = 1
    · simp only [hs, if_true]
      obtain ⟨b, hb, hbr, hg, _⟩ := g.at_ id m hm hs
      rw [refM_on hs] at hrm
      have h0 : p.act ≠ 0 := fun e => g.no e id m hm hs
      refine (rremove_active hR (place_map id l) hrm hid hs b hb hbr hg (fun h2 => by rw [hl.act c] at h2; rw [g.n.2 h0]; exact h2) hlen).mono ?_
      rintro e w' ⟨rfl, hT⟩
      refine ⟨rfl, RTurned.of (l' := l.take (placeN id l) ++ l.drop (placeN id l + 1)) ?_ ?_ hcl hB hsz⟩
      · rw [hmap]
        show RTurn Q XP (drainP p id m).room (drainP p id m).key (drainP p id m).anc _ (ownR (drainP p id m)) w w'
        rw [drain_key.1, drain_key.2, drain_anc g hm hs hb, ownR_drop (p := p) (b := b) (by rw [drain_own, hb]), ← hl.act c]
        exact hT
      · rw [e1] at hl
        refine hl.cut (fun j => ?_)
        show (if j = id then none else (drainP p id m).all j) = _
        rw [drain_all, hid]
        by_cases e : j = id <;> simp [e]
    · simp only [hs, if_false]
      refine (rremove_drained hR (place_map id l) hrm (by rw [(refM_id m).1]; exact hid) (by rw [(refM_id m).2.2.2]; exact hs) hlen).mono ?_
      rintro e w' ⟨rfl, hT⟩
      refine ⟨rfl, RTurned.of (l' := l.take (placeN id l) ++ l.drop (placeN id l + 1)) ?_ ?_ hcl hB hsz⟩
      · rw [hmap]; exact hT
      · rw [e1] at hl
        exact hl.cut (fun j => by show (if j = id then none else p.all j) = _; rw [hid])
end
end Go.Proofs.Ytlipkffnllmkgaa

namespace Go.Proofs.Ytlipkffnllmkgaa
open Go.RowKit Go.Shelf Go.Maps Go.Lib

section
variable {B N XP : Nat} {Q : Nat → Prop} {p : Po} {w : World}
theorem rat_get (h : RAt B N Q XP p w) (c : Cnt 65535 p) (id : Int) :
    Calls Try.prog 23 #[.pointer (some ⟨XP, 0, none⟩), .int .i64 id] w fun e w' => e = .returned (getV p id) ∧ Below w.heap.size w w' := by
  obtain ⟨l, Qa, Y, gO, lv, hl, hN, hR, hB⟩ := h
  have g := c.good
  have ht := hl.there g id
  unfold getV
  cases hm : p.all id with
  | none =>
    rw [hm] at ht
    exact rget_none hR ht
  | some m =>
    obtain ⟨hat, hid⟩ := hl.at g hm
    have hrm : (l.map refM)[placeN id l]? = some (refM m) := by rw [List.getElem?_map, hat]; rfl
    obtain ⟨e1, e2, e3, e4⟩ := refM_id m
    have := rget_ok hR (place_map id l) hrm (by rw [e1]; exact hid)
    rwa [e1, e2, e3, e4] at this
theorem rat_add (h : RAt B N Q XP p w) (c : Cnt 65535 p) (hN9 : N < 900000) (id a pt : Int) :
    Calls Try.prog 20 #[.pointer (some ⟨XP, 0, none⟩), .agg #[.int .i64 id, .int .u32 a, .int .i64 pt]] w fun e w' => e = .returned (.int .i64 (addE p id pt)) ∧ RTurned B (N + 1) Q XP (addG p id a pt) w w' := by
  have hsz := h.size.1
  obtain ⟨l, Qa, Y, gO, lv, hl, hN, hR, hB⟩ := h
  have g := c.good
  have ht := hl.there g id
  have hact := hl.act c
  have hG : addE p id pt ≠ 0 → addG p id a pt = p := fun e => by unfold addG; rw [if_neg e]
  by_cases hok : 1 ≤ id ∧ id ≤ 65535 ∧ 0 ≤ pt ∧ pt ≤ 65535
  · by_cases hm : (p.all id).isSome = true
    · have e : addE p id pt = 20 := by unfold addE; rw [if_pos hok, if_pos hm]
      rw [hG (by rw [e]; decide), e]
      refine (radd_exists hR ⟨hok.1, hok.2.1⟩ hok.2.2 (by rw [ht, hm])).mono ?_
      rintro e w' ⟨rfl, hT⟩
      exact ⟨rfl, RTurned.of hT hl (by omega) hB hsz⟩
    · have hnone : p.all id = none := by simpa using hm
      have htf : thereB id (l.map refM) = false := by rw [ht, hnone]; rfl
      by_cases hf : p.act = p.room
      · have e : addE p id pt = 16 := by unfold addE; rw [if_pos hok, if_neg hm, if_pos hf]
        rw [hG (by rw [e]; decide), e]
        refine (radd_full hR ⟨hok.1, hok.2.1⟩ hok.2.2 htf (by rw [hact, hf])).mono ?_
        rintro e w' ⟨rfl, hT⟩
        exact ⟨rfl, RTurned.of hT hl (by omega) hB hsz⟩
      · have e : addE p id pt = 0 := by unfold addE; rw [if_pos hok, if_neg hm, if_neg hf]
        have hGG : addG p id a pt = addP p id a pt := by unfold addG; rw [if_pos e]
        rw [hGG, e]
        obtain ⟨k, rfl⟩ : ∃ k : Nat, id = (k : Int) := ⟨id.toNat, by omega⟩
        have hlt : p.act < p.room := by have := g.act; omega
        have hbr : newB p < p.room := by
          by_cases h0 : p.act = 0
          · exact (g.first h0).2.1
          · exact (g.next h0 hlt).2.2.1
        have hcase : (actN (l.map refM) ≠ 0 ∧ (∃ st, p.anc.stack = newB p :: st) ∧ addAnc p = back p.anc (newB p)) ∨ (actN (l.map refM) = 0 ∧ addAnc p = p.anc ∧ p.anc.gone (newB p) = 0 ∧ ∀ b, b < p.room → p.anc.gone b = 0 → b = newB p) := by
          rw [hact]
          by_cases h0 : p.act = 0
          · obtain ⟨_, _, f3, f4, _, f6⟩ := g.first h0
            exact .inr ⟨h0, f6, f3, f4⟩
          · obtain ⟨f1, f2, _⟩ := g.next h0 hlt
            exact .inl ⟨h0, f1, f2⟩
        refine (radd_ok hR (by omega) hok.2.2 (place_map _ l) htf (by rw [hact]; exact hf) (by rw [List.length_map]; omega) (newB p) hbr (addAnc p) hcase).mono ?_
        rintro e w' ⟨rfl, hT⟩
        refine ⟨rfl, RTurned.of (l' := l.take (placeN (k : Int) l) ++ [⟨k, a, pt, 1, newB p⟩] ++ l.drop (placeN (k : Int) l)) ?_ ?_ ?_ hB hsz⟩
        · show RTurn Q XP p.room p.key (addAnc p) _ (ownR (addP p k a pt)) w w'
          rw [ownR_set (p := p) (b := newB p) (id := k) rfl, List.map_append, List.map_append, List.map_take, List.map_drop]
          exact hT
        · exact hl.add (m := ⟨k, a, pt, 1, newB p⟩) hnone rfl
        · simp only [List.length_append, List.length_take, List.length_drop, List.length_cons, List.length_nil]
          omega
  · have e : addE p id pt = 1 := by unfold addE; rw [if_neg hok]
    rw [hG (by rw [e]; decide), e]
    refine (radd_arg hR id a pt hok).mono ?_
    rintro e w' ⟨rfl, hT⟩
    exact ⟨rfl, RTurned.of hT hl (by omega) hB hsz⟩
def goodT (p x y : Int) : Prop := (0 ≤ p ∧ p < 256) ∧ (0 ≤ x ∧ x < 65536) ∧ 0 ≤ y ∧ y < 65536
/-- Both choose the same. -/
theorem choose_both {S : Nat → Prop} {Xp NM BM : Nat} (c : Cnt 65535 p) (pr x y : Int) (s d : Nat) (hs : s < 4294967296) (hd : d < 4294967296) :
    ∃ (i a q : Int) (ok : Bool), (∀ W, PoolAt BM S Xp NM p W → Calls Try.prog 17 #[.pointer (some ⟨Xp, 0, none⟩), .agg #[.int .i64 pr, .int .u32 (s : Int), .int .u32 (d : Int), .int .i64 x, .int .i64 y]] W fun e w' => e = .returned (.tuple #[.agg #[.int .i64 i, .int .u32 a, .int .i64 q], .bool ok]) ∧ Below W.heap.size W w') ∧
      (∀ W, RAt B N Q XP p W → Calls Try.prog 24 #[.pointer (some ⟨XP, 0, none⟩), .agg #[.int .i64 pr, .int .u32 (s : Int), .int .u32 (d : Int), .int .i64 x, .int .i64 y]] W fun e w' => e = .returned (.tuple #[.agg #[.int .i64 i, .int .u32 a, .int .i64 q], .bool ok]) ∧ Below W.heap.size W w') := by
  have g := c.good
  by_cases hg : (0 ≤ pr ∧ pr < 256) ∧ (0 ≤ x ∧ x < 65536) ∧ 0 ≤ y ∧ y < 65536
  · obtain ⟨pr, rfl⟩ : ∃ k : Nat, pr = (k : Int) := ⟨pr.toNat, by omega⟩
    obtain ⟨x, rfl⟩ : ∃ k : Nat, x = (k : Int) := ⟨x.toNat, by omega⟩
    obtain ⟨y, rfl⟩ : ∃ k : Nat, y = (k : Int) := ⟨y.toNat, by omega⟩
    by_cases h0 : p.act = 0
    · refine ⟨0, 0, 0, false, fun W hW => at_choose_none hW h0 pr s d x y (by omega) hs hd (by omega) (by omega), fun W hW => ?_⟩
      obtain ⟨l, Qa, Y, gO, lv, hl, hN, hR, hB⟩ := hW
      exact rchoose_none hR _ _ _ s d hs hd (.inr (by rw [hl.act c]; exact h0))
    · obtain ⟨r, id, m, hf, hr, ho, hm, _, hid, h1, h2⟩ := g.pick h0 (tupK p.key pr s d x y)
      refine ⟨id, m.addr, m.port, true, fun W hW => at_choose hW g h0 pr s d x y (by omega) hs hd (by omega) (by omega) ⟨r, hf, ho⟩ hm, fun W hW => ?_⟩
      obtain ⟨l, Qa, Y, gO, lv, hl, hN, hR, hB⟩ := hW
      have hoR : ((ownR p r : Nat) : Int) = id := by unfold ownR; rw [ho]; simp; omega
      obtain ⟨hat, _⟩ := hl.at g hm
      have hrm : (l.map refM)[placeN id l]? = some (refM m) := by rw [List.getElem?_map, hat]; rfl
      obtain ⟨e1, e2, e3, e4⟩ := refM_id m
      have := rchoose_ok hR g.key pr s d x y (by omega) hs hd (by omega) (by omega) (by rw [hl.act c]; exact h0) _ r (tupK_eq p.key pr s d x y) hf hr (i := placeN id l) (by rw [hoR]; exact place_map id l) hrm (by rw [e1, hoR]; exact hid)
      rwa [e1, e2, e3, hid] at this
  · refine ⟨0, 0, 0, false, fun W hW => ?_, fun W hW => ?_⟩
    · obtain ⟨Sa, X, M, O, n, hP, hn, hB⟩ := hW
      exact choose_bad hP pr x y s d hs hd hg
    · obtain ⟨l, Qa, Y, gO, lv, hl, hN, hR, hB⟩ := hW
      exact rchoose_none hR _ _ _ s d hs hd (.inl hg)
theorem rat_new {r : Nat} {key : ByteArray} {w w' : World} (h : NewR r key XP w w') (hB : B ≤ w.heap.size) : RAt B 0 (fun b => w.heap.size ≤ b ∧ b < w'.heap.size) XP (newPo r key) w' := by
  obtain ⟨⟨Qa, Y, gO, hR⟩, _⟩ := h
  exact ⟨[], Qa, Y, gO, _, ListOf.new r key, Nat.le_refl _, hR, fun i hi => by have := hi.1; omega⟩
end
end Go.Proofs.Ytlipkffnllmkgaa

namespace Go.Proofs.Ytlipkffnllmkgaa
open Go.RowKit Go.Shelf Go.Maps Go.Lib

/-- The program's pool and the reference's, side by side; the blocks of G are of neither. -/
def Both (B Xp XP N : Nat) (p q : Po) (G : List Nat) (Y : World) : Prop :=
  ∃ S Q, PoolAt B S Xp N p Y ∧ RAt B N Q XP q Y ∧ (∀ i, S i → ¬ Q i) ∧ ∀ i ∈ G, ¬ S i ∧ ¬ Q i ∧ i < Y.heap.size
/-- What a turn of one of both leaves. -/
def After (B Xp XP N : Nat) (p q : Po) (G : List Nat) (Y Y' : World) : Prop := Both B Xp XP N p q G Y' ∧ Below B Y Y' ∧ ∀ i ∈ G, Y'.heap[i]? = Y.heap[i]?
section
variable {B Xp XP N : Nat} {p q : Po} {G : List Nat} {Y Y' : World}
theorem Both.below (h : Both B Xp XP N p q G Y) (hb : Below Y.heap.size Y Y') : Both B Xp XP N p q G Y' := by
  obtain ⟨S, Q, h1, h2, h3, h4⟩ := h
  exact ⟨S, Q, at_below h1 hb, h2.kept (fun b hQ => hb.block b (h2.size.2.2 b hQ)) hb.size, h3, fun i hi => ⟨(h4 i hi).1, (h4 i hi).2.1, Nat.lt_of_lt_of_le (h4 i hi).2.2 hb.size⟩⟩
theorem Both.more {N' : Nat} (h : Both B Xp XP N p q G Y) (hN : N ≤ N') : Both B Xp XP N' p q G Y := by
  obtain ⟨S, Q, h1, h2, h3, h4⟩ := h
  exact ⟨S, Q, h1.more hN, h2.more hN, h3, h4⟩
theorem Both.size (h : Both B Xp XP N p q G Y) : B ≤ Y.heap.size := by
  obtain ⟨S, Q, h1, h2, _⟩ := h
  exact h2.size.1
theorem Both.guard (h : Both B Xp XP N p q G Y) (ob : Obj) : Both B Xp XP N p q (Y.heap.size :: G) (Y.alloc ob) := by
  have hb : Below Y.heap.size Y (Y.alloc ob) := (Below.refl _ _).alloc (Nat.le_refl _) _
  obtain ⟨S, Q, h1, h2, h3, h4⟩ := h.below hb
  obtain ⟨S0, Q0, k1, k2, k3, k4⟩ := h
  refine ⟨S0, Q0, at_below k1 hb, k2.kept (fun b hQ => hb.block b (k2.size.2.2 b hQ)) hb.size, k3, fun i hi => ?_⟩
  rcases List.mem_cons.1 hi with rfl | hi
  · exact ⟨fun hS => by have := k1.low.1 _ hS; omega, fun hQ => by have := k2.size.2.2 _ hQ; omega, by simp⟩
  · have := k4 i hi
    exact ⟨this.1, this.2.1, by simp; omega⟩
theorem Both.drop {x : Nat} (h : Both B Xp XP N p q (x :: G) Y) : Both B Xp XP N p q G Y := by
  obtain ⟨S, Q, h1, h2, h3, h4⟩ := h
  exact ⟨S, Q, h1, h2, h3, fun i hi => h4 i (List.mem_cons_of_mem _ hi)⟩
theorem both_main {N' : Nat} {p' : Po} (h : Both B Xp XP N p q G Y) (hN : N ≤ N') {f : FuncId} {args : Array Value} {R : Ending} (hc : ∀ S, PoolAt B S Xp N p Y → Calls Try.prog f args Y fun e w' => e = R ∧ Turned B S Xp N' p' Y w') :
    Calls Try.prog f args Y fun e w' => e = R ∧ After B Xp XP N' p' q G Y w' := by
  obtain ⟨S, Q, h1, h2, h3, h4⟩ := h
  refine (hc S h1).mono ?_
  rintro e w' ⟨he, S', k1, k2, k3⟩
  have hsz := h2.size
  refine ⟨he, ⟨S', Q, k1, (h2.kept (fun b hQ => k2.block b (hsz.2.2 b hQ) (fun hS => h3 b hS hQ)) k2.size).more hN, fun i hi hQ => ?_, fun i hi => ⟨fun hS' => ?_, (h4 i hi).2.1, Nat.lt_of_lt_of_le (h4 i hi).2.2 k2.size⟩⟩, k2.below hsz.1 h1.low.2.1, fun i hi => k2.block i (h4 i hi).2.2 (h4 i hi).1⟩
  · rcases k3 i hi with e | e
    · exact h3 i e hQ
    · have := hsz.2.2 i hQ; omega
  · rcases k3 i hS' with e | e
    · exact (h4 i hi).1 e
    · have := (h4 i hi).2.2; omega
theorem both_ref {N' : Nat} {q' : Po} (h : Both B Xp XP N p q G Y) (hN : N ≤ N') {f : FuncId} {args : Array Value} {R : Ending} (hc : ∀ Q, RAt B N Q XP q Y → Calls Try.prog f args Y fun e w' => e = R ∧ RTurned B N' Q XP q' Y w') :
    Calls Try.prog f args Y fun e w' => e = R ∧ After B Xp XP N' p q' G Y w' := by
  obtain ⟨S, Q, h1, h2, h3, h4⟩ := h
  refine (hc Q h2).mono ?_
  rintro e w' ⟨he, Q', k1, k2, k3⟩
  have hsz := h2.size
  have hlow := h1.low
  refine ⟨he, ⟨S, Q', (h1.kept (fun b hS => k2.block b (hlow.1 b hS) (h3 b hS)) k2.size).more hN, k1, fun i hi hQ => ?_, fun i hi => ⟨(h4 i hi).1, fun hQ' => ?_, Nat.lt_of_lt_of_le (h4 i hi).2.2 k2.size⟩⟩, k2.below hsz.1 hsz.2.1, fun i hi => k2.block i (h4 i hi).2.2 (h4 i hi).2.1⟩
  · rcases k3 i hQ with e | e
    · exact h3 i hi e
    · have := hlow.1 i hi; omega
  · rcases k3 i hQ' with e | e
    · exact (h4 i hi).2.1 e
    · have := (h4 i hi).2.2; omega
theorem After.trans {N' : Nat} {p1 q1 p2 q2 : Po} {Y1 Y2 : World} (h : After B Xp XP N p1 q1 G Y Y1) (k : After B Xp XP N' p2 q2 G Y1 Y2) : After B Xp XP N' p2 q2 G Y Y2 :=
  ⟨k.1, h.2.1.trans k.2.1, fun i hi => (k.2.2 i hi).trans (h.2.2 i hi)⟩
variable (h : Both B Xp XP N p q G Y)
include h
theorem both_add (g : Good p) (hN : N + 1 < maxLen) {id a pt : Int} (hw : (Lit.int .i64 id).wf = true) : Calls Try.prog 13 #[.pointer (some ⟨Xp, 0, none⟩), .agg #[.int .i64 id, .int .u32 a, .int .i64 pt]] Y fun e w' => e = .returned (.int .i64 (addE p id pt)) ∧ After B Xp XP (N + 1) (addG p id a pt) q G Y w' :=
  both_main h (by omega) fun _ k => at_add_any k g hN hw
theorem both_radd (c : Cnt 65535 q) (hN : N < 900000) (id a pt : Int) : Calls Try.prog 20 #[.pointer (some ⟨XP, 0, none⟩), .agg #[.int .i64 id, .int .u32 a, .int .i64 pt]] Y fun e w' => e = .returned (.int .i64 (addE q id pt)) ∧ After B Xp XP (N + 1) p (addG q id a pt) G Y w' :=
  both_ref h (by omega) fun _ k => rat_add k c hN id a pt
theorem both_drain (g : Good p) (hN : N < maxLen) {id : Int} (hid : -9223372036854775808 ≤ id ∧ id ≤ 9223372036854775807) : Calls Try.prog 14 #[.pointer (some ⟨Xp, 0, none⟩), .int .i64 id] Y fun e w' => e = .returned (.int .i64 (drainE p id)) ∧ After B Xp XP (N + 1) (drainG p id) q G Y w' :=
  both_main h (by omega) fun _ k => at_drain_any k g hN hid
theorem both_rdrain (c : Cnt 65535 q) (id : Int) : Calls Try.prog 21 #[.pointer (some ⟨XP, 0, none⟩), .int .i64 id] Y fun e w' => e = .returned (.int .i64 (drainE q id)) ∧ After B Xp XP N p (drainG q id) G Y w' :=
  both_ref h (Nat.le_refl _) fun _ k => rat_drain k c id
theorem both_remove (g : Good p) {id : Int} (hid : -9223372036854775808 ≤ id ∧ id ≤ 9223372036854775807) : Calls Try.prog 16 #[.pointer (some ⟨Xp, 0, none⟩), .int .i64 id] Y fun e w' => e = .returned (.int .i64 (removeE p id)) ∧ After B Xp XP N (removeG p id) q G Y w' :=
  both_main h (Nat.le_refl _) fun _ k => at_remove_any k g hid
theorem both_rremove (c : Cnt 65535 q) (hN : N < 900000) (id : Int) : Calls Try.prog 22 #[.pointer (some ⟨XP, 0, none⟩), .int .i64 id] Y fun e w' => e = .returned (.int .i64 (removeE q id)) ∧ After B Xp XP N p (removeG q id) G Y w' :=
  both_ref h (Nat.le_refl _) fun _ k => rat_remove k c hN id
theorem both_get {id : Int} (hid : -9223372036854775808 ≤ id ∧ id ≤ 9223372036854775807) : Calls Try.prog 15 #[.pointer (some ⟨Xp, 0, none⟩), .int .i64 id] Y fun e w' => e = .returned (getV p id) ∧ Below Y.heap.size Y w' := by
  obtain ⟨S, Q, h1, h2, h3, h4⟩ := h
  exact at_get_any h1 hid
theorem both_rget (c : Cnt 65535 q) (id : Int) : Calls Try.prog 23 #[.pointer (some ⟨XP, 0, none⟩), .int .i64 id] Y fun e w' => e = .returned (getV q id) ∧ Below Y.heap.size Y w' := by
  obtain ⟨S, Q, h1, h2, h3, h4⟩ := h
  exact rat_get h2 c id
theorem both_active : Calls Try.prog 10 #[.pointer (some ⟨Xp, 0, none⟩)] Y fun e w' => e = .returned (.int .i64 (p.act : Int)) ∧ w' = Y := by
  obtain ⟨S, Q, h1, _⟩ := h
  exact at_active h1 _ rfl
theorem both_ractive (c : Cnt 65535 q) : Calls Try.prog 11 #[.pointer (some ⟨XP, 0, none⟩)] Y fun e w' => e = .returned (.int .i64 (q.act : Int)) ∧ w' = Y := by
  obtain ⟨S, Q, h1, h2, _⟩ := h
  exact rat_active h2 c
end
/-- Both choose the same. -/
theorem both_choose {B Xp XP N : Nat} {p : Po} {G : List Nat} {Y : World} (h : Both B Xp XP N p p G Y) (c : Cnt 65535 p) (pr x y : Int) (s d : Nat) (hs : s < 4294967296) (hd : d < 4294967296) :
    ∃ (i a q : Int) (ok : Bool), ∀ W, Below Y.heap.size Y W → (Calls Try.prog 17 #[.pointer (some ⟨Xp, 0, none⟩), .agg #[.int .i64 pr, .int .u32 (s : Int), .int .u32 (d : Int), .int .i64 x, .int .i64 y]] W fun e w' => e = .returned (.tuple #[.agg #[.int .i64 i, .int .u32 a, .int .i64 q], .bool ok]) ∧ Below W.heap.size W w') ∧
      (Calls Try.prog 24 #[.pointer (some ⟨XP, 0, none⟩), .agg #[.int .i64 pr, .int .u32 (s : Int), .int .u32 (d : Int), .int .i64 x, .int .i64 y]] W fun e w' => e = .returned (.tuple #[.agg #[.int .i64 i, .int .u32 a, .int .i64 q], .bool ok]) ∧ Below W.heap.size W w') := by
  obtain ⟨S, Q, h1, h2, _⟩ := h
  obtain ⟨i, a, q, ok, k1, k2⟩ := choose_both (B := B) (N := N) (XP := XP) (Q := Q) (S := S) (Xp := Xp) (NM := N) (BM := B) c pr x y s d hs hd
  exact ⟨i, a, q, ok, fun W hW => ⟨k1 W (at_below h1 hW), k2 W (h2.kept (fun b hQ => hW.block b (h2.size.2.2 b hQ)) hW.size)⟩⟩
end Go.Proofs.Ytlipkffnllmkgaa
