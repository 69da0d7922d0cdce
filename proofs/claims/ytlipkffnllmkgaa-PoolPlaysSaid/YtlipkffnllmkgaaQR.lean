import Derived.Test.YtlipkffnllmkgaaHK
import Derived.Test.YtlipkffnllmkgaaQD
import Derived.Test.YtlipkffnllmkgaaQB
import Derived.Test.YtlipkffnllmkgaaHM
namespace Go.Proofs.Ytlipkffnllmkgaa
open Go.RowKit Go.Shelf Go.Maps

/-- What each deed answers, and what the pool is behind it. -/
def addE (p : Po) (id pt : Int) : Int := if 1 ≤ id ∧ id ≤ 65535 ∧ 0 ≤ pt ∧ pt ≤ 65535 then (if (p.all id).isSome = true then 20 else if p.act = p.room then 16 else 0) else 1
def addG (p : Po) (id a pt : Int) : Po := if addE p id pt = 0 then addP p id a pt else p
def drainE (p : Po) (id : Int) : Int := match p.all id with
  | none => 19
  | some m => if m.state = 1 then 0 else 15
def drainG (p : Po) (id : Int) : Po := match p.all id with
  | none => p
  | some m => if m.state = 1 then drainP p id m else p
def removeE (p : Po) (id : Int) : Int := if (p.all id).isSome = true then 0 else 19
def removeG (p : Po) (id : Int) : Po := match p.all id with
  | none => p
  | some m => if m.state = 1 then (drainP p id m).gone id else p.gone id

theorem addE_zero {p : Po} {id pt : Int} (h : addE p id pt = 0) : (1 ≤ id ∧ id ≤ 65535) ∧ (0 ≤ pt ∧ pt ≤ 65535) ∧ p.all id = none ∧ p.act ≠ p.room := by
  unfold addE at h
  split at h
  · next g =>
    split at h
    · cases h
    · next g2 =>
      split at h
      · cases h
      · next g3 => exact ⟨⟨g.1, g.2.1⟩, g.2.2, by cases e : p.all id with | none => rfl | some m => rw [e] at g2; exact (g2 rfl).elim, g3⟩
  · cases h
theorem Good.addG {p : Po} (h : Good p) (id a pt : Int) : Good (addG p id a pt) := by
  unfold Ytlipkffnllmkgaa.addG
  split
  · next e =>
    obtain ⟨g1, _, g2, g3⟩ := addE_zero e
    exact h.add a pt g2 (by have := h.act; omega) g1
  · exact h
theorem Good.drainG {p : Po} (h : Good p) (id : Int) : Good (drainG p id) := by
  unfold Ytlipkffnllmkgaa.drainG
  split
  · exact h
  · next m e =>
    split
    · next hs => exact h.drain e hs
    · exact h
theorem drained_all {p : Po} {id : Int} {m : Mem} : (drainP p id m).all id = some { m with state := 2 } := by rw [drain_all]; simp
theorem Good.removeG {p : Po} (h : Good p) (id : Int) : Good (removeG p id) := by
  unfold Ytlipkffnllmkgaa.removeG
  split
  · exact h
  · next m e =>
    split
    · next hs => exact (h.drain e hs).leave (m := { m with state := 2 }) drained_all (by simp)
    · next hs => exact h.leave e hs

theorem at_add_any {B Xp N : Nat} {S : Nat → Prop} {p : Po} {w : World} (h : PoolAt B S Xp N p w) (g : Good p) (hN : N + 1 < maxLen) {id a pt : Int} (hw : (Lit.int .i64 id).wf = true) :
    Calls Try.prog 13 #[.pointer (some ⟨Xp, 0, none⟩), .agg #[.int .i64 id, .int .u32 a, .int .i64 pt]] w fun e w' => e = .returned (.int .i64 (addE p id pt)) ∧ Turned B S Xp (N + 1) (addG p id a pt) w w' := by
  have hl := h
  obtain ⟨Sa, X, M, O, n, hP, hn, hB⟩ := h
  by_cases g1 : 1 ≤ id ∧ id ≤ 65535 ∧ 0 ≤ pt ∧ pt ≤ 65535
  · by_cases g2 : (p.all id).isSome = true
    · have e : addE p id pt = 20 := by unfold addE; rw [if_pos g1, if_pos g2]
      have e2 : addG p id a pt = p := by unfold addG; rw [e, if_neg (by omega)]
      rw [e, e2]
      refine (pool_exists hP hw ⟨g1.1, g1.2.1⟩ g1.2.2 g2).mono ?_
      rintro e w' ⟨he, hb⟩
      exact ⟨he, turned_below hl (by omega) hb⟩
    · have g3 : p.all id = none := by cases e : p.all id with | none => rfl | some m => rw [e] at g2; exact (g2 rfl).elim
      by_cases g4 : p.act = p.room
      · have e : addE p id pt = 16 := by unfold addE; rw [if_pos g1, if_neg g2, if_pos g4]
        have e2 : addG p id a pt = p := by unfold addG; rw [e, if_neg (by omega)]
        rw [e, e2]
        refine (pool_full hP hw ⟨g1.1, g1.2.1⟩ g1.2.2 g3 g4).mono ?_
        rintro e w' ⟨he, hb⟩
        exact ⟨he, turned_below hl (by omega) hb⟩
      · have e : addE p id pt = 0 := by unfold addE; rw [if_pos g1, if_neg g2, if_neg g4]
        have e2 : addG p id a pt = addP p id a pt := by unfold addG; rw [e, if_pos rfl]
        rw [e, e2]
        exact at_add hl g hN ⟨g1.1, g1.2.1⟩ g1.2.2 g3 (by have := g.act; omega)
  · have e : addE p id pt = 1 := by unfold addE; rw [if_neg g1]
    have e2 : addG p id a pt = p := by unfold addG; rw [e, if_neg (by omega)]
    rw [e, e2]
    refine (pool_arg hP hw g1).mono ?_
    rintro e w' ⟨he, hb⟩
    exact ⟨he, turned_below hl (by omega) hb⟩
theorem at_drain_any {B Xp N : Nat} {S : Nat → Prop} {p : Po} {w : World} (h : PoolAt B S Xp N p w) (g : Good p) (hN : N < maxLen) {id : Int} (hid : -9223372036854775808 ≤ id ∧ id ≤ 9223372036854775807) :
    Calls Try.prog 14 #[.pointer (some ⟨Xp, 0, none⟩), .int .i64 id] w fun e w' => e = .returned (.int .i64 (drainE p id)) ∧ Turned B S Xp (N + 1) (drainG p id) w w' := by
  cases hm : p.all id with
  | none =>
    have e : drainE p id = 19 := by unfold drainE; rw [hm]
    have e2 : drainG p id = p := by unfold drainG; rw [hm]
    rw [e, e2]
    refine (at_drain_none h hid hm).mono ?_
    rintro e w' ⟨he, hb⟩
    exact ⟨he, turned_below h (by omega) hb⟩
  | some m =>
    by_cases hs : m.state = 1
    · have e : drainE p id = 0 := by unfold drainE; rw [hm]; dsimp only; rw [if_pos hs]
      have e2 : drainG p id = drainP p id m := by unfold drainG; rw [hm]; dsimp only; rw [if_pos hs]
      rw [e, e2]
      exact at_drain h g hN hm hs
    · have e : drainE p id = 15 := by unfold drainE; rw [hm]; dsimp only; rw [if_neg hs]
      have e2 : drainG p id = p := by unfold drainG; rw [hm]; dsimp only; rw [if_neg hs]
      rw [e, e2]
      refine (at_drain_state h hid hm hs).mono ?_
      rintro e w' ⟨he, hb⟩
      exact ⟨he, turned_below h (by omega) hb⟩
theorem gone_put {p : Po} {id : Int} {m : Mem} : (Po.put p id m).gone id = p.gone id := by
  unfold Po.gone Po.put
  congr 1
  funext j
  dsimp only
  by_cases h : j = id
  · rw [if_pos h, if_pos h]
  · rw [if_neg h, if_neg h, if_neg h]
theorem at_remove_any {B Xp N : Nat} {S : Nat → Prop} {p : Po} {w : World} (h : PoolAt B S Xp N p w) (g : Good p) {id : Int} (hid : -9223372036854775808 ≤ id ∧ id ≤ 9223372036854775807) :
    Calls Try.prog 16 #[.pointer (some ⟨Xp, 0, none⟩), .int .i64 id] w fun e w' => e = .returned (.int .i64 (removeE p id)) ∧ Turned B S Xp N (removeG p id) w w' := by
  cases hm : p.all id with
  | none =>
    have e : removeE p id = 19 := by unfold removeE; rw [hm]; rfl
    have e2 : removeG p id = p := by unfold removeG; rw [hm]
    rw [e, e2]
    have hl := h
    obtain ⟨Sa, X, M, O, n, hP, hn, hB⟩ := h
    refine (remove_nobody hP (i64_wf' hid.1 hid.2) hm).mono ?_
    rintro e w' ⟨he, hb⟩
    exact ⟨he, turned_below hl (by omega) hb⟩
  | some m =>
    have e : removeE p id = 0 := by unfold removeE; rw [hm]; rfl
    rw [e]
    by_cases hs : m.state = 1
    · have e2 : removeG p id = (drainP p id m).gone id := by unfold removeG; rw [hm]; dsimp only; rw [if_pos hs]
      rw [e2]
      obtain ⟨Sa, X, M, O, n, hP, hn, hB⟩ := h
      obtain ⟨b, hb, b1, b2, b3⟩ := g.at_ id m hm hs
      obtain ⟨I, hr⟩ := g.inv
      have hr2 := g.r2
      have hact : p.act ≠ 0 := fun e => g.no e id m hm hs
      have hBw : B ≤ w.heap.size := by have := hB _ hP.mem.1; have := hP.low _ hP.mem.1; omega
      have hle := g.act
      by_cases h1 : p.act = 1
      · refine (remove_last hP (i64_wf' hid.1 hid.2) hm hs b hb h1 (i64_wf' (by omega) (by omega))).mono ?_
        rintro e w' ⟨he, hP', hO⟩
        refine ⟨he, S, ⟨Sa, X, M, O, n, ?_, hn, hB⟩, hO, fun i hi => .inl hi⟩
        unfold drainP
        rw [if_pos h1, gone_put, hb]
        exact hP'
      · refine (remove_more hP (i64_wf' hid.1 hid.2) hm hs b hb (by omega) b2 (by omega) (by omega) (g.n.2 hact) (i64_wf' (by omega) (by omega))).mono ?_
        rintro e w' ⟨he, S', Sa', hP', hO, hS⟩
        refine ⟨he, S', ⟨Sa', X, M, O, n, ?_, hn, fun i hi => ?_⟩, hO, hS⟩
        · unfold drainP
          rw [if_neg h1, gone_put, hb, Int.toNat_natCast]
          exact hP'
        · rcases hS i hi with e | e
          · exact hB i e
          · omega
    · have e2 : removeG p id = p.gone id := by unfold removeG; rw [hm]; dsimp only; rw [if_neg hs]
      rw [e2]
      exact at_remove_drained h hid hm hs
/-- Get of whoever it be. -/
def getV (p : Po) (id : Int) : Value := match p.all id with
  | none => .tuple #[.agg #[.int .i64 0, .int .u32 0, .int .i64 0], .int .i64 0, .int .i64 19]
  | some m => .tuple #[.agg #[.int .i64 m.id, .int .u32 m.addr, .int .i64 m.port], .int .i64 m.state, .int .i64 0]
theorem at_get_any {B Xp N : Nat} {S : Nat → Prop} {p : Po} {w : World} (h : PoolAt B S Xp N p w) {id : Int} (hid : -9223372036854775808 ≤ id ∧ id ≤ 9223372036854775807) :
    Calls Try.prog 15 #[.pointer (some ⟨Xp, 0, none⟩), .int .i64 id] w fun e w' => e = .returned (getV p id) ∧ Below w.heap.size w w' := by
  obtain ⟨Sa, X, M, O, n, hP, hn, hB⟩ := h
  unfold getV
  cases hm : p.all id with
  | none => exact get_none hP (i64_wf' hid.1 hid.2) hm
  | some m => exact get_some hP (i64_wf' hid.1 hid.2) hm
end Go.Proofs.Ytlipkffnllmkgaa

namespace Go.Proofs.Ytlipkffnllmkgaa
open Go.RowKit Go.Shelf Go.Maps

theorem box_go {w w' : World} {b : Nat} {o : Obj} (h : w.heap[b]? = some o) (hB : Below w.heap.size w w') : w'.heap[b]? = some o := (hB.block _ (Array.getElem?_eq_some_iff.1 h).1).trans h
theorem one_new (r : Nat) (h1 : 1 ≤ r) (h3 : r ≤ 65536) (key : ByteArray) (hk : key.size = 16) (B : Nat) (w : World) (hB : B ≤ w.heap.size) :
    Calls Try.prog 7 #[.int .i64 (r : Int), .string key] w fun e w' => ∃ Xp, e = .returned (.tuple #[.pointer (some ⟨Xp, 0, none⟩), .int .i64 0]) ∧ OneP B Xp 0 (newPo r key) w' ∧ Below w.heap.size w w' := by
  refine (at_new r h1 h3 key hk w).mono ?_
  rintro e w' ⟨Xp, he, hP, hb⟩
  exact ⟨Xp, he, ⟨_, hP.down hB⟩, hb⟩
theorem one_add {B Xp N : Nat} {p : Po} {w : World} (h : OneP B Xp N p w) (g : Good p) (hN : N + 1 < maxLen) {id a pt : Int} (hw : (Lit.int .i64 id).wf = true) {r : Int} (hr : addE p id pt = r) {p' : Po} (hp : addG p id a pt = p') :
    Calls Try.prog 13 #[.pointer (some ⟨Xp, 0, none⟩), .agg #[.int .i64 id, .int .u32 a, .int .i64 pt]] w fun e w' => e = .returned (.int .i64 r) ∧ OneP B Xp (N + 1) p' w' ∧ Below B w w' := by
  subst hr hp
  exact h.call (fun S hS => at_add_any hS g hN hw)
theorem one_drain {B Xp N : Nat} {p : Po} {w : World} (h : OneP B Xp N p w) (g : Good p) (hN : N < maxLen) {id : Int} (hid : -9223372036854775808 ≤ id ∧ id ≤ 9223372036854775807) {r : Int} (hr : drainE p id = r) {p' : Po} (hp : drainG p id = p') :
    Calls Try.prog 14 #[.pointer (some ⟨Xp, 0, none⟩), .int .i64 id] w fun e w' => e = .returned (.int .i64 r) ∧ OneP B Xp (N + 1) p' w' ∧ Below B w w' := by
  subst hr hp
  exact h.call (fun S hS => at_drain_any hS g hN hid)
theorem one_remove {B Xp N : Nat} {p : Po} {w : World} (h : OneP B Xp N p w) (g : Good p) {id : Int} (hid : -9223372036854775808 ≤ id ∧ id ≤ 9223372036854775807) {r : Int} (hr : removeE p id = r) {p' : Po} (hp : removeG p id = p') :
    Calls Try.prog 16 #[.pointer (some ⟨Xp, 0, none⟩), .int .i64 id] w fun e w' => e = .returned (.int .i64 r) ∧ OneP B Xp N p' w' ∧ Below B w w' := by
  subst hr hp
  exact h.call (fun S hS => at_remove_any hS g hid)
theorem one_get {B Xp N : Nat} {p : Po} {w : World} (h : OneP B Xp N p w) {id : Int} (hid : -9223372036854775808 ≤ id ∧ id ≤ 9223372036854775807) {v : Value} (hv : getV p id = v) :
    Calls Try.prog 15 #[.pointer (some ⟨Xp, 0, none⟩), .int .i64 id] w fun e w' => e = .returned v ∧ Below w.heap.size w w' := by
  obtain ⟨S, h⟩ := h
  subst hv
  exact at_get_any h hid
theorem one_act {B Xp N : Nat} {p : Po} {w : World} (h : OneP B Xp N p w) (A : Int) (hA : (p.act : Int) = A) : Calls Try.prog 10 #[.pointer (some ⟨Xp, 0, none⟩)] w fun e w' => e = .returned (.int .i64 A) ∧ w' = w := by
  obtain ⟨S, h⟩ := h
  exact at_active h A hA
theorem one_arg {B Xp N : Nat} {p : Po} {w : World} (h : OneP B Xp N p w) {id a pt : Int} (hw : (Lit.int .i64 id).wf = true) (hbad : ¬ (1 ≤ id ∧ id ≤ 65535 ∧ 0 ≤ pt ∧ pt ≤ 65535)) :
    Calls Try.prog 13 #[.pointer (some ⟨Xp, 0, none⟩), .agg #[.int .i64 id, .int .u32 a, .int .i64 pt]] w fun e w' => e = .returned (.int .i64 1) ∧ Below w.heap.size w w' := by
  obtain ⟨S, Sa, X, M, O, n, hP, hn, hB⟩ := h
  exact pool_arg hP hw hbad

/-- The room's pools, one behind the other. -/
def roomS (n i : Nat) : Po := seqP n poKey (fun _ => 0) 0 i
theorem roomS_all {n i : Nat} (h1 : 1 ≤ n) (h2 : n ≤ 8) (h : i ≤ n) : SeqAll n poKey (fun _ => 0) 0 i := seq_all _ _ h1 (by omega) rfl i h
def room1 (n q : Nat) : Po := drainG (roomS n n) ((q + 1 : Nat) : Int)
def room2 (n q : Nat) : Po := addG (room1 n q) 100 0 0
def room3 (n q : Nat) : Po := removeG (room2 n q) ((q + 1 : Nat) : Int)
theorem roomS_add {n i : Nat} (h1 : 1 ≤ n) (h2 : n ≤ 8) (h : i < n) : addE (roomS n i) ((i + 1 : Nat) : Int) 0 = 0 ∧ addG (roomS n i) ((i + 1 : Nat) : Int) 0 0 = roomS n (i + 1) := by
  have hs := roomS_all h1 h2 (Nat.le_of_lt h)
  have e : addE (roomS n i) ((i + 1 : Nat) : Int) 0 = 0 := by
    unfold addE
    rw [if_pos (by omega)]
    have hn : (roomS n i).all ((i + 1 : Nat) : Int) = none := hs.none _ (.inr (by omega))
    rw [hn, if_neg (by simp), if_neg]
    have ha : (roomS n i).act = i := hs.act
    have hr : (roomS n i).room = n := hs.room
    omega
  exact ⟨e, by unfold addG; rw [if_pos e]; rfl⟩
theorem roomS_again {n i : Nat} (h1 : 1 ≤ n) (h2 : n ≤ 8) (h : i < n) : addE (roomS n (i + 1)) ((i + 1 : Nat) : Int) 0 = 20 ∧ addG (roomS n (i + 1)) ((i + 1 : Nat) : Int) 0 0 = roomS n (i + 1) := by
  have hs := roomS_all h1 h2 (show i + 1 ≤ n by omega)
  have e : addE (roomS n (i + 1)) ((i + 1 : Nat) : Int) 0 = 20 := by
    unfold addE
    rw [if_pos (by omega)]
    obtain ⟨m, hm, _⟩ := hs.some (i + 1) (by omega) (Nat.le_refl _)
    have hm : (roomS n (i + 1)).all ((i + 1 : Nat) : Int) = some m := hm
    rw [hm]
    rfl
  exact ⟨e, by unfold addG; rw [if_neg (by omega)]⟩
structure RoomF (n q : Nat) : Prop where
  g0 : Good (roomS n n)
  full : addE (roomS n n) 100 0 = 16 ∧ addG (roomS n n) 100 0 0 = roomS n n
  drain : drainE (roomS n n) ((q + 1 : Nat) : Int) = 0
  g1 : Good (room1 n q)
  more : addE (room1 n q) 100 0 = 0
  g2 : Good (room2 n q)
  again : addE (room2 n q) ((q + 1 : Nat) : Int) 0 = 20 ∧ addG (room2 n q) ((q + 1 : Nat) : Int) 0 0 = room2 n q
  get : ∃ a p : Int, getV (room2 n q) ((q + 1 : Nat) : Int) = .tuple #[.agg #[.int .i64 ((q + 1 : Nat) : Int), .int .u32 a, .int .i64 p], .int .i64 2, .int .i64 0]
  remove : removeE (room2 n q) ((q + 1 : Nat) : Int) = 0
  g3 : Good (room3 n q)
  none : getV (room3 n q) ((q + 1 : Nat) : Int) = .tuple #[.agg #[.int .i64 0, .int .u32 0, .int .i64 0], .int .i64 0, .int .i64 19]
  act : (room3 n q).act = n
  keys : ∃ ks, KeysOf (room3 n q).all ks ∧ ks.length = n
theorem roomF {n q : Nat} (h1 : 1 ≤ n) (h2 : n ≤ 8) (hq : q < n) : RoomF n q := by
  have hs := roomS_all h1 h2 (Nat.le_refl n)
  have ha : (roomS n n).act = n := hs.act
  have hr : (roomS n n).room = n := hs.room
  have g0 : Good (roomS n n) := hs.good
  obtain ⟨m, hm, hst⟩ := hs.some (q + 1) (by omega) (by omega)
  have hm : (roomS n n).all ((q + 1 : Nat) : Int) = some m := hm
  have h100 : (roomS n n).all 100 = none := hs.none _ (.inr (by omega))
  have hidm : m.id = ((q + 1 : Nat) : Int) := (g0.all _ _ hm).1
  have e1 : addE (roomS n n) 100 0 = 16 := by unfold addE; rw [if_pos (by omega), h100, if_neg (by simp), if_pos (by omega)]
  have d1 : room1 n q = drainP (roomS n n) ((q + 1 : Nat) : Int) m := by unfold room1 drainG; rw [hm]; dsimp only; rw [if_pos hst]
  have a1 : (room1 n q).all = fun j => if j = ((q + 1 : Nat) : Int) then some { m with state := 2 } else (roomS n n).all j := by rw [d1, drain_all]
  have c1 : (room1 n q).act + 1 = n := by rw [d1, drain_act g0 hm hst, ha]
  have r1 : (room1 n q).room = n := by rw [d1, drain_key.2, hr]
  have g1 : Good (room1 n q) := g0.drainG _
  have n1 : (room1 n q).all 100 = none := by rw [a1]; dsimp only; rw [if_neg (by omega), h100]
  have e2 : addE (room1 n q) 100 0 = 0 := by unfold addE; rw [if_pos (by omega), n1, if_neg (by simp), if_neg (by omega)]
  have d2 : room2 n q = addP (room1 n q) 100 0 0 := by unfold room2 addG; rw [if_pos e2]
  have a2 : (room2 n q).all = fun j => if j = 100 then some ⟨100, 0, 0, 1, (newB (room1 n q) : Int)⟩ else (room1 n q).all j := by rw [d2]; rfl
  have c2 : (room2 n q).act = (room1 n q).act + 1 := by rw [d2]; rfl
  have g2 : Good (room2 n q) := g1.addG _ _ _
  have m2 : (room2 n q).all ((q + 1 : Nat) : Int) = some { m with state := 2 } := by rw [a2]; dsimp only; rw [if_neg (by omega), a1]; dsimp only; rw [if_pos rfl]
  have e3 : addE (room2 n q) ((q + 1 : Nat) : Int) 0 = 20 := by unfold addE; rw [if_pos (by omega), m2]; rfl
  have d3 : room3 n q = (room2 n q).gone ((q + 1 : Nat) : Int) := by unfold room3 removeG; rw [m2]; dsimp only; rw [if_neg (by simp)]
  have a3 : (room3 n q).all = fun j => if j = ((q + 1 : Nat) : Int) then none else (room2 n q).all j := by rw [d3]; rfl
  have n3 : (room3 n q).all ((q + 1 : Nat) : Int) = none := by rw [a3]; dsimp only; rw [if_pos rfl]
  refine ⟨g0, ⟨e1, by unfold addG; rw [if_neg (by omega)]⟩, by unfold drainE; rw [hm]; dsimp only; rw [if_pos hst], g1, e2, g2, ⟨e3, by unfold addG; rw [if_neg (by omega)]⟩, ⟨m.addr, m.port, ?_⟩, by unfold removeE; rw [m2]; rfl, g2.removeG _, by unfold getV; rw [n3], ?_, ?_⟩
  · unfold getV
    rw [m2]
    dsimp only
    rw [hidm]
  · have : (room3 n q).act = (room2 n q).act := by rw [d3]; rfl
    omega
  · refine ⟨((List.range n).map (fun i => ((i + 1 : Nat) : Int))).erase ((q + 1 : Nat) : Int) ++ [100], ⟨?_, fun x hx => ?_, fun x hx => ?_⟩, ?_⟩
    · have hup : ((List.range n).map (fun i => ((i + 1 : Nat) : Int))).Pairwise (· < ·) := by
        refine List.pairwise_map.2 (List.pairwise_lt_range.imp ?_)
        intro a b h
        omega
      refine List.pairwise_append.2 ⟨hup.sublist List.erase_sublist, List.pairwise_singleton _ _, fun a ha b hb => ?_⟩
      have ha := List.mem_of_mem_erase ha
      simp at ha hb
      omega
    · rw [List.mem_append] at hx
      rcases hx with hx | hx
      · have hx := List.mem_of_mem_erase hx
        simp at hx
        exact i64_wf' (by omega) (by omega)
      · simp at hx
        subst hx
        exact i64_wf' (by omega) (by omega)
    · have hnd : ((List.range n).map (fun i => ((i + 1 : Nat) : Int))).Nodup := by
        refine List.pairwise_map.2 (List.pairwise_lt_range.imp ?_)
        intro a b h
        omega
      rw [List.mem_append, hnd.mem_erase_iff, a3]
      dsimp only
      by_cases h5 : x = ((q + 1 : Nat) : Int)
      · rw [if_pos h5]
        simp
        omega
      · rw [if_neg h5, a2]
        dsimp only
        by_cases h6 : x = 100
        · rw [if_pos h6]; simp [h6]
        · rw [if_neg h6, a1]
          dsimp only
          rw [if_neg h5]
          by_cases h7 : 1 ≤ x ∧ x ≤ (n : Int)
          · obtain ⟨m', hm', _⟩ := hs.some x.toNat (by omega) (by omega)
            rw [show ((x.toNat : Nat) : Int) = x by omega] at hm'
            have hm' : (roomS n n).all x = some m' := hm'
            rw [hm']
            simp
            refine .inl ⟨by omega, x.toNat - 1, by omega, by omega⟩
          · have h8 : (roomS n n).all x = none := hs.none x (by omega)
            rw [h8]
            simp
            refine ⟨fun _ i hi => by omega, h6⟩
    · rw [List.length_append, List.length_erase_of_mem]
      · simp; omega
      · simp
        exact ⟨q, hq, rfl⟩
end Go.Proofs.Ytlipkffnllmkgaa

namespace Go.Proofs.Ytlipkffnllmkgaa
open Go.RowKit Go.Shelf Go.Maps
attribute [local go_sem] Oper.semAt_some

/-- A pool that lies ahead of block L. -/
theorem at_own {B Xp N L : Nat} {S : Nat → Prop} {p : Po} (hS : ∀ i, S i → i < L) {α : Type} : OwnFrom L (fun (_ : α) W => PoolAt B S Xp N p W) := by
  intro s A C row h hg hr
  refine h.kept (fun i hi => hg.block i (h.low.1 i hi) (fun e => ?_)) hg.size
  have := (hr i e.symm).1
  have := hS i hi
  omega

theorem all_stops_at {B Xp N Bx : Nat} {S : Nat → Prop} {p : Po} {w : World} {ks : List Int} (h : PoolAt B S Xp N p w) (hBx : w.heap[Bx]? = some (.cells #[.pointer (some ⟨Xp, 0, none⟩)] 24 (0, 0))) (hks : KeysOf p.all ks) (hN : N ≤ 1000000) {E : Nat → Prop} (hE1 : ∀ i, E i → i < w.heap.size) (hE2 : ¬ E Bx) (hE3 : ∀ i, E i → ¬ S i) :
    SeqStopsK Fence.wide 8 Try.prog 25 #[.pointer (some ⟨Bx, 0, none⟩)] (fun m : MemO p ks => #[Value.agg #[.int .i64 m.val.id, .int .u32 m.val.addr, .int .i64 m.val.port], .int .i64 m.val.state]) (KeepP w.heap.size E) (fun ys => valsM ys = ks.filterMap p.all) (fun pre => valsM pre <+: ks.filterMap p.all) ks.length w := by
  obtain ⟨Sa, X, M, O, n, hP, hn, hB⟩ := h
  exact all_stops hBx hP.cells hP.all hks (Nat.le_trans hn hN) ⟨hP.low _ hP.mem.2.1, Nat.le_refl _⟩ ⟨hE2, fun e => hE3 _ e hP.mem.1, fun e => hE3 _ e hP.mem.2.1, hE1⟩

set_option maxRecDepth 100000 in
set_option maxHeartbeats 4000000 in
theorem walk_PoolRoom (a0 a1 : Int) (w : World) (w0 : (Lit.int .u8 a0).wf = true) (w1 : (Lit.int .u8 a1).wf = true) :
    Calls Try.prog 4 #[.int .u8 a0, .int .u8 a1] w fun e w' => e = .returned (.bool true) ∧ Below w.heap.size w w' := by
  obtain ⟨m0, rfl, hm0⟩ := u8_nat w0
  obtain ⟨m1, rfl, hm1⟩ := u8_nat w1
  obtain ⟨n, hn2⟩ : ∃ n, 1 + m0 % 8 = n := ⟨_, rfl⟩
  have hn : (1 : Int) + (m0 : Int) % 8 = (n : Int) := by omega
  have hn8 : n ≤ 8 := by omega
  have hn1 : 1 ≤ n := by omega
  obtain ⟨q, hq2⟩ : ∃ q, m1 % n = q := ⟨_, rfl⟩
  have hqn : q < n := by rw [← hq2]; exact Nat.mod_lt _ (by omega)
  have hq : (m1 : Int) % (n : Int) = (q : Int) := by omega
  obtain ⟨kk, hkk⟩ : ∃ kk, q + 1 = kk := ⟨_, rfl⟩
  have hkk2 : (1 : Int) + (q : Int) = (kk : Int) := by omega
  have HF := Lib.hid (roomF hn1 hn8 hqn)
  have HB := Lib.hid (Below.refl w.heap.size w)
  clear w0 w1 hn2 hq2
  have ST := Stage.mk 0
  refine calls_of_endsP Try.func4 rfl ?_
  simp only [Try.ntmps4, List.size_toArray, List.length_cons, List.length_nil, Nat.reduceAdd, Nat.reduceSub, Array.replicate_succ, Array.replicate_zero, List.push_toArray, List.append_toArray, List.nil_append, List.cons_append]
  go_wp2_with (first
    | (go_at_call 6; refine (examples13 _).mono ?_; rintro e wx ⟨rfl, hB⟩; replace HB := Lib.hid (below_step HB.out hB); clear hB)
    | (go_at_call 7; refine (one_new n hn1 (by omega) poKey rfl w.heap.size _ HB.out.size).mono ?_; rintro e wa ⟨X, rfl, hA, hB⟩; have HA := Lib.hid hA; replace HB := Lib.hid (below_step HB.out hB); clear hA hB))
  go_loopw [9] (fun i wr => ∃ k : Nat, k ≤ n ∧ i = .int .i64 ((k + 1 : Nat) : Int) ∧ OneP w.heap.size X (2 * k) (roomS n k) wr ∧ Below w.heap.size w wr) (fun i _ => n + 1 - (intOf i).toNat)
  case atStart => exact ⟨0, Nat.zero_le _, rfl, HA.out, HB.out⟩
  case round =>
    obtain ⟨k, hk, rfl, hA, hB⟩ := hrel
    clear HA HB
    have HA := Lib.hid hA
    have HB := Lib.hid hB
    clear hA hB
    obtain ⟨j, hj⟩ : ∃ j, k + 1 = j := ⟨_, rfl⟩
    rw [hj]
    have hwk : (Lit.int .i64 (j : Int)).wf = true := i64_wf' (by omega) (by omega)
    by_cases hlt : k < n
    · have hc : (j : Int) ≤ (n : Int) := by omega
      have R1 := Lib.hid (roomS_add hn1 hn8 hlt)
      have R2 := Lib.hid (roomS_again hn1 hn8 hlt)
      have G1 := Lib.hid (roomS_all hn1 hn8 hk).good
      have G2 := Lib.hid (roomS_all hn1 hn8 (show k + 1 ≤ n by omega)).good
      have HN := Lib.hid (show 2 * k + 1 + 1 < maxLen from by unfold maxLen; omega)
      rw [hj] at R1 R2 G2
      go_wp2_with (first
        | (go_at_call 13; have := (ST : Stage 0); clear this; replace ST := Stage.mk 1; refine (one_add HA.out G1.out (Nat.lt_of_succ_lt HN.out) hwk R1.out.1 R1.out.2).mono ?_; rintro e w1 ⟨rfl, hA, hB⟩; replace HA := Lib.hid hA; replace HB := Lib.hid (HB.out.trans hB); clear hA hB)
        | (go_at_call 13; have := (ST : Stage 1); clear this; replace ST := Stage.mk 2; refine (one_add HA.out G2.out HN.out hwk R2.out.1 R2.out.2).mono ?_; rintro e w2 ⟨rfl, hA, hB⟩; replace HA := Lib.hid hA; replace HB := Lib.hid (HB.out.trans hB); clear hA hB))
      subst hj
      exact ⟨⟨k + 1, by omega, by simp, HA.out, HB.out⟩, by simp [intOf]; omega⟩
    · obtain rfl : k = n := by omega
      have hc : ¬ (j : Int) ≤ (k : Int) := by omega
      have F0 := HF.out
      obtain ⟨ga, gp, hget⟩ := F0.get
      have HGET := Lib.hid hget
      have HN := Lib.hid (show 2 * k + 10 < maxLen from by unfold maxLen; omega)
      have hw100 : (Lit.int .i64 100).wf = true := i64_wf' (by omega) (by omega)
      have hbk : -9223372036854775808 ≤ (kk : Int) ∧ (kk : Int) ≤ 9223372036854775807 := ⟨by omega, by omega⟩
      have HBK := Lib.hid hbk
      have HQ3 := Lib.hid (show -9223372036854775808 ≤ (kk : Int) ∧ (kk : Int) ≤ 9223372036854775807 from hbk)
      have F1 := Lib.hid F0.full
      have F2 := Lib.hid F0.drain
      have F3 := Lib.hid F0.more
      have F4 := Lib.hid F0.again
      have F5 := Lib.hid F0.remove
      have F6 := Lib.hid F0.none
      have D1 := Lib.hid (show drainG (roomS k k) ((q + 1 : Nat) : Int) = room1 k q from rfl)
      have D2 := Lib.hid (show addG (room1 k q) 100 0 0 = room2 k q from rfl)
      have D3 := Lib.hid (show removeG (room2 k q) ((q + 1 : Nat) : Int) = room3 k q from rfl)
      rw [hkk] at F2 F4 F5 F6 D1 D3 HGET
      clear hget F0 hbk hj hwk
      have ST0 := Lib.hid ST
      go_wp2_with (first
        | (go_at_call 13; have := (ST : Stage 0); clear this; replace ST := Stage.mk 1; refine (one_add HA.out HF.out.g0 (by have := HN.out; omega) hw100 F1.out.1 F1.out.2).mono ?_; rintro e w1 ⟨rfl, hA, hB⟩; replace HA := Lib.hid hA; replace HB := Lib.hid (HB.out.trans hB); clear hA hB)
        | (go_at_call 14; refine (one_drain HA.out HF.out.g0 (by have := HN.out; omega) HBK.out F2.out D1.out).mono ?_; rintro e w2 ⟨rfl, hA, hB⟩; replace HA := Lib.hid hA; replace HB := Lib.hid (HB.out.trans hB); clear hA hB)
        | (go_at_call 13; have := (ST : Stage 1); clear this; replace ST := Stage.mk 2; refine (one_add HA.out HF.out.g1 (by have := HN.out; omega) hw100 F3.out D2.out).mono ?_; rintro e w3 ⟨rfl, hA, hB⟩; replace HA := Lib.hid hA; replace HB := Lib.hid (HB.out.trans hB); clear hA hB)
        | (go_at_call 13; have := (ST : Stage 2); clear this; replace ST := Stage.mk 3; refine (one_add HA.out HF.out.g2 (by have := HN.out; omega) (i64_wf' HBK.out.1 HBK.out.2) F4.out.1 F4.out.2).mono ?_; rintro e w4 ⟨rfl, hA, hB⟩; replace HA := Lib.hid hA; replace HB := Lib.hid (HB.out.trans hB); clear hA hB)
        | (go_at_call 15; have := (ST : Stage 3); clear this; replace ST := Stage.mk 4; refine (one_get HA.out HBK.out HGET.out).mono ?_; rintro e w5 ⟨rfl, hB⟩; replace HA := Lib.hid (HA.out.below (hB.trans ((Below.refl _ _).alloc hB.size (.cells #[.int .i64 (kk : Int), .int .u32 ga, .int .i64 gp] 33)))); replace HB := Lib.hid ((below_step HB.out hB).alloc (by have := hB.size; have := HB.out.size; omega) (.cells #[.int .i64 (kk : Int), .int .u32 ga, .int .i64 gp] 33)); clear hB)
        | (go_at_call 16; refine (one_remove HA.out HF.out.g2 HBK.out F5.out D3.out).mono ?_; rintro e w6 ⟨rfl, hA, hB⟩; replace HA := Lib.hid hA; replace HB := Lib.hid (HB.out.trans hB); clear hA hB)
        | (go_at_call 15; have := (ST : Stage 4); clear this; replace ST := Stage.mk 5; refine (one_get HA.out HBK.out F6.out).mono ?_; rintro e w7 ⟨rfl, hB⟩; replace HA := Lib.hid (HA.out.below (hB.trans ((Below.refl _ _).alloc hB.size (.cells #[.int .i64 0, .int .u32 0, .int .i64 0] 33)))); replace HB := Lib.hid ((below_step HB.out hB).alloc (by have := hB.size; have := HB.out.size; omega) (.cells #[.int .i64 0, .int .u32 0, .int .i64 0] 33)); clear hB)
        | (go_at_call 12; refine callsIn_wide.1 ((all12 _ _).mono ?_); rintro e w8 ⟨rfl, rfl⟩))
      obtain ⟨w8, hw8⟩ : ∃ w8, w7.alloc (.cells #[.int .i64 0, .int .u32 0, .int .i64 0] 33) = w8 := ⟨_, rfl⟩
      have hs8 : w7.heap.size + 1 = w8.heap.size := by rw [← hw8]; simp
      rw [hw8] at HA HB
      rw [hw8, hs8]
      clear hw8
      refine (wpIn_wide (n := 9)).1 ?_
      refine wpIn_genP _ ?_
      intro W2 hW2
      refine wpIn_gen _ ?_
      intro A hA
      obtain ⟨C, hC⟩ : ∃ C, w8.heap.size = C := ⟨_, rfl⟩
      have hs2 : W2.heap.size = C + 2 := by rw [hW2, ← hC]; simp
      have hb2 : Below w8.heap.size w8 W2 := by rw [hW2]; exact ((Below.refl _ w8).alloc (Nat.le_refl _) _).alloc (by simp) _
      have hc2 : W2.heap[C]? = some (.cells #[.int .i64 0] 3 (0, 0)) := by
        rw [hW2, ← hC]
        exact (Below.heap_alloc _ _ _ (by simp)).trans (World.alloc_heap_new w8 _)
      have hx2 : W2.heap[C + 1]? = some (.cells #[.pointer (some ⟨X, 0, none⟩)] 24 (0, 0)) := by
        have h5 := World.alloc_heap_new (w8.alloc (.cells #[.int .i64 0] 3)) (.cells #[.pointer (some ⟨X, 0, none⟩)] 24)
        rw [World.size_alloc, ← hW2, hC] at h5
        exact h5
      clear hW2
      obtain ⟨S, hP⟩ := HA.out
      have hlowS : ∀ i, S i → i < C := fun i hi => by have := hP.low.1 i hi; omega
      have hP2 := at_below hP hb2
      have HB2 := Lib.hid (below_step HB.out hb2)
      obtain ⟨ks, hks, hkn⟩ := HF.out.keys
      have hst := all_stops_at hP2 hx2 hks (by omega) (E := fun b => b = C) (fun i e => by omega) (by omega) (fun i e hi => by have := hlowS i hi; omega)
      have hty : ∀ ys : List (MemO (room3 k q) ks), valsM ys = ks.filterMap (room3 k q).all → ys.length = k := fun ys h => by
        have h1 := congrArg List.length h
        have h2 := hks.taken ks.length (Nat.le_refl _)
        rw [List.take_length] at h2
        rw [h2, hkn] at h1
        simpa [valsM] using h1
      have HTY := Lib.hid hty
      have HLS := Lib.hid hlowS
      clear hP hty hlowS
      have HP2 := Lib.hid hP2
      have HC2 := Lib.hid hc2
      clear hP2 hc2 hx2 hb2
      refine wpIn_rangeFunc_ownG (α := MemO (room3 k q) ks) rfl (by omega) (gf := 25) (lb := #[.pointer (some ⟨C + 1, 0, none⟩)]) (by rw [hA, ← hC]; rfl) trivial (enters_of Try.func25 (by kernel_rfl) rfl) hst
        (fun h h' => h.trans h') (fun W l o o' hl hlo hcf _ => KeepP.book W l o o' hl hlo hcf) (Below.refl _ _) (fun _ => rfl)
        (fun pre W => (W.heap[C]? = some (.cells #[.int .i64 (pre.length : Int)] 3 (0, 0)) ∧ PoolAt w.heap.size S X (2 * k + 1 + 1 + 1 + 1) (room3 k q) W) ∧ Below w.heap.size w W)
        (fun _ _ _ => False)
        (OwnFrom.and ?own (ownFrom_below (by have := HB2.out.size; omega) (by have := HB2.out.size; omega)))
        (fun _ s A1 B1 row hs _ _ => hs)
        ⟨⟨HC2.out, HP2.out⟩, HB2.out⟩
        (fun x => { tmps := (A.tmps.setIfInBounds 95 (.agg #[.int .i64 x.val.id, .int .u32 x.val.addr, .int .i64 x.val.port])).setIfInBounds 96 (.int .i64 x.val.state), defers := [] }) ?assign ?body ?done ?stop
      case own =>
        rintro pre A1 B1 row ⟨hv, hP⟩ hg hr
        exact ⟨(hg.block _ (Array.getElem?_eq_some_iff.1 hv).1 (fun e => by have := (hr _ e.symm).1; omega)).trans hv, hP.kept (fun i hi => hg.block i (hP.low.1 i hi) (fun e => by have := (hr _ e.symm).1; have := HLS.out i hi; omega)) hg.size⟩
      case assign =>
        intro l x W K hK
        gi_wp2
        simpa using hK
      case body =>
        rintro l pre x W ⟨⟨hc, hP⟩, hBW⟩ hlen
        obtain ⟨t, ht⟩ : ∃ t, pre.length = t := ⟨_, rfl⟩
        rw [ht] at hc hlen
        have ht8 : (t : Int) < 9 := by omega
        obtain ⟨d0, f0⟩ := cell1 hc
        have HFIN := Lib.hid (show KeepsFrom W2.heap.size W (W.setCell ⟨C, 0, none⟩ (.int .i64 ((t : Int) + 1))) ∧ KeepP W2.heap.size (fun b => b = C) W (W.setCell ⟨C, 0, none⟩ (.int .i64 ((t : Int) + 1))) ∧
          (((W.setCell ⟨C, 0, none⟩ (.int .i64 ((t : Int) + 1))).heap[C]? = some (.cells #[.int .i64 ((t : Int) + 1)] 3 (0, 0)) ∧ PoolAt w.heap.size S X (2 * k + 1 + 1 + 1 + 1) (room3 k q) (W.setCell ⟨C, 0, none⟩ (.int .i64 ((t : Int) + 1)))) ∧ Below w.heap.size w (W.setCell ⟨C, 0, none⟩ (.int .i64 ((t : Int) + 1)))) from
          ⟨(KeepsOthers.setCell _ _ _).from _, ⟨by simp [World.setCell], fun b o hb hne _ => (Below.heap_setCell _ _ _ _ (by simp; exact hne)).trans hb⟩,
            ⟨⟨by simp [World.setCell, Array.getElem?_modify, hc], hP.kept (fun i hi => Below.heap_setCell _ _ _ _ (by have := HLS.out i hi; simp; omega)) (by simp [World.setCell])⟩, hBW.setCell (p := ⟨C, 0, none⟩) (by have := HB.out.size; simp; omega) _⟩⟩)
        clear hc hP hBW
        subst hA
        simp only [List.setIfInBounds_toArray, List.set_cons_zero, List.set_cons_succ]
        gi_wp2
        refine ⟨HFIN.out.1, HFIN.out.2.1, ?_⟩
        dsimp only
        rw [List.length_append, ht]
        exact HFIN.out.2.2
      case done =>
        rintro D ys W hD hys ⟨⟨hc, hP⟩, hBW⟩ hKD
        rw [HTY.out ys hys] at hc
        obtain ⟨d0, f0⟩ := cell1 hc
        have HPW := Lib.hid (show OneP w.heap.size X (2 * k + 1 + 1 + 1 + 1) (room3 k q) W from ⟨_, hP⟩)
        have HBW := Lib.hid hBW
        have HKD := Lib.hid hKD
        have HACT := Lib.hid (show ((room3 k q).act : Int) = (k : Int) from by rw [HF.out.act])
        have hw0 : (Lit.int .i64 0).wf = true := i64_wf' (by omega) (by omega)
        have hw7 : (Lit.int .i64 7).wf = true := i64_wf' (by omega) (by omega)
        clear hc hP hBW hKD hys hst
        replace ST := ST0.out
        subst hA
        go_wp2_with (first
          | (go_at_call 10; refine (one_act HPW.out _ HACT.out).mono ?_; rintro e wq ⟨rfl, rfl⟩)
          | (go_at_call 13; have := (ST : Stage 0); clear this; replace ST := Stage.mk 1; refine (one_arg HPW.out hw0 (by omega)).mono ?_; rintro e w9 ⟨rfl, hB⟩; replace HPW := Lib.hid (HPW.out.below hB); replace HBW := Lib.hid (below_step HBW.out hB); replace HKD := Lib.hid (box_go HKD.out hB); clear hB)
          | (go_at_call 13; have := (ST : Stage 1); clear this; replace ST := Stage.mk 2; refine (one_arg HPW.out hw7 (by omega)).mono ?_; rintro e w10 ⟨rfl, hB⟩; replace HPW := Lib.hid (HPW.out.below hB); replace HBW := Lib.hid (below_step HBW.out hB); replace HKD := Lib.hid (box_go HKD.out hB); clear hB))
        refine ⟨by simp, .inl ⟨_, _, rfl, run_takeDeferred HKD.out, ?_⟩⟩
        exact ⟨.bool true, by simp [results, Try.f4, go_sem], rfl, HBW.out.trans (belowK_b (w := w) (Nat.le_refl _) _ D _ _ (by have := HB2.out.size; omega) HKD.out rfl rfl)⟩
      case stop =>
        rintro D c pre W hD hsp ⟨⟩
end Go.Proofs.Ytlipkffnllmkgaa
