import Derived.Test.YtladjipicifplaaHN
namespace Go.Proofs.Ytladjipicifplaa
open Go.RowKit Go.Shelf Go.Maps

def seqM (i : Nat) : Po := seqP 16 poKey (fun i => (i : Int)) 80 i
theorem seqM_all (i : Nat) (h : i ≤ 16) : SeqAll 16 poKey (fun i => (i : Int)) 80 i := seq_all _ _ (by omega) (by omega) rfl i h
theorem seqM_succ (k : Nat) : addP (seqM k) ((k + 1 : Nat) : Int) ((k + 1 : Nat) : Int) 80 = seqM (k + 1) := rfl
theorem seqM_zero : seqM 0 = newPo 16 poKey := rfl
/-- The number of a client. -/
def cliK (v : Nat) : Nat := tupK poKey 6 v 9 (v % 60000) 80
theorem OneP.down {B B' Xp N : Nat} {p : Po} {w : World} (h : OneP B Xp N p w) (hB : B' ≤ B) : OneP B' Xp N p w := by
  obtain ⟨S, h⟩ := h
  exact ⟨S, h.down hB⟩
theorem one_new (r : Nat) (h1 : 1 ≤ r) (h3 : r ≤ 65536) (key : ByteArray) (hk : key.size = 16) (B : Nat) (w : World) (hB : B ≤ w.heap.size) :
    Calls Try.prog 34 #[.int .i64 (r : Int), .string key] w fun e w' => ∃ Xp, e = .returned (.tuple #[.pointer (some ⟨Xp, 0, none⟩), .int .i64 0]) ∧ OneP B Xp 0 (newPo r key) w' ∧ Below w.heap.size w w' := by
  refine (at_new r h1 h3 key hk w).mono ?_
  rintro e w' ⟨Xp, he, hP, hb⟩
  exact ⟨Xp, he, ⟨_, hP.down hB⟩, hb⟩
theorem one_add {B Xp k j : Nat} {w : World} (h : OneP B Xp k (seqM k) w) (hj : k + 1 = j) (hk : k < 16) :
    Calls Try.prog 35 #[.pointer (some ⟨Xp, 0, none⟩), .agg #[.int .i64 (j : Int), .int .u32 (j : Int), .int .i64 80]] w fun e w' => e = .returned (.int .i64 0) ∧ OneP B Xp (k + 1) (seqM (k + 1)) w' ∧ Below B w w' := by
  subst hj
  have hs := seqM_all k (by omega)
  exact h.call (fun S hS => at_add hS hs.good (by unfold maxLen; omega) (by omega) (by omega) (hs.none _ (.inr (by omega))) (by have e1 : (seqM k).act = k := hs.act; have e2 : (seqM k).room = 16 := hs.room; omega))
theorem pick_says {p : Po} (g : Good p) (hk : p.key = poKey) (v : Nat) (hv : v < 4294967296) {id : Int} (hp : PickId p (cliK v) id) : ∃ a q : Int, Says p v id a q true := by
  have h0 : p.act ≠ 0 := by
    obtain ⟨m, g1, g2, _⟩ := hp.mem g
    exact fun e => g.no e id m g1 g2
  obtain ⟨m, g1, _⟩ := hp.mem g
  unfold cliK at hp
  rw [← hk] at hp
  exact ⟨m.addr, m.port, fun S B Xp N w h => at_choose h g h0 6 v 9 (v % 60000) 80 (by omega) hv (by omega) (by omega) (by omega) hp g1⟩
theorem none_says {p : Po} (h0 : p.act = 0) (v : Nat) (hv : v < 4294967296) : Says p v 0 0 0 false :=
  fun S B Xp N w h => at_choose_none h h0 6 v 9 (v % 60000) 80 (by omega) hv (by omega) (by omega) (by omega)
theorem PR.says {d : Prop} {B C Xp N v : Nat} {p : Po} {i a q : Int} {ok : Bool} {sw : Value} {ws : List Nat} {w : World} (h : PR d B C Xp N p sw ws w) (hs : Says p v i a q ok) :
    Calls Try.prog 37 #[.pointer (some ⟨Xp, 0, none⟩), tupleV 6 v 9 (v % 60000) 80] w fun e w' => e = .returned (.tuple #[.agg #[.int .i64 i, .int .u32 a, .int .i64 q], .bool ok]) ∧ Below w.heap.size w w' := by
  obtain ⟨S, h, _⟩ := h
  exact hs _ _ _ _ _ h
theorem PR.act {d : Prop} {B C Xp N : Nat} {p : Po} {sw : Value} {ws : List Nat} {w : World} (h : PR d B C Xp N p sw ws w) (A : Int) (hA : (p.act : Int) = A) : Calls Try.prog 39 #[.pointer (some ⟨Xp, 0, none⟩)] w fun e w' => e = .returned (.int .i64 A) ∧ w' = w := by
  obtain ⟨S, h, _⟩ := h
  exact at_active h A hA

/-- The pools that follow one another. -/
structure PMoves (n kk : Nat) (P P2 P3 P4 : Po) : Prop where
  g : Good P
  key : P.key = poKey
  act : P.act = n
  range : ∀ k id, PickId P k id → 1 ≤ id ∧ id ≤ (n : Int)
  pick : ∀ k, ∃ r : Nat, PickId P k (r : Int)
  drain : ∀ (B : Nat) (S : Nat → Prop) (Xp N : Nat) (w : World), N < maxLen → PoolAt B S Xp N P w → Calls Try.prog 36 #[.pointer (some ⟨Xp, 0, none⟩), .int .i64 (kk : Int)] w fun e w' => e = .returned (.int .i64 0) ∧ Turned B S Xp (N + 1) P2 w w'
  again : ∀ (B : Nat) (S : Nat → Prop) (Xp N : Nat) (w : World), PoolAt B S Xp N P2 w → Calls Try.prog 36 #[.pointer (some ⟨Xp, 0, none⟩), .int .i64 (kk : Int)] w fun e w' => e = .returned (.int .i64 15) ∧ Below w.heap.size w w'
  act2 : (P2.act : Int) = (n : Int) - 1
  says2 : 2 ≤ n → ∀ v r : Nat, v < 4294967296 → PickId P (cliK v) (r : Int) → ∃ (b : Nat) (a q : Int), Says P2 v (b : Int) a q true ∧ b ≠ kk ∧ (r ≠ kk → b = r)
  none2 : n = 1 → ∀ v : Nat, v < 4294967296 → Says P2 v 0 0 0 false
  remove : ∀ (B : Nat) (S : Nat → Prop) (Xp N : Nat) (w : World), PoolAt B S Xp N P2 w → Calls Try.prog 40 #[.pointer (some ⟨Xp, 0, none⟩), .int .i64 (kk : Int)] w fun e w' => e = .returned (.int .i64 0) ∧ Turned B S Xp N P3 w w'
  add : ∀ (B : Nat) (S : Nat → Prop) (Xp N : Nat) (w : World), N + 1 < maxLen → PoolAt B S Xp N P3 w → Calls Try.prog 35 #[.pointer (some ⟨Xp, 0, none⟩), .agg #[.int .i64 (kk : Int), .int .u32 99, .int .i64 80]] w fun e w' => e = .returned (.int .i64 0) ∧ Turned B S Xp (N + 1) P4 w w'
  says4 : ∀ v r : Nat, v < 4294967296 → PickId P (cliK v) (r : Int) → ∃ (a q : Int), Says P4 v (r : Int) a q true
  act4 : (P4.act : Int) = (n : Int)
theorem moves_all (n kk : Nat) (h1 : 1 ≤ n) (h2 : n ≤ 10) (k1 : 1 ≤ kk) (k2 : kk ≤ n) : ∃ P2 P3 P4, PMoves n kk (seqM n) P2 P3 P4 := by
  have hs := seqM_all n (by omega)
  have g : Good (seqM n) := hs.good
  have hact : (seqM n).act = n := hs.act
  have hroom : (seqM n).room = 16 := hs.room
  have hkey : (seqM n).key = poKey := hs.key
  obtain ⟨m, hm, hms⟩ := hs.some kk k1 k2
  have hm : (seqM n).all (kk : Int) = some m := hm
  have hrange : ∀ k id, PickId (seqM n) k id → 1 ≤ id ∧ id ≤ (n : Int) := fun k id h => hs.range h
  generalize seqM n = P at *
  have g2 := g.drain hm hms
  have hm2 : (drainP P (kk : Int) m).all (kk : Int) = some { m with state := 2 } := by rw [drain_all]; simp
  have g3 := g2.leave hm2 (by simp)
  have hm3 : ((drainP P (kk : Int) m).gone (kk : Int)).all (kk : Int) = none := by show (if (kk : Int) = (kk : Int) then none else _) = none; rw [if_pos rfl]
  have ha2 := drain_act g hm hms
  have ha3 : ((drainP P (kk : Int) m).gone (kk : Int)).act + 1 = n := by rw [← hact, ← ha2]; rfl
  have hr3 : ((drainP P (kk : Int) m).gone (kk : Int)).room = 16 := by rw [← hroom]; exact drain_key.2
  have hk2 : (drainP P (kk : Int) m).key = poKey := by rw [drain_key.1]; exact hkey
  have g4 := g3.add 99 80 hm3 (by omega) (by omega)
  refine ⟨drainP P (kk : Int) m, (drainP P (kk : Int) m).gone (kk : Int), addP ((drainP P (kk : Int) m).gone (kk : Int)) (kk : Int) 99 80, ?_⟩
  refine ⟨g, hkey, hact, hrange, fun k => ?_, fun B S Xp N w hN h => at_drain h g hN hm hms, fun B S Xp N w h => at_drain_state h (by omega) hm2 (by simp), by omega, fun hn v r hv hp => ?_, fun hn v hv => none_says (by omega) v hv, fun B S Xp N w h => at_remove_drained h (by omega) hm2 (by simp), fun B S Xp N w hN h => at_add h g3 hN (by omega) (by omega) hm3 (by omega), fun v r hv hp => ?_, ?_⟩
  · obtain ⟨id, hid⟩ := g.pickId (by omega) k
    have := hrange k id hid
    exact ⟨id.toNat, by rw [Int.toNat_of_nonneg (by omega)]; exact hid⟩
  · by_cases e : r = kk
    · obtain ⟨id, hid⟩ := g2.pickId (by omega) (cliK v)
      have hne := pick_not g hm hms hid
      obtain ⟨x, _, _, _, i1, i2⟩ := hid.mem g2
      obtain ⟨a, q, hsay⟩ := pick_says g2 hk2 v hv hid
      refine ⟨id.toNat, a, q, by rw [Int.toNat_of_nonneg (by omega)]; exact hsay, by omega, fun h => (h e).elim⟩
    · obtain ⟨a, q, hsay⟩ := pick_says g2 hk2 v hv (pick_drain g hm hms (by omega) hp (by omega))
      exact ⟨r, a, q, hsay, e, fun _ => rfl⟩
  · exact pick_says g4 (by show (drainP P (kk : Int) m).key = poKey; exact hk2) v hv (pick_back g hm hms 99 80 hp)
  · show ((((drainP P (kk : Int) m).gone (kk : Int)).act + 1 : Nat) : Int) = (n : Int)
    omega
attribute [irreducible] seqM cliK
end Go.Proofs.Ytladjipicifplaa
