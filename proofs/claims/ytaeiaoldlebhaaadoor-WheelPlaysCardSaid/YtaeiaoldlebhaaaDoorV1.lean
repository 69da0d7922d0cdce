import Derived.Test.YtaeiaoldlebhaaaDoorV0
import Derived.Test.YtaeiaoldlebhaaaDoorW5
import Derived.RangeFuncNested
import Derived.RangeFuncBound
import Derived.RangeFuncCalls
import Derived.RangeFuncLeaves
import Derived.Shelf.Abstract
import Derived.Shelf.RegionOpen
import Derived.OwnWalkIn
import Derived.TacticsInMore
import Derived.LoopNIn
import Derived.LoopIn
namespace Go.Proofs.YtaeiaoldlebhaaaDoor
open Go.RowKit Go.Shelf Go.Maps
attribute [local go_sem] Oper.semAt_some

/-- Cells of integers: what a round may turn of what lies from a block on. -/
def IntRow (o : Obj) : Prop := ∃ c r, o = .cells c 3 r
/-- All from block B on lies as it lay, but rows of integers and block x. -/
def KeepB (B x : Nat) (W W' : World) : Prop := W.heap.size ≤ W'.heap.size ∧ ∀ k o, B ≤ k → k ≠ x → W.heap[k]? = some o → ¬ IntRow o → W'.heap[k]? = some o
theorem KeepB.trans {B x : Nat} {a b c : World} (h : KeepB B x a b) (k : KeepB B x b c) : KeepB B x a c :=
  ⟨Nat.le_trans h.1 k.1, fun i o hB hx hi ho => k.2 i o hB hx (h.2 i o hB hx hi ho) ho⟩
theorem KeepB.put {B x : Nat} (W : World) (o : Obj) : KeepB B x W (W.putObj x o) :=
  ⟨by simp, fun _ _ _ hx hi _ => (World.putObj_heap_other hx).trans hi⟩
theorem KeepB.of_below {B x : Nat} {W W' : World} (h : Below W.heap.size W W') : KeepB B x W W' :=
  ⟨h.size, fun i _ _ _ hi _ => (h.block i (Array.getElem?_eq_some_iff.1 hi).1).trans hi⟩
theorem KeepB.mono {B B' x x' : Nat} {W W' : World} (h : KeepB B x W W') (hB : B ≤ B') (hx : x' = x ∨ x < B') : KeepB B' x' W W' :=
  ⟨h.1, fun i o hi hne ho hn => h.2 i o (by omega) (by rcases hx with e | e; exact e ▸ hne; omega) ho hn⟩
theorem notIntRow {c : Array Value} {t : TypeId} {r : Nat × Nat} (h : t ≠ 3) : ¬ IntRow (.cells c t r) := by
  rintro ⟨c', r', e⟩
  cases e
  exact h rfl

/-- What lies still while the row's iterator goes on. -/
structure ValsHeld (Bv g n cap : Nat) (cur : Array Value) (W : World) : Prop where
  bx : W.heap[Bv]? = some (.cells #[.slice (some ⟨g, 0, none⟩) n cap] 100 (0, 0))
  row : W.heap[g]? = some (.cells cur 109 (0, 0))
theorem ValsHeld.keep {Bv g n cap B x : Nat} {cur : Array Value} {W W' : World} (h : ValsHeld Bv g n cap cur W) (hk : KeepB B x W W') (h1 : B ≤ Bv ∧ Bv ≠ x) (h2 : B ≤ g ∧ g ≠ x) : ValsHeld Bv g n cap cur W' :=
  ⟨hk.2 _ _ h1.1 h1.2 h.bx (notIntRow (by decide)), hk.2 _ _ h2.1 h2.2 h.row (notIntRow (by decide))⟩
theorem ValsHeld.below {Bv g n cap : Nat} {cur : Array Value} {W W' : World} (h : ValsHeld Bv g n cap cur W) (hk : Below W.heap.size W W') : ValsHeld Bv g n cap cur W' :=
  ⟨(hk.block _ (Array.getElem?_eq_some_iff.1 h.bx).1).trans h.bx, (hk.block _ (Array.getElem?_eq_some_iff.1 h.row).1).trans h.row⟩
theorem row_cells3 {W : World} {g n : Nat} {cur : Array Value} {l : List Ent} (h : W.heap[g]? = some (.cells cur 109 (0, 0))) (hc : cur.toList.take (n * 3) = entsC l) {j : Nat} {x : Ent} (hj : l[j]? = some x) (hjn : j < n) :
    W.cell? ⟨g, j * 3, none⟩ = some (.int .i64 x.key) ∧ W.cell? ⟨g, j * 3 + 1, none⟩ = some (.int .i64 (x.due : Int)) ∧ W.cell? ⟨g, j * 3 + 2, none⟩ = some (.int .i64 (x.ord : Int)) := by
  have q : ∀ t v, t < n * 3 → (entsC l)[t]? = some v → W.cell? ⟨g, t, none⟩ = some v := fun t v ht hv => by
    have h1 : (cur.toList.take (n * 3))[t]? = (entsC l)[t]? := by rw [hc]
    rw [List.getElem?_take_of_lt ht, hv] at h1
    simp only [World.cell?, h]
    simp only [Option.isSome_none, Bool.false_eq_true, if_false]
    rw [← Array.getElem?_toList, h1]
  obtain ⟨e1, e2, e3⟩ := entsC_at hj
  exact ⟨q _ _ (by omega) e1, q _ _ (by omega) e2, q _ _ (by omega) e3⟩
theorem take_next {α : Type} {l : List α} {j : Nat} {x : α} (hj : l[j]? = some x) : l.take (j + 1) = l.take j ++ [x] := by
  rw [List.take_add_one, hj]; rfl
set_option maxRecDepth 100000 in
set_option maxHeartbeats 2000000 in
theorem vals_in (lp B x Bv g n cap : Nat) (cur : Array Value) (l : List Ent) (J Jx : List Ent → World → Prop) (W0 : World) (BJ : Nat)
    (hJ : OwnFrom BJ J)
    (hY : ∀ pre e W, pre ++ [e] <+: l → J pre W → pre.length < n → YieldAt Fence.wide 6 Tryd.prog lp #[.agg #[.int .i64 e.key, .int .i64 (e.due : Int), .int .i64 (e.ord : Int)]] W fun v W' =>
      (v = .returned (.bool true) ∧ J (pre ++ [e]) W' ∧ KeepB B x W W') ∨ (v = .returned (.bool false) ∧ Jx (pre ++ [e]) W' ∧ KeepB B x W W'))
    (hh : ValsHeld Bv g n cap cur W0) (hc : cur.toList.take (n * 3) = entsC l) (hn : l.length = n) (hsz : n < 1099511627776) (hcap : n ≤ cap) (hcap2 : cap ≤ maxLen)
    (hB : B ≤ Bv ∧ Bv ≠ x) (hg : B ≤ g ∧ g ≠ x) (h0 : J [] W0) :
    CallsIn Fence.wide 7 Tryd.prog 134 #[.func (.yield lp) #[] #[], .pointer (some ⟨Bv, 0, none⟩)] W0 fun e W' => (∃ v, e = .returned v) ∧
      (J l W' ∨ (∃ pre, pre <+: l ∧ Jx pre W')) := by
  have HJ := Lib.hid hJ
  have HY := Lib.hid hY
  have H0 := Lib.hid h0
  have HH := Lib.hid hh
  have HC := Lib.hid hc
  have HN := Lib.hid hn
  have c0 : W0.cell? ⟨Bv, 0, none⟩ = some (.slice (some ⟨g, 0, none⟩) n cap) := by simp [World.cell?, hh.bx]
  have hcap3 : (cap : Int) ≤ 9223372036854775807 := by unfold maxLen at hcap2; omega
  have hncI : (n : Int) ≤ (cap : Int) := by omega
  clear hJ hY h0 hh hc hn
  refine callsIn_of_wp Tryd.func134 rfl trivial ?_ rfl
  simp only [Tryd.ntmps134, List.size_toArray, List.length_cons, List.length_nil, Nat.reduceAdd, Nat.reduceSub, Array.replicate_succ, Array.replicate_zero, List.push_toArray, List.append_toArray, List.nil_append, List.cons_append]
  gi_wp2
  gi_loopw [7] (fun i wr => ∃ j : Nat, j ≤ n ∧ i = .int .i64 (j : Int) ∧ ValsHeld Bv g n cap cur wr ∧ J (l.take j) wr) (fun i _ => n - (intOf i).toNat)
  case atStart => exact ⟨0, Nat.zero_le _, rfl, HH.out, H0.out⟩
  case round =>
    obtain ⟨j, hj, rfl, hA, hJr⟩ := hrel
    have HA := Lib.hid hA
    have HJR := Lib.hid hJr
    clear hA hJr
    by_cases hlt : j < n
    · have hlI : (j : Int) < (n : Int) := by omega
      obtain ⟨e, he⟩ : ∃ e, l[j]? = some e := ⟨l[j]'(by have := HN.out; omega), List.getElem?_eq_getElem _⟩
      obtain ⟨d0, d1, d2⟩ := row_cells3 HA.out.row HC.out he hlt
      have HE := Lib.hid he
      clear he
      obtain ⟨ek, ed, eo⟩ := e
      dsimp only at d0 d1 d2
      have hlen : (l.take j).length < n := by rw [List.length_take, HN.out]; omega
      have hJa := HJ.out.alloc (.cells #[.int .i64 ek, .int .i64 (ed : Int), .int .i64 (eo : Int)] 109) HJR.out
      obtain ⟨fn, tmps, assign, body, hy, hR⟩ := HY.out _ ⟨ek, ed, eo⟩ _ (by rw [← take_next HE.out]; exact List.take_prefix _ _) hJa hlen
      dsimp only at hy
      have HR := Lib.hid hR
      have hb1 : Below wr.heap.size wr (wr.alloc (.cells #[.int .i64 ek, .int .i64 (ed : Int), .int .i64 (eo : Int)] 109)) := (Below.refl _ _).alloc (Nat.le_refl _) _
      have HA1 := Lib.hid (HA.out.below hb1)
      clear hR hJa hlen hb1
      gi_wp2
      refine HR.out.mono ?_
      rintro e W3 (⟨rfl, hJ4, hk4⟩ | ⟨rfl, hJx4, _⟩)
      · have HJ4 := Lib.hid hJ4
        have HA4 := Lib.hid (HA1.out.keep hk4 hB hg)
        have HT := Lib.hid (take_next HE.out)
        clear hJ4 hk4
        gi_wp2
        go_roundw
        case rel => exact ⟨j + 1, by omega, by go_num, HA4.out, by rw [HT.out]; exact HJ4.out⟩
        case measure => simp [intOf]; omega
      · gi_wp2
        refine bodyPost_ret (results_none rfl _ _ _) rfl ?_
        refine ⟨⟨_, rfl⟩, .inr ⟨_, ?_, hJx4⟩⟩
        rw [← take_next HE.out]
        exact List.take_prefix _ _
    · obtain rfl : j = n := by omega
      have hge : ¬ (j : Int) < (j : Int) := by omega
      gi_wp2
      go_end0
      have := HJR.out
      rw [List.take_of_length_le (by rw [HN.out]; exact Nat.le_refl _)] at this
      exact ⟨⟨_, rfl⟩, .inl this⟩
end Go.Proofs.YtaeiaoldlebhaaaDoor
