import Derived.Test.YtaeiaoldlebhaaaDoorV4
namespace Go.Proofs.YtaeiaoldlebhaaaDoor
open Go.RowKit Go.Shelf Go.Maps Go.Lib

/-- The reference's row: a key and a time each. -/
def rowE (x : Ent) : List Value := [.int .i64 x.key, .int .i64 (x.due : Int)]
def rowsE (l : List Ent) : List Value := l.flatMap rowE
theorem rowsE_len (l : List Ent) : (rowsE l).length = l.length * 2 := by
  unfold rowsE
  induction l with
  | nil => rfl
  | cons a l ih => rw [List.flatMap_cons, List.length_append, ih]; simp [rowE]; omega
theorem rowsE_append (l m : List Ent) : rowsE (l ++ m) = rowsE l ++ rowsE m := List.flatMap_append
theorem rowsE_snoc (l : List Ent) (x : Ent) : rowsE (l ++ [x]) = rowsE l ++ [.int .i64 x.key, .int .i64 (x.due : Int)] := by rw [rowsE_append]; rfl
theorem rowsE_at {l : List Ent} {i : Nat} {x : Ent} (h : l[i]? = some x) : (rowsE l)[i * 2]? = some (.int .i64 x.key) ∧ (rowsE l)[i * 2 + 1]? = some (.int .i64 (x.due : Int)) := by
  induction l generalizing i with
  | nil => simp at h
  | cons a l ih =>
    cases i with
    | zero => simp at h; subst h; exact ⟨rfl, rfl⟩
    | succ i =>
      have h2 := ih (by simpa using h)
      have e : ∀ j, (rowsE (a :: l))[j + 2]? = (rowsE l)[j]? := fun j => by
        show (rowE a ++ rowsE l)[j + 2]? = _
        rw [List.getElem?_append_right (by simp [rowE])]
        simp [rowE]
      rw [show (i + 1) * 2 = i * 2 + 2 from by omega, show i * 2 + 2 + 1 = i * 2 + 1 + 2 from by omega, e, e]
      exact h2
theorem rowsE_one (l : List Ent) : ∀ u ∈ rowsE l, u.oneCell' = true := fun u hu => by
  unfold rowsE at hu
  obtain ⟨x, _, hx⟩ := List.mem_flatMap.1 hu
  simp [rowE] at hx
  rcases hx with rfl | rfl <;> rfl
/-- A list of the reference in memory: its cells. -/
def RowR (A : Option Addr) (c : Nat) (l : List Ent) (w : World) : Prop :=
  l.length ≤ c ∧ c ≤ maxLen ∧ (l = [] ∨ ∃ g off, A = some ⟨g, off, none⟩ ∧ g < w.heap.size ∧ ∀ j v, (rowsE l)[j]? = some v → w.cell? ⟨g, off + j, none⟩ = some v)
theorem RowR.kept {A : Option Addr} {c : Nat} {l : List Ent} {w w' : World} (h : RowR A c l w) (hb : ∀ g off, A = some ⟨g, off, none⟩ → g < w.heap.size → w'.heap[g]? = w.heap[g]?) (hs : w.heap.size ≤ w'.heap.size) : RowR A c l w' := by
  obtain ⟨h1, h2, h3⟩ := h
  refine ⟨h1, h2, ?_⟩
  rcases h3 with h3 | ⟨g, off, hA, hg, hc⟩
  · exact .inl h3
  · exact .inr ⟨g, off, hA, Nat.lt_of_lt_of_le hg hs, fun j v hv => (World.cell?_of_block (hb g off hA hg)).trans (hc j v hv)⟩
theorem RowR.at {A : Option Addr} {c : Nat} {l : List Ent} {w : World} (h : RowR A c l w) {i : Nat} {x : Ent} (hi : l[i]? = some x) : ∃ g off, A = some ⟨g, off, none⟩ ∧ g < w.heap.size ∧ w.cell? ⟨g, off + i * 2, none⟩ = some (.int .i64 x.key) ∧ w.cell? ⟨g, off + i * 2 + 1, none⟩ = some (.int .i64 (x.due : Int)) := by
  rcases h.2.2 with rfl | ⟨g, off, hA, hg, hc⟩
  · simp at hi
  · obtain ⟨e1, e2⟩ := rowsE_at hi
    exact ⟨g, off, hA, hg, hc _ _ e1, by rw [Nat.add_assoc]; exact hc _ _ e2⟩
theorem RowR.of_own {base n c : Nat} {A : Option Addr} {l : List Ent} {w : World} (h : w.ownsRow base 60 2 (.slice A n c) n (rowsE l)) (hn : l.length = n) : RowR A c l w := by
  rcases h.2 with ⟨hv, h0⟩ | ⟨g, cap, cur, hv, _, hg, hle, hm, hsz, htk⟩
  · cases hv
    have : l = [] := List.length_eq_zero_iff.1 (by omega)
    exact ⟨by omega, by unfold maxLen; omega, .inl this⟩
  · cases hv
    refine ⟨by omega, hm, .inr ⟨g, 0, rfl, (Array.getElem?_eq_some_iff.1 hg).1, fun j v hj => ?_⟩⟩
    have := h.cells (g := g) rfl j v hj
    rwa [Addr.add_lit] at this
/-- The reference's wheel. -/
structure RefT (X : Nat) (A : Option Addr) (c now : Nat) (l : List Ent) (w : World) : Prop where
  box : w.heap[X]? = some (.cells #[.int .i64 (now : Int), .slice A l.length c] 52 (0, 0))
  row : RowR A c l w
  ne : ∀ g off, A = some ⟨g, off, none⟩ → g ≠ X
theorem RefT.kept {X : Nat} {A : Option Addr} {c now : Nat} {l : List Ent} {w w' : World} (h : RefT X A c now l w) (hX : w'.heap[X]? = w.heap[X]?) (hb : ∀ g off, A = some ⟨g, off, none⟩ → g < w.heap.size → w'.heap[g]? = w.heap[g]?) (hs : w.heap.size ≤ w'.heap.size) : RefT X A c now l w' :=
  ⟨hX.trans h.box, h.row.kept hb hs, h.ne⟩
theorem RefT.lt {X : Nat} {A : Option Addr} {c now : Nat} {l : List Ent} {w : World} (h : RefT X A c now l w) : X < w.heap.size := (Array.getElem?_eq_some_iff.1 h.box).1
theorem RefT.below {X : Nat} {A : Option Addr} {c now : Nat} {l : List Ent} {w w' : World} (h : RefT X A c now l w) (hb : Below w.heap.size w w') : RefT X A c now l w' :=
  h.kept (hb.block X h.lt) (fun g _ _ hg => hb.block g hg) hb.size
theorem RefT.cells {X : Nat} {A : Option Addr} {c now : Nat} {l : List Ent} {w : World} (h : RefT X A c now l w) : w.cell? ⟨X, 0, none⟩ = some (.int .i64 (now : Int)) ∧ w.cell? ⟨X, 1, none⟩ = some (.slice A l.length c) ∧ w.frozen? ⟨X, 0, none⟩ = false ∧ w.frozen? ⟨X, 1, none⟩ = false := by
  refine ⟨?_, ?_, ?_, ?_⟩ <;> simp [World.cell?, World.frozen?, h.box]
theorem Tryd.info60 : (Tryd.prog.info? 60).map (fun i => (i.zero, i.size, i.bytes)) = some (some (.agg #[.int .i64 0, .int .i64 0]), 2, 16) := by kernel_rfl
theorem app_below {w wr w5 : World} {e : TypeId} {k m : Nat} {v : Value} {xs : List Value} {o : Obj} (hB : Below w.heap.size w wr) (hr : wr.ownsRow w.heap.size e k v m xs) (hg : (wr.alloc o).grownBy w5 v.ownBlock) : Below w.heap.size w w5 :=
  (hB.alloc hB.size o).grown hg (by have := hB.size; simp; omega) (fun j e => (hr.lt j e).1)
theorem without_snoc (k : Int) (l : List Ent) (x : Ent) : without k (l ++ [x]) = if x.key = k then without k l else without k l ++ [x] := by
  unfold without
  rw [List.filter_append]
  by_cases e : x.key = k
  · rw [if_pos e, List.filter_cons_of_neg (by simp [e])]; simp
  · rw [if_neg e, List.filter_cons_of_pos (by simp [e])]; rfl
section
variable {X c now : Nat} {A : Option Addr} {l : List Ent} {w : World}
set_option maxRecDepth 100000 in
set_option maxHeartbeats 1000000 in
theorem ref96 (h : RefT X A c now l w) (hl : l.length < 1099511627776) (k : Int) :
    Calls Tryd.prog 96 #[.pointer (some ⟨X, 0, none⟩), .int .i64 k] w fun e w' => ∃ v, e = .returned v ∧ w'.ownsRow w.heap.size 60 2 v (without k l).length (rowsE (without k l)) ∧ Below w.heap.size w w' := by
  have HH := Lib.hid h
  obtain ⟨n, hn⟩ : ∃ n, l.length = n := ⟨_, rfl⟩
  have hcb := h.row.1
  have hcm := h.row.2.1
  unfold maxLen at hcm
  have HN := Lib.hid hn
  rw [hn] at hl hcb
  obtain ⟨i0, hi, hz0, hz1, hz2⟩ := info_parts Tryd.info60
  have HI := Lib.hid (And.intro hi (And.intro hz0 (And.intro hz1 hz2)))
  have hcap : (n : Int) ≤ (c : Int) := by omega
  have hcap2 : (c : Int) ≤ 9223372036854775807 := by omega
  clear h hn hi hz0 hz1 hz2
  go_enter Tryd.func96, Tryd.ntmps96
  go_wp2_with fail
  go_loopw [5, 6] (fun v vi wr => ∃ i : Nat, vi = .int .i64 (i : Int) ∧ i ≤ n ∧ wr.ownsRow w.heap.size 60 2 v (without k (l.take i)).length (rowsE (without k (l.take i))) ∧ Below w.heap.size w wr) (fun _ vi _ => n - (intOf vi).toNat)
  case atStart => exact ⟨0, rfl, Nat.zero_le _, World.ownsRow_nil _ _ _ _, Below.refl _ _⟩
  case round =>
    obtain ⟨i, rfl, hi, hrow, hB⟩ := hrel
    have HB := Lib.hid hB
    have HROW := Lib.hid hrow
    have HR := Lib.hid (HH.out.below hB)
    obtain ⟨_, b1, _, _⟩ := HR.out.cells
    rw [HN.out] at b1
    clear hB hrow
    by_cases hlt : i < n
    · have hltI : (i : Int) < (n : Int) := by omega
      obtain ⟨x, hx⟩ : ∃ x, l[i]? = some x := ⟨l[i]'(by have := HN.out; omega), List.getElem?_eq_getElem _⟩
      obtain ⟨g, off, rfl, hg, c0, c1⟩ := HR.out.row.at hx
      have HW := Lib.hid (without_snoc k (l.take i) x)
      rw [← take_next hx] at HW
      have hlen : (without k (l.take i)).length < 1099511627776 := by
        have h1 : (without k (l.take i)).length ≤ (l.take i).length := List.length_filter_le _ _
        rw [List.length_take] at h1
        omega
      obtain ⟨m, hm⟩ : ∃ m, (without k (l.take i)).length = m := ⟨_, rfl⟩
      rw [hm] at hlen HROW
      have HM := Lib.hid hm
      obtain ⟨xk, xd, xo⟩ := x
      dsimp only at c0 c1 HW
      clear hm hx
      by_cases hk : xk = k
      · subst hk
        have hne : (xk != xk) = false := by simp
        go_wp2_with fail
        go_roundw
        case rel => exact ⟨i + 1, by go_num, by omega, by rw [HW.out, if_pos rfl, HM.out]; exact HROW.out, HB.out⟩
        case measure => simp [intOf]; omega
      · have hne : (xk != k) = true := by simpa using hk
        have HKN := Lib.hid hk
        have HNEW := Lib.hid (heap_alloc_new wr (.cells #[.int .i64 xk, .int .i64 (xd : Int)] 60))
        obtain ⟨q, cq, hvq⟩ : ∃ q cq, u5 = .slice q m cq := by obtain ⟨p, cap, e, _⟩ := row_form HROW.out; exact ⟨p, cap, e⟩
        subst hvq
        clear hk
        go_wp2_with (at_builtin; go_must (refine wpList_append_lies _ rfl _ _ 50 (by rfl) w.heap.size 60 i0 (.agg #[.int .i64 0, .int .i64 0]) 2 16 Tryd.underlying50 HI.out.1 HI.out.2.1 HI.out.2.2.1 HI.out.2.2.2 (by rfl) (by decide) _ m _ (by rfl) (HROW.out.alloc _) ⟨wr.heap.size, 0, none⟩ 1 1 [.int .i64 xk, .int .i64 (xd : Int)] (by rfl) rfl (World.news_of_block HNEW.out) (by simp [Value.oneCell']) (by decide) (by unfold maxLen; omega) (by omega) (by have := HB.out.size; simp; omega) _ rfl ?_); intro g2 cap2 w5 hown5 hg5 hat5 hlt5)
        have hb5 := app_below HB.out HROW.out hg5
        refine ⟨⟨i + 1, by simp, by omega, ?_, hb5⟩, by simp [intOf]; omega⟩
        rw [HW.out, if_neg HKN.out, List.length_append, HM.out, rowsE_snoc]
        exact hown5
    · obtain rfl : n = i := by omega
      go_wp2_with fail
      go_ret
      have := HROW.out
      rw [List.take_of_length_le (by rw [HN.out]; exact Nat.le_refl _)] at this
      exact ⟨_, rfl, this, HB.out⟩
end
end Go.Proofs.YtaeiaoldlebhaaaDoor
