import Derived.Test.YtbahcpejippcjaaDoorTC
import Derived.Laws.OwnMore
import Derived.Maps.AppendAt
namespace Go.Proofs.YtbahcpejippcjaaDoor
open Go.RowKit Go.Shelf

/-! ### The reference's words -/
def strs (l : List ByteArray) : List Value := l.map Value.string
/-- What stands between the spaces, from a place on. -/
def wordsK (l : List UInt8) : List (List UInt8) := Lib.splitK [32] 0 (l.count 32) l
theorem wordsK_at {l : List UInt8} (r : List UInt8) (h : (32 : UInt8) ∉ l) : wordsK (l ++ 32 :: r) = l :: wordsK r := by
  unfold wordsK
  rw [List.count_append, List.count_cons, count_zero h]
  simp only [beq_self_eq_true, if_true, Nat.zero_add]
  exact splitK_cons r _ h
theorem wordsK_last {l : List UInt8} (h : (32 : UInt8) ∉ l) : wordsK l = [l] := by
  unfold wordsK
  exact splitK_last _ h
structure Wds (s : ByteArray) (i fr : Nat) (outs : List ByteArray) : Prop where
  le : i ≤ s.size
  from_ : fr ≤ i
  no : ∀ j (hj : j < s.size), fr ≤ j → j < i → s[j] ≠ 32
  all : (wordsOf s).map (·.data.toList) = outs.map (·.data.toList) ++ wordsK (s.data.toList.drop fr)
  len : outs.length ≤ fr
theorem Wds.start (s : ByteArray) : Wds s 0 0 [] :=
  ⟨Nat.zero_le _, Nat.le_refl _, fun _ _ _ h => absurd h (Nat.not_lt_zero _), by rw [words_data]; rfl, Nat.le_refl _⟩
theorem Wds.step {s : ByteArray} {i fr : Nat} {outs : List ByteArray} (h : Wds s i fr outs) (hi : i < s.size) (hx : s[i] ≠ 32) : Wds s (i + 1) fr outs :=
  ⟨hi, Nat.le_succ_of_le h.from_, fun j hj h1 h2 => by
    rcases Nat.lt_or_ge j i with h3 | h3
    · exact h.no j hj h1 h3
    · obtain rfl : j = i := by omega
      exact hx, h.all, h.len⟩
theorem mid_no {s : ByteArray} {i fr : Nat} (hi : i ≤ s.size) (h : ∀ j (hj : j < s.size), fr ≤ j → j < i → s[j] ≠ 32) : (32 : UInt8) ∉ (s.extract fr i).data.toList := by
  intro hm
  obtain ⟨j, hj, e⟩ := List.getElem_of_mem hm
  have hj2 : j < i - fr := by
    have : (s.extract fr i).data.toList.length = min i s.size - fr := by rw [Array.length_toList]; show (s.extract fr i).size = _; rw [ByteArray.size_extract]
    omega
  have h3 : (s.extract fr i).data.toList[j] = s[fr + j]'(by omega) := by
    simp [ByteArray.getElem_eq_getElem_data, ByteArray.data_extract]
  rw [h3] at e
  exact h (fr + j) (by omega) (by omega) (by omega) e
theorem drop_mid {s : ByteArray} {i fr : Nat} (hi : i < s.size) (hf : fr ≤ i) (h : s[i] = 32) : s.data.toList.drop fr = (s.extract fr i).data.toList ++ 32 :: s.data.toList.drop (i + 1) := by
  have e1 : (s.extract fr i).data.toList = (s.data.toList.drop fr).take (i - fr) := by
    rw [ByteArray.data_extract]
    simp [List.take_drop]
  have e2 : (s.data.toList.drop fr).drop (i - fr) = 32 :: s.data.toList.drop (i + 1) := by
    rw [List.drop_drop, show fr + (i - fr) = i by omega, List.drop_eq_getElem_cons (by simpa using hi)]
    congr 1
  rw [e1, ← e2, List.take_append_drop]
theorem Wds.next {s : ByteArray} {i fr : Nat} {outs : List ByteArray} (h : Wds s i fr outs) (hi : i < s.size) (hx : s[i] = 32) : Wds s (i + 1) (i + 1) (outs ++ [s.extract fr i]) := by
  refine ⟨hi, Nat.le_refl _, fun j _ h1 h2 => absurd h2 (by omega), ?_, ?_⟩
  · rw [h.all, drop_mid hi h.from_ hx, wordsK_at _ (mid_no h.le h.no)]
    simp
  · have := h.len
    have := h.from_
    simp
    omega
theorem Wds.last {s : ByteArray} {fr : Nat} {outs : List ByteArray} (h : Wds s s.size fr outs) : wordsOf s = outs ++ [s.extract fr s.size] := by
  have h1 := h.all
  have e : (s.extract fr s.size).data.toList = s.data.toList.drop fr := by
    rw [ByteArray.data_extract]
    simp only [Array.toList_extract, List.extract_eq_take_drop]
    exact List.take_of_length_le (by simp)
  have h2 := mid_no h.le h.no
  rw [e] at h2
  rw [wordsK_last h2, ← e] at h1
  have h3 : ((wordsOf s).map (·.data.toList)) = (outs ++ [s.extract fr s.size]).map (·.data.toList) := by rw [h1]; simp
  rw [bytes_list h3, List.map_map]
  conv => rhs; rw [← List.map_id (outs ++ [s.extract fr s.size])]
  rfl
theorem strs_snoc (l : List ByteArray) (x : ByteArray) : strs (l ++ [x]) = strs l ++ [.string x] := by simp [strs]
theorem new_cell (w : World) (v : Value) (t : TypeId) : ∀ (j : Nat) (u : Value), [v][j]? = some u → (w.alloc (.cells #[v] t)).cell? ((⟨w.heap.size, 0, none⟩ : Addr).add j) = some u := by
  intro j u hj
  rcases j with _ | j
  · simp at hj
    subst hj
    simp [Addr.add, go_sem]
  · simp at hj
theorem ownsRow_succ {w : World} {base : Nat} {e : TypeId} {size : Nat} {v : Value} {n : Nat} {xs : List Value} (h : w.ownsRow base e size v (n + 1) xs) : ∃ g cap, v = .slice (some ⟨g, 0, none⟩) (n + 1) cap := by
  obtain ⟨_, ⟨_, h⟩ | ⟨g, cap, _, h, _⟩⟩ := h
  · cases h
  · exact ⟨g, cap, h⟩
theorem ownsRow_cells {w : World} {base : Nat} {e : TypeId} {g n cap : Nat} {xs : List Value} (h : w.ownsRow base e 1 (.slice (some ⟨g, 0, none⟩) n cap) n xs) : base ≤ g ∧ g < w.heap.size ∧ ∀ i v, xs[i]? = some v → w.cell? ⟨g, i, none⟩ = some v := by
  obtain ⟨hl, ⟨h1, _⟩ | ⟨g', cap', cur, h1, h2, h3, h4, h5, h6, h7⟩⟩ := h
  · cases h1
  · cases h1
    refine ⟨h2, (Array.getElem?_eq_some_iff.1 h3).1, fun i v hi => ?_⟩
    rw [← h7, List.getElem?_take] at hi
    split at hi
    · simp [World.cell?, h3]
      simpa using hi
    · cases hi
theorem getD_word {l : List ByteArray} {i : Nat} (h : i < l.length) : (strs l)[i]? = some (.string (word l i)) := by
  unfold strs word
  rw [List.getElem?_map, List.getElem?_eq_getElem h, List.getD_eq_getElem?_getD, List.getElem?_eq_getElem h]
  rfl
theorem grown_below {w w1 w2 : World} {r : Option Nat} (h : Below w.heap.size w w1) (hg : w1.grownBy w2 r) (hr : ∀ g, r = some g → w.heap.size ≤ g) : Below w.heap.size w w2 :=
  ⟨hg.os.trans h.os, hg.tape.trans h.tape, hg.output.trans h.output, Nat.le_trans h.size hg.size, fun b hb => (hg.block b (Nat.lt_of_lt_of_le hb h.size) (fun e => by have := hr b e.symm; omega)).trans (h.block b hb)⟩
theorem ownsRow_base {w : World} {base : Nat} {e : TypeId} {size : Nat} {v : Value} {n : Nat} {xs : List Value} (h : w.ownsRow base e size v n xs) : ∀ g, v.ownBlock = some g → base ≤ g := by
  obtain ⟨_, ⟨h, _⟩ | ⟨g, cap, _, h, hb, _⟩⟩ := h
  · subst h; intro g e; cases e
  · subst h; intro g' e; cases e; exact hb

/-- A row of words in memory. -/
def WordsIn (w : World) (s : ByteArray) (e : Ending) (w' : World) : Prop :=
  ∃ g cap : Nat, e = .returned (.slice (some ⟨g, 0, none⟩) (wordsOf s).length cap) ∧ (∀ i, i < (wordsOf s).length → w'.cell? ⟨g, i, none⟩ = some (.string (word (wordsOf s) i))) ∧ w.heap.size ≤ g ∧ g < w'.heap.size ∧ Below w.heap.size w w'
theorem words_end {s : ByteArray} {w w' : World} {v : Value} {outs : List ByteArray} {x : ByteArray} (hw : wordsOf s = outs ++ [x]) (ho : w'.ownsRow w.heap.size 9 1 v (outs.length + 1) (strs outs ++ [.string x])) (hB : Below w.heap.size w w') : WordsIn w s (.returned v) w' := by
  obtain ⟨g, cap, rfl⟩ := ownsRow_succ ho
  obtain ⟨h1, h2, h3⟩ := ownsRow_cells ho
  have hl : (wordsOf s).length = outs.length + 1 := by rw [hw]; simp
  refine ⟨g, cap, by rw [hl], fun i hi => h3 i _ ?_, h1, h2, hB⟩
  rw [← strs_snoc, ← hw]
  exact getD_word hi

set_option maxRecDepth 100000 in
set_option maxHeartbeats 1600000 in
theorem words_calls (s : ByteArray) (hs : s.size ≤ 1048576) (w : World) : Calls Tryd.prog 36 #[.string s] w (WordsIn w s) := by
  obtain ⟨i0, hi, hz0, hz1, hz2⟩ := info_parts info9
  have HI := Lib.hid (And.intro hi (And.intro hz0 (And.intro hz1 hz2)))
  have hsI : (s.size : Int) ≤ 1048576 := by omega
  clear hi hz0 hz1 hz2
  go_enter Tryd.func36, Tryd.ntmps36
  go_wp2_with fail
  go_loopw [3, 4, 5] (fun vo vf vi wr => (∃ (outs : List ByteArray) (fr i : Nat), vf = .int .i64 (fr : Int) ∧ vi = .int .i64 (i : Int) ∧ Wds s i fr outs ∧ wr.ownsRow w.heap.size 9 1 vo outs.length (strs outs)) ∧ Below w.heap.size w wr) (fun _ _ vi _ => s.size - (intOf vi).toNat)
  case atStart => exact ⟨⟨[], 0, 0, rfl, rfl, Wds.start s, World.ownsRow_nil _ _ _ _⟩, Below.refl _ _⟩
  case round =>
    obtain ⟨⟨outs, fr, i, rfl, rfl, hW, hown⟩, hB⟩ := hrel
    have HW := Lib.hid hW
    have HO := Lib.hid hown
    have HB := Lib.hid hB
    have h1 := hW.le
    have h2 := hW.from_
    have h3 := hW.len
    have hzs := hB.size
    have HZ := Lib.hid hzs
    clear hW hown hB
    by_cases hlt : i < s.size
    · have hil : (i : Int) < (s.size : Int) := by omega
      have hfi : (fr : Int) ≤ (i : Int) := by omega
      by_cases h32 : s[i] = 32
      · have hx : ((s[i].toNat : Nat) : Int) = 32 := by rw [h32]; rfl
        have HN := Lib.hid (HW.out.next hlt h32)
        clear h32
        go_wp2_with (at_builtin; (refine wpList_append_own _ rfl _ _ 65 rfl w.heap.size 9 i0 (.string ByteArray.empty) 1 16 Tryd.underlying65 HI.out.1 HI.out.2.1 HI.out.2.2.1 HI.out.2.2.2 rfl (by decide) _ _ _ rfl (HO.out.alloc _) ⟨wr.heap.size, 0, none⟩ 1 1 [.string (s.extract fr i)] rfl rfl (new_cell _ _ _) (by simp [Value.oneCell']) (by unfold maxLen; omega) (by omega) (by have := HZ.out; simp; omega) ?_); intro v' w1 hown' hgrow _; replace HB := Lib.hid (grown_below (HB.out.alloc HB.out.size _) hgrow (ownsRow_base HO.out)); replace HO := Lib.hid hown'; clear hown' hgrow)
        exact ⟨⟨⟨outs ++ [s.extract fr i], i + 1, i + 1, by go_num, by go_num, HN.out, by rw [strs_snoc, List.length_append]; exact HO.out⟩, HB.out⟩, by simp [intOf]; omega⟩
      · obtain ⟨x, hx⟩ : ∃ x : Nat, s[i].toNat = x := ⟨_, rfl⟩
        have hxI : ((s[i].toNat : Nat) : Int) = (x : Int) := by rw [hx]
        have hx32 : ¬ x = 32 := by
          intro h
          exact h32 (UInt8.toNat_inj.1 (by rw [hx, h]; rfl))
        have g1 : ((x : Int) == 32) = false := by simp; omega
        clear hx hx32
        have HN := Lib.hid (HW.out.step hlt h32)
        clear h32
        go_wp2_with fail
        exact ⟨⟨⟨outs, fr, i + 1, rfl, by go_num, HN.out, HO.out⟩, HB.out⟩, by simp [intOf]; omega⟩
    · have hil : ¬ (i : Int) < (s.size : Int) := by omega
      obtain rfl : i = s.size := by omega
      have HL := Lib.hid HW.out.last
      have hfi : (fr : Int) ≤ (s.size : Int) := by omega
      go_wp2_with (at_builtin; (refine wpList_append_own _ rfl _ _ 65 rfl w.heap.size 9 i0 (.string ByteArray.empty) 1 16 Tryd.underlying65 HI.out.1 HI.out.2.1 HI.out.2.2.1 HI.out.2.2.2 rfl (by decide) _ _ _ rfl (HO.out.alloc _) ⟨wr.heap.size, 0, none⟩ 1 1 [.string (s.extract fr s.size)] rfl rfl (new_cell _ _ _) (by simp [Value.oneCell']) (by unfold maxLen; omega) (by omega) (by have := HZ.out; simp; omega) ?_); intro v' w1 hown' hgrow _; replace HB := Lib.hid (grown_below (HB.out.alloc HB.out.size _) hgrow (ownsRow_base HO.out)); replace HO := Lib.hid hown'; clear hown' hgrow)
      go_ret
      exact words_end HL.out HO.out HB.out
end Go.Proofs.YtbahcpejippcjaaDoor
