import Derived.Test.YtbahcpejippcjaaDoorK1
import Derived.Laws.BitsAllLaws
import Derived.RangeFuncRecord
import Derived.Lib.SplitLaws
namespace Go.Proofs.YtbahcpejippcjaaDoor
open Go.RowKit Go.Shelf

def dot : ByteArray := ⟨#[46]⟩
/-- What stands between the points. -/
def pieces (s : ByteArray) : List ByteArray := Lib.splitB dot 0 (Lib.countB s dot) s
theorem pieces_length (s : ByteArray) : (pieces s).length = Lib.countB s dot + 1 := Lib.splitB_all dot (by decide) 0 _ s rfl
theorem splitB_size (sep : ByteArray) (save : Nat) : ∀ (k : Nat) (s p : ByteArray), p ∈ Lib.splitB sep save k s → p.size ≤ s.size
  | 0, s, p, h => by
    have : p = s := by simpa [Lib.splitB] using h
    subst this; exact Nat.le_refl _
  | k + 1, s, p, h => by
    unfold Lib.splitB at h
    split at h
    · have : p = s := by simpa using h
      subst this; exact Nat.le_refl _
    · rcases List.mem_cons.1 h with rfl | h
      · simp [ByteArray.size_extract]; omega
      · refine Nat.le_trans (splitB_size sep save k _ p h) ?_
        simp [ByteArray.size_extract]
theorem pieces_size (s p : ByteArray) (h : p ∈ pieces s) : p.size ≤ s.size := splitB_size dot 0 _ s p h

/-- The numbers of the pieces, one behind the other. -/
def foldNum : List ByteArray → Nat → Option Nat
  | [], a => some a
  | p :: r, a => match numOf p 255 with
    | some n => foldNum r (a * 256 + n)
    | none => none
/-- The address of a text. -/
def parseOf (s : ByteArray) : Option Nat := if (pieces s).length = 4 then foldNum (pieces s) 0 else none

theorem numOf_le {p : ByteArray} {n : Nat} (h : numOf p 255 = some n) : n < 256 := by
  unfold numOf at h
  split at h
  · split at h
    · cases h; omega
    · cases h
  · cases h
theorem foldNum_take {l : List ByteArray} {k a : Nat} {p : ByteArray} (h : foldNum (l.take k) 0 = some a) (hp : l[k]? = some p) : foldNum (l.take (k + 1)) 0 = match numOf p 255 with | some n => some (a * 256 + n) | none => none := by
  have key : ∀ (l : List ByteArray) (k a b : Nat), foldNum (l.take k) b = some a → l[k]? = some p → foldNum (l.take (k + 1)) b = match numOf p 255 with | some n => some (a * 256 + n) | none => none := by
    intro l
    induction l with
    | nil => intro k a b _ hp; simp at hp
    | cons q r ih =>
      intro k a b h hp
      cases k with
      | zero =>
        simp [foldNum] at h hp
        subst h; subst hp
        simp only [List.take_succ_cons, foldNum, List.take_zero]
      | succ k =>
        simp only [List.take_succ_cons, foldNum] at h ⊢
        cases hq : numOf q 255 with
        | none => rw [hq] at h; cases h
        | some n =>
          rw [hq] at h
          simp only [List.getElem?_cons_succ] at hp
          exact ih k a _ h hp
  exact key l k a 0 h hp
theorem foldNum_take_le {l : List ByteArray} {k : Nat} (h : foldNum (l.take k) 0 = none) : foldNum l 0 = none := by
  have key : ∀ (l : List ByteArray) (k b : Nat), foldNum (l.take k) b = none → foldNum l b = none := by
    intro l
    induction l with
    | nil => intro k b h; simpa using h
    | cons q r ih =>
      intro k b h
      cases k with
      | zero => simp [foldNum] at h
      | succ k =>
        simp only [List.take_succ_cons, foldNum] at h ⊢
        cases hq : numOf q 255 with
        | none => rfl
        | some n => rw [hq] at h; exact ih k _ h
  exact key l k 0 h

theorem split_calls (s : ByteArray) (hs : s.size < 4294967281) (w : World) (hE : Env w) (L : Nat) (hL : (pieces s).length = L) :
    Calls Tryd.prog 32 #[.string s, .string ⟨#[46]⟩] w fun e w' => e = .returned (.slice (some ⟨w.heap.size, 0, none⟩) L L) ∧ (∀ i, i < L → w'.cell? ⟨w.heap.size, i, none⟩ = some (.string ((pieces s).getD i ByteArray.empty))) ∧ Below w.heap.size w w' := by
  obtain ⟨m0, hm0⟩ := hE.len
  have hc : Lib.countB s dot + 1 = L := by rw [← pieces_length]; exact hL
  refine (Tryd.strings_Split s dot m0 _ hs hm0 (by decide)).mono ?_
  rintro e wx ⟨he, rfl⟩
  refine ⟨by rw [he, hc], fun i hi => ?_, (Below.refl _ w).alloc (Nat.le_refl _) _⟩
  have h : (w.alloc (.cells ((pieces s).map Value.string).toArray 9)).heap[w.heap.size]? = some (.cells ((pieces s).map Value.string).toArray 9 (0, 0)) := World.alloc_heap_new w _
  show (w.alloc (.cells ((pieces s).map Value.string).toArray 9)).cell? _ = _
  have hi2 : i < (pieces s).length := by omega
  unfold World.cell?
  dsimp only
  rw [h]
  simp [hi2, List.getD]

set_option maxHeartbeats 1000000 in
theorem parse_calls (s : ByteArray) (hs : s.size < 4294967281) (w : World) (hE : Env w) :
    Calls Tryd.prog 34 #[.string s] w fun e w' => e = .returned (.tuple #[.int .u32 (((parseOf s).getD 0 : Nat) : Int), .bool (parseOf s).isSome]) ∧ Below w.heap.size w w' := by
  obtain ⟨c, hc⟩ : ∃ c, (pieces s).length = c := ⟨_, rfl⟩
  have HC := Lib.hid hc
  have HB := Lib.hid (Below.refl w.heap.size w)
  have HE := Lib.hid hE
  have HP := Lib.hid (show parseOf s = if (pieces s).length = 4 then foldNum (pieces s) 0 else none from rfl)
  obtain ⟨res, hres⟩ : ∃ res, parseOf s = res := ⟨_, rfl⟩
  rw [hres] at HP ⊢
  clear hres hE hc
  by_cases h4 : c = 4
  · subst h4
    go_enter Tryd.func34, Tryd.ntmps34
    go_wp2_with (go_at_call 32; refine (split_calls s hs _ HE.out 4 HC.out).mono ?_; rintro e wx ⟨rfl, hcell, hB⟩; replace HB := Lib.hid (below_step HB.out hB); replace HE := Lib.hid (HE.out.below hB); have HCELL := Lib.hid hcell; clear hB hcell)
    go_loopw [5, 17] (fun acc ii wr => ∃ (i a : Nat), i ≤ 4 ∧ ii = .int .i64 (i : Int) ∧ acc = .int .u32 (a : Int) ∧ a < 256 ^ i ∧ foldNum ((pieces s).take i) 0 = some a ∧ Below wx.heap.size wx wr) (fun _ ii _ => 4 - (intOf ii).toNat)
    case atStart => exact ⟨0, 0, by omega, rfl, rfl, by decide, rfl, Below.refl _ _⟩
    case round =>
      obtain ⟨i, a, hi, rfl, rfl, ha, hf, hW⟩ := hrel
      have HF := Lib.hid hf
      have HW := Lib.hid hW
      clear hf hW
      by_cases hlt : i < 4
      · have c0 := (HW.out.cell (p := ⟨w.heap.size, i, none⟩) (World.block_lt_of_cell? _ _ (HCELL.out i hlt))).trans (HCELL.out i hlt)
        have hp : (pieces s)[i]? = some ((pieces s).getD i ByteArray.empty) := by
          rw [List.getD, List.getElem?_eq_getElem (by rw [HC.out]; exact hlt)]; rfl
        obtain ⟨p, hpp⟩ : ∃ p, (pieces s).getD i ByteArray.empty = p := ⟨_, rfl⟩
        rw [hpp] at c0 hp
        have hps : p.size ≤ 281474976710656 := by have := pieces_size s p (List.mem_of_getElem? hp); omega
        have HPI := Lib.hid hp
        have HPS := Lib.hid hps
        have HEr := Lib.hid (HE.out.below HW.out)
        have hi4 : (i : Int) < 4 := by omega
        have ha32 : a < 16777216 := by
          have h3 : 256 ^ i ≤ 256 ^ 3 := Nat.pow_le_pow_right (by omega) (by omega)
          omega
        have HA := Lib.hid ha
        clear hp hpp hps ha
        cases hn : numOf p 255 with
        | some n =>
          have hn256 := numOf_le hn
          have HN := Lib.hid hn
          have hor : bits .or .u32 ((a : Int) * 256) ((n : Nat) : Int) = ((a * 256 + n : Nat) : Int) := by
            rw [show (a : Int) * 256 = ((a * 256 : Nat) : Int) from by omega, u32_or_nat _ _ (by omega) (by omega)]
            congr 1
            rw [show a * 256 = 2 ^ 8 * a by omega, ← Nat.two_pow_add_eq_or_of_lt (by omega : n < 2 ^ 8)]
          have HOR := Lib.hid hor
          clear hn hor
          go_wp2_with (go_at_call 48; refine (number_yes p HPS.out 255 n HN.out _ HEr.out).mono ?_; rintro e wy ⟨rfl, hB⟩; replace HW := Lib.hid (below_step HW.out hB); clear hB)
          refine ⟨⟨i + 1, a * 256 + n, by omega, by go_num, by rw [HOR.out], ?_, by rw [foldNum_take HF.out HPI.out, HN.out], HW.out⟩, by simp [intOf]; omega⟩
          have h1 := HA.out
          rw [Nat.pow_succ]
          omega
        | none =>
          have HN := Lib.hid hn
          clear hn
          go_wp2_with (go_at_call 48; refine (number_no p HPS.out 255 HN.out _ HEr.out).mono ?_; rintro e wy ⟨n, rfl, hB⟩; replace HW := Lib.hid (below_step HW.out hB); clear hB)
          have hres : res = none := by
            rw [HP.out, if_pos HC.out]
            exact foldNum_take_le (k := i + 1) (by rw [foldNum_take HF.out HPI.out, HN.out])
          subst hres
          go_ret2
          exact ⟨rfl, below_step HB.out HW.out⟩
      · obtain rfl : i = 4 := by omega
        have hres : res = some a := by
          rw [HP.out, if_pos HC.out, ← HF.out, List.take_of_length_le (by rw [HC.out]; exact Nat.le_refl _)]
        subst hres
        go_wp2_with fail
        go_ret2
        exact ⟨rfl, below_step HB.out HW.out⟩
  · have hres : res = none := by rw [HP.out, if_neg (by rw [HC.out]; exact h4)]
    subst hres
    have h4' : ((c : Int) != 4) = true := by simp; omega
    have h4'' : ¬ (c : Int) = 4 := by omega
    go_enter Tryd.func34, Tryd.ntmps34
    go_wp2_with (go_at_call 32; refine (split_calls s hs _ HE.out c HC.out).mono ?_; rintro e wx ⟨rfl, hcell, hB⟩; replace HB := Lib.hid (below_step HB.out hB); clear hB hcell)
    go_ret2
    exact ⟨rfl, HB.out⟩
end Go.Proofs.YtbahcpejippcjaaDoor
