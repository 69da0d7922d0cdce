/- Texts of this proof, put together: N1 N2 N3 N4 N5 N6. -/
import Derived.Test.YtpbknbnhljjjcaaDoorMU
import Derived.Test.YtpbknbnhljjjcaaDoorProg
import Derived.BigRegion
import Derived.BigQuiet
import Derived.WalkSmall
import Derived.Deep.AppendLies
import Derived.Deep.CutRange
import Derived.Deep.DeepMust
import Derived.Deep.RegionWith
import Derived.Laws.AppendOwnNone
import Derived.StillTail
import Derived.StillTailTactics
import Derived.OrdersHeld
namespace Go.Proofs.YtpbknbnhljjjcaaDoor
open Go.RowKit Go.Maps Go.Lib

/-- A region that draws its order: all but its last operations ahead. -/
theorem reg_tail {P : Program} {id : Nat} {Q : Exit → Act → World → Prop} {a : Act} {w : World} {l : List Oper} (n : Nat) (hm : P.follows .mixedOrders = true) (hB : Region.lexTailB .any l.toArray n = true)
    (h : wpStill P l.toArray w.drew (fun a' => wpList P l.toArray Q (l.drop n) a' w.drew) (l.take n) a) : (Code.region id l.toArray true).wp P Q a w := wp_region_still_tail n hm hB h
theorem rown_at {w : World} {base : Nat} {e : TypeId} {size : Nat} {n cap : Nat} {xs : List Value} {g : Nat} (h : w.ownsRow base e size (.slice (some ⟨g, 0, none⟩) n cap) n xs) {i : Nat} {u : Value} (hu : xs[i]? = some u) : w.cell? ⟨g, i, none⟩ = some u := by
  have := h.cells (g := g) rfl i u hu
  rwa [Addr.add_lit, Nat.zero_add] at this
theorem rown_free {w : World} {base : Nat} {e : TypeId} {size : Nat} {n cap : Nat} {xs : List Value} {g : Nat} (h : w.ownsRow base e size (.slice (some ⟨g, 0, none⟩) n cap) n xs) (j : Nat) : w.frozen? ⟨g, j, none⟩ = false := by
  rcases h.2 with ⟨hv', _⟩ | ⟨g', cap', cur, hv', _, hgb, _⟩
  · cases hv'
  · cases hv'
    simp [World.frozen?, hgb]
theorem row_lt {w : World} {base : Nat} {e : TypeId} {size : Nat} {n : Nat} {v : Value} {xs : List Value} {g : Nat} (h : w.ownsRow base e size v n xs) (hg : v.ownBlock = some g) : g < w.heap.size := by
  rcases h.2 with ⟨hv', _⟩ | ⟨g', cap', cur, hv', _, hgb, _⟩
  · rw [hv'] at hg; cases hg
  · rw [hv'] at hg
    cases hg
    exact (Array.getElem?_eq_some_iff.1 hgb).1
theorem row_put {w : World} {base : Nat} {e : TypeId} {size : Nat} {n cap : Nat} {xs : List Value} {g : Nat} (h : w.ownsRow base e size (.slice (some ⟨g, 0, none⟩) n cap) n xs) (i : Nat) (u : Value) : (w.setCell ⟨g, i, none⟩ u).ownsRow base e size (.slice (some ⟨g, 0, none⟩) n cap) n (xs.set i u) := by
  obtain ⟨h1, ⟨hv, _⟩ | ⟨g', cap', cur, hv, hb, hgb, hle, hm, hsz, htk⟩⟩ := h
  · cases hv
  · cases hv
    refine ⟨by rw [List.length_set]; exact h1, .inr ⟨g, cap, cur.setIfInBounds i u, rfl, hb, by simp [World.setCell, Array.getElem?_modify, hgb], hle, hm, by simp [hsz], ?_⟩⟩
    rw [Array.toList_setIfInBounds, List.take_set, htk]
theorem row_form {X : World} {base e k n : Nat} {v : Value} {xs : List Value} (h : X.ownsRow base e k v n xs) : ∃ p cap, v = .slice p n cap ∧ n ≤ cap ∧ (cap : Int) ≤ 9223372036854775807 := by
  rcases h.2 with ⟨hv, h0⟩ | ⟨g, cap, cur, hv, _, _, hle, hm, _⟩
  · exact ⟨none, 0, by rw [hv, h0], by omega, by omega⟩
  · exact ⟨_, cap, hv, hle, by unfold maxLen at hm; omega⟩
theorem row_kept {w w' : World} {base : Nat} {e : TypeId} {size : Nat} {v : Value} {n : Nat} {xs : List Value} (h : w.ownsRow base e size v n xs) (hk : ∀ g, v.ownBlock = some g → w'.heap[g]? = w.heap[g]?) : w'.ownsRow base e size v n xs := by
  rcases h with ⟨h1, ⟨hv, h0⟩ | ⟨g, cap, cur, hv, hb, hgb, r⟩⟩
  · exact ⟨h1, .inl ⟨hv, h0⟩⟩
  · exact ⟨h1, .inr ⟨g, cap, cur, hv, hb, (hk g (by rw [hv]; rfl)).trans hgb, r⟩⟩
theorem row_base {w : World} {base base' : Nat} {e : TypeId} {size : Nat} {v : Value} {n : Nat} {xs : List Value} (h : w.ownsRow base e size v n xs) (hb : base' ≤ base) : w.ownsRow base' e size v n xs := by
  obtain ⟨h1, h | ⟨g, cap, cur, hv, hg, r⟩⟩ := h
  · exact ⟨h1, .inl h⟩
  · exact ⟨h1, .inr ⟨g, cap, cur, hv, Nat.le_trans hb hg, r⟩⟩
theorem frozen_of_block {w w' : World} {b k : Nat} (h : w'.heap[b]? = w.heap[b]?) : w'.frozen? ⟨b, k, none⟩ = w.frozen? ⟨b, k, none⟩ := by
  simp [World.frozen?, h]
/-- Numbers as cells. -/
def numsC (l : List Int) : List Value := l.map (Value.int .i64)
theorem numsC_at {l : List Int} {i : Nat} {x : Int} (h : l[i]? = some x) : (numsC l)[i]? = some (.int .i64 x) := by
  unfold numsC; rw [List.getElem?_map, h]; rfl
theorem numsC_set (l : List Int) (i : Nat) (x : Int) : (numsC l).set i (.int .i64 x) = numsC (l.set i x) := by
  unfold numsC; rw [List.map_set]
theorem numsC_len (l : List Int) : (numsC l).length = l.length := List.length_map _
theorem info_parts' {P : Program} {t : TypeId} {z : Value} {s b : Nat} (h : (P.info? t).map (fun i => (i.zero, i.size, i.bytes)) = some (some z, s, b)) : ∃ i, P.info? t = some i ∧ i.zero = some z ∧ i.size = s ∧ i.bytes = b := by
  cases hi : P.info? t with
  | none => rw [hi] at h; cases h
  | some i =>
    rw [hi] at h
    simp at h
    exact ⟨i, rfl, h.1, h.2.1, h.2.2⟩
theorem info3 : (Tryd.prog.info? 3).map (fun i => (i.zero, i.size, i.bytes)) = some (some (.int .i64 0), 1, 8) := by kernel_rfl
/-- Numbers have turned: those of a row that a cell keeps. -/
structure Numb (T k : Nat) (lv lv' : Value) (l' : List Int) (w w' : World) : Prop where
  cell : w'.heap[T]? = (w.setCell ⟨T, k, none⟩ lv').heap[T]?
  row : w'.ownsRow 0 3 1 lv' l'.length (numsC l')
  own : ∀ g, lv'.ownBlock = some g → lv.ownBlock = some g ∨ w.heap.size ≤ g
  os : w'.os = w.os
  tape : w'.tape = w.tape
  output : w'.output = w.output
  size : w.heap.size ≤ w'.heap.size
  block : ∀ i, i < w.heap.size → i ≠ T → lv.ownBlock ≠ some i → w'.heap[i]? = w.heap[i]?
/-- A heap's row within its loop. -/
structure Sift (T g n cap : Nat) (w3 : World) (l : List Int) (w : World) : Prop where
  row : w.ownsRow 0 3 1 (.slice (some ⟨g, 0, none⟩) n cap) n (numsC l)
  os : w.os = w3.os
  tape : w.tape = w3.tape
  output : w.output = w3.output
  size : w.heap.size = w3.heap.size
  block : ∀ i, i ≠ g → w.heap[i]? = w3.heap[i]?
theorem Sift.swap {T g n cap i j : Nat} {w3 w : World} {l : List Int} {x y : Int} (h : Sift T g n cap w3 l w) (hi : l[i]? = some x) (hj : l[j]? = some y) :
    Sift T g n cap w3 ((l.set i y).set j x) ((w.setCell ⟨g, i, none⟩ (.int .i64 y)).setCell ⟨g, j, none⟩ (.int .i64 x)) ∧ ((l.set i y).set j x).Perm l := by
  have _ := hi
  refine ⟨⟨?_, h.os, h.tape, h.output, ?_, fun b hb => ?_⟩, swap_perm hi hj⟩
  · have := row_put (row_put h.row i (.int .i64 y)) j (.int .i64 x)
    rwa [numsC_set, numsC_set] at this
  · simp [World.setCell]; exact h.size
  · rw [Below.heap_setCell _ _ _ _ hb, Below.heap_setCell _ _ _ _ hb]
    exact h.block b hb
theorem Sift.drewN {T g n cap : Nat} {w3 w : World} {l : List Int} (h : Sift T g n cap w3 l w) (k : Nat) : Sift T g n cap w3 l (w.drewN k) :=
  ⟨row_kept h.row (fun _ _ => rfl), h.os, h.tape, h.output, h.size, h.block⟩
end Go.Proofs.YtpbknbnhljjjcaaDoor

namespace Go.Proofs.YtpbknbnhljjjcaaDoor
open Go.RowKit Go.Maps Go.Lib

theorem set_block {w w' : World} {T k : Nat} {v : Value} (h : w'.heap[T]? = w.heap[T]?) : (w'.setCell ⟨T, k, none⟩ v).heap[T]? = (w.setCell ⟨T, k, none⟩ v).heap[T]? := by
  simp [World.setCell, Array.getElem?_modify, h]
theorem sift_done {T k g n cap : Nat} {lv : Value} {l' : List Int} {w w2 wr : World} {o : Obj} (hs : Sift T g n cap (w2.setCell ⟨T, k, none⟩ (.slice (some ⟨g, 0, none⟩) n cap)) l' wr) (hl : l'.length = n) (hTl : T < w.heap.size) (hT : lv.ownBlock ≠ some T) (hg : (w.alloc o).grownBy w2 lv.ownBlock) (hat : lv.ownBlock = some g ∨ g = (w.alloc o).heap.size) (hgT : g ≠ T) :
    Numb T k lv (.slice (some ⟨g, 0, none⟩) n cap) l' w wr := by
  have hsz : (w.alloc o).heap.size = w.heap.size + 1 := by simp
  refine ⟨?_, by rw [hl]; exact hs.row, fun g' e => ?_, hs.os.trans hg.os, hs.tape.trans hg.tape, hs.output.trans hg.output, ?_, fun i hi h1 h2 => ?_⟩
  · rw [hs.block T (fun e => hgT e.symm)]
    exact set_block ((hg.block T (by omega) (fun e => hT e.symm)).trans (Below.heap_alloc _ _ _ hTl))
  · obtain rfl : g = g' := by simpa [Value.ownBlock] using e
    rcases hat with e | e
    · exact .inl e
    · exact .inr (by omega)
  · rw [hs.size]
    have := hg.size
    simp [World.setCell]
    omega
  · have hig : i ≠ g := fun e => by
      rcases hat with e2 | e2
      · exact h2 (e ▸ e2)
      · omega
    rw [hs.block i hig, Below.heap_setCell _ _ _ _ h1, hg.block i (by omega) (fun e => h2 e.symm)]
    exact Below.heap_alloc _ _ _ hi
set_option maxRecDepth 100000 in
set_option maxHeartbeats 2000000 in
theorem push_ok {T k : Nat} {lv : Value} {l : List Int} {w : World} (hc : w.cell? ⟨T, k, none⟩ = some lv) (hf : w.frozen? ⟨T, k, none⟩ = false) (hr : w.ownsRow 0 3 1 lv l.length (numsC l)) (hT : lv.ownBlock ≠ some T) (hl : l.length < 1000000) (x : Int) :
    Calls Tryd.prog 80 #[.pointer (some ⟨T, k, none⟩), .int .i64 x] w fun e w' => e = .returned (.tuple #[]) ∧ ∃ lv' l', l'.Perm (x :: l) ∧ Numb T k lv lv' l' w w' := by
  have hTl := World.block_lt_of_cell? _ _ hc
  dsimp only at hTl
  obtain ⟨n, hn⟩ : ∃ n, l.length = n := ⟨_, rfl⟩
  rw [hn] at hr hl
  obtain ⟨i0, hi, hz0, hz1, hz2⟩ := info_parts' info3
  have HI := Lib.hid (And.intro hi (And.intro hz0 (And.intro hz1 hz2)))
  have HR := Lib.hid hr
  have HT := Lib.hid hT
  have HN := Lib.hid hn
  have HC := Lib.hid (And.intro hc hf)
  clear hi hz0 hz1 hz2 hr hT hn
  have HB := Lib.hid (fun (w2 : World) (h : (w.alloc (.cells #[.int .i64 x] 3)).grownBy w2 lv.ownBlock) => show w2.heap[T]? = w.heap[T]? from (h.block T (by simp; omega) (fun e => HT.out e.symm)).trans (Below.heap_alloc _ _ _ hTl))
  go_enter Tryd.func80, Tryd.ntmps80
  go_wp2_with (at_builtin; go_must (refine wpList_append_lies _ rfl _ _ 102 (by rfl) 0 3 i0 (.int .i64 0) 1 8 Tryd.underlying102 HI.out.1 HI.out.2.1 HI.out.2.2.1 HI.out.2.2.2 (by rfl) (by decide) lv n (numsC l) (by rfl) (row_kept HR.out (fun g hg => Below.heap_alloc _ _ _ (row_lt HR.out hg))) ⟨w.heap.size, 0, none⟩ 1 1 [.int .i64 x] (by rfl) rfl (World.news_of_block (heap_alloc_new _ _)) (by simp [Value.oneCell']) (by decide) (by unfold maxLen; omega) (by omega) (Nat.zero_le _) _ rfl ?_; intro g cap w2 hown hgrow hat hlt; have HG := Lib.hid (And.intro hgrow (And.intro hat hlt)); have HOW := Lib.hid hown; have c2 := (World.cell?_of_block (HB.out w2 hgrow)).trans hc; have f2 := (frozen_of_block (HB.out w2 hgrow)).trans hf; clear hown hgrow hat hlt))
  obtain ⟨w3, hw3⟩ : ∃ w3, w2.setCell ⟨T, k, none⟩ (.slice (some ⟨g, 0, none⟩) (n + 1) cap) = w3 := ⟨_, rfl⟩
  have HW3 := Lib.hid hw3
  have hgT : g ≠ T := by
    rcases HG.out.2.1 with e | e
    · rintro rfl; exact HT.out e
    · simp at e; omega
  have HGT := Lib.hid hgT
  obtain ⟨p0, cap0, hv0, hcap, hcap2⟩ := row_form HOW.out
  cases hv0
  have hcI : ((n + 1 : Nat) : Int) ≤ (cap : Int) := by omega
  have HS0 := Lib.hid (show Sift T g (n + 1) cap w3 (l ++ [x]) w3 from by
    refine ⟨?_, rfl, rfl, rfl, rfl, fun _ _ => rfl⟩
    rw [← hw3]
    have h1 := row_kept HOW.out (w' := w2.setCell ⟨T, k, none⟩ (.slice (some ⟨g, 0, none⟩) (n + 1) cap)) (fun g' e => by cases e; exact Below.heap_setCell _ _ _ _ hgT)
    unfold numsC at h1 ⊢
    rw [List.map_append]
    exact h1)
  rw [hw3]
  have hlen : (l ++ [x]).length = n + 1 := by rw [List.length_append, HN.out]; rfl
  have HLEN := Lib.hid hlen
  obtain ⟨N, hNN⟩ : ∃ N, n + 1 = N := ⟨_, rfl⟩
  rw [hNN] at HS0 HLEN hcap hcI
  have HNN := Lib.hid hNN
  clear hw3 hgT c2 f2 hlen hcap2
  have hNb : 1 ≤ N ∧ N ≤ 1000000 := by omega
  have hnN : (n : Int) = (N : Int) - 1 := by omega
  have HFP := Lib.hid (fun (m : List Int) (h : m.Perm (l ++ [x])) => h.trans (List.perm_append_comm (l₁ := l) (l₂ := [x])))
  go_loopw [5] (fun vi wr => ∃ (i : Nat) (l' : List Int), i < N ∧ vi = .int .i64 (i : Int) ∧ l'.Perm (l ++ [x]) ∧ Sift T g N cap w3 l' wr) (fun vi _ => (intOf vi).toNat)
  case atStart => exact ⟨n, l ++ [x], by omega, by go_num, List.Perm.refl _, HS0.out⟩
  case round =>
    obtain ⟨i, l', hi, rfl, hp, hs⟩ := hrel
    have HP := Lib.hid hp
    have HS := Lib.hid hs
    clear hp hs
    have hl' : l'.length = N := by rw [HP.out.length_eq, HLEN.out]
    have HL' := Lib.hid hl'
    clear hl'
    by_cases h0 : i = 0
    · subst h0
      go_wp2_with fail
      go_quiet (fail)
      go_wp2_with fail
      go_end0
      refine ⟨rfl, .slice (some ⟨g, 0, none⟩) (n + 1) cap, l', HFP.out _ HP.out, ?_⟩
      have hd := HS.out.drewN nq
      rw [← HW3.out, ← HNN.out] at hd
      exact sift_done hd (by rw [HL'.out, HNN.out]) hTl HT.out HG.out.1 HG.out.2.1 HGT.out
    · obtain ⟨j, hj⟩ : ∃ j, (i - 1) / 2 = j := ⟨_, rfl⟩
      have hji : j < i := by omega
      obtain ⟨a, ha⟩ : ∃ a, l'[i]? = some a := ⟨l'[i]'(by have := HL'.out; omega), List.getElem?_eq_getElem _⟩
      obtain ⟨b, hb⟩ : ∃ b, l'[j]? = some b := ⟨l'[j]'(by have := HL'.out; omega), List.getElem?_eq_getElem _⟩
      have ci := rown_at HS.out.row (numsC_at ha)
      have cj := rown_at HS.out.row (numsC_at hb)
      have fi := rown_free HS.out.row i
      have fj := rown_free HS.out.row j
      have HAB := Lib.hid (And.intro ha hb)
      clear ha hb
      have hiI : (0 : Int) < (i : Int) := by omega
      have hiN : (i : Int) < (N : Int) := by omega
      have hjN : (j : Int) < (N : Int) := by omega
      have hq : ((i : Int) - 1) / 2 = (j : Int) := by omega
      have hjne : j ≠ i := by omega
      have hi0 : 0 < i := by omega
      have hd0 : decide (0 < i) = true := decide_eq_true hi0
      have hd1 : decide ((0 : Int) < (i : Int)) = true := decide_eq_true hiI
      have hiN2 : (i : Int) < (n : Int) + 1 := by omega
      have hjN2 : (j : Int) < (n : Int) + 1 := by omega
      by_cases hgt : a < b
      · have hg1 : decide (a < b) = true := decide_eq_true hgt
        go_wp2_with fail
        go_quiet (fail)
        go_wp2_with fail
        go_region
        go_wp2_with fail
        obtain ⟨hs5, hp5⟩ := (HS.out.drewN (nq + 1)).swap HAB.out.1 HAB.out.2
        go_roundw
        case rel => exact ⟨j, _, by omega, by go_num, hp5.trans HP.out, hs5⟩
        case measure => simp [intOf]; omega
      · have hg1 : decide (a < b) = false := decide_eq_false hgt
        go_wp2_with fail
        go_quiet (fail)
        go_wp2_with fail
        go_end0
        refine ⟨rfl, .slice (some ⟨g, 0, none⟩) (n + 1) cap, l', HFP.out _ HP.out, ?_⟩
        have hd := HS.out.drewN nq
        rw [← HW3.out, ← HNN.out] at hd
        exact sift_done hd (by rw [HL'.out, HNN.out]) hTl HT.out HG.out.1 HG.out.2.1 HGT.out
end Go.Proofs.YtpbknbnhljjjcaaDoor

namespace Go.Proofs.YtpbknbnhljjjcaaDoor
open Go.RowKit Go.Maps Go.Lib

theorem rown_cut {w : World} {base : Nat} {e : TypeId} {n cap m : Nat} {xs : List Value} {g : Nat} (h : w.ownsRow base e 1 (.slice (some ⟨g, 0, none⟩) n cap) n xs) (hm : m ≤ n) : w.ownsRow base e 1 (.slice (some ⟨g, 0, none⟩) m cap) m (xs.take m) := by
  obtain ⟨h1, ⟨hv, _⟩ | ⟨g', cap', cur, hv, hb, hgb, hle, hmx, hsz, htk⟩⟩ := h
  · cases hv
  · cases hv
    refine ⟨by rw [List.length_take]; omega, .inr ⟨g, cap, cur, rfl, hb, hgb, by omega, hmx, hsz, ?_⟩⟩
    rw [← htk, List.take_take]
    congr 1
    omega
theorem sift_end {T k g n cap n0 : Nat} {l' : List Int} {w wr : World} (hs : Sift T g n cap w l' wr) (hl : l'.length = n) (hgT : g ≠ T) :
    Numb T k (.slice (some ⟨g, 0, none⟩) n0 cap) (.slice (some ⟨g, 0, none⟩) n cap) l' w (wr.setCell ⟨T, k, none⟩ (.slice (some ⟨g, 0, none⟩) n cap)) := by
  refine ⟨set_block (hs.block T (fun e => hgT e.symm)), ?_, fun g' e => ?_, hs.os, hs.tape, hs.output, by simp [World.setCell]; exact Nat.le_of_eq hs.size.symm, fun i hi h1 h2 => ?_⟩
  · rw [hl]
    exact row_kept hs.row (fun g' e => by
      obtain rfl : g = g' := by simpa [Value.ownBlock] using e
      exact Below.heap_setCell _ _ _ _ hgT)
  · obtain rfl : g = g' := by simpa [Value.ownBlock] using e
    exact .inl rfl
  · rw [Below.heap_setCell _ _ _ _ h1]
    exact hs.block i (fun e => h2 (by rw [e]; rfl))
set_option maxRecDepth 100000 in
set_option maxHeartbeats 4000000 in
theorem pop_ok {T k : Nat} {lv : Value} {l : List Int} {w : World} (hc : w.cell? ⟨T, k, none⟩ = some lv) (hf : w.frozen? ⟨T, k, none⟩ = false) (hr : w.ownsRow 0 3 1 lv l.length (numsC l)) (hT : lv.ownBlock ≠ some T) (hl : l.length < 1000000) {x : Int} (hx : l[0]? = some x) :
    Calls Tryd.prog 62 #[.pointer (some ⟨T, k, none⟩)] w fun e w' => e = .returned (.int .i64 x) ∧ ∃ lv' l', (x :: l').Perm l ∧ Numb T k lv lv' l' w w' := by
  have hTl := World.block_lt_of_cell? _ _ hc
  dsimp only at hTl
  obtain ⟨n, hn⟩ : ∃ n, l.length = n := ⟨_, rfl⟩
  rw [hn] at hr hl
  have hn0 : 0 < n := by have := (List.getElem?_eq_some_iff.1 hx).1; omega
  obtain ⟨y, hy⟩ : ∃ y, l[n - 1]? = some y := ⟨l[n - 1]'(by omega), List.getElem?_eq_getElem _⟩
  obtain ⟨g, cap, hv, _⟩ := World.ownsRow.form hr hn0
  subst hv
  obtain ⟨M, hM⟩ : ∃ M, n = M + 1 := ⟨n - 1, by omega⟩
  subst hM
  have hgT : g ≠ T := fun e => hT (by rw [e]; rfl)
  obtain ⟨p0, cap0, hv0, hcap, hcap2⟩ := row_form hr
  cases hv0
  rw [Nat.add_sub_cancel] at hy
  have c0 := rown_at hr (numsC_at hx)
  have cM := rown_at hr (numsC_at hy)
  have f0 := rown_free hr 0
  have HP0 := Lib.hid (pop_perm hx (by rw [hn]; exact hy))
  rw [hn] at HP0
  have hS0 : Sift T g M cap w ((l.set 0 y).take M) (w.setCell ⟨g, 0, none⟩ (.int .i64 y)) := by
    refine ⟨?_, rfl, rfl, rfl, by simp [World.setCell], fun i hi => Below.heap_setCell _ _ _ _ hi⟩
    have h1 := rown_cut (row_put hr 0 (.int .i64 y)) (m := M) (by omega)
    rw [numsC_set] at h1
    unfold numsC at h1 ⊢
    rwa [← List.map_take] at h1
  have HS0 := Lib.hid hS0
  have hcI : ((M : Int) + 1) ≤ (cap : Int) := by omega
  have hMI : ((M + 1 : Nat) : Int) = (M : Int) + 1 := by omega
  have HL0 := Lib.hid (show ((l.set 0 y).take M).length = M from by rw [List.length_take, List.length_set]; omega)
  have HGT := Lib.hid hgT
  have HN := Lib.hid hn
  clear hx hy hr hS0 hn hT
  go_enter Tryd.func62, Tryd.ntmps62
  go_wp2_with fail
  obtain ⟨w3, hw3⟩ : ∃ w3, w.setCell ⟨g, 0, none⟩ (.int .i64 y) = w3 := ⟨_, rfl⟩
  have HW3 := Lib.hid hw3
  rw [hw3] at HS0
  rw [hw3]
  clear hw3 c0 cM f0
  have HC := Lib.hid (And.intro hc hf)
  clear hc hf
  go_loopw [5] (fun vi wr => ∃ (i : Nat) (l' : List Int), i ≤ M ∧ vi = .int .i64 (i : Int) ∧ l'.Perm ((l.set 0 y).take M) ∧ Sift T g M cap w l' wr) (fun vi _ => M - (intOf vi).toNat)
  case atStart => exact ⟨0, _, by omega, rfl, List.Perm.refl _, HS0.out⟩
  case round =>
    obtain ⟨i, l', hi, rfl, hp, hs⟩ := hrel
    have HP := Lib.hid hp
    have HS := Lib.hid hs
    have HL' := Lib.hid (show l'.length = M from by rw [hp.length_eq]; exact HL0.out)
    have cT : wr.cell? ⟨T, k, none⟩ = some (.slice (some ⟨g, 0, none⟩) (M + 1) cap) := (World.cell?_of_block (hs.block T (fun e => HGT.out e.symm))).trans HC.out.1
    have fT : wr.frozen? ⟨T, k, none⟩ = false := (frozen_of_block (hs.block T (fun e => HGT.out e.symm))).trans HC.out.2
    clear hp hs
    obtain ⟨q, hq⟩ : ∃ q, 2 * i + 1 = q := ⟨_, rfl⟩
    have hqI : 2 * (i : Int) + 1 = (q : Int) := by omega
    have hMcap : (M : Int) ≤ (cap : Int) := by omega
    by_cases hlt : q + 1 < M
    · obtain ⟨p, hpq⟩ : ∃ p, q + 1 = p := ⟨_, rfl⟩
      have hltI : (q : Int) + 1 < (M : Int) := by omega
      have hltI2 : (q : Int) < (M : Int) := by omega
      have hpI : (q : Int) + 1 = (p : Int) := by omega
      have hpM : (p : Int) < (M : Int) := by omega
      have hpN : p < M := by omega
      have hd1 : decide ((p : Int) < (M : Int)) = true := decide_eq_true hpM
      have hd2 : decide (p < M) = true := decide_eq_true hpN
      obtain ⟨a, ha⟩ : ∃ a, l'[q]? = some a := ⟨l'[q]'(by have := HL'.out; omega), List.getElem?_eq_getElem _⟩
      obtain ⟨b, hb⟩ : ∃ b, l'[p]? = some b := ⟨l'[p]'(by have := HL'.out; omega), List.getElem?_eq_getElem _⟩
      have cq := rown_at HS.out.row (numsC_at ha)
      have cp := rown_at HS.out.row (numsC_at hb)
      have HAB := Lib.hid (And.intro ha hb)
      clear ha hb
      by_cases hba : b < a
      · have hdb : decide (b < a) = true := decide_eq_true hba
        go_wp2_with fail
        go_quiet (fail)
        go_wp2_with fail
        obtain ⟨v, hv⟩ : ∃ v, l'[i]? = some v := ⟨l'[i]'(by have := HL'.out; omega), List.getElem?_eq_getElem _⟩
        have ci := rown_at HS.out.row (numsC_at hv)
        have fi := rown_free HS.out.row i
        have fc := rown_free HS.out.row p
        have HV := Lib.hid hv
        clear hv
        have hiM : (i : Int) < (M : Int) := by omega
        have hge : ¬ (M : Int) ≤ (p : Int) := by omega
        have hgeN : ¬ M ≤ p := by omega
        have hne : i ≠ p := by omega
        by_cases hle : v ≤ b
        · have hdl : decide (v ≤ b) = true := decide_eq_true hle
          go_quiet (fail)
          go_wp2_with fail
          go_ret
          exact ⟨rfl, .slice (some ⟨g, 0, none⟩) M cap, l', (HP.out.cons _).trans HP0.out, sift_end (HS.out.drewN _) HL'.out HGT.out⟩
        · have hdl : decide (v ≤ b) = false := decide_eq_false hle
          go_quiet (fail)
          go_wp2_with fail
          go_region
          go_wp2_with fail
          obtain ⟨hs5, hp5⟩ := (HS.out.drewN _).swap HV.out HAB.out.2
          go_roundw
          case rel => exact ⟨p, _, by omega, by go_num, hp5.trans HP.out, hs5⟩
          case measure => simp [intOf]; omega
      · have hdb : decide (b < a) = false := decide_eq_false hba
        go_wp2_with fail
        go_quiet (fail)
        go_wp2_with fail
        obtain ⟨v, hv⟩ : ∃ v, l'[i]? = some v := ⟨l'[i]'(by have := HL'.out; omega), List.getElem?_eq_getElem _⟩
        have ci := rown_at HS.out.row (numsC_at hv)
        have fi := rown_free HS.out.row i
        have fc := rown_free HS.out.row q
        have HV := Lib.hid hv
        clear hv
        have hiM : (i : Int) < (M : Int) := by omega
        have hge : ¬ (M : Int) ≤ (q : Int) := by omega
        have hgeN : ¬ M ≤ q := by omega
        have hne : i ≠ q := by omega
        by_cases hle : v ≤ a
        · have hdl : decide (v ≤ a) = true := decide_eq_true hle
          go_quiet (fail)
          go_wp2_with fail
          go_ret
          exact ⟨rfl, .slice (some ⟨g, 0, none⟩) M cap, l', (HP.out.cons _).trans HP0.out, sift_end (HS.out.drewN _) HL'.out HGT.out⟩
        · have hdl : decide (v ≤ a) = false := decide_eq_false hle
          go_quiet (fail)
          go_wp2_with fail
          go_region
          go_wp2_with fail
          obtain ⟨hs5, hp5⟩ := (HS.out.drewN _).swap HV.out HAB.out.1
          go_roundw
          case rel => exact ⟨q, _, by omega, by go_num, hp5.trans HP.out, hs5⟩
          case measure => simp [intOf]; omega
    · have hltI : ¬ (q : Int) + 1 < (M : Int) := by omega
      have hd1 : decide ((q : Int) + 1 < (M : Int)) = false := decide_eq_false hltI
      have hd2 : decide (q + 1 < M) = false := decide_eq_false hlt
      by_cases hqM : q < M
      · obtain ⟨a, ha⟩ : ∃ a, l'[q]? = some a := ⟨l'[q]'(by have := HL'.out; omega), List.getElem?_eq_getElem _⟩
        have cq := rown_at HS.out.row (numsC_at ha)
        have HAB := Lib.hid (And.intro ha ha)
        have hltI2 : (q : Int) < (M : Int) := by omega
        clear ha
        go_wp2_with fail
        go_quiet (fail)
        go_wp2_with fail
        obtain ⟨v, hv⟩ : ∃ v, l'[i]? = some v := ⟨l'[i]'(by have := HL'.out; omega), List.getElem?_eq_getElem _⟩
        have ci := rown_at HS.out.row (numsC_at hv)
        have fi := rown_free HS.out.row i
        have fc := rown_free HS.out.row q
        have HV := Lib.hid hv
        clear hv
        have hiM : (i : Int) < (M : Int) := by omega
        have hge : ¬ (M : Int) ≤ (q : Int) := by omega
        have hgeN : ¬ M ≤ q := by omega
        have hne : i ≠ q := by omega
        by_cases hle : v ≤ a
        · have hdl : decide (v ≤ a) = true := decide_eq_true hle
          go_quiet (fail)
          go_wp2_with fail
          go_ret
          exact ⟨rfl, .slice (some ⟨g, 0, none⟩) M cap, l', (HP.out.cons _).trans HP0.out, sift_end (HS.out.drewN _) HL'.out HGT.out⟩
        · have hdl : decide (v ≤ a) = false := decide_eq_false hle
          go_quiet (fail)
          go_wp2_with fail
          go_region
          go_wp2_with fail
          obtain ⟨hs5, hp5⟩ := (HS.out.drewN _).swap HV.out HAB.out.1
          go_roundw
          case rel => exact ⟨q, _, by omega, by go_num, hp5.trans HP.out, hs5⟩
          case measure => simp [intOf]; omega
      · have hge : (M : Int) ≤ (q : Int) := by omega
        have hgeN : M ≤ q := by omega
        have hd3 : decide ((M : Int) ≤ (q : Int)) = true := decide_eq_true hge
        have hd4 : decide (M ≤ q) = true := decide_eq_true hgeN
        go_wp2_with fail
        go_quiet (fail)
        go_wp2_with fail
        go_quiet (fail)
        go_wp2_with fail
        go_ret
        exact ⟨rfl, .slice (some ⟨g, 0, none⟩) M cap, l', (HP.out.cons _).trans HP0.out, sift_end (HS.out.drewN _) HL'.out HGT.out⟩
end Go.Proofs.YtpbknbnhljjjcaaDoor

namespace Go.Proofs.YtpbknbnhljjjcaaDoor
open Go.RowKit Go.Maps Go.Lib

/-- A flow. -/
structure Fw where
  c : Tup
  b : Tup
  sv : Int
  bk : Int
  st : Int
  dsr : Bool
deriving DecidableEq
def Fw.cells (f : Fw) : List Value := f.c.cells ++ f.b.cells ++ [.int .i64 f.sv, .int .i64 f.bk, .int .i64 f.st, .bool f.dsr]
def Fw.v (f : Fw) : Value := .agg #[.int .i64 f.c.p, .int .u32 f.c.s, .int .u32 f.c.d, .int .i64 f.c.x, .int .i64 f.c.y, .int .i64 f.b.p, .int .u32 f.b.s, .int .u32 f.b.d, .int .i64 f.b.x, .int .i64 f.b.y, .int .i64 f.sv, .int .i64 f.bk, .int .i64 f.st, .bool f.dsr]
/-- What a row holds: both names and a flow. -/
structure Ro where
  a : Tup
  b : Tup
  v : Fw
def zT : Tup := ⟨0, 0, 0, 0, 0⟩
def zF : Fw := ⟨zT, zT, 0, 0, 0, false⟩
def roC : Option Ro → List Value
  | none => zT.cells ++ zT.cells ++ zF.cells ++ [.bool false]
  | some r => r.a.cells ++ r.b.cells ++ r.v.cells ++ [.bool true]
def rowsR (l : List (Option Ro)) : List Value := l.flatMap roC
theorem roC_len (x : Option Ro) : (roC x).length = 25 := by cases x <;> rfl
theorem rowsR_len (l : List (Option Ro)) : (rowsR l).length = l.length * 25 := by
  unfold rowsR
  induction l with
  | nil => rfl
  | cons a l ih => rw [List.flatMap_cons, List.length_append, ih, roC_len]; simp; omega
theorem rowsR_append (l m : List (Option Ro)) : rowsR (l ++ m) = rowsR l ++ rowsR m := List.flatMap_append
theorem rowsR_at {l : List (Option Ro)} {i : Nat} {x : Option Ro} (h : l[i]? = some x) (k : Nat) (hk : k < 25) : (rowsR l)[i * 25 + k]? = (roC x)[k]? := by
  induction l generalizing i with
  | nil => simp at h
  | cons a l ih =>
    show (roC a ++ rowsR l)[i * 25 + k]? = _
    cases i with
    | zero =>
      simp at h
      subst h
      rw [Nat.zero_mul, Nat.zero_add, List.getElem?_append_left (by rw [roC_len]; omega)]
    | succ i =>
      rw [List.getElem?_append_right (by rw [roC_len]; omega), roC_len, show (i + 1) * 25 + k - 25 = i * 25 + k from by omega]
      exact ih (by simpa using h)
/-- Values laid over a list from some place on. -/
def over (xs : List Value) (o : Nat) : List Value → List Value
  | [] => xs
  | v :: vs => over (xs.set o v) (o + 1) vs
theorem over_len (vs : List Value) : ∀ (xs : List Value) (o : Nat), (over xs o vs).length = xs.length := by
  induction vs with
  | nil => intro xs o; rfl
  | cons v vs ih => intro xs o; show (over (xs.set o v) (o + 1) vs).length = _; rw [ih, List.length_set]
theorem over_left (vs : List Value) : ∀ (A B : List Value) (o : Nat), o + vs.length ≤ A.length → over (A ++ B) o vs = over A o vs ++ B := by
  induction vs with
  | nil => intro A B o _; rfl
  | cons v vs ih =>
    intro A B o h
    simp only [List.length_cons] at h
    show over ((A ++ B).set o v) (o + 1) vs = over (A.set o v) (o + 1) vs ++ B
    rw [List.set_append_left _ _ (by omega), ih _ _ _ (by rw [List.length_set]; omega)]
theorem over_right (vs : List Value) : ∀ (A B : List Value) (o : Nat), A.length ≤ o → over (A ++ B) o vs = A ++ over B (o - A.length) vs := by
  induction vs with
  | nil => intro A B o _; rfl
  | cons v vs ih =>
    intro A B o h
    show over ((A ++ B).set o v) (o + 1) vs = A ++ over (B.set (o - A.length) v) (o - A.length + 1) vs
    rw [List.set_append_right _ _ h, ih _ _ _ (by omega), show o + 1 - A.length = o - A.length + 1 from by omega]
theorem rowsR_over {l : List (Option Ro)} {i : Nat} {x y : Option Ro} (h : l[i]? = some x) (k : Nat) (vs : List Value) (hk : k + vs.length ≤ 25) (hv : over (roC x) k vs = roC y) : over (rowsR l) (i * 25 + k) vs = rowsR (l.set i y) := by
  induction l generalizing i with
  | nil => simp at h
  | cons a l ih =>
    show over (roC a ++ rowsR l) (i * 25 + k) vs = _
    cases i with
    | zero =>
      simp at h
      subst h
      rw [Nat.zero_mul, Nat.zero_add, over_left _ _ _ _ (by rw [roC_len]; omega), hv]
      rfl
    | succ i =>
      rw [over_right _ _ _ _ (by rw [roC_len]; omega), roC_len, show (i + 1) * 25 + k - 25 = i * 25 + k from by omega, ih (by simpa using h)]
      rfl
theorem row_puts {base : Nat} {e : TypeId} {size : Nat} {n cap : Nat} {g : Nat} (vs : List Value) : ∀ {w : World} {xs : List Value} (_ : w.ownsRow base e size (.slice (some ⟨g, 0, none⟩) n cap) n xs) (o : Nat), (w.setCells g o vs).ownsRow base e size (.slice (some ⟨g, 0, none⟩) n cap) n (over xs o vs) := by
  induction vs with
  | nil => intro w xs h o; exact h
  | cons v vs ih => intro w xs h o; exact ih (row_put h o v) (o + 1)
theorem puts_else (vs : List Value) : ∀ (w : World) (g o : Nat) {b : Nat} (_ : b ≠ g), (w.setCells g o vs).heap[b]? = w.heap[b]? := by
  induction vs with
  | nil => intro w g o b _; rfl
  | cons v vs ih => intro w g o b h; show ((w.setCell ⟨g, o, none⟩ v).setCells g (o + 1) vs).heap[b]? = _; rw [ih _ _ _ h]; exact Below.heap_setCell _ _ _ _ h
theorem puts_world (vs : List Value) : ∀ (w : World) (g o : Nat), (w.setCells g o vs).os = w.os ∧ (w.setCells g o vs).tape = w.tape ∧ (w.setCells g o vs).output = w.output ∧ (w.setCells g o vs).heap.size = w.heap.size := by
  induction vs with
  | nil => intro w g o; exact ⟨rfl, rfl, rfl, rfl⟩
  | cons v vs ih =>
    intro w g o
    obtain ⟨h1, h2, h3, h4⟩ := ih (w.setCell ⟨g, o, none⟩ v) g (o + 1)
    exact ⟨h1, h2, h3, h4.trans (by simp [World.setCell])⟩
section
variable {w : World} {rows : List (Option Ro)} {gR capR : Nat} (h : w.ownsRow 0 144 25 (.slice (some ⟨gR, 0, none⟩) rows.length capR) rows.length (rowsR rows))
include h
/-- A part of a row. -/
theorem rows_part {i : Nat} {x : Option Ro} (hx : rows[i]? = some x) (k : Nat) (cs : List Value) (hk : k + cs.length ≤ 25) (hc : ∀ j v, cs[j]? = some v → (roC x)[k + j]? = some v) : w.rangeAt gR (i * 25 + k) cs := fun j v hj => by
  have hl := (List.getElem?_eq_some_iff.1 hj).1
  have := rown_at h (i := i * 25 + (k + j)) (u := v) (by rw [rowsR_at hx (k + j) (by omega)]; exact hc j v hj)
  rwa [← Nat.add_assoc] at this
theorem rows_there {i : Nat} {x : Option Ro} (hx : rows[i]? = some x) (k m : Nat) (hk : k + m ≤ 25) : w.there gR (i * 25 + k) m := fun j hj => by
  refine ⟨?_, rown_free h _⟩
  have hl : k + j < (roC x).length := by rw [roC_len]; omega
  have := rown_at h (i := i * 25 + (k + j)) (u := (roC x)[k + j]) (by rw [rowsR_at hx (k + j) (by omega)]; exact List.getElem?_eq_getElem hl)
  rw [← Nat.add_assoc] at this
  rw [this]
  rfl
end
end Go.Proofs.YtpbknbnhljjjcaaDoor

namespace Go.Proofs.YtpbknbnhljjjcaaDoor
open Go.RowKit Go.Maps Go.Lib

def hV (o : Option Nat) : Option Value := o.map (fun h => .int .i64 (h : Int))
/-- A table's ghost: its rows, the numbers that are free, whose the names are, how many there are. -/
structure Tb where
  rows : List (Option Ro)
  free : List Int
  fA : Tup → Option Nat
  fB : Tup → Option Nat
  n : Nat
def tabO (room : Nat) (rv fv : Value) (MA MB : Nat) : Obj := .cells #[.int .i64 (room : Int), rv, fv, .map (some MA), .map (some MB)] 104 (0, 0)
/-- The table at T. -/
structure TabIn (S : Nat → Prop) (T gR capR MA MB nB room : Nat) (lvF : Value) (t : Tb) (w : World) : Prop where
  box : w.heap[T]? = some (tabO room (.slice (some ⟨gR, 0, none⟩) t.rows.length capR) lvF MA MB)
  row : w.ownsRow 0 144 25 (.slice (some ⟨gR, 0, none⟩) t.rows.length capR) t.rows.length (rowsR t.rows)
  fre : w.ownsRow 0 3 1 lvF t.free.length (numsC t.free)
  mapA : MapG kT MA t.n (fun x => hV (t.fA x)) w
  mapB : MapG kT MB nB (fun x => hV (t.fB x)) w
  mem : (S T ∧ S gR ∧ S MA ∧ S MB) ∧ ∀ g, lvF.ownBlock = some g → S g
  apart : (T ≠ gR ∧ T ≠ MA ∧ T ≠ MB ∧ gR ≠ MA ∧ gR ≠ MB ∧ MA ≠ MB) ∧ ∀ g, lvF.ownBlock = some g → g ≠ T ∧ g ≠ gR ∧ g ≠ MA ∧ g ≠ MB
  low : ∀ i, S i → i < w.heap.size
section
variable {S : Nat → Prop} {T gR capR MA MB nB room : Nat} {lvF : Value} {t : Tb} {w w' : World}
theorem TabIn.kept (h : TabIn S T gR capR MA MB nB room lvF t w) (hb : ∀ b, S b → w'.heap[b]? = w.heap[b]?) (hs : w.heap.size ≤ w'.heap.size) : TabIn S T gR capR MA MB nB room lvF t w' :=
  ⟨(hb T h.mem.1.1).trans h.box, row_kept h.row (fun g e => by
    obtain rfl : gR = g := by simpa [Value.ownBlock] using e
    exact hb gR h.mem.1.2.1), row_kept h.fre (fun g e => hb g (h.mem.2 g e)), h.mapA.block (hb MA h.mem.1.2.2.1), h.mapB.block (hb MB h.mem.1.2.2.2), h.mem, h.apart, fun i hi => Nat.lt_of_lt_of_le (h.low i hi) hs⟩
theorem TabIn.below (h : TabIn S T gR capR MA MB nB room lvF t w) (hb : Below w.heap.size w w') : TabIn S T gR capR MA MB nB room lvF t w' := h.kept (fun b hS => hb.block b (h.low b hS)) hb.size
theorem TabIn.cells (h : TabIn S T gR capR MA MB nB room lvF t w) : (w.cell? ⟨T, 0, none⟩ = some (.int .i64 (room : Int)) ∧ w.cell? ⟨T, 1, none⟩ = some (.slice (some ⟨gR, 0, none⟩) t.rows.length capR) ∧ w.cell? ⟨T, 2, none⟩ = some lvF ∧ w.cell? ⟨T, 3, none⟩ = some (.map (some MA)) ∧ w.cell? ⟨T, 4, none⟩ = some (.map (some MB))) ∧ (w.frozen? ⟨T, 1, none⟩ = false ∧ w.frozen? ⟨T, 2, none⟩ = false) := by
  have h1 := h.box
  unfold tabO at h1
  refine ⟨⟨?_, ?_, ?_, ?_, ?_⟩, ?_, ?_⟩ <;> simp [World.cell?, World.frozen?, h1]
theorem TabIn.cap (h : TabIn S T gR capR MA MB nB room lvF t w) : t.rows.length ≤ capR ∧ (capR : Int) ≤ 9223372036854775807 := by
  obtain ⟨p, c, e, h1, h2⟩ := row_form h.row
  cases e
  exact ⟨h1, h2⟩
set_option maxRecDepth 100000 in
set_option maxHeartbeats 1000000 in
theorem at_nobody (h : TabIn S T gR capR MA MB nB room lvF t w) (k : Int) (hk : k < 1 ∨ (t.rows.length : Int) ≤ k ∨ ∃ i : Nat, k = (i : Int) ∧ t.rows[i]? = some none) :
    Calls Tryd.prog 66 #[.pointer (some ⟨T, 0, none⟩), .int .i64 k] w fun e w' => e = .returned (.pointer none) ∧ w' = w := by
  obtain ⟨⟨c0, c1, c2, c3, c4⟩, _⟩ := h.cells
  obtain ⟨hc1, hc2⟩ := h.cap
  obtain ⟨n, hn⟩ : ∃ n, t.rows.length = n := ⟨_, rfl⟩
  rw [hn] at c1 hc1 hk
  have hcI : (n : Int) ≤ (capR : Int) := by omega
  by_cases h1 : k < 1
  · clear h hk
    go_enter Tryd.func66, Tryd.ntmps66
    go_wp2_with fail
    go_ret
    exact ⟨rfl, rfl⟩
  · by_cases h2 : (n : Int) ≤ k
    · clear h hk
      go_enter Tryd.func66, Tryd.ntmps66
      go_wp2_with fail
      go_ret
      exact ⟨rfl, rfl⟩
    · obtain ⟨i, rfl, hi⟩ : ∃ i : Nat, k = (i : Int) ∧ t.rows[i]? = some none := by
        rcases hk with e | e | e
        · omega
        · omega
        · exact e
      have h3 := rown_at h.row (i := i * 25 + 24) (u := .bool false) (by rw [rowsR_at hi 24 (by omega)]; rfl)
      have h4 : (i : Int) < (n : Int) := by omega
      clear h hk hi
      go_enter Tryd.func66, Tryd.ntmps66
      go_wp2_with fail
      go_ret
      exact ⟨rfl, rfl⟩
set_option maxRecDepth 100000 in
set_option maxHeartbeats 1000000 in
theorem at_some (h : TabIn S T gR capR MA MB nB room lvF t w) {i : Nat} {r : Ro} (h1 : 1 ≤ i) (hi : t.rows[i]? = some (some r)) :
    Calls Tryd.prog 66 #[.pointer (some ⟨T, 0, none⟩), .int .i64 (i : Int)] w fun e w' => e = .returned (.pointer (some ⟨gR, i * 25, none⟩)) ∧ w' = w := by
  obtain ⟨⟨c0, c1, c2, c3, c4⟩, _⟩ := h.cells
  obtain ⟨hc1, hc2⟩ := h.cap
  obtain ⟨n, hn⟩ : ∃ n, t.rows.length = n := ⟨_, rfl⟩
  have hin : i < n := by have := (List.getElem?_eq_some_iff.1 hi).1; omega
  rw [hn] at c1 hc1
  have hcI : (n : Int) ≤ (capR : Int) := by omega
  have h0 : ¬ (i : Int) < 1 := by omega
  have h2 : ¬ (n : Int) ≤ (i : Int) := by omega
  have h3 := rown_at h.row (i := i * 25 + 24) (u := .bool true) (by rw [rowsR_at hi 24 (by omega)]; cases r; rfl)
  have h4 : (i : Int) < (n : Int) := by omega
  clear h hi
  go_enter Tryd.func66, Tryd.ntmps66
  go_wp2_with fail
  go_ret
  exact ⟨rfl, rfl⟩
end
end Go.Proofs.YtpbknbnhljjjcaaDoor

namespace Go.Proofs.YtpbknbnhljjjcaaDoor
open Go.RowKit Go.Maps Go.Lib

/-- A flow's cells in its row. -/
structure FC (g o : Nat) (f : Fw) (w : World) : Prop where
  c : (w.cell? ⟨g, o + 10, none⟩ = some (.int .i64 f.c.p) ∧ w.cell? ⟨g, o + 11, none⟩ = some (.int .u32 f.c.s) ∧ w.cell? ⟨g, o + 12, none⟩ = some (.int .u32 f.c.d) ∧ w.cell? ⟨g, o + 13, none⟩ = some (.int .i64 f.c.x) ∧ w.cell? ⟨g, o + 14, none⟩ = some (.int .i64 f.c.y))
  b : (w.cell? ⟨g, o + 15, none⟩ = some (.int .i64 f.b.p) ∧ w.cell? ⟨g, o + 16, none⟩ = some (.int .u32 f.b.s) ∧ w.cell? ⟨g, o + 17, none⟩ = some (.int .u32 f.b.d) ∧ w.cell? ⟨g, o + 18, none⟩ = some (.int .i64 f.b.x) ∧ w.cell? ⟨g, o + 19, none⟩ = some (.int .i64 f.b.y))
  r : (w.cell? ⟨g, o + 20, none⟩ = some (.int .i64 f.sv) ∧ w.cell? ⟨g, o + 21, none⟩ = some (.int .i64 f.bk) ∧ w.cell? ⟨g, o + 22, none⟩ = some (.int .i64 f.st) ∧ w.cell? ⟨g, o + 23, none⟩ = some (.bool f.dsr))
/-- Both names in a row. -/
structure NC (g o : Nat) (a b : Tup) (w : World) : Prop where
  a : (w.cell? ⟨g, o, none⟩ = some (.int .i64 a.p) ∧ w.cell? ⟨g, o + 1, none⟩ = some (.int .u32 a.s) ∧ w.cell? ⟨g, o + 2, none⟩ = some (.int .u32 a.d) ∧ w.cell? ⟨g, o + 3, none⟩ = some (.int .i64 a.x) ∧ w.cell? ⟨g, o + 4, none⟩ = some (.int .i64 a.y))
  b : (w.cell? ⟨g, o + 5, none⟩ = some (.int .i64 b.p) ∧ w.cell? ⟨g, o + 6, none⟩ = some (.int .u32 b.s) ∧ w.cell? ⟨g, o + 7, none⟩ = some (.int .u32 b.d) ∧ w.cell? ⟨g, o + 8, none⟩ = some (.int .i64 b.x) ∧ w.cell? ⟨g, o + 9, none⟩ = some (.int .i64 b.y))
theorem rows_flow {w : World} {rows : List (Option Ro)} {gR capR : Nat} (h : w.ownsRow 0 144 25 (.slice (some ⟨gR, 0, none⟩) rows.length capR) rows.length (rowsR rows)) {i : Nat} {r : Ro} (hi : rows[i]? = some (some r)) : FC gR (i * 25) r.v w ∧ NC gR (i * 25) r.a r.b w := by
  have q := fun (k : Nat) (v : Value) (hk : k < 25) (hv : (roC (some r))[k]? = some v) => rown_at h (i := i * 25 + k) (u := v) (by rw [rowsR_at hi k hk]; exact hv)
  exact ⟨⟨⟨q 10 _ (by omega) rfl, q 11 _ (by omega) rfl, q 12 _ (by omega) rfl, q 13 _ (by omega) rfl, q 14 _ (by omega) rfl⟩, ⟨q 15 _ (by omega) rfl, q 16 _ (by omega) rfl, q 17 _ (by omega) rfl, q 18 _ (by omega) rfl, q 19 _ (by omega) rfl⟩, ⟨q 20 _ (by omega) rfl, q 21 _ (by omega) rfl, q 22 _ (by omega) rfl, q 23 _ (by omega) rfl⟩⟩,
    ⟨⟨q 0 _ (by omega) rfl, q 1 _ (by omega) rfl, q 2 _ (by omega) rfl, q 3 _ (by omega) rfl, q 4 _ (by omega) rfl⟩, ⟨q 5 _ (by omega) rfl, q 6 _ (by omega) rfl, q 7 _ (by omega) rfl, q 8 _ (by omega) rfl, q 9 _ (by omega) rfl⟩⟩⟩
section
variable {S : Nat → Prop} {T gR capR MA MB nB room : Nat} {lvF : Value} {t : Tb} {w w' : World}
set_option maxRecDepth 100000 in
set_option maxHeartbeats 1000000 in
theorem get_some (h : TabIn S T gR capR MA MB nB room lvF t w) {i : Nat} {r : Ro} (h1 : 1 ≤ i) (hi : t.rows[i]? = some (some r)) :
    Calls Tryd.prog 40 #[.pointer (some ⟨T, 0, none⟩), .int .i64 (i : Int)] w fun e w' => e = .returned (.tuple #[r.v.v, .bool true]) ∧ Below w.heap.size w w' := by
  have HAT := Lib.hid (fun (w' : World) (hb : Below w.heap.size w w') => at_some (h.below hb) h1 hi)
  obtain ⟨⟨⟨d0, d1, d2, d3, d4⟩, ⟨d5, d6, d7, d8, d9⟩, d10, d11, d12, d13⟩, _⟩ := rows_flow h.row hi
  obtain ⟨a, b, f⟩ := r
  dsimp only at d0 d1 d2 d3 d4 d5 d6 d7 d8 d9 d10 d11 d12 d13 ⊢
  have hgl := row_lt h.row (g := gR) rfl
  clear h hi h1
  unfold Fw.v
  go_enter Tryd.func40, Tryd.ntmps40
  go_wp2_with (go_at_call 66; refine (HAT.out _ ((Below.refl _ _).alloc (Nat.le_refl _) _)).mono ?_; rintro e wx ⟨rfl, rfl⟩)
  refine ⟨rfl, .tuple #[_, .bool true], by simp [results, Tryd.f40, go_sem], rfl, (Below.refl _ _).alloc (Nat.le_refl _) _⟩
set_option maxRecDepth 100000 in
set_option maxHeartbeats 1000000 in
theorem get_nobody (h : TabIn S T gR capR MA MB nB room lvF t w) (k : Int) (hk : k < 1 ∨ (t.rows.length : Int) ≤ k ∨ ∃ i : Nat, k = (i : Int) ∧ t.rows[i]? = some none) :
    Calls Tryd.prog 40 #[.pointer (some ⟨T, 0, none⟩), .int .i64 k] w fun e w' => e = .returned (.tuple #[zF.v, .bool false]) ∧ Below w.heap.size w w' := by
  have HAT := Lib.hid (fun (w' : World) (hb : Below w.heap.size w w') => at_nobody (h.below hb) k hk)
  clear h hk
  unfold Fw.v zF zT
  go_enter Tryd.func40, Tryd.ntmps40
  go_wp2_with (go_at_call 66; refine (HAT.out _ ((Below.refl _ _).alloc (Nat.le_refl _) _)).mono ?_; rintro e wx ⟨rfl, rfl⟩)
  refine ⟨rfl, .tuple #[_, .bool false], by simp [results, Tryd.f40, go_sem], rfl, (Below.refl _ _).alloc (Nat.le_refl _) _⟩
set_option maxHeartbeats 1000000 in
theorem len_tab (h : TabIn S T gR capR MA MB nB room lvF t w) : Calls Tryd.prog 39 #[.pointer (some ⟨T, 0, none⟩)] w fun e w' => e = .returned (.int .i64 (t.n : Int)) ∧ w' = w := by
  obtain ⟨⟨c0, c1, c2, c3, c4⟩, _⟩ := h.cells
  have hl := fun ty => h.mapA.len Tryd.underlying67 ty
  obtain ⟨n, hn⟩ : ∃ n, t.n = n := ⟨_, rfl⟩
  rw [hn] at hl
  rw [hn]
  clear h hn
  go_enter Tryd.func39, Tryd.ntmps39
  go_wp2
  go_ret
  exact ⟨rfl, rfl⟩
theorem zero3 (w : World) : (zeroValue 3).run Tryd.prog w = .ok (.int .i64 0) w := by kernel_rfl
def hT (o : Option Nat) : Value := .tuple #[.int .i64 ((o.getD 0 : Nat) : Int), .bool o.isSome]
theorem hV_look (o : Option Nat) : Value.tuple #[((hV o).getD (.int .i64 0)), .bool (hV o).isSome] = hT o := by
  cases o <;> rfl
set_option maxRecDepth 100000 in
set_option maxHeartbeats 1000000 in
theorem byA_tab (h : TabIn S T gR capR MA MB nB room lvF t w) {x : Tup} (hx : x.ok) : Calls Tryd.prog 47 #[.pointer (some ⟨T, 0, none⟩), x.v] w fun e w' => e = .returned (hT (t.fA x)) ∧ Below w.heap.size w w' := by
  have hTl := h.low T h.mem.1.1
  have HL := Lib.hid (fun (w' : World) (hb : Below w.heap.size w w') => by
    have h1 := (h.below hb).mapA.look_ok (E := kT) (z := .int .i64 0) Tryd.underlying67 (zero3 w') hx
    rw [hV_look] at h1
    exact h1)
  obtain ⟨bx, hbx⟩ : ∃ bx, w.alloc (.cells #[.int .i64 x.p, .int .u32 x.s, .int .u32 x.d, .int .i64 x.x, .int .i64 x.y] 41) = bx := ⟨_, rfl⟩
  have hb1 : Below w.heap.size w bx := by rw [← hbx]; exact (Below.refl w.heap.size w).alloc (Nat.le_refl _) _
  have l2 := fun n => HL.out (bx.drewN n) (hb1.trans ⟨rfl, rfl, rfl, Nat.le_refl _, fun _ _ => rfl⟩)
  have hob : bx.heap[w.heap.size]? = some (.cells #[.int .i64 x.p, .int .u32 x.s, .int .u32 x.d, .int .i64 x.x, .int .i64 x.y] 41) := by rw [← hbx]; exact heap_alloc_new w _
  have c3 : bx.cell? ⟨T, 3, none⟩ = some (.map (some MA)) := (World.cell?_of_block (hb1.block T hTl)).trans h.cells.1.2.2.2.1
  have e0 : bx.cell? ⟨w.heap.size, 0, none⟩ = some (.int .i64 x.p) := by simp [World.cell?, hob]
  have e1 : bx.cell? ⟨w.heap.size, 1, none⟩ = some (.int .u32 x.s) := by simp [World.cell?, hob]
  have e2 : bx.cell? ⟨w.heap.size, 2, none⟩ = some (.int .u32 x.d) := by simp [World.cell?, hob]
  have e3 : bx.cell? ⟨w.heap.size, 3, none⟩ = some (.int .i64 x.x) := by simp [World.cell?, hob]
  have e4 : bx.cell? ⟨w.heap.size, 4, none⟩ = some (.int .i64 x.y) := by simp [World.cell?, hob]
  unfold hT at *
  obtain ⟨k, hk⟩ : ∃ k, (t.fA x).getD 0 = k := ⟨_, rfl⟩
  obtain ⟨ok, hok⟩ : ∃ ok, (t.fA x).isSome = ok := ⟨_, rfl⟩
  rw [hk, hok] at l2 ⊢
  have HBX := Lib.hid hbx
  have HB1 := Lib.hid hb1
  clear h hk hok HL hb1 hob hTl hbx
  have l3 : ∀ n, (Instr.lookup 67 (.map (some MA)) (.agg #[.int .i64 x.p, .int .u32 x.s, .int .u32 x.d, .int .i64 x.x, .int .i64 x.y]) true).run Tryd.prog (bx.drewN n) = .ok (.tuple #[.int .i64 (k : Int), .bool ok]) (bx.drewN n) := l2
  clear l2
  show Calls Tryd.prog 47 #[.pointer (some ⟨T, 0, none⟩), .agg #[.int .i64 x.p, .int .u32 x.s, .int .u32 x.d, .int .i64 x.x, .int .i64 x.y]] w _
  go_enter Tryd.func47, Tryd.ntmps47
  go_upto_region 1 with fail
  rw [HBX.out]
  go_quiet (fail)
  go_wp2_with fail
  go_ret2
  exact ⟨rfl, HB1.out.trans ⟨rfl, rfl, rfl, Nat.le_refl _, fun _ _ => rfl⟩⟩
set_option maxRecDepth 100000 in
set_option maxHeartbeats 1000000 in
theorem byB_tab (h : TabIn S T gR capR MA MB nB room lvF t w) {x : Tup} (hx : x.ok) : Calls Tryd.prog 48 #[.pointer (some ⟨T, 0, none⟩), x.v] w fun e w' => e = .returned (hT (t.fB x)) ∧ Below w.heap.size w w' := by
  have hTl := h.low T h.mem.1.1
  have HL := Lib.hid (fun (w' : World) (hb : Below w.heap.size w w') => by
    have h1 := (h.below hb).mapB.look_ok (E := kT) (z := .int .i64 0) Tryd.underlying67 (zero3 w') hx
    rw [hV_look] at h1
    exact h1)
  obtain ⟨bx, hbx⟩ : ∃ bx, w.alloc (.cells #[.int .i64 x.p, .int .u32 x.s, .int .u32 x.d, .int .i64 x.x, .int .i64 x.y] 41) = bx := ⟨_, rfl⟩
  have hb1 : Below w.heap.size w bx := by rw [← hbx]; exact (Below.refl w.heap.size w).alloc (Nat.le_refl _) _
  have l2 := fun n => HL.out (bx.drewN n) (hb1.trans ⟨rfl, rfl, rfl, Nat.le_refl _, fun _ _ => rfl⟩)
  have hob : bx.heap[w.heap.size]? = some (.cells #[.int .i64 x.p, .int .u32 x.s, .int .u32 x.d, .int .i64 x.x, .int .i64 x.y] 41) := by rw [← hbx]; exact heap_alloc_new w _
  have c4 : bx.cell? ⟨T, 4, none⟩ = some (.map (some MB)) := (World.cell?_of_block (hb1.block T hTl)).trans h.cells.1.2.2.2.2
  have e0 : bx.cell? ⟨w.heap.size, 0, none⟩ = some (.int .i64 x.p) := by simp [World.cell?, hob]
  have e1 : bx.cell? ⟨w.heap.size, 1, none⟩ = some (.int .u32 x.s) := by simp [World.cell?, hob]
  have e2 : bx.cell? ⟨w.heap.size, 2, none⟩ = some (.int .u32 x.d) := by simp [World.cell?, hob]
  have e3 : bx.cell? ⟨w.heap.size, 3, none⟩ = some (.int .i64 x.x) := by simp [World.cell?, hob]
  have e4 : bx.cell? ⟨w.heap.size, 4, none⟩ = some (.int .i64 x.y) := by simp [World.cell?, hob]
  unfold hT at *
  obtain ⟨k, hk⟩ : ∃ k, (t.fB x).getD 0 = k := ⟨_, rfl⟩
  obtain ⟨ok, hok⟩ : ∃ ok, (t.fB x).isSome = ok := ⟨_, rfl⟩
  rw [hk, hok] at l2 ⊢
  have HBX := Lib.hid hbx
  have HB1 := Lib.hid hb1
  clear h hk hok HL hb1 hob hTl hbx
  have l3 : ∀ n, (Instr.lookup 67 (.map (some MB)) (.agg #[.int .i64 x.p, .int .u32 x.s, .int .u32 x.d, .int .i64 x.x, .int .i64 x.y]) true).run Tryd.prog (bx.drewN n) = .ok (.tuple #[.int .i64 (k : Int), .bool ok]) (bx.drewN n) := l2
  clear l2
  show Calls Tryd.prog 48 #[.pointer (some ⟨T, 0, none⟩), .agg #[.int .i64 x.p, .int .u32 x.s, .int .u32 x.d, .int .i64 x.x, .int .i64 x.y]] w _
  go_enter Tryd.func48, Tryd.ntmps48
  go_upto_region 1 with fail
  rw [HBX.out]
  go_quiet (fail)
  go_wp2_with fail
  go_ret2
  exact ⟨rfl, HB1.out.trans ⟨rfl, rfl, rfl, Nat.le_refl _, fun _ _ => rfl⟩⟩
end
end Go.Proofs.YtpbknbnhljjjcaaDoor
