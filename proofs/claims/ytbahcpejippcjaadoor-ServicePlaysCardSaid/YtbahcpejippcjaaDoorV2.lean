import Derived.Test.YtbahcpejippcjaaDoorV1
import Derived.Test.YtbahcpejippcjaaDoorTD
namespace Go.Proofs.YtbahcpejippcjaaDoor
open Go.RowKit Go.Shelf

def zero60 : Value := .agg #[.int .i64 0, .int .i64 0, .int .u32 0, .int .i64 0, .bool false, .int .u32 0]
theorem info60 : (Tryd.prog.info? 60).map (fun i => (i.zero, i.size, i.bytes)) = some (some zero60, 6, 40) := by kernel_rfl

/-! ### Get -/
def idIs (id : Int) (r : Nat × Svc) : Bool := decide ((r.1 : Int) = id)
def getL (l : List (Nat × Svc)) (id : Int) : Option Svc := (l.find? (idIs id)).map (·.2)
theorem RefT.addr {base X c : Nat} {A : Option Addr} {l : List (Nat × Svc)} {W : World} (h : RefT base X A c l W) (hn : 0 < l.length) : ∃ g, A = some ⟨g, 0, none⟩ := by
  rcases h.form with ⟨h1, _, _⟩ | ⟨g, h1, _⟩
  · subst h1; simp at hn
  · exact ⟨g, h1⟩
set_option maxRecDepth 100000 in
set_option maxHeartbeats 1000000 in
theorem ref23 {base X : Nat} {A : Option Addr} {c : Nat} {l : List (Nat × Svc)} {w : World} (h : RefT base X A c l w) (hl : l.length ≤ 1000) (id : Int) :
    Calls Tryd.prog 23 #[.pointer (some ⟨X, 0, none⟩), .int .i64 id] w fun e w' => e = .returned (.tuple #[((getL l id).getD zeroS).val, .bool (getL l id).isSome]) ∧ Below w.heap.size w w' := by
  have h1 := h.below ((Below.refl _ w).alloc (Nat.le_refl _) (.cells #[.int .i64 0, .int .u32 0, .int .i64 0, .bool false, .int .u32 0] 28))
  have b0 := (cell1 h1.box).1
  have HH := Lib.hid h1
  obtain ⟨n, hn⟩ : ∃ n, l.length = n := ⟨_, rfl⟩
  obtain ⟨res, hres⟩ : ∃ res, getL l id = res := ⟨_, rfl⟩
  have HRES := Lib.hid hres
  have HN := Lib.hid hn
  rw [hn] at b0 hl
  rw [hres]
  clear h h1 hn hres
  go_enter Tryd.func23, Tryd.ntmps23
  go_wp2_with fail
  go_loop [6] (fun vi => ∃ i : Nat, i ≤ n ∧ vi = .int .i64 (i : Int) ∧ ∀ x ∈ l.take i, idIs id x = false) (fun vi => n - (intOf vi).toNat)
  case atStart => exact ⟨0, Nat.zero_le _, rfl, by simp⟩
  case round =>
    obtain ⟨i, hi, rfl, hno⟩ := hrel
    have HNO := Lib.hid hno
    clear hno
    by_cases hlt : i < n
    · have hil : (i : Int) < (n : Int) := by omega
      obtain ⟨g, hg⟩ := HH.out.addr (by rw [HN.out]; omega)
      subst hg
      obtain ⟨r, hr⟩ : ∃ r, l[i]? = some r := ⟨_, List.getElem?_eq_getElem (by rw [HN.out]; exact hlt)⟩
      obtain ⟨c0, c1, c2, c3, c4, c5, d2, d3, d4, d5⟩ := HH.out.row hr
      have HR := Lib.hid hr
      obtain ⟨k, p', v', q', dd, nn⟩ := r
      dsimp only at c0 c1 c2 c3 c4 c5 d2 d3 d4 d5
      obtain ⟨b, hb⟩ : ∃ b, decide ((k : Int) = id) = b := ⟨_, rfl⟩
      have e1 : ((k : Int) == id) = b := by rw [← hb]; by_cases hh : (k : Int) = id <;> simp [hh]
      have HP := Lib.hid (show idIs id (k, ⟨p', v', q', dd, nn⟩) = b from hb)
      clear hr hb
      cases b
      · have HS := Lib.hid (take_step HR.out HP.out HNO.out)
        go_wp2_with fail
        go_round
        case rel => exact ⟨i + 1, by omega, by go_num, HS.out⟩
        case measure => simp [intOf]; omega
      · have hf : res = some ⟨p', v', q', dd, nn⟩ := by rw [← HRES.out]; unfold getL; rw [find_at HR.out HP.out HNO.out]; rfl
        subst hf
        go_wp2_with fail
        exact bodyPost_ret (v := .tuple #[.agg #[.int .i64 p', .int .u32 (v' : Int), .int .i64 q', .bool dd, .int .u32 (nn : Int)], .bool true]) (by simp [results, Tryd.f23, go_sem]) rfl ⟨rfl, (Below.refl _ _).alloc (Nat.le_refl _) _⟩
    · have hil : ¬ (i : Int) < (n : Int) := by omega
      obtain rfl : i = n := by omega
      obtain rfl : res = none := by rw [← HRES.out]; unfold getL; rw [find_none (by rw [HN.out]; exact HNO.out)]; rfl
      go_wp2_with fail
      exact bodyPost_ret (v := .tuple #[.agg #[.int .i64 0, .int .u32 0, .int .i64 0, .bool false, .int .u32 0], .bool false]) (by simp [results, Tryd.f23, go_sem]) rfl ⟨rfl, (Below.refl _ _).alloc (Nat.le_refl _) _⟩

/-! ### Remove -/
def remL (l : List (Nat × Svc)) (id : Int) : List (Nat × Svc) := l.filter fun r => !idIs id r
theorem remL_take {l : List (Nat × Svc)} {id : Int} {i : Nat} {r : Nat × Svc} (hr : l[i]? = some r) : remL (l.take (i + 1)) id = remL (l.take i) id ++ (if idIs id r then [] else [r]) := by
  unfold remL
  rw [List.take_add_one, hr]
  simp only [Option.toList_some, List.filter_append]
  cases h : idIs id r <;> simp [h]
theorem remL_len (l : List (Nat × Svc)) (id : Int) : (remL l id).length ≤ l.length := List.length_filter_le _ _
theorem new_cells6 (w : World) (r : Nat × Svc) : ∀ (j : Nat) (u : Value), (rowV r)[j]? = some u → (w.alloc (.cells #[.int .i64 (r.1 : Int), .int .i64 r.2.proto, .int .u32 (r.2.vip : Int), .int .i64 r.2.port, .bool r.2.dsr, .int .u32 (r.2.nat : Int)] 60)).cell? ((⟨w.heap.size, 0, none⟩ : Addr).add j) = some u := by
  intro j u hj
  have hb := World.alloc_heap_new w (.cells #[.int .i64 (r.1 : Int), .int .i64 r.2.proto, .int .u32 (r.2.vip : Int), .int .i64 r.2.port, .bool r.2.dsr, .int .u32 (r.2.nat : Int)] 60)
  have ha : ((⟨w.heap.size, 0, none⟩ : Addr).add j) = ⟨w.heap.size, j, none⟩ := by unfold Addr.add; split <;> simp_all
  rw [ha]
  unfold World.cell?
  dsimp only
  rw [hb]
  have e : (#[.int .i64 (r.1 : Int), .int .i64 r.2.proto, .int .u32 (r.2.vip : Int), .int .i64 r.2.port, .bool r.2.dsr, .int .u32 (r.2.nat : Int)] : Array Value)[j]? = (rowV r)[j]? := by
    rw [← Array.getElem?_toList]; rfl
  simp [e, hj]
theorem rowV_one (r : Nat × Svc) : ∀ u ∈ rowV r, u.oneCell' = true := by
  have := rowsV_one [r]
  simpa [rowsV] using this
theorem ownsRow_more {w : World} {base base' : Nat} {e : TypeId} {size : Nat} {v : Value} {n : Nat} {xs : List Value} (h : w.ownsRow base' e size v n xs) (hb : base ≤ base') : w.ownsRow base e size v n xs := by
  obtain ⟨h0, h1 | ⟨g, cap, cur, h1, h2, h3⟩⟩ := h
  · exact ⟨h0, .inl h1⟩
  · exact ⟨h0, .inr ⟨g, cap, cur, h1, by omega, h3⟩⟩
/-- The rows of a table are laid anew: its cell is set to them. -/
theorem RefT.put {base X c : Nat} {A : Option Addr} {l m : List (Nat × Svc)} {w W : World} (h : RefT base X A c l w) (hB : Below w.heap.size w W) {v : Value} (hv : W.ownsRow w.heap.size 60 6 v m.length (rowsV m)) :
    RefIs base X m (W.setCell ⟨X, 0, none⟩ v) ∧ Two X X w (W.setCell ⟨X, 0, none⟩ v) := by
  have hX : X < w.heap.size := by have := h.lo; have := h.hb; omega
  have hbx := box_go h.box hB
  have hk : ∀ b, b ≠ X → (W.setCell ⟨X, 0, none⟩ v).heap[b]? = W.heap[b]? := fun b hb => Below.heap_setCell _ _ _ _ hb
  refine ⟨?_, ⟨hB.os, hB.tape, hB.output, by rw [(set_one _ _ _).1]; exact hB.size, fun b h1 h2 _ => (hk b h2).trans (hB.block b h1)⟩⟩
  have hf : ∃ A' c', v = .slice A' m.length c' := by
    obtain ⟨_, ⟨e1, e2⟩ | ⟨g, cap, cur, e1, _⟩⟩ := hv
    · exact ⟨none, 0, by rw [e1, e2]⟩
    · exact ⟨_, _, e1⟩
  obtain ⟨A', c', rfl⟩ := hf
  refine ⟨A', c', ?_, ?_, h.lo, by rw [(set_one _ _ _).1]; exact Nat.le_trans h.hb hB.size⟩
  · simp [World.setCell, Array.getElem?_modify, hbx]
  · refine ownsRow_more (ownsRow_kept hv fun g hg => hk g ?_) h.hb
    have := ownsRow_base hv g hg
    omega
theorem grown_row {w w1 w2 : World} {base : Nat} {e : TypeId} {size n : Nat} {v : Value} {xs : List Value} (hB : Below w.heap.size w w1) (ho : w1.ownsRow base e size v n xs) (hb : w.heap.size ≤ base) (hg : w1.grownBy w2 v.ownBlock) : Below w.heap.size w w2 :=
  grown_below hB hg (fun g hg => Nat.le_trans hb (ownsRow_base ho g hg))

set_option maxRecDepth 100000 in
set_option maxHeartbeats 1600000 in
theorem ref21 {base X : Nat} {A : Option Addr} {c : Nat} {l : List (Nat × Svc)} {w : World} (h : RefT base X A c l w) (hl : l.length ≤ 1000) (id : Int) :
    Calls Tryd.prog 21 #[.pointer (some ⟨X, 0, none⟩), .int .i64 id] w fun e w' => e = .returned (.bool (decide ((remL l id).length < l.length))) ∧ RefIs base X (remL l id) w' ∧ Two X X w w' := by
  obtain ⟨i0, hi, hz0, hz1, hz2⟩ := info_parts info60
  have HI := Lib.hid (And.intro hi (And.intro hz0 (And.intro hz1 hz2)))
  have HH := Lib.hid h
  obtain ⟨n, hn⟩ : ∃ n, l.length = n := ⟨_, rfl⟩
  have HN := Lib.hid hn
  rw [hn] at hl ⊢
  have hX : X < w.heap.size := by have := h.lo; have := h.hb; omega
  clear h hn hi hz0 hz1 hz2
  go_enter Tryd.func21, Tryd.ntmps21
  go_wp2_with fail
  go_loopw [5, 6] (fun vo vi wr => (∃ i : Nat, i ≤ n ∧ vi = .int .i64 (i : Int) ∧ wr.ownsRow w.heap.size 60 6 vo (remL (l.take i) id).length (rowsV (remL (l.take i) id))) ∧ Below w.heap.size w wr) (fun _ vi _ => n - (intOf vi).toNat)
  case atStart => exact ⟨⟨0, Nat.zero_le _, rfl, World.ownsRow_nil _ _ _ _⟩, Below.refl _ _⟩
  case round =>
    obtain ⟨⟨i, hi, rfl, hown⟩, hB⟩ := hrel
    have HO := Lib.hid hown
    have HB := Lib.hid hB
    have HT := Lib.hid (HH.out.below hB)
    have b0 := (cell1 HT.out.box).1
    rw [HN.out] at b0
    have hzs := hB.size
    have hrl := remL_len (l.take i) id
    rw [List.length_take] at hrl
    clear hown hB
    by_cases hlt : i < n
    · have hil : (i : Int) < (n : Int) := by omega
      obtain ⟨g, hg⟩ := HH.out.addr (by rw [HN.out]; omega)
      subst hg
      obtain ⟨r, hr⟩ : ∃ r, l[i]? = some r := ⟨_, List.getElem?_eq_getElem (by rw [HN.out]; exact hlt)⟩
      obtain ⟨c0, c1, c2, c3, c4, c5, d2, d3, d4, d5⟩ := HT.out.row hr
      have hstep := remL_take (id := id) hr
      obtain ⟨k, p', v', q', dd, nn⟩ := r
      dsimp only at c0 c1 c2 c3 c4 c5 d2 d3 d4 d5
      obtain ⟨b, hb⟩ : ∃ b, idIs id (k, ⟨p', v', q', dd, nn⟩) = b := ⟨_, rfl⟩
      have e1 : ((k : Int) != id) = !b := by rw [← hb]; unfold idIs; by_cases hh : (k : Int) = id <;> simp [hh]
      rw [hb] at hstep
      have HS := Lib.hid hstep
      have HZ := Lib.hid (And.intro hzs hrl)
      clear hr hb hstep hzs hrl
      cases b
      · go_wp2_with (at_builtin; (refine wpList_append_own _ rfl _ _ 47 rfl w.heap.size 60 i0 zero60 6 40 Tryd.underlying47 HI.out.1 HI.out.2.1 HI.out.2.2.1 HI.out.2.2.2 rfl (by decide) _ _ _ rfl (HO.out.alloc _) ⟨wr.heap.size, 0, none⟩ 1 1 (rowV (k, ⟨p', v', q', dd, nn⟩)) rfl rfl (new_cells6 _ (k, ⟨p', v', q', dd, nn⟩)) (rowV_one _) (by unfold maxLen; have := HZ.out.2; omega) (by have := HZ.out.2; omega) (by have := HZ.out.1; simp; omega) ?_); intro v' w1 hown' hgrow _; replace HB := Lib.hid (grown_below (HB.out.alloc HB.out.size _) hgrow (ownsRow_base HO.out)); replace HO := Lib.hid hown'; clear hown' hgrow)
        exact ⟨⟨⟨i + 1, by omega, by go_num, by rw [HS.out]; simp only [Bool.false_eq_true, if_false]; rw [rowsV_snoc, List.length_append]; exact HO.out⟩, HB.out⟩, by simp [intOf]; omega⟩
      · go_wp2_with fail
        exact ⟨⟨⟨i + 1, by omega, by go_num, by rw [HS.out]; simp only [if_true, List.append_nil]; exact HO.out⟩, HB.out⟩, by simp [intOf]; omega⟩
    · have hil : ¬ (i : Int) < (n : Int) := by omega
      obtain rfl : i = n := by omega
      have ht : l.take i = l := by rw [← HN.out]; exact List.take_length
      rw [ht] at HO
      obtain ⟨m, hm⟩ : ∃ m, (remL l id).length = m := ⟨_, rfl⟩
      have hform : ∃ A' c', u5 = .slice A' m c' := by
        obtain ⟨_, ⟨e1, e2⟩ | ⟨g, cap, cur, e1, _⟩⟩ := HO.out
        · exact ⟨none, 0, by rw [e1, ← hm, e2]⟩
        · exact ⟨_, _, by rw [← hm]; exact e1⟩
      obtain ⟨A', c', rfl⟩ := hform
      have f0 := (cell1 HT.out.box).2
      have HP := Lib.hid (HH.out.put HB.out HO.out)
      have HM := Lib.hid hm
      have mI : ((m : Int) < (i : Int)) = (m < i) := by simp
      clear hm hzs hrl ht
      go_wp2_with fail
      go_ret
      exact ⟨by rw [HM.out]; rfl, HP.out⟩
end Go.Proofs.YtbahcpejippcjaaDoor
