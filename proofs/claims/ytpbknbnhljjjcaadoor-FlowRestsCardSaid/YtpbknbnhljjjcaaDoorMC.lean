/- Texts of this proof, put together: N7 N8 N9 NA NB NC. -/
import Derived.Test.YtpbknbnhljjjcaaDoorMB
import Derived.WideKeyEntry
import Derived.Deep.RegionHeld3
namespace Go.Proofs.YtpbknbnhljjjcaaDoor
open Go.RowKit Go.Maps Go.Lib

section
variable {S : Nat → Prop} {T gR capR MA MB nB room : Nat} {lvF : Value} {t : Tb} {w w' : World}
set_option maxRecDepth 100000 in
set_option maxHeartbeats 1000000 in
theorem set_nobody (h : TabIn S T gR capR MA MB nB room lvF t w) (k : Int) (hk : k < 1 ∨ (t.rows.length : Int) ≤ k ∨ ∃ i : Nat, k = (i : Int) ∧ t.rows[i]? = some none) (v : Fw) :
    Calls Tryd.prog 42 #[.pointer (some ⟨T, 0, none⟩), .int .i64 k, v.v] w fun e w' => e = .returned (.bool false) ∧ Below w.heap.size w w' := by
  have HAT := Lib.hid (fun (w' : World) (hb : Below w.heap.size w w') => at_nobody (h.below hb) k hk)
  clear h hk
  unfold Fw.v
  go_enter Tryd.func42, Tryd.ntmps42
  go_wp2_with (go_at_call 66; refine (HAT.out _ ((Below.refl _ _).alloc (Nat.le_refl _) _)).mono ?_; rintro e wx ⟨rfl, rfl⟩)
  go_ret
  exact ⟨rfl, (Below.refl _ _).alloc (Nat.le_refl _) _⟩
set_option maxRecDepth 100000 in
set_option maxHeartbeats 1000000 in
theorem set_some (h : TabIn S T gR capR MA MB nB room lvF t w) {i : Nat} {r : Ro} (h1 : 1 ≤ i) (hi : t.rows[i]? = some (some r)) (v : Fw) :
    Calls Tryd.prog 42 #[.pointer (some ⟨T, 0, none⟩), .int .i64 (i : Int), v.v] w fun e w' => e = .returned (.bool true) ∧ w' = (w.setCells gR (i * 25 + 10) v.cells).alloc (.cells v.cells.toArray 52) := by
  have HAT := Lib.hid (fun (w' : World) (hb : Below w.heap.size w w') => at_some (h.below hb) h1 hi)
  obtain ⟨⟨⟨d0, d1, d2, d3, d4⟩, ⟨d5, d6, d7, d8, d9⟩, d10, d11, d12, d13⟩, _⟩ := rows_flow h.row hi
  have hfr := fun j => rown_free h.row (g := gR) j
  have f0 := hfr (i * 25 + 10)
  have f1 := hfr (i * 25 + 11)
  have f2 := hfr (i * 25 + 12)
  have f3 := hfr (i * 25 + 13)
  have f4 := hfr (i * 25 + 14)
  have f5 := hfr (i * 25 + 15)
  have f6 := hfr (i * 25 + 16)
  have f7 := hfr (i * 25 + 17)
  have f8 := hfr (i * 25 + 18)
  have f9 := hfr (i * 25 + 19)
  have f10 := hfr (i * 25 + 20)
  have f11 := hfr (i * 25 + 21)
  have f12 := hfr (i * 25 + 22)
  have f13 := hfr (i * 25 + 23)
  have hgl := row_lt h.row (g := gR) rfl
  obtain ⟨a, b, f⟩ := r
  dsimp only at d0 d1 d2 d3 d4 d5 d6 d7 d8 d9 d10 d11 d12 d13 ⊢
  clear h hi h1 hfr
  unfold Fw.v
  go_enter Tryd.func42, Tryd.ntmps42
  go_wp2_with (go_at_call 66; refine (HAT.out _ ((Below.refl _ _).alloc (Nat.le_refl _) _)).mono ?_; rintro e wx ⟨rfl, rfl⟩)
  go_ret
  exact ⟨rfl, rfl⟩
/-- A row's cells are written: the table has turned. -/
theorem TabIn.put (h : TabIn S T gR capR MA MB nB room lvF t w) {i : Nat} {x y : Option Ro} (hx : t.rows[i]? = some x) (k : Nat) (vs : List Value) (hk : k + vs.length ≤ 25) (hv : over (roC x) k vs = roC y) :
    TabIn S T gR capR MA MB nB room lvF { t with rows := t.rows.set i y } (w.setCells gR (i * 25 + k) vs) ∧ Only S w (w.setCells gR (i * 25 + k) vs) := by
  obtain ⟨p1, p2, p3, p4⟩ := puts_world vs w gR (i * 25 + k)
  have hb : ∀ b, b ≠ gR → (w.setCells gR (i * 25 + k) vs).heap[b]? = w.heap[b]? := fun b hb => puts_else vs w gR _ hb
  have hr := row_puts vs h.row (i * 25 + k)
  rw [rowsR_over hx k vs hk hv] at hr
  refine ⟨⟨?_, ?_, row_kept h.fre (fun g e => hb g (h.apart.2 g e).2.1), h.mapA.block (hb MA (fun e => h.apart.1.2.2.2.1 e.symm)), h.mapB.block (hb MB (fun e => h.apart.1.2.2.2.2.1 e.symm)), h.mem, h.apart, fun j hj => by rw [p4]; exact h.low j hj⟩, ⟨p1, p2, p3, Nat.le_of_eq p4.symm, fun j hj hn => hb j (fun e => hn (e ▸ h.mem.1.2.1))⟩⟩
  · dsimp only
    rw [List.length_set]
    exact (hb T h.apart.1.1).trans h.box
  · dsimp only
    rw [List.length_set]
    exact hr
theorem over_flow (a b : Tup) (v v' : Fw) : over (roC (some ⟨a, b, v⟩)) 10 v'.cells = roC (some ⟨a, b, v'⟩) := by
  simp [over, roC, Fw.cells, Tup.cells]
theorem set_tab (h : TabIn S T gR capR MA MB nB room lvF t w) {i : Nat} {r : Ro} (h1 : 1 ≤ i) (hi : t.rows[i]? = some (some r)) (v : Fw) :
    Calls Tryd.prog 42 #[.pointer (some ⟨T, 0, none⟩), .int .i64 (i : Int), v.v] w fun e w' => e = .returned (.bool true) ∧ TabIn S T gR capR MA MB nB room lvF { t with rows := t.rows.set i (some { r with v := v }) } w' ∧ Only S w w' := by
  refine (set_some h h1 hi v).mono ?_
  rintro e w' ⟨rfl, rfl⟩
  obtain ⟨k1, k2⟩ := h.put hi 10 v.cells (by simp [Fw.cells, Tup.cells]) (over_flow r.a r.b r.v v)
  generalize w.setCells gR (i * 25 + 10) v.cells = W at k1 k2 ⊢
  have hb : Below W.heap.size W (W.alloc (.cells v.cells.toArray 52)) := (Below.refl _ _).alloc (Nat.le_refl _) _
  refine ⟨rfl, k1.below hb, ⟨k2.os, k2.tape, k2.output, Nat.le_trans k2.size hb.size, fun j hj hn => (hb.block j (Nat.lt_of_lt_of_le hj k2.size)).trans (k2.block j hj hn)⟩⟩
end
end Go.Proofs.YtpbknbnhljjjcaaDoor

namespace Go.Proofs.YtpbknbnhljjjcaaDoor
open Go.RowKit Go.Maps Go.Lib

def updT (f : Tup → Option Nat) (x : Tup) (v : Option Nat) (y : Tup) : Option Nat := if y = x then v else f y
section
variable {S : Nat → Prop} {T gR capR MA MB nB room : Nat} {lvF : Value} {t : Tb} {w w' : World}
theorem TabIn.drew (h : TabIn S T gR capR MA MB nB room lvF t w) : TabIn S T gR capR MA MB nB room lvF t w.drew := h.below ⟨rfl, rfl, rfl, Nat.le_refl _, fun _ _ => rfl⟩
theorem Only.grownBy {b : Nat} (hS : S b) (hg : w.grownBy w' (some b)) : Only S w w' := ⟨hg.os, hg.tape, hg.output, hg.size, fun i hi hn => hg.block i hi (fun e => hn (by cases e; exact hS))⟩
theorem TabIn.grownA (h : TabIn S T gR capR MA MB nB room lvF t w) {n' : Nat} {f' : Tup → Option Nat} (hg : w.grownBy w' (some MA)) (hm : MapG kT MA n' (fun x => hV (f' x)) w') : TabIn S T gR capR MA MB nB room lvF { t with fA := f', n := n' } w' := by
  have hb : ∀ b, b < w.heap.size → b ≠ MA → w'.heap[b]? = w.heap[b]? := fun b hb hne => hg.block b hb (fun e => hne (Option.some.inj e))
  have hl := h.low
  exact ⟨(hb T (hl T h.mem.1.1) h.apart.1.2.1).trans h.box, row_kept h.row (fun g e => by
    obtain rfl : gR = g := by simpa [Value.ownBlock] using e
    exact hb gR (hl gR h.mem.1.2.1) h.apart.1.2.2.2.1), row_kept h.fre (fun g e => hb g (hl g (h.mem.2 g e)) (h.apart.2 g e).2.2.1), hm, h.mapB.block (hb MB (hl MB h.mem.1.2.2.2) (fun e => h.apart.1.2.2.2.2.2 e.symm)), h.mem, h.apart, fun i hi => Nat.lt_of_lt_of_le (hl i hi) hg.size⟩
theorem TabIn.grownB (h : TabIn S T gR capR MA MB nB room lvF t w) {n' : Nat} {f' : Tup → Option Nat} (hg : w.grownBy w' (some MB)) (hm : MapG kT MB n' (fun x => hV (f' x)) w') : TabIn S T gR capR MA MB n' room lvF { t with fB := f' } w' := by
  have hb : ∀ b, b < w.heap.size → b ≠ MB → w'.heap[b]? = w.heap[b]? := fun b hb hne => hg.block b hb (fun e => hne (Option.some.inj e))
  have hl := h.low
  exact ⟨(hb T (hl T h.mem.1.1) h.apart.1.2.2.1).trans h.box, row_kept h.row (fun g e => by
    obtain rfl : gR = g := by simpa [Value.ownBlock] using e
    exact hb gR (hl gR h.mem.1.2.1) h.apart.1.2.2.2.2.1), row_kept h.fre (fun g e => hb g (hl g (h.mem.2 g e)) (h.apart.2 g e).2.2.2), h.mapA.block (hb MA (hl MA h.mem.1.2.2.1) h.apart.1.2.2.2.2.2), hm, h.mem, h.apart, fun i hi => Nat.lt_of_lt_of_le (hl i hi) hg.size⟩
theorem hV_none (f : Tup → Option Nat) (x : Tup) : (fun y => if y = x then none else hV (f y)) = fun y => hV (updT f x none y) := by
  funext y; unfold updT; split <;> rfl
theorem hV_some (f : Tup → Option Nat) (x : Tup) (k : Nat) : (fun y => if y = x then some (.int .i64 (k : Int)) else hV (f y)) = fun y => hV (updT f x (some k) y) := by
  funext y; unfold updT; split <;> rfl
theorem hV_is (o : Option Nat) : (hV o).isSome = o.isSome := by cases o <;> rfl
theorem TabIn.dropA (h : TabIn S T gR capR MA MB nB room lvF t w) {x : Tup} (hx : x.ok) (ty : TypeId) :
    ∃ w' n', (Builtin.delete_ #[67, 41] ty #[.map (some MA), x.v]).run Tryd.prog w = .ok (.tuple #[]) w' ∧ TabIn S T gR capR MA MB nB room lvF { t with fA := updT t.fA x none, n := n' } w' ∧ Only S w w' ∧ n' + (if (t.fA x).isSome then 1 else 0) = t.n := by
  obtain ⟨w', c', hrun, hm, hg, hc⟩ := h.mapA.drop (E := kT) Tryd.underlying67 hx ty
  rw [hV_none] at hm
  rw [hV_is] at hc
  exact ⟨w', c', hrun, h.grownA hg hm, Only.grownBy h.mem.1.2.2.1 hg, hc⟩
theorem TabIn.dropB (h : TabIn S T gR capR MA MB nB room lvF t w) {x : Tup} (hx : x.ok) (ty : TypeId) :
    ∃ w' n', (Builtin.delete_ #[67, 41] ty #[.map (some MB), x.v]).run Tryd.prog w = .ok (.tuple #[]) w' ∧ TabIn S T gR capR MA MB n' room lvF { t with fB := updT t.fB x none } w' ∧ Only S w w' ∧ n' ≤ nB := by
  obtain ⟨w', c', hrun, hm, hg, hc⟩ := h.mapB.drop (E := kT) Tryd.underlying67 hx ty
  rw [hV_none] at hm
  exact ⟨w', c', hrun, h.grownB hg hm, Only.grownBy h.mem.1.2.2.2 hg, by omega⟩
/-- The numbers that are free have turned. -/
theorem TabIn.heap (h : TabIn S T gR capR MA MB nB room lvF t w) {lv' : Value} {l' : List Int} (hn : Numb T 2 lvF lv' l' w w') :
    TabIn (fun i => S i ∨ lv'.ownBlock = some i) T gR capR MA MB nB room lv' { t with free := l' } w' ∧ Only S w w' ∧ ∀ i, (S i ∨ lv'.ownBlock = some i) → S i ∨ w.heap.size ≤ i := by
  have hl := h.low
  have hb : ∀ b, S b → b ≠ T → lvF.ownBlock ≠ some b → w'.heap[b]? = w.heap[b]? := fun b hb h1 h2 => hn.block b (hl b hb) h1 h2
  have hap : ∀ g, lv'.ownBlock = some g → g ≠ T ∧ g ≠ gR ∧ g ≠ MA ∧ g ≠ MB := fun g e => by
    rcases hn.own g e with e2 | e2
    · exact h.apart.2 g e2
    · have := hl _ h.mem.1.1; have := hl _ h.mem.1.2.1; have := hl _ h.mem.1.2.2.1; have := hl _ h.mem.1.2.2.2
      omega
  have hne : ∀ b, lvF.ownBlock = some b → b ≠ T ∧ b ≠ gR ∧ b ≠ MA ∧ b ≠ MB := h.apart.2
  refine ⟨⟨?_, row_kept h.row (fun g e => by
    obtain rfl : gR = g := by simpa [Value.ownBlock] using e
    exact hb gR h.mem.1.2.1 (fun e => h.apart.1.1 e.symm) (fun e2 => (hne _ e2).2.1 rfl)), hn.row, h.mapA.block (hb MA h.mem.1.2.2.1 (fun e => h.apart.1.2.1 e.symm) (fun e2 => (hne _ e2).2.2.1 rfl)), h.mapB.block (hb MB h.mem.1.2.2.2 (fun e => h.apart.1.2.2.1 e.symm) (fun e2 => (hne _ e2).2.2.2 rfl)), ⟨⟨.inl h.mem.1.1, .inl h.mem.1.2.1, .inl h.mem.1.2.2.1, .inl h.mem.1.2.2.2⟩, fun g e => .inr e⟩, ⟨h.apart.1, hap⟩, fun i hi => ?_⟩, ⟨hn.os, hn.tape, hn.output, hn.size, fun i hi hS => hn.block i hi (fun e => hS (e ▸ h.mem.1.1)) (fun e => hS (h.mem.2 i e))⟩, fun i hi => ?_⟩
  · rw [hn.cell]
    have hx := h.box
    unfold tabO at hx ⊢
    simp [World.setCell, Array.getElem?_modify, hx]
  · rcases hi with e | e
    · exact Nat.lt_of_lt_of_le (hl i e) hn.size
    · exact row_lt hn.row e
  · rcases hi with e | e
    · exact .inl e
    · rcases hn.own i e with e2 | e2
      · exact .inl (h.mem.2 i e2)
      · exact .inr e2
theorem over_none (r : Ro) : over (roC (some r)) 0 (roC none) = roC none := by
  obtain ⟨a, b, v⟩ := r
  simp [over, roC, Fw.cells, Tup.cells]
set_option maxRecDepth 100000 in
set_option maxHeartbeats 1000000 in
theorem remove_nobody (h : TabIn S T gR capR MA MB nB room lvF t w) (k : Int) (hk : k < 1 ∨ (t.rows.length : Int) ≤ k ∨ ∃ i : Nat, k = (i : Int) ∧ t.rows[i]? = some none) :
    Calls Tryd.prog 67 #[.pointer (some ⟨T, 0, none⟩), .int .i64 k] w fun e w' => e = .returned (.bool false) ∧ w' = w := by
  have HAT := Lib.hid (at_nobody h k hk)
  clear h hk
  go_enter Tryd.func67, Tryd.ntmps67
  go_wp2_with (go_at_call 66; refine HAT.out.mono ?_; rintro e wx ⟨rfl, rfl⟩)
  go_ret
  exact ⟨rfl, rfl⟩
end
end Go.Proofs.YtpbknbnhljjjcaaDoor

namespace Go.Proofs.YtpbknbnhljjjcaaDoor
open Go.RowKit Go.Maps Go.Lib

theorem wp_world {P : Program} {c : Code} {Q : Exit → Act → World → Prop} {a : Act} {w : World} (w' : World) (h : w = w') (hc : c.wp P Q a w') : c.wp P Q a w := h ▸ hc
section
variable {S : Nat → Prop} {T gR capR MA MB nB room : Nat} {lvF : Value} {t : Tb} {w w' : World}
theorem roC_one : (roC none).toArray.all (·.oneCell') = true := by simp [roC, zF, zT, Fw.cells, Tup.cells, Value.oneCell']
/-- What Remove leaves. -/
def TabGone (S : Nat → Prop) (T gR capR MA MB nB room i : Nat) (r : Ro) (t : Tb) (w w' : World) : Prop :=
  ∃ S' lv' nB' l' n', l'.Perm ((i : Int) :: t.free) ∧ nB' ≤ nB ∧ n' + (if (t.fA r.a).isSome then 1 else 0) = t.n ∧ TabIn S' T gR capR MA MB nB' room lv' ⟨t.rows.set i none, l', updT t.fA r.a none, updT t.fB r.b none, n'⟩ w' ∧ Only S w w' ∧ ∀ j, S' j → S j ∨ w.heap.size ≤ j
set_option maxRecDepth 100000 in
set_option maxHeartbeats 4000000 in
theorem remove_some (h : TabIn S T gR capR MA MB nB room lvF t w) {i : Nat} {r : Ro} (h1 : 1 ≤ i) (hi : t.rows[i]? = some (some r)) (ha : r.a.ok) (hb : r.b.ok) (hl : t.free.length < 1000000) :
    Calls Tryd.prog 67 #[.pointer (some ⟨T, 0, none⟩), .int .i64 (i : Int)] w fun e w' => e = .returned (.bool true) ∧ TabGone S T gR capR MA MB nB room i r t w w' := by
  have HAT := Lib.hid (at_some h h1 hi)
  obtain ⟨w1, n1, hr1, k1, o1, hn1⟩ := h.drew.dropA ha 0
  obtain ⟨w2, nB2, hr2, k2, o2, hnB⟩ := k1.drew.dropB hb 0
  have hi2 : ({ t with fA := updT t.fA r.a none, n := n1 } : Tb).rows[i]? = some (some r) := hi
  obtain ⟨k3, o3⟩ := k2.put hi2 0 (roC none) (by rw [roC_len]; omega) (over_none r)
  have HP := Lib.hid (push_ok (T := T) (k := 2) (k3.cells.1.2.2.1) (k3.cells.2.2) k3.fre (fun e => (k3.apart.2 _ e).1 rfl) hl (i : Int))
  have HFIN := Lib.hid (show ∀ (wz : World) (lv' : Value) (l' : List Int), l'.Perm ((i : Int) :: t.free) → Numb T 2 lvF lv' l' (w2.setCells gR (i * 25) (roC none)) wz → TabGone S T gR capR MA MB nB room i r t w wz from fun wz lv' l' hp hN => by
    obtain ⟨q1, q2, q3⟩ := k3.heap hN
    have oA : Only S w (w2.setCells gR (i * 25) (roC none)) := by
      refine ⟨o3.os.trans (o2.os.trans o1.os), o3.tape.trans (o2.tape.trans o1.tape), o3.output.trans (o2.output.trans o1.output), ?_, fun j hj hn => ?_⟩
      · exact Nat.le_trans o1.size (Nat.le_trans o2.size o3.size)
      · exact (o3.block j (Nat.lt_of_lt_of_le hj (Nat.le_trans o1.size o2.size)) hn).trans ((o2.block j (Nat.lt_of_lt_of_le hj o1.size) hn).trans (o1.block j hj hn))
    refine ⟨_, lv', nB2, l', n1, hp, hnB, hn1, q1, ⟨q2.os.trans oA.os, q2.tape.trans oA.tape, q2.output.trans oA.output, Nat.le_trans oA.size q2.size, fun j hj hn => (q2.block j (Nat.lt_of_lt_of_le hj oA.size) hn).trans (oA.block j hj hn)⟩, fun j hj => ?_⟩
    rcases q3 j hj with e | e
    · exact .inl e
    · exact .inr (Nat.le_trans oA.size e))
  obtain ⟨⟨c0, c1, c2, c3, c4⟩, _⟩ := h.cells
  obtain ⟨⟨_, _, _, _, e4⟩, _⟩ := k1.cells
  obtain ⟨_, ⟨a0, a1, a2, a3, a4⟩, _⟩ := rows_flow h.row hi
  obtain ⟨_, _, ⟨b0, b1, b2, b3, b4⟩⟩ := rows_flow k1.row hi2
  have HTH := Lib.hid (show w2.there gR (i * 25) (roC none).toArray.size from rows_there k2.row hi2 0 25 (Nat.le_refl _))
  have HIN := Lib.hid (show (Tryd.prog.info? 144).map (·.size) = some 25 from by kernel_rfl)
  obtain ⟨ra, rb, rv⟩ := r
  unfold Tup.v at hr1 hr2
  dsimp only at a0 a1 a2 a3 a4 b0 b1 b2 b3 b4 hr1 hr2
  clear h k1 o1 hn1 k2 o2 hnB hi2 k3 o3 ha hb hl hi h1
  go_enter Tryd.func67, Tryd.ntmps67
  go_upto_region 4 with (go_at_call 66; refine HAT.out.mono ?_; rintro e wx ⟨rfl, rfl⟩)
  refine reg_tail 8 (by kernel_rfl) (by kernel_rfl) ?_
  simp only [List.take_succ_cons, List.take_zero, List.drop_succ_cons, List.drop_zero]
  repeat still_step
  refine wpStill_nil ?_
  go_upto_region 5 with fail
  refine reg_tail 8 (by kernel_rfl) (by kernel_rfl) ?_
  simp only [List.take_succ_cons, List.take_zero, List.drop_succ_cons, List.drop_zero]
  repeat still_step
  refine wpStill_nil ?_
  go_upto_region 7 with (refine wpList_store_mid rfl 144 _ _ rfl gR (i * 25) (roC none).toArray rfl rfl HTH.out HIN.out roC_one ?_)
  obtain ⟨W3, hW3⟩ : ∃ W3, w2.setCells gR (i * 25) (roC none) = W3 := ⟨_, rfl⟩
  have HP' := Lib.hid HP.out
  rw [show i * 25 + 0 = i * 25 from rfl, hW3] at HP'
  rw [hW3] at HFIN ⊢
  clear hW3
  go_wp2_with (go_at_call 80; refine HP'.out.mono ?_; rintro e wz ⟨rfl, lv', l', hp, hN⟩; have HZ := Lib.hid (HFIN.out wz lv' l' hp hN); clear hp hN)
  go_ret
  exact ⟨rfl, HZ.out⟩
end
end Go.Proofs.YtpbknbnhljjjcaaDoor

namespace Go.Proofs.YtpbknbnhljjjcaaDoor
open Go.RowKit Go.Maps Go.Lib Go.WideShapes Go.ChangeMaps

/-- An entry that is made and then filled is a store: for keys of every kind. -/
theorem entry_fill {P : Program} {w : World} {t k e : TypeId} {b : Nat} {es : Array MapEntry} {clock : Nat} (K : Keyed P k) (ht : P.underlying t = some (.map k e)) {z : Value} (hz : ∀ u : World, (zeroValue e).run P u = .ok z u) (hb : w.heap[b]? = some (.map es clock))
    (hkeys : ∀ x ∈ es.toList, ∃ l, keyOf P k x.key = some l) (hborn : ∀ x ∈ es.toList, x.born < clock) (hnd : (es.toList.map (·.born)).Nodup) {key : Value} {kl : Lit} (hkey : keyOf P k key = some kl) :
    ∃ (v0 : Value) (st : Nat) (es1 : Array MapEntry) (c1 : Nat), (Instr.mapEntry t (.map (some b)) key).run P w = .ok (.tuple #[v0, goInt st]) (setBlock w b (.map es1 c1)) ∧
      ∀ (w2 : World) (val : Value), w2.heap[b]? = some (.map es1 c1) → ∃ es' c', (Instr.entryStore t (.map (some b)) (goInt st) val).run P w2 = .ok () (setBlock w2 b (.map es' c')) ∧
        (Instr.mapUpdate t (.map (some b)) key val).run P w = .ok () (setBlock w b (.map es' c')) := by
  rcases K.find w hkey es.toList hkeys with ⟨h1, h2⟩ | ⟨j, x, h1, h2, h3⟩
  · refine ⟨z, clock, es.push ⟨key, z, clock⟩, clock + 1, ?_, fun w2 val hw2 => ?_⟩
    · simp [Instr.mapEntry, run_underlying ht, MapKept.run_getObj_map hb, K.check w false hkey, h1, hz, MapKept.run_setObj_map _ hb, Result.andThen, setBlock]
    · have hl : (es.push ⟨key, z, clock⟩).toList[es.size]? = some ⟨key, z, clock⟩ := by simp
      have hn : ((es.push ⟨key, z, clock⟩).toList.map (·.born)).Nodup := by
        rw [Array.toList_push, List.map_append, List.nodup_append]
        refine ⟨hnd, by simp, fun a ha c hc e1 => ?_⟩
        obtain ⟨y, hy, rfl⟩ := List.mem_map.1 ha
        have h5 := hborn y hy
        simp at hc
        omega
      have hidx := (WideElems.findIdx_arr (es.push ⟨key, z, clock⟩) (fun e => ((e.born : Nat) : Int) == ((clock : Nat) : Int))).trans (WideElems.findIdx_born hn hl)
      refine ⟨(es.push ⟨key, z, clock⟩).modify es.size (fun e => { e with val := val }), clock + 1, ?_, ?_⟩
      · simp [Instr.entryStore, MapKept.run_getObj_map hw2, asInt, asIntOf, goInt, hidx, MapKept.run_setObj_map _ hw2, Result.andThen, setBlock]
      · have hmod : (es.push ⟨key, z, clock⟩).modify es.size (fun e => { e with val := val }) = es.push ⟨key, val, clock⟩ := by
          apply Array.ext'
          rw [Array.toList_modify, Array.toList_push, Array.toList_push, ← Array.length_toList, WideElems.modify_last]
        rw [hmod]
        simp [Instr.mapUpdate, run_underlying ht, MapKept.run_getObj_map hb, K.check w false hkey, h1, MapKept.run_setObj_map _ hb, Result.andThen, setBlock]
  · have hxm : x ∈ es.toList := List.mem_of_getElem? h2
    have hxa : es[j]? = some x := by simpa using h2
    have hst : (Instr.keyThatStays x.key key).run P w = .ok key w := by rw [h3]; exact K.stays w hkey
    have hself : es.modify j (fun e => { e with key := key }) = es := by
      apply Array.ext'
      rw [Array.toList_modify]
      apply List.ext_getElem?
      intro i
      rw [List.getElem?_modify]
      by_cases e : j = i
      · subst e
        rw [h2]
        simp [← h3]
      · simp [e]
    have hidx := (WideElems.findIdx_arr es (fun e => ((e.born : Nat) : Int) == ((x.born : Nat) : Int))).trans (WideElems.findIdx_born hnd h2)
    refine ⟨x.val, x.born, es, clock, ?_, fun w2 val hw2 => ⟨es.modify j (fun e => { e with val := val }), clock, ?_, ?_⟩⟩
    · simp [Instr.mapEntry, run_underlying ht, MapKept.run_getObj_map hb, K.check w false hkey, h1, hxa, hst, hself, MapKept.run_setObj_map _ hb, Result.andThen, setBlock]
    · simp [Instr.entryStore, MapKept.run_getObj_map hw2, asInt, asIntOf, goInt, hidx, MapKept.run_setObj_map _ hw2, Result.andThen, setBlock]
    · have hm : es.modify j (fun e => { e with key := key, val := val }) = es.modify j (fun e => { e with val := val }) := by
        apply Array.ext'
        rw [Array.toList_modify, Array.toList_modify]
        apply List.ext_getElem?
        intro i
        rw [List.getElem?_modify, List.getElem?_modify]
        by_cases e : j = i
        · subst e
          rw [h2]
          simp [← h3]
        · simp [e]
      simp [Instr.mapUpdate, run_underlying ht, MapKept.run_getObj_map hb, K.check w false hkey, h1, hxa, hst, hm, MapKept.run_setObj_map _ hb, Result.andThen, setBlock]

theorem grown_setBlock {w : World} {b : Nat} {es0 : Array MapEntry} {c0 : Nat} (h : w.heap[b]? = some (.map es0 c0)) (o : Obj) : w.grownBy (setBlock w b o) (some b) :=
  ⟨rfl, rfl, rfl, by simp [setBlock], fun i _ hi => heap_setBlock_other h _ (fun e => hi (by rw [e]))⟩
theorem MapG.entry {P : Program} {kt : TypeId} {κ : Type} {E : KeyEmb P kt κ} [DecidableEq κ] {b c : Nat} {f : κ → Option Value} {w : World} (h : MapG E b c f w) {t e : TypeId} (ht : P.underlying t = some (.map kt e)) {z : Value} (hz : ∀ u : World, (zeroValue e).run P u = .ok z u) (hn : c < maxLen) {k : κ} (hk : E.ok k) :
    ∃ (v0 : Value) (st : Nat) (w1 : World), (Instr.mapEntry t (.map (some b)) (E.kv k)).run P w = .ok (.tuple #[v0, .int .i64 (st : Int)]) w1 ∧ w.grownBy w1 (some b) ∧
      ∀ (w2 : World) (v : Value), w2.heap[b]? = w1.heap[b]? → ∃ w3, (Instr.entryStore t (.map (some b)) (.int .i64 (st : Int)) v).run P w2 = .ok () w3 ∧ MapG E b (if (f k).isSome then c else c + 1) (fun j => if j = k then some v else f j) w3 ∧ w2.grownBy w3 (some b) := by
  have h0 := h
  obtain ⟨D, ⟨es, clock, hb, F, _, _⟩, _⟩ := h0
  obtain ⟨s1, s2, _⟩ := F.stamped
  obtain ⟨v0, st, es1, c1, hrun, hfill⟩ := entry_fill E.keyed ht hz hb F.keys s1 s2 (E.key hk)
  refine ⟨v0, st, _, hrun, grown_setBlock hb _, fun w2 v hw2 => ?_⟩
  rw [heap_setBlock_same hb] at hw2
  obtain ⟨es', c', hr2, hr3⟩ := hfill w2 v hw2
  obtain ⟨w', hrun', hmap, _⟩ := h.store ht hn hk v
  rw [hr3] at hrun'
  cases hrun'
  refine ⟨_, hr2, hmap.block ?_, grown_setBlock hw2 _⟩
  rw [heap_setBlock_same hw2, heap_setBlock_same hb]
section
variable {S : Nat → Prop} {T gR capR MA MB nB room : Nat} {lvF : Value} {t : Tb} {w w' : World}
theorem hV_same (f : Tup → Option Nat) (x : Tup) (k : Nat) : (fun y => if y = x then some (.int .i64 (k : Int)) else hV (f y)) = fun y => hV (updT f x (some k) y) := hV_some f x k
theorem TabIn.entryA (h : TabIn S T gR capR MA MB nB room lvF t w) {x : Tup} (hx : x.ok) (hn : t.n < 1000000) (hno : t.fA x = none) (k : Nat) :
    ∃ (v0 : Value) (st : Nat) (w1 w2 : World), (Instr.mapEntry 67 (.map (some MA)) x.v).run Tryd.prog w = .ok (.tuple #[v0, .int .i64 (st : Int)]) w1 ∧ (Instr.entryStore 67 (.map (some MA)) (.int .i64 (st : Int)) (.int .i64 (k : Int))).run Tryd.prog w1 = .ok () w2 ∧ TabIn S T gR capR MA MB nB room lvF { t with fA := updT t.fA x (some k), n := t.n + 1 } w2 ∧ Only S w w2 ∧ w.grownBy w1 (some MA) ∧ w.grownBy w2 (some MA) := by
  obtain ⟨v0, st, w1, h1, g1, h2⟩ := h.mapA.entry (E := kT) Tryd.underlying67 zero3 (by unfold maxLen; omega) hx
  obtain ⟨w2, h3, h4, g2⟩ := h2 w1 (.int .i64 (k : Int)) rfl
  have hg : w.grownBy w2 (some MA) := ⟨g2.os.trans g1.os, g2.tape.trans g1.tape, g2.output.trans g1.output, Nat.le_trans g1.size g2.size, fun i hi hne => (g2.block i (Nat.lt_of_lt_of_le hi g1.size) hne).trans (g1.block i hi hne)⟩
  have h5 : MapG kT MA (t.n + 1) (fun y => hV (updT t.fA x (some k) y)) w2 := by
    have h4' := h4
    rw [hV_is, hno, hV_some] at h4'
    exact h4'
  exact ⟨v0, st, w1, w2, h1, h3, h.grownA hg h5, Only.grownBy h.mem.1.2.2.1 hg, g1, hg⟩
theorem TabIn.entryB (h : TabIn S T gR capR MA MB nB room lvF t w) {x : Tup} (hx : x.ok) (hn : nB < 1000000) (k : Nat) :
    ∃ (v0 : Value) (st : Nat) (w1 w2 : World) (n' : Nat), (Instr.mapEntry 67 (.map (some MB)) x.v).run Tryd.prog w = .ok (.tuple #[v0, .int .i64 (st : Int)]) w1 ∧ (Instr.entryStore 67 (.map (some MB)) (.int .i64 (st : Int)) (.int .i64 (k : Int))).run Tryd.prog w1 = .ok () w2 ∧ TabIn S T gR capR MA MB n' room lvF { t with fB := updT t.fB x (some k) } w2 ∧ Only S w w2 ∧ n' ≤ nB + 1 ∧ w.grownBy w1 (some MB) ∧ w.grownBy w2 (some MB) := by
  obtain ⟨v0, st, w1, h1, g1, h2⟩ := h.mapB.entry (E := kT) Tryd.underlying67 zero3 (by unfold maxLen; omega) hx
  obtain ⟨w2, h3, h4, g2⟩ := h2 w1 (.int .i64 (k : Int)) rfl
  have hg : w.grownBy w2 (some MB) := ⟨g2.os.trans g1.os, g2.tape.trans g1.tape, g2.output.trans g1.output, Nat.le_trans g1.size g2.size, fun i hi hne => (g2.block i (Nat.lt_of_lt_of_le hi g1.size) hne).trans (g1.block i hi hne)⟩
  have h4' := h4
  rw [hV_some] at h4'
  refine ⟨v0, st, w1, w2, _, h1, h3, h.grownB hg h4', Only.grownBy h.mem.1.2.2.2 hg, ?_, g1, hg⟩
  split <;> omega
/-- The rows have one more that holds nothing. -/
theorem TabIn.grow (h : TabIn S T gR capR MA MB nB room lvF t w) {w1 : World} {g cap : Nat} (hown : w1.ownsRow 0 144 25 (.slice (some ⟨g, 0, none⟩) (t.rows.length + 1) cap) (t.rows.length + 1) (rowsR t.rows ++ roC none)) (hg : w.grownBy w1 (some gR)) (hat : g = gR ∨ w.heap.size ≤ g) :
    TabIn (fun i => S i ∨ i = g) T g cap MA MB nB room lvF { t with rows := t.rows ++ [none] } (w1.setCell ⟨T, 1, none⟩ (.slice (some ⟨g, 0, none⟩) (t.rows.length + 1) cap)) ∧ Only S w (w1.setCell ⟨T, 1, none⟩ (.slice (some ⟨g, 0, none⟩) (t.rows.length + 1) cap)) ∧ ∀ i, (S i ∨ i = g) → S i ∨ w.heap.size ≤ i := by
  have hl := h.low
  have lT := hl T h.mem.1.1
  have lA := hl MA h.mem.1.2.2.1
  have lB := hl MB h.mem.1.2.2.2
  have hgT : g ≠ T := by
    rcases hat with e | e
    · rw [e]; exact fun e => h.apart.1.1 e.symm
    · omega
  have hb : ∀ b, b < w.heap.size → b ≠ T → b ≠ gR → (w1.setCell ⟨T, 1, none⟩ (.slice (some ⟨g, 0, none⟩) (t.rows.length + 1) cap)).heap[b]? = w.heap[b]? := fun b hb h1 h2 => (Below.heap_setCell _ _ _ _ h1).trans (hg.block b hb (fun e => h2 (Option.some.inj e)))
  have hgl := row_lt hown (g := g) rfl
  refine ⟨⟨?_, ?_, row_kept h.fre (fun x e => hb x (hl x (h.mem.2 x e)) (h.apart.2 x e).1 (h.apart.2 x e).2.1), h.mapA.block (hb MA lA (fun e => h.apart.1.2.1 e.symm) (fun e => h.apart.1.2.2.2.1 e.symm)), h.mapB.block (hb MB lB (fun e => h.apart.1.2.2.1 e.symm) (fun e => h.apart.1.2.2.2.2.1 e.symm)), ⟨⟨.inl h.mem.1.1, .inr rfl, .inl h.mem.1.2.2.1, .inl h.mem.1.2.2.2⟩, fun x e => .inl (h.mem.2 x e)⟩, ⟨⟨fun e => hgT e.symm, h.apart.1.2.1, h.apart.1.2.2.1, ?_, ?_, h.apart.1.2.2.2.2.2⟩, fun x e => ⟨(h.apart.2 x e).1, ?_, (h.apart.2 x e).2.2⟩⟩, fun i hi => ?_⟩, ⟨hg.os, hg.tape, hg.output, by simp [World.setCell]; exact hg.size, fun i hi hn => hb i hi (fun e => hn (e ▸ h.mem.1.1)) (fun e => hn (e ▸ h.mem.1.2.1))⟩, fun i hi => ?_⟩
  · have hx : w1.heap[T]? = w.heap[T]? := hg.block T lT (fun e => h.apart.1.1 (Option.some.inj e))
    rw [h.box] at hx
    unfold tabO at hx ⊢
    simp [World.setCell, Array.getElem?_modify, hx]
  · dsimp only
    rw [List.length_append, List.length_singleton, rowsR_append]
    have h2 := row_kept hown (w' := w1.setCell ⟨T, 1, none⟩ (.slice (some ⟨g, 0, none⟩) (t.rows.length + 1) cap)) (fun x e => by
      obtain rfl : g = x := by simpa [Value.ownBlock] using e
      exact Below.heap_setCell _ _ _ _ hgT)
    have e2 : rowsR [none] = roC none := by simp [rowsR]
    rw [e2]
    exact h2
  · rcases hat with e | e
    · rw [e]; exact h.apart.1.2.2.2.1
    · omega
  · rcases hat with e | e
    · rw [e]; exact h.apart.1.2.2.2.2.1
    · omega
  · rcases hat with e2 | e2
    · rw [e2]; exact (h.apart.2 x e).2.1
    · have := hl x (h.mem.2 x e); omega
  · rcases hi with e | e
    · have := hl i e
      have := hg.size
      simp [World.setCell]
      omega
    · rw [e]; simpa [World.setCell] using hgl
  · rcases hi with e | e
    · exact .inl e
    · rcases hat with e2 | e2
      · rw [e, e2]; exact .inl h.mem.1.2.1
      · rw [e]; exact .inr e2
theorem over_some (r : Ro) : over (roC none) 0 (roC (some r)) = roC (some r) := by
  obtain ⟨a, b, v⟩ := r
  simp [over, roC, zF, zT, Fw.cells, Tup.cells]
theorem roC_oneS (r : Ro) : (roC (some r)).toArray.all (·.oneCell') = true := by simp [roC, Fw.cells, Tup.cells, Value.oneCell']
end
end Go.Proofs.YtpbknbnhljjjcaaDoor

namespace Go.Proofs.YtpbknbnhljjjcaaDoor
open Go.RowKit Go.Maps Go.Lib

def boxT (x : Tup) : Obj := .cells #[.int .i64 x.p, .int .u32 x.s, .int .u32 x.d, .int .i64 x.x, .int .i64 x.y] 41
def boxF (f : Fw) : Obj := .cells #[.int .i64 f.c.p, .int .u32 f.c.s, .int .u32 f.c.d, .int .i64 f.c.x, .int .i64 f.c.y, .int .i64 f.b.p, .int .u32 f.b.s, .int .u32 f.b.d, .int .i64 f.b.x, .int .i64 f.b.y, .int .i64 f.sv, .int .i64 f.bk, .int .i64 f.st, .bool f.dsr] 52
structure TC (b : Nat) (x : Tup) (w : World) : Prop where
  c0 : w.cell? ⟨b, 0, none⟩ = some (.int .i64 x.p)
  c1 : w.cell? ⟨b, 1, none⟩ = some (.int .u32 x.s)
  c2 : w.cell? ⟨b, 2, none⟩ = some (.int .u32 x.d)
  c3 : w.cell? ⟨b, 3, none⟩ = some (.int .i64 x.x)
  c4 : w.cell? ⟨b, 4, none⟩ = some (.int .i64 x.y)
structure FCB (b : Nat) (f : Fw) (w : World) : Prop where
  cc : w.cell? ⟨b, 0, none⟩ = some (.int .i64 f.c.p) ∧ w.cell? ⟨b, 1, none⟩ = some (.int .u32 f.c.s) ∧ w.cell? ⟨b, 2, none⟩ = some (.int .u32 f.c.d) ∧ w.cell? ⟨b, 3, none⟩ = some (.int .i64 f.c.x) ∧ w.cell? ⟨b, 4, none⟩ = some (.int .i64 f.c.y)
  bb : w.cell? ⟨b, 5, none⟩ = some (.int .i64 f.b.p) ∧ w.cell? ⟨b, 6, none⟩ = some (.int .u32 f.b.s) ∧ w.cell? ⟨b, 7, none⟩ = some (.int .u32 f.b.d) ∧ w.cell? ⟨b, 8, none⟩ = some (.int .i64 f.b.x) ∧ w.cell? ⟨b, 9, none⟩ = some (.int .i64 f.b.y)
  rr : w.cell? ⟨b, 10, none⟩ = some (.int .i64 f.sv) ∧ w.cell? ⟨b, 11, none⟩ = some (.int .i64 f.bk) ∧ w.cell? ⟨b, 12, none⟩ = some (.int .i64 f.st) ∧ w.cell? ⟨b, 13, none⟩ = some (.bool f.dsr)
theorem boxT_cells {w : World} {b : Nat} {x : Tup} (h : w.heap[b]? = some (boxT x)) : TC b x w := by
  unfold boxT at h
  constructor <;> simp [World.cell?, h]
theorem boxF_cells {w : World} {b : Nat} {f : Fw} (h : w.heap[b]? = some (boxF f)) : FCB b f w := by
  unfold boxF at h
  refine ⟨⟨?_, ?_, ?_, ?_, ?_⟩, ⟨?_, ?_, ?_, ?_, ?_⟩, ⟨?_, ?_, ?_, ?_⟩⟩ <;> simp [World.cell?, h]
theorem info_row : (Tryd.prog.info? 144).map (fun i => (i.zero, i.size, i.bytes)) = some (some (.agg (roC none).toArray), 25, 168) := by kernel_rfl
theorem roC_all : ∀ u ∈ roC none, u.oneCell' = true := by simp [roC, zF, zT, Fw.cells, Tup.cells, Value.oneCell']
theorem row_size : (Tryd.prog.info? 144).map (·.size) = some 25 := by kernel_rfl
/-- What the last region of Put reads. -/
structure SF (T MA MB b5 b6 : Nat) (a b : Tup) (w : World) : Prop where
  t3 : w.cell? ⟨T, 3, none⟩ = some (.map (some MA))
  t4 : w.cell? ⟨T, 4, none⟩ = some (.map (some MB))
  a5 : TC b5 a w
  b6 : TC b6 b w
theorem TC.of {b : Nat} {x : Tup} {w w' : World} (h : TC b x w) (hb : w'.heap[b]? = w.heap[b]?) : TC b x w' :=
  ⟨(World.cell?_of_block hb).trans h.c0, (World.cell?_of_block hb).trans h.c1, (World.cell?_of_block hb).trans h.c2, (World.cell?_of_block hb).trans h.c3, (World.cell?_of_block hb).trans h.c4⟩
theorem SF.of {T MA MB b5 b6 : Nat} {a b : Tup} {w w' : World} {M : Nat} (h : SF T MA MB b5 b6 a b w) (hg : w.grownBy w' (some M)) (hT : T ≠ M ∧ T < w.heap.size) (h5 : b5 ≠ M ∧ b5 < w.heap.size) (h6 : b6 ≠ M ∧ b6 < w.heap.size) : SF T MA MB b5 b6 a b w' := by
  have q : ∀ i, i ≠ M → i < w.heap.size → w'.heap[i]? = w.heap[i]? := fun i h1 h2 => hg.block i h2 (fun e => h1 (Option.some.inj e))
  exact ⟨(World.cell?_of_block (q T hT.1 hT.2)).trans h.t3, (World.cell?_of_block (q T hT.1 hT.2)).trans h.t4, h.a5.of (q b5 h5.1 h5.2), h.b6.of (q b6 h6.1 h6.2)⟩
theorem SF.all {T MA MB b5 b6 : Nat} {a b : Tup} {W : World} (h : SF T MA MB b5 b6 a b W) : ((W.cell? ⟨T, 3, none⟩ = some (.map (some MA)) ∧ W.cell? ⟨T, 4, none⟩ = some (.map (some MB))) ∧ (W.cell? ⟨b5, 0, none⟩ = some (.int .i64 a.p) ∧ W.cell? ⟨b5, 1, none⟩ = some (.int .u32 a.s) ∧ W.cell? ⟨b5, 2, none⟩ = some (.int .u32 a.d) ∧ W.cell? ⟨b5, 3, none⟩ = some (.int .i64 a.x) ∧ W.cell? ⟨b5, 4, none⟩ = some (.int .i64 a.y)) ∧ (W.cell? ⟨b6, 0, none⟩ = some (.int .i64 b.p) ∧ W.cell? ⟨b6, 1, none⟩ = some (.int .u32 b.s) ∧ W.cell? ⟨b6, 2, none⟩ = some (.int .u32 b.d) ∧ W.cell? ⟨b6, 3, none⟩ = some (.int .i64 b.x) ∧ W.cell? ⟨b6, 4, none⟩ = some (.int .i64 b.y))) :=
  ⟨⟨h.t3, h.t4⟩, ⟨h.a5.c0, h.a5.c1, h.a5.c2, h.a5.c3, h.a5.c4⟩, ⟨h.b6.c0, h.b6.c1, h.b6.c2, h.b6.c3, h.b6.c4⟩⟩
/-- What Put leaves. -/
def TabMore (S : Nat → Prop) (T MA MB nB room : Nat) (lvF : Value) (a b : Tup) (v : Fw) (t : Tb) (w w' : World) : Prop :=
  ∃ S' gR' capR' nB', nB' ≤ nB + 1 ∧ TabIn S' T gR' capR' MA MB nB' room lvF ⟨t.rows ++ [some ⟨a, b, v⟩], t.free, updT t.fA a (some t.rows.length), updT t.fB b (some t.rows.length), t.n + 1⟩ w' ∧ Only S w w' ∧ ∀ j, S' j → S j ∨ w.heap.size ≤ j
section
variable {S : Nat → Prop} {T gR capR MA MB nB room : Nat} {lvF : Value} {t : Tb} {w w' : World}
set_option maxRecDepth 100000 in
set_option maxHeartbeats 4000000 in
theorem put_new (h : TabIn S T gR capR MA MB nB room lvF t w) {a b : Tup} (ha : a.ok) (hb : b.ok) (v : Fw) (hA : t.fA a = none) (hB : t.fB b = none) (hn : t.n ≠ room) (hfr : t.free = []) (hn1 : t.n < 1000000) (hnB : nB < 1000000) (hlen : t.rows.length < 1000000) :
    Calls Tryd.prog 36 #[.pointer (some ⟨T, 0, none⟩), a.v, b.v, v.v] w fun e w' => e = .returned (.tuple #[.int .i64 (t.rows.length : Int), .int .i64 0]) ∧ TabMore S T MA MB nB room lvF a b v t w w' := by
  obtain ⟨w0, hw0⟩ : ∃ w0, ((w.alloc (boxT a)).alloc (boxT b)).alloc (boxF v) = w0 := ⟨_, rfl⟩
  have hb0 : Below w.heap.size w w0 := by rw [← hw0]; exact (((Below.refl _ w).alloc (Nat.le_refl _) _).alloc (by simp) _).alloc (by simp; omega) _
  have hs0 : w0.heap.size = w.heap.size + 3 := by rw [← hw0]; simp
  have x5 : w0.heap[w.heap.size]? = some (boxT a) := by
    rw [← hw0]
    exact (Below.heap_alloc _ _ _ (by simp; omega)).trans ((Below.heap_alloc _ _ _ (by simp)).trans (heap_alloc_new w _))
  have x6 : w0.heap[w.heap.size + 1]? = some (boxT b) := by
    rw [← hw0]
    have := heap_alloc_new (w.alloc (boxT a)) (boxT b)
    rw [World.size_alloc] at this
    exact (Below.heap_alloc _ _ _ (by simp)).trans this
  have x7 : w0.heap[w.heap.size + 2]? = some (boxF v) := by
    rw [← hw0]
    have := heap_alloc_new ((w.alloc (boxT a)).alloc (boxT b)) (boxF v)
    rwa [World.size_alloc, World.size_alloc] at this
  have k0 := h.below hb0
  have HLOW := Lib.hid h.low
  have hdr : ∀ n, Below w0.heap.size w0 (w0.drewN n) := fun n => ⟨rfl, rfl, rfl, Nat.le_refl _, fun _ _ => rfl⟩
  have l1 : ∀ n, (Instr.lookup 67 (.map (some MA)) (.agg #[.int .i64 a.p, .int .u32 a.s, .int .u32 a.d, .int .i64 a.x, .int .i64 a.y]) true).run Tryd.prog (w0.drewN n) = .ok (.tuple #[.int .i64 0, .bool false]) (w0.drewN n) := fun n => by
    have h1 := (k0.below (hdr n)).mapA.look_ok (E := kT) (z := .int .i64 0) Tryd.underlying67 (zero3 _) ha
    rw [hA] at h1
    exact h1
  have l2 : ∀ n, (Instr.lookup 67 (.map (some MB)) (.agg #[.int .i64 b.p, .int .u32 b.s, .int .u32 b.d, .int .i64 b.x, .int .i64 b.y]) true).run Tryd.prog (w0.drewN n) = .ok (.tuple #[.int .i64 0, .bool false]) (w0.drewN n) := fun n => by
    have h1 := (k0.below (hdr n)).mapB.look_ok (E := kT) (z := .int .i64 0) Tryd.underlying67 (zero3 _) hb
    rw [hB] at h1
    exact h1
  have HLEN := Lib.hid (fun n => len_tab (k0.below (hdr n)))
  have HX := Lib.hid (And.intro x5 (And.intro x6 x7))
  have HW0 := Lib.hid hw0
  have HS0 := Lib.hid hs0
  have HB0 := Lib.hid hb0
  have HK0 := Lib.hid k0
  obtain ⟨⟨c0, c1, c2, c3, c4⟩, _⟩ := k0.cells
  obtain ⟨y0, y1, y2, y3, y4⟩ := boxT_cells x5
  obtain ⟨z0, z1, z2, z3, z4⟩ := boxT_cells x6
  obtain ⟨hc1, hc2⟩ := k0.cap
  obtain ⟨m, hm⟩ : ∃ m, t.rows.length = m := ⟨_, rfl⟩
  obtain ⟨q, hq⟩ : ∃ q, t.n = q := ⟨_, rfl⟩
  have HM := Lib.hid hm
  have HQ := Lib.hid hq
  rw [hm] at c1 hc1 hlen ⊢
  rw [hq] at hn hn1 HLEN
  have hcI : (m : Int) ≤ (capR : Int) := by omega
  have hnr : ((q : Int) == (room : Int)) = false := by simp; omega
  obtain ⟨p2, cap2, hv2, hcf, hcf2⟩ := row_form k0.fre
  rw [hfr] at hv2
  have hv2 : lvF = .slice p2 0 cap2 := hv2
  have c2' := c2
  rw [hv2] at c2'
  clear c2
  have HFR := Lib.hid hfr
  have HAB := Lib.hid (And.intro ha (And.intro hb (And.intro hA hB)))
  have HV2 := Lib.hid hv2
  clear h hw0 hs0 hb0 x5 x6 x7 k0 hdr hm hq hfr ha hb hA hB hv2 hc2 hcf hcf2
  unfold Tup.v Fw.v
  go_enter Tryd.func36, Tryd.ntmps36
  go_upto_region 1 with fail
  refine wp_world w0 HW0.out ?_
  go_quiet (fail)
  revert l1
  generalize nq = nq1
  intro l1
  go_upto_region 2 with fail
  go_quiet (fail)
  go_upto_region 5 with fail
  clear l1 l2 c1 c2' c3 c4 y0 y1 y2 y3 y4 z0 z1 z2 z3 z4
  obtain ⟨wa, hwa⟩ : ∃ wa, w0.drewN (nq1 + nq) = wa := ⟨_, rfl⟩
  have c0a : wa.cell? ⟨T, 0, none⟩ = some (.int .i64 (room : Int)) := by rw [← hwa]; exact c0
  have HLA := Lib.hid (fun n => len_tab (HK0.out.below (show Below w0.heap.size w0 (wa.drewN n) from by rw [← hwa]; exact ⟨rfl, rfl, rfl, Nat.le_refl _, fun _ _ => rfl⟩)))
  rw [HQ.out] at HLA
  have HBA := Lib.hid (show Below w0.heap.size w0 wa from by rw [← hwa]; exact ⟨rfl, rfl, rfl, Nat.le_refl _, fun _ _ => rfl⟩)
  rw [hwa]
  clear hwa c0 HLEN
  go_quiet ((go_at_call 39; exact Calls.quiet_of_same (HLA.out _)))
  obtain ⟨w1, hw1⟩ : ∃ w1, wa.drewN nq = w1 := ⟨_, rfl⟩
  have hb1 : Below w0.heap.size w0 w1 := by rw [← hw1]; exact HBA.out.trans ⟨rfl, rfl, rfl, Nat.le_refl _, fun _ _ => rfl⟩
  rw [hw1]
  clear hw1 hnr c0a HLA HBA
  have k1 := HK0.out.below hb1
  obtain ⟨⟨c0, c1, c2, c3, c4⟩, f1, _⟩ := k1.cells
  rw [HM.out] at c1
  rw [HV2.out] at c2
  obtain ⟨i0, hi, hz0, hz1, hz2⟩ := info_parts' info_row
  have HI := Lib.hid (And.intro hi (And.intro hz0 (And.intro hz1 hz2)))
  have HROW := Lib.hid k1.row
  rw [HM.out] at HROW
  have hTl := k1.low T k1.mem.1.1
  have HT := Lib.hid (show gR ≠ T from fun e => k1.apart.1.1 e.symm)
  have HK1 := Lib.hid k1
  have HB1 := Lib.hid hb1
  have HBX := Lib.hid (fun (w2 : World) (hg : (w1.alloc (.cells (roC none).toArray 144)).grownBy w2 (some gR)) => show w2.heap[T]? = w1.heap[T]? from (hg.block T (by simp; omega) (fun e => HT.out (Option.some.inj e).symm)).trans (Below.heap_alloc _ _ _ hTl))
  clear hi hz0 hz1 hz2 k1 hb1
  go_upto_region 11 with (at_builtin; go_must (refine wpList_append_lies _ rfl _ _ 101 (by rfl) 0 144 i0 (.agg (roC none).toArray) 25 168 Tryd.underlying101 HI.out.1 HI.out.2.1 HI.out.2.2.1 HI.out.2.2.2 (by rfl) (by decide) (.slice (some ⟨gR, 0, none⟩) m capR) m (rowsR t.rows) (by rfl) (row_kept HROW.out (fun g hg => Below.heap_alloc _ _ _ (row_lt HROW.out hg))) ⟨w1.heap.size, 0, none⟩ 1 1 (roC none) (by rfl) rfl (World.news_of_block (heap_alloc_new _ _)) roC_all (by decide) (by unfold maxLen; omega) (by omega) (Nat.zero_le _) _ rfl ?_; intro g cap w2 hown hgrow hat hlt; have HG := Lib.hid (And.intro hgrow (And.intro hat hlt)); have HOW := Lib.hid hown; have c1' := (World.cell?_of_block (HBX.out w2 hgrow)).trans c1; have f1' := (frozen_of_block (HBX.out w2 hgrow)).trans f1; clear hown hgrow hat hlt c1 f1))
  obtain ⟨W3, hW3⟩ : ∃ W3, w2.setCell ⟨T, 1, none⟩ (.slice (some ⟨g, 0, none⟩) (m + 1) cap) = W3 := ⟨_, rfl⟩
  obtain ⟨wA, hwA⟩ : ∃ wA, w1.alloc (.cells (roC none).toArray 144) = wA := ⟨_, rfl⟩
  have hbA : Below w1.heap.size w1 wA := by rw [← hwA]; exact (Below.refl _ _).alloc (Nat.le_refl _) _
  have HGR : (w1.alloc (.cells (roC none).toArray 144)).grownBy w2 (some gR) ∧ ((Value.slice (some ⟨gR, 0, none⟩) m capR).ownBlock = some g ∨ g = (w1.alloc (.cells (roC none).toArray 144)).heap.size) ∧ g < w2.heap.size := HG.out
  rw [hwA] at HGR
  have hatA : g = gR ∨ wA.heap.size ≤ g := by
    rcases HGR.2.1 with e | e
    · left
      have : gR = g := by simpa [Value.ownBlock] using e
      exact this.symm
    · right; omega
  have hlow := HLOW.out
  have hMT := HK1.out.mem.1
  have lT := hlow T hMT.1
  have lR := hlow gR hMT.2.1
  have s0 := HS0.out
  have s1 := HB1.out.size
  have sA := hbA.size
  have sG := HGR.1.size
  have hkA := HK1.out.below hbA
  have hgrow := hkA.grow (g := g) (cap := cap) (w1 := w2) (by rw [HM.out]; exact HOW.out) HGR.1 hatA
  rw [HM.out, hW3] at hgrow
  obtain ⟨k3, o3, hS3⟩ := hgrow
  have hbox : ∀ i, w.heap.size ≤ i → i < w0.heap.size → W3.heap[i]? = w0.heap[i]? := fun i h1 h2 => by
    rw [← hW3, Below.heap_setCell _ _ _ _ (fun e => by have e : i = T := e; omega), HGR.1.block i (by omega) (fun e => by have := Option.some.inj e; omega), hbA.block i (by omega)]
    exact HB1.out.block i h2
  have x5 := (hbox w.heap.size (Nat.le_refl _) (by omega)).trans HX.out.1
  have x6 := (hbox (w.heap.size + 1) (by omega) (by omega)).trans HX.out.2.1
  have x7 := (hbox (w.heap.size + 2) (by omega) (by omega)).trans HX.out.2.2
  have hrm : ({ t with rows := t.rows ++ [none] } : Tb).rows[m]? = some none := by
    show (t.rows ++ [none])[m]? = some none
    rw [List.getElem?_append_right (by rw [HM.out]; exact Nat.le_refl _), HM.out, Nat.sub_self]
    rfl
  have hdr3 : Below W3.heap.size W3 W3.drew := ⟨rfl, rfl, rfl, Nat.le_refl _, fun _ _ => rfl⟩
  have k3d := k3.below hdr3
  have HTH := Lib.hid (show W3.drew.there g (m * 25) (roC (some ⟨a, b, v⟩)).toArray.size from by
    have h5 := rows_there k3d.row hrm 0 25 (Nat.le_refl _)
    have e5 : (roC (some ⟨a, b, v⟩)).toArray.size = 25 := by rw [List.size_toArray, roC_len]
    rw [e5]
    exact h5)
  have HIN := Lib.hid (show (Tryd.prog.info? 144).map (·.size) = some (roC (some ⟨a, b, v⟩)).toArray.size from by
    have e5 : (roC (some ⟨a, b, v⟩)).toArray.size = 25 := by rw [List.size_toArray, roC_len]
    rw [e5]
    exact row_size)
  have HON := Lib.hid (roC_oneS ⟨a, b, v⟩)
  obtain ⟨k4, o4⟩ := k3d.put hrm 0 (roC (some ⟨a, b, v⟩)) (by rw [roC_len]; omega) (over_some ⟨a, b, v⟩)
  obtain ⟨W4, hW4⟩ : ∃ W4, W3.drew.setCells g (m * 25) (roC (some ⟨a, b, v⟩)) = W4 := ⟨_, rfl⟩
  have e25 : m * 25 + 0 = m * 25 := rfl
  rw [e25, hW4] at k4 o4
  have hgw : ∀ i, w.heap.size ≤ i → i < w0.heap.size → W4.heap[i]? = W3.heap[i]? := fun i h1 h2 => by
    rw [← hW4]
    refine (puts_else _ _ _ _ ?_).trans rfl
    rcases hatA with e | e <;> omega
  have X5 := (hgw w.heap.size (Nat.le_refl _) (by omega)).trans x5
  have X6 := (hgw (w.heap.size + 1) (by omega) (by omega)).trans x6
  have hset : (t.rows ++ [none]).set m (some ⟨a, b, v⟩) = t.rows ++ [some ⟨a, b, v⟩] := by
    rw [List.set_append_right _ _ (by rw [HM.out]; exact Nat.le_refl _), HM.out, Nat.sub_self]
    rfl
  dsimp only at k4
  rw [hset] at k4
  have hdr4 : Below W4.heap.size W4 W4.drew := ⟨rfl, rfl, rfl, Nat.le_refl _, fun _ _ => rfl⟩
  have k4d := k4.below hdr4
  obtain ⟨va, sta, wa1, wa2, ra1, ra2, k5, o5, ga1, ga2⟩ := k4d.entryA HAB.out.1 (by rw [HQ.out]; exact hn1) HAB.out.2.2.1 m
  obtain ⟨vb, stb, wb1, wb2, nB2, rb1, rb2, k6, o6, hnB6, gb1, gb2⟩ := k5.entryB HAB.out.2.1 hnB m
  have HFIN := Lib.hid (show TabMore S T MA MB nB room lvF a b v t w wb2 from by
    have z3 := o3.size
    have z4 := o4.size
    have z4' : W3.heap.size ≤ W4.heap.size := z4
    have z5 := o5.size
    have z5' : W4.heap.size ≤ wa2.heap.size := z5
    have z6 := o6.size
    refine ⟨fun i => S i ∨ i = g, g, cap, nB2, hnB6, ?_, ⟨?_, ?_, ?_, by omega, fun i hi hn => ?_⟩, fun j hj => ?_⟩
    · rw [HM.out]; exact k6
    · exact o6.os.trans (o5.os.trans (o4.os.trans (o3.os.trans (hbA.os.trans (HB1.out.os.trans HB0.out.os)))))
    · exact o6.tape.trans (o5.tape.trans (o4.tape.trans (o3.tape.trans (hbA.tape.trans (HB1.out.tape.trans HB0.out.tape)))))
    · exact o6.output.trans (o5.output.trans (o4.output.trans (o3.output.trans (hbA.output.trans (HB1.out.output.trans HB0.out.output)))))
    · have hng : ¬ (S i ∨ i = g) := fun e => by
        rcases e with e | e
        · exact hn e
        · rcases hatA with e2 | e2
          · exact hn (by rw [e, e2]; exact hMT.2.1)
          · omega
      have q6 := o6.block i (by omega) hng
      have q5 := o5.block i (show i < W4.heap.size by omega) hng
      have q4 := o4.block i (show i < W3.heap.size by omega) hng
      have q3 := o3.block i (by omega) hn
      exact q6.trans (q5.trans (q4.trans (q3.trans ((hbA.block i (by omega)).trans ((HB1.out.block i (by omega)).trans (HB0.out.block i hi))))))
    · rcases hS3 j hj with e | e
      · exact .inl e
      · exact .inr (by omega))
  have C3 := k3.cells
  have C4 := k4.cells
  have C5 := k5.cells
  obtain ⟨⟨_, d1, _, _, _⟩, _⟩ := C3
  obtain ⟨⟨_, _, _, d3, d4⟩, _⟩ := C4
  obtain ⟨y0, y1, y2, y3, y4⟩ := boxT_cells x5
  obtain ⟨z0, z1, z2, z3, z4⟩ := boxT_cells x6
  obtain ⟨⟨v0, v1, v2, v3, v4⟩, ⟨v5, v6, v7, v8, v9⟩, v10, v11, v12, v13⟩ := boxF_cells x7
  obtain ⟨Y0, Y1, Y2, Y3, Y4⟩ := boxT_cells X5
  obtain ⟨Z0, Z1, Z2, Z3, Z4⟩ := boxT_cells X6
  have eLen : (t.rows ++ [none]).length = m + 1 := by rw [List.length_append, HM.out]; rfl
  replace d1 : W3.cell? ⟨T, 1, none⟩ = some (.slice (some ⟨g, 0, none⟩) (m + 1) cap) := by rw [← eLen]; exact d1
  obtain ⟨hcg, hcg2⟩ := k3.cap
  replace hcg : m + 1 ≤ cap := by rw [← eLen]; exact hcg
  have hcgI : (m : Int) + 1 ≤ (cap : Int) := by omega
  have hmI : (m : Int) < (m : Int) + 1 := by omega
  have hmI2 : (m : Int) < ((m + 1 : Nat) : Int) := by omega
  have hmI3 : m < m + 1 := by omega
  have hmI4 : 0 ≤ (m : Int) := by omega
  have HW4 := Lib.hid hW4
  have lMA := hlow MA hMT.2.2.1
  have lMB := hlow MB hMT.2.2.2
  have hap := HK1.out.apart.1
  have z4 : W3.heap.size ≤ W4.heap.size := o4.size
  have z3 := o3.size
  have F4 : SF T MA MB w.heap.size (w.heap.size + 1) a b W4.drew := ⟨d3, d4, boxT_cells X5, boxT_cells X6⟩
  have z4d : W4.drew.heap.size = W4.heap.size := rfl
  have F5 := F4.of ga1 ⟨hap.2.1, by omega⟩ ⟨by omega, by omega⟩ ⟨by omega, by omega⟩
  have F6 := F4.of ga2 ⟨hap.2.1, by omega⟩ ⟨by omega, by omega⟩ ⟨by omega, by omega⟩
  have z6 := ga2.size
  have F7 := F6.of gb1 ⟨hap.2.2.1, by omega⟩ ⟨by omega, by omega⟩ ⟨by omega, by omega⟩
  have F8 := F6.of gb2 ⟨hap.2.2.1, by omega⟩ ⟨by omega, by omega⟩ ⟨by omega, by omega⟩
  have HF4 := Lib.hid F4
  have HF5 := Lib.hid F5
  have HF6 := Lib.hid F6
  have HF7 := Lib.hid F7
  have HF8 := Lib.hid F8
  unfold Tup.v at ra1 rb1
  rw [hW3]
  clear F4 F5 F6 F7 F8 z3 z4 z4d z6 lMA lMB hap ga1 ga2 gb1 gb2 k3 o3 hS3 hbox hrm hdr3 k3d k4 o4 hW4 hgw hset hdr4 k4d k5 o5 k6 o6 hnB6 hkA hatA hMT HGR hbA hwA x5 x6 x7 X5 X6 hW3 e25 hlow lT lR s0 s1 sA sG c1' f1' c0 c2 c3 c4 C5 hcg hcg2 eLen
  refine reg_tail 10 (by kernel_rfl) (by kernel_rfl) ?_
  simp only [List.take_succ_cons, List.take_zero, List.drop_succ_cons, List.drop_zero]
  repeat still_step
  refine wpStill_nil ?_
  go_upto_region 12 with (refine wpList_store_mid rfl 144 _ _ rfl g (m * 25) (roC (some ⟨a, b, v⟩)).toArray rfl rfl HTH.out HIN.out HON.out ?_)
  refine wp_world W4 HW4.out ?_
  have HF4' := Lib.hid HF4.out
  obtain ⟨g3, g4, ⟨g50, g51, g52, g53, g54⟩, g60, g61, g62, g63, g64⟩ := HF4'.out
  clear d1 d3 d4 y0 y1 y2 y3 y4 z0 z1 z2 z3 z4 v0 v1 v2 v3 v4 v5 v6 v7 v8 v9 v10 v11 v12 v13 Y0 Y1 Y2 Y3 Y4 Z0 Z1 Z2 Z3 Z4 HF4'
  go_region_held3 (fun W : World => ((W.cell? ⟨T, 3, none⟩ = some (.map (some MA)) ∧ W.cell? ⟨T, 4, none⟩ = some (.map (some MB))) ∧ (W.cell? ⟨w.heap.size, 0, none⟩ = some (.int .i64 a.p) ∧ W.cell? ⟨w.heap.size, 1, none⟩ = some (.int .u32 a.s) ∧ W.cell? ⟨w.heap.size, 2, none⟩ = some (.int .u32 a.d) ∧ W.cell? ⟨w.heap.size, 3, none⟩ = some (.int .i64 a.x) ∧ W.cell? ⟨w.heap.size, 4, none⟩ = some (.int .i64 a.y)) ∧ (W.cell? ⟨w.heap.size + 1, 0, none⟩ = some (.int .i64 b.p) ∧ W.cell? ⟨w.heap.size + 1, 1, none⟩ = some (.int .u32 b.s) ∧ W.cell? ⟨w.heap.size + 1, 2, none⟩ = some (.int .u32 b.d) ∧ W.cell? ⟨w.heap.size + 1, 3, none⟩ = some (.int .i64 b.x) ∧ W.cell? ⟨w.heap.size + 1, 4, none⟩ = some (.int .i64 b.y)))) ((first | exact SF.all HF4.out | exact SF.all HF5.out | exact SF.all HF6.out | exact SF.all HF7.out | exact SF.all HF8.out)) (fail)
  all_goals
    go_wp2_with fail
    go_ret2
    exact ⟨rfl, by have h9 := HFIN.out; rw [HV2.out] at h9; exact h9⟩
end
end Go.Proofs.YtpbknbnhljjjcaaDoor

namespace Go.Proofs.YtpbknbnhljjjcaaDoor
open Go.RowKit Go.Maps Go.Lib

theorem made_one : madeCells (roC none).toArray 25 = (roC none).toArray := by kernel_rfl
def tb0 : Tb := ⟨[none], [], fun _ => none, fun _ => none, 0⟩
set_option maxRecDepth 100000 in
set_option maxHeartbeats 1000000 in
theorem tab_bad (r : Int) (hr : r < 1 ∨ 65536 < r) (w : World) : Calls Tryd.prog 27 #[.int .i64 r] w fun e w' => e = .returned (.tuple #[.pointer none, .int .i64 1]) ∧ w' = w := by
  by_cases h1 : r < 1
  · clear hr
    go_enter Tryd.func27, Tryd.ntmps27
    go_wp2_with fail
    go_ret2
    exact ⟨rfl, rfl⟩
  · have h2 : 65536 < r := by omega
    clear hr
    go_enter Tryd.func27, Tryd.ntmps27
    go_wp2_with fail
    go_ret2
    exact ⟨rfl, rfl⟩
set_option maxRecDepth 100000 in
set_option maxHeartbeats 2000000 in
theorem tab_new (r : Nat) (h1 : 1 ≤ r) (h2 : r ≤ 65536) (w : World) :
    Calls Tryd.prog 27 #[.int .i64 (r : Int)] w fun e w' => e = .returned (.tuple #[.pointer (some ⟨w.heap.size + 3, 0, none⟩), .int .i64 0]) ∧ TabIn (fun i => w.heap.size ≤ i ∧ i < w.heap.size + 4) (w.heap.size + 3) w.heap.size 1 (w.heap.size + 1) (w.heap.size + 2) 0 r (.slice none 0 0) tb0 w' ∧ Below w.heap.size w w' := by
  obtain ⟨i0, hi, hz0, hz1, hz2⟩ := info_parts' info_row
  have hmk0 : ∀ W, (Instr.makeSlice 101 (.int .i64 1) (.int .i64 1)).run Tryd.prog W = .ok (.slice (some ⟨W.heap.size, 0, none⟩) 1 1) (W.alloc (.cells (roC none).toArray 144)) := fun W => by
    have hmk := run_makeSlice (P := Tryd.prog) W 101 144 i0 (.agg (roC none).toArray) Tryd.underlying101 hi hz0 .i64 .i64 1 1 (by omega) (by omega) (by rw [hz1]; omega) (by rw [hz2]; omega) (by omega)
    have e1 : madeCells (Value.agg (roC none).toArray).cells 25 = (roC none).toArray := made_one
    have e2 : ((1 : Int).toNat) = 1 := rfl
    rw [hz1, e2, Nat.one_mul, e1] at hmk
    exact hmk
  have hmm := @run_makeMap Tryd.prog
  have g1 : ¬ (r : Int) < 1 := by omega
  have g2 : ¬ 65536 < (r : Int) := by omega
  have HX := Lib.hid (And.intro h1 h2)
  clear hi hz0 hz1 hz2 h1 h2
  obtain ⟨zc, hzc⟩ : ∃ zc, (roC none).toArray = zc := ⟨_, rfl⟩
  have HZC := Lib.hid hzc
  rw [hzc] at hmk0
  clear hzc
  go_enter Tryd.func27, Tryd.ntmps27
  go_wp2_with fail
  go_ret2
  have hs1 : (w.alloc (.cells zc 144)).heap.size = w.heap.size + 1 := by simp
  have hs2 : ((w.alloc (.cells zc 144)).alloc (.map #[] 0)).heap.size = w.heap.size + 2 := by simp
  have hs3 : (((w.alloc (.cells zc 144)).alloc (.map #[] 0)).alloc (.map #[] 0)).heap.size = w.heap.size + 3 := by simp
  have m1 := MapG.made kT (w.alloc (.cells zc 144))
  have m2 := MapG.made kT ((w.alloc (.cells zc 144)).alloc (.map #[] 0))
  rw [hs1] at m1
  rw [hs2] at m2
  obtain ⟨o, ho⟩ : ∃ o, Obj.cells #[.int .i64 (r : Int), .slice (some ⟨w.heap.size, 0, none⟩) 1 1, .slice none 0 0, .map (some (w.heap.size + 1)), .map (some (w.heap.size + 1 + 1))] 104 = o := ⟨_, rfl⟩
  rw [ho]
  have q1 := heap_alloc_new w (.cells zc 144)
  have q4 := heap_alloc_new (((w.alloc (.cells zc 144)).alloc (.map #[] 0)).alloc (.map #[] 0)) o
  rw [hs3] at q4
  have k1 : ∀ (W : World) (ob : Obj) (i : Nat), i < W.heap.size → (W.alloc ob).heap[i]? = W.heap[i]? := fun W ob i hi => Below.heap_alloc _ _ _ hi
  refine ⟨rfl, ⟨?_, ?_, World.ownsRow_nil _ _ _ _, (m1.block ((k1 _ _ _ (by omega)).trans (k1 _ _ _ (by omega)))).ext (fun _ _ => rfl), (m2.block (k1 _ _ _ (by omega))).ext (fun _ _ => rfl), ⟨⟨by omega, by omega, by omega, by omega⟩, fun g e => by cases e⟩, ⟨⟨by omega, by omega, by omega, by omega, by omega, by omega⟩, fun g e => by cases e⟩, fun i hi => ?_⟩, ?_⟩
  · rw [q4, ← ho]
    rfl
  · refine ⟨by rw [rowsR_len], .inr ⟨w.heap.size, 1, zc, rfl, Nat.zero_le _, ?_, by decide, by unfold maxLen; decide, by rw [← HZC.out]; rfl, ?_⟩⟩
    · exact (k1 _ _ _ (by omega)).trans ((k1 _ _ _ (by omega)).trans ((k1 _ _ _ (by omega)).trans q1))
    · rw [← HZC.out]
      rfl
  · have := hi.2
    simp
    omega
  · exact ((((Below.refl _ w).alloc (Nat.le_refl _) _).alloc (by omega) _).alloc (by omega) _).alloc (by omega) _
end Go.Proofs.YtpbknbnhljjjcaaDoor
