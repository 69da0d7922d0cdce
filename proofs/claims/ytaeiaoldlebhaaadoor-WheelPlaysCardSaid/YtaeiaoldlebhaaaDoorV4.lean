import Derived.Test.YtaeiaoldlebhaaaDoorV3
import Derived.Test.YtaeiaoldlebhaaaDoorX2
import Derived.Deep.CutRange
import Derived.Deep.CutBlock
import Derived.Deep.QuietTactic
import Derived.BigQuiet
namespace Go.Proofs.YtaeiaoldlebhaaaDoor
open Go.RowKit Go.Shelf Go.Maps Go.Lib
attribute [local go_sem] Oper.semAt_some

/-- What a body that never panics must achieve, marks and all. -/
def endsP (fn : Func) (R : Ending → World → Prop) : Exit → Act → World → Prop
  | .normal, a, w | .ret, a, w => LeavesInM Fence.wide 9 Tryd.prog fn a.tmps R a.defers .returning w
  | _, _, _ => False
theorem calls_of_endsP {f : FuncId} {fn : Func} {c : Code} {args : Array Value} {w : World} {R : Ending → World → Prop} (hf : Tryd.prog.funcs[f]? = some fn) (hb : fn.body = some c)
    (h : c.wp Tryd.prog (endsP fn R) { tmps := args ++ Array.replicate (fn.ntmps - args.size) undef, defers := [] } w) : Calls Tryd.prog f args w R :=
  (callsIn_wide (n := 9)).1 (callsIn_of_wp_marks hf hb trivial (wpIn_wide.2 (wp_mono h (fun e a w hq => by cases e <;> first | exact hq | exact hq.elim))) rfl)
theorem wpIn_genP {F : Fence} {n : Nat} {P : Program} {c : Code} {Q : Exit → Act → World → Prop} {a : Act} (w : World) (h : ∀ W, W = w → c.wpIn F n P Q a W) : c.wpIn F n P Q a w := h w rfl
theorem wpIn_genA {F : Fence} {n : Nat} {P : Program} {c : Code} {Q : Exit → Act → World → Prop} {w : World} (a : Act) (h : ∀ A, A = a → c.wpIn F n P Q A w) : c.wpIn F n P Q a w := h a rfl
theorem box_cell {w : World} {b : Nat} {v : Value} {t : TypeId} (h : w.heap[b]? = some (.cells #[v] t (0, 0))) : w.cell? ⟨b, 0, none⟩ = some v ∧ w.frozen? ⟨b, 0, none⟩ = false := by
  constructor <;> simp [World.cell?, World.frozen?, h]
theorem box_set {w : World} {b : Nat} {v : Value} {t : TypeId} (h : w.heap[b]? = some (.cells #[v] t (0, 0))) (u : Value) : (w.setCell ⟨b, 0, none⟩ u).heap[b]? = some (.cells #[u] t (0, 0)) := by
  simp [World.setCell, Array.getElem?_modify, h]
theorem set_else (w : World) (b : Nat) (u : Value) {k : Nat} (h : k ≠ b) : (w.setCell ⟨b, 0, none⟩ u).heap[k]? = w.heap[k]? := Below.heap_setCell _ _ _ _ h
theorem set_size (w : World) (b : Nat) (u : Value) : (w.setCell ⟨b, 0, none⟩ u).heap.size = w.heap.size := by simp [World.setCell]

theorem keepsFrom_below {B : Nat} {W W' : World} (h : Below W.heap.size W W') : KeepsFrom B W W' := ⟨h.size, fun k _ _ hk _ => (h.block k (Array.getElem?_eq_some_iff.1 hk).1).trans hk⟩
/-- What the loop of WheelLeaves keeps. -/
structure LvI (w w2 : World) (S : Nat → Prop) (b3 b6 b9 b10 W n : Nat) (pre : List Ent) (X : World) : Prop where
  wheel : ∀ i, S i → X.heap[i]? = w2.heap[i]?
  size : w2.heap.size ≤ X.heap.size
  box3 : X.heap[b3]? = some (.cells #[.int .u8 (n : Int)] 5 (0, 0))
  box6 : X.heap[b6]? = some (.cells #[.pointer (some ⟨W, 0, none⟩)] 24 (0, 0))
  row : ∃ v, X.heap[b9]? = some (.cells #[v] 30 (0, 0)) ∧ X.ownsRow w2.heap.size 3 1 v pre.length (keysC pre)
  box10 : X.heap[b10]? = some (.cells #[.int .i64 (lastDue pre : Int)] 3 (0, 0))
  below : Below w.heap.size w X
  le : pre.length ≤ n
/-- Where the loop's boxes lie. -/
structure LvB (w w2 : World) (S : Nat → Prop) (b3 b6 b9 b10 : Nat) : Prop where
  low : ∀ i, S i → i < w2.heap.size
  lt : b3 < w2.heap.size ∧ b6 < w2.heap.size ∧ b9 < w2.heap.size ∧ b10 < w2.heap.size
  ne : b3 ≠ b6 ∧ b3 ≠ b9 ∧ b3 ≠ b10 ∧ b6 ≠ b9 ∧ b6 ≠ b10 ∧ b9 ≠ b10
  off : ¬ S b3 ∧ ¬ S b6 ∧ ¬ S b9 ∧ ¬ S b10
  up : w.heap.size ≤ b3 ∧ w.heap.size ≤ b6 ∧ w.heap.size ≤ b9 ∧ w.heap.size ≤ b10
  ww : w.heap.size ≤ w2.heap.size
variable {w w2 : World} {S : Nat → Prop} {b3 b6 b9 b10 W n : Nat} {pre : List Ent} {X : World}
theorem LvI.own (hB : LvB w w2 S b3 b6 b9 b10) : OwnFrom w2.heap.size (fun pre X => LvI w w2 S b3 b6 b9 b10 W n pre X) := by
  intro pre X Y row h hg hr
  have hk : ∀ i, i < w2.heap.size → Y.heap[i]? = X.heap[i]? := fun i hi => hg.block i (Nat.lt_of_lt_of_le hi h.size) (fun e => by have := (hr i e.symm).1; omega)
  obtain ⟨v, h1, h2⟩ := h.row
  refine ⟨fun i hi => (hk i (hB.low i hi)).trans (h.wheel i hi), Nat.le_trans h.size hg.size, (hk _ hB.lt.1).trans h.box3, (hk _ hB.lt.2.1).trans h.box6, ⟨v, (hk _ hB.lt.2.2.1).trans h1, h2.kept hg ?_⟩, (hk _ hB.lt.2.2.2).trans h.box10,
    h.below.grown hg (by have := h.size; have := hB.ww; omega) (fun j e => by have := (hr j e).1; have := hB.ww; omega), h.le⟩
  rcases h2.2 with ⟨rfl, _⟩ | ⟨g, cap, cur, rfl, _, hgX, _⟩
  · exact .inl rfl
  · refine .inr (fun e => ?_)
    obtain ⟨_, o, ho, hc⟩ := hr g e.symm
    rw [hgX] at ho
    cases ho
    cases hc
theorem LvI.go (hB : LvB w w2 S b3 b6 b9 b10) (h : LvI w w2 S b3 b6 b9 b10 W n pre X) {Y : World} (hb : Below X.heap.size X Y) : LvI w w2 S b3 b6 b9 b10 W n pre Y :=
  LvI.own hB pre X Y none h ⟨hb.os, hb.tape, hb.output, hb.size, fun k hk _ => hb.block k hk⟩ (fun r e => by cases e)
/-- A round that goes on. -/
theorem LvI.round (hB : LvB w w2 S b3 b6 b9 b10) (h : LvI w w2 S b3 b6 b9 b10 W n pre X) {x : Ent} (hn : pre.length < n) {v : Value} (hv : X.heap[b9]? = some (.cells #[v] 30 (0, 0))) {m : Nat} {xs : List Value} (hrow : X.ownsRow w2.heap.size 3 1 v m xs) {X1 X4 : World} (hb : Below X.heap.size X X1) {o : Obj} {v' : Value}
    (hg : ((X1.setCell ⟨b10, 0, none⟩ (.int .i64 (x.due : Int))).alloc o).grownBy X4 v.ownBlock) (hr4 : X4.ownsRow w2.heap.size 3 1 v' (pre.length + 1) (keysC pre ++ [.int .i64 x.key])) :
    KeepsFrom w2.heap.size X (X4.setCell ⟨b9, 0, none⟩ v') ∧ KeepB (w2.heap.size + 2) 0 X (X4.setCell ⟨b9, 0, none⟩ v') ∧ LvI w w2 S b3 b6 b9 b10 W n (pre ++ [x]) (X4.setCell ⟨b9, 0, none⟩ v') := by
  have hsz1 := hb.size
  have hsz := h.size
  have hszs : ((X1.setCell ⟨b10, 0, none⟩ (.int .i64 (x.due : Int))).alloc o).heap.size = X1.heap.size + 1 := by rw [World.size_alloc, set_size]
  have hrowB : ∀ g, v.ownBlock = some g → w2.heap.size ≤ g ∧ IntRow (X.heap[g]?.getD default) ∧ ∀ u, X.heap[g]? = some u → IntRow u := fun g e => by
    rcases hrow.2 with ⟨rfl, _⟩ | ⟨g', cap, cur, rfl, h1, h2, _⟩
    · cases e
    · cases e
      refine ⟨h1, ?_, fun u hu => ?_⟩
      · rw [h2]; exact ⟨_, _, rfl⟩
      · rw [h2] at hu; cases hu; exact ⟨_, _, rfl⟩
  have hk : ∀ i, i < X.heap.size → i ≠ b9 → i ≠ b10 → v.ownBlock ≠ some i → (X4.setCell ⟨b9, 0, none⟩ v').heap[i]? = X.heap[i]? := fun i hi h9 h10 hv => by
    rw [set_else _ _ _ h9, hg.block i (by rw [hszs]; omega) (fun e => hv e.symm), Below.heap_alloc _ _ _ (by rw [set_size]; omega), set_else _ _ _ h10]
    exact hb.block i hi
  have hz : X.heap.size ≤ (X4.setCell ⟨b9, 0, none⟩ v').heap.size := by
    rw [set_size]
    have := hg.size
    rw [hszs] at this
    omega
  have hlow : ∀ i, i < w2.heap.size → v.ownBlock ≠ some i := fun i hi e => by have := (hrowB i e).1; omega
  refine ⟨⟨hz, fun k u hk2 hu hc => ?_⟩, ⟨hz, fun k u hk2 _ hu hni => ?_⟩, ?_⟩
  · have hkX := (Array.getElem?_eq_some_iff.1 hu).1
    refine (hk k hkX (fun e => by have := hB.lt; omega) (fun e => by have := hB.lt; omega) (fun e => ?_)).trans hu
    obtain ⟨c, r, e2⟩ := (hrowB k e).2.2 u hu
    subst e2
    cases hc
  · have hkX := (Array.getElem?_eq_some_iff.1 hu).1
    exact (hk k hkX (fun e => by have := hB.lt; omega) (fun e => by have := hB.lt; omega) (fun e => hni ((hrowB k e).2.2 u hu))).trans hu
  · refine ⟨fun i hi => ?_, by omega, ?_, ?_, ⟨v', ?_, ?_⟩, ?_, ?_, by rw [List.length_append]; exact hn⟩
    · have h1 := hB.low i hi
      exact (hk i (by omega) (fun e => hB.off.2.2.1 (e ▸ hi)) (fun e => hB.off.2.2.2 (e ▸ hi)) (hlow i h1)).trans (h.wheel i hi)
    · exact (hk b3 (by have := hB.lt; omega) hB.ne.2.1 hB.ne.2.2.1 (hlow _ hB.lt.1)).trans h.box3
    · exact (hk b6 (by have := hB.lt; omega) hB.ne.2.2.2.1 hB.ne.2.2.2.2.1 (hlow _ hB.lt.2.1)).trans h.box6
    · have e4 : X4.heap[b9]? = some (.cells #[v] 30 (0, 0)) := by
        rw [hg.block b9 (by rw [hszs]; have := hB.lt; omega) (fun e => hlow _ hB.lt.2.2.1 e.symm), Below.heap_alloc _ _ _ (by rw [set_size]; have := hB.lt; omega), set_else _ _ _ hB.ne.2.2.2.2.2, hb.block b9 (by have := hB.lt; omega)]
        exact hv
      exact box_set e4 v'
    · rw [List.length_append]
      have e5 : keysC (pre ++ [x]) = keysC pre ++ [.int .i64 x.key] := by unfold keysC; rw [List.map_append]; rfl
      rw [e5]
      refine ownsRow_kept hr4 (fun g e => set_else _ _ _ (fun e2 => ?_))
      have := (hr4.lt g e).1
      have := hB.lt
      omega
    · rw [lastDue_snoc]
      rw [set_else _ _ _ (fun e => hB.ne.2.2.2.2.2 e.symm), hg.block b10 (by rw [hszs]; have := hB.lt; omega) (fun e => hlow _ hB.lt.2.2.2 e.symm), Below.heap_alloc _ _ _ (by rw [set_size]; have := hB.lt; omega)]
      exact box_set ((hb.block b10 (by have := hB.lt; omega)).trans h.box10) _
    · have hw1 : Below w.heap.size w X1 := h.below.trans (hb.mono (by have := hB.ww; omega))
      have hw2 : Below w.heap.size w (X1.setCell ⟨b10, 0, none⟩ (.int .i64 (x.due : Int))) := hw1.setCell (p := ⟨b10, 0, none⟩) hB.up.2.2.2 _
      have hw3 := hw2.alloc (by rw [set_size]; have := hB.ww; omega) o
      exact (hw3.grown hg (by rw [hszs]; have := hB.ww; omega) (fun j e => by have := (hrowB j e).1; have := hB.ww; omega)).setCell (p := ⟨b9, 0, none⟩) hB.up.2.2.1 _
theorem leaves_row (hB : LvB w w2 S b3 b6 b9 b10) {v : Value} {m : Nat} {xs : List Value} (hrow : X.ownsRow w2.heap.size 3 1 v m xs) {X1 : World} (hb : Below X.heap.size X X1) (_ : w2.heap.size ≤ X.heap.size) (d : Nat) (u : Value) :
    ((X1.setCell ⟨b10, 0, none⟩ (.int .i64 (d : Int))).alloc (.cells #[u] 3)).ownsRow w2.heap.size 3 1 v m xs := by
  refine World.ownsRow.alloc (ownsRow_kept hrow (fun g e => ?_)) _
  have h1 := hrow.lt g e
  rw [set_else _ _ _ (fun e2 => by have := hB.lt; omega)]
  exact hb.block g h1.2
theorem leaves_new (X1 : World) (b d : Nat) (u : Value) : ((X1.setCell ⟨b, 0, none⟩ (.int .i64 (d : Int))).alloc (.cells #[u] 3)).heap[X1.heap.size]? = some (.cells #[u] 3 (0, 0)) := by
  have h := heap_alloc_new (X1.setCell ⟨b, 0, none⟩ (.int .i64 (d : Int))) (.cells #[u] 3)
  rwa [set_size] at h
theorem leaves_free (hB : LvB w w2 S b3 b6 b9 b10) {v : Value} (hv : X.heap[b9]? = some (.cells #[v] 30 (0, 0))) {m : Nat} {xs : List Value} (hrow : X.ownsRow w2.heap.size 3 1 v m xs) {X1 X4 : World} (hb : Below X.heap.size X X1) {d : Nat} {u : Value}
    (hg : ((X1.setCell ⟨b10, 0, none⟩ (.int .i64 (d : Int))).alloc (.cells #[u] 3)).grownBy X4 v.ownBlock) : X4.cell? ⟨b9, 0, none⟩ = some v ∧ X4.frozen? ⟨b9, 0, none⟩ = false := by
  have h1 := (Array.getElem?_eq_some_iff.1 hv).1
  have := hb.size
  have e4 : X4.heap[b9]? = some (.cells #[v] 30 (0, 0)) := by
    rw [hg.block b9 (by rw [World.size_alloc, set_size]; omega) (fun e => by have := (hrow.lt _ e.symm).1; have := hB.lt; omega), Below.heap_alloc _ _ _ (by rw [set_size]; omega), set_else _ _ _ hB.ne.2.2.2.2.2, hb.block b9 h1]
    exact hv
  exact box_cell e4
/-- The loop's beginning. -/
theorem LvI.start (h3 : w2.heap[b3]? = some (.cells #[.int .u8 (n : Int)] 5 (0, 0))) (h6 : w2.heap[b6]? = some (.cells #[.pointer (some ⟨W, 0, none⟩)] 24 (0, 0))) (h9 : w2.heap[b9]? = some (.cells #[.slice none 0 0] 30 (0, 0))) (h10 : w2.heap[b10]? = some (.cells #[.int .i64 0] 3 (0, 0))) (hb : Below w.heap.size w w2) :
    LvI w w2 S b3 b6 b9 b10 W n [] w2 :=
  ⟨fun _ _ => rfl, Nat.le_refl _, h3, h6, ⟨_, h9, World.ownsRow_nil _ _ _ _⟩, h10, hb, Nat.zero_le _⟩
/-- Behind the loop: the wheel, and what is none of its blocks. -/
theorem LvI.one {B now o : Nat} {L : List Ent} {D : Nat} {v : Value} {m : Nat} {xs : List Value} (hB : LvB w w2 S b3 b6 b9 b10) (h : LvI w w2 S b3 b6 b9 b10 W n pre X) (hWl : Whl S W now o L w2) (hSB : ∀ i, S i → B ≤ i) (hD : w2.heap.size ≤ D ∧ D < X.heap.size) (hrow : X.ownsRow w2.heap.size 3 1 v m xs) :
    OneW B W now o L (D :: b9 :: b3 :: b6 :: v.ownBlock.toList) X := by
  refine ⟨S, hWl.kept (fun b hb => h.wheel b hb) h.size, hSB, fun i hi => ?_⟩
  have hs := h.size
  have hl := hB.lt
  simp only [List.mem_cons] at hi
  rcases hi with rfl | rfl | rfl | rfl | hi
  · exact ⟨fun hS => by have := hB.low _ hS; omega, hD.2⟩
  · exact ⟨hB.off.2.2.1, by omega⟩
  · exact ⟨hB.off.1, by omega⟩
  · exact ⟨hB.off.2.1, by omega⟩
  · have e : v.ownBlock = some i := by simpa using hi
    have := hrow.lt i e
    exact ⟨fun hS => by have := hB.low _ hS; omega, this.2⟩
theorem rowI_cut {X : World} {base k n cap : Nat} {p : Option Addr} {xs : List Value} (h : X.ownsRow base 3 1 (.slice p n cap) n xs) (hk : k ≤ n) : X.ownsRow base 3 1 (.slice p k cap) k (xs.take k) := by
  obtain ⟨h1, h2⟩ := h
  rcases h2 with ⟨hv, h0⟩ | ⟨g, cap', cur, hv, hb, hg, hle, hm, hsz, htk⟩
  · cases hv
    obtain rfl : k = 0 := by omega
    exact World.ownsRow_nil _ _ _ _
  · cases hv
    refine ⟨by rw [List.length_take, h1]; omega, .inr ⟨g, cap, cur, rfl, hb, hg, by omega, hm, hsz, ?_⟩⟩
    rw [← htk, List.take_take]
    congr 1
    omega
theorem row_form {X : World} {base e k n : Nat} {v : Value} {xs : List Value} (h : X.ownsRow base e k v n xs) : ∃ p cap, v = .slice p n cap ∧ n ≤ cap ∧ (cap : Int) ≤ 9223372036854775807 := by
  rcases h.2 with ⟨rfl, h0⟩ | ⟨g, cap, cur, rfl, _, _, hle, hm, _⟩
  · have : n = 0 := h0
    subst this
    exact ⟨none, 0, rfl, Nat.le_refl _, by omega⟩
  · unfold maxLen at hm
    exact ⟨_, cap, rfl, hle, by omega⟩
theorem keysC_ints (D : List Ent) : keysC D = (D.map Ent.key).map fun x => .int .i64 x := by
  unfold keysC
  rw [List.map_map]
  rfl
theorem keysC_pre {p L : List Ent} (h : p <+: L) : (keysC L).take p.length = keysC p := by
  obtain ⟨q, rfl⟩ := h
  unfold keysC
  rw [List.map_append]
  exact List.take_left' (by rw [List.length_map])
/-- A row's first ones. -/
theorem row_slice {X : World} {base k n cap : Nat} {p : Option Addr} {xs : List Value} (h : X.ownsRow base 3 1 (.slice p n cap) n xs) (hk : k ≤ n) (W' : World) :
    (Instr.slice 30 (.slice p n cap) none (some (.int .i64 (k : Int))) none).run Tryd.prog W' = .ok (.slice p k cap) W' := by
  obtain ⟨_, h2⟩ := h
  rcases h2 with ⟨hv, h0⟩ | ⟨g, cap', cur, hv, hb, hg, hle, hm, _⟩
  · cases hv
    obtain rfl : k = 0 := by omega
    kernel_rfl
  · cases hv
    unfold maxLen at hm
    have h1 : (k : Int) ≤ (cap : Int) := by omega
    have h3 : (cap : Int) ≤ 9223372036854775807 := by omega
    have h4 : ¬ (k : Int) < 0 := by omega
    go_simp
end Go.Proofs.YtaeiaoldlebhaaaDoor
