import Derived.Test.YtaeiaoldlebhaaaDoorY2
namespace Go.Proofs.YtaeiaoldlebhaaaDoor
open Go.RowKit Go.Shelf Go.Maps Go.Lib

def vlen : Value → Nat
  | .slice _ n _ => n
  | _ => 0
section
variable {X c now : Nat} {A : Option Addr} {l : List Ent} {w : World}
set_option maxRecDepth 100000 in
set_option maxHeartbeats 1000000 in
theorem ref60_back (h : RefT X A c now l w) (a : Int) (ha : a < (now : Int)) :
    Calls Tryd.prog 60 #[.pointer (some ⟨X, 0, none⟩), .int .i64 a] w fun e w' => e = .returned (.slice none 0 0) ∧ w' = w := by
  obtain ⟨b0, b1, f0, f1⟩ := h.cells
  clear h
  go_enter Tryd.func60, Tryd.ntmps60
  go_wp2_with fail
  go_ret
  exact ⟨rfl, rfl⟩
/-- What the loop of the reference's Advance keeps. -/
structure RadvI (X te : Nat) (A : Option Addr) (l : List Ent) (w : World) (v : Value) (p q : List Ent) (Aq : Option Addr) (cq : Nat) (wr : World) : Prop where
  eq : l = p ++ q
  le : ∀ x ∈ p, x.due ≤ te
  row : wr.ownsRow w.heap.size 3 1 v p.length (keysC p)
  ref : RefT X Aq cq te q wr
  grown : w.grownBy wr (some X)
  same : ∀ g off, Aq = some ⟨g, off, none⟩ → ∃ off0, A = some ⟨g, off0, none⟩
theorem RadvI.drewN {te : Nat} {v : Value} {p q : List Ent} {Aq : Option Addr} {cq : Nat} {wr : World} (h : RadvI X te A l w v p q Aq cq wr) (n : Nat) : RadvI X te A l w v p q Aq cq (wr.drewN n) :=
  ⟨h.eq, h.le, h.row, ⟨h.ref.box, h.ref.row, h.ref.ne⟩, ⟨h.grown.os, h.grown.tape, h.grown.output, h.grown.size, h.grown.block⟩, h.same⟩
theorem radv_step {te m m2 g off cq : Nat} {v v5 : Value} {p q : List Ent} {x : Ent} {wd w5 : World} {o : Obj} (hX : X < w.heap.size) (hA : ∀ g off, A = some ⟨g, off, none⟩ → l ≠ [] → g < w.heap.size) (h : RadvI X te A l w v p (x :: q) (some ⟨g, off, none⟩) cq wd) (hd : x.due ≤ te) (hp : p.length = m) (hq : q.length = m2)
    (hown : w5.ownsRow w.heap.size 3 1 v5 (m + 1) (keysC p ++ [.int .i64 x.key])) (hg : (wd.alloc o).grownBy w5 v.ownBlock) :
    RadvI X te A l w v5 (p ++ [x]) q (if cq = 1 then some ⟨g, off, none⟩ else some ⟨g, off + 2, none⟩) (cq - 1) (w5.setCell ⟨X, 1, none⟩ (.slice (if cq = 1 then some ⟨g, off, none⟩ else some ⟨g, off + 2, none⟩) m2 (cq - 1))) := by
  have hXd := h.ref.lt
  have hsz := h.grown.size
  have hvl : ∀ b, v.ownBlock = some b → w.heap.size ≤ b := fun b e => (h.row.lt b e).1
  have hX5 := (hg.block X (by simp; omega) (fun e => by have := hvl X e.symm; omega)).trans ((Below.heap_alloc wd o X hXd).trans h.ref.box)
  have hne : l ≠ [] := fun e => by have := congrArg List.length h.eq; rw [e] at this; simp at this
  obtain ⟨off0, hA0⟩ := h.same g off rfl
  have hgw := hA g off0 hA0 hne
  obtain ⟨g', off', e', hgd, _, _⟩ := h.ref.row.at (i := 0) rfl
  cases e'
  have hgX := h.ref.ne g off rfl
  have hkeep : ∀ i, i < wd.heap.size → i ≠ X → v.ownBlock ≠ some i → (w5.setCell ⟨X, 1, none⟩ (.slice (if cq = 1 then some ⟨g, off, none⟩ else some ⟨g, off + 2, none⟩) m2 (cq - 1))).heap[i]? = wd.heap[i]? := fun i hi hne2 hv => by
    rw [Below.heap_setCell _ _ _ _ hne2, hg.block i (by simp; omega) (fun e => hv e.symm)]
    exact Below.heap_alloc _ _ _ hi
  have hs5 : wd.heap.size ≤ (w5.setCell ⟨X, 1, none⟩ (.slice (if cq = 1 then some ⟨g, off, none⟩ else some ⟨g, off + 2, none⟩) m2 (cq - 1))).heap.size := by
    have := hg.size
    simp [World.setCell] at this ⊢
    omega
  have hcb := h.ref.row.1
  simp only [List.length_cons] at hcb
  refine ⟨by rw [h.eq]; simp, fun y hy => ?_, ?_, ⟨?_, ⟨by omega, by have := h.ref.row.2.1; omega, ?_⟩, fun g1 off1 e => ?_⟩, ⟨hg.os.trans h.grown.os, hg.tape.trans h.grown.tape, hg.output.trans h.grown.output, Nat.le_trans hsz hs5, fun i hi hne2 => ?_⟩, fun g1 off1 e => ?_⟩
  · rcases List.mem_append.1 hy with hy | hy
    · exact h.le y hy
    · simp at hy; subst hy; exact hd
  · rw [List.length_append, hp]
    have e5 : keysC (p ++ [x]) = keysC p ++ [.int .i64 x.key] := by unfold keysC; rw [List.map_append]; rfl
    rw [e5]
    exact ownsRow_kept hown (fun b e => Below.heap_setCell _ _ _ _ (fun e2 => by have := (hown.lt b e).1; have e2 : b = X := e2; omega))
  · rw [hq]
    simp [World.setCell, Array.getElem?_modify, hX5]
  · cases q with
    | nil => exact .inl rfl
    | cons y q =>
      have hc1 : cq ≠ 1 := by simp at hcb; omega
      have hk := hkeep g hgd hgX (fun e => by have := hvl g e; omega)
      have hgs := Nat.lt_of_lt_of_le hgd hs5
      rw [if_neg hc1] at hk hgs ⊢
      rcases h.ref.row.2.2 with e | ⟨g', off', e', _, hc⟩
      · cases e
      · cases e'
        refine .inr ⟨g, off + 2, rfl, hgs, fun j u hu => ?_⟩
        have h2 := hc (j + 2) u (by
          show (rowE x ++ rowsE (y :: q))[j + 2]? = _
          rw [List.getElem?_append_right (by simp [rowE])]
          simpa [rowE] using hu)
        rw [show off + 2 + j = off + (j + 2) from by omega, ← h2]
        exact World.cell?_of_block hk
  · split at e <;> (cases e; exact hgX)
  · rw [hkeep i (by omega) (fun e => hne2 (by rw [e])) (fun e => by have := hvl i e; omega)]
    exact h.grown.block i hi hne2
  · split at e <;> (cases e; exact ⟨off0, hA0⟩)
set_option maxRecDepth 100000 in
set_option maxHeartbeats 4000000 in
theorem ref60 (h : RefT X A c now l w) (hup : Up l) (hlen : l.length < 1099511627776) (a : Int) (ha : ¬ a < (now : Int)) (te : Nat) (hte : min a 1099511627776 = (te : Int)) :
    Calls Tryd.prog 60 #[.pointer (some ⟨X, 0, none⟩), .int .i64 a] w fun e w' => ∃ v, e = .returned v ∧ w'.ownsRow w.heap.size 3 1 v (upTil te l).length (keysC (upTil te l)) ∧ RefTurn X te A (past te l) w w' := by
  obtain ⟨b0, b1, f0, f1⟩ := h.cells
  have hX := h.lt
  have hs0 : RadvI X te A l w (.slice none 0 0) [] l A c (w.setCell ⟨X, 0, none⟩ (.int .i64 (te : Int))) := by
    refine ⟨rfl, (fun x hx => by cases hx), World.ownsRow_nil _ _ _ _, ⟨?_, h.row.kept (fun g off e _ => Below.heap_setCell _ _ _ _ (h.ne g off e)) (by simp [World.setCell]), h.ne⟩, ⟨rfl, rfl, rfl, by simp [World.setCell], fun i _ hne => Below.heap_setCell _ _ _ _ (fun e => hne (by rw [e]))⟩, fun g off e => ⟨off, e⟩⟩
    simp [World.setCell, Array.getElem?_modify, h.box]
  have HS := Lib.hid hs0
  have HXL := Lib.hid hX
  have HA0 := Lib.hid (show ∀ g off, A = some ⟨g, off, none⟩ → l ≠ [] → g < w.heap.size from fun g off e hne => by
    rcases h.row.2.2 with e1 | ⟨g1, off1, e1, hg1, _⟩
    · exact (hne e1).elim
    · rw [e] at e1
      cases e1
      exact hg1)
  have HU := Lib.hid hup
  obtain ⟨i0, hi, hz0, hz1, hz2⟩ := info_parts Tryd.info3
  have HI := Lib.hid (And.intro hi (And.intro hz0 (And.intro hz1 hz2)))
  clear h hs0 hup hi hz0 hz1 hz2
  go_enter Tryd.func60, Tryd.ntmps60
  go_wp2_with fail
  go_loopw [5] (fun v wr => ∃ p q Aq cq, RadvI X te A l w v p q Aq cq wr) (fun v _ => l.length - vlen v)
  case atStart => exact ⟨[], l, A, c, HS.out⟩
  case round =>
    obtain ⟨p, q, Aq, cq, hI⟩ := hrel
    clear b0 b1 f0 f1
    obtain ⟨b0, b1, f0, f1⟩ := hI.ref.cells
    have HIV := Lib.hid hI
    have hcb := hI.ref.row.1
    have hcm := hI.ref.row.2.1
    unfold maxLen at hcm
    obtain ⟨pv, cv, rfl, hcv, hcv2⟩ := row_form hI.row
    have hpl : p.length < 1099511627776 := by have := congrArg List.length hI.eq; simp at this; omega
    obtain ⟨m, hm⟩ : ∃ m, p.length = m := ⟨_, rfl⟩
    have HM := Lib.hid hm
    rw [hm] at hpl hcv ⊢
    clear hI hm
    cases q with
    | nil =>
      have b1 : wr.cell? ⟨X, 1, none⟩ = some (.slice Aq 0 cq) := b1
      go_wp2_with fail
      go_quiet (fail)
      have hI := HIV.out.drewN nq
      go_wp2_with fail
      go_ret
      have he : l = p := by rw [hI.eq]; simp
      have hle : ∀ x ∈ l, x.due ≤ te := by rw [he]; exact hI.le
      rw [upTil_all hle, past_none hle]
      exact ⟨_, rfl, by rw [he, HM.out]; have := hI.row; rwa [HM.out] at this, Aq, cq, hI.ref, hI.grown, fun g off e => .inl (hI.same g off e)⟩
    | cons x q =>
      obtain ⟨xk, xd, xo⟩ := x
      obtain ⟨m2, hm2⟩ : ∃ m2, q.length = m2 := ⟨_, rfl⟩
      have HM2 := Lib.hid hm2
      have b1 : wr.cell? ⟨X, 1, none⟩ = some (.slice Aq (m2 + 1) cq) := by rw [← hm2]; exact b1
      obtain ⟨g, off, rfl, hg, c0, c1⟩ := HIV.out.ref.row.at (i := 0) rfl
      dsimp only at c0 c1
      rw [Nat.zero_mul, Nat.add_zero] at c0 c1
      have hcb2 : m2 + 1 ≤ cq := by simpa [hm2] using hcb
      have hcb3 : ((m2 : Int) + 1) ≤ (cq : Int) := by omega
      have hcb4 : (cq : Int) ≤ 9223372036854775807 := by omega
      have hcb5 : (0 : Int) < (cq : Int) := by omega
      clear hm2 hcb
      by_cases hd : xd ≤ te
      · have hdI : (xd : Int) ≤ (te : Int) := by omega
        have hdd : decide ((xd : Int) ≤ (te : Int)) = true := decide_eq_true hdI
        have hdn : decide (xd ≤ te) = true := decide_eq_true hd
        go_wp2_with fail
        go_quiet (fail)
        have HIW := Lib.hid (show RadvI X te A l w (.slice pv m cv) p (⟨xk, xd, xo⟩ :: q) (some ⟨g, off, none⟩) cq (wr.drewN nq) from by rw [← HM.out]; exact HIV.out.drewN nq)
        obtain ⟨wd, hwd⟩ : ∃ wd, wr.drewN nq = wd := ⟨_, rfl⟩
        rw [hwd] at HIW
        rw [hwd]
        obtain ⟨b0, b1, f0, f1⟩ := HIW.out.ref.cells
        have b1 : wd.cell? ⟨X, 1, none⟩ = some (.slice (some ⟨g, off, none⟩) (m2 + 1) cq) := by rw [← HM2.out]; exact b1
        obtain ⟨g', off', e', _, c0, c1⟩ := HIW.out.ref.row.at (i := 0) rfl
        cases e'
        dsimp only at c0 c1
        rw [Nat.zero_mul, Nat.add_zero] at c0 c1
        have hsw : w.heap.size ≤ wd.heap.size := HIW.out.grown.size
        have HROW := Lib.hid (show wd.ownsRow w.heap.size 3 1 (.slice pv m cv) m (keysC p) from by have := HIW.out.row; rwa [HM.out] at this)
        have HNEW := Lib.hid (heap_alloc_new wd (.cells #[.int .i64 xk] 3))
        have hXd := HIW.out.ref.lt
        have HBX := Lib.hid HIW.out.ref.box
        clear hwd
        go_wp2_with (at_builtin; go_must (refine wpList_append_lies _ rfl _ _ 30 (by rfl) w.heap.size 3 i0 (.int .i64 0) 1 8 Tryd.underlying30 HI.out.1 HI.out.2.1 HI.out.2.2.1 HI.out.2.2.2 (by rfl) (by decide) _ m _ (by rfl) (HROW.out.alloc _) ⟨wd.heap.size, 0, none⟩ 1 1 [.int .i64 xk] (by rfl) rfl (World.news_of_block HNEW.out) (by simp [Value.oneCell']) (by decide) (by unfold maxLen; omega) (by omega) (by simp; omega) _ rfl ?_); intro g5 cap5 w5 hown5 hg5 hat5 hlt5; have hX5 := (hg5.block X (by simp; omega) (fun e => by have := (HROW.out.lt X e.symm).1; omega)).trans ((Below.heap_alloc wd _ X hXd).trans HBX.out); clear b0 b1 f0 f1; have b1 : w5.cell? ⟨X, 1, none⟩ = some (.slice (some ⟨g, off, none⟩) (m2 + 1) cq) := (by rw [← HM2.out]; simp [World.cell?, hX5]); have f1 : w5.frozen? ⟨X, 1, none⟩ = false := (by simp [World.frozen?, hX5]); have HX5 := Lib.hid hX5; have HO5 := Lib.hid hown5; have HG5 := Lib.hid hg5; clear hX5 hown5 hg5 hat5)
        refine ⟨⟨p ++ [⟨xk, xd, xo⟩], q, _, _, radv_step HXL.out HA0.out HIW.out hd HM.out HM2.out HO5.out HG5.out⟩, ?_⟩
        have h1 := congrArg List.length HIW.out.eq
        have h2 := HM.out
        simp only [vlen]
        simp at h1
        omega
      · have hdI : ¬ (xd : Int) ≤ (te : Int) := by omega
        have hdd : decide ((xd : Int) ≤ (te : Int)) = false := decide_eq_false hdI
        have hdn : decide (xd ≤ te) = false := decide_eq_false hd
        go_wp2_with fail
        go_quiet (fail)
        have hI := HIV.out.drewN nq
        go_wp2_with fail
        go_ret
        have hgt : ∀ y ∈ (⟨xk, xd, xo⟩ :: q : List Ent), te < y.due := fun y hy => by
          rcases List.mem_cons.1 hy with rfl | hy
          · dsimp only; omega
          · have h1 : Up (p ++ ⟨xk, xd, xo⟩ :: q) := by rw [← hI.eq]; exact HU.out
            have h2 := (List.pairwise_cons.1 (List.pairwise_append.1 h1).2.1).1 y hy
            have := Ent.lt_due h2
            dsimp only at this
            omega
        obtain ⟨e1, e2⟩ := split_of hI.le hgt
        rw [hI.eq, e1, e2]
        exact ⟨_, rfl, by rw [HM.out]; have := hI.row; rwa [HM.out] at this, _, cq, hI.ref, hI.grown, fun g off e => .inl (hI.same g off e)⟩
end
end Go.Proofs.YtaeiaoldlebhaaaDoor
