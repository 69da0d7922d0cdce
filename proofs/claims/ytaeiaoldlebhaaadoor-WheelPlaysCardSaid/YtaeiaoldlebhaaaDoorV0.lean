import Derived.RangeFuncWrites
namespace Go.Proofs.YtaeiaoldlebhaaaDoor
open Go Go.RowKit

/-- An iterator's contract for callers whose invariants abide whatever turn of a later block that is no cells: an iterator that hands on what another one hands it has it, too. -/
def SeqOwn {α : Type} (F : Fence) (n : Nat) (P : Program) (g : Nat) (lb : Array Value) (encs : α → Array Value) (Kp : World → World → Prop) (S Sp : List α → Prop) (N : Nat) (w : World) : Prop :=
  ∀ (l : Nat) (J Jx : List α → World → Prop) (W : World), Below w.heap.size w W → w.heap.size + 2 ≤ W.heap.size → OwnFrom W.heap.size J → OwnFrom W.heap.size Jx →
    (∀ pre x W1, Sp (pre ++ [x]) → J pre W1 → pre.length < N → YieldAt F (n - 1) P l (encs x) W1 fun e W' =>
      (e = .returned (.bool true) ∧ J (pre ++ [x]) W' ∧ Kp W1 W') ∨ (e = .returned (.bool false) ∧ Jx (pre ++ [x]) W' ∧ Kp W1 W')) →
    J [] W →
    CallsIn F n P g (#[.func (.yield l) #[] #[]] ++ lb) W fun e W' => (∃ v, e = .returned v) ∧ ((∃ xs, S xs ∧ J xs W') ∨ (∃ pre, Sp pre ∧ Jx pre W'))

/-- A loop's two blocks: where the rounds' deferred calls go, and the record in a state. -/
def LoopAt (L : Nat) (r : Loop) (W : World) : Prop := W.heap[L + 1]? = some (.loop r) ∧ W.heap[L]? = some (.deferred (some []))
theorem LoopAt.turn {L : Nat} {r : Loop} {W W' : World} {row : Option Nat} (h : LoopAt L r W) (hg : W.grownBy W' row) (hr : ∀ j, row = some j → L + 2 ≤ j) : LoopAt L r W' := by
  have h1 := (Array.getElem?_eq_some_iff.1 h.1).1
  exact ⟨(hg.block _ h1 (fun e => by have := hr _ e.symm; omega)).trans h.1, (hg.block _ (by omega) (fun e => by have := hr _ e.symm; omega)).trans h.2⟩
theorem LoopAt.kept {L : Nat} {r : Loop} {W W' : World} (h : LoopAt L r W) (hk : KeepsFrom L W W') : LoopAt L r W' := ⟨hk.same _ _ (by omega) h.1 rfl, hk.same _ _ (Nat.le_refl _) h.2 rfl⟩
theorem LoopAt.put {L : Nat} {r : Loop} {W : World} (h : LoopAt L r W) (r' : Loop) : LoopAt L r' (W.putObj (L + 1) (.loop r')) :=
  ⟨World.putObj_heap_same (Array.getElem?_eq_some_iff.1 h.1).1, (World.putObj_heap_other (by omega)).trans h.2⟩
/-- How a round's body is left: its word is kept in every way. -/
def OwnEnd {α : Type} (L : Nat) (Kp : World → World → Prop) (I : List α → World → Prop) (Ix : Code → List α → World → Prop) (xs : List α) (W : World) : Exit → Act → World → Prop
  | .normal, _, W' => KeepsFrom L W W' ∧ Kp W W' ∧ I xs W'
  | .ret, _, W' => KeepsFrom L W W' ∧ Kp W W' ∧ Ix .ret xs W'
  | .exit id, _, W' => KeepsFrom L W W' ∧ Kp W W' ∧ Ix (.exit id) xs W'
  | .goto t, _, W' => KeepsFrom L W W' ∧ Kp W W' ∧ Ix (.goto t) xs W'
  | _, _, _ => False
variable {F : Fence} {n : Nat} {P : Program}
/-- The loop over such an iterator. -/
theorem range_own {α : Type} {g : Operand} {ps : Array Tmp} {assign body : Code} {Q : Exit → Act → World → Prop} {a : Act} {w : World}
    (hro : F.round = none) (h1 : 1 ≤ n) {gf : Nat} {lb : Array Value} (hg : a.eval g = .func (.func gf) #[] lb) (hFg : F.fn gf) (eg : ∀ args w, (callFunc gf args).run P w = .ok (.enter gf args) w)
    {encs : α → Array Value} {Kp : World → World → Prop} {S Sp : List α → Prop} {N : Nat} {w0 : World} (hseq : SeqOwn F (n - 1) P gf lb encs Kp S Sp N w0)
    (hKt : ∀ {A B C : World}, Kp A B → Kp B C → Kp A C) (hKb : ∀ (W : World) (o : Obj), Kp W (W.putObj (w.heap.size + 1) o)) (hb0 : Below w0.heap.size w0 w) (hps : ∀ x, (encs x).size = ps.size)
    (I : List α → World → Prop) (Ix : Code → List α → World → Prop) (hI : OwnFrom w.heap.size I) (hIx : ∀ c, OwnFrom w.heap.size (Ix c)) (h0 : I [] w) (Ax : α → Act → World → Prop) (hAx : ∀ x a', OwnFrom w.heap.size (fun (_ : Unit) W => Ax x a' W))
    (hassign : ∀ (l : Nat) (pre : List α) (x : α) (W : World) (K : Act → World → Prop), I pre W → (∀ a' W', KeepsFrom w.heap.size W W' → Kp W W' → I pre W' → Ax x a' W' → K a' W') →
      assign.wpIn (F.inRound l) (n - 1 - 1) P (Exit.then K (fun _ _ _ => False)) { tmps := (ps.zip (encs x)).foldl (fun t (p, v) => t.setIfInBounds p v) a.tmps, defers := [] } W)
    (hbody : ∀ (l : Nat) (pre : List α) (x : α) (a' : Act) (W : World), I pre W → Ax x a' W → w.heap.size + 1 < W.heap.size → pre.length < N → Sp (pre ++ [x]) → body.wpIn (F.inRound l) (n - 1 - 1) P (OwnEnd w.heap.size Kp I Ix (pre ++ [x]) W) a' W)
    (hdone : ∀ (xs : List α) (W : World), S xs → I xs W → W.heap[w.heap.size]? = some (.deferred (some [])) → Q .normal { a with defers := { target := .collected w.heap.size, args := #[] } :: a.defers } W)
    (hstop : ∀ (c : Code) (pre : List α) (W : World), Sp pre → Ix c pre W → W.heap[w.heap.size]? = some (.deferred (some [])) → c.wpIn F n P Q { a with defers := { target := .collected w.heap.size, args := #[] } :: a.defers } W) :
    (Code.rangeFunc g ps assign body).wpIn F n P Q a w := by
  refine wpIn_rangeFunc fun fn hfn => ?_
  rw [hro]
  obtain ⟨L, hL⟩ : ∃ L, w.heap.size = L := ⟨_, rfl⟩
  obtain ⟨R, hR⟩ : ∃ R : LoopState → Option Code → Loop, R = fun st pe => { state := st, pending := pe, fn, tmps := a.tmps, params := ps, assign, body, defers := L } := ⟨_, rfl⟩
  obtain ⟨Wl, hWl⟩ : ∃ Wl, (w.alloc (.deferred (some []))).alloc (.loop (R .ready none)) = Wl := ⟨_, rfl⟩
  have hsz : Wl.heap.size = L + 2 := by rw [← hWl, World.size_alloc, World.size_alloc, hL]
  have hrun := run_enterLoop_outer (P := P) (w := w) fn a.tmps ps assign body
  have hat : LoopAt L (R .ready none) Wl := by
    have e1 := World.alloc_heap_new w (.deferred (some []))
    have e2 := World.alloc_heap_new (w.alloc (.deferred (some []))) (.loop (R .ready none))
    rw [World.size_alloc, hL] at e2
    rw [hL] at e1
    rw [← hWl]
    exact ⟨e2, (Below.heap_alloc _ _ _ (by simp; omega)).trans e1⟩
  have hbel : Below w.heap.size w Wl := by rw [← hWl]; exact ((Below.refl _ w).alloc (Nat.le_refl _) _).alloc (by simp) _
  have hIl : I [] Wl := by rw [← hWl]; exact hI.alloc _ (hI.alloc _ h0)
  rw [hL] at hI hIx hAx hassign hbody hdone hstop hKb hrun
  have hrunR : (Instr.enterLoop fn a.tmps ps assign body none).run P w = .ok (L + 1, [{ target := .collected L, args := #[] }]) Wl := by rw [hrun, ← hWl, hR]
  refine ⟨L + 1, [{ target := .collected L, args := #[] }], Wl, { target := .fn (.func gf) lb, args := #[.func (.yield (L + 1)) #[] #[]] }, Wl, gf, #[.func (.yield (L + 1)) #[] #[]] ++ lb, Wl, hrunR, ?_, ?_, ?_, fun _ => h1, ?_⟩
  · simp only [resolve, hg]
    simp [go_sem]
  · intro f' hf'
    simp [Target.leads] at hf'
    subst hf'
    exact hFg
  · simp [invoke, go_sem, eg]
  · have hnc : ∀ {A : World} {row : Option Nat}, (∀ r, row = some r → Wl.heap.size ≤ r ∧ ∃ o : Obj, A.heap[r]? = some o ∧ o.isCells = false) → (∀ r, row = some r → L ≤ r ∧ ∃ o : Obj, A.heap[r]? = some o ∧ o.isCells = false) :=
      fun h r e => ⟨by have := (h r e).1; omega, (h r e).2⟩
    have hlo : ∀ {A : World} {row : Option Nat}, (∀ r, row = some r → Wl.heap.size ≤ r ∧ ∃ o : Obj, A.heap[r]? = some o ∧ o.isCells = false) → (∀ r, row = some r → L + 2 ≤ r) :=
      fun h r e => by have := (h r e).1; omega
    have hc := hseq (L + 1) (fun pre W => I pre W ∧ LoopAt L (R .ready none) W) (fun pre W => ∃ c, Ix c pre W ∧ LoopAt L (R .done (some c)) W) Wl (hb0.trans (hbel.mono hb0.size)) (by have := hb0.size; omega)
      (fun s A B row hs hg' hr => ⟨hI s A B row hs.1 hg' (hnc hr), hs.2.turn hg' (hlo hr)⟩)
      (fun s A B row hs hg' hr => by
        obtain ⟨c, h2, h3⟩ := hs
        exact ⟨c, hIx c s A B row h2 hg' (hnc hr), h3.turn hg' (hlo hr)⟩)
      (fun pre x W hsp hJ hlen => ?round) ⟨hIl, hat⟩
    case round =>
      obtain ⟨hi, hl⟩ := hJ
      have hps2 : (encs x).size = (R .ready none).params.size := by rw [hR]; exact hps x
      have hy := run_yield (P := P) (args := encs x) hl.1 hps2
      rw [hR] at hy
      refine ⟨fn, _, assign, body, hy, roundIn_of_wpIn hfn (hassign _ pre x W _ hi fun a' Wa hka hpa hia hax => ⟨_, run_beginRound (hl.kept hka).1 (by rw [hR]), ?_⟩)⟩
      have hla := hl.kept hka
      have hlt := (Array.getElem?_eq_some_iff.1 hla.1).1
      have hl2 : LoopAt L (R .busy none) (Wa.putObj (L + 1) (.loop (R .busy none))) := hla.put _
      have hi2 := hI.putObj (.loop (R .busy none)) hia (by omega) hla.1 rfl
      have hax2 := (hAx x a').putObj (s := ()) (.loop (R .busy none)) hax (by omega) hla.1 rfl
      have hbusy : ({ R .ready none with state := LoopState.busy } : Loop) = R .busy none := by rw [hR]
      rw [hbusy]
      have hbd := hbody (L + 1) pre x a' _ hi2 hax2 (by simp; omega) hlen hsp
      refine wpIn_mono hbd ?_
      have hend : ∀ (jump : Option Code) (W3 : World), KeepsFrom L (Wa.putObj (L + 1) (.loop (R .busy none))) W3 → LoopAt L (R .busy none) W3 ∧
          (Instr.endRound (L + 1) jump).run P W3 = .ok (.bool jump.isNone) (W3.putObj (L + 1) (.loop (R (if jump.isNone then .ready else .done) jump))) := fun jump W3 hk => by
        have h3 := hl2.kept hk
        have := run_endRound (P := P) jump h3.1
        rw [hR] at this ⊢
        exact ⟨by rw [hR] at h3; exact h3, this⟩
      have hout : ∀ (c : Code) (W3 : World), KeepsFrom L (Wa.putObj (L + 1) (.loop (R .busy none))) W3 → Ix c (pre ++ [x]) W3 → ∃ c', Ix c' (pre ++ [x]) (W3.putObj (L + 1) (.loop (R .done (some c)))) ∧ LoopAt L (R .done (some c')) (W3.putObj (L + 1) (.loop (R .done (some c)))) := fun c W3 hk h4 =>
        ⟨c, (hIx c).putObj _ h4 (by omega) (hl2.kept hk).1 rfl, (hl2.kept hk).put _⟩
      rintro e a3 W3 hp
      cases e with
      | normal =>
        obtain ⟨hk3, hkp3, hi3⟩ := hp
        obtain ⟨h3, hr⟩ := hend none W3 hk3
        exact ⟨_, _, hr, .inl ⟨rfl, ⟨hI.putObj _ hi3 (by omega) h3.1 rfl, h3.put _⟩, hKt hpa (hKt (hKt (hKb _ _) hkp3) (hKb _ _))⟩⟩
      | ret =>
        obtain ⟨hk3, hkp3, hi3⟩ := hp
        exact ⟨_, _, (hend (some .ret) W3 hk3).2, .inr ⟨rfl, hout _ _ hk3 hi3, hKt hpa (hKt (hKt (hKb _ _) hkp3) (hKb _ _))⟩⟩
      | exit id =>
        obtain ⟨hk3, hkp3, hi3⟩ := hp
        exact ⟨_, _, (hend (some (.exit id)) W3 hk3).2, .inr ⟨rfl, hout _ _ hk3 hi3, hKt hpa (hKt (hKt (hKb _ _) hkp3) (hKb _ _))⟩⟩
      | goto t =>
        obtain ⟨hk3, hkp3, hi3⟩ := hp
        exact ⟨_, _, (hend (some (.goto t)) W3 hk3).2, .inr ⟨rfl, hout _ _ hk3 hi3, hKt hpa (hKt (hKt (hKb _ _) hkp3) (hKb _ _))⟩⟩
      | panic ch => exact hp.elim
      | outgrown => exact hp.elim
    refine hc.mono ?_
    rintro e W2 ⟨⟨v, rfl⟩, (⟨xs, hS, hi, hl⟩ | ⟨pre, hSp, c, hi, hl⟩)⟩
    · have hfin := run_endLoop (P := P) hl.1 (by rw [hR]; simp)
      have hd := hdone xs _ hS (hI.putObj (.loop { R .ready none with state := .exhausted }) hi (by omega) hl.1 rfl) ((World.putObj_heap_other (by omega)).trans hl.2)
      refine ⟨none, _, ?_, hd⟩
      rw [hfin, hR]
    · have hfin := run_endLoop (P := P) hl.1 (by rw [hR]; simp)
      have hd := hstop c pre _ hSp ((hIx c).putObj (.loop { R .done (some c) with state := .exhausted }) hi (by omega) hl.1 rfl) ((World.putObj_heap_other (by omega)).trans hl.2)
      refine ⟨some c, _, ?_, hd⟩
      rw [hfin, hR]
end Go.Proofs.YtaeiaoldlebhaaaDoor
