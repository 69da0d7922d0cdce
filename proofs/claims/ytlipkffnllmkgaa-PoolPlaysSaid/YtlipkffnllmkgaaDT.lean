import Derived.StillTail
import Derived.TacticsIn
import Derived.OrdersIn
namespace Go.Proofs.Ytlipkffnllmkgaa
open Go

/-- An operation that reads or names and no more. -/
def headOp (o : Oper) : Bool :=
  match o.op with
  | .move _ | .load _ _ | .nilCheck _ | .fieldAddr _ _ _ | .indexAddr _ _ _ => true
  | _ => false

theorem andThen_ok {α β : Type} {r : Result α} {g : α → World → Result β} {x : β} {w : World} (h : r.andThen g = .ok x w) : ∃ a w1, g a w1 = .ok x w := by
  cases r with
  | ok a w1 => exact ⟨a, w1, h⟩
  | halt e w1 => cases h

theorem headOp_enter {o : Oper} (h : headOp o = true) (ρ : Operand → Value) (P : Program) (w : World) (f : FuncId) (args : Array Value) (w' : World) : (execOp ρ o).run P w ≠ .ok (.enter f args) w' := by
  have key : ∀ (s : Sem Value), (do pure (Next.value (← s)) : Sem Next).run P w ≠ .ok (.enter f args) w' := by
    intro s e
    simp only [Sem.run_bind] at e
    cases hs : s.run P w with
    | ok v w1 => rw [hs] at e; simp [go_sem] at e
    | halt x w1 => rw [hs] at e; simp [go_sem] at e
  unfold execOp
  unfold headOp at h
  split at h
  · rename_i ho; rw [ho]; intro e; simp [go_sem] at e
  · rename_i ho; rw [ho]; exact key _
  · rename_i x ho
    rw [ho]
    dsimp only
    split
    · intro e; simp [go_sem, runtimePanic] at e
    · intro e; simp [go_sem, runtimePanic] at e
    · intro e; simp [go_sem, runtimePanic] at e
    · split
      · intro e; simp [go_sem, runtimePanic] at e
      · intro e
        simp only [Sem.run_bind] at e
        obtain ⟨_, _, e⟩ := andThen_ok e
        obtain ⟨_, _, e⟩ := andThen_ok e
        split at e <;> simp [go_sem] at e
      · intro e; simp [go_sem] at e
    · intro e; simp [go_sem] at e
  · rename_i ho; rw [ho]; exact key _
  · rename_i ho; rw [ho]; exact key _
  · cases h

section
variable {F : Fence} {n : Nat} {P : Program} {ops : Array Oper} {md : Region.Mode}

theorem wpIn_of_still {o : Oper} {a : Act} {w : World} {K : Act → Prop} {K' : Act → World → Prop} {Q' : Exit → Act → World → Prop} (ho : headOp o = true) (h : ∀ a, K a → K' a w) (hh : o.still P a w K) : o.wpIn F n P a w K' Q' := by
  refine ⟨fun f hf => ?_, ?_⟩
  · unfold Oper.about at hf
    unfold headOp at ho
    split at hf
    · rename_i e; rw [e] at ho; cases ho
    · cases hf
  · rw [Oper.semAt_eq _ _ _ (fun c e => by unfold headOp at ho; rw [e] at ho; cases ho)]
    have he := headOp_enter ho a.eval P w
    unfold Oper.still at hh
    generalize (execOp a.eval o).run P w = r at *
    cases r with
    | ok x w' =>
      cases x <;> simp only [Oper.stillUpon] at hh <;> simp only [Oper.uponIn]
      case enter f args => exact absurd rfl (he f args w')
      all_goals (obtain ⟨rfl, h2⟩ := hh; exact h _ h2)
    | halt x w' => simp only [Oper.stillUpon] at hh

theorem wpOpIn_of_stOp {i : Nat} {a : Act} {w : World} {K : Act → Prop} {K' : Act → World → Prop} {Q' : Exit → Act → World → Prop} (ho : ∀ o, ops[i]? = some o → headOp o = true) (h : ∀ a, K a → K' a w) (hh : stOp P ops w i K a) : wpOpIn F n P ops Q' i K' a w := by
  unfold stOp at hh
  unfold wpOpIn
  split
  · rename_i h0; simp only [h0] at hh; exact h _ hh
  · rename_i o h0
    simp only [h0] at hh
    split
    · rename_i hw; simp only [hw, if_true] at hh; exact wpIn_of_still (ho o h0) h hh
    · rename_i hw
      simp only [hw] at hh
      refine ⟨fun f hf => ?_, h _ hh⟩
      have ho' := ho o h0
      unfold Oper.about at hf
      unfold headOp at ho'
      split at hf
      · rename_i e; rw [e] at ho'; cases ho'
      · cases hf

theorem anyIn_of_head {m g : Nat} {w : World} {L : Array Bool → Act → Prop} {Q' : Exit → Act → World → Prop} (ho : ∀ i o, i < m → ops[i]? = some o → headOp o = true) (hL : ∀ listed a, L listed a → wpAnyIn F n P md ops Q' g listed a w) :
    ∀ (f : Nat) (listed : Array Bool) (a : Act), wpAnyL P md ops w m L f listed a → wpAnyIn F n P md ops Q' (f + g) listed a w
  | 0, listed, a, h => by rw [Nat.zero_add]; exact hL _ _ h
  | f + 1, listed, a, h => by
    rw [show f + 1 + g = (f + g) + 1 by omega]
    exact ⟨fun h0 => absurd h0 h.1, fun i hi => wpOpIn_of_stOp (fun o h0 => ho i o (h.2 i hi).1 h0) (fun a' h' => anyIn_of_head ho hL f _ a' h') (h.2 i hi).2⟩

theorem anyIn_of_seq {Q' : Exit → Act → World → Prop} : ∀ (l : List Oper) (k : Nat) (listed : Array Bool) (a : Act) (w : World), (∀ j, l[j]? = ops[k + j]?) →
    Region.seqB md ops l.length k listed = true → wpListIn F n P ops Q' l a w → wpAnyIn F n P md ops Q' l.length listed a w
  | [], _, _, _, _, _, hB, h => ⟨by simpa [Region.seqB] using hB, h⟩
  | o :: l, k, listed, a, w, hl, hB, h => by
    have h0 : ops[k]? = some o := by simpa using (hl 0).symm
    simp only [List.length_cons, Region.seqB, Bool.and_eq_true, decide_eq_true_eq] at hB
    refine ⟨fun h1 => (by rw [hB.1] at h1; cases h1), fun i hi => ?_⟩
    rw [hB.1] at hi
    have hik : i = k := by simpa using hi
    subst hik
    have hw : wpOpIn F n P ops Q' i (wpListIn F n P ops Q' l) a w := by unfold wpOpIn; simp only [h0]; exact h
    exact wpOpIn_mono (fun a' w' h' => anyIn_of_seq l (i + 1) _ a' w' (fun j => by have := hl (j + 1); simpa [Nat.add_assoc, Nat.add_comm 1 j] using this) hB.2 h') hw

theorem wpIn_still_tail {id : Nat} {Q : Exit → Act → World → Prop} {a : Act} {w : World} {l : List Oper} (m : Nat) (hm : P.follows .mixedOrders = true) (hB : Region.lexTailB .any l.toArray m = true) (hH : (l.take m).all headOp = true)
    (h : wpStill P l.toArray w.drew (fun a' => wpListIn F n P l.toArray Q (l.drop m) a' w.drew) (l.take m) a) : (Code.region id l.toArray true).wpIn F n P Q a w := by
  simp only [Region.lexTailB, Bool.and_eq_true, decide_eq_true_eq] at hB
  obtain ⟨⟨⟨⟨hsel, hn⟩, hs⟩, hc⟩, hlex⟩ := hB
  have hn' : m < l.length := by simpa using hn
  have htl : (l.take m).length = m := by simp; omega
  have hdl : (l.drop m).length = l.toArray.size - m := by simp
  have inv0 : HeadInv .any l.toArray m (Array.replicate l.toArray.size false) :=
    ⟨by simp, fun j oj _ hl => (by rw [getD_replicate_false] at hl; cases hl), fun t _ ht => getD_in (by simpa using ht) (getD_replicate_false _ _)⟩
  have H := wpAnyL_lex (md := .any) (g := l.toArray.size - m) hsel hs hc hn (l.take m) 0 _ a (fun j hj => by
    have hj' : j < m := by rw [htl] at hj; exact hj
    simp [hj']) (by simpa using htl) inv0 (by rw [htl]; exact hlex) h
  refine wpIn_region_any hm ?_
  have := anyIn_of_head (F := F) (n := n) (Q' := Q) (g := l.toArray.size - m) (fun i o hi h0 => by
      rw [List.all_eq_true] at hH
      refine hH o (List.mem_of_getElem? (i := i) ?_)
      rw [List.getElem?_take, if_pos hi]
      simpa using h0) (fun listed a' hL => by
    have := anyIn_of_seq (F := F) (n := n) (md := .any) (Q' := Q) (l.drop m) m listed a' { w with drawn := w.drawn + 1 } (fun j => by simp [List.getElem?_drop]) (by rw [hdl]; exact hL.1) hL.2
    rwa [hdl] at this) _ _ _ H
  rw [htl, show m + (l.toArray.size - m) = l.toArray.size by omega] at this
  exact this
end
end Go.Proofs.Ytlipkffnllmkgaa
