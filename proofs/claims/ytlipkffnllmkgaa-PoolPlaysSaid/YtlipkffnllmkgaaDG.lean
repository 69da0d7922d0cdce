import Derived.Test.YtlipkffnllmkgaaDT
import Derived.OwnWalkIn
namespace Go.Proofs.Ytlipkffnllmkgaa
open Go

/-- No operation lays a deferred call by. -/
def noDefer (ops : Array Oper) : Bool := ops.toList.all fun o => match o.op with | .defer _ => false | _ => true
theorem noDefer_spec {ops : Array Oper} (h : noDefer ops = true) (j : Nat) (o : Oper) (ho : ops[j]? = some o) (c : Call) : o.op ≠ .defer c := by
  intro e
  have := List.all_eq_true.1 h o (List.mem_of_getElem? (i := j) (by simpa using ho))
  rw [e] at this
  cases this

section
variable {F : Fence} {n : Nat} {P : Program} {ops : Array Oper} {Q : Exit → Act → World → Prop} {md : Region.Mode} {Good : World → Prop}

/-- The operation yields v in every good world. -/
def YG (P : Program) (Good : World → Prop) (ops : Array Oper) (o : Oper) (v : Value) (a : Act) : Prop :=
  headOp o = true ∧ Region.wanted o (yielded ops a.tmps) = true ∧ ∀ w, Good w → (execOp a.eval o).run P w = .ok (.value v) w

theorem headOp_about {o : Oper} (ho : headOp o = true) (w : World) (ρ : Operand → Value) : o.about P w ρ = none := by
  unfold Oper.about
  unfold headOp at ho
  split
  · rename_i e; rw [e] at ho; cases ho
  · rfl
theorem headOp_defer {o : Oper} (ho : headOp o = true) (c : Call) : o.op ≠ .defer c := fun e => by unfold headOp at ho; rw [e] at ho; cases ho

theorem YG.op {i : Nat} {o : Oper} {v : Value} {a : Act} (hi : ops[i]? = some o) (hy : YG P Good ops o v a) {K : Act → World → Prop} {w : World} (hG : Good w) (h : K (a.put o.dst v) w) : wpOpIn F n P ops Q i K a w := by
  unfold Go.wpOpIn
  simp only [hi]
  obtain ⟨ho, hw, hv⟩ := hy
  rw [if_pos hw]
  unfold Oper.wpIn
  refine ⟨fun f hf => (by rw [headOp_about ho] at hf; cases hf), ?_⟩
  rw [Oper.semAt_eq _ _ _ (headOp_defer ho), hv w hG]
  exact h

theorem YG.of_same {o : Oper} {v : Value} {a a' : Act} (hy : YG P Good ops o v a) (he : execOp a'.eval o = execOp a.eval o)
    (hw : Region.wanted o (yielded ops a'.tmps) = Region.wanted o (yielded ops a.tmps)) : YG P Good ops o v a' := ⟨hy.1, by rw [hw]; exact hy.2.1, by rw [he]; exact hy.2.2⟩

theorem opIn_put {j : Nat} {oi oj : Oper} {v : Value} (hj : ops[j]? = some oj) (hd : ∀ c, oj.op ≠ .defer c) (hap : oi.apart ops oj = true)
    (hsi : ∀ cs b, oi.op ≠ .select cs b) (hsj : ∀ cs b, oj.op ≠ .select cs b)
    (hQ : ∀ c a w, Q (.panic c) (a.put oi.dst v) w → Q (.panic c) a w) {K : Act → World → Prop} {a : Act} {w : World}
    (hy : YG P Good ops oi v a) (h : wpOpIn F n P ops Q j K (a.put oi.dst v) w) :
    wpOpIn F n P ops Q j (fun a' w' => YG P Good ops oi v a' ∧ K (a'.put oi.dst v) w') a w := by
  obtain ⟨h1, h2, h3⟩ := Oper.apart_spec hap
  have keep : ∀ (a : Act), YG P Good ops oi v a → ∀ u, YG P Good ops oi v (a.put oj.dst u) := fun a hy u =>
    hy.of_same (execOp_put oi hsi a oj.dst u h3) (wanted_put oi a oj.dst u h3)
  have keepD : ∀ d, YG P Good ops oi v { a with defers := d :: a.defers } := fun d => hy.of_same rfl rfl
  unfold wpOpIn at *
  simp only [hj] at *
  rw [wanted_put oj a oi.dst v h1, about_put oj w a oi.dst v h1] at h
  split
  · rename_i hw
    simp only [hw, if_true] at h
    unfold Oper.wpIn at *
    rw [about_put oj w a oi.dst v h1] at h
    refine ⟨h.1, ?_⟩
    have h := h.2
    rw [Oper.semAt_eq _ _ _ hd, execOp_put oj hsj a oi.dst v h1] at h
    rw [Oper.semAt_eq _ _ _ hd]
    generalize (execOp a.eval oj).run P w = r at *
    cases r with
    | ok x w' =>
      cases x <;> simp only [Oper.uponIn] at h ⊢
      case value u => exact ⟨keep a hy u, by rw [← Act.put_comm a v u h2]; exact h⟩
      case skip => exact ⟨keep a hy _, by rw [← Act.put_comm a v undef h2]; exact h⟩
      case defer d =>
        refine ⟨keep _ (keepD d) _, ?_⟩
        rw [← Act.put_comm _ v undef h2, ← Act.put_defers]
        exact h
      case enter f args =>
        refine ⟨h.1, CallsIn.mono h.2 fun e w'' he => ?_⟩
        cases e with
        | returned u => exact ⟨keep a hy u, by rw [← Act.put_comm a v u h2]; exact he⟩
        | panicked c => exact hQ _ _ _ he
        | outgrown => exact he
      case row row args => exact ⟨h.1, RowsIn.mono h.2 fun u w'' he => ⟨keep a hy u, by rw [← Act.put_comm a v u h2]; exact he⟩⟩
      case round l f tmps assign body =>
        refine ⟨h.1, RoundIn.mono h.2 fun e w'' he => ?_⟩
        cases e with
        | returned u => exact ⟨keep a hy u, by rw [← Act.put_comm a v u h2]; exact he⟩
        | panicked c => exact hQ _ _ _ he
        | outgrown => exact he
    | halt x w' =>
      cases x <;> simp only [Oper.uponIn] at h ⊢
      case panic u => exact hQ _ _ _ h
  · rename_i hw
    simp only [hw] at h
    exact ⟨h.1, keep a hy _, by rw [← Act.put_comm a v undef h2]; exact h.2⟩

/-- The operations ahead of m in whatever order, each from a good world into a good one. -/
def wpG (F : Fence) (n : Nat) (P : Program) (md : Region.Mode) (ops : Array Oper) (Q : Exit → Act → World → Prop) (Good : World → Prop) (m : Nat) (L : Array Bool → Act → World → Prop) : Nat → Array Bool → Act → World → Prop
  | 0, listed, a, w => L listed a w
  | f + 1, listed, a, w => Region.ready md ops listed ≠ [] ∧ ∀ i ∈ Region.ready md ops listed, i < m ∧ wpOpIn F n P ops Q i (fun a' w' => Good w' ∧ wpG F n P md ops Q Good m L f (listed.setIfInBounds i true) a' w') a w

theorem anyIn_of_G {m g : Nat} {L : Array Bool → Act → World → Prop} (hL : ∀ listed a w, L listed a w → wpAnyIn F n P md ops Q g listed a w) :
    ∀ (f : Nat) (listed : Array Bool) (a : Act) (w : World), wpG F n P md ops Q Good m L f listed a w → wpAnyIn F n P md ops Q (f + g) listed a w
  | 0, listed, a, w, h => by rw [Nat.zero_add]; exact hL _ _ _ h
  | f + 1, listed, a, w, h => by
    rw [show f + 1 + g = (f + g) + 1 by omega]
    exact ⟨fun h0 => absurd h0 h.1, fun i hi => wpOpIn_mono (fun a' w' h' => anyIn_of_G hL f _ a' w' h'.2) (h.2 i hi).2⟩

theorem wpG_first {m i : Nat} {oi : Oper} {v : Value} {L : Array Bool → Act → World → Prop} (hi : ops[i]? = some oi) (hsel : ∀ (j : Nat) (o : Oper) cs b, ops[j]? = some o → o.op ≠ .select cs b) (hd : noDefer ops = true)
    (hs : Region.sinkB md ops m = true) (hc : Region.chainB md ops m = true) (hn : m < ops.size) (hin : i < m)
    (hQ : ∀ c a w, Q (.panic c) (a.put oi.dst v) w → Q (.panic c) a w)
    (hdone : ∀ listed a w, L listed a w → ∀ j ∈ Region.ready md ops listed, m ≤ j) :
    ∀ (f : Nat) (listed : Array Bool) (a : Act) (w : World), HeadInv md ops m listed →
      (∀ j oj, ops[j]? = some oj → j ≠ i → listed.getD j true = false → (∀ e ∈ oj.after, Region.binds md e = true → e.on ≠ i) → oi.apart ops oj = true) →
      i ∈ Region.ready md ops listed → YG P Good ops oi v a → Good w →
      wpG F n P md ops Q Good m L f (listed.setIfInBounds i true) (a.put oi.dst v) w → wpG F n P md ops Q Good m L (f + 1) listed a w := by
  intro f
  induction f with
  | zero =>
    intro listed a w inv _ hr hy hG H
    have hun := (mem_ready.1 hr).1
    refine ⟨fun h => (by rw [h] at hr; cases hr), fun j hj => ?_⟩
    have hjn : j < m := by
      rcases Nat.lt_or_ge j m with h | h
      · exact h
      · exact absurd hj (tail_waits hs hc hn inv _ i rfl hin hun j h)
    refine ⟨hjn, ?_⟩
    by_cases hji : j = i
    · subst hji; exact hy.op hi hG ⟨hG, H⟩
    · have := hdone _ _ _ H j (ready_mono hj hji)
      omega
  | succ f ih =>
    intro listed a w inv hfree hr hy hG H
    have hun := (mem_ready.1 hr).1
    refine ⟨fun h => (by rw [h] at hr; cases hr), fun j hj => ?_⟩
    have hjn : j < m := by
      rcases Nat.lt_or_ge j m with h | h
      · exact h
      · exact absurd hj (tail_waits hs hc hn inv _ i rfl hin hun j h)
    refine ⟨hjn, ?_⟩
    by_cases hji : j = i
    · subst hji; exact hy.op hi hG ⟨hG, H⟩
    · have h1 := (H.2 j (ready_mono hj hji)).2
      obtain ⟨hjun, oj, hoj, hall⟩ := mem_ready.1 hj
      have hnot : ∀ e ∈ oj.after, Region.binds md e = true → e.on ≠ i := fun e he hb heq => by
        have h1 := hall e he hb
        rw [heq, getD_both hun] at h1
        cases h1
      have h2 := opIn_put hoj (noDefer_spec hd j oj hoj) (hfree j oj hoj hji hjun hnot) (fun cs b => hsel i oi cs b hi) (fun cs b => hsel j oj cs b hoj) hQ hy h1
      have hfree' : ∀ k ok, ops[k]? = some ok → k ≠ i → (listed.setIfInBounds j true).getD k true = false →
          (∀ e ∈ ok.after, Region.binds md e = true → e.on ≠ i) → oi.apart ops ok = true := fun k ok hk hki hun hno => by
        refine hfree k ok hk hki ?_ hno
        by_cases hjk : j = k
        · subst hjk; exact hjun
        · rw [getD_set_ne true hjk] at hun; exact hun
      refine wpOpIn_mono (fun a' w' h3 => ⟨h3.2.1, ih (listed.setIfInBounds j true) a' w' (inv.set hj hjn) hfree' (ready_mono hr (Ne.symm hji)) h3.1 h3.2.1 ?_⟩) h2
      rw [Array.setIfInBounds_comm _ _ hji]
      exact h3.2.2

/-- The operations of the list, one behind the other, each a reading that is the same in every good world. -/
def stepsG (P : Program) (Good : World → Prop) (ops : Array Oper) : List Nat → Act → (Act → Prop) → Prop
  | [], a, K => K a
  | i :: l, a, K => ∃ oi v, ops[i]? = some oi ∧ YG P Good ops oi v a ∧ stepsG P Good ops l (a.put oi.dst v) K

theorem stepsG_cons {i : Nat} {l : List Nat} {a : Act} {K : Act → Prop} {oi : Oper} {v : Value} (hi : ops.toList[i]? = some oi) (h0 : headOp oi = true) (hw : Region.wanted oi (yielded ops a.tmps) = true)
    (hv : ∀ w, Good w → (execOp a.eval oi).run P w = .ok (.value v) w) (h : stepsG P Good ops l (a.put oi.dst v) K) : stepsG P Good ops (i :: l) a K :=
  ⟨oi, v, by simpa using hi, ⟨h0, hw, hv⟩, h⟩

def freeG (md : Region.Mode) (ops : Array Oper) (m : Nat) : List Nat → Array Bool → Bool
  | [], _ => true
  | i :: l, listed => (Region.ready md ops listed).contains i && decide (i < m) && Region.free md ops listed i && freeG md ops m l (listed.setIfInBounds i true)
def listG : List Nat → Array Bool → Array Bool
  | [], listed => listed
  | i :: l, listed => listG l (listed.setIfInBounds i true)

theorem wpG_steps {m f : Nat} {L : Array Bool → Act → World → Prop} (hsel : Region.noSelect ops = true) (hd : noDefer ops = true)
    (hs : Region.sinkB md ops m = true) (hc : Region.chainB md ops m = true) (hn : m < ops.size) (hQ : ∀ o v c a w, Q (.panic c) (a.put o v) w → Q (.panic c) a w)
    (hdone : ∀ listed a w, L listed a w → ∀ j ∈ Region.ready md ops listed, m ≤ j) (w : World) (hG : Good w) :
    ∀ (l : List Nat) (listed : Array Bool) (a : Act), HeadInv md ops m listed → freeG md ops m l listed = true →
      stepsG P Good ops l a (fun a' => wpG F n P md ops Q Good m L f (listG l listed) a' w) → wpG F n P md ops Q Good m L (l.length + f) listed a w
  | [], listed, a, _, _, h => by simpa [stepsG, listG] using h
  | i :: l, listed, a, inv, hB, h => by
    simp only [freeG, Bool.and_eq_true, decide_eq_true_eq] at hB
    obtain ⟨⟨⟨hr, hin⟩, hf⟩, hB'⟩ := hB
    obtain ⟨oi, v, hi, hy, h⟩ := h
    have hr' : i ∈ Region.ready md ops listed := by simpa using hr
    rw [show (i :: l).length + f = (l.length + f) + 1 by simp only [List.length_cons]; omega]
    exact wpG_first hi (Region.noSelect_spec hsel) hd hs hc hn hin (fun c a w => hQ _ _ c a w) hdone _ listed a w inv (Region.free_spec hi hf) hr' hy hG
      (wpG_steps hsel hd hs hc hn hQ hdone w hG l _ _ (inv.set hr' hin) hB' h)

/-- What is left comes one behind the other. -/
theorem wpG_one {m f k : Nat} {o : Oper} {L : Array Bool → Act → World → Prop} {listed : Array Bool} {a : Act} {w : World} (hr : Region.ready md ops listed = [k]) (hk : k < m) (ho : ops[k]? = some o) (hw : Region.wanted o (yielded ops a.tmps) = true)
    (h : ∀ K : Act → World → Prop, (∀ a' w', Good w' → wpG F n P md ops Q Good m L f (listed.setIfInBounds k true) a' w' → K a' w') → o.wpIn F n P a w K Q) : wpG F n P md ops Q Good m L (f + 1) listed a w := by
  refine ⟨by rw [hr]; simp, fun i hi => ?_⟩
  rw [hr] at hi
  have hik : i = k := by simpa using hi
  subst hik
  refine ⟨hk, ?_⟩
  unfold wpOpIn
  simp only [ho, hw, if_true]
  exact h _ fun a' w' hg h' => ⟨hg, h'⟩

/-- A region whose operations from m on wait for all: l in front, then f others ahead of m, then the rest. -/
theorem wpIn_G {id : Nat} {a : Act} {w : World} {os : List Oper} (m f : Nat) (l : List Nat) (hm : P.follows .mixedOrders = true) (hsel : Region.noSelect os.toArray = true) (hd : noDefer os.toArray = true)
    (hs : Region.sinkB .any os.toArray m = true) (hc : Region.chainB .any os.toArray m = true) (hsz : decide (m < os.length) = true) (hlf : l.length + f = m) (hQ : ∀ o v c a w, Q (.panic c) (a.put o v) w → Q (.panic c) a w)
    (hB : freeG .any os.toArray m l (Array.replicate os.length false) = true) (hG : Good w.drew)
    (h : stepsG P Good os.toArray l a (fun a' => wpG F n P .any os.toArray Q Good m (fun listed a w => Region.seqB .any os.toArray (os.drop m).length m listed = true ∧ wpListIn F n P os.toArray Q (os.drop m) a w) f (listG l (Array.replicate os.length false)) a' w.drew)) :
    (Code.region id os.toArray true).wpIn F n P Q a w := by
  have hsz := of_decide_eq_true hsz
  have hn : m < os.toArray.size := by simp; omega
  have inv0 : HeadInv .any os.toArray m (Array.replicate os.length false) :=
    ⟨by simp, fun j oj _ hl => (by rw [getD_replicate_false] at hl; cases hl), fun t _ ht => getD_in (by simpa using ht) (getD_replicate_false _ _)⟩
  refine wpIn_region_any hm ?_
  have := anyIn_of_G (g := (os.drop m).length) (fun listed a w hL => by
    have h3 := anyIn_of_seq (F := F) (n := n) (P := P) (ops := os.toArray) (md := .any) (Q' := Q) (os.drop m) m listed a w (fun j => by
      simp [List.getElem?_drop]) hL.1 hL.2
    exact h3) _ _ _ _ (wpG_steps hsel hd hs hc hn hQ (fun listed a w hL => seqB_ready hL.1) w.drew hG l _ a inv0 hB h)
  rw [show l.length + f + (os.drop m).length = os.toArray.size by simp; omega] at this
  simpa using this

theorem opIn_append_own (w : World) {o : Oper} {a : Act} {K : Act → World → Prop}
    (s x : Operand) (t : TypeId) (hop : o.op = Op.call { callee := Callee.builtin Builtin.append, args := #[s, x], argTypes := #[t, t] })
    (base : Nat) (e : TypeId) (i : TypeInfo) (z : Value) (size bytes : Nat) (h1 : P.underlying t = some (.slice e)) (h2 : P.info? e = some i) (h3 : i.zero = some z) (h4 : i.size = size) (h5 : i.bytes = bytes) (h6 : z.cells.size = size) (h7 : 0 < size)
    (v : Value) (k : Nat) (xs : List Value) (hs : a.eval s = v) (hown : w.ownsRow base e size v k xs) (ad : Addr) (m c : Nat) (news : List Value) (hx : a.eval x = .slice (some ad) m c) (hn : news.length = m * size)
    (hc : ∀ j u, news[j]? = some u → w.cell? (ad.add j) = some u) (h1c : ∀ u ∈ news, u.oneCell' = true) (b1 : k + m ≤ maxLen) (b2 : (k + m) * bytes ≤ 140737488355328) (b3 : base ≤ w.heap.size)
    (hK : ∀ v' w', w'.ownsRow base e size v' (k + m) (xs ++ news) → w.grownBy w' v.ownBlock → K (a.put o.dst v') w') : o.wpIn F n P a w K Q := by
  obtain ⟨v', w', hrun, r1, r2, _⟩ := run_append_own (P := P) w base t o.type e i z size bytes h1 h2 h3 h4 h5 h6 h7 v k xs hown ad m c news hn hc h1c b1 b2 b3
  unfold Oper.wpIn
  refine ⟨?_, ?_⟩
  · simp [Oper.about, hop, resolve, Target.leads, Sem.run_pure]
  · rw [Oper.semAt_plain F _ _ (by rw [hop]; intro c hc'; cases hc')]
    simp [execOp, hop, resolve, invoke, builtin, hs, hx, hrun, Result.andThen]
    exact hK _ _ r1 r2
end
end Go.Proofs.Ytlipkffnllmkgaa
