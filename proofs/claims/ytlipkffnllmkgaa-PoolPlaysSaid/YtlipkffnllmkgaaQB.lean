import Derived.Test.YtlipkffnllmkgaaQA
namespace Go.Proofs.Ytlipkffnllmkgaa
open Go.RowKit Go.Shelf Go.Maps Go.Sort
attribute [local go_sem] Oper.semAt_some

theorem cell1 {w : World} {b : Nat} {v : Value} {t : TypeId} (h : w.heap[b]? = some (.cells #[v] t (0, 0))) : w.cell? ⟨b, 0, none⟩ = some v ∧ w.frozen? ⟨b, 0, none⟩ = false := by
  constructor <;> simp [World.cell?, World.frozen?, h]
theorem take_more {α : Type} {f : Int → Option α} {ks : List Int} {j : Nat} {x : Int} {m : α} (hj : ks[j]? = some x) (hx : f x = some m) : (ks.take (j + 1)).filterMap f = (ks.take j).filterMap f ++ [m] := by
  rw [List.take_add_one, hj, List.filterMap_append]
  simp [hx]
theorem take_pre {α : Type} (f : Int → Option α) (ks : List Int) (j : Nat) : (ks.take j).filterMap f <+: ks.filterMap f := by
  conv => rhs; rw [← List.take_append_drop j ks, List.filterMap_append]
  exact List.prefix_append _ _
theorem KeysOf.get {α : Type} {f : Int → Option α} {ks : List Int} (h : KeysOf f ks) {j : Nat} (hj : j < ks.length) : ∃ x m, ks[j]? = some x ∧ x ∈ ks ∧ (Lit.int .i64 x).wf = true ∧ f x = some m := by
  have hm : ks[j] ∈ ks := List.getElem_mem hj
  have h2 := (h.mem _ (h.wf _ hm)).1 hm
  obtain ⟨m, e⟩ := Option.isSome_iff_exists.1 h2
  exact ⟨ks[j], m, List.getElem?_eq_getElem hj, hm, h.wf _ hm, e⟩
theorem KeysOf.taken {α : Type} {f : Int → Option α} {ks : List Int} (h : KeysOf f ks) (j : Nat) (hj : j ≤ ks.length) : ((ks.take j).filterMap f).length = j := by
  induction j with
  | zero => simp
  | succ j ih =>
    obtain ⟨x, m, e1, _, _, e2⟩ := h.get (show j < ks.length by omega)
    rw [take_more e1 e2, List.length_append, ih (by omega)]
    rfl
/-- What lies still while the iterator goes on. -/
structure AllHeld (Bx Xp X M O : Nat) (p : Po) (g : Nat) (cur : Array Value) (W0 W : World) : Prop where
  bx : W.heap[Bx]? = some (.cells #[.pointer (some ⟨Xp, 0, none⟩)] 24 (0, 0))
  xp : W.heap[Xp]? = some (poolCells p X M O)
  m : W.heap[M]? = W0.heap[M]?
  row : W.heap[g]? = some (.cells cur 3 (0, 0))
theorem AllHeld.keep {B Bx Xp X M O : Nat} {E : Nat → Prop} {p : Po} {g : Nat} {cur : Array Value} {W0 W W' : World} (h : AllHeld Bx Xp X M O p g cur W0 W) (hk : KeepP B E W W') (hM : M < W0.heap.size) (hB : M < B) (h1 : ¬ E Bx) (h2 : ¬ E Xp) (h3 : ¬ E M) (h4 : ¬ E g) : AllHeld Bx Xp X M O p g cur W0 W' where
  bx := hk.2 _ _ h.bx h1 (.inr rfl)
  xp := hk.2 _ _ h.xp h2 (.inr rfl)
  m := by
    have e : W0.heap[M]? = some W0.heap[M] := Array.getElem?_eq_getElem hM
    rw [e]
    exact hk.2 _ _ (h.m.trans e) h3 (.inl hB)
  row := hk.2 _ _ h.row h4 (.inr rfl)
theorem row_cell {W : World} {g : Nat} {cur : Array Value} {t : TypeId} {ks : List Int} (h : W.heap[g]? = some (.cells cur t (0, 0))) (hc : cur.toList.take ks.length = ks.map (Value.int .i64)) {j : Nat} {x : Int} (hj : ks[j]? = some x) : W.cell? ⟨g, j, none⟩ = some (.int .i64 x) := by
  have hl : j < ks.length := (List.getElem?_eq_some_iff.1 hj).1
  have h1 : (cur.toList.take ks.length)[j]? = (ks.map (Value.int .i64))[j]? := by rw [hc]
  rw [List.getElem?_take_of_lt hl] at h1
  simp only [World.cell?, h]
  simp only [Option.isSome_none, Bool.false_eq_true, if_false]
  rw [← Array.getElem?_toList, h1]
  simp [hj]

theorem field77 (mi ma mp ms mb : Int) (W : World) : (Instr.field 77 (.agg #[.int .i64 mi, .int .u32 ma, .int .i64 mp, .int .i64 ms, .int .i64 mb]) 0).run Try.prog W = .ok (.agg #[.int .i64 mi, .int .u32 ma, .int .i64 mp]) W ∧ (Instr.field 77 (.agg #[.int .i64 mi, .int .u32 ma, .int .i64 mp, .int .i64 ms, .int .i64 mb]) 1).run Try.prog W = .ok (.int .i64 ms) W := ⟨by kernel_rfl, by kernel_rfl⟩
theorem lookD {M nn : Nat} {p : Po} {W0 wr : World} (hm : wr.heap[M]? = W0.heap[M]?) (h : MapIs M nn p.allV W0) {x : Int} (hx : (Lit.int .i64 x).wf = true) {m : Mem} (hv : p.allV x = some m.val) :
    (Instr.lookup 63 (.map (some M)) (.int .i64 x) false).run Try.prog wr.drew = .ok (.agg #[.int .i64 m.id, .int .u32 m.addr, .int .i64 m.port, .int .i64 m.state, .int .i64 m.bucket]) wr.drew := by
  have h1 : MapIs M nn p.allV wr.drew := h.block hm
  have h2 := h1.look Try.underlying63 (zero104 _) hx
  rw [hv] at h2
  exact h2

set_option maxRecDepth 100000 in
set_option maxHeartbeats 2000000 in
theorem all1_in (l B Bx Xp X M O nn : Nat) (E : Nat → Prop) (p : Po) (ks : List Int) (J Jx : List Mem → World → Prop) (W0 : World)
    (hJ : AbidesFrom W0.heap.size J)
    (hY : ∀ pre x m W, x ∈ ks → p.all x = some m → J pre W → pre.length < ks.length → YieldAt Fence.wide 7 Try.prog l #[.agg #[.int .i64 m.id, .int .u32 m.addr, .int .i64 m.port], .int .i64 m.state] W fun e W' =>
      (e = .returned (.bool true) ∧ J (pre ++ [m]) W' ∧ KeepP B E W W') ∨ (e = .returned (.bool false) ∧ Jx (pre ++ [m]) W'))
    (hBx : W0.heap[Bx]? = some (.cells #[.pointer (some ⟨Xp, 0, none⟩)] 24 (0, 0))) (hXp : W0.heap[Xp]? = some (poolCells p X M O)) (hM : MapIs M nn p.allV W0) (hks : KeysOf p.all ks) (hn : nn ≤ 1000000)
    (hB : M < B ∧ B ≤ W0.heap.size) (hE : ¬ E Bx ∧ ¬ E Xp ∧ ¬ E M ∧ ∀ i, E i → i < B) (h0 : J [] W0) :
    CallsIn Fence.wide 8 Try.prog 25 #[.func (.yield l) #[] #[], .pointer (some ⟨Bx, 0, none⟩)] W0 fun e W' => (∃ v, e = .returned v) ∧
      (J (ks.filterMap p.all) W' ∨ (∃ pre, pre <+: ks.filterMap p.all ∧ Jx pre W')) := by
  have hksV : KeysOf p.allV ks := hks.of (fun x => by unfold Po.allV; cases p.all x <;> rfl)
  have HJ := Lib.hid hJ
  have HY := Lib.hid hY
  have HM := Lib.hid hM
  have HK := Lib.hid hks
  have H0 := Lib.hid h0
  have HXP := Lib.hid hXp
  have HBX := Lib.hid hBx
  have c0 := (cell1 hBx).1
  have c3 := (cells6 hXp).1.2.2.2.1
  have hsz := (Array.getElem?_eq_some_iff.1 hBx).1
  have hMl := hM.lt
  have hkl : ks.length ≤ 1000000 := by
    obtain ⟨D, ks', _, h1, h2, _⟩ := hM.keys
    rw [h1.one hksV] at h2
    omega
  by_cases hk0 : ks = []
  · subst hk0
    have HS := Lib.hid (sorted26_nil hM hn hksV)
    clear hJ hY hBx hXp hM hks h0 hksV
    refine callsIn_of_wp Try.func25 rfl trivial ?_ rfl
    simp only [Try.ntmps25, List.size_toArray, List.length_cons, List.length_nil, Nat.reduceAdd, Nat.reduceSub, Array.replicate_succ, Array.replicate_zero, List.push_toArray, List.append_toArray, List.nil_append, List.cons_append]
    gi_wp2_with (first
      | (refine ⟨trivial, ?_⟩; gi_at_call 27; refine (keys27 _ _).mono ?_; rintro e w1 ⟨rfl, rfl⟩)
      | (refine ⟨trivial, ?_⟩; gi_at_call 26; refine HS.out.mono ?_; rintro e w2 ⟨rfl, hb⟩; have HHB := Lib.hid hb; clear hb))
    have HJ1 := Lib.hid (HJ.out _ _ w2 none H0.out ⟨HHB.out.os, HHB.out.tape, HHB.out.output, HHB.out.size, fun k hk _ => HHB.out.block k hk⟩ (fun r e => by cases e))
    gi_loopw [12] (fun i wr => i = .int .i64 0 ∧ J [] wr) (fun _ _ => 0)
    case atStart => exact ⟨rfl, HJ1.out⟩
    case round =>
      obtain ⟨rfl, hJr⟩ := hrel
      have HJR := Lib.hid hJr
      clear hJr
      gi_wp2
      go_end0
      exact ⟨⟨_, rfl⟩, .inl HJR.out⟩
  · have HS := Lib.hid (sorted26_some hM hn hksV hk0)
    clear hJ hY hBx hXp hM hks h0 hksV
    refine callsIn_of_wp Try.func25 rfl trivial ?_ rfl
    simp only [Try.ntmps25, List.size_toArray, List.length_cons, List.length_nil, Nat.reduceAdd, Nat.reduceSub, Array.replicate_succ, Array.replicate_zero, List.push_toArray, List.append_toArray, List.nil_append, List.cons_append]
    gi_wp2_with (first
      | (refine ⟨trivial, ?_⟩; gi_at_call 27; refine (keys27 _ _).mono ?_; rintro e w1 ⟨rfl, rfl⟩)
      | (refine ⟨trivial, ?_⟩; gi_at_call 26; refine HS.out.mono ?_; rintro e w2 ⟨g, cap, cur, rfl, hgW, hat, hcl, hcm, hcr, hb⟩; have HHB := Lib.hid hb; have HAT := Lib.hid hat; have HCR := Lib.hid hcr; clear hb hat hcr))
    have HJ1 := Lib.hid (HJ.out _ _ w2 none H0.out ⟨HHB.out.os, HHB.out.tape, HHB.out.output, HHB.out.size, fun k hk _ => HHB.out.block k hk⟩ (fun r e => by cases e))
    have hXl := (Array.getElem?_eq_some_iff.1 HXP.out).1
    have HA0 := Lib.hid (show AllHeld Bx Xp X M O p g cur W0 w2 from ⟨(HHB.out.block _ hsz).trans HBX.out, (HHB.out.block _ hXl).trans HXP.out, HHB.out.block _ hMl, HAT.out⟩)
    clear c0 c3
    gi_loopw [12] (fun i wr => ∃ j : Nat, j ≤ ks.length ∧ i = .int .i64 (j : Int) ∧ AllHeld Bx Xp X M O p g cur W0 wr ∧ J ((ks.take j).filterMap p.all) wr) (fun i _ => ks.length - (intOf i).toNat)
    case atStart => exact ⟨0, Nat.zero_le _, rfl, HA0.out, HJ1.out⟩
    case round =>
      obtain ⟨j, hj, rfl, hA, hJr⟩ := hrel
      have HA := Lib.hid hA
      have HJR := Lib.hid hJr
      clear hA hJr
      by_cases hlt : j < ks.length
      · obtain ⟨x, m, e1, e2, e3, e4⟩ := HK.out.get hlt
        have hlt2 : (j : Int) < (ks.length : Int) := by omega
        have hj6 : (j : Int) < 1000000 := by omega
        have d0 := row_cell HA.out.row HCR.out e1
        have hlen : ((ks.take j).filterMap p.all).length < ks.length := by rw [HK.out.taken j hj]; exact hlt
        have HT := Lib.hid (take_more (f := p.all) e1 e4)
        have HP1 := Lib.hid (take_pre p.all ks (j + 1))
        have hv : p.allV x = some m.val := by unfold Po.allV; rw [e4]; rfl
        obtain ⟨mi, ma, mp, ms, mb⟩ := m
        have HG := Lib.hid (show wr.drew.cell? ⟨Bx, 0, none⟩ = some (.pointer (some ⟨Xp, 0, none⟩)) ∧ wr.drew.cell? ⟨Xp, 3, none⟩ = some (.map (some M)) ∧ (Instr.lookup 63 (.map (some M)) (.int .i64 x) false).run Try.prog wr.drew = .ok (.agg #[.int .i64 mi, .int .u32 ma, .int .i64 mp, .int .i64 ms, .int .i64 mb]) wr.drew from ⟨(cell1 HA.out.bx).1, (cells6 HA.out.xp).1.2.2.2.1, lookD HA.out.m HM.out e3 hv⟩)
        have hJd := HJ.out _ _ wr.drew none HJR.out ⟨rfl, rfl, rfl, Nat.le_refl _, fun _ _ _ => rfl⟩ (fun r e => by cases e)
        obtain ⟨fn, tmps, assign, body, hy, hR⟩ := HY.out _ x _ wr.drew e2 e4 hJd hlen
        dsimp only at hy
        have HR := Lib.hid hR
        clear hv hR hJd hlen e1 e4
        gi_wp2
        refine I.wpIn_G (Good := fun W : World => W.cell? ⟨Bx, 0, none⟩ = some (.pointer (some ⟨Xp, 0, none⟩)) ∧ W.cell? ⟨Xp, 3, none⟩ = some (.map (some M)) ∧ (Instr.lookup 63 (.map (some M)) (.int .i64 x) false).run Try.prog W = .ok (.agg #[.int .i64 mi, .int .u32 ma, .int .i64 mp, .int .i64 ms, .int .i64 mb]) W) (fun _ => trivial) 15 0 [0, 1, 2, 3, 4, 5, 6, 7, 8, 9, 10, 11, 12, 13, 14] (by kernel_rfl) (by kernel_rfl) (by kernel_rfl) (by kernel_rfl) (by kernel_rfl) (by kernel_rfl) rfl (fun o _ _ _ _ h => by cases o <;> exact h) (by kernel_rfl) HG.out ?_
        iterate 15 (refine I.stepsG_cons (v := ?_) rfl rfl rfl (fun wg hw => ?_) ?_; rotate_left; (obtain ⟨g1, g2, g3⟩ := hw; have hf0 := (field77 mi ma mp ms mb wg).1; have hf1 := (field77 mi ma mp ms mb wg).2; go_simp; try with_reducible rfl); go_simp)
        refine ⟨by kernel_rfl, ?_⟩
        gi_wp2
        refine HR.out.mono ?_
        rintro e W3 (⟨rfl, hJ4, hk4⟩ | ⟨rfl, hJx4⟩)
        · have hEg : ¬ E g := fun e => by have := hE.2.2.2 g e; omega
          have HJ4 := Lib.hid hJ4
          have HA4 := Lib.hid ((show AllHeld Bx Xp X M O p g cur W0 wr.drew from ⟨HA.out.bx, HA.out.xp, HA.out.m, HA.out.row⟩).keep hk4 hMl hB.1 hE.1 hE.2.1 hE.2.2.1 hEg)
          clear hJ4 hk4
          gi_wp2
          go_roundw
          case rel => exact ⟨j + 1, by omega, by go_num, HA4.out, by rw [HT.out]; exact HJ4.out⟩
          case measure => simp [intOf]; omega
        · gi_wp2
          refine bodyPost_ret (results_none rfl _ _ _) rfl ?_
          refine ⟨⟨_, rfl⟩, .inr ⟨_, ?_, hJx4⟩⟩
          rw [← HT.out]
          exact HP1.out
      · have hge : ¬ (j : Int) < (ks.length : Int) := by omega
        gi_wp2
        go_end0
        obtain rfl : j = ks.length := by omega
        refine ⟨⟨_, rfl⟩, .inl ?_⟩
        have := HJR.out
        rwa [List.take_length] at this

abbrev MemO (p : Po) (ks : List Int) := { m : Mem // ∃ x, x ∈ ks ∧ p.all x = some m }
def valsM {p : Po} {ks : List Int} (l : List (MemO p ks)) : List Mem := l.map fun m => m.val
theorem all_stops {B Bx Xp X M O nn : Nat} {E : Nat → Prop} {p : Po} {ks : List Int} {w : World}
    (hBx : w.heap[Bx]? = some (.cells #[.pointer (some ⟨Xp, 0, none⟩)] 24 (0, 0))) (hXp : w.heap[Xp]? = some (poolCells p X M O)) (hM : MapIs M nn p.allV w) (hks : KeysOf p.all ks) (hn : nn ≤ 1000000)
    (hB : M < B ∧ B ≤ w.heap.size) (hE : ¬ E Bx ∧ ¬ E Xp ∧ ¬ E M ∧ ∀ i, E i → i < B) :
    SeqStopsK Fence.wide 8 Try.prog 25 #[.pointer (some ⟨Bx, 0, none⟩)] (fun m : MemO p ks => #[Value.agg #[.int .i64 m.val.id, .int .u32 m.val.addr, .int .i64 m.val.port], .int .i64 m.val.state]) (KeepP B E) (fun ys => valsM ys = ks.filterMap p.all) (fun pre => valsM pre <+: ks.filterMap p.all) ks.length w := by
  intro l J Jx W hW hJ _ hY h0
  have hap : ∀ (a : List (MemO p ks)) (x : MemO p ks), valsM (a ++ [x]) = valsM a ++ [x.val] := fun a x => by simp [valsM]
  have hlen : ∀ a : List (MemO p ks), a.length = (valsM a).length := fun a => by simp [valsM]
  have hMl := hM.lt
  have hres := all1_in l B Bx Xp X M O nn E p ks (fun q W => ∃ r, valsM r = q ∧ J r W) (fun q W => ∃ r, valsM r = q ∧ Jx r W) W
    (fun s A C row hs hg hr => by obtain ⟨q, h1, h2⟩ := hs; exact ⟨q, h1, hJ q A C row h2 hg hr⟩)
    (fun pre x m W2 h1 h2 hp hl => by
      obtain ⟨q, rfl, hq⟩ := hp
      obtain ⟨fn, tmps, assign, body, hy, hR⟩ := hY q ⟨m, x, h1, h2⟩ W2 hq (by rw [hlen]; exact hl)
      refine ⟨fn, tmps, assign, body, hy, hR.mono ?_⟩
      rintro e W' (⟨he, h3, h4⟩ | ⟨he, h3⟩)
      · exact .inl ⟨he, ⟨_, hap q ⟨m, x, h1, h2⟩, h3⟩, h4⟩
      · exact .inr ⟨he, ⟨_, hap q ⟨m, x, h1, h2⟩, h3⟩⟩)
    ((hW.block _ (Array.getElem?_eq_some_iff.1 hBx).1).trans hBx) ((hW.block _ (Array.getElem?_eq_some_iff.1 hXp).1).trans hXp) (hM.block (hW.block _ hMl)) hks hn ⟨hB.1, Nat.le_trans hB.2 hW.size⟩ hE ⟨[], rfl, h0⟩
  refine hres.mono ?_
  rintro e W' ⟨hv, h | h⟩
  · obtain ⟨q, h2, h3⟩ := h
    exact ⟨hv, .inl ⟨q, h2, h3⟩⟩
  · obtain ⟨pre, h1, q, h2, h3⟩ := h
    exact ⟨hv, .inr ⟨q, by show valsM q <+: _; rw [h2]; exact h1, h3⟩⟩
/-- The call of All. -/
theorem all12 (Xp : Nat) (w : World) : CallsIn Fence.wide 8 Try.prog 12 #[.pointer (some ⟨Xp, 0, none⟩)] w fun e w' => e = .returned (.func (.func 25) #[] #[.pointer (some ⟨w.heap.size, 0, none⟩)]) ∧ w' = w.alloc (.cells #[.pointer (some ⟨Xp, 0, none⟩)] 24) := by
  refine callsIn_of_wp Try.func12 rfl trivial ?_ rfl
  simp only [Try.ntmps12, List.size_toArray, List.length_cons, List.length_nil, Nat.reduceAdd, Nat.reduceSub, Array.replicate_succ, Array.replicate_zero, List.push_toArray, List.append_toArray, List.nil_append, List.cons_append]
  gi_wp2
  go_ret
  exact ⟨rfl, rfl⟩
end Go.Proofs.Ytlipkffnllmkgaa
