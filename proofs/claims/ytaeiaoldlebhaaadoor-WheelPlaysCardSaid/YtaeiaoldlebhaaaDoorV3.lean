import Derived.Test.YtaeiaoldlebhaaaDoorV2
import Derived.Test.YtaeiaoldlebhaaaDoorWM
namespace Go.Proofs.YtaeiaoldlebhaaaDoor
open Go.RowKit Go.Shelf Go.Maps Go.Lib
attribute [local go_sem] Oper.semAt_some

theorem round_wide {n m : Nat} {P : Program} {l : Nat} {f : FuncId} {tmps : Array Value} {assign body : Code} {w : World} {R : Ending → World → Prop} (h : RoundIn Fence.wide n P l f tmps assign body w R) : RoundIn Fence.wide m P l f tmps assign body w R :=
  ⟨h.1, fun c cs _ => h.2 c cs (room_wide _)⟩
theorem yield_wide {n m : Nat} {P : Program} {l : Nat} {args : Array Value} {w : World} {R : Ending → World → Prop} (h : YieldAt Fence.wide n P l args w R) : YieldAt Fence.wide m P l args w R := by
  obtain ⟨fn, tmps, assign, body, h1, h2⟩ := h
  exact ⟨fn, tmps, assign, body, h1, round_wide h2⟩
/-- The values' iterator, as its loops want it. -/
theorem vals_own {Bv g n cap B x : Nat} {cur : Array Value} {l : List Ent} {w : World} (hh : ValsHeld Bv g n cap cur w) (hc : cur.toList.take (n * 3) = entsC l) (hn : l.length = n) (hsz : n < 1099511627776) (hcap : n ≤ cap) (hcap2 : cap ≤ maxLen)
    (hB : B ≤ Bv ∧ Bv ≠ x) (hg : B ≤ g ∧ g ≠ x) :
    SeqOwn Fence.wide 7 Tryd.prog 134 #[.pointer (some ⟨Bv, 0, none⟩)] (fun e : Ent => #[.agg #[.int .i64 e.key, .int .i64 (e.due : Int), .int .i64 (e.ord : Int)]]) (KeepB B x) (fun ys => ys = l) (fun pre => pre <+: l) n w := by
  intro lp J Jx W hW _ hJ _ hY h0
  refine (vals_in lp B x Bv g n cap cur l J Jx W W.heap.size hJ (fun pre e W1 hp h1 h2 => hY pre e W1 hp h1 h2) (hh.below hW) hc hn hsz hcap hcap2 hB hg h0).mono ?_
  rintro e W' ⟨hv, h⟩
  refine ⟨hv, ?_⟩
  rcases h with h | ⟨pre, h1, h2⟩
  · exact .inl ⟨l, rfl, h⟩
  · exact .inr ⟨pre, h1, h2⟩
/-- A box of one value, and a turn of what is no cells. -/
theorem box_own {B : Nat} {cs : Array Value} {t : TypeId} {W W' : World} {row : Option Nat} (h : W.heap[B]? = some (.cells cs t (0, 0))) (hg : W.grownBy W' row) (hr : ∀ r, row = some r → ∃ o : Obj, W.heap[r]? = some o ∧ o.isCells = false) : W'.heap[B]? = some (.cells cs t (0, 0)) :=
  (hg.block B (Array.getElem?_eq_some_iff.1 h).1 (fun e => by
    obtain ⟨o, ho, hc⟩ := hr B e.symm
    rw [h] at ho
    cases ho
    cases hc)).trans h
theorem ownFrom_more {β : Type} {B B' : Nat} {I : β → World → Prop} (h : OwnFrom B I) (hB : B ≤ B') : OwnFrom B' I :=
  fun s W W' row hs hg hr => h s W W' row hs hg (fun r e => ⟨Nat.le_trans hB (hr r e).1, (hr r e).2⟩)
theorem keepsFrom_of {B L : Nat} {W W' : World} (h : KeepB B 0 W W') (hB : 0 < B ∧ B ≤ L) : KeepsFrom L W W' :=
  ⟨h.1, fun k o hk ho hc => h.2 k o (by omega) (by omega) ho (by
    rintro ⟨c, r, e⟩
    subst e
    cases hc)⟩
set_option maxRecDepth 100000 in
set_option maxHeartbeats 4000000 in
theorem all62_in {S : Nat → Prop} {W now o : Nat} {L : List Ent} (lp B Bx : Nat) (J Jx : List Ent → World → Prop) (W0 : World) (hJ : OwnFrom W0.heap.size J) (hJx : OwnFrom W0.heap.size Jx)
    (hY : ∀ pre e W, pre ++ [e] <+: L → J pre W → pre.length < L.length → YieldAt Fence.wide 5 Tryd.prog lp #[.int .i64 e.key, .int .i64 (e.due : Int)] W fun v W' =>
      (v = .returned (.bool true) ∧ J (pre ++ [e]) W' ∧ KeepB B 0 W W') ∨ (v = .returned (.bool false) ∧ Jx (pre ++ [e]) W' ∧ KeepB B 0 W W'))
    (hBx : W0.heap[Bx]? = some (.cells #[.pointer (some ⟨W, 0, none⟩)] 24 (0, 0))) (hW : Whl S W now o L W0) (hB : 0 < B ∧ B ≤ W0.heap.size) (h0 : J [] W0) :
    CallsIn Fence.wide 8 Tryd.prog 62 #[.func (.yield lp) #[] #[], .pointer (some ⟨Bx, 0, none⟩)] W0 fun e W' => (∃ v, e = .returned v) ∧ (J L W' ∨ ∃ pre, pre <+: L ∧ Jx pre W') := by
  have HJ := Lib.hid hJ
  have HJX := Lib.hid hJx
  have HY := Lib.hid hY
  have H0 := Lib.hid h0
  have HW := Lib.hid hW
  have hln : L.length < 1099511627776 := by have := hW.wh.len; have := hW.ob; omega
  have hBxl := (Array.getElem?_eq_some_iff.1 hBx).1
  have c0 : (W0.alloc (.cells #[.func (.yield lp) #[] #[]] 140)).cell? ⟨Bx, 0, none⟩ = some (.pointer (some ⟨W, 0, none⟩)) := by
    have h1 := (Below.heap_alloc W0 (.cells #[.func (.yield lp) #[] #[]] 140) Bx hBxl).trans hBx
    simp [World.cell?, h1]
  have hWa := hW.below ((Below.refl W0.heap.size W0).alloc (Nat.le_refl _) (.cells #[.func (.yield lp) #[] #[]] 140))
  have HIN := Lib.hid (inorder63 hWa)
  clear hJ hJx hY h0 hW hWa hBx
  refine callsIn_of_wp_marks Tryd.func62 rfl trivial ?_ rfl
  simp only [Tryd.ntmps62, List.size_toArray, List.length_cons, List.length_nil, Nat.reduceAdd, Nat.reduceSub, Array.replicate_succ, Array.replicate_zero, List.push_toArray, List.append_toArray, List.nil_append, List.cons_append]
  gi_wp2_with (refine ⟨trivial, ?_⟩; gi_at_call 63; refine (callsIn_wide.2 HIN.out).mono ?_; rintro e w3 ⟨Bv, g, cap, cur, rfl, hh, hc, hcap, hcap2, hBv, hg, hb⟩)
  have hs3 : W0.heap.size + 1 ≤ w3.heap.size := by have := hb.size; simpa using this
  have hbw : Below W0.heap.size W0 w3 := (((Below.refl W0.heap.size W0).alloc (Nat.le_refl _) (.cells #[.func (.yield lp) #[] #[]] 140))).trans (hb.mono (by simp))
  have hJ3 : J [] w3 := HJ.out [] W0 w3 none H0.out ⟨hbw.os, hbw.tape, hbw.output, hbw.size, fun k hk _ => hbw.block k hk⟩ (fun r e => by cases e)
  have hby : w3.heap[W0.heap.size]? = some (.cells #[.func (.yield lp) #[] #[]] 140 (0, 0)) := (hb.block W0.heap.size (by simp)).trans (heap_alloc_new W0 _)
  rw [World.size_alloc] at hBv hg
  have hBvl := (Array.getElem?_eq_some_iff.1 hh.bx).1
  have hgl := (Array.getElem?_eq_some_iff.1 hh.row).1
  have hseq := vals_own (B := B) (x := w3.heap.size + 1) (w := w3) hh hc rfl hln hcap hcap2 (by omega) (by omega)
  have HSEQ := Lib.hid hseq
  have hJo : OwnFrom w3.heap.size J := ownFrom_more HJ.out (by omega)
  have hJxo : OwnFrom w3.heap.size Jx := ownFrom_more HJX.out (by omega)
  clear hb hbw hh hc hcap hcap2 hBv hg hBvl hgl hseq HIN c0
  refine range_own (α := Ent) rfl (by omega) (gf := 134) (lb := #[.pointer (some ⟨Bv, 0, none⟩)]) rfl trivial (enters_of Tryd.func134 (by kernel_rfl) rfl) HSEQ.out
    (fun h h' => h.trans h') (fun W o => KeepB.put W o) (Below.refl _ _) (fun _ => rfl)
    (fun pre W1 => J pre W1 ∧ W1.heap[W0.heap.size]? = some (.cells #[.func (.yield lp) #[] #[]] 140 (0, 0)))
    (fun c pre W1 => c = .ret ∧ Jx pre W1)
    (fun s A1 B1 row hs hg hr => ⟨hJo s A1 B1 row hs.1 hg hr, box_own hs.2 hg (fun r e => (hr r e).2)⟩)
    (fun c s A1 B1 row hs hg hr => ⟨hs.1, hJxo s A1 B1 row hs.2 hg hr⟩)
    ⟨hJ3, hby⟩
    (fun e a' W1 => ∃ q, W1.heap[q]? = some (.cells #[.int .i64 e.key, .int .i64 (e.due : Int), .int .i64 (e.ord : Int)] 109 (0, 0)) ∧ a' = { tmps := #[.func (.yield lp) #[] #[], .pointer (some ⟨Bx, 0, none⟩), .pointer (some ⟨W0.heap.size, 0, none⟩), .pointer (some ⟨q, 0, none⟩), .pointer (some ⟨W, 0, none⟩), .func (.func 134) #[] #[.pointer (some ⟨Bv, 0, none⟩)], .agg #[.int .i64 e.key, .int .i64 (e.due : Int), .int .i64 (e.ord : Int)], undef, undef, undef, undef, undef, undef, undef], defers := [] })
    (fun e a' _ A1 B1 row hs hg hr => by
      obtain ⟨q, h1, h2⟩ := hs
      exact ⟨q, box_own h1 hg (fun r e => (hr r e).2), h2⟩)
    ?assign ?body ?done ?stop
  case assign =>
    rintro l pre ⟨k, d, o2⟩ W1 K ⟨hj, hy⟩ hK
    have hjA := hJo.alloc (.cells #[.int .i64 k, .int .i64 (d : Int), .int .i64 (o2 : Int)] 109) hj
    have hyA := (Below.heap_alloc W1 (.cells #[.int .i64 k, .int .i64 (d : Int), .int .i64 (o2 : Int)] 109) W0.heap.size (Array.getElem?_eq_some_iff.1 hy).1).trans hy
    have HK := Lib.hid hK
    clear hj hy hK
    gi_wp2
    exact HK.out _ _ ((KeepsOthers.alloc _ _).from _) (KeepB.of_below ((Below.refl _ _).alloc (Nat.le_refl _) _)) ⟨hjA, hyA⟩ ⟨W1.heap.size, heap_alloc_new _ _, rfl⟩
  case body =>
    rintro l pre ⟨k, d, o2⟩ a' W1 ⟨hj, hy⟩ ⟨q, hq, rfl⟩ hlt hlen hsp
    obtain ⟨⟨b0, b1, b2⟩, _⟩ := cells3 hq
    have cy : W1.cell? ⟨W0.heap.size, 0, none⟩ = some (.func (.yield lp) #[] #[]) := by simp [World.cell?, hy]
    obtain ⟨fn, tmps, assign, body, hyy, hR⟩ := HY.out _ ⟨k, d, o2⟩ _ hsp hj hlen
    dsimp only at hyy b0 b1 b2
    have HR := Lib.hid hR
    have HYB := Lib.hid hy
    clear hR hy hq hj
    gi_wp2
    refine RoundIn.mono (show RoundIn (Fence.wide.inRound l) 5 Tryd.prog lp fn tmps assign body W1 _ from HR.out) ?_
    rintro e W4 (⟨rfl, hj4, hk4⟩ | ⟨rfl, hj4, hk4⟩)
    · have HE := Lib.hid (show KeepsFrom w3.heap.size W1 W4 ∧ KeepB B (w3.heap.size + 1) W1 W4 ∧ (J (pre ++ [⟨k, d, o2⟩]) W4 ∧ W4.heap[W0.heap.size]? = some (.cells #[.func (.yield lp) #[] #[]] 140 (0, 0))) from
        ⟨keepsFrom_of hk4 (by omega), hk4.mono (Nat.le_refl _) (by omega), hj4, hk4.2 _ _ (by omega) (by omega) HYB.out (notIntRow (by decide))⟩)
      clear hj4 hk4
      gi_wp2
      exact HE.out
    · have HE := Lib.hid (show KeepsFrom w3.heap.size W1 W4 ∧ KeepB B (w3.heap.size + 1) W1 W4 ∧ (Code.ret = Code.ret ∧ Jx (pre ++ [⟨k, d, o2⟩]) W4) from
        ⟨keepsFrom_of hk4 (by omega), hk4.mono (Nat.le_refl _) (by omega), rfl, hj4⟩)
      clear hj4 hk4
      gi_wp2
      exact ⟨HE.out.1, HE.out.2.1, rfl, HE.out.2.2.2⟩
  case done =>
    rintro xs W1 rfl ⟨hj, _⟩ hK
    have HJ9 := Lib.hid (hJo.putObj (.deferred none) hj (Nat.le_refl _) hK rfl)
    have HT := Lib.hid (run_takeDeferred (P := Tryd.prog) hK)
    clear hj hK
    gi_wp2
    refine ⟨by simp, .inl ⟨_, _, rfl, HT.out, ?_⟩⟩
    exact ⟨_, results_none rfl _ _ _, ⟨_, rfl⟩, .inl HJ9.out⟩
  case stop =>
    rintro c pre W1 hSp ⟨rfl, hj⟩ hK
    have HJ9 := Lib.hid (hJxo.putObj (.deferred none) hj (Nat.le_refl _) hK rfl)
    have HT := Lib.hid (run_takeDeferred (P := Tryd.prog) hK)
    clear hj hK
    gi_wp2
    refine ⟨by simp, .inl ⟨_, _, rfl, HT.out, ?_⟩⟩
    exact ⟨_, results_none rfl _ _ _, ⟨_, rfl⟩, .inr ⟨pre, hSp, HJ9.out⟩⟩
/-- The iterator All of a wheel, as its loops want it. -/
theorem all62_own {S : Nat → Prop} {W now o : Nat} {L : List Ent} {B Bx : Nat} {w : World} (hBx : w.heap[Bx]? = some (.cells #[.pointer (some ⟨W, 0, none⟩)] 24 (0, 0))) (hW : Whl S W now o L w) (hB : 0 < B ∧ B ≤ w.heap.size + 2) :
    SeqOwn Fence.wide 8 Tryd.prog 62 #[.pointer (some ⟨Bx, 0, none⟩)] (fun e : Ent => #[.int .i64 e.key, .int .i64 (e.due : Int)]) (KeepB B 0) (fun ys => ys = L) (fun pre => pre <+: L) L.length w := by
  intro lp J Jx W1 hb hl hJ hJx hY h0
  refine (all62_in (S := S) (W := W) (now := now) (o := o) (L := L) lp B Bx J Jx W1 hJ hJx (fun pre e W2 hp h1 h2 => yield_wide (hY pre e W2 hp h1 h2)) ((hb.block _ (Array.getElem?_eq_some_iff.1 hBx).1).trans hBx) (hW.below hb) (by omega) h0).mono ?_
  rintro e W' ⟨hv, h⟩
  refine ⟨hv, ?_⟩
  rcases h with h | ⟨pre, h1, h2⟩
  · exact .inl ⟨L, rfl, h⟩
  · exact .inr ⟨pre, h1, h2⟩
/-- The call of All. -/
theorem all28 (W : Nat) (w : World) : Calls Tryd.prog 28 #[.pointer (some ⟨W, 0, none⟩)] w fun e w' => e = .returned (.func (.func 62) #[] #[.pointer (some ⟨w.heap.size, 0, none⟩)]) ∧ w' = w.alloc (.cells #[.pointer (some ⟨W, 0, none⟩)] 24) := by
  go_enter Tryd.func28, Tryd.ntmps28
  go_wp2
  go_ret
  exact ⟨rfl, rfl⟩
end Go.Proofs.YtaeiaoldlebhaaaDoor
