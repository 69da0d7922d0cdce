import Derived.Test.YtladjipicifplaaG3
import Derived.Deep.CutRange
import Derived.Test.YtladjipicifplaaDH
import Derived.Deep.CutBlock
import Derived.Deep.RegionWith
namespace Go.Proofs.Ytladjipicifplaa
open Go.RowKit Go.Shelf
attribute [local go_sem] Oper.semAt_some

theorem add_off (x : Addr) (i j : Nat) : ({ block := (x.add i).block, off := (x.add i).off + (j + 1) } : Addr) = x.add (i + (j + 1)) := by
  by_cases e : i = 0
  · subst e; simp [Addr.add]
  · simp [Addr.add, e, Nat.add_assoc]
theorem DeedsIn.read {w wr : World} {a : Option Addr} {len cap i : Nat} (h : DeedsIn w a len cap) (hb : Below w.heap.size w wr) (hi : i < len) : ∃ x, ∃ k b u : Int, a = some x ∧ (wr.cell? (x.add (i * 3)) = some (.int .i64 k) ∧ wr.cell? { block := (x.add (i * 3)).block, off := (x.add (i * 3)).off + 1 } = some (.int .i64 b) ∧ wr.cell? { block := (x.add (i * 3)).block, off := (x.add (i * 3)).off + 2 } = some (.int .u64 u)) ∧ (Lit.int .i64 k).wf = true ∧ (Lit.int .i64 b).wf = true ∧ (Lit.int .u64 u).wf = true := by
  rcases h with ⟨_, e, _⟩ | ⟨x, rfl, _, _, h⟩
  · omega
  · obtain ⟨k, b, u, h0, h1, h2, h3⟩ := h i hi
    exact ⟨x, k, b, u, rfl, ⟨(hb.cell (World.block_lt_of_cell? _ _ h0)).trans h0, by rw [add_off]; exact (hb.cell (World.block_lt_of_cell? _ _ h1)).trans h1, by rw [add_off]; exact (hb.cell (World.block_lt_of_cell? _ _ h2)).trans h2⟩, h3⟩
theorem DeedsIn.len {w : World} {a : Option Addr} {len cap : Nat} (h : DeedsIn w a len cap) : len ≤ cap ∧ cap ≤ maxLen := by
  rcases h with ⟨_, rfl, rfl⟩ | ⟨x, _, h1, h2, _⟩
  · exact ⟨Nat.le_refl _, by decide⟩
  · exact ⟨h1, h2⟩

theorem deed_box {W : World} {D : Nat} {a b c : Value} {t : TypeId} (h : W.heap[D]? = some (.cells #[a, b, c] t (0, 0))) : (W.cell? ⟨D, 0, none⟩ = some a ∧ W.cell? ⟨D, 1, none⟩ = some b ∧ W.cell? ⟨D, 2, none⟩ = some c) ∧ W.frozen? ⟨D, 0, none⟩ = false ∧ W.frozen? ⟨D, 1, none⟩ = false ∧ W.frozen? ⟨D, 2, none⟩ = false := by
  refine ⟨⟨?_, ?_, ?_⟩, ?_, ?_, ?_⟩ <;> simp [World.cell?, World.frozen?, h]

theorem i64_bounds {x : Int} (h : (Lit.int .i64 x).wf = true) : -9223372036854775808 ≤ x ∧ x ≤ 9223372036854775807 := by
  simp [Lit.wf, IntKind.min, IntKind.max, IntKind.signed, IntKind.bits] at h
  exact ⟨by omega, by omega⟩

theorem PlaySt.reads {w : World} {B X Y r C D : Nat} {a b c p : Value} {c1 c2 : Anc} {wr : World} (h : PlaySt w B X Y r [(D, .cells #[a, b, c] 42 (0, 0)), (C, .cells #[p] 39 (0, 0))] c1 c2 wr) :
    wr.cell? ⟨D, 0, none⟩ = some a ∧ wr.cell? ⟨D, 1, none⟩ = some b ∧ wr.cell? ⟨D, 2, none⟩ = some c ∧ wr.cell? ⟨C, 0, none⟩ = some p ∧ wr.cell? ⟨w.heap.size, 0, none⟩ = some (.int .i64 (r : Int)) := by
  obtain ⟨⟨e0, e1, e2⟩, _⟩ := deed_box (h.both.has (List.mem_cons_self ..))
  exact ⟨e0, e1, e2, (box_cell5 (h.both.has (List.mem_cons_of_mem _ (List.mem_cons_self ..)))).1, h.boxes.1.1⟩

/-- What a body that never panics must achieve, marks and all. -/
def endPost (fn : Func) (R : Ending → World → Prop) : Exit → Act → World → Prop
  | .normal, a, w | .ret, a, w => LeavesInM Fence.wide 9 Try.prog fn a.tmps R a.defers .returning w
  | _, _, _ => False
theorem calls_of_ends {f : FuncId} {fn : Func} {c : Code} {args : Array Value} {w : World} {R : Ending → World → Prop} (hf : Try.prog.funcs[f]? = some fn) (hb : fn.body = some c)
    (h : c.wp Try.prog (endPost fn R) { tmps := args ++ Array.replicate (fn.ntmps - args.size) undef, defers := [] } w) : Calls Try.prog f args w R :=
  (callsIn_wide (n := 9)).1 (callsIn_of_wp_marks hf hb trivial (wpIn_wide.2 (wp_mono h (fun e a w hq => by cases e <;> first | exact hq | exact hq.elim))) rfl)

theorem PlaySt.drew {w : World} {B X Y r : Nat} {Cs : List (Nat × Obj)} {c c2 : Anc} {wr : World} (h : PlaySt w B X Y r Cs c c2 wr) : PlaySt w B X Y r Cs c c2 wr.drew := h.below ((Below.refl _ _).drew)

theorem lastOf_ge (pre : List Nat) : -1 ≤ lastOf pre := by
  unfold lastOf
  cases pre.getLast? with
  | none => simp
  | some y => simp

/-- Which bucket is told next. -/
theorem next_is {a : Anc} {r : Nat} {pre : List Nat} {x t : Nat} (h : pre ++ [x] <+: workTo a r) (h1 : workTo a t = pre) (h2 : t < r) (h3 : a.gone t = 0) : x = t := by
  have h4 := workTo_prefix a (t + 1) (r - (t + 1))
  rw [show t + 1 + (r - (t + 1)) = r from by omega] at h4
  rw [workTo_yes a t h3, h1] at h4
  have h5 := List.prefix_of_prefix_length_le h h4 (by simp)
  have h6 := h5.eq_of_length (by simp)
  simpa using h6

theorem cur_step {S0 t : Nat} {w5 W wr : World} (hv : wr.heap[S0]? = some (.cells #[.int .i64 (t : Int)] 3 (0, 0))) (hB : Below S0 w5 wr) (hK : KeepsOthers W wr) :
    ((wr.setCell ⟨S0, 0, none⟩ (.int .i64 ((t : Int) + 1))).drew.heap[S0]? = some (.cells #[.int .i64 ((t + 1 : Nat) : Int)] 3 (0, 0))) ∧ Below S0 w5 (wr.setCell ⟨S0, 0, none⟩ (.int .i64 ((t : Int) + 1))).drew ∧ KeepsOthers W (wr.setCell ⟨S0, 0, none⟩ (.int .i64 ((t : Int) + 1))).drew :=
  ⟨box_set5 hv _, ((hB.setCell (p := ⟨S0, 0, none⟩) (Nat.le_refl _) _).drew), hK.trans ((KeepsOthers.setCell wr ⟨S0, 0, none⟩ _).trans ⟨Nat.le_refl _, fun _ _ h _ => h⟩)⟩
theorem cur_leave {S0 s : Nat} {w5 W wr : World} (h5 : w5.heap[s + 1]? = some (.cells #[.bool false] 4 (0, 0))) (hs : s + 1 < S0) (hB : Below S0 w5 wr) (hK : KeepsOthers W wr) :
    Below S0 w5 (wr.setCell ⟨s + 1, 0, none⟩ (.bool false)).drew ∧ KeepsOthers W (wr.setCell ⟨s + 1, 0, none⟩ (.bool false)).drew := by
  refine ⟨?_, hK.trans ((KeepsOthers.setCell wr ⟨s + 1, 0, none⟩ _).trans ⟨Nat.le_refl _, fun _ _ h _ => h⟩)⟩
  have h6 : wr.heap[s + 1]? = some (.cells #[.bool false] 4 (0, 0)) := (hB.block _ hs).trans h5
  refine (hB.trans ⟨rfl, rfl, rfl, by simp [World.setCell], fun b hb => ?_⟩ : Below S0 w5 (wr.setCell ⟨s + 1, 0, none⟩ (.bool false))).drew
  by_cases eb : b = s + 1
  · subst eb
    exact (box_set5 h6 (.bool false)).trans h6.symm
  · exact Below.heap_setCell _ _ _ _ eb
theorem keep_one {S0 L : Nat} {w5 W W' : World} (hL : L < S0) (h : Below S0 w5 W) (h' : Below S0 w5 W') (hK : KeepsOthers W W') : KeepOne L W W' := ⟨(h'.block L hL).trans (h.block L hL).symm, hK.size⟩

theorem plays_leave {w W : World} {B X Y r D : Nat} {Cs : List (Nat × Obj)} {c c2 : Anc} (h : PlaySt w B X Y r Cs c c2 W) (hD : W.heap[D]? = some (.deferred (some []))) (hl : w.heap.size + 1 < D) (n : Nat) :
    ((W.drewN n).setCell ⟨w.heap.size + 1, 0, none⟩ (.bool true)).heap[D]? = some (.deferred (some [])) ∧
    (((W.drewN n).setCell ⟨w.heap.size + 1, 0, none⟩ (.bool true)).putObj D (.deferred none)).cell? ⟨w.heap.size + 1, 0, none⟩ = some (.bool true) ∧
    Below w.heap.size w (((W.drewN n).setCell ⟨w.heap.size + 1, 0, none⟩ (.bool true)).putObj D (.deferred none)) := by
  have h2 := h.drewN n
  have hD2 : (W.drewN n).heap[D]? = some (.deferred (some [])) := hD
  have hk2 : ((W.drewN n).setCell ⟨w.heap.size + 1, 0, none⟩ (.bool true)).heap[D]? = some (.deferred (some [])) := (Below.heap_setCell _ ⟨w.heap.size + 1, 0, none⟩ _ D (by simp; omega)).trans hD2
  have d3 := cell_set_eq (v := Value.bool true) h2.boxes.2.1
  have d4 := cell_kept d3 (grownBy_putObj' _ D (.deferred none)) (fun r e => by cases e; exact ⟨_, hk2, rfl⟩)
  exact ⟨hk2, d4, (h2.old.setCell (p := ⟨w.heap.size + 1, 0, none⟩) (by simp) _).trans (belowK_b (w := w) (Nat.le_refl _) _ D _ _ (by omega) hk2 rfl rfl)⟩

theorem plays_begin {w wc wx wy : World} {r k X Y gA gW gL gK rbase cW cL cK : Nat} {rsv : Value} (hB : Below w.heap.size w wc) (h0 : wc.heap[w.heap.size]? = some (.cells #[.int .i64 (r : Int)] 3 (0, 0))) (h1 : wc.heap[w.heap.size + 1]? = some (.cells #[.bool false] 4 (0, 0))) (hk : w.heap.size + 1 < wc.heap.size)
    (hL : Lies wc.heap.size X r (newAnc r (r - k)) wx) (hBx : Below wc.heap.size wc wx) (hBy : Below wx.heap.size wx wy) (hR : RefAt Y gA gW gL gK rbase cW cL cK rsv (newAnc r (r - k)) wy) (hge : wx.heap.size ≤ Y ∧ wx.heap.size ≤ gA ∧ wx.heap.size ≤ gW ∧ wx.heap.size ≤ gL ∧ wx.heap.size ≤ gK ∧ wx.heap.size ≤ rbase) (h1k : 1 ≤ k) (hkr : k ≤ r) (_hr : r ≤ 65536) :
    PlaySt w wc.heap.size X Y r [] (newAnc r (r - k)) (newAnc r (r - k)) wy := by
  have hb2 : Below wc.heap.size wc wy := hBx.trans (hBy.mono hBx.size)
  exact ⟨(pair_start hL hBy hR hge (newAnc_reach r (r - k) (by omega))).guard, (hb2.block _ (by omega)).trans h0, (hb2.block _ hk).trans h1, hk, hB.trans (hb2.mono (by omega))⟩

set_option maxRecDepth 100000 in
set_option maxHeartbeats 8000000 in
theorem plays_ok (a0 : Int) (a2 : Option Addr) (len2 cap2 : Nat) (w : World) (r k : Nat) (hR : (if 60 < a0 ∧ a0 ≤ 65536 then a0.tmod 61 else a0) = (r : Int)) (hk1 : 1 ≤ k) (hk2 : k ≤ r) (hr : r ≤ 65536) (w2 : DeedsIn w a2 len2 cap2) :
    Calls Try.prog 8 #[.int .i64 a0, .int .i64 (k : Int), .slice a2 len2 cap2] w fun e w' => e = .returned (.bool true) ∧ Below w.heap.size w w' := by
  have W2 := Lib.hid w2
  have HRr := Lib.hid hR
  clear w2 hR
  refine calls_of_ends Try.func8 rfl ?_
  simp only [Try.ntmps8, List.size_toArray, List.length_cons, List.length_nil, Nat.reduceAdd, Nat.reduceSub, Array.replicate_succ, Array.replicate_zero, List.push_toArray, List.append_toArray, List.nil_append, List.cons_append]
  go_upto_region 4 with (go_at_call 20; refine (examples12 _).mono ?_; rintro e we ⟨rfl, hB⟩; obtain ⟨⟨q1, q2⟩, q3, q4⟩ := plays_start hB; have H0 := Lib.hid q1; have H1 := Lib.hid q2; have HB := Lib.hid q3; obtain ⟨c0, f0⟩ := box_cell5 q1; obtain ⟨c1, f1⟩ := box_cell5 q2; have k0 : w.heap.size < we.heap.size := Nat.lt_of_succ_lt q4; have k1 : w.heap.size + 1 < we.heap.size := q4; clear q1 q2 q3 q4 hB)
  go_cut [30] from 25 to 32 (fun s30 wc => s30 = .bool (decide (60 < a0 ∧ a0 ≤ 65536)) ∧ wc = we)
  case first =>
    by_cases h51 : 60 < a0
    · by_cases h52 : a0 ≤ 65536
      · go_wp2_with fail
        go_meet
        exact ⟨by simp [h51, h52], rfl⟩
      · go_wp2_with fail
        go_meet
        exact ⟨by simp [h51, h52], rfl⟩
    · go_wp2_with fail
      go_meet
      exact ⟨by simp; omega, rfl⟩
  case rest =>
    obtain ⟨rfl, rfl⟩ := hcut
    go_upto_if 30 with fail
    go_cut [] from 25 to 32 (fun wd => (wd.heap[w.heap.size]? = some (.cells #[.int .i64 (r : Int)] 3 (0, 0)) ∧ wd.heap[w.heap.size + 1]? = some (.cells #[.bool false] 4 (0, 0))) ∧ Below w.heap.size w wd)
    case first =>
      by_cases h5 : 60 < a0 ∧ a0 ≤ 65536
      · have hR := HRr.out
        rw [if_pos h5] at hR
        have hd : decide (60 < a0 ∧ a0 ≤ 65536) = true := by simp [h5]
        go_wp2_with fail
        go_meet
        refine ⟨⟨box_set5 H0.out _, plays_adj H1.out _⟩, HB.out.setCell (p := ⟨w.heap.size, 0, none⟩) (by simp) _⟩
      · have hR := HRr.out
        rw [if_neg h5] at hR
        have hd : decide (60 < a0 ∧ a0 ≤ 65536) = false := by simp [h5]
        subst hR
        go_wp2_with fail
        go_meet
        exact ⟨⟨H0.out, H1.out⟩, HB.out⟩
    case rest =>
      obtain ⟨⟨q1, q2⟩, q3⟩ := hcut
      have H0 := Lib.hid q1
      have H1 := Lib.hid q2
      have HB := Lib.hid q3
      have k1 : w.heap.size + 1 < wc.heap.size := (Array.getElem?_eq_some_iff.1 q2).1
      have K1 := Lib.hid k1
      obtain ⟨c0, f0⟩ := box_cell5 q1
      clear q1 q2 q3 k1
      go_wp2_with (first
        | (go_at_call 21; refine (lies_new r k _ hk1 hk2 hr).mono ?_; rintro e wx ⟨X, rfl, hL, hBx⟩; have HL := Lib.hid hL; have HBx := Lib.hid hBx; replace f0 := (hBx.frozen (p := ⟨w.heap.size, 0, none⟩) (World.block_lt_of_cell? _ _ c0)).trans f0; replace c0 := (hBx.cell (p := ⟨w.heap.size, 0, none⟩) (World.block_lt_of_cell? _ _ c0)).trans c0; clear hL hBx)
        | (go_at_call 22; refine (refNew_ok r k _ hk1 hk2 hr).mono ?_; rintro e wy ⟨Y, gA, gW, gL, gK, rbase, cW, cL, cK, rsv, rfl, hRef, hBy, hge⟩; have HP := Lib.hid (plays_begin HB.out H0.out H1.out K1.out HL.out HBx.out hBy hRef hge hk1 hk2 hr); clear c0 f0 hRef hBy hge))
      have HC := Lib.hid (show PlaySt w wc.heap.size X Y r [(wy.heap.size, .cells #[.pointer (some ⟨Y, 0, none⟩)] 39 (0, 0))] (newAnc r (r - k)) (newAnc r (r - k)) (wy.alloc (.cells #[.pointer (some ⟨Y, 0, none⟩)] 39)) from HP.out.push ((Below.refl _ _).alloc (Nat.le_refl _) _) (Nat.le_refl _) (World.alloc_heap_new _ _))
      clear HP HL HBx
      obtain ⟨C, hC⟩ : ∃ C, wy.heap.size = C := ⟨_, rfl⟩
      obtain ⟨B, hB⟩ : ∃ B, wc.heap.size = B := ⟨_, rfl⟩
      rw [hC, hB] at HC
      rw [hC]
      clear H0 H1 HB K1
      go_loopw [11] (fun ii wr => ∃ (i : Nat) (c : Anc), ii = .int .i64 (i : Int) ∧ i ≤ 60 ∧ PlaySt w B X Y r [(C, .cells #[.pointer (some ⟨Y, 0, none⟩)] 39 (0, 0))] c c wr) (fun ii _ => 60 - (intOf ii).toNat)
      case atStart => exact ⟨0, _, rfl, by omega, HC.out⟩
      case round =>
        obtain ⟨i, c, rfl, hi, hP⟩ := hrel
        have HP := Lib.hid hP
        clear hP
        by_cases hlt : i < len2 ∧ i < 60
        · obtain ⟨x, kd, bd, ud, rfl, ⟨d0, d1, d2⟩, v0, v1, v2⟩ := W2.out.read HP.out.old hlt.1
          obtain ⟨hl1, hl2⟩ := hlt
          obtain ⟨⟨c0, f0⟩, c1, f1⟩ := HP.out.boxes
          obtain ⟨c2, f2⟩ := box_cell5 (HP.out.both.has (List.mem_cons_self ..))
          have hi2 : (i : Int) < (len2 : Int) := by omega
          have hi3 : (i : Int) < 60 := by omega
          have V0 := Lib.hid v0
          have V1 := Lib.hid v1
          have V2 := Lib.hid v2
          clear v0 v1 v2
          go_upto_region 16 with fail
          have HD := Lib.hid (show PlaySt w B X Y r [(wr.heap.size, .cells #[.int .i64 kd, .int .i64 bd, .int .u64 ud] 42 (0, 0)), (C, .cells #[.pointer (some ⟨Y, 0, none⟩)] 39 (0, 0))] c c (wr.alloc (.cells #[.int .i64 kd, .int .i64 bd, .int .u64 ud] 42)) from HP.out.push ((Below.refl _ _).alloc (Nat.le_refl _) _) (Nat.le_refl _) (World.alloc_heap_new _ _))
          clear HP c0 f0 c1 f1 c2 f2 d0 d1 d2
          obtain ⟨D, hD⟩ : ∃ D, wr.heap.size = D := ⟨_, rfl⟩
          rw [hD] at HD ⊢
          obtain ⟨wd, hwd⟩ : ∃ wd, wr.alloc (.cells #[.int .i64 kd, .int .i64 bd, .int .u64 ud] 42) = wd := ⟨_, rfl⟩
          rw [hwd] at HD ⊢
          clear hwd hD
          obtain ⟨⟨e0, e1, e2⟩, z0, z1, z2⟩ := deed_box (HD.out.both.has (List.mem_cons_self ..))
          go_upto_if 76 with fail
          go_cut [13] from 59 to 145 (fun s13 wz => (∃ kk : Nat, s13 = .int .i64 (kk : Int)) ∧ wz = wd)
          case first =>
            have hb := i64_bounds V0.out
            by_cases hk : kd < 0
            · obtain ⟨kn, rfl⟩ : ∃ kn : Nat, kd = -(kn : Int) - 1 := ⟨(-kd - 1).toNat, by omega⟩
              have hk3 : (kn : Int) ≤ 9223372036854775807 := by omega
              go_wp2_with fail
              go_meet
              exact ⟨⟨kn, rfl⟩, rfl⟩
            · go_wp2_with fail
              go_meet
              exact ⟨⟨kd.toNat, by congr; omega⟩, rfl⟩
          case rest =>
            obtain ⟨⟨kk, rfl⟩, rfl⟩ := hcut
            obtain ⟨m, hm⟩ : ∃ m, (kk : Int).tmod 4 = m := ⟨_, rfl⟩
            have hm4 : m = 0 ∨ m = 1 ∨ m = 2 ∨ m = 3 := by rw [← hm, Int.tmod_eq_emod_of_nonneg (by omega)]; omega
            go_upto_block 2 with fail
            go_cut [14] from 59 to 145 (fun s14 wz => s14 = .bool true ∧ ∃ c', PlaySt w B X Y r [(C, .cells #[.pointer (some ⟨Y, 0, none⟩)] 39 (0, 0))] c' c' wz)
            case first =>
              clear e0 e1 e2 z0 z1 z2 hm
              obtain ⟨e0, e1, e2, e3, e4⟩ := HD.out.reads
              rcases hm4 with rfl | rfl | rfl | rfl
              · go_wp2_with (first
                  | (go_at_call 23; refine (HD.out.add).mono ?_; rintro e wp ⟨rfl, hS⟩; clear e0 e1 e2 e3 e4; replace HD := Lib.hid hS; clear hS; obtain ⟨e0, e1, e2, e3, e4⟩ := HD.out.reads)
                  | (go_at_call 24; refine (HD.out.refAdd).mono ?_; rintro e wp ⟨rfl, hS⟩; clear e0 e1 e2 e3 e4; replace HD := Lib.hid hS; clear hS; obtain ⟨e0, e1, e2, e3, e4⟩ := HD.out.reads))
                go_meet
                exact ⟨by simp, _, HD.out.drop⟩
              · go_upto_region 27 with fail
                go_region_with (first
                  | (go_at_call 25; first | refine (HD.out.remove _).mono ?_ | refine (HD.out.drew.remove _).mono ?_; rintro e wp ⟨rfl, hS⟩; clear e0 e1 e2 e3 e4; replace HD := Lib.hid hS; clear hS; obtain ⟨e0, e1, e2, e3, e4⟩ := HD.out.reads)
                  | (go_at_call 26; refine (HD.out.refRemove _).mono ?_; rintro e wp ⟨rfl, hS⟩; clear e0 e1 e2 e3 e4; replace HD := Lib.hid hS; clear hS; obtain ⟨e0, e1, e2, e3, e4⟩ := HD.out.reads))
                all_goals (go_wp2_with fail; go_meet; exact ⟨by simp, _, HD.out.drop⟩)
              · have hr0 : (r : Int) ≠ 0 := by omega
                go_upto_region 30 with fail
                go_region_with (first
                  | (go_at_call 25; first | refine (HD.out.remove _).mono ?_ | refine (HD.out.drew.remove _).mono ?_; rintro e wp ⟨rfl, hS⟩; clear e0 e1 e2 e3 e4; replace HD := Lib.hid hS; clear hS; obtain ⟨e0, e1, e2, e3, e4⟩ := HD.out.reads)
                  | (go_at_call 26; refine (HD.out.refRemove _).mono ?_; rintro e wp ⟨rfl, hS⟩; clear e0 e1 e2 e3 e4; replace HD := Lib.hid hS; clear hS; obtain ⟨e0, e1, e2, e3, e4⟩ := HD.out.reads))
                all_goals (go_wp2_with fail; go_meet; exact ⟨by simp, _, HD.out.drop⟩)
              · obtain ⟨ku, rfl, _⟩ := u64_nat V2.out
                obtain ⟨v, hv⟩ := find_all HD.out.both.lies.inv.1 ku
                have HV := Lib.hid hv
                clear hv
                go_upto_region 21 with fail
                go_quiet ((first
                  | (go_at_call 27; exact Calls.quiet_of ((HD.out.drewN _).bucket ku v HV.out))
                  | (go_at_call 28; exact Calls.quiet_of ((HD.out.drewN _).refBucket ku v HV.out))))
                go_wp2_with fail
                go_meet
                exact ⟨by simp, _, HD.out.drop.drewN _⟩
            case rest =>
              obtain ⟨rfl, c', hP⟩ := hcut
              have HP := Lib.hid hP
              obtain ⟨n5, g5⟩ := hP.ref
              obtain ⟨c2, f2⟩ := box_cell5 (hP.both.has (List.mem_cons_self ..))
              clear hP e0 e1 e2 z0 z1 z2 hm hm4 g5
              go_upto_region 31 with fail
              go_quiet ((go_at_call 29; exact Calls.quiet_of_same (lies_len' (HP.out.both.lies.drewN _) _ rfl)))
              go_wp2_with fail
              go_roundw
              case rel => exact ⟨i + 1, c', by go_num, by omega, HP.out.drewN _⟩
              case measure => simp [intOf]; omega
        · obtain ⟨w5, hw5⟩ : ∃ w5, w5 = wr := ⟨_, rfl⟩
          subst hw5
          by_cases hl1 : i < len2
          case' pos =>
            have hi2 : (i : Int) < (len2 : Int) := by omega
            have hi3 : ¬ (i : Int) < 60 := by omega
          case' neg =>
            have hi2 : ¬ (i : Int) < (len2 : Int) := by omega
          all_goals
            obtain ⟨⟨c0, f0⟩, c1, f1⟩ := HP.out.boxes
            obtain ⟨c2, f2⟩ := box_cell5 (HP.out.both.has (List.mem_cons_self ..))
            go_wp2_with (go_at_call 30; refine callsIn_wide.1 ((working_in Fence.wide 8 trivial rfl _ _).mono ?_); rintro e w' ⟨rfl, rfl⟩)
            refine (wpIn_wide (n := 9)).1 ?_
            refine wpIn_genw5 _ ?_
            intro W2 hW2
            refine wpIn_gen _ ?_
            intro A hA
            have hs2 : W2.heap.size = w5.heap.size + 2 := by rw [hW2]; simp
            have hb2 : Below w5.heap.size w5 W2 := by rw [hW2]; exact ((Below.refl _ w5).alloc (Nat.le_refl _) _).alloc (by simp) _
            have hAt : W2.heap[w5.heap.size]? = some (.cells #[.int .i64 0] 3 (0, 0)) := by
              rw [hW2]
              exact (Below.heap_alloc _ _ _ (by simp)).trans (World.alloc_heap_new w5 _)
            have hBx2 : W2.heap[w5.heap.size + 1]? = some (.cells #[.pointer (some ⟨X, 0, none⟩)] 35 (0, 0)) := by
              have h5 := World.alloc_heap_new (w5.alloc (.cells #[.int .i64 0] 3)) (.cells #[.pointer (some ⟨X, 0, none⟩)] 35)
              rw [World.size_alloc, ← hW2] at h5
              exact h5
            clear hW2 c0 f0 c1 f1 c2 f2 hi2
            try clear hi3
            obtain ⟨hI, hroom⟩ := HP.out.both.lies.inv
            obtain ⟨L, base, sv, hL, hBX, hBL, hre, hre1, hre2⟩ := HP.out.both.lies
            have hXw : X < w5.heap.size := by have := hL.hX; have := hL.hb; omega
            have hLw : L < w5.heap.size := by have := hL.hL; have := hL.hb; omega
            have hwl := workTo_len hre1 hre
            rw [← hroom] at hwl
            have hA2 := hL.below hb2
            have hst := working_stops Fence.wide 8 trivial rfl (by omega) (w5.heap.size + 1) X L c (by omega) W2 hBx2 hA2.fields.1 hA2.places (by omega) (by omega)
            clear hBX hBL hre hL hA2 hBx2
            obtain ⟨S0, hS0⟩ : ∃ S0, w5.heap.size = S0 := ⟨_, rfl⟩
            rw [hS0] at hs2 hb2 hAt hXw hLw
            have HS0 := Lib.hid hS0
            have hsS : w.heap.size + 1 < S0 := by have := (Array.getElem?_eq_some_iff.1 HP.out.res).1; omega
            refine wpIn_rangeFunc_ownG (α := Nat) rfl (by omega) (gf := 48) (lb := #[.pointer (some ⟨w5.heap.size + 1, 0, none⟩)]) (by rw [hA]; rfl) trivial (enters_of Try.func48 (by kernel_rfl) rfl) hst
              (fun h h' => ⟨h'.1.trans h.1, Nat.le_trans h.2 h'.2⟩) (fun W l o o' hl hlo _ _ => ?keep) (Below.refl _ _) (fun _ => rfl)
              (fun pre W => (∃ t0 : Nat, W.heap[S0]? = some (.cells #[.int .i64 (t0 : Int)] 3 (0, 0)) ∧ workTo c t0 = pre ∧ t0 ≤ r) ∧ Below S0 w5 W)
              (fun cd pre W => (cd = Code.ret ∧ ∃ (pre' : List Nat) (x t : Nat), pre = pre' ++ [x] ∧ x ≠ t ∧ workTo c t = pre' ∧ t < r ∧ c.gone t = 0) ∧ Below S0 w5 W)
              (OwnFrom.and ?own (ownFrom_below (by omega) (by omega)))
              (fun _ => OwnFrom.and ?ownx (ownFrom_below (by omega) (by omega)))
              ⟨⟨0, hAt, rfl, Nat.zero_le _⟩, hb2⟩
              (fun x => { tmps := (A.tmps.setIfInBounds 148 (.int .i64 (x : Int))).setIfInBounds 21 (.int .i64 (x : Int)), defers := [] }) ?assign ?body ?done ?stop
            case keep =>
              exact ⟨(grownBy_putObj' W l o').block _ (by have := (Array.getElem?_eq_some_iff.1 hlo).1; omega) (fun e => by cases e; omega), (grownBy_putObj' W l o').size⟩
            case own =>
              rintro pre A1 B1 row ⟨t0, hv, hle⟩ hg hr
              exact ⟨t0, (hg.block _ (Array.getElem?_eq_some_iff.1 hv).1 (fun e => by have := (hr _ e.symm).1; omega)).trans hv, hle⟩
            case ownx =>
              rintro pre A1 B1 row hs hg hr
              exact hs
            case assign =>
              intro l x W Kc hKc
              subst hA
              clear hs2 hS0
              simp only [List.setIfInBounds_toArray, List.set_cons_zero, List.set_cons_succ] at hKc
              gi_wp2
              exact hKc
            case stop =>
              rintro D cd pre W hD hsp ⟨⟨rfl, pre', x, t, rfl, hne, h1, h2, h3⟩, hBW⟩ hKD
              exact absurd (next_is (by rw [hroom] at hsp; exact hsp) h1 h2 h3) hne
            case body =>
              rintro l pre x W ⟨⟨t0, hv, ht0, hle⟩, hBW⟩ hlen
              rw [hroom] at hlen
              subst hA
              have HT0 := Lib.hid ht0
              have HBW := Lib.hid hBW
              have HV := Lib.hid hv
              have HLE := Lib.hid hle
              have HLEN := Lib.hid hlen
              have HHI := Lib.hid hI
              have HRM := Lib.hid hroom
              have HS2 := Lib.hid hs2
              clear hs2 hBW hv hAt hb2 hst hwl ht0 hle hI hroom hS0 hlen
              simp only [List.setIfInBounds_toArray, List.set_cons_zero, List.set_cons_succ]
              gi_wp2
              gi_loopw [] (fun wr => ∃ t : Nat, wr.heap[S0]? = some (.cells #[.int .i64 (t : Int)] 3 (0, 0)) ∧ (workTo c t = pre ∧ t ≤ r) ∧ Below S0 w5 wr ∧ KeepsOthers W wr) (fun wr => r + 61 - (intOf ((wr.cell? ⟨S0, 0, none⟩).getD (.int .i64 0))).toNat)
              case atStart => exact ⟨t0, HV.out, ⟨HT0.out, HLE.out⟩, HBW.out, KeepsOthers.refl _⟩
              case round =>
                obtain ⟨t, hv7, ⟨h1, h2⟩, hB7, hK7⟩ := hrel
                have hP7 := HP.out.below (show Below w5.heap.size w5 wr by rw [HS0.out]; exact hB7)
                obtain ⟨⟨c0, f0⟩, c1, f1⟩ := hP7.boxes
                obtain ⟨c2, f2⟩ := box_cell5 (hP7.both.has (List.mem_cons_self ..))
                obtain ⟨_, gA, g0, g1⟩ := hP7.ref
                have HV7 := Lib.hid hv7
                rw [← HS0.out] at hv7
                obtain ⟨c3, f3⟩ := box_cell5 hv7
                have ht : t < r := by
                  rcases Nat.lt_or_ge t r with h | h
                  · exact h
                  · have e : t = r := by omega
                    have h5 := HLEN.out
                    rw [← h1, e] at h5
                    omega
                have ht' : (t : Int) < (r : Int) := by omega
                have g2 := g1 t ht
                obtain ⟨gv, hgv⟩ : ∃ gv, c.gone t = gv := ⟨_, rfl⟩
                rw [hgv] at g2
                have HGV := Lib.hid hgv
                have H1 := Lib.hid h1
                have HB7 := Lib.hid hB7
                have HK7 := Lib.hid hK7
                clear hv7 hB7 hK7 h1 hP7 hgv g1
                gi_wp2
                refine H.wpIn_G (Good := fun W' => W'.cell? ⟨w5.heap.size, 0, none⟩ = some (.int .i64 (t : Int)) ∧ W'.cell? ⟨w.heap.size, 0, none⟩ = some (.int .i64 (r : Int)) ∧ W'.cell? ⟨C, 0, none⟩ = some (.pointer (some ⟨Y, 0, none⟩)) ∧ W'.cell? ⟨Y, 0, none⟩ = some (.slice (some ⟨gA, 0, none⟩) r r) ∧ W'.cell? ⟨gA, t, none⟩ = some (.int .i64 (gv : Int))) 12 0 [0, 1, 2, 3, 4, 5, 6, 7, 8, 9, 10, 11] (by kernel_rfl) (by kernel_rfl) (by kernel_rfl) (by kernel_rfl) (by kernel_rfl) (by kernel_rfl) rfl (fun _ _ _ _ _ h => h) (by kernel_rfl) ⟨c3, c0, c2, g0, g2⟩ ?_
                iterate 12 (refine H.stepsG_cons (v := ?_) rfl rfl rfl (fun w hw => ?_) ?_; rotate_left; (obtain ⟨q1, q2, q3, q4, q5⟩ := hw; go_simp; try with_reducible rfl); go_simp)
                refine ⟨by kernel_rfl, ?_⟩
                have ht6 : (t : Int) ≤ 65536 := by omega
                by_cases hg : gv = 0
                · subst hg
                  by_cases e : x = t
                  · subst e
                    gi_wp2
                    rw [HS0.out]
                    obtain ⟨k1, k2, k3⟩ := cur_step HV7.out HB7.out HK7.out
                    exact ⟨k3.from _, keep_one hLw HBW.out k2 k3, ⟨x + 1, k1, by rw [workTo_yes c x HGV.out, H1.out], by omega⟩, k2⟩
                  · have e' : ¬ (x : Int) = (t : Int) := by omega
                    gi_wp2
                    obtain ⟨k2, k3⟩ := cur_leave HP.out.res hsS HB7.out HK7.out
                    exact ⟨k3.from _, ⟨rfl, pre, x, t, rfl, e, H1.out, ht, HGV.out⟩, k2⟩
                · have hg' : (0 : Int) < (gv : Int) := by omega
                  gi_wp2
                  rw [HS0.out]
                  obtain ⟨k1, k2, k3⟩ := cur_step HV7.out HB7.out HK7.out
                  refine ⟨⟨t + 1, k1, ⟨by rw [workTo_no c t (by rw [HGV.out]; exact hg)]; exact H1.out, by omega⟩, k2, k3⟩, ?_⟩
                  rw [(box_cell5 k1).1, (box_cell5 HV7.out).1]
                  simp [intOf]
                  omega
            case done =>
              rintro D ys W hD rfl ⟨⟨t0, hv, ht0, hle⟩, hBW⟩ hKD
              subst hA
              have hD5 : S0 + 2 ≤ D := by omega
              have hPW := HP.out.below (show Below w5.heap.size w5 W by rw [hS0]; exact hBW)
              obtain ⟨v, hvf⟩ := find_all hI 7
              have HVF := Lib.hid hvf
              obtain ⟨⟨c0, f0⟩, c1, f1⟩ := hPW.boxes
              obtain ⟨c2, f2⟩ := box_cell5 (hPW.both.has (List.mem_cons_self ..))
              have HPW := Lib.hid hPW
              have HKD := Lib.hid hKD
              have HD5 := Lib.hid hD5
              clear hD hv ht0 hle hBW hKD hvf hPW hD5 hs2 hb2 hAt hst hwl hI hroom hS0
              go_upto_region 41 with fail
              go_region_with (first
                | (go_at_call 27; refine (HPW.out.drew.bucket 7 v HVF.out).mono ?_; rintro e wp ⟨rfl, m, rfl⟩)
                | (go_at_call 28; refine ((HPW.out.drewN _).refBucket 7 v HVF.out).mono ?_; rintro e wp ⟨rfl, m2, rfl⟩))
              all_goals
                go_wp2_with fail
                obtain ⟨hk2, d4, hbe⟩ := plays_leave HPW.out HKD.out (by have := HD5.out; omega) (1 + m + m2)
                refine ⟨by simp, .inl ⟨_, _, rfl, run_takeDeferred hk2, ?_⟩⟩
                refine ⟨.bool true, by simp [results, Try.f8, go_sem, d4], rfl, ?_⟩
                exact hbe

theorem walk_AnchorPlays (a0 : Int) (a1 : Int) (a2 : Option Addr) (len2 cap2 : Nat) (w : World) (_w0 : (Lit.int .i64 a0).wf = true) (_w1 : (Lit.int .i64 a1).wf = true) (w2 : DeedsIn w a2 len2 cap2) :
    Calls Try.prog 8 #[.int .i64 a0, .int .i64 a1, .slice a2 len2 cap2] w fun e w' => e = .returned (.bool true) ∧ Below w.heap.size w w' := by
  obtain ⟨R, hR⟩ : ∃ R, (if 60 < a0 ∧ a0 ≤ 65536 then a0.tmod 61 else a0) = R := ⟨_, rfl⟩
  by_cases hbad : R < 1 ∨ 65536 < R ∨ a1 < 1 ∨ R < a1
  · exact plays_bad a0 a1 a2 len2 cap2 w R hR hbad
  · simp only [not_or, Int.not_lt] at hbad
    obtain ⟨r, rfl⟩ : ∃ r : Nat, R = (r : Int) := ⟨R.toNat, by omega⟩
    obtain ⟨k, rfl⟩ : ∃ k : Nat, a1 = (k : Int) := ⟨a1.toNat, by omega⟩
    exact plays_ok a0 a2 len2 cap2 w r k hR (by omega) (by omega) (by omega) w2
end Go.Proofs.Ytladjipicifplaa
