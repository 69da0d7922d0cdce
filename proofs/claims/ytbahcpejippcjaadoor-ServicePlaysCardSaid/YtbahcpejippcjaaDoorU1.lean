import Derived.Test.YtbahcpejippcjaaDoorS7
namespace Go.Proofs.YtbahcpejippcjaaDoor
open Go.RowKit Go.Shelf

/-- A service's cells. -/
def Svc.row (s : Svc) : Array Value := #[.int .i64 s.proto, .int .u32 (s.vip : Int), .int .i64 s.port, .bool s.dsr, .int .u32 (s.nat : Int)]
theorem getY_in (F : Fence) (n : Nat) (h22 : F.fn 22) (hro : F.round = none) (T M k : Nat) (f : Nat → Svc) (W : World) (h : TabM T M f W) (h1 : 1 ≤ k) (h2 : k ≤ 64) (h0 : (f k).proto ≠ 0) :
    CallsIn F n Tryd.prog 22 #[.pointer (some ⟨T, 0, none⟩), .int .i64 (k : Int)] W fun e W' => e = .returned (.tuple #[.agg #[.int .i64 (f k).proto, .int .u32 ((f k).vip : Int), .int .i64 (f k).port, .bool (f k).dsr, .int .u32 ((f k).nat : Int)], .bool true]) ∧ W' = W.alloc (.cells #[.int .i64 (f k).proto, .int .u32 ((f k).vip : Int), .int .i64 (f k).port, .bool (f k).dsr, .int .u32 ((f k).nat : Int)] 24) := by
  refine callsIn_of_wp Tryd.func22 rfl h22 ?_ hro
  simp only [Tryd.ntmps22, List.size_toArray, List.length_cons, List.length_nil, Nat.reduceAdd, Nat.reduceSub, Array.replicate_succ, Array.replicate_zero, List.push_toArray, List.append_toArray, List.nil_append, List.cons_append]
  obtain ⟨c0, c1, c2, c3, c4⟩ := h.at_ k (by omega)
  have hl := h.low
  have k1 : ¬ (k : Int) < 1 := by omega
  have k2 : ¬ (64 : Int) < (k : Int) := by omega
  have k3 : (k : Int) < 65 := by omega
  have hp : ((f k).proto == 0) = false := by simp [h0]
  clear h h0
  obtain ⟨s, hs⟩ : ∃ s, f k = s := ⟨_, rfl⟩
  rw [hs] at c0 c1 c2 c3 c4 hp ⊢
  clear hs
  obtain ⟨p, v, q, d, m⟩ := s
  dsimp only at *
  gi_wp2
  obtain ⟨⟨d0, d1, d2, d3, d4⟩, _⟩ := cells5 (World.alloc_heap_new W (.cells #[.int .i64 p, .int .u32 (v : Int), .int .i64 q, .bool d, .int .u32 (m : Int)] 24))
  exact ⟨rfl, .tuple #[.agg #[.int .i64 p, .int .u32 (v : Int), .int .i64 q, .bool d, .int .u32 (m : Int)], .bool true], by simp [results, Tryd.f22, go_sem, d0, d1, d2, d3, d4], rfl, rfl⟩
set_option maxRecDepth 100000 in
set_option maxHeartbeats 2000000 in
/-- The numbers that are free: told one by one. -/
theorem free2_in (F : Fence) (n : Nat) (h52 : F.fn 52) (h22 : F.fn 22) (hro : F.round = none) (hn : 2 ≤ n) (l Bx T M : Nat) (f : Nat → Svc) (J Jx : List Nat → World → Prop) (W0 : World)
    (hJ : AbidesFrom W0.heap.size J)
    (hY : ∀ pre x W, 1 ≤ x → x ≤ 64 → J pre W → pre.length < (freeTo f 65).length → YieldAt F (n - 1) Tryd.prog l #[.int .i64 (x : Nat)] W fun e W' =>
      (e = .returned (.bool true) ∧ J (pre ++ [x]) W' ∧ KeepT T Bx W W') ∨ (e = .returned (.bool false) ∧ Jx (pre ++ [x]) W'))
    (hBx : W0.heap[Bx]? = some (.cells #[.pointer (some ⟨T, 0, none⟩)] 36 (0, 0))) (hP : TabM T M f W0) (h0 : J [] W0) :
    CallsIn F n Tryd.prog 52 #[.func (.yield l) #[] #[], .pointer (some ⟨Bx, 0, none⟩)] W0 fun e W' => (∃ v, e = .returned v) ∧
      ((∃ ys, ys = freeTo f 65 ∧ J ys W') ∨ (∃ pre, pre <+: freeTo f 65 ∧ Jx pre W')) := by
  have HY := Lib.hid hY
  have HJ := Lib.hid hJ
  have HP := Lib.hid hP
  have H0 := Lib.hid h0
  have HBX := Lib.hid hBx
  clear hY hJ hP h0 hBx
  refine callsIn_of_wp Tryd.func52 rfl h52 ?_ hro
  simp only [Tryd.ntmps52, List.size_toArray, List.length_cons, List.length_nil, Nat.reduceAdd, Nat.reduceSub, Array.replicate_succ, Array.replicate_zero, List.push_toArray, List.append_toArray, List.nil_append, List.cons_append]
  gi_wp2
  gi_loopw [3] (fun i wr => ∃ k : Nat, k ≤ 64 ∧ i = .int .i64 ((k + 1 : Nat) : Int) ∧ wr.heap[T]? = W0.heap[T]? ∧ W0.heap.size ≤ wr.heap.size ∧ wr.heap[Bx]? = some (.cells #[.pointer (some ⟨T, 0, none⟩)] 36 (0, 0)) ∧ J (freeTo f (k + 1)) wr)
    (fun i _ => 65 - (intOf i).toNat)
  case atStart => exact ⟨0, Nat.zero_le _, rfl, rfl, Nat.le_refl _, HBX.out, H0.out⟩
  case round =>
    obtain ⟨k, hk, rfl, hTk, hsz, hbx, hJk⟩ := hrel
    have HTK := Lib.hid hTk
    have HJK := Lib.hid hJk
    have HSZ := Lib.hid hsz
    have HBK := Lib.hid hbx
    have c1 : wr.cell? ⟨Bx, 0, none⟩ = some (.pointer (some ⟨T, 0, none⟩)) := by simp [World.cell?, hbx]
    obtain ⟨j, hj⟩ : ∃ j, k + 1 = j := ⟨_, rfl⟩
    rw [hj] at HJK ⊢
    clear hTk hJk hsz hbx
    by_cases hlt : j ≤ 64
    · have hjl : (j : Int) ≤ 64 := by omega
      have HTB := Lib.hid (HP.out.block HTK.out HSZ.out)
      by_cases hf : (f j).proto = 0
      · have HF0 := Lib.hid hf
        have hJ2 := HJ.out _ _ _ none HJK.out (World.grownBy_alloc wr (.cells #[.int .i64 0, .int .u32 0, .int .i64 0, .bool false, .int .u32 0] 24) none) (fun r e => by cases e)
        have hJ3 := HJ.out _ _ _ none hJ2 (World.grownBy_alloc (wr.alloc (.cells #[.int .i64 0, .int .u32 0, .int .i64 0, .bool false, .int .u32 0] 24)) (.cells #[.int .i64 0, .int .u32 0, .int .i64 0, .bool false, .int .u32 0] 24) none) (fun r e => by cases e)
        have hlen : (freeTo f j).length < (freeTo f 65).length := by
          have h1 := (freeTo_le f (show j + 1 ≤ 65 by omega)).length_le
          rw [freeTo_yes _ _ (by omega) HF0.out] at h1
          simp at h1
          omega
        have hB2 : Hid (((wr.alloc (.cells #[.int .i64 0, .int .u32 0, .int .i64 0, .bool false, .int .u32 0] 24)).alloc (.cells #[.int .i64 0, .int .u32 0, .int .i64 0, .bool false, .int .u32 0] 24)).heap[Bx]? = some (.cells #[.pointer (some ⟨T, 0, none⟩)] 36 (0, 0))) := Lib.hid (((Below.heap_alloc _ _ _ (by have := (Array.getElem?_eq_some_iff.1 HBK.out).1; simp; omega)).trans (Below.heap_alloc _ _ _ (Array.getElem?_eq_some_iff.1 HBK.out).1)).trans HBK.out)
        have hT2 : Hid (((wr.alloc (.cells #[.int .i64 0, .int .u32 0, .int .i64 0, .bool false, .int .u32 0] 24)).alloc (.cells #[.int .i64 0, .int .u32 0, .int .i64 0, .bool false, .int .u32 0] 24)).heap[T]? = W0.heap[T]? ∧ ((wr.alloc (.cells #[.int .i64 0, .int .u32 0, .int .i64 0, .bool false, .int .u32 0] 24)).alloc (.cells #[.int .i64 0, .int .u32 0, .int .i64 0, .bool false, .int .u32 0] 24)).heap.size = wr.heap.size + 2) := Lib.hid ⟨((Below.heap_alloc _ _ _ (by have := HTB.out.low; simp; omega)).trans (Below.heap_alloc _ _ _ HTB.out.low)).trans HTK.out, by simp⟩
        obtain ⟨fn, tmps, assign, body, hy, hR⟩ := HY.out _ j _ (by omega) hlt hJ3 hlen
        clear hJ2 hJ3 hlen hf
        gi_wp2_with (refine ⟨fun _ => by omega, ?_⟩; gi_at_call 22; refine (get_in F (n - 1) h22 hro T M j f wr HTB.out (by omega) hlt HF0.out).mono ?_; rintro e W2 ⟨rfl, rfl⟩)
        refine ⟨fun _ => by omega, hR.mono ?_⟩
        rintro e W3 (⟨rfl, hJ4, hk4⟩ | ⟨rfl, hJx4⟩)
        · have HJ4 := Lib.hid hJ4
          have HT4 : Hid (W3.heap[T]? = W0.heap[T]?) := Lib.hid (hk4.1.1.trans hT2.out.1)
          have HB4 : Hid (W3.heap[Bx]? = some (.cells #[.pointer (some ⟨T, 0, none⟩)] 36 (0, 0))) := Lib.hid (hk4.1.2.trans hB2.out)
          have HS4 : Hid (W0.heap.size ≤ W3.heap.size) := Lib.hid (by have h1 := hk4.2; have h2 := HSZ.out; have h3 := hT2.out.2; omega)
          clear hJ4 hk4
          gi_wp2
          go_roundw
          all_goals first
            | exact ⟨j, by omega, by go_num, HT4.out, HS4.out, HB4.out, by rw [freeTo_yes _ _ (by omega) HF0.out]; exact HJ4.out⟩
            | (simp [intOf]; omega)
        · gi_wp2
          refine bodyPost_ret (results_none rfl _ _ _) rfl ?_
          exact ⟨⟨_, rfl⟩, .inr ⟨_, by rw [← freeTo_yes _ _ (by omega) HF0.out]; exact freeTo_le f (by omega), hJx4⟩⟩
      · have HF0 := Lib.hid hf
        have hG := getY_in F (n - 1) h22 hro T M j f wr HTB.out (by omega) hlt HF0.out
        obtain ⟨sj, hsj⟩ : ∃ sj, f j = sj := ⟨_, rfl⟩
        rw [hsj] at hG
        obtain ⟨p, v, q, d, m⟩ := sj
        dsimp only at hG
        have HG := Lib.hid hG
        have hJ2 := HJ.out _ _ _ none HJK.out (World.grownBy_alloc wr (.cells #[.int .i64 p, .int .u32 (v : Int), .int .i64 q, .bool d, .int .u32 (m : Int)] 24) none) (fun r e => by cases e)
        have hJ3 := HJ.out _ _ _ none hJ2 (World.grownBy_alloc (wr.alloc (.cells #[.int .i64 p, .int .u32 (v : Int), .int .i64 q, .bool d, .int .u32 (m : Int)] 24)) (.cells #[.int .i64 p, .int .u32 (v : Int), .int .i64 q, .bool d, .int .u32 (m : Int)] 24) none) (fun r e => by cases e)
        have hB2 : Hid (((wr.alloc (.cells #[.int .i64 p, .int .u32 (v : Int), .int .i64 q, .bool d, .int .u32 (m : Int)] 24)).alloc (.cells #[.int .i64 p, .int .u32 (v : Int), .int .i64 q, .bool d, .int .u32 (m : Int)] 24)).heap[Bx]? = some (.cells #[.pointer (some ⟨T, 0, none⟩)] 36 (0, 0))) := Lib.hid (((Below.heap_alloc _ _ _ (by have := (Array.getElem?_eq_some_iff.1 HBK.out).1; simp; omega)).trans (Below.heap_alloc _ _ _ (Array.getElem?_eq_some_iff.1 HBK.out).1)).trans HBK.out)
        have hT2 : Hid (((wr.alloc (.cells #[.int .i64 p, .int .u32 (v : Int), .int .i64 q, .bool d, .int .u32 (m : Int)] 24)).alloc (.cells #[.int .i64 p, .int .u32 (v : Int), .int .i64 q, .bool d, .int .u32 (m : Int)] 24)).heap[T]? = W0.heap[T]? ∧ W0.heap.size ≤ ((wr.alloc (.cells #[.int .i64 p, .int .u32 (v : Int), .int .i64 q, .bool d, .int .u32 (m : Int)] 24)).alloc (.cells #[.int .i64 p, .int .u32 (v : Int), .int .i64 q, .bool d, .int .u32 (m : Int)] 24)).heap.size) := Lib.hid ⟨((Below.heap_alloc _ _ _ (by have := HTB.out.low; simp; omega)).trans (Below.heap_alloc _ _ _ HTB.out.low)).trans HTK.out, by have := HSZ.out; simp; omega⟩
        have HJ3 := Lib.hid hJ3
        clear hJ2 hJ3 hf hG hsj
        gi_wp2_with (refine ⟨fun _ => by omega, ?_⟩; gi_at_call 22; refine HG.out.mono ?_; rintro e W2 ⟨rfl, rfl⟩)
        refine ⟨fun _ h => (by cases h), ?_⟩
        gi_wp2
        go_roundw
        case rel => exact ⟨j, by omega, by go_num, hT2.out.1, hT2.out.2, hB2.out, by rw [freeTo_no _ _ HF0.out]; exact HJ3.out⟩
        case measure => simp [intOf]; omega
    · gi_wp2
      go_end0
      obtain rfl : k = 64 := by omega
      subst hj
      exact ⟨⟨_, rfl⟩, .inl ⟨_, rfl, HJK.out⟩⟩
theorem free_stops2 (F : Fence) (n : Nat) (h52 : F.fn 52) (h22 : F.fn 22) (hro : F.round = none) (hn : 2 ≤ n) (Bx T M : Nat) (f : Nat → Svc) (w : World)
    (hBx : w.heap[Bx]? = some (.cells #[.pointer (some ⟨T, 0, none⟩)] 36 (0, 0))) (hP : TabM T M f w) :
    SeqStopsK F n Tryd.prog 52 #[.pointer (some ⟨Bx, 0, none⟩)] (fun x : Num => #[Value.int .i64 (x.val : Int)]) (KeepT T Bx) (fun ys => valsN ys = freeTo f 65) (fun pre => valsN pre <+: freeTo f 65) (freeTo f 65).length w := by
  intro l J Jx W hW hJ _ hY h0
  have hap : ∀ (a : List Num) (x : Num), valsN (a ++ [x]) = valsN a ++ [x.val] := fun a x => by simp [valsN]
  have hlen : ∀ a : List Num, a.length = (valsN a).length := fun a => by simp [valsN]
  have hres := free2_in F n h52 h22 hro hn l Bx T M f (fun p W => ∃ q, valsN q = p ∧ J q W) (fun p W => ∃ q, valsN q = p ∧ Jx q W) W
    (fun s A B row hs hg hr => by obtain ⟨q, h1, h2⟩ := hs; exact ⟨q, h1, hJ q A B row h2 hg hr⟩)
    (fun pre x W2 h1 h2 hp hl => by
      obtain ⟨q, rfl, hq⟩ := hp
      obtain ⟨fn, tmps, assign, body, hy, hR⟩ := hY q ⟨x, h1, h2⟩ W2 hq (by rw [hlen]; exact hl)
      refine ⟨fn, tmps, assign, body, hy, hR.mono ?_⟩
      rintro e W' (⟨he, h3, h4⟩ | ⟨he, h3⟩)
      · exact .inl ⟨he, ⟨_, hap q ⟨x, h1, h2⟩, h3⟩, h4⟩
      · exact .inr ⟨he, ⟨_, hap q ⟨x, h1, h2⟩, h3⟩⟩)
    (box_go hBx hW) (hP.below hW) ⟨[], rfl, h0⟩
  refine hres.mono ?_
  rintro e W' ⟨hv, h | h⟩
  · obtain ⟨ys, h1, q, h2, h3⟩ := h
    exact ⟨hv, .inl ⟨q, h2.trans h1, h3⟩⟩
  · obtain ⟨pre, h1, q, h2, h3⟩ := h
    exact ⟨hv, .inr ⟨q, by show valsN q <+: _; rw [h2]; exact h1, h3⟩⟩
end Go.Proofs.YtbahcpejippcjaaDoor
