import Derived.Test.YtaeiaoldlebhaaaDoorW6
import Derived.Deep.RegionHeld3
namespace Go.Proofs.YtaeiaoldlebhaaaDoor
open Go.RowKit Go.Maps

theorem box3 {w w' : World} {v0 v1 v2 : Value} {t : TypeId} (hb : Below (w.heap.size + 1) (w.alloc (.cells #[v0, v1, v2] t)) w') : Below w.heap.size w w' ∧ w'.heap[w.heap.size]? = some (.cells #[v0, v1, v2] t (0, 0)) := by
  refine ⟨((Below.refl _ w).alloc (Nat.le_refl _) _).trans (hb.mono (by simp)), ?_⟩
  exact (hb.block w.heap.size (by simp)).trans (heap_alloc_new w _)
theorem cells3 {w : World} {b : Nat} {x y z : Value} {t : TypeId} (h : w.heap[b]? = some (.cells #[x, y, z] t (0, 0))) : (w.cell? ⟨b, 0, none⟩ = some x ∧ w.cell? ⟨b, 1, none⟩ = some y ∧ w.cell? ⟨b, 2, none⟩ = some z) ∧ w.frozen? ⟨b, 0, none⟩ = false ∧ w.frozen? ⟨b, 1, none⟩ = false ∧ w.frozen? ⟨b, 2, none⟩ = false := by
  refine ⟨⟨?_, ?_, ?_⟩, ?_, ?_, ?_⟩ <;> simp [World.cell?, World.frozen?, h]
theorem below_drewN {B : Nat} {w w' : World} (h : Below B w w') (n : Nat) : Below B w (w'.drewN n) := ⟨h.os, h.tape, h.output, h.size, h.block⟩

/-- What laying somebody down leaves. -/
theorem lay_done {S : Nat → Prop} {W M now o : Nat} {A P : List Ent} {sm : Nat → Nat} {sv : Nat → Value} {rows : Nat → List Ent} {w w2 w3 : World} (h : WhAt S W M now o A P sm sv rows w) {x : Ent} (hx : now ≤ x.due ∧ x.due ≤ 1099511627776) {lv s q n g cap : Nat} (hb : Below w.heap.size w w2)
    (hg : w2.grownBy w3 (sv q).ownBlock) (hown : w3.ownsRow 0 109 3 (.slice (some ⟨g, 0, none⟩) ((rows q).length + 1) cap) ((rows q).length + 1) (entsC (rows q) ++ entC x)) (hat : (sv q).ownBlock = some g ∨ w.heap.size ≤ g) (hlt : g < w3.heap.size)
    (hq : lv * 64 + s = q) (h7 : lv < 7) (hs : s < 64) (hQ : qOf now x.due = q) (hn : n < 18446744073709551616) (hbit : ∀ i, i < 64 → (n.testBit i = true ↔ (sm lv).testBit i = true ∨ i = s)) :
    ∃ S' sm' sv' rows', WhAt S' W M now o A (x :: P) sm' sv' rows' (((w3.setCell ⟨W, 3 + lv * 65 + 1 + s, none⟩ (.slice (some ⟨g, 0, none⟩) ((rows q).length + 1) cap)).setCell ⟨W, 3 + lv * 65, none⟩ (.int .u64 (n : Int))).drew) ∧
      Only S w (((w3.setCell ⟨W, 3 + lv * 65 + 1 + s, none⟩ (.slice (some ⟨g, 0, none⟩) ((rows q).length + 1) cap)).setCell ⟨W, 3 + lv * 65, none⟩ (.int .u64 (n : Int))).drew) ∧ ∀ i, S' i → S i ∨ w.heap.size ≤ i := by
  have hq448 : q < 448 := by omega
  have hWl := h.low W h.mem.1
  have hMl := h.low M h.mem.2.1
  have hrow : ∀ b, (sv q).ownBlock = some b → S b ∧ b ≠ W ∧ b ≠ M := fun b hb => h.rws.own q b hq448 hb
  have hsz := hb.size
  have hsz3 := hg.size
  have k1 : ∀ i, i < w.heap.size → some i ≠ (sv q).ownBlock → w3.heap[i]? = w.heap[i]? := fun i hi hne => (hg.block i (by omega) hne).trans (hb.block i hi)
  have hW3 : w3.heap[W]? = some (wheelObj 106 now o M sm sv) := (k1 W hWl (fun e => (hrow W e.symm).2.1 rfl)).trans h.cells
  have hset : ∀ (i : Nat) (v1 v2 : Value), i ≠ W → (((w3.setCell ⟨W, 3 + lv * 65 + 1 + s, none⟩ v1).setCell ⟨W, 3 + lv * 65, none⟩ v2).drew).heap[i]? = w3.heap[i]? := fun i v1 v2 hi => (Below.heap_setCell _ _ _ _ hi).trans (Below.heap_setCell _ _ _ _ hi)
  have hgne : g ≠ W ∧ g ≠ M ∧ (S g ∨ w.heap.size ≤ g) := by
    rcases hat with e | e
    · obtain ⟨r1, r2, r3⟩ := hrow g e; exact ⟨r2, r3, .inl r1⟩
    · exact ⟨by omega, by omega, .inr e⟩
  have hrows := (h.rws.mono (T := fun i => S i ∨ (w.heap.size ≤ i ∧ i < w3.heap.size)) (fun i hi => .inl hi)).put (q := q) (xs := rows q ++ [x]) (v := .slice (some ⟨g, 0, none⟩) ((rows q).length + 1) cap) (w' := w3)
    (by rw [List.length_append, entsC_append]; simpa [entsC] using hown)
    (fun r b hr hne hv => k1 b (h.low b (h.rws.own r b hr hv).1) (fun e => hne (h.rws.apart r q b hr hq448 hv e.symm)))
    (fun b hv => by
      have hv : some g = some b := hv
      cases hv
      refine ⟨⟨?_, hgne.1, hgne.2.1⟩, fun r hr hne hv2 => ?_⟩
      · rcases hgne.2.2 with e | e
        · exact .inl e
        · exact .inr ⟨e, hlt⟩
      · rcases hat with e | e
        · exact hne (h.rws.apart r q g hr hq448 hv2 e)
        · have := h.low g (h.rws.own r g hr hv2).1; omega)
  refine ⟨fun i => S i ∨ (w.heap.size ≤ i ∧ i < w3.heap.size), updF sm lv n, updF sv q (.slice (some ⟨g, 0, none⟩) ((rows q).length + 1) cap), updF rows q (rows q ++ [x]), ⟨?_, ?_, ?_, ⟨.inl h.mem.1, .inl h.mem.2.1, h.mem.2.2⟩, fun i hi => ?_, h.placed.lay x hQ, ?_, h.tm, fun y hy => ?_⟩, ?_, fun i hi => ?_⟩
  · rw [← hq]
    exact wh_setSm (wh_setSv hW3 lv hs _) lv n
  · exact h.map.block ((hset M _ _ (fun e => h.mem.2.2 e.symm)).trans (k1 M hMl (fun e => (hrow M e.symm).2.2 rfl)))
  · refine hrows.kept (fun r b hr hv => hset b _ _ ?_)
    exact (hrows.own r b hr hv).2.1
  · have hs3 : ∀ v1 v2 : Value, (((w3.setCell ⟨W, 3 + lv * 65 + 1 + s, none⟩ v1).setCell ⟨W, 3 + lv * 65, none⟩ v2).drew).heap.size = w3.heap.size := fun v1 v2 => by simp [World.setCell, World.drew]
    rw [hs3]
    rcases hi with hi | hi
    · have := h.low i hi; omega
    · exact hi.2
  · rw [← hq]
    exact h.bits.lay h7 hs hn hbit (by simp)
  · rcases List.mem_cons.1 hy with rfl | hy
    · exact hx
    · exact h.due y hy
  · have h1 : Only S w w3 := (Only.of_below hb).grown hg (fun b hb2 _ => (hrow b hb2).1)
    have h2 := (h1.set (p := ⟨W, 3 + lv * 65 + 1 + s, none⟩) h.mem.1 (.slice (some ⟨g, 0, none⟩) ((rows q).length + 1) cap)).set (p := ⟨W, 3 + lv * 65, none⟩) h.mem.1 (.int .u64 (n : Int))
    exact ⟨h2.os, h2.tape, h2.output, h2.size, h2.block⟩
  · rcases hi with hi | hi
    · exact .inl hi
    · exact .inr hi.1
theorem Tryd.info109 : (Tryd.prog.info? 109).map (fun i => (i.zero, i.size, i.bytes)) = some (some (.agg #[.int .i64 0, .int .i64 0, .int .i64 0]), 3, 24) := by kernel_rfl
set_option maxRecDepth 100000 in
set_option maxHeartbeats 1000000 in
theorem lay_ok {S : Nat → Prop} {W M now o : Nat} {A P : List Ent} {sm : Nat → Nat} {sv : Nat → Value} {rows : Nat → List Ent} {w : World} (h : WhAt S W M now o A P sm sv rows w) (x : Ent) (hx : now ≤ x.due ∧ x.due ≤ 1099511627776) (hlen : P.length < 1099511627776) :
    Calls Tryd.prog 44 #[.pointer (some ⟨W, 0, none⟩), .agg #[.int .i64 x.key, .int .i64 (x.due : Int), .int .i64 (x.ord : Int)]] w fun e w' => e = .returned (.tuple #[]) ∧ ∃ S' sm' sv' rows', WhAt S' W M now o A (x :: P) sm' sv' rows' w' ∧ Only S w w' ∧ ∀ i, S' i → S i ∨ w.heap.size ≤ i := by
  have HW := Lib.hid h
  have ht := h.tm
  obtain ⟨k, t, d⟩ := x
  dsimp only at hx ⊢
  have ht4 : t < 4398046511104 := by omega
  have hn4 : now < 4398046511104 := by omega
  have h7 := lvl_six ht4 hn4
  have hs64 := slt_lt now t
  have HP := Lib.hid (fun (w1 : World) (h1 : w1.heap[W]? = some (wheelObj 106 now o M sm sv)) => place_ok h1 t hn4 ht4)
  obtain ⟨lv, hlv⟩ : ∃ lv, lvl t now = lv := ⟨_, rfl⟩
  obtain ⟨s, hs⟩ : ∃ s, slt now t = s := ⟨_, rfl⟩
  rw [hlv] at h7 HP
  rw [hs] at hs64 HP
  have HQ := Lib.hid (show qOf now t = lv * 64 + s from by unfold qOf; rw [hlv, hs])
  clear h hlv hs
  have h7I : (lv : Int) < 7 := by omega
  have hsI : (s : Int) < 64 := by omega
  go_enter Tryd.func44, Tryd.ntmps44
  go_wp2_with (go_at_call 85; refine (HP.out _ ((((Below.refl _ w).alloc (Nat.le_refl _) _).block W (HW.out.low W HW.out.mem.1)).trans HW.out.cells)).mono ?_; rintro e w1 ⟨rfl, n, rfl⟩)
  obtain ⟨w1, hw1⟩ : ∃ w1, (w.alloc (.cells #[.int .i64 k, .int .i64 (t : Int), .int .i64 (d : Int)] 109)).drewN n = w1 := ⟨_, rfl⟩
  have hb1 : Below w.heap.size w w1 := by rw [← hw1]; exact below_drewN ((Below.refl _ w).alloc (Nat.le_refl _) _) n
  have hs1 : w1.heap.size = w.heap.size + 1 := by rw [← hw1]; simp
  have hbx : w1.heap[w.heap.size]? = some (.cells #[.int .i64 k, .int .i64 (t : Int), .int .i64 (d : Int)] 109 (0, 0)) := by rw [← hw1]; exact heap_alloc_new w _
  rw [hw1]
  clear hw1
  have HW1 := Lib.hid (HW.out.below hb1)
  obtain ⟨⟨b0, b1, b2⟩, _⟩ := cells3 hbx
  have c0 := wh_sv HW1.out.cells h7 hs64
  have c1 := wh_sm HW1.out.cells h7
  have f0 := wh_free HW1.out.cells (3 + lv * 65 + 1 + s)
  have f1 := wh_free HW1.out.cells (3 + lv * 65)
  obtain ⟨q, hq⟩ : ∃ q, lv * 64 + s = q := ⟨_, rfl⟩
  rw [hq] at c0 HQ
  have hq448 : q < 448 := by omega
  have HROW := Lib.hid (HW1.out.rws.row q hq448)
  have HBX := Lib.hid hbx
  have HB1 := Lib.hid hb1
  have HS1 := Lib.hid hs1
  have HQQ := Lib.hid hq
  clear hbx hb1 hs1 hq
  obtain ⟨v, hv⟩ : ∃ v, sv q = v := ⟨_, rfl⟩
  obtain ⟨l, hl⟩ : ∃ l, rows q = l := ⟨_, rfl⟩
  rw [hv] at c0 HROW
  rw [hl] at HROW
  have HV := Lib.hid hv
  have HL := Lib.hid hl
  clear hv hl
  have HKP := Lib.hid (fun (w2 w3 : World) (h2 : Below w1.heap.size w1 w2) (h3 : w2.grownBy w3 v.ownBlock) => show w3.cell? ⟨W, 3 + lv * 65 + 1 + s, none⟩ = some v ∧ w3.cell? ⟨w.heap.size, 0, none⟩ = some (.int .i64 k) ∧ w3.cell? ⟨w.heap.size, 1, none⟩ = some (.int .i64 (t : Int)) ∧ w3.cell? ⟨w.heap.size, 2, none⟩ = some (.int .i64 (d : Int)) from by
    have hWl := HW1.out.low W HW1.out.mem.1
    have hWv : some W ≠ v.ownBlock := fun e => (HW1.out.rws.own q W hq448 (by rw [HV.out]; exact e.symm)).2.1 rfl
    have hxv : some w.heap.size ≠ v.ownBlock := fun e => by
      have := HW.out.low _ (HW.out.rws.own q w.heap.size hq448 (by rw [HV.out]; exact e.symm)).1
      omega
    have hsz := h2.size
    have hs := HS1.out
    have e1 : w3.heap[W]? = some (wheelObj 106 now o M sm sv) := ((h3.block W (by omega) hWv).trans (h2.block W hWl)).trans HW1.out.cells
    have e2 : w3.heap[w.heap.size]? = some (.cells #[.int .i64 k, .int .i64 (t : Int), .int .i64 (d : Int)] 109 (0, 0)) := ((h3.block w.heap.size (by omega) hxv).trans (h2.block w.heap.size (by omega))).trans HBX.out
    refine ⟨?_, (cells3 e2).1⟩
    rw [wh_sv e1 h7 hs64, HQQ.out, HV.out])
  have HKF := Lib.hid (fun (w2 w3 : World) (h2 : Below w1.heap.size w1 w2) (h3 : w2.grownBy w3 v.ownBlock) => show w3.heap[W]? = some (wheelObj 106 now o M sm sv) from by
    have hWl := HW1.out.low W HW1.out.mem.1
    have hWv : some W ≠ v.ownBlock := fun e => (HW1.out.rws.own q W hq448 (by rw [HV.out]; exact e.symm)).2.1 rfl
    have hsz := h2.size
    exact ((h3.block W (by omega) hWv).trans (h2.block W hWl)).trans HW1.out.cells)
  have hi := Tryd.info109
  obtain ⟨i0, hi, hz0, hz1, hz2⟩ := info_parts hi
  have HI := Lib.hid (And.intro hi (And.intro hz0 (And.intro hz1 hz2)))
  clear hi hz0 hz1 hz2
  have HLL := Lib.hid (show l.length < 1099511627776 from by
    have h1 := (HW.out.placed q hq448).length_eq
    rw [HL.out] at h1
    have h2 : (ofQ now q P).length ≤ P.length := List.length_filter_le _ _
    omega)
  have c0a : (w1.alloc (.cells #[.int .i64 k, .int .i64 (t : Int), .int .i64 (d : Int)] 109)).cell? ⟨W, 3 + lv * 65 + 1 + s, none⟩ = some v := (World.cell?_of_block (Below.heap_alloc w1 _ W (HW1.out.low W HW1.out.mem.1))).trans c0
  go_region_law
    ((refine step_append_lies _ (by rfl) _ _ 100 (by rfl) 0 109 i0 (.agg #[.int .i64 0, .int .i64 0, .int .i64 0]) 3 24 Tryd.underlying100 HI.out.1 HI.out.2.1 HI.out.2.2.1 HI.out.2.2.2 rfl (by decide) v l.length (entsC l) (by rfl) (ownsRow_kept HROW.out (fun g hg => Below.heap_alloc _ _ _ (by have := HW1.out.low _ (HW1.out.rws.own q g hq448 (by rw [HV.out]; exact hg)).1; exact this))) ⟨w1.heap.size, 0, none⟩ 1 1 [.int .i64 k, .int .i64 (t : Int), .int .i64 (d : Int)] (by rfl) rfl (World.news_of_block (heap_alloc_new _ _)) (by simp [Value.oneCell']) (by decide) (by unfold maxLen; have := HLL.out; omega) (by have := HLL.out; omega) (Nat.zero_le _) _ rfl ?_; intro g cap w3 hown3 hgrow0 hat hlt; have hgrow := Lib.hid hgrow0; have HB3 := Lib.hid ((Below.refl _ w1).alloc (Nat.le_refl _) (.cells #[.int .i64 k, .int .i64 (t : Int), .int .i64 (d : Int)] 109)).drew; have HC3 := Lib.hid (HKF.out _ _ HB3.out hgrow.out); have f3 := wh_free HC3.out (3 + lv * 65 + 1 + s); have c3 := (HKP.out _ _ HB3.out hgrow.out).1; clear hgrow0))
  all_goals
    obtain ⟨w4, hw4⟩ : ∃ w4, w3.setCell ⟨W, 3 + lv * 65 + 1 + s, none⟩ (.slice (some ⟨g, 0, none⟩) (l.length + 1) cap) = w4 := ⟨_, rfl⟩
    have hcells4 : w4.heap[W]? = some (wheelObj 106 now o M sm (updF sv q (.slice (some ⟨g, 0, none⟩) (l.length + 1) cap))) := by
      rw [← hw4, ← HQQ.out]
      exact wh_setSv HC3.out lv hs64 _
    go_wp2_with fail
    rw [hw4]
    have HW4 := Lib.hid hw4
    clear hw4 c0 c1 c3 c0a f0 f1 f3 b0 b1 b2
    have c4 := wh_sm hcells4 h7
    have f4 := wh_free hcells4 (3 + lv * 65)
    have HC4 := Lib.hid hcells4
    clear hcells4
    obtain ⟨a, ha⟩ : ∃ a, sm lv = a := ⟨_, rfl⟩
    rw [ha] at c4
    have HA := Lib.hid ha
    clear ha
    have hWT := wrap_two s hs64
    obtain ⟨nb, hn1, hn2, hn3⟩ := or_bit a s (by rw [← HA.out]; exact (HW.out.bits lv h7).1) hs64
    have HN1 := Lib.hid hn1
    have HN3 := Lib.hid hn3
    have HWT := Lib.hid hWT
    clear hn1 hn3 hWT
    go_region
    all_goals
      go_end0
      rw [HWT.out, HN1.out, ← HW4.out]
      refine ⟨rfl, ?_⟩
      have e1 := HV.out
      have e2 := HL.out
      subst e1 e2
      exact lay_done HW.out hx (HB1.out.trans (HB3.out.mono HB1.out.size)) hgrow.out hown3 (by rcases hat with e | e <;> first | exact .inl e | (right; have := HS1.out; have e : g = _ := e; simp at e; omega)) hlt HQQ.out h7 hs64 HQ.out hn2 (by rw [HA.out]; exact HN3.out)
end Go.Proofs.YtaeiaoldlebhaaaDoor
