/- Texts of this proof, put together: W6 W8 W9 WA WB WC WD. -/
import Derived.Test.YtpbknbnhljjjcaaDoorMA
import Derived.Test.YtpbknbnhljjjcaaDoorW7
import Derived.Test.YtpbknbnhljjjcaaDoorShelf
import Derived.WalkKit
import Derived.WalkSpells
import Derived.WalkLawsBesides
import Derived.Outline
import Derived.StillTailTactics
import Derived.Deep.QuietTactic
import Derived.BigQuiet
import Derived.BigRegion
import Derived.RegionTactic
import Derived.ChangeAlike
import Derived.Lib.Hide
import Derived.LoopTactic
import Derived.Below
import Derived.Deep.CutRange
import Derived.Deep.LoopGhost
import Derived.Deep.RegionHeld3
namespace Go.Proofs.YtpbknbnhljjjcaaDoor
open Go.RowKit Go.Maps
set_option maxRecDepth 100000 in
set_option maxHeartbeats 1000000 in
theorem place_ok {W M now o : Nat} {sm : Nat → Nat} {sv : Nat → Value} {w : World} (h : w.heap[W]? = some (wheelObj 118 now o M sm sv)) (t : Nat) (hn : now < 4398046511104) (ht : t < 4398046511104) :
    Calls Tryd.prog 81 #[.pointer (some ⟨W, 0, none⟩), .int .i64 (t : Int)] w fun e w' => e = .returned (.tuple #[.int .i64 (lvl t now : Int), .int .i64 (slt now t : Int)]) ∧ ∃ n, w' = w.drewN n := by
  have c0 := wh_now h
  clear h
  obtain ⟨hx, hx2⟩ := xor_i64 t now ht hn
  have HL := Lib.hid (place_lv t now ht hn)
  have HS := Lib.hid (place_sl now t ht)
  obtain ⟨x, hX⟩ : ∃ x, t ^^^ now = x := ⟨_, rfl⟩
  rw [hX] at hx hx2 HL
  have hw : IntKind.u64.wrap (x : Int) = (x : Int) := wrap_small .u64 (.inr rfl) _ (by omega) (by omega)
  have hl2 : Lib.bitLen x ≤ 64 := Lib.bitLen_le x 64 (by omega) (by omega)
  obtain ⟨k, hk⟩ : ∃ k, Lib.bitLen x = k := ⟨_, rfl⟩
  rw [hk] at HL hl2
  have HK := Lib.hid hk
  have HX := Lib.hid hX
  clear hk hX
  go_enter Tryd.func81, Tryd.ntmps81
  go_wp2_with (go_at_call 87; refine (Tryd.bits_Len _ _ (by omega) (by omega)).mono ?_; rintro e wx ⟨rfl, rfl⟩; rw [Int.toNat_natCast, HK.out])
  rw [HL.out]
  have h7 : lvl t now < 7 := lvl_six ht hn
  obtain ⟨lv, hlv⟩ : ∃ lv, lvl t now = lv := ⟨_, rfl⟩
  rw [hlv] at h7 HS
  rw [hlv]
  have h7I : (lv : Int) < 7 := by omega
  clear HL hx hw
  have hm : IntKind.i64.wrap (6 * (lv : Int)) = 6 * (lv : Int) := wrap_small .i64 (.inl rfl) _ (by omega) (by omega)
  go_quiet (fail)
  rw [HS.out]
  go_wp2
  subst hlv
  go_ret2
  exact ⟨rfl, _, rfl⟩
end Go.Proofs.YtpbknbnhljjjcaaDoor

namespace Go.Proofs.YtpbknbnhljjjcaaDoor
open Go.RowKit Go.Maps

theorem box3 {w w' : World} {v0 v1 v2 : Value} {t : TypeId} (hb : Below (w.heap.size + 1) (w.alloc (.cells #[v0, v1, v2] t)) w') : Below w.heap.size w w' ∧ w'.heap[w.heap.size]? = some (.cells #[v0, v1, v2] t (0, 0)) := by
  refine ⟨((Below.refl _ w).alloc (Nat.le_refl _) _).trans (hb.mono (by simp)), ?_⟩
  exact (hb.block w.heap.size (by simp)).trans (heap_alloc_new w _)
theorem cells3 {w : World} {b : Nat} {x y z : Value} {t : TypeId} (h : w.heap[b]? = some (.cells #[x, y, z] t (0, 0))) : (w.cell? ⟨b, 0, none⟩ = some x ∧ w.cell? ⟨b, 1, none⟩ = some y ∧ w.cell? ⟨b, 2, none⟩ = some z) ∧ w.frozen? ⟨b, 0, none⟩ = false ∧ w.frozen? ⟨b, 1, none⟩ = false ∧ w.frozen? ⟨b, 2, none⟩ = false := by
  refine ⟨⟨?_, ?_, ?_⟩, ?_, ?_, ?_⟩ <;> simp [World.cell?, World.frozen?, h]
theorem below_drewN {B : Nat} {w w' : World} (h : Below B w w') (n : Nat) : Below B w (w'.drewN n) := ⟨h.os, h.tape, h.output, h.size, h.block⟩

/-- What laying somebody down leaves. -/
theorem lay_done {S : Nat → Prop} {W M now o : Nat} {A P : List Ent} {sm : Nat → Nat} {sv : Nat → Value} {rows : Nat → List Ent} {w w2 w3 : World} (h : WhAt S W M now o A P sm sv rows w) {x : Ent} (hx : now ≤ x.due ∧ x.due ≤ 1099511627776) {lv s q n g cap : Nat} (hb : Below w.heap.size w w2)
    (hg : w2.grownBy w3 (sv q).ownBlock) (hown : w3.ownsRow 0 154 3 (.slice (some ⟨g, 0, none⟩) ((rows q).length + 1) cap) ((rows q).length + 1) (entsC (rows q) ++ entC x)) (hat : (sv q).ownBlock = some g ∨ w.heap.size ≤ g) (hlt : g < w3.heap.size)
    (hq : lv * 64 + s = q) (h7 : lv < 7) (hs : s < 64) (hQ : qOf now x.due = q) (hn : n < 18446744073709551616) (hbit : ∀ i, i < 64 → (n.testBit i = true ↔ (sm lv).testBit i = true ∨ i = s)) :
    ∃ S' sm' sv' rows', WhAt S' W M now o A (x :: P) sm' sv' rows' (((w3.setCell ⟨W, 3 + lv * 65 + 1 + s, none⟩ (.slice (some ⟨g, 0, none⟩) ((rows q).length + 1) cap)).setCell ⟨W, 3 + lv * 65, none⟩ (.int .u64 (n : Int))).drew) ∧
      Only S w (((w3.setCell ⟨W, 3 + lv * 65 + 1 + s, none⟩ (.slice (some ⟨g, 0, none⟩) ((rows q).length + 1) cap)).setCell ⟨W, 3 + lv * 65, none⟩ (.int .u64 (n : Int))).drew) ∧ ∀ i, S' i → S i ∨ w.heap.size ≤ i := by
  have hq448 : q < 448 := by omega
  have hWl := h.low W h.mem.1
  have hMl := h.low M h.mem.2.1
  have hrow : ∀ b, (sv q).ownBlock = some b → S b ∧ b ≠ W ∧ b ≠ M := fun b hb => h.rws.own q b hq448 hb
  have hsz := hb.size
  have hsz3 := hg.size
  have k1 : ∀ i, i < w.heap.size → some i ≠ (sv q).ownBlock → w3.heap[i]? = w.heap[i]? := fun i hi hne => (hg.block i (by omega) hne).trans (hb.block i hi)
  have hW3 : w3.heap[W]? = some (wheelObj 118 now o M sm sv) := (k1 W hWl (fun e => (hrow W e.symm).2.1 rfl)).trans h.cells
  have hset : ∀ (i : Nat) (v1 v2 : Value), i ≠ W → (((w3.setCell ⟨W, 3 + lv * 65 + 1 + s, none⟩ v1).setCell ⟨W, 3 + lv * 65, none⟩ v2).drew).heap[i]? = w3.heap[i]? := fun i v1 v2 hi => (Below.heap_setCell _ _ _ _ hi).trans (Below.heap_setCell _ _ _ _ hi)
  have hgne : g ≠ W ∧ g ≠ M ∧ (S g ∨ w.heap.size ≤ g) := by
    rcases hat with e | e
    · obtain ⟨r1, r2, r3⟩ := hrow g e; exact ⟨r2, r3, .inl r1⟩
    · exact ⟨by omega, by omega, .inr e⟩
  have hrows := (h.rws.mono (T := fun i => S i ∨ (w.heap.size ≤ i ∧ i < w3.heap.size)) (fun i hi => .inl hi)).put (q := q) (xs := rows q ++ [x]) (v := .slice (some ⟨g, 0, none⟩) ((rows q).length + 1) cap) (w' := w3)
    (by rw [List.length_append, entsC_append]; simpa [entsC] using hown)
    (fun r b hr hne hv => k1 b (h.low b (h.rws.own r b hr hv).1) (fun e => hne (h.rws.apart r q b hr hq448 hv e.symm)))
    (fun b hv => by
      have hv : some g = some b := hv
      cases hv
      refine ⟨⟨?_, hgne.1, hgne.2.1⟩, fun r hr hne hv2 => ?_⟩
      · rcases hgne.2.2 with e | e
        · exact .inl e
        · exact .inr ⟨e, hlt⟩
      · rcases hat with e | e
        · exact hne (h.rws.apart r q g hr hq448 hv2 e)
        · have := h.low g (h.rws.own r g hr hv2).1; omega)
  refine ⟨fun i => S i ∨ (w.heap.size ≤ i ∧ i < w3.heap.size), updF sm lv n, updF sv q (.slice (some ⟨g, 0, none⟩) ((rows q).length + 1) cap), updF rows q (rows q ++ [x]), ⟨?_, ?_, ?_, ⟨.inl h.mem.1, .inl h.mem.2.1, h.mem.2.2⟩, fun i hi => ?_, h.placed.lay x hQ, ?_, h.tm, fun y hy => ?_⟩, ?_, fun i hi => ?_⟩
  · rw [← hq]
    exact wh_setSm (wh_setSv hW3 lv hs _) lv n
  · exact h.map.block ((hset M _ _ (fun e => h.mem.2.2 e.symm)).trans (k1 M hMl (fun e => (hrow M e.symm).2.2 rfl)))
  · refine hrows.kept (fun r b hr hv => hset b _ _ ?_)
    exact (hrows.own r b hr hv).2.1
  · have hs3 : ∀ v1 v2 : Value, (((w3.setCell ⟨W, 3 + lv * 65 + 1 + s, none⟩ v1).setCell ⟨W, 3 + lv * 65, none⟩ v2).drew).heap.size = w3.heap.size := fun v1 v2 => by simp [World.setCell, World.drew]
    rw [hs3]
    rcases hi with hi | hi
    · have := h.low i hi; omega
    · exact hi.2
  · rw [← hq]
    exact h.bits.lay h7 hs hn hbit (by simp)
  · rcases List.mem_cons.1 hy with rfl | hy
    · exact hx
    · exact h.due y hy
  · have h1 : Only S w w3 := (Only.of_below hb).grown hg (fun b hb2 _ => (hrow b hb2).1)
    have h2 := (h1.set (p := ⟨W, 3 + lv * 65 + 1 + s, none⟩) h.mem.1 (.slice (some ⟨g, 0, none⟩) ((rows q).length + 1) cap)).set (p := ⟨W, 3 + lv * 65, none⟩) h.mem.1 (.int .u64 (n : Int))
    exact ⟨h2.os, h2.tape, h2.output, h2.size, h2.block⟩
  · rcases hi with hi | hi
    · exact .inl hi
    · exact .inr hi.1
theorem Tryd.info154 : (Tryd.prog.info? 154).map (fun i => (i.zero, i.size, i.bytes)) = some (some (.agg #[.int .i64 0, .int .i64 0, .int .i64 0]), 3, 24) := by kernel_rfl
set_option maxRecDepth 100000 in
set_option maxHeartbeats 1000000 in
theorem lay_ok {S : Nat → Prop} {W M now o : Nat} {A P : List Ent} {sm : Nat → Nat} {sv : Nat → Value} {rows : Nat → List Ent} {w : World} (h : WhAt S W M now o A P sm sv rows w) (x : Ent) (hx : now ≤ x.due ∧ x.due ≤ 1099511627776) (hlen : P.length < 1099511627776) :
    Calls Tryd.prog 71 #[.pointer (some ⟨W, 0, none⟩), .agg #[.int .i64 x.key, .int .i64 (x.due : Int), .int .i64 (x.ord : Int)]] w fun e w' => e = .returned (.tuple #[]) ∧ ∃ S' sm' sv' rows', WhAt S' W M now o A (x :: P) sm' sv' rows' w' ∧ Only S w w' ∧ ∀ i, S' i → S i ∨ w.heap.size ≤ i := by
  have HW := Lib.hid h
  have ht := h.tm
  obtain ⟨k, t, d⟩ := x
  dsimp only at hx ⊢
  have ht4 : t < 4398046511104 := by omega
  have hn4 : now < 4398046511104 := by omega
  have h7 := lvl_six ht4 hn4
  have hs64 := slt_lt now t
  have HP := Lib.hid (fun (w1 : World) (h1 : w1.heap[W]? = some (wheelObj 118 now o M sm sv)) => place_ok h1 t hn4 ht4)
  obtain ⟨lv, hlv⟩ : ∃ lv, lvl t now = lv := ⟨_, rfl⟩
  obtain ⟨s, hs⟩ : ∃ s, slt now t = s := ⟨_, rfl⟩
  rw [hlv] at h7 HP
  rw [hs] at hs64 HP
  have HQ := Lib.hid (show qOf now t = lv * 64 + s from by unfold qOf; rw [hlv, hs])
  clear h hlv hs
  have h7I : (lv : Int) < 7 := by omega
  have hsI : (s : Int) < 64 := by omega
  go_enter Tryd.func71, Tryd.ntmps71
  go_wp2_with (go_at_call 81; refine (HP.out _ ((((Below.refl _ w).alloc (Nat.le_refl _) _).block W (HW.out.low W HW.out.mem.1)).trans HW.out.cells)).mono ?_; rintro e w1 ⟨rfl, n, rfl⟩)
  obtain ⟨w1, hw1⟩ : ∃ w1, (w.alloc (.cells #[.int .i64 k, .int .i64 (t : Int), .int .i64 (d : Int)] 154)).drewN n = w1 := ⟨_, rfl⟩
  have hb1 : Below w.heap.size w w1 := by rw [← hw1]; exact below_drewN ((Below.refl _ w).alloc (Nat.le_refl _) _) n
  have hs1 : w1.heap.size = w.heap.size + 1 := by rw [← hw1]; simp
  have hbx : w1.heap[w.heap.size]? = some (.cells #[.int .i64 k, .int .i64 (t : Int), .int .i64 (d : Int)] 154 (0, 0)) := by rw [← hw1]; exact heap_alloc_new w _
  rw [hw1]
  clear hw1
  have HW1 := Lib.hid (HW.out.below hb1)
  obtain ⟨⟨b0, b1, b2⟩, _⟩ := cells3 hbx
  have c0 := wh_sv HW1.out.cells h7 hs64
  have c1 := wh_sm HW1.out.cells h7
  have f0 := wh_free HW1.out.cells (3 + lv * 65 + 1 + s)
  have f1 := wh_free HW1.out.cells (3 + lv * 65)
  obtain ⟨q, hq⟩ : ∃ q, lv * 64 + s = q := ⟨_, rfl⟩
  rw [hq] at c0 HQ
  have hq448 : q < 448 := by omega
  have HROW := Lib.hid (HW1.out.rws.row q hq448)
  have HBX := Lib.hid hbx
  have HB1 := Lib.hid hb1
  have HS1 := Lib.hid hs1
  have HQQ := Lib.hid hq
  clear hbx hb1 hs1 hq
  obtain ⟨v, hv⟩ : ∃ v, sv q = v := ⟨_, rfl⟩
  obtain ⟨l, hl⟩ : ∃ l, rows q = l := ⟨_, rfl⟩
  rw [hv] at c0 HROW
  rw [hl] at HROW
  have HV := Lib.hid hv
  have HL := Lib.hid hl
  clear hv hl
  have HKP := Lib.hid (fun (w2 w3 : World) (h2 : Below w1.heap.size w1 w2) (h3 : w2.grownBy w3 v.ownBlock) => show w3.cell? ⟨W, 3 + lv * 65 + 1 + s, none⟩ = some v ∧ w3.cell? ⟨w.heap.size, 0, none⟩ = some (.int .i64 k) ∧ w3.cell? ⟨w.heap.size, 1, none⟩ = some (.int .i64 (t : Int)) ∧ w3.cell? ⟨w.heap.size, 2, none⟩ = some (.int .i64 (d : Int)) from by
    have hWl := HW1.out.low W HW1.out.mem.1
    have hWv : some W ≠ v.ownBlock := fun e => (HW1.out.rws.own q W hq448 (by rw [HV.out]; exact e.symm)).2.1 rfl
    have hxv : some w.heap.size ≠ v.ownBlock := fun e => by
      have := HW.out.low _ (HW.out.rws.own q w.heap.size hq448 (by rw [HV.out]; exact e.symm)).1
      omega
    have hsz := h2.size
    have hs := HS1.out
    have e1 : w3.heap[W]? = some (wheelObj 118 now o M sm sv) := ((h3.block W (by omega) hWv).trans (h2.block W hWl)).trans HW1.out.cells
    have e2 : w3.heap[w.heap.size]? = some (.cells #[.int .i64 k, .int .i64 (t : Int), .int .i64 (d : Int)] 154 (0, 0)) := ((h3.block w.heap.size (by omega) hxv).trans (h2.block w.heap.size (by omega))).trans HBX.out
    refine ⟨?_, (cells3 e2).1⟩
    rw [wh_sv e1 h7 hs64, HQQ.out, HV.out])
  have HKF := Lib.hid (fun (w2 w3 : World) (h2 : Below w1.heap.size w1 w2) (h3 : w2.grownBy w3 v.ownBlock) => show w3.heap[W]? = some (wheelObj 118 now o M sm sv) from by
    have hWl := HW1.out.low W HW1.out.mem.1
    have hWv : some W ≠ v.ownBlock := fun e => (HW1.out.rws.own q W hq448 (by rw [HV.out]; exact e.symm)).2.1 rfl
    have hsz := h2.size
    exact ((h3.block W (by omega) hWv).trans (h2.block W hWl)).trans HW1.out.cells)
  have hi := Tryd.info154
  obtain ⟨i0, hi, hz0, hz1, hz2⟩ := info_parts hi
  have HI := Lib.hid (And.intro hi (And.intro hz0 (And.intro hz1 hz2)))
  clear hi hz0 hz1 hz2
  have HLL := Lib.hid (show l.length < 1099511627776 from by
    have h1 := (HW.out.placed q hq448).length_eq
    rw [HL.out] at h1
    have h2 : (ofQ now q P).length ≤ P.length := List.length_filter_le _ _
    omega)
  have c0a : (w1.alloc (.cells #[.int .i64 k, .int .i64 (t : Int), .int .i64 (d : Int)] 154)).cell? ⟨W, 3 + lv * 65 + 1 + s, none⟩ = some v := (World.cell?_of_block (Below.heap_alloc w1 _ W (HW1.out.low W HW1.out.mem.1))).trans c0
  go_region_law
    ((refine step_append_lies _ (by rfl) _ _ 112 (by rfl) 0 154 i0 (.agg #[.int .i64 0, .int .i64 0, .int .i64 0]) 3 24 Tryd.underlying112 HI.out.1 HI.out.2.1 HI.out.2.2.1 HI.out.2.2.2 rfl (by decide) v l.length (entsC l) (by rfl) (ownsRow_kept HROW.out (fun g hg => Below.heap_alloc _ _ _ (by have := HW1.out.low _ (HW1.out.rws.own q g hq448 (by rw [HV.out]; exact hg)).1; exact this))) ⟨w1.heap.size, 0, none⟩ 1 1 [.int .i64 k, .int .i64 (t : Int), .int .i64 (d : Int)] (by rfl) rfl (World.news_of_block (heap_alloc_new _ _)) (by simp [Value.oneCell']) (by decide) (by unfold maxLen; have := HLL.out; omega) (by have := HLL.out; omega) (Nat.zero_le _) _ rfl ?_; intro g cap w3 hown3 hgrow0 hat hlt; have hgrow := Lib.hid hgrow0; have HB3 := Lib.hid ((Below.refl _ w1).alloc (Nat.le_refl _) (.cells #[.int .i64 k, .int .i64 (t : Int), .int .i64 (d : Int)] 154)).drew; have HC3 := Lib.hid (HKF.out _ _ HB3.out hgrow.out); have f3 := wh_free HC3.out (3 + lv * 65 + 1 + s); have c3 := (HKP.out _ _ HB3.out hgrow.out).1; clear hgrow0))
  all_goals
    obtain ⟨w4, hw4⟩ : ∃ w4, w3.setCell ⟨W, 3 + lv * 65 + 1 + s, none⟩ (.slice (some ⟨g, 0, none⟩) (l.length + 1) cap) = w4 := ⟨_, rfl⟩
    have hcells4 : w4.heap[W]? = some (wheelObj 118 now o M sm (updF sv q (.slice (some ⟨g, 0, none⟩) (l.length + 1) cap))) := by
      rw [← hw4, ← HQQ.out]
      exact wh_setSv HC3.out lv hs64 _
    go_wp2_with fail
    rw [hw4]
    have HW4 := Lib.hid hw4
    clear hw4 c0 c1 c3 c0a f0 f1 f3 b0 b1 b2
    have c4 := wh_sm hcells4 h7
    have f4 := wh_free hcells4 (3 + lv * 65)
    have HC4 := Lib.hid hcells4
    clear hcells4
    obtain ⟨a, ha⟩ : ∃ a, sm lv = a := ⟨_, rfl⟩
    rw [ha] at c4
    have HA := Lib.hid ha
    clear ha
    have hWT := wrap_two s hs64
    obtain ⟨nb, hn1, hn2, hn3⟩ := or_bit a s (by rw [← HA.out]; exact (HW.out.bits lv h7).1) hs64
    have HN1 := Lib.hid hn1
    have HN3 := Lib.hid hn3
    have HWT := Lib.hid hWT
    clear hn1 hn3 hWT
    go_region
    all_goals
      go_end0
      rw [HWT.out, HN1.out, ← HW4.out]
      refine ⟨rfl, ?_⟩
      have e1 := HV.out
      have e2 := HL.out
      subst e1 e2
      exact lay_done HW.out hx (HB1.out.trans (HB3.out.mono HB1.out.size)) hgrow.out hown3 (by rcases hat with e | e <;> first | exact .inl e | (right; have := HS1.out; have e : g = _ := e; simp at e; omega)) hlt HQQ.out h7 hs64 HQ.out hn2 (by rw [HA.out]; exact HN3.out)
end Go.Proofs.YtpbknbnhljjjcaaDoor

namespace Go.Proofs.YtpbknbnhljjjcaaDoor
open Go.RowKit Go.Maps

/-- What emptying a slot leaves. -/
theorem take_done {S : Nat → Prop} {W M now o : Nat} {A P : List Ent} {sm : Nat → Nat} {sv : Nat → Value} {rows : Nat → List Ent} {w : World} (h : WhAt S W M now o A P sm sv rows w) {lv s q n : Nat}
    (hq : lv * 64 + s = q) (h7 : lv < 7) (hs : s < 64) (hn : n < 18446744073709551616) (hbit : ∀ i, i < 64 → (n.testBit i = true ↔ (sm lv).testBit i = true ∧ i ≠ s)) :
    ∃ sm' sv' rows', WhAt (fun i => S i ∧ (sv q).ownBlock ≠ some i) W M now o A (notQ now q P) sm' sv' rows' (((w.setCell ⟨W, 3 + lv * 65 + 1 + s, none⟩ (.slice none 0 0)).setCell ⟨W, 3 + lv * 65, none⟩ (.int .u64 (n : Int))).drew) ∧
      Only S w (((w.setCell ⟨W, 3 + lv * 65 + 1 + s, none⟩ (.slice none 0 0)).setCell ⟨W, 3 + lv * 65, none⟩ (.int .u64 (n : Int))).drew) ∧ (((w.setCell ⟨W, 3 + lv * 65 + 1 + s, none⟩ (.slice none 0 0)).setCell ⟨W, 3 + lv * 65, none⟩ (.int .u64 (n : Int))).drew).ownsRow 0 154 3 (sv q) (rows q).length (entsC (rows q)) := by
  have hq448 : q < 448 := by omega
  have hrow : ∀ b, (sv q).ownBlock = some b → S b ∧ b ≠ W ∧ b ≠ M := fun b hb => h.rws.own q b hq448 hb
  have hset : ∀ (i : Nat) (v1 v2 : Value), i ≠ W → (((w.setCell ⟨W, 3 + lv * 65 + 1 + s, none⟩ v1).setCell ⟨W, 3 + lv * 65, none⟩ v2).drew).heap[i]? = w.heap[i]? := fun i v1 v2 hi => (Below.heap_setCell _ _ _ _ hi).trans (Below.heap_setCell _ _ _ _ hi)
  have hs3 : ∀ v1 v2 : Value, (((w.setCell ⟨W, 3 + lv * 65 + 1 + s, none⟩ v1).setCell ⟨W, 3 + lv * 65, none⟩ v2).drew).heap.size = w.heap.size := fun v1 v2 => by simp [World.setCell, World.drew]
  have hr2 : WRows S W M (updF sv q (.slice none 0 0)) (updF rows q []) w := h.rws.put (World.ownsRow_nil w 0 154 3) (fun _ _ _ _ _ => rfl) (fun b hv => by cases hv)
  refine ⟨updF sm lv n, updF sv q (.slice none 0 0), updF rows q [], ⟨?_, ?_, ⟨fun r hr => ?_, fun r b hr hv => ?_, hr2.apart⟩, ⟨⟨h.mem.1, fun e => (hrow W e).2.1 rfl⟩, ⟨h.mem.2.1, fun e => (hrow M e).2.2 rfl⟩, h.mem.2.2⟩, fun i hi => ?_, h.placed.take q, ?_, h.tm, fun y hy => h.due y (mem_notQ.1 hy).1⟩, ?_, ?_⟩
  · rw [← hq]
    exact wh_setSm (wh_setSv h.cells lv hs _) lv n
  · exact h.map.block (hset M _ _ (fun e => h.mem.2.2 e.symm))
  · exact ownsRow_kept (hr2.row r hr) (fun g hg => hset g _ _ (hr2.own r g hr hg).2.1)
  · refine ⟨⟨(hr2.own r b hr hv).1, fun e => ?_⟩, (hr2.own r b hr hv).2⟩
    by_cases e2 : r = q
    · subst e2; rw [updF_same] at hv; cases hv
    · rw [updF_ne _ _ e2] at hv; exact e2 (h.rws.apart r q b hr hq448 hv e)
  · rw [hs3]; exact h.low i hi.1
  · rw [← hq]
    exact h.bits.clear h7 hs hn hbit
  · have h2 := ((Only.refl S w).set (p := ⟨W, 3 + lv * 65 + 1 + s, none⟩) h.mem.1 (.slice none 0 0)).set (p := ⟨W, 3 + lv * 65, none⟩) h.mem.1 (.int .u64 (n : Int))
    exact ⟨h2.os, h2.tape, h2.output, h2.size, h2.block⟩
  · exact ownsRow_kept (h.rws.row q hq448) (fun g hg => hset g _ _ (hrow g hg).2.1)
set_option maxRecDepth 100000 in
set_option maxHeartbeats 1000000 in
theorem take_ok {S : Nat → Prop} {W M now o : Nat} {A P : List Ent} {sm : Nat → Nat} {sv : Nat → Value} {rows : Nat → List Ent} {w : World} (h : WhAt S W M now o A P sm sv rows w) {lv s q : Nat}
    (hq : lv * 64 + s = q) (h7 : lv < 7) (hs : s < 64) :
    Calls Tryd.prog 70 #[.pointer (some ⟨W, 0, none⟩), .int .i64 (lv : Int), .int .i64 (s : Int)] w fun e w' => e = .returned (sv q) ∧ ∃ sm' sv' rows', WhAt (fun i => S i ∧ (sv q).ownBlock ≠ some i) W M now o A (notQ now q P) sm' sv' rows' w' ∧ Only S w w' ∧ w'.ownsRow 0 154 3 (sv q) (rows q).length (entsC (rows q)) := by
  have HW := Lib.hid h
  have h7I : (lv : Int) < 7 := by omega
  have hsI : (s : Int) < 64 := by omega
  have c0 := wh_sv h.cells h7 hs
  have c1 := wh_sm h.cells h7
  have f0 := wh_free h.cells (3 + lv * 65 + 1 + s)
  rw [hq] at c0
  obtain ⟨v, hv⟩ : ∃ v, sv q = v := ⟨_, rfl⟩
  rw [hv] at c0
  have HV := Lib.hid hv
  have HQ := Lib.hid hq
  obtain ⟨a, ha⟩ : ∃ a, sm lv = a := ⟨_, rfl⟩
  have HA := Lib.hid ha
  clear h hv hq ha c1
  go_enter Tryd.func70, Tryd.ntmps70
  go_wp2_with fail
  obtain ⟨w4, hw4⟩ : ∃ w4, w.setCell ⟨W, 3 + lv * 65 + 1 + s, none⟩ (.slice none 0 0) = w4 := ⟨_, rfl⟩
  have hc4 : w4.heap[W]? = some (wheelObj 118 now o M sm (updF sv q (.slice none 0 0))) := by
    rw [← hw4, ← HQ.out]
    exact wh_setSv HW.out.cells lv hs _
  rw [hw4]
  have HW4 := Lib.hid hw4
  clear hw4 c0 f0
  have c4 := wh_sm hc4 h7
  have f4 := wh_free hc4 (3 + lv * 65)
  have HC4 := Lib.hid hc4
  rw [HA.out] at c4
  clear hc4
  have hWT := wrap_two s hs
  obtain ⟨nb, hn1, hn2, hn3⟩ := andNot_bit a s hs
  have HN1 := Lib.hid hn1
  have HN3 := Lib.hid hn3
  have HWT := Lib.hid hWT
  clear hn1 hn3 hWT
  go_region
  all_goals
    go_wp2
    go_ret
    rw [HWT.out, HN1.out, ← HW4.out]
    have e1 := HV.out
    subst e1
    exact ⟨rfl, take_done HW.out HQ.out h7 hs hn2 (by rw [HA.out]; exact HN3.out)⟩
end Go.Proofs.YtpbknbnhljjjcaaDoor

namespace Go.Proofs.YtpbknbnhljjjcaaDoor
open Go.RowKit Go.Maps

/-- What next tells. -/
def NextSays (now : Nat) (sm : Nat → Nat) (r : Value) : Prop :=
  (r = .tuple #[.int .i64 0, .int .i64 0, .int .i64 0, .bool false] ∧ ∀ i : Nat, i < 7 → sm i = 0) ∨
  ∃ lv s : Nat, r = .tuple #[.int .i64 (lv : Int), .int .i64 (s : Int), .int .i64 (fromOf now lv s : Int), .bool true] ∧ lv < 7 ∧ (∀ i : Nat, i < lv → sm i = 0) ∧ s < 64 ∧ (sm lv).testBit s = true ∧ ∀ i : Nat, i < s → (sm lv).testBit i = false
set_option maxRecDepth 100000 in
set_option maxHeartbeats 1000000 in
theorem next_ok {W M now o : Nat} {sm : Nat → Nat} {sv : Nat → Value} {w : World} (h : w.heap[W]? = some (wheelObj 118 now o M sm sv)) (hT : TabAt 0 Lib.deBruijn64tab w) (hn : now < 4398046511104) (hsm : ∀ i, i < 7 → sm i < 18446744073709551616) :
    Calls Tryd.prog 69 #[.pointer (some ⟨W, 0, none⟩)] w fun e w' => (∃ r, e = .returned r ∧ NextSays now sm r) ∧ ∃ n, w' = w.drewN n := by
  have H := Lib.hid h
  have HT := Lib.hid hT
  have HSM := Lib.hid hsm
  clear h hT hsm
  go_enter Tryd.func69, Tryd.ntmps69
  go_wp2_with fail
  go_loop [10] (fun vi => ∃ i : Nat, vi = .int .i64 (i : Int) ∧ i ≤ 7 ∧ ∀ j, j < i → sm j = 0) (fun vi => 7 - (intOf vi).toNat)
  case atStart => exact ⟨0, rfl, by omega, fun j hj => by omega⟩
  case round =>
    obtain ⟨i, rfl, hi, hz⟩ := hrel
    have HZ := Lib.hid hz
    clear hz
    by_cases hlt : i < 7
    · have hltI : (i : Int) < 7 := by omega
      have c0 := wh_sm H.out hlt
      obtain ⟨a, ha⟩ : ∃ a, sm i = a := ⟨_, rfl⟩
      rw [ha] at c0
      have ha64 : a < 18446744073709551616 := by rw [← ha]; exact HSM.out i hlt
      have HA := Lib.hid ha
      clear ha
      by_cases h0 : a = 0
      · subst h0
        go_wp2_with fail
        go_round
        case rel => exact ⟨i + 1, by go_num, by omega, fun j hj => by
          by_cases e : j = i
          · subst e; exact HA.out
          · exact HZ.out j (by omega)⟩
        case measure => simp [intOf]; omega
      · have hne : ((a : Int) != 0) = true := by rw [bne_iff_ne]; omega
        obtain ⟨k1, k2, k3⟩ := ctz_bits a h0 ha64
        obtain ⟨s, hs⟩ : ∃ s, Lib.ctz 64 a = s := ⟨_, rfl⟩
        have HS := Lib.hid hs
        rw [hs] at k1 k2 k3
        clear hs
        have HK := Lib.hid (And.intro k2 k3)
        clear k2 k3
        have HF := Lib.hid (from_code now i s hn hlt k1)
        have c1 := wh_now H.out
        go_wp2_with (go_at_call 85; refine (Any7.bits_TrailingZeros64 Tryd.tz29 a ha64 _ (fun _ => HT.out)).mono ?_; rintro e wx ⟨rfl, rfl⟩; rw [HS.out])
        have hm : IntKind.i64.wrap (6 * (i : Int)) = 6 * (i : Int) := wrap_small .i64 (.inl rfl) _ (by omega) (by omega)
        have hm1 : ¬ (6 * ((i : Int) + 1) < 0) := by omega
        have hm2 : 0 ≤ 6 * ((i : Int) + 1) := by omega
        have hm3 : (6 * ((i : Int) + 1)).toNat = 6 * (i + 1) := by omega
        have hm4 : 0 ≤ 6 * (i : Int) := by omega
        have hm5 : (6 * (i : Int)).toNat = 6 * i := by omega
        go_quiet (fail)
        rw [w64, w64, HF.out.1]
        go_wp2
        refine bodyPost_ret (v := .tuple #[.int .i64 (i : Int), .int .i64 (s : Int), .int .i64 (fromOf now i s : Int), .bool true]) (by simp [results, Tryd.results69, go_sem]) rfl ⟨⟨_, rfl, .inr ⟨i, s, rfl, hlt, HZ.out, k1, ?_, ?_⟩⟩, _, rfl⟩
        · rw [HA.out]; exact HK.out.1
        · rw [HA.out]; exact HK.out.2
    · obtain rfl : i = 7 := by omega
      go_wp2
      refine bodyPost_ret (v := .tuple #[.int .i64 0, .int .i64 0, .int .i64 0, .bool false]) (by simp [results, Tryd.results69, go_sem]) rfl ⟨⟨_, rfl, .inl ⟨rfl, HZ.out⟩⟩, 0, rfl⟩
end Go.Proofs.YtpbknbnhljjjcaaDoor

namespace Go.Proofs.YtpbknbnhljjjcaaDoor
open Go.RowKit Go.Maps Go.Lib Go.Sort

instance : Inhabited Ent := ⟨⟨0, 0, 0⟩⟩
/-- How two stand to one another. -/
def cfE (x y : Ent) : Int := if Lib.compareInt (x.due : Int) (y.due : Int) = 0 then Lib.compareInt (x.ord : Int) (y.ord : Int) else Lib.compareInt (x.due : Int) (y.due : Int)
theorem lt_cfE (x y : Ent) : ltOf cfE x y = true ↔ x.lt y := by
  unfold ltOf cfE Lib.compareInt Ent.lt
  simp only [decide_eq_true_iff]
  repeat' split
  all_goals omega
theorem lt_cfE_false (x y : Ent) : ltOf cfE x y = false ↔ ¬ x.lt y := by
  rw [← lt_cfE]; simp
theorem swoE : SWO (ltOf cfE) where
  irrefl x := by rw [lt_cfE_false]; unfold Ent.lt; omega
  trans x y z h1 h2 := by rw [lt_cfE] at *; exact Ent.lt_trans h1 h2
  ntrans x y z h1 h2 := by rw [lt_cfE_false] at *; unfold Ent.lt at *; omega

set_option maxHeartbeats 1000000 in
theorem or_ok (r1 r2 : Int) (b : Nat) (w : World) (h0 : w.cell? ⟨b, 0, none⟩ = some (.int .i64 r1)) (h1 : w.cell? ⟨b, 1, none⟩ = some (.int .i64 r2)) :
    Calls Tryd.prog 88 #[.slice (some ⟨b, 0, none⟩) 2 2] w fun e w' => e = .returned (.int .i64 (if r1 = 0 then r2 else r1)) ∧ w' = w := by
  by_cases e1 : r1 = 0
  · subst e1
    by_cases e2 : r2 = 0
    · subst e2
      go_enter Tryd.func88, Tryd.ntmps88
      go_wp2
      refine wp_loop_rounds 3 ?_
      rw [rounds_succ]
      go_wp2
      rw [rounds_succ]
      go_wp2
      rw [rounds_succ]
      go_wp2
      go_ret
      exact ⟨rfl, rfl⟩
    · have hne : (r2 != 0) = true := by rw [bne_iff_ne]; exact e2
      go_enter Tryd.func88, Tryd.ntmps88
      go_wp2
      refine wp_loop_rounds 3 ?_
      rw [rounds_succ]
      go_wp2
      rw [rounds_succ]
      go_wp2
      go_ret
      exact ⟨rfl, rfl⟩
  · have hne : (r1 != 0) = true := by rw [bne_iff_ne]; exact e1
    rw [if_neg e1]
    go_enter Tryd.func88, Tryd.ntmps88
    go_wp2
    refine wp_loop_rounds 1 ?_
    rw [rounds_succ]
    go_wp2
    go_ret
    exact ⟨rfl, rfl⟩

/-- Draws and new blocks. -/
def Grown (W w' : World) : Prop := ∃ q os, w' = grow (W.drewN q) os
theorem Grown.refl (W : World) : Grown W W := ⟨0, #[], by simp; rfl⟩
theorem Grown.alloc {W w : World} (h : Grown W w) (o : Obj) : Grown W (w.alloc o) := by
  obtain ⟨q, os, rfl⟩ := h
  exact ⟨q, os ++ #[o], by rw [alloc_eq_grow, grow_grow]⟩
theorem Grown.drew {W w : World} (h : Grown W w) : Grown W w.drew := by
  obtain ⟨q, os, rfl⟩ := h
  exact ⟨q + 1, os, rfl⟩
theorem Grown.drewN {W w : World} (h : Grown W w) (n : Nat) : Grown W (w.drewN n) := by
  obtain ⟨q, os, rfl⟩ := h
  refine ⟨q + n, os, ?_⟩
  show grow ((W.drewN q).drewN n) os = _
  congr 1
  simp [World.drewN, Nat.add_assoc]
set_option maxHeartbeats 1000000 in
set_option maxRecDepth 100000 in
theorem before_ok (x y : Ent) (W : World) : Calls Tryd.prog 73 #[.agg #[.int .i64 x.key, .int .i64 (x.due : Int), .int .i64 (x.ord : Int)], .agg #[.int .i64 y.key, .int .i64 (y.due : Int), .int .i64 (y.ord : Int)]] W fun e w' => e = .returned (.int .i64 (cfE x y)) ∧ Grown W w' := by
  have HG := Lib.hid (Grown.refl W)
  obtain ⟨k, t, d⟩ := x
  obtain ⟨k', t', d'⟩ := y
  dsimp only
  obtain ⟨r, hr⟩ : ∃ r, cfE ⟨k, t, d⟩ ⟨k', t', d'⟩ = r := ⟨_, rfl⟩
  rw [hr]
  have HRR := Lib.hid (show (if Lib.compareInt (t : Int) (t' : Int) = 0 then Lib.compareInt (d : Int) (d' : Int) else Lib.compareInt (t : Int) (t' : Int)) = r from hr)
  clear hr
  go_enter Tryd.func73, Tryd.ntmps73
  go_wp2_with fail
  obtain ⟨w0, hw0⟩ : ∃ w0, (W.alloc (.cells #[.int .i64 k, .int .i64 (t : Int), .int .i64 (d : Int)] 154)).alloc (.cells #[.int .i64 k', .int .i64 (t' : Int), .int .i64 (d' : Int)] 154) = w0 := ⟨_, rfl⟩
  have hb1 : w0.heap[W.heap.size]? = some (.cells #[.int .i64 k, .int .i64 (t : Int), .int .i64 (d : Int)] 154 (0, 0)) := by rw [← hw0]; exact (Below.heap_alloc _ _ _ (by simp)).trans (heap_alloc_new W _)
  have hb2 : w0.heap[W.heap.size + 1]? = some (.cells #[.int .i64 k', .int .i64 (t' : Int), .int .i64 (d' : Int)] 154 (0, 0)) := by
    rw [← hw0]
    have h := heap_alloc_new (W.alloc (.cells #[.int .i64 k, .int .i64 (t : Int), .int .i64 (d : Int)] 154)) (.cells #[.int .i64 k', .int .i64 (t' : Int), .int .i64 (d' : Int)] 154)
    simpa using h
  have hG0 : Grown W w0 := by rw [← hw0]; exact ((Grown.refl W).alloc _).alloc _
  have hs0 : w0.heap.size = W.heap.size + 2 := by rw [← hw0]; simp
  rw [hw0]
  have HGW := Lib.hid hG0
  have HH := Lib.hid (fun (w' : World) (hb : Below w0.heap.size w0 w') => show w'.cell? ⟨W.heap.size, 1, none⟩ = some (.int .i64 (t : Int)) ∧ w'.cell? ⟨W.heap.size, 2, none⟩ = some (.int .i64 (d : Int)) ∧ w'.cell? ⟨W.heap.size + 1, 1, none⟩ = some (.int .i64 (t' : Int)) ∧ w'.cell? ⟨W.heap.size + 1, 2, none⟩ = some (.int .i64 (d' : Int)) from by
    obtain ⟨⟨_, a1, a2⟩, _⟩ := cells3 ((hb.block _ (by omega)).trans hb1)
    obtain ⟨⟨_, b1, b2⟩, _⟩ := cells3 ((hb.block _ (by omega)).trans hb2)
    exact ⟨a1, a2, b1, b2⟩)
  clear hw0 hb1 hb2 hG0 HG hs0
  have HO := Lib.hid (fun (w : World) (b : Nat) h0 h1 => or_ok (Lib.compareInt (t : Int) (t' : Int)) (Lib.compareInt (d : Int) (d' : Int)) b w h0 h1)
  rw [HRR.out] at HO
  go_region_held3 (fun W' : World => (W'.cell? ⟨W.heap.size, 1, none⟩ = some (.int .i64 (t : Int)) ∧ W'.cell? ⟨W.heap.size, 2, none⟩ = some (.int .i64 (d : Int)) ∧ W'.cell? ⟨W.heap.size + 1, 1, none⟩ = some (.int .i64 (t' : Int)) ∧ W'.cell? ⟨W.heap.size + 1, 2, none⟩ = some (.int .i64 (d' : Int)))) (first | exact HH.out _ (Below.refl _ _) | exact HH.out _ (Below.refl _ _).drew | exact HH.out _ ((Below.refl _ _).alloc (Nat.le_refl _) _).drew | exact HH.out _ ((Below.refl _ _).drew.alloc (Nat.le_refl _) _))
    (first
      | (go_at_call 89; refine (Tryd.cmp_Compare_int _ _ _).mono ?_; rintro e wx ⟨rfl, rfl⟩)
      | (go_at_call 88; refine (HO.out _ _ (by simp) (by simp)).mono ?_; rintro e wx ⟨rfl, rfl⟩))
  all_goals
    go_wp2
    go_ret
    exact ⟨rfl, (HGW.out.alloc _).drew⟩
end Go.Proofs.YtpbknbnhljjjcaaDoor

namespace Go.Proofs.YtpbknbnhljjjcaaDoor
open Go.RowKit Go.Maps Go.Lib Go.Sort

theorem entsC_get {l : List Ent} {t : Nat} (ht : t < l.length * 3) : (entsC l)[t]? = some ((entC (l.toArray[t / 3]!))[t % 3]!) := by
  have hi : t / 3 < l.length := by omega
  have hx : l[t / 3]? = some (l.toArray[t / 3]!) := by
    rw [getElem!_pos l.toArray (t / 3) (by simpa using hi), List.getElem?_eq_getElem hi]
    simp
  generalize l.toArray[t / 3]! = x at hx ⊢
  obtain ⟨h1, h2, h3⟩ := entsC_at hx
  have hm : t % 3 = 0 ∨ t % 3 = 1 ∨ t % 3 = 2 := by omega
  rcases hm with hm | hm | hm
  · rw [show t / 3 * 3 = t from by omega] at h1
    rw [hm, h1]; rfl
  · rw [show t / 3 * 3 + 1 = t from by omega] at h2
    rw [hm, h2]; rfl
  · rw [show t / 3 * 3 + 2 = t from by omega] at h3
    rw [hm, h3]; rfl
theorem entsC_flat (l : List Ent) : entsC l = (flatK entC 3 l.toArray).toList := by
  refine List.ext_getElem? (fun t => ?_)
  by_cases ht : t < l.length * 3
  · rw [entsC_get ht]
    have h := get_flatK entC 3 l.toArray t (by simpa using ht)
    rw [← h, Array.getElem?_toList]
    rw [Array.getElem?_eq_getElem (by rw [size_flatK]; simpa using ht), getElem!_pos (flatK entC 3 l.toArray) t (by rw [size_flatK]; simpa using ht)]
  · rw [List.getElem?_eq_none (by rw [entsC_len]; omega), List.getElem?_eq_none (by rw [Array.length_toList, size_flatK]; simpa using ht)]
theorem row_holds {w : World} {base g n cap : Nat} {l : List Ent} (h : w.ownsRow base 154 3 (.slice (some ⟨g, 0, none⟩) n cap) n (entsC l)) (hn : l.length = n) : HoldsK entC 3 w g 0 l.toArray := by
  rcases h.2 with ⟨hv, _⟩ | ⟨g', cap', cur, hv, _, hg, hle, _, hsz, htk⟩
  · cases hv
  · cases hv
    intro j hj
    rw [size_flatK] at hj
    have hj : j < n * 3 := by rw [← hn]; simpa using hj
    have hc : cur[j]? = some (flatK entC 3 l.toArray)[j]! := by
      have e1 : (cur.toList.take (n * 3))[j]? = cur[j]? := by rw [List.getElem?_take, if_pos hj]; simp
      rw [← e1, htk, entsC_flat, Array.getElem?_toList, Array.getElem?_eq_getElem (by rw [size_flatK]; simp; omega), getElem!_pos _ j (by rw [size_flatK]; simp; omega)]
    constructor
    · simp only [World.cell?, hg, Nat.zero_add]
      simpa using hc
    · simp [World.frozen?, hg]
theorem row_sorted {w : World} {base g n cap : Nat} {l l' : List Ent} (h : w.ownsRow base 154 3 (.slice (some ⟨g, 0, none⟩) n cap) n (entsC l)) (hn' : l'.length = n) (q : Nat) (os : Array Obj) :
    (sortWorldK entC 3 w g 0 q l'.toArray os).ownsRow base 154 3 (.slice (some ⟨g, 0, none⟩) n cap) n (entsC l') ∧ w.grownBy (sortWorldK entC 3 w g 0 q l'.toArray os) (some g) := by
  rcases h.2 with ⟨hv, _⟩ | ⟨g', cap', cur, hv, hb, hg, hle, hm, hsz, htk⟩
  · cases hv
  · cases hv
    have hgl := (Array.getElem?_eq_some_iff.1 hg).1
    have hgr : ∀ i, i < w.heap.size → (sortWorldK entC 3 w g 0 q l'.toArray os).heap[i]? = (putRowK entC 3 (Sort.ahead w q) g 0 l'.toArray).heap[i]? := fun i hi => by
      unfold sortWorldK grow
      exact Array.getElem?_append_left (by rw [size_putRowK]; exact hi)
    have hpg : (putRowK entC 3 (Sort.ahead w q) g 0 l'.toArray).heap[g]? = some (.cells (putCells id 0 (flatK entC 3 l'.toArray) cur) 154 (0, 0)) := by
      unfold putRowK putRow mapBlock Sort.ahead
      simp [Array.getElem?_modify, hg, onCells]
    refine ⟨⟨by rw [entsC_len, hn'], .inr ⟨g, cap, _, rfl, hb, (hgr g hgl).trans hpg, hle, hm, by simp [putCells, hsz], ?_⟩⟩, ⟨rfl, rfl, rfl, ?_, fun i hi hne => (hgr i hi).trans ?_⟩⟩
    · refine List.ext_getElem? (fun j => ?_)
      by_cases hj : j < n * 3
      · rw [List.getElem?_take, if_pos hj, entsC_flat, Array.getElem?_toList, Array.getElem?_toList]
        have hfs : j < (flatK entC 3 l'.toArray).size := by rw [size_flatK]; simp; omega
        have hle2 : n * 3 ≤ cap * 3 := Nat.mul_le_mul_right _ hle
        have hcs : j < cur.size := by omega
        simp only [putCells, Array.getElem?_mapIdx, Array.getElem?_eq_getElem hcs, Option.map_some]
        rw [if_pos ⟨by omega, by omega⟩, Array.getElem?_eq_getElem hfs, Nat.sub_zero, getElem!_pos _ j hfs]
        rfl
      · rw [List.getElem?_take, if_neg hj, List.getElem?_eq_none (by rw [entsC_len]; omega)]
    · exact size_sortWorldK_c _ _ _ _ _ _ _ _
    · unfold putRowK putRow mapBlock Sort.ahead
      simp only [Array.getElem?_modify]
      rw [if_neg (fun e => hne (by rw [e]))]
theorem cmpLays48 (blk off size : Nat) (w : World) : CmpLays Tryd.prog 73 #[] entC 3 cfE blk off size w := fun _ _ _ _ x y => before_ok x y _
theorem sort_up {l l' : List Ent} (ho : (l.map Ent.ord).Nodup) (hp : PermIn 0 l.toArray.size l.toArray l'.toArray) (hs : SortedIn (ltOf cfE) 0 l.toArray.size l'.toArray) : Up l' ∧ l'.Perm l := by
  obtain ⟨hsz, _, hperm⟩ := hp
  have e1 : l'.toArray.extract 0 l.toArray.size = l'.toArray := by rw [← hsz]; exact Array.extract_size
  rw [e1, Array.extract_size] at hperm
  have hp : l'.Perm l := by simpa using hperm
  refine ⟨?_, hp⟩
  have ho' : (l'.map Ent.ord).Nodup := ((hp.map Ent.ord).nodup_iff).2 ho
  unfold Up
  rw [List.pairwise_iff_getElem]
  intro i j hi hj hij
  have h := hs i j (Nat.zero_le _) hij (by rw [← hsz]; simpa using hj)
  rw [getElem!_pos l'.toArray j (by simpa using hj), getElem!_pos l'.toArray i (by simpa using hi), lt_cfE_false] at h
  have hne : (l'[i]).ord ≠ (l'[j]).ord := by
    have := (List.pairwise_iff_getElem.1 ho') i j (by simpa using hi) (by simpa using hj) hij
    simpa using this
  have h : ¬ (l'[j]).lt (l'[i]) := by simpa using h
  unfold Ent.lt at *
  omega
/-- A row, sorted. -/
theorem sort_ok {w : World} {base n : Nat} {v : Value} {l : List Ent} (h : w.ownsRow base 154 3 v n (entsC l)) (hn : l.length = n) (ho : (l.map Ent.ord).Nodup) (h0 : 0 < n) (hsz : n < 1099511627776) :
    Calls Tryd.prog 72 #[v, .func (.func 73) #[] #[]] w fun e w' => e = .returned (.tuple #[]) ∧ ∃ l', Up l' ∧ l'.Perm l ∧ w'.ownsRow base 154 3 v n (entsC l') ∧ w.grownBy w' v.ownBlock := by
  obtain ⟨g, cap, rfl, _, hgl⟩ := h.form h0
  have eg : ∀ args w, (callFunc 73 args).run Tryd.prog w = .ok (.enter 73 args) w := enters_of Tryd.func73 (by kernel_rfl) rfl
  have hcon := AnyQ.slices_SortFunc Tryd.sortE 3 Tryd.isAgg154 Tryd.sizeOf154 entC (fun _ => rfl) (fun x v hv => by simp [entC] at hv; rcases hv with rfl | rfl | rfl <;> rfl) cfE swoE 73 #[] g 0 cap l.toArray w eg (cmpLays48 g 0 _ w) (row_holds h hn) hgl (by simp; omega)
  change Calls Tryd.prog 72 _ _ _ at hcon
  rw [show l.toArray.size = n from by simpa using hn] at hcon
  refine hcon.mono ?_
  rintro e w' ⟨he, d', q, os, hp, hs, rfl⟩
  have hd : d' = d'.toList.toArray := by simp
  rw [hd] at hp hs ⊢
  rw [show n = l.toArray.size from by simpa using hn.symm] at hp hs
  obtain ⟨h1, h2⟩ := sort_up ho hp hs
  obtain ⟨h3, h4⟩ := row_sorted h (h2.length_eq.trans hn) q os
  exact ⟨he, d'.toList, h1, h2, h3, h4⟩
end Go.Proofs.YtpbknbnhljjjcaaDoor

namespace Go.Proofs.YtpbknbnhljjjcaaDoor
open Go.RowKit Go.Maps Go.Lib

theorem ofQ_perm_notQ {now q : Nat} : ∀ (P : List Ent), (notQ now q P ++ ofQ now q P).Perm P
  | [] => List.Perm.refl _
  | a :: P => by
    have ih := ofQ_perm_notQ (now := now) (q := q) P
    by_cases e : qOf now a.due = q
    · have e1 : ofQ now q (a :: P) = a :: ofQ now q P := by unfold ofQ; rw [List.filter_cons_of_pos (by simpa using e)]
      have e2 : notQ now q (a :: P) = notQ now q P := by unfold notQ; rw [List.filter_cons_of_neg (by simpa using e)]
      rw [e1, e2]
      exact List.perm_middle.trans ((List.perm_cons _).2 ih)
    · have e1 : ofQ now q (a :: P) = ofQ now q P := by unfold ofQ; rw [List.filter_cons_of_neg (by simpa using e)]
      have e2 : notQ now q (a :: P) = a :: notQ now q P := by unfold notQ; rw [List.filter_cons_of_pos (by simpa using e)]
      rw [e1, e2]
      exact (List.perm_cons _).2 ih
theorem nodup_bound : ∀ (n : Nat) (l : List Nat), l.Nodup → (∀ x ∈ l, x < n) → l.length ≤ n
  | 0, [], _, _ => Nat.le_refl _
  | 0, a :: l, _, h => by have := h a (List.mem_cons_self ..); omega
  | n + 1, l, hd, h => by
    have h1 := nodup_bound n (l.filter (fun x => decide (x ≠ n))) (hd.sublist List.filter_sublist) (fun x hx => by
      obtain ⟨h2, h3⟩ := List.mem_filter.1 hx
      have := h x h2
      have h3 : x ≠ n := of_decide_eq_true h3
      omega)
    have h2 : l.length ≤ (l.filter (fun x => decide (x ≠ n))).length + 1 := by
      clear h h1
      induction l with
      | nil => simp
      | cons a l ih =>
        have hd2 := List.nodup_cons.1 hd
        by_cases e : a = n
        · rw [List.filter_cons_of_neg (by simpa using e)]
          have : l.filter (fun x => decide (x ≠ n)) = l := List.filter_eq_self.2 (fun x hx => decide_eq_true (fun e2 => hd2.1 (by rw [e, ← e2]; exact hx)))
          rw [this, List.length_cons]; exact Nat.le_refl _
        · rw [List.filter_cons_of_pos (by simpa using e)]
          have := ih hd2.2
          rw [List.length_cons, List.length_cons]; omega
    omega
theorem Wh.len {now o : Nat} {l : List Ent} (h : Wh now o l) : l.length ≤ o := by
  have h1 := nodup_bound (o + 1) (0 :: l.map Ent.ord) (List.nodup_cons.2 ⟨fun hx => by
    obtain ⟨x, hx, e⟩ := List.mem_map.1 hx
    have := (h.ord x hx).1
    omega, h.ords⟩) (fun x hx => by
      rcases List.mem_cons.1 hx with rfl | hx
      · omega
      · obtain ⟨y, hy, rfl⟩ := List.mem_map.1 hx
        have := (h.ord y hy).2
        omega)
  simp at h1
  omega
section
variable {S : Nat → Prop} {W M now o : Nat} {A P : List Ent} {sm : Nat → Nat} {sv : Nat → Value} {rows : Nat → List Ent} {w : World}
theorem WhAt.perm (h : WhAt S W M now o A P sm sv rows w) {P' : List Ent} (hp : P.Perm P') : WhAt S W M now o A P' sm sv rows w :=
  ⟨h.cells, h.map, h.rws, h.mem, h.low, h.placed.perm hp, h.bits, h.tm, fun x hx => h.due x (hp.symm.subset hx)⟩
theorem WhAt.setNow (h : WhAt S W M now o A P sm sv rows w) {n : Nat} (hs : ∀ x ∈ P, qOf n x.due = qOf now x.due) (hd : ∀ x ∈ P, n ≤ x.due) (hn : n ≤ 1099511627776) : WhAt S W M n o A P sm sv rows (w.setCell ⟨W, 0, none⟩ (.int .i64 (n : Int))) := by
  have hk : ∀ i, i ≠ W → (w.setCell ⟨W, 0, none⟩ (.int .i64 (n : Int))).heap[i]? = w.heap[i]? := fun i hi => Below.heap_setCell _ _ _ _ hi
  exact ⟨wh_setNow h.cells _, h.map.block (hk M (fun e => h.mem.2.2 e.symm)), h.rws.kept (fun q b hq hv => hk b (h.rws.own q b hq hv).2.1), h.mem, fun i hi => by have := h.low i hi; simpa [World.setCell] using this, h.placed.move hs, h.bits, hn, fun x hx => ⟨hd x hx, (h.due x hx).2⟩⟩
theorem only_setNow (h : WhAt S W M now o A P sm sv rows w) (v : Value) : Only S w (w.setCell ⟨W, 0, none⟩ v) := (Only.refl S w).set (p := ⟨W, 0, none⟩) h.mem.1 v
theorem hasKey_cons_ne {x : Ent} {l : List Ent} {k : Int} (h : x.key ≠ k) : hasKey k (x :: l) = hasKey k l := by
  unfold hasKey; rw [List.find?_cons_of_neg (by simpa using h)]
theorem hasKey_cons_eq {x : Ent} {l : List Ent} : hasKey x.key (x :: l) = some x := by
  unfold hasKey; rw [List.find?_cons_of_pos (by simp)]
theorem hasKey_not {l : List Ent} {k : Int} (h : ∀ x ∈ l, x.key ≠ k) : hasKey k l = none := List.find?_eq_none.2 (fun x hx => by simpa using h x hx)
/-- The first of the armed ones is disarmed. -/
theorem WhAt.dropHead {x : Ent} {A' : List Ent} (h : WhAt S W M now o (x :: A') P sm sv rows w) (hk : ∀ y ∈ A', y.key ≠ x.key) (hw : (Lit.int .i64 x.key).wf = true) (ty : TypeId) :
    ∃ w', (Builtin.delete_ #[110, 3] ty #[.map (some M), .int .i64 x.key]).run Tryd.prog w = .ok (.tuple #[]) w' ∧ WhAt S W M now o A' P sm sv rows w' ∧ Only S w w' := by
  obtain ⟨w', c', hrun, hm, hg, hc⟩ := h.map.drop (E := kI) Tryd.underlying110 (k := x.key) hw ty
  have hkp : ∀ i, i < w.heap.size → i ≠ M → w'.heap[i]? = w.heap[i]? := fun i hi hne => hg.block i hi (by simp; exact hne)
  have e1 : armF (x :: A') x.key = some (entV x) := by unfold armF; rw [hasKey_cons_eq]; rfl
  rw [e1] at hc
  have hc' : c' = A'.length := by simp at hc; omega
  subst hc'
  refine ⟨w', hrun, ⟨(hkp W (h.low W h.mem.1) h.mem.2.2).trans h.cells, hm.ext (fun k _ => ?_), h.rws.kept (fun q b hq hv => hkp b (h.low b (h.rws.own q b hq hv).1) (h.rws.own q b hq hv).2.2), h.mem, fun i hi => Nat.lt_of_lt_of_le (h.low i hi) hg.size, h.placed, h.bits, h.tm, h.due⟩, (Only.refl S w).grown hg (fun g e _ => by cases e; exact h.mem.2.1)⟩
  by_cases e : k = x.key
  · rw [if_pos e, e]
    unfold armF
    rw [hasKey_not hk]; rfl
  · rw [if_neg e]
    unfold armF
    rw [hasKey_cons_ne (fun e2 => e e2.symm)]
end
/-- How a world stands behind part of the work: the wheel's blocks are those of S' now. -/
structure Adv (S S' : Nat → Prop) (W now o : Nat) (A P : List Ent) (w wr : World) : Prop where
  wh : ∃ M sm sv rows, WhAt S' W M now o A P sm sv rows wr
  only : Only S w wr
  sub : ∀ i, S' i → S i ∨ w.heap.size ≤ i
theorem Adv.start {S : Nat → Prop} {W M now o : Nat} {A P : List Ent} {sm : Nat → Nat} {sv : Nat → Value} {rows : Nat → List Ent} {w : World} (h : WhAt S W M now o A P sm sv rows w) : Adv S S W now o A P w w := ⟨⟨M, sm, sv, rows, h⟩, Only.refl S w, fun _ hi => .inl hi⟩
theorem Adv.below {S S' : Nat → Prop} {W now o : Nat} {A P : List Ent} {w wr w2 : World} (h : Adv S S' W now o A P w wr) (hb : Below wr.heap.size wr w2) : Adv S S' W now o A P w w2 := by
  obtain ⟨⟨M, sm, sv, rows, hw⟩, h1, h2⟩ := h
  exact ⟨⟨M, sm, sv, rows, hw.below hb⟩, h1.trans (Only.of_below (S := fun _ => False) hb) (fun _ _ hf => hf.elim), h2⟩
theorem Adv.step {S S' S2 : Nat → Prop} {W now now2 o : Nat} {A P A2 P2 : List Ent} {w wr w2 : World} (h : Adv S S' W now o A P w wr) (h2 : Adv S' S2 W now2 o A2 P2 wr w2) : Adv S S2 W now2 o A2 P2 w w2 :=
  ⟨h2.wh, h.only.trans h2.only (fun i hi hS => by rcases h.sub i hS with e | e; exact e; omega), fun i hi => by
    have hs := h.only.size
    rcases h2.sub i hi with e | e
    · exact h.sub i e
    · exact .inr (by omega)⟩
/-- A row that is none of the wheel's. -/
def Off (S : Nat → Prop) (base : Nat) (e : TypeId) (k : Nat) (v : Value) (n : Nat) (xs : List Value) (w : World) : Prop := w.ownsRow base e k v n xs ∧ ∀ g, v.ownBlock = some g → ¬ S g
theorem Off.step {S S' : Nat → Prop} {base : Nat} {e : TypeId} {k : Nat} {v : Value} {n : Nat} {xs : List Value} {w w' : World} (h : Off S base e k v n xs w) (ho : Only S w w') (hs : ∀ i, S' i → S i ∨ w.heap.size ≤ i) : Off S' base e k v n xs w' := by
  obtain ⟨h1, h2⟩ := h
  refine ⟨ownsRow_kept h1 (fun g hg => ho.block g (h1.lt g hg).2 (h2 g hg)), fun g hg hS => ?_⟩
  rcases hs g hS with e | e
  · exact h2 g hg e
  · have := (h1.lt g hg).2; omega
theorem Off.below {S : Nat → Prop} {base : Nat} {e : TypeId} {k : Nat} {v : Value} {n : Nat} {xs : List Value} {w w' : World} (h : Off S base e k v n xs w) (hb : Below w.heap.size w w') : Off S base e k v n xs w' :=
  ⟨ownsRow_kept h.1 (fun g hg => hb.block g (h.1.lt g hg).2), h.2⟩
theorem Off.nil (S : Nat → Prop) (base : Nat) (e : TypeId) (k : Nat) (w : World) : Off S base e k (.slice none 0 0) 0 [] w := ⟨World.ownsRow_nil w base e k, fun g hg => by cases hg⟩
def keysC (D : List Ent) : List Value := D.map fun x => .int .i64 x.key
theorem TabAt.kept {tab : List Nat} {w w' : World} (h : TabAt 0 tab w) (hb : w'.heap[0]? = w.heap[0]?) : TabAt 0 tab w' := fun j hj => (World.cell?_of_block hb).trans (h j hj)
end Go.Proofs.YtpbknbnhljjjcaaDoor
