import Derived.Test.YtaeiaoldlebhaaaDoorW8
namespace Go.Proofs.YtaeiaoldlebhaaaDoor
open Go.RowKit Go.Maps

/-- What emptying a slot leaves. -/
theorem take_done {S : Nat → Prop} {W M now o : Nat} {A P : List Ent} {sm : Nat → Nat} {sv : Nat → Value} {rows : Nat → List Ent} {w : World} (h : WhAt S W M now o A P sm sv rows w) {lv s q n : Nat}
    (hq : lv * 64 + s = q) (h7 : lv < 7) (hs : s < 64) (hn : n < 18446744073709551616) (hbit : ∀ i, i < 64 → (n.testBit i = true ↔ (sm lv).testBit i = true ∧ i ≠ s)) :
    ∃ sm' sv' rows', WhAt (fun i => S i ∧ (sv q).ownBlock ≠ some i) W M now o A (notQ now q P) sm' sv' rows' (((w.setCell ⟨W, 3 + lv * 65 + 1 + s, none⟩ (.slice none 0 0)).setCell ⟨W, 3 + lv * 65, none⟩ (.int .u64 (n : Int))).drew) ∧
      Only S w (((w.setCell ⟨W, 3 + lv * 65 + 1 + s, none⟩ (.slice none 0 0)).setCell ⟨W, 3 + lv * 65, none⟩ (.int .u64 (n : Int))).drew) ∧ (((w.setCell ⟨W, 3 + lv * 65 + 1 + s, none⟩ (.slice none 0 0)).setCell ⟨W, 3 + lv * 65, none⟩ (.int .u64 (n : Int))).drew).ownsRow 0 109 3 (sv q) (rows q).length (entsC (rows q)) := by
  have hq448 : q < 448 := by omega
  have hrow : ∀ b, (sv q).ownBlock = some b → S b ∧ b ≠ W ∧ b ≠ M := fun b hb => h.rws.own q b hq448 hb
  have hset : ∀ (i : Nat) (v1 v2 : Value), i ≠ W → (((w.setCell ⟨W, 3 + lv * 65 + 1 + s, none⟩ v1).setCell ⟨W, 3 + lv * 65, none⟩ v2).drew).heap[i]? = w.heap[i]? := fun i v1 v2 hi => (Below.heap_setCell _ _ _ _ hi).trans (Below.heap_setCell _ _ _ _ hi)
  have hs3 : ∀ v1 v2 : Value, (((w.setCell ⟨W, 3 + lv * 65 + 1 + s, none⟩ v1).setCell ⟨W, 3 + lv * 65, none⟩ v2).drew).heap.size = w.heap.size := fun v1 v2 => by simp [World.setCell, World.drew]
  have hr2 : WRows S W M (updF sv q (.slice none 0 0)) (updF rows q []) w := h.rws.put (World.ownsRow_nil w 0 109 3) (fun _ _ _ _ _ => rfl) (fun b hv => by cases hv)
  refine ⟨updF sm lv n, updF sv q (.slice none 0 0), updF rows q [], ⟨?_, ?_, ⟨fun r hr => ?_, fun r b hr hv => ?_, hr2.apart⟩, ⟨⟨h.mem.1, fun e => (hrow W e).2.1 rfl⟩, ⟨h.mem.2.1, fun e => (hrow M e).2.2 rfl⟩, h.mem.2.2⟩, fun i hi => ?_, h.placed.take q, ?_, h.tm, fun y hy => h.due y (mem_notQ.1 hy).1⟩, ?_, ?_⟩
  · rw [← hq]
    exact wh_setSm (wh_setSv h.cells lv hs _) lv n
  · exact h.map.block (hset M _ _ (fun e => h.mem.2.2 e.symm))
  · exact ownsRow_kept (hr2.row r hr) (fun g hg => hset g _ _ (hr2.own r g hr hg).2.1)
  · refine ⟨⟨(hr2.own r b hr hv).1, fun e => ?_⟩, (hr2.own r b hr hv).2⟩
    by_cases e2 : r = q
    · subst e2; rw [updF_same] at hv; cases hv
    · rw [updF_ne _ _ e2] at hv; exact e2 (h.rws.apart r q b hr hq448 hv e)
  · rw [hs3]; exact h.low i hi.1
  · rw [← hq]
    exact h.bits.clear h7 hs hn hbit
  · have h2 := ((Only.refl S w).set (p := ⟨W, 3 + lv * 65 + 1 + s, none⟩) h.mem.1 (.slice none 0 0)).set (p := ⟨W, 3 + lv * 65, none⟩) h.mem.1 (.int .u64 (n : Int))
    exact ⟨h2.os, h2.tape, h2.output, h2.size, h2.block⟩
  · exact ownsRow_kept (h.rws.row q hq448) (fun g hg => hset g _ _ (hrow g hg).2.1)
set_option maxRecDepth 100000 in
set_option maxHeartbeats 1000000 in
theorem take_ok {S : Nat → Prop} {W M now o : Nat} {A P : List Ent} {sm : Nat → Nat} {sv : Nat → Value} {rows : Nat → List Ent} {w : World} (h : WhAt S W M now o A P sm sv rows w) {lv s q : Nat}
    (hq : lv * 64 + s = q) (h7 : lv < 7) (hs : s < 64) :
    Calls Tryd.prog 46 #[.pointer (some ⟨W, 0, none⟩), .int .i64 (lv : Int), .int .i64 (s : Int)] w fun e w' => e = .returned (sv q) ∧ ∃ sm' sv' rows', WhAt (fun i => S i ∧ (sv q).ownBlock ≠ some i) W M now o A (notQ now q P) sm' sv' rows' w' ∧ Only S w w' ∧ w'.ownsRow 0 109 3 (sv q) (rows q).length (entsC (rows q)) := by
  have HW := Lib.hid h
  have h7I : (lv : Int) < 7 := by omega
  have hsI : (s : Int) < 64 := by omega
  have c0 := wh_sv h.cells h7 hs
  have c1 := wh_sm h.cells h7
  have f0 := wh_free h.cells (3 + lv * 65 + 1 + s)
  rw [hq] at c0
  obtain ⟨v, hv⟩ : ∃ v, sv q = v := ⟨_, rfl⟩
  rw [hv] at c0
  have HV := Lib.hid hv
  have HQ := Lib.hid hq
  obtain ⟨a, ha⟩ : ∃ a, sm lv = a := ⟨_, rfl⟩
  have HA := Lib.hid ha
  clear h hv hq ha c1
  go_enter Tryd.func46, Tryd.ntmps46
  go_wp2_with fail
  obtain ⟨w4, hw4⟩ : ∃ w4, w.setCell ⟨W, 3 + lv * 65 + 1 + s, none⟩ (.slice none 0 0) = w4 := ⟨_, rfl⟩
  have hc4 : w4.heap[W]? = some (wheelObj 106 now o M sm (updF sv q (.slice none 0 0))) := by
    rw [← hw4, ← HQ.out]
    exact wh_setSv HW.out.cells lv hs _
  rw [hw4]
  have HW4 := Lib.hid hw4
  clear hw4 c0 f0
  have c4 := wh_sm hc4 h7
  have f4 := wh_free hc4 (3 + lv * 65)
  have HC4 := Lib.hid hc4
  rw [HA.out] at c4
  clear hc4
  have hWT := wrap_two s hs
  obtain ⟨nb, hn1, hn2, hn3⟩ := andNot_bit a s hs
  have HN1 := Lib.hid hn1
  have HN3 := Lib.hid hn3
  have HWT := Lib.hid hWT
  clear hn1 hn3 hWT
  go_region
  all_goals
    go_wp2
    go_ret
    rw [HWT.out, HN1.out, ← HW4.out]
    have e1 := HV.out
    subst e1
    exact ⟨rfl, take_done HW.out HQ.out h7 hs hn2 (by rw [HA.out]; exact HN3.out)⟩
end Go.Proofs.YtaeiaoldlebhaaaDoor
