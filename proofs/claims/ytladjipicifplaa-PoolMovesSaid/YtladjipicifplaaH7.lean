import Derived.Test.YtladjipicifplaaH6
namespace Go.Proofs.Ytladjipicifplaa
open Go.RowKit Go.Shelf Go.Maps

def Po.gone (p : Po) (id : Int) : Po := { p with all := fun j => if j = id then none else p.all j }
theorem after_gone {S Sa : Nat → Prop} {Xp X M O n : Nat} {p : Po} {w : World} (h : PoolIn S Sa Xp X M O n p w) {id : Int} (hw : (Lit.int .i64 id).wf = true) :
    ∃ w1, (Builtin.delete_ #[99, 3] 0 #[.map (some M), .int .i64 id]).run Try.prog w = .ok (.tuple #[]) w1 ∧ PoolIn S Sa Xp X M O n (p.gone id) w1 ∧ Only S w w1 := by
  obtain ⟨w1, hrun, hmap, hg⟩ := h.all.drop Try.underlying99 hw 0
  have hk : ∀ i, i < w.heap.size → i ≠ M → w1.heap[i]? = w.heap[i]? := fun i hi hne => hg.block i hi (by simp; exact hne)
  have hXp := h.low _ h.mem.1
  have hO := h.low _ h.mem.2.2.1
  obtain ⟨a1, a2, a3, a4, a5, a6⟩ := h.apart
  refine ⟨w1, hrun, ⟨(hk Xp hXp a4).trans h.cells, ?_, h.own.block (hk O hO (fun e => a6 e.symm)), h.anc.kept (fun i hi => hk i (h.low i (h.mem.2.2.2 i hi)) (fun e => a2 (e ▸ hi))) hg.size, h.mem, h.apart, fun i hi => Nat.lt_of_lt_of_le (h.low i hi) hg.size⟩, ⟨hg.os, hg.tape, hg.output, hg.size, fun i hi hn => hk i hi (fun e => hn (e ▸ h.mem.2.1))⟩⟩
  have e : (p.gone id).allV = fun j => if j = id then none else p.allV j := by
    funext j
    unfold Po.gone Po.allV
    dsimp only
    split <;> rfl
  rw [e]
  exact hmap

theorem boxO {w wx : World} {o : Obj} (hB : Below (w.alloc o).heap.size (w.alloc o) wx) : Below w.heap.size w wx := ((Below.refl _ w).alloc (Nat.le_refl _) _).trans (hB.mono (by simp))
set_option maxRecDepth 100000 in
set_option maxHeartbeats 1000000 in
theorem remove_nobody {S Sa : Nat → Prop} {Xp X M O n : Nat} {p : Po} {w : World} (h : PoolIn S Sa Xp X M O n p w) {id : Int} (hw : (Lit.int .i64 id).wf = true) (hm : p.all id = none) :
    Calls Try.prog 40 #[.pointer (some ⟨Xp, 0, none⟩), .int .i64 id] w fun e w' => e = .returned (.int .i64 19) ∧ Below w.heap.size w w' := by
  obtain ⟨⟨c0, c1, c2, c3, c4, c5⟩, z5⟩ := cells6 h.cells
  have q1 := h.all.look_ok Try.underlying99 (zero104 w) hw
  have hv : p.allV id = none := by unfold Po.allV; rw [hm]; rfl
  rw [hv] at q1
  unfold noMem at q1
  simp only [Option.getD_none, Option.isSome_none] at q1
  go_enter Try.func40, Try.ntmps40
  go_wp2_with fail
  go_ret
  first | exact ⟨rfl, (Below.refl _ _).alloc (Nat.le_refl _) _⟩ | exact ⟨rfl, Below.refl _ _⟩

set_option maxRecDepth 100000 in
set_option maxHeartbeats 1000000 in
theorem remove_drained {S Sa : Nat → Prop} {Xp X M O n : Nat} {p : Po} {w : World} (h : PoolIn S Sa Xp X M O n p w) {id : Int} (hw : (Lit.int .i64 id).wf = true) {m : Mem} (hm : p.all id = some m) (hs : m.state ≠ 1) :
    Calls Try.prog 40 #[.pointer (some ⟨Xp, 0, none⟩), .int .i64 id] w fun e w' => e = .returned (.int .i64 0) ∧ PoolIn S Sa Xp X M O n (p.gone id) w' ∧ Only S w w' := by
  obtain ⟨⟨c0, c1, c2, c3, c4, c5⟩, z5⟩ := cells6 h.cells
  have q1 := look_mem h hw hm
  have HL := Lib.hid (leave_other Xp m hs)
  unfold Mem.val at HL
  have HH := Lib.hid h
  clear hm hs
  go_enter Try.func40, Try.ntmps40
  go_wp2_with (go_at_call 50; refine (HL.out _).mono ?_; rintro e w2 ⟨rfl, hb⟩; replace hb := boxO hb; have hP := HH.out.below hb; obtain ⟨⟨t0, t1, t2, t3, t4, t5⟩, _⟩ := cells6 hP.cells; obtain ⟨w4, hrun, hP4, hO4⟩ := after_gone (HH.out.below hb) hw; have HP4 := Lib.hid (And.intro hP4 ((Only.of_below hb).trans hO4 (fun i _ e => e))); clear hP hP4 hO4 hb)
  go_ret
  exact ⟨rfl, HP4.out⟩
end Go.Proofs.Ytladjipicifplaa
