import Derived.Test.YtlipkffnllmkgaaH7
namespace Go.Proofs.Ytlipkffnllmkgaa
open Go.RowKit Go.Shelf Go.Maps

set_option maxRecDepth 100000 in
set_option maxHeartbeats 1000000 in
theorem pool_bad (r : Nat) (h1 : 1 ≤ r) (h3 : r ≤ 65536) (key : ByteArray) (hk : key.size ≠ 16) (w : World) :
    Calls Try.prog 7 #[.int .i64 (r : Int), .string key] w fun e w' => e = .returned (.tuple #[.pointer none, .int .i64 1]) ∧ Below w.heap.size w w' := by
  have e1 : ((key.size : Int) == 16) = false := by simp; omega
  have e2 : ((key.size : Int) != 16) = true := by simp only [bne, e1]; rfl
  have HA := Lib.hid (fun w => ancS_new r w h1 h3)
  go_enter Try.func7, Try.ntmps7
  go_wp2_with (go_at_call 18; refine (HA.out _).mono ?_; rintro e w2 ⟨X, rfl, hA, hb⟩; have HB := Lib.hid hb; clear hA hb)
  go_ret2
  exact ⟨rfl, HB.out⟩

def newPo (r : Nat) (key : ByteArray) : Po := ⟨key, r, newAnc r (r - 1), fun _ => none, fun _ => none, 0⟩
theorem pool_made {r X : Nat} {key : ByteArray} {w w2 : World} (hb : Below w.heap.size w w2) (hA : AncS (fun b => w.heap.size ≤ b ∧ b < w2.heap.size) X r (newAnc r (r - 1)) w2) :
    ∃ Sa : Nat → Prop, PoolIn (fun b => w.heap.size ≤ b ∧ b < w2.heap.size + 3) Sa (w2.heap.size + 1 + 1) X w2.heap.size (w2.heap.size + 1) 0 (newPo r key) (((w2.alloc (.map #[] 0)).alloc (.map #[] 0)).alloc (.cells #[.string key, .int .i64 (r : Int), .pointer (some ⟨X, 0, none⟩), .map (some w2.heap.size), .map (some (w2.heap.size + 1)), .int .i64 0] 65)) ∧
      Below w.heap.size w (((w2.alloc (.map #[] 0)).alloc (.map #[] 0)).alloc (.cells #[.string key, .int .i64 (r : Int), .pointer (some ⟨X, 0, none⟩), .map (some w2.heap.size), .map (some (w2.heap.size + 1)), .int .i64 0] 65)) ∧
      (((w2.alloc (.map #[] 0)).alloc (.map #[] 0)).alloc (.cells #[.string key, .int .i64 (r : Int), .pointer (some ⟨X, 0, none⟩), .map (some w2.heap.size), .map (some (w2.heap.size + 1)), .int .i64 0] 65)).heap.size = w2.heap.size + 3 := by
  have hs := hb.size
  have m1 := MapIs.made w2
  have m2 := MapIs.made (w2.alloc (.map #[] 0))
  have hz : (w2.alloc (.map #[] 0)).heap.size = w2.heap.size + 1 := by simp
  have hz2 : ((w2.alloc (.map #[] 0)).alloc (.map #[] 0)).heap.size = w2.heap.size + 1 + 1 := by simp
  rw [hz] at m2
  generalize hO : (Obj.cells #[.string key, .int .i64 (r : Int), .pointer (some ⟨X, 0, none⟩), .map (some w2.heap.size), .map (some (w2.heap.size + 1)), .int .i64 0] 65) = o
  have hc := World.alloc_heap_new ((w2.alloc (.map #[] 0)).alloc (.map #[] 0)) o
  rw [hz2] at hc
  have k1 : ∀ i, i < w2.heap.size + 2 → (((w2.alloc (.map #[] 0)).alloc (.map #[] 0)).alloc o).heap[i]? = ((w2.alloc (.map #[] 0)).alloc (.map #[] 0)).heap[i]? := fun i hi => Below.heap_alloc _ _ _ (by omega)
  have k2 : ∀ i, i < w2.heap.size + 1 → ((w2.alloc (.map #[] 0)).alloc (.map #[] 0)).heap[i]? = (w2.alloc (.map #[] 0)).heap[i]? := fun i hi => Below.heap_alloc _ _ _ (by omega)
  have k3 : ∀ i, i < w2.heap.size → (w2.alloc (.map #[] 0)).heap[i]? = w2.heap[i]? := fun i hi => Below.heap_alloc _ _ _ (by omega)
  have hz3 : (((w2.alloc (.map #[] 0)).alloc (.map #[] 0)).alloc o).heap.size = w2.heap.size + 3 := by simp
  refine ⟨fun b => w.heap.size ≤ b ∧ b < w2.heap.size, ⟨?_, ?_, ?_, ?_, ⟨by omega, by omega, by omega, fun i hi => by omega⟩, ⟨by omega, by omega, by omega, by omega, by omega, by omega⟩, fun i hi => by rw [hz3]; exact hi.2⟩, ((hb.alloc hs _).alloc (by omega) _).alloc (by omega) _, hz3⟩
  · rw [hc, ← hO]; rfl
  · exact m1.block ((k1 _ (by omega)).trans (k2 _ (by omega)))
  · exact m2.block (k1 _ (by omega))
  · exact hA.kept (fun i hi => (k1 i (by omega)).trans ((k2 i (by omega)).trans (k3 i hi.2))) (by omega)

set_option maxRecDepth 100000 in
set_option maxHeartbeats 1000000 in
theorem pool_new (r : Nat) (h1 : 1 ≤ r) (h3 : r ≤ 65536) (key : ByteArray) (hk : key.size = 16) (w : World) :
    Calls Try.prog 7 #[.int .i64 (r : Int), .string key] w fun e w' => ∃ (Xp X M O : Nat) (Sa : Nat → Prop), e = .returned (.tuple #[.pointer (some ⟨Xp, 0, none⟩), .int .i64 0]) ∧ PoolIn (fun b => w.heap.size ≤ b ∧ b < w'.heap.size) Sa Xp X M O 0 (newPo r key) w' ∧ Below w.heap.size w w' := by
  have e1 : ((key.size : Int) != 16) = false := by rw [hk]; rfl
  have HA := Lib.hid (fun w => ancS_new r w h1 h3)
  have hmm := @run_makeMap Try.prog
  go_enter Try.func7, Try.ntmps7
  go_wp2_with (go_at_call 18; refine (HA.out _).mono ?_; rintro e w2 ⟨X, rfl, hA, hb⟩; have HB := Lib.hid (And.intro hb hA); clear hA hb)
  obtain ⟨Sa, g1, g2, g3⟩ := pool_made (key := key) HB.out.1 HB.out.2
  go_ret2
  rw [← g3] at g1
  exact ⟨_, _, _, _, Sa, rfl, g1, g2⟩
end Go.Proofs.Ytlipkffnllmkgaa
