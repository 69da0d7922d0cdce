import Derived.Test.YtlipkffnllmkgaaD7
namespace Go.Proofs.Ytlipkffnllmkgaa
open Go.RowKit Go.Shelf
attribute [local go_sem] Oper.semAt_some

theorem mem_workTo (a : Anc) (k b : Nat) : b ∈ workTo a k ↔ b < k ∧ a.gone b = 0 := by unfold workTo; simp

theorem working_stops (F : Fence) (n : Nat) (h48 : F.fn 44) (hro : F.round = none) (hn : 1 ≤ n) (Bx X L : Nat) (a : Anc) (hr2 : a.room ≤ 65536) (w : World)
    (hBx : w.heap[Bx]? = some (.cells #[.pointer (some ⟨X, 0, none⟩)] 60 (0, 0))) (hX : w.cell? ⟨X, 0, none⟩ = some (.slice (some ⟨L, 0, none⟩) a.room a.room)) (hP : Places L a w) (hXs : X < w.heap.size) (hL : L < w.heap.size) :
    SeqStopsK F n Try.prog 44 #[.pointer (some ⟨Bx, 0, none⟩)] (fun x : Nat => #[Value.int .i64 (x : Int)]) (KeepOne L) (fun ys => ys = workTo a a.room) (fun pre => pre <+: workTo a a.room) (workTo a a.room).length w := by
  intro l J Jx W hW hJ _ hY h0
  have lb : Bx < w.heap.size := (Array.getElem?_eq_some_iff.1 hBx).1
  have c : W.heap[Bx]? = _ := (hW.block _ lb).trans hBx
  exact working1_in F n h48 hro hn l Bx X L a hr2 J Jx W hJ hY (by simp [World.cell?, c]) ((hW.cell (p := ⟨X, 0, none⟩) hXs).trans hX) (hP.block (hW.block L hL)) (Nat.lt_of_lt_of_le hL hW.size) h0

def worksB (a : Anc) (b : Int) : Bool := decide (0 ≤ b ∧ b.toNat < a.room ∧ a.gone b.toNat = 0)

end Go.Proofs.Ytlipkffnllmkgaa
