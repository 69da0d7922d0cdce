import Derived.Test.YtbahcpejippcjaaDoorK4
namespace Go.Proofs.YtbahcpejippcjaaDoor
open Go.RowKit Go.Shelf

theorem num_is {s : ByteArray} {most : Int} {v : Nat} {l : List UInt8} (h1 : Lib.atoiAll s.data.toList = .ok (v : Int)) (h2 : Lib.itoa (v : Int) = l) (h3 : s.toList = l) (h4 : (v : Int) ≤ most) : numOf s most = some v := by
  unfold numOf
  rw [h1]
  dsimp only
  rw [if_pos ⟨by omega, h4, by rw [h2, h3]⟩]
  rfl

/-- A mark: a call is still to come. -/
inductive Stage : Nat → Prop
  | mk (n : Nat) : Stage n
end Go.Proofs.YtbahcpejippcjaaDoor
