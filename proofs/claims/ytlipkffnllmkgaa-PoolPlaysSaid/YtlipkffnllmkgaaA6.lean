import Derived.Test.YtlipkffnllmkgaaA5
import Derived.Deep.RegionWith
import Derived.Deep.RegionHeld3
namespace Go.Proofs.Ytlipkffnllmkgaa
open Go.RowKit

def exKey : ByteArray := strOfNums ((List.range 16).map fun (j : Nat) => (j : Int))
def exText : ByteArray := strOfNums ((List.range 15).map fun (j : Nat) => (j : Int))
theorem hash_example : hashF exKey exText = 11613035633349379557 := by decide +kernel
theorem exKey_size : exKey.size = 16 := by decide +kernel
theorem exText_size : exText.size = 15 := by decide +kernel

theorem below_drew' {B : Nat} {w w' : World} (h : Below w.drew.heap.size w.drew w') (hB : B ≤ w.heap.size) : Below B w w' :=
  ⟨h.os, h.tape, h.output, h.size, fun k hk => h.block k (by show k < w.heap.size; omega)⟩

end Go.Proofs.Ytlipkffnllmkgaa
