import Derived.Test.YtlipkffnllmkgaaWSipSame
import Derived.Laws.IdiomStrings
import Derived.Lib.ConvBytes
namespace Go.Proofs.Ytlipkffnllmkgaa
open Go.RowKit

theorem ba_eq {a b : ByteArray} (h : a.toList = b.toList) : a = b := by
  rw [ByteArray.toList_eq, ByteArray.toList_eq] at h
  exact ByteArray.ext (Array.toList_inj.1 h)
theorem six_size (s : ByteArray) : (six s).size = 16 := by unfold six; rw [strOfNums_size]; simp
theorem bytesRow_get (x : ByteArray) (c j : Nat) (hj : j < x.data.toList.length) : (bytesRow x c)[j]? = some (.int .u8 (x.data.toList[j].toNat : Int)) := by
  have hj' : j < x.data.size := by simpa using hj
  unfold bytesRow
  rw [Array.getElem?_append_left (by simpa using hj'), Array.getElem?_map, Array.getElem?_eq_getElem hj']
  rfl
end Go.Proofs.Ytlipkffnllmkgaa
