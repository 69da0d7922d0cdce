import Derived.Test.YtlipkffnllmkgaaA6
namespace Go.Proofs.Ytlipkffnllmkgaa
open Go.RowKit

theorem below_step {w w1 w2 : World} (h : Below w.heap.size w w1) (k : Below w1.heap.size w1 w2) : Below w.heap.size w w2 := h.trans (k.mono h.size)

end Go.Proofs.Ytlipkffnllmkgaa
