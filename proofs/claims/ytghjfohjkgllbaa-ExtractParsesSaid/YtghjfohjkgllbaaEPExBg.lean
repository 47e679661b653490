/- Extract: the example of the chapter. -/
import Derived.Test.YtghjfohjkgllbaaEPBC
import Derived.Test.YtghjfohjkgllbaaFsF
set_option maxRecDepth 100000
namespace Go.Proofs
open Go.Ns

theorem begun28_ok (h : Heap) : NCall Try.prog 16 [] h fun q => q = (.bool true, h) := call_run mixed (lk_ok tab_ok) (N := 2000) (D := 40) (by kernel_rfl) h
end Go.Proofs
