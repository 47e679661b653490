/- Audit: the closed examples. -/
import Derived.Test.YtlnkiclnofgagaaFsH
import Derived.Test.YtlnkiclnofgagaaS1A
set_option maxRecDepth 100000
namespace Go.Proofs
open Go.Ns
theorem begun24_ok (h : Heap) : NCall Try.prog 15 [] h fun q => q = (.bool true, h) := call_run mixed (lk_ok tab_ok) (N := 1000) (D := 40) (by kernel_rfl) h
theorem begun17_ok (h : Heap) : NCall Try.prog 24 [] h fun q => q = (.bool true, h) := call_run mixed (lk_ok tab_ok) (N := 1000) (D := 40) (by kernel_rfl) h
end Go.Proofs
