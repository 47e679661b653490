/- The program of a seat, as the walks see it. -/
import Derived.Test.YtfeanpgfjakbbaaECTab
import Derived.Test.YtfeanpgfjakbbaaFsI
set_option maxRecDepth 10000
namespace Go.Proofs
open Go.Ns

theorem mixed : Try.prog.follows .mixedOrders = true := by kernel_rfl
noncomputable def E0 : Env := ⟨Try.prog, failS, failS_ok _, true⟩
end Go.Proofs
