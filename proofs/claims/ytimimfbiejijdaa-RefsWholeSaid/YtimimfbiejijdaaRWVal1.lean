/- Values: Read, Make, clamp, within, Left, Right. -/
import Derived.Test.YtimimfbiejijdaaRWBC
import Derived.Test.YtimimfbiejijdaaVbB
set_option linter.unusedSimpArgs false
set_option linter.unusedVariables false
set_option maxRecDepth 10000
namespace Go.Proofs
open Go.Ns

theorem fill_bits : fill 128 (.bool false) = bitsC fun _ => false := bitsC_zero

end Go.Proofs
