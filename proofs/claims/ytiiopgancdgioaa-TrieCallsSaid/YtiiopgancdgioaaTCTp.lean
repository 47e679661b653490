/- Trie: the document's Longest. -/
import Derived.Test.YtiiopgancdgioaaTCTo
set_option linter.unusedSimpArgs false
set_option linter.unusedVariables false
set_option maxRecDepth 100000
namespace Go.Proofs
open Go.Ns

def covB (bits : Nat) (v : BitVec 128) (x : PfT) : Bool := v &&& leadV bits x.1.2 == x.1.1
def stepL (bits : Nat) (v : BitVec 128) (a : Int × Int × Bool) (x : PfT) : Int × Int × Bool := if covB bits v x = true ∧ (a.2.2 = false ∨ x.1.2 > a.1) ∧ bl v.toNat ≤ bits then (x.1.2, x.2, true) else a

end Go.Proofs
