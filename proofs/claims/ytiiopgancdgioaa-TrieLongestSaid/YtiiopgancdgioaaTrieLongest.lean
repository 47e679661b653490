/- The law 'TrieLongest' holds for every input: the call returns true, and each argument reads afterwards as before. No condition. -/
import Derived.Test.YtiiopgancdgioaaRows
import Derived.WalkKit
import Derived.ProofKit
import Derived.OpenShut
import Derived.Test.YtiiopgancdgioaaTLTr
namespace Go.Proofs.Ytiiopgancdgioaa.trieLongest
open Go.ChangeShapes Go.WideShapes Go.ChangeAt Go.RowKit
set_option linter.unusedVariables false

theorem own : ownKnob Try.prog.godebug = none := by kernel_rfl

set_option maxRecDepth 100000 in
theorem lifted (os : Os) (started : os.Started) (H : Type) (enc : TypeId × Value → H) :
    ReturnsInHanded {} Try.checked os 3 .any (Rows.trieLongestSpec.pre6 enc Try.prog Try.f3 Rows.trieLongestRow.domain false) (Rows.trieLongestSpec.post enc Try.prog Try.f3 false true false false) := by
  refine returnsInHanded_of_change (C := Try.checked) own started (by kernel_rfl) Try.func3
    (ChangeSpec.witness6 (enc := enc) (C := Try.checked) false ⟨#[], #[.int .i64 0, .slice none 0 0, .slice none 0 0], []⟩ 8 (by kernel_rfl) (by kernel_rfl) (by kernel_rfl) (by kernel_rfl)) ?_
  intro W base args ds gs before hval hW hcnd _
  exact Go.Ns.law_true kindsTL (by kernel_rfl) (by kernel_rfl) (by kernel_rfl) rfl rfl Try.underlying4 (by intro ds hl; match ds, hl with | [d1, d2, d3], _ => exact ⟨rfl, rfl, rfl⟩) walkTL hval hW

theorem over : Rows.trieLongestRow.holds Try.pinned (OpenSpec.ofChange Rows.trieLongestSpec) :=
  OpenClaim.holds_of_wide 3 Try.f3 rfl rfl rfl rfl rfl rfl rfl ⟨rfl, rfl, rfl, rfl, rfl⟩ rfl rfl rfl rfl rfl (by kernel_rfl) Try.func3 (by kernel_rfl)
    (of_decide_eq_true (by kernel_rfl)) (by unfold Func.isWrapper; first | (rw [if_pos (by decide +kernel)]; kernel_rfl) | (rw [if_neg (by decide +kernel)]; exact ⟨rfl, rfl⟩))
    (fun os started H enc _ => lifted os started H enc)

/-- The statement. -/
theorem proved : Rows.TrieLongestSaid := over
#print axioms proved
end Go.Proofs.Ytiiopgancdgioaa.trieLongest
