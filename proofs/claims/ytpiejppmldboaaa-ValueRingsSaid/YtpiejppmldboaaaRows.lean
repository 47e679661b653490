/-
  No cell of these rows narrows 'for every input' (looked for: loops, veiled, ifaces, maps, wideKeys, modest, calm, conditions, laid).
  DERIVED. THE GIVEN ROWS OF THIS SEAT. 7 by the template 'for every input the law returns true; each argument reads behind the call as it read before'; 0 by the template 'total and deterministic' (their statements: YtpiejppmldboaaaTotals.lean).
  GIVEN WITH THE SEED: the statements are not yours to turn. If you find one false, say at which input.
  Laid BY PROGRAM, IN A SANDBOX (cutbox-rows.mjs): the forced cells as the released guide's own fill.sh prints them over the translation d289b62759d57fbd… (all of the seat's roots in one cut). By AI agents, Wed Nov 11 2026. No macro, syntax, notation, axiom, sorry.
-/
import Derived.Test.YtpiejppmldboaaaChecked
import GoSem.Claim
import GoSem.ClaimJoined
import GoSem.ClaimMapViews
import Derived.JoinedTies
import Derived.KernelRfl
namespace Go.Proofs.Ytpiejppmldboaaa
/- THE CELL 'sum', in the pinned program and in every row, IS THE sha256 OF THE DUMP (.gsa) THAT YtpiejppmldboaaaProg.lean LOADS. Nothing in Lean hashes anything: it is a label: what it is worth is what the hold of that sum in a sandbox is worth. -/
noncomputable def Try.pinned : Pinned := { name := "ytpiejppmldboaaa", sum := "d289b62759d57fbd9388db0c979017fa5a7399c960956aae01901ba13e3b33f0", checked := Try.checked }
namespace Rows
def none {H : Type} : Left H := { results := [], args := [] }

/-- 'matchguardlaw01.ValueShifts': WHATEVER THE INPUT: true; the input reads as it did. -/
def valueShiftsSpec : ChangeSpec := { name := "valueShifts", fn := fun _ => fun
  | [d1, d2] => { results := [.lit (.bool true)], args := [d1, d2] }
  | _ => none }
def valueShiftsRow : OpenClaim := { program := "ytpiejppmldboaaa", sum := "d289b62759d57fbd9388db0c979017fa5a7399c960956aae01901ba13e3b33f0", func := "matchguard/matchguardlaw01.ValueShifts", spec := "valueShifts", apart := false }
def ValueShiftsSaid : Prop := valueShiftsRow.holds Try.pinned (OpenSpec.ofChange valueShiftsSpec)

/-- ITS FALSE NEIGHBOUR: 'it returns false'. Refute it at one input. -/
def valueShiftsWrong : ChangeSpec := { name := "valueShifts", fn := fun _ => fun
  | [d1, d2] => { results := [.lit (.bool false)], args := [d1, d2] }
  | _ => none }
def ValueShiftsWrongFalsely : Prop := valueShiftsRow.holds Try.pinned (OpenSpec.ofChange valueShiftsWrong)

/-- 'matchguardlaw01.ValueBits': WHATEVER THE INPUT: true; the input reads as it did. -/
def valueBitsSpec : ChangeSpec := { name := "valueBits", fn := fun _ => fun
  | [d1, d2, d3, d4] => { results := [.lit (.bool true)], args := [d1, d2, d3, d4] }
  | _ => none }
def valueBitsRow : OpenClaim := { program := "ytpiejppmldboaaa", sum := "d289b62759d57fbd9388db0c979017fa5a7399c960956aae01901ba13e3b33f0", func := "matchguard/matchguardlaw01.ValueBits", spec := "valueBits", apart := false }
def ValueBitsSaid : Prop := valueBitsRow.holds Try.pinned (OpenSpec.ofChange valueBitsSpec)

/-- ITS FALSE NEIGHBOUR: 'it returns false'. Refute it at one input. -/
def valueBitsWrong : ChangeSpec := { name := "valueBits", fn := fun _ => fun
  | [d1, d2, d3, d4] => { results := [.lit (.bool false)], args := [d1, d2, d3, d4] }
  | _ => none }
def ValueBitsWrongFalsely : Prop := valueBitsRow.holds Try.pinned (OpenSpec.ofChange valueBitsWrong)

/-- 'matchguardlaw01.ValueCodes': WHATEVER THE INPUT: true; the input reads as it did. -/
def valueCodesSpec : ChangeSpec := { name := "valueCodes", fn := fun _ => fun
  | [d1, d2] => { results := [.lit (.bool true)], args := [d1, d2] }
  | _ => none }
def valueCodesRow : OpenClaim := { program := "ytpiejppmldboaaa", sum := "d289b62759d57fbd9388db0c979017fa5a7399c960956aae01901ba13e3b33f0", func := "matchguard/matchguardlaw01.ValueCodes", spec := "valueCodes", apart := false }
def ValueCodesSaid : Prop := valueCodesRow.holds Try.pinned (OpenSpec.ofChange valueCodesSpec)

/-- ITS FALSE NEIGHBOUR: 'it returns false'. Refute it at one input. -/
def valueCodesWrong : ChangeSpec := { name := "valueCodes", fn := fun _ => fun
  | [d1, d2] => { results := [.lit (.bool false)], args := [d1, d2] }
  | _ => none }
def ValueCodesWrongFalsely : Prop := valueCodesRow.holds Try.pinned (OpenSpec.ofChange valueCodesWrong)

/-- 'matchguardlaw01.ValueOrders': WHATEVER THE INPUT: true; the input reads as it did. -/
def valueOrdersSpec : ChangeSpec := { name := "valueOrders", fn := fun _ => fun
  | [d1, d2, d3] => { results := [.lit (.bool true)], args := [d1, d2, d3] }
  | _ => none }
def valueOrdersRow : OpenClaim := { program := "ytpiejppmldboaaa", sum := "d289b62759d57fbd9388db0c979017fa5a7399c960956aae01901ba13e3b33f0", func := "matchguard/matchguardlaw01.ValueOrders", spec := "valueOrders", inPlace := ["math/bits.Add64"], apart := false }
def ValueOrdersSaid : Prop := valueOrdersRow.holds Try.pinned (OpenSpec.ofChange valueOrdersSpec)

/-- ITS FALSE NEIGHBOUR: 'it returns false'. Refute it at one input. -/
def valueOrdersWrong : ChangeSpec := { name := "valueOrders", fn := fun _ => fun
  | [d1, d2, d3] => { results := [.lit (.bool false)], args := [d1, d2, d3] }
  | _ => none }
def ValueOrdersWrongFalsely : Prop := valueOrdersRow.holds Try.pinned (OpenSpec.ofChange valueOrdersWrong)

/-- 'matchguardlaw01.ValueSums': WHATEVER THE INPUT: true; the input reads as it did. -/
def valueSumsSpec : ChangeSpec := { name := "valueSums", fn := fun _ => fun
  | [d1, d2, d3] => { results := [.lit (.bool true)], args := [d1, d2, d3] }
  | _ => none }
def valueSumsRow : OpenClaim := { program := "ytpiejppmldboaaa", sum := "d289b62759d57fbd9388db0c979017fa5a7399c960956aae01901ba13e3b33f0", func := "matchguard/matchguardlaw01.ValueSums", spec := "valueSums", inPlace := ["math/bits.Add64", "math/bits.Sub64"], apart := false }
def ValueSumsSaid : Prop := valueSumsRow.holds Try.pinned (OpenSpec.ofChange valueSumsSpec)

/-- ITS FALSE NEIGHBOUR: 'it returns false'. Refute it at one input. -/
def valueSumsWrong : ChangeSpec := { name := "valueSums", fn := fun _ => fun
  | [d1, d2, d3] => { results := [.lit (.bool false)], args := [d1, d2, d3] }
  | _ => none }
def ValueSumsWrongFalsely : Prop := valueSumsRow.holds Try.pinned (OpenSpec.ofChange valueSumsWrong)

/-- 'matchguardlaw01.ValueBack': WHATEVER THE INPUT: true; the input reads as it did. -/
def valueBackSpec : ChangeSpec := { name := "valueBack", fn := fun _ => fun
  | [d1, d2, d3] => { results := [.lit (.bool true)], args := [d1, d2, d3] }
  | _ => none }
def valueBackRow : OpenClaim := { program := "ytpiejppmldboaaa", sum := "d289b62759d57fbd9388db0c979017fa5a7399c960956aae01901ba13e3b33f0", func := "matchguard/matchguardlaw01.ValueBack", spec := "valueBack", apart := false }
def ValueBackSaid : Prop := valueBackRow.holds Try.pinned (OpenSpec.ofChange valueBackSpec)

/-- ITS FALSE NEIGHBOUR: 'it returns false'. Refute it at one input. -/
def valueBackWrong : ChangeSpec := { name := "valueBack", fn := fun _ => fun
  | [d1, d2, d3] => { results := [.lit (.bool false)], args := [d1, d2, d3] }
  | _ => none }
def ValueBackWrongFalsely : Prop := valueBackRow.holds Try.pinned (OpenSpec.ofChange valueBackWrong)

/-- 'matchguardlaw01.ValueRings': WHATEVER THE INPUT: true; the input reads as it did. -/
def valueRingsSpec : ChangeSpec := { name := "valueRings", fn := fun _ => fun
  | [d1, d2, d3, d4] => { results := [.lit (.bool true)], args := [d1, d2, d3, d4] }
  | _ => none }
def valueRingsRow : OpenClaim := { program := "ytpiejppmldboaaa", sum := "d289b62759d57fbd9388db0c979017fa5a7399c960956aae01901ba13e3b33f0", func := "matchguard/matchguardlaw01.ValueRings", spec := "valueRings", inPlace := ["math/bits.Add64", "math/bits.Sub64"], apart := false }
def ValueRingsSaid : Prop := valueRingsRow.holds Try.pinned (OpenSpec.ofChange valueRingsSpec)

/-- ITS FALSE NEIGHBOUR: 'it returns false'. Refute it at one input. -/
def valueRingsWrong : ChangeSpec := { name := "valueRings", fn := fun _ => fun
  | [d1, d2, d3, d4] => { results := [.lit (.bool false)], args := [d1, d2, d3, d4] }
  | _ => none }
def ValueRingsWrongFalsely : Prop := valueRingsRow.holds Try.pinned (OpenSpec.ofChange valueRingsWrong)

/- THE SECOND FORM. 'bulk': how many values and letters a reading holds, each counted each time it is reached (what is shared counts as often as it is met; a slice's spare places count too). A statement '..UptoSaid' is the law's where the arguments, and the package variables that the reading takes, are together of bulk at most 1048576: NARROWER than '..Said'. Prove '..Said' where nothing that the law and all that it calls make is longer than what came in: it says more and counts as full. Else prove '..UptoSaid'. A law counts once. -/
mutual
def uptoBulk {H : Type} : DataW H → Nat
  | .lit (.string bytes) => bytes.length + 1
  | .lit _ => 1
  | .nil => 1
  | .ptr d => uptoBulk d + 1
  | .slice elems spare => uptoBulkAll elems + uptoBulkAll spare + 1
  | .agg parts => uptoBulkAll parts + 1
  | .iface _ d => uptoBulk d + 1
  | .map entries => uptoBulkEntries entries + 1
  | .held _ => 1
def uptoBulkAll {H : Type} : List (DataW H) → Nat
  | [] => 0
  | d :: r => uptoBulk d + uptoBulkAll r
def uptoBulkEntries {H : Type} : List (Lit × DataW H) → Nat
  | [] => 0
  | x :: r => uptoBulkEntry x + uptoBulkEntries r
def uptoBulkEntry {H : Type} : Lit × DataW H → Nat
  | (.string bytes, d) => bytes.length + uptoBulk d + 1
  | (_, d) => uptoBulk d + 1
 end
def uptoSmall : (H : Type) → List (DataW H) → Bool := fun _ ds => decide (uptoBulkAll ds ≤ 1048576)
def OpenSpec.upto (s : _root_.Go.ChangeSpec) : _root_.Go.OpenSpec := { _root_.Go.OpenSpec.ofChange s with cond := some uptoSmall }

/-- 'matchguardlaw01.ValueShifts', WHERE WHAT IT READS IS OF BULK AT MOST 1048576: true; the input reads as it did. -/
def valueShiftsUptoRow : OpenClaim := { program := "ytpiejppmldboaaa", sum := "d289b62759d57fbd9388db0c979017fa5a7399c960956aae01901ba13e3b33f0", func := "matchguard/matchguardlaw01.ValueShifts", spec := "valueShifts", apart := false, narrowed := true }
def ValueShiftsUptoSaid : Prop := valueShiftsUptoRow.holds Try.pinned (OpenSpec.upto valueShiftsSpec)

/-- 'matchguardlaw01.ValueBits', WHERE WHAT IT READS IS OF BULK AT MOST 1048576: true; the input reads as it did. -/
def valueBitsUptoRow : OpenClaim := { program := "ytpiejppmldboaaa", sum := "d289b62759d57fbd9388db0c979017fa5a7399c960956aae01901ba13e3b33f0", func := "matchguard/matchguardlaw01.ValueBits", spec := "valueBits", apart := false, narrowed := true }
def ValueBitsUptoSaid : Prop := valueBitsUptoRow.holds Try.pinned (OpenSpec.upto valueBitsSpec)

/-- 'matchguardlaw01.ValueCodes', WHERE WHAT IT READS IS OF BULK AT MOST 1048576: true; the input reads as it did. -/
def valueCodesUptoRow : OpenClaim := { program := "ytpiejppmldboaaa", sum := "d289b62759d57fbd9388db0c979017fa5a7399c960956aae01901ba13e3b33f0", func := "matchguard/matchguardlaw01.ValueCodes", spec := "valueCodes", apart := false, narrowed := true }
def ValueCodesUptoSaid : Prop := valueCodesUptoRow.holds Try.pinned (OpenSpec.upto valueCodesSpec)

/-- 'matchguardlaw01.ValueOrders', WHERE WHAT IT READS IS OF BULK AT MOST 1048576: true; the input reads as it did. -/
def valueOrdersUptoRow : OpenClaim := { program := "ytpiejppmldboaaa", sum := "d289b62759d57fbd9388db0c979017fa5a7399c960956aae01901ba13e3b33f0", func := "matchguard/matchguardlaw01.ValueOrders", spec := "valueOrders", inPlace := ["math/bits.Add64"], apart := false, narrowed := true }
def ValueOrdersUptoSaid : Prop := valueOrdersUptoRow.holds Try.pinned (OpenSpec.upto valueOrdersSpec)

/-- 'matchguardlaw01.ValueSums', WHERE WHAT IT READS IS OF BULK AT MOST 1048576: true; the input reads as it did. -/
def valueSumsUptoRow : OpenClaim := { program := "ytpiejppmldboaaa", sum := "d289b62759d57fbd9388db0c979017fa5a7399c960956aae01901ba13e3b33f0", func := "matchguard/matchguardlaw01.ValueSums", spec := "valueSums", inPlace := ["math/bits.Add64", "math/bits.Sub64"], apart := false, narrowed := true }
def ValueSumsUptoSaid : Prop := valueSumsUptoRow.holds Try.pinned (OpenSpec.upto valueSumsSpec)

/-- 'matchguardlaw01.ValueBack', WHERE WHAT IT READS IS OF BULK AT MOST 1048576: true; the input reads as it did. -/
def valueBackUptoRow : OpenClaim := { program := "ytpiejppmldboaaa", sum := "d289b62759d57fbd9388db0c979017fa5a7399c960956aae01901ba13e3b33f0", func := "matchguard/matchguardlaw01.ValueBack", spec := "valueBack", apart := false, narrowed := true }
def ValueBackUptoSaid : Prop := valueBackUptoRow.holds Try.pinned (OpenSpec.upto valueBackSpec)

/-- 'matchguardlaw01.ValueRings', WHERE WHAT IT READS IS OF BULK AT MOST 1048576: true; the input reads as it did. -/
def valueRingsUptoRow : OpenClaim := { program := "ytpiejppmldboaaa", sum := "d289b62759d57fbd9388db0c979017fa5a7399c960956aae01901ba13e3b33f0", func := "matchguard/matchguardlaw01.ValueRings", spec := "valueRings", inPlace := ["math/bits.Add64", "math/bits.Sub64"], apart := false, narrowed := true }
def ValueRingsUptoSaid : Prop := valueRingsUptoRow.holds Try.pinned (OpenSpec.upto valueRingsSpec)

end Rows
end Go.Proofs.Ytpiejppmldboaaa
