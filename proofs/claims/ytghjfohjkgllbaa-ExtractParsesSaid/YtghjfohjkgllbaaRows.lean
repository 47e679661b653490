/-
  No cell of these rows narrows 'for every input' (looked for: loops, veiled, ifaces, maps, wideKeys, modest, calm, conditions, laid).
  DERIVED. THE GIVEN ROWS OF THIS SEAT. 4 by the template 'for every input the law returns true; each argument reads behind the call as it read before'; 0 by the template 'total and deterministic' (their statements: YtghjfohjkgllbaaTotals.lean).
  GIVEN WITH THE SEED: the statements are not yours to turn. If you find one false, say at which input.
  Laid BY PROGRAM, IN A SANDBOX (cutbox-rows.mjs): the forced cells as the released guide's own fill.sh prints them over the translation a9db6efbcd9a2406… (all of the seat's roots in one cut). By AI agents, Wed Nov 11 2026. No macro, syntax, notation, axiom, sorry.
-/
import Derived.Test.YtghjfohjkgllbaaChecked
import GoSem.Claim
import GoSem.ClaimJoined
import GoSem.ClaimMapViews
import Derived.JoinedTies
import Derived.KernelRfl
namespace Go.Proofs.Ytghjfohjkgllbaa
/- THE CELL 'sum', in the pinned program and in every row, IS THE sha256 OF THE DUMP (.gsa) THAT YtghjfohjkgllbaaProg.lean LOADS. Nothing in Lean hashes anything: it is a label: what it is worth is what the hold of that sum in a sandbox is worth. -/
noncomputable def Try.pinned : Pinned := { name := "ytghjfohjkgllbaa", sum := "a9db6efbcd9a240633128e115c06efd3b1470e20050972d2e3c7fb95eaf95adf", checked := Try.checked }
namespace Rows
def none {H : Type} : Left H := { results := [], args := [] }

/-- 'matchguardlaw28.ExtractParses': WHATEVER THE INPUT: true; the input reads as it did. -/
def extractParsesSpec : ChangeSpec := { name := "extractParses", fn := fun _ => fun
  | [d1, d2, d3, d4] => { results := [.lit (.bool true)], args := [d1, d2, d3, d4] }
  | _ => none }
def extractParsesRow : OpenClaim := { program := "ytghjfohjkgllbaa", sum := "a9db6efbcd9a240633128e115c06efd3b1470e20050972d2e3c7fb95eaf95adf", func := "matchguard/matchguardlaw28.ExtractParses", spec := "extractParses", unfollowed := true, recurses := true, apart := false }
def ExtractParsesSaid : Prop := extractParsesRow.holds Try.pinned (OpenSpec.ofChange extractParsesSpec)

/-- ITS FALSE NEIGHBOUR: 'it returns false'. Refute it at one input. -/
def extractParsesWrong : ChangeSpec := { name := "extractParses", fn := fun _ => fun
  | [d1, d2, d3, d4] => { results := [.lit (.bool false)], args := [d1, d2, d3, d4] }
  | _ => none }
def ExtractParsesWrongFalsely : Prop := extractParsesRow.holds Try.pinned (OpenSpec.ofChange extractParsesWrong)

/-- 'matchguardlaw28.ExtractBits': WHATEVER THE INPUT: true; the input reads as it did. -/
def extractBitsSpec : ChangeSpec := { name := "extractBits", fn := fun _ => fun
  | [d1, d2] => { results := [.lit (.bool true)], args := [d1, d2] }
  | _ => none }
def extractBitsRow : OpenClaim := { program := "ytghjfohjkgllbaa", sum := "a9db6efbcd9a240633128e115c06efd3b1470e20050972d2e3c7fb95eaf95adf", func := "matchguard/matchguardlaw28.ExtractBits", spec := "extractBits", unfollowed := true, recurses := true, apart := false }
def ExtractBitsSaid : Prop := extractBitsRow.holds Try.pinned (OpenSpec.ofChange extractBitsSpec)

/-- ITS FALSE NEIGHBOUR: 'it returns false'. Refute it at one input. -/
def extractBitsWrong : ChangeSpec := { name := "extractBits", fn := fun _ => fun
  | [d1, d2] => { results := [.lit (.bool false)], args := [d1, d2] }
  | _ => none }
def ExtractBitsWrongFalsely : Prop := extractBitsRow.holds Try.pinned (OpenSpec.ofChange extractBitsWrong)

/-- 'matchguardlaw28.ExtractEnds': WHATEVER THE INPUT: true; the input reads as it did. -/
def extractEndsSpec : ChangeSpec := { name := "extractEnds", fn := fun _ => fun
  | [d1, d2, d3, d4] => { results := [.lit (.bool true)], args := [d1, d2, d3, d4] }
  | _ => none }
def extractEndsRow : OpenClaim := { program := "ytghjfohjkgllbaa", sum := "a9db6efbcd9a240633128e115c06efd3b1470e20050972d2e3c7fb95eaf95adf", func := "matchguard/matchguardlaw28.ExtractEnds", spec := "extractEnds", unfollowed := true, recurses := true, apart := false }
def ExtractEndsSaid : Prop := extractEndsRow.holds Try.pinned (OpenSpec.ofChange extractEndsSpec)

/-- ITS FALSE NEIGHBOUR: 'it returns false'. Refute it at one input. -/
def extractEndsWrong : ChangeSpec := { name := "extractEnds", fn := fun _ => fun
  | [d1, d2, d3, d4] => { results := [.lit (.bool false)], args := [d1, d2, d3, d4] }
  | _ => none }
def ExtractEndsWrongFalsely : Prop := extractEndsRow.holds Try.pinned (OpenSpec.ofChange extractEndsWrong)

/-- 'matchguardlaw28.ExtractLocal': WHATEVER THE INPUT: true; the input reads as it did. -/
def extractLocalSpec : ChangeSpec := { name := "extractLocal", fn := fun _ => fun
  | [d1, d2, d3] => { results := [.lit (.bool true)], args := [d1, d2, d3] }
  | _ => none }
def extractLocalRow : OpenClaim := { program := "ytghjfohjkgllbaa", sum := "a9db6efbcd9a240633128e115c06efd3b1470e20050972d2e3c7fb95eaf95adf", func := "matchguard/matchguardlaw28.ExtractLocal", spec := "extractLocal", unfollowed := true, recurses := true, apart := false }
def ExtractLocalSaid : Prop := extractLocalRow.holds Try.pinned (OpenSpec.ofChange extractLocalSpec)

/-- ITS FALSE NEIGHBOUR: 'it returns false'. Refute it at one input. -/
def extractLocalWrong : ChangeSpec := { name := "extractLocal", fn := fun _ => fun
  | [d1, d2, d3] => { results := [.lit (.bool false)], args := [d1, d2, d3] }
  | _ => none }
def ExtractLocalWrongFalsely : Prop := extractLocalRow.holds Try.pinned (OpenSpec.ofChange extractLocalWrong)

/- THE SECOND FORM. 'bulk': how many values and letters a reading holds, each counted each time it is reached (what is shared counts as often as it is met; a slice's spare places count too). A statement '..UptoSaid' is the law's where the arguments, and the package variables that the reading takes, are together of bulk at most 1048576: NARROWER than '..Said'. Prove '..Said' where nothing that the law and all that it calls make is longer than what came in: it says more and counts as full. Else prove '..UptoSaid'. A law counts once. -/
mutual
def uptoBulk {H : Type} : DataW H → Nat
  | .lit (.string bytes) => bytes.length + 1
  | .lit _ => 1
  | .nil => 1
  | .ptr d => uptoBulk d + 1
  | .slice elems spare => uptoBulkAll elems + uptoBulkAll spare + 1
  | .agg parts => uptoBulkAll parts + 1
  | .iface _ d => uptoBulk d + 1
  | .map entries => uptoBulkEntries entries + 1
  | .held _ => 1
def uptoBulkAll {H : Type} : List (DataW H) → Nat
  | [] => 0
  | d :: r => uptoBulk d + uptoBulkAll r
def uptoBulkEntries {H : Type} : List (Lit × DataW H) → Nat
  | [] => 0
  | x :: r => uptoBulkEntry x + uptoBulkEntries r
def uptoBulkEntry {H : Type} : Lit × DataW H → Nat
  | (.string bytes, d) => bytes.length + uptoBulk d + 1
  | (_, d) => uptoBulk d + 1
 end
def uptoSmall : (H : Type) → List (DataW H) → Bool := fun _ ds => decide (uptoBulkAll ds ≤ 1048576)
def OpenSpec.upto (s : _root_.Go.ChangeSpec) : _root_.Go.OpenSpec := { _root_.Go.OpenSpec.ofChange s with cond := some uptoSmall }

/-- 'matchguardlaw28.ExtractParses', WHERE WHAT IT READS IS OF BULK AT MOST 1048576: true; the input reads as it did. -/
def extractParsesUptoRow : OpenClaim := { program := "ytghjfohjkgllbaa", sum := "a9db6efbcd9a240633128e115c06efd3b1470e20050972d2e3c7fb95eaf95adf", func := "matchguard/matchguardlaw28.ExtractParses", spec := "extractParses", unfollowed := true, recurses := true, apart := false, narrowed := true }
def ExtractParsesUptoSaid : Prop := extractParsesUptoRow.holds Try.pinned (OpenSpec.upto extractParsesSpec)

/-- 'matchguardlaw28.ExtractBits', WHERE WHAT IT READS IS OF BULK AT MOST 1048576: true; the input reads as it did. -/
def extractBitsUptoRow : OpenClaim := { program := "ytghjfohjkgllbaa", sum := "a9db6efbcd9a240633128e115c06efd3b1470e20050972d2e3c7fb95eaf95adf", func := "matchguard/matchguardlaw28.ExtractBits", spec := "extractBits", unfollowed := true, recurses := true, apart := false, narrowed := true }
def ExtractBitsUptoSaid : Prop := extractBitsUptoRow.holds Try.pinned (OpenSpec.upto extractBitsSpec)

/-- 'matchguardlaw28.ExtractEnds', WHERE WHAT IT READS IS OF BULK AT MOST 1048576: true; the input reads as it did. -/
def extractEndsUptoRow : OpenClaim := { program := "ytghjfohjkgllbaa", sum := "a9db6efbcd9a240633128e115c06efd3b1470e20050972d2e3c7fb95eaf95adf", func := "matchguard/matchguardlaw28.ExtractEnds", spec := "extractEnds", unfollowed := true, recurses := true, apart := false, narrowed := true }
def ExtractEndsUptoSaid : Prop := extractEndsUptoRow.holds Try.pinned (OpenSpec.upto extractEndsSpec)

/-- 'matchguardlaw28.ExtractLocal', WHERE WHAT IT READS IS OF BULK AT MOST 1048576: true; the input reads as it did. -/
def extractLocalUptoRow : OpenClaim := { program := "ytghjfohjkgllbaa", sum := "a9db6efbcd9a240633128e115c06efd3b1470e20050972d2e3c7fb95eaf95adf", func := "matchguard/matchguardlaw28.ExtractLocal", spec := "extractLocal", unfollowed := true, recurses := true, apart := false, narrowed := true }
def ExtractLocalUptoSaid : Prop := extractLocalUptoRow.holds Try.pinned (OpenSpec.upto extractLocalSpec)

end Rows
end Go.Proofs.Ytghjfohjkgllbaa
