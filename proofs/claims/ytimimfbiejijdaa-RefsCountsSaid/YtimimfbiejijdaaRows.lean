/-
  No cell of these rows narrows 'for every input' (looked for: loops, veiled, ifaces, maps, wideKeys, modest, calm, conditions, laid).
  DERIVED. THE GIVEN ROWS OF THIS SEAT. 4 by the template 'for every input the law returns true; each argument reads behind the call as it read before'; 0 by the template 'total and deterministic' (their statements: YtimimfbiejijdaaTotals.lean).
  GIVEN WITH THE SEED: the statements are not yours to turn. If you find one false, say at which input.
  Laid BY PROGRAM, IN A SANDBOX (cutbox-rows.mjs): the forced cells as the released guide's own fill.sh prints them over the translation 1fd7911100f753b9… (all of the seat's roots in one cut). By AI agents, Wed Nov 11 2026. No macro, syntax, notation, axiom, sorry.
-/
import Derived.Test.YtimimfbiejijdaaChecked
import GoSem.Claim
import GoSem.ClaimJoined
import GoSem.ClaimMapViews
import Derived.JoinedTies
import Derived.KernelRfl
namespace Go.Proofs.Ytimimfbiejijdaa
/- THE CELL 'sum', in the pinned program and in every row, IS THE sha256 OF THE DUMP (.gsa) THAT YtimimfbiejijdaaProg.lean LOADS. Nothing in Lean hashes anything: it is a label: what it is worth is what the hold of that sum in a sandbox is worth. -/
noncomputable def Try.pinned : Pinned := { name := "ytimimfbiejijdaa", sum := "1fd7911100f753b94079e6f6a553dd1d132b2052e944c73a227d2b918db996c8", checked := Try.checked }
namespace Rows
def none {H : Type} : Left H := { results := [], args := [] }

/-- 'matchguardlaw16.RefsEntries': WHATEVER THE INPUT: true; the input reads as it did. -/
def refsEntriesSpec : ChangeSpec := { name := "refsEntries", fn := fun _ => fun
  | [d1, d2] => { results := [.lit (.bool true)], args := [d1, d2] }
  | _ => none }
def refsEntriesRow : OpenClaim := { program := "ytimimfbiejijdaa", sum := "1fd7911100f753b94079e6f6a553dd1d132b2052e944c73a227d2b918db996c8", func := "matchguard/matchguardlaw16.RefsEntries", spec := "refsEntries", plainKeys := false, apart := false }
def RefsEntriesSaid : Prop := refsEntriesRow.holds Try.pinned (OpenSpec.ofChange refsEntriesSpec)

/-- ITS FALSE NEIGHBOUR: 'it returns false'. Refute it at one input. -/
def refsEntriesWrong : ChangeSpec := { name := "refsEntries", fn := fun _ => fun
  | [d1, d2] => { results := [.lit (.bool false)], args := [d1, d2] }
  | _ => none }
def RefsEntriesWrongFalsely : Prop := refsEntriesRow.holds Try.pinned (OpenSpec.ofChange refsEntriesWrong)

/-- 'matchguardlaw16.RefsWhole': WHATEVER THE INPUT: true; the input reads as it did. -/
def refsWholeSpec : ChangeSpec := { name := "refsWhole", fn := fun _ => fun
  | [d1, d2] => { results := [.lit (.bool true)], args := [d1, d2] }
  | _ => none }
def refsWholeRow : OpenClaim := { program := "ytimimfbiejijdaa", sum := "1fd7911100f753b94079e6f6a553dd1d132b2052e944c73a227d2b918db996c8", func := "matchguard/matchguardlaw16.RefsWhole", spec := "refsWhole", unfollowed := true, recurses := true, plainKeys := false, apart := false }
def RefsWholeSaid : Prop := refsWholeRow.holds Try.pinned (OpenSpec.ofChange refsWholeSpec)

/-- ITS FALSE NEIGHBOUR: 'it returns false'. Refute it at one input. -/
def refsWholeWrong : ChangeSpec := { name := "refsWhole", fn := fun _ => fun
  | [d1, d2] => { results := [.lit (.bool false)], args := [d1, d2] }
  | _ => none }
def RefsWholeWrongFalsely : Prop := refsWholeRow.holds Try.pinned (OpenSpec.ofChange refsWholeWrong)

/-- 'matchguardlaw16.RefsCounts': WHATEVER THE INPUT: true; the input reads as it did. -/
def refsCountsSpec : ChangeSpec := { name := "refsCounts", fn := fun _ => fun
  | [d1, d2] => { results := [.lit (.bool true)], args := [d1, d2] }
  | _ => none }
def refsCountsRow : OpenClaim := { program := "ytimimfbiejijdaa", sum := "1fd7911100f753b94079e6f6a553dd1d132b2052e944c73a227d2b918db996c8", func := "matchguard/matchguardlaw16.RefsCounts", spec := "refsCounts", unfollowed := true, recurses := true, plainKeys := false, apart := false }
def RefsCountsSaid : Prop := refsCountsRow.holds Try.pinned (OpenSpec.ofChange refsCountsSpec)

/-- ITS FALSE NEIGHBOUR: 'it returns false'. Refute it at one input. -/
def refsCountsWrong : ChangeSpec := { name := "refsCounts", fn := fun _ => fun
  | [d1, d2] => { results := [.lit (.bool false)], args := [d1, d2] }
  | _ => none }
def RefsCountsWrongFalsely : Prop := refsCountsRow.holds Try.pinned (OpenSpec.ofChange refsCountsWrong)

/-- 'matchguardlaw16.RefsOrder': WHATEVER THE INPUT: true; the input reads as it did. -/
def refsOrderSpec : ChangeSpec := { name := "refsOrder", fn := fun _ => fun
  | [d1, d2, d3] => { results := [.lit (.bool true)], args := [d1, d2, d3] }
  | _ => none }
def refsOrderRow : OpenClaim := { program := "ytimimfbiejijdaa", sum := "1fd7911100f753b94079e6f6a553dd1d132b2052e944c73a227d2b918db996c8", func := "matchguard/matchguardlaw16.RefsOrder", spec := "refsOrder", unfollowed := true, recurses := true, plainKeys := false, apart := false }
def RefsOrderSaid : Prop := refsOrderRow.holds Try.pinned (OpenSpec.ofChange refsOrderSpec)

/-- ITS FALSE NEIGHBOUR: 'it returns false'. Refute it at one input. -/
def refsOrderWrong : ChangeSpec := { name := "refsOrder", fn := fun _ => fun
  | [d1, d2, d3] => { results := [.lit (.bool false)], args := [d1, d2, d3] }
  | _ => none }
def RefsOrderWrongFalsely : Prop := refsOrderRow.holds Try.pinned (OpenSpec.ofChange refsOrderWrong)

/- THE SECOND FORM. 'bulk': how many values and letters a reading holds, each counted each time it is reached (what is shared counts as often as it is met; a slice's spare places count too). A statement '..UptoSaid' is the law's where the arguments, and the package variables that the reading takes, are together of bulk at most 1048576: NARROWER than '..Said'. Prove '..Said' where nothing that the law and all that it calls make is longer than what came in: it says more and counts as full. Else prove '..UptoSaid'. A law counts once. -/
mutual
def uptoBulk {H : Type} : DataW H → Nat
  | .lit (.string bytes) => bytes.length + 1
  | .lit _ => 1
  | .nil => 1
  | .ptr d => uptoBulk d + 1
  | .slice elems spare => uptoBulkAll elems + uptoBulkAll spare + 1
  | .agg parts => uptoBulkAll parts + 1
  | .iface _ d => uptoBulk d + 1
  | .map entries => uptoBulkEntries entries + 1
  | .held _ => 1
def uptoBulkAll {H : Type} : List (DataW H) → Nat
  | [] => 0
  | d :: r => uptoBulk d + uptoBulkAll r
def uptoBulkEntries {H : Type} : List (Lit × DataW H) → Nat
  | [] => 0
  | x :: r => uptoBulkEntry x + uptoBulkEntries r
def uptoBulkEntry {H : Type} : Lit × DataW H → Nat
  | (.string bytes, d) => bytes.length + uptoBulk d + 1
  | (_, d) => uptoBulk d + 1
 end
def uptoSmall : (H : Type) → List (DataW H) → Bool := fun _ ds => decide (uptoBulkAll ds ≤ 1048576)
def OpenSpec.upto (s : _root_.Go.ChangeSpec) : _root_.Go.OpenSpec := { _root_.Go.OpenSpec.ofChange s with cond := some uptoSmall }

/-- 'matchguardlaw16.RefsEntries', WHERE WHAT IT READS IS OF BULK AT MOST 1048576: true; the input reads as it did. -/
def refsEntriesUptoRow : OpenClaim := { program := "ytimimfbiejijdaa", sum := "1fd7911100f753b94079e6f6a553dd1d132b2052e944c73a227d2b918db996c8", func := "matchguard/matchguardlaw16.RefsEntries", spec := "refsEntries", plainKeys := false, apart := false, narrowed := true }
def RefsEntriesUptoSaid : Prop := refsEntriesUptoRow.holds Try.pinned (OpenSpec.upto refsEntriesSpec)

/-- 'matchguardlaw16.RefsWhole', WHERE WHAT IT READS IS OF BULK AT MOST 1048576: true; the input reads as it did. -/
def refsWholeUptoRow : OpenClaim := { program := "ytimimfbiejijdaa", sum := "1fd7911100f753b94079e6f6a553dd1d132b2052e944c73a227d2b918db996c8", func := "matchguard/matchguardlaw16.RefsWhole", spec := "refsWhole", unfollowed := true, recurses := true, plainKeys := false, apart := false, narrowed := true }
def RefsWholeUptoSaid : Prop := refsWholeUptoRow.holds Try.pinned (OpenSpec.upto refsWholeSpec)

/-- 'matchguardlaw16.RefsCounts', WHERE WHAT IT READS IS OF BULK AT MOST 1048576: true; the input reads as it did. -/
def refsCountsUptoRow : OpenClaim := { program := "ytimimfbiejijdaa", sum := "1fd7911100f753b94079e6f6a553dd1d132b2052e944c73a227d2b918db996c8", func := "matchguard/matchguardlaw16.RefsCounts", spec := "refsCounts", unfollowed := true, recurses := true, plainKeys := false, apart := false, narrowed := true }
def RefsCountsUptoSaid : Prop := refsCountsUptoRow.holds Try.pinned (OpenSpec.upto refsCountsSpec)

/-- 'matchguardlaw16.RefsOrder', WHERE WHAT IT READS IS OF BULK AT MOST 1048576: true; the input reads as it did. -/
def refsOrderUptoRow : OpenClaim := { program := "ytimimfbiejijdaa", sum := "1fd7911100f753b94079e6f6a553dd1d132b2052e944c73a227d2b918db996c8", func := "matchguard/matchguardlaw16.RefsOrder", spec := "refsOrder", unfollowed := true, recurses := true, plainKeys := false, apart := false, narrowed := true }
def RefsOrderUptoSaid : Prop := refsOrderUptoRow.holds Try.pinned (OpenSpec.upto refsOrderSpec)

end Rows
end Go.Proofs.Ytimimfbiejijdaa
