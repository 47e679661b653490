/-
  No cell of these rows narrows 'for every input' (looked for: loops, veiled, ifaces, maps, wideKeys, modest, calm, conditions, laid).
  DERIVED. THE GIVEN ROWS OF THIS SEAT. 7 by the template 'for every input the law returns true; each argument reads behind the call as it read before'; 0 by the template 'total and deterministic' (their statements: YtlnkiclnofgagaaTotals.lean).
  GIVEN WITH THE SEED: the statements are not yours to turn. If you find one false, say at which input.
  Laid BY PROGRAM, IN A SANDBOX (cutbox-rows.mjs): the forced cells as the released guide's own fill.sh prints them over the translation 95d49f0c7920baee… (all of the seat's roots in one cut). By AI agents, Wed Nov 11 2026. No macro, syntax, notation, axiom, sorry.
-/
import Derived.Test.YtlnkiclnofgagaaChecked
import GoSem.Claim
import GoSem.ClaimJoined
import GoSem.ClaimMapViews
import Derived.JoinedTies
import Derived.KernelRfl
namespace Go.Proofs.Ytlnkiclnofgagaa
/- THE CELL 'sum', in the pinned program and in every row, IS THE sha256 OF THE DUMP (.gsa) THAT YtlnkiclnofgagaaProg.lean LOADS. Nothing in Lean hashes anything: it is a label: what it is worth is what the hold of that sum in a sandbox is worth. -/
noncomputable def Try.pinned : Pinned := { name := "ytlnkiclnofgagaa", sum := "95d49f0c7920baeea9f0e81f1b393ec8aa9211b59981949a315829df29567f1f", checked := Try.checked }
namespace Rows
def none {H : Type} : Left H := { results := [], args := [] }

/-- 'matchguardlaw24.AuditAppends': WHATEVER THE INPUT: true; the input reads as it did. -/
def auditAppendsSpec : ChangeSpec := { name := "auditAppends", fn := fun _ => fun
  | [d1, d2] => { results := [.lit (.bool true)], args := [d1, d2] }
  | _ => none }
def auditAppendsRow : OpenClaim := { program := "ytlnkiclnofgagaa", sum := "95d49f0c7920baeea9f0e81f1b393ec8aa9211b59981949a315829df29567f1f", func := "matchguard/matchguardlaw24.AuditAppends", spec := "auditAppends", apart := false }
def AuditAppendsSaid : Prop := auditAppendsRow.holds Try.pinned (OpenSpec.ofChange auditAppendsSpec)

/-- ITS FALSE NEIGHBOUR: 'it returns false'. Refute it at one input. -/
def auditAppendsWrong : ChangeSpec := { name := "auditAppends", fn := fun _ => fun
  | [d1, d2] => { results := [.lit (.bool false)], args := [d1, d2] }
  | _ => none }
def AuditAppendsWrongFalsely : Prop := auditAppendsRow.holds Try.pinned (OpenSpec.ofChange auditAppendsWrong)

/-- 'matchguardlaw17.QuotaBound': WHATEVER THE INPUT: true; the input reads as it did. -/
def quotaBoundSpec : ChangeSpec := { name := "quotaBound", fn := fun _ => fun
  | [d1, d2] => { results := [.lit (.bool true)], args := [d1, d2] }
  | _ => none }
def quotaBoundRow : OpenClaim := { program := "ytlnkiclnofgagaa", sum := "95d49f0c7920baeea9f0e81f1b393ec8aa9211b59981949a315829df29567f1f", func := "matchguard/matchguardlaw17.QuotaBound", spec := "quotaBound", apart := false }
def QuotaBoundSaid : Prop := quotaBoundRow.holds Try.pinned (OpenSpec.ofChange quotaBoundSpec)

/-- ITS FALSE NEIGHBOUR: 'it returns false'. Refute it at one input. -/
def quotaBoundWrong : ChangeSpec := { name := "quotaBound", fn := fun _ => fun
  | [d1, d2] => { results := [.lit (.bool false)], args := [d1, d2] }
  | _ => none }
def QuotaBoundWrongFalsely : Prop := quotaBoundRow.holds Try.pinned (OpenSpec.ofChange quotaBoundWrong)

/-- 'matchguardlaw17.QuotaApart': WHATEVER THE INPUT: true; the input reads as it did. -/
def quotaApartSpec : ChangeSpec := { name := "quotaApart", fn := fun _ => fun
  | [d1, d2] => { results := [.lit (.bool true)], args := [d1, d2] }
  | _ => none }
def quotaApartRow : OpenClaim := { program := "ytlnkiclnofgagaa", sum := "95d49f0c7920baeea9f0e81f1b393ec8aa9211b59981949a315829df29567f1f", func := "matchguard/matchguardlaw17.QuotaApart", spec := "quotaApart", apart := false }
def QuotaApartSaid : Prop := quotaApartRow.holds Try.pinned (OpenSpec.ofChange quotaApartSpec)

/-- ITS FALSE NEIGHBOUR: 'it returns false'. Refute it at one input. -/
def quotaApartWrong : ChangeSpec := { name := "quotaApart", fn := fun _ => fun
  | [d1, d2] => { results := [.lit (.bool false)], args := [d1, d2] }
  | _ => none }
def QuotaApartWrongFalsely : Prop := quotaApartRow.holds Try.pinned (OpenSpec.ofChange quotaApartWrong)

/-- 'matchguardlaw17.QuotaCalls': WHATEVER THE INPUT: true; the input reads as it did. -/
def quotaCallsSpec : ChangeSpec := { name := "quotaCalls", fn := fun _ => fun
  | [d1, d2] => { results := [.lit (.bool true)], args := [d1, d2] }
  | _ => none }
def quotaCallsRow : OpenClaim := { program := "ytlnkiclnofgagaa", sum := "95d49f0c7920baeea9f0e81f1b393ec8aa9211b59981949a315829df29567f1f", func := "matchguard/matchguardlaw17.QuotaCalls", spec := "quotaCalls", apart := false }
def QuotaCallsSaid : Prop := quotaCallsRow.holds Try.pinned (OpenSpec.ofChange quotaCallsSpec)

/-- ITS FALSE NEIGHBOUR: 'it returns false'. Refute it at one input. -/
def quotaCallsWrong : ChangeSpec := { name := "quotaCalls", fn := fun _ => fun
  | [d1, d2] => { results := [.lit (.bool false)], args := [d1, d2] }
  | _ => none }
def QuotaCallsWrongFalsely : Prop := quotaCallsRow.holds Try.pinned (OpenSpec.ofChange quotaCallsWrong)

/-- 'matchguardlaw24.AuditReads': WHATEVER THE INPUT: true; the input reads as it did. -/
def auditReadsSpec : ChangeSpec := { name := "auditReads", fn := fun _ => fun
  | [d1, d2, d3, d4, d5] => { results := [.lit (.bool true)], args := [d1, d2, d3, d4, d5] }
  | _ => none }
def auditReadsRow : OpenClaim := { program := "ytlnkiclnofgagaa", sum := "95d49f0c7920baeea9f0e81f1b393ec8aa9211b59981949a315829df29567f1f", func := "matchguard/matchguardlaw24.AuditReads", spec := "auditReads", unfollowed := true, recurses := true, apart := false }
def AuditReadsSaid : Prop := auditReadsRow.holds Try.pinned (OpenSpec.ofChange auditReadsSpec)

/-- ITS FALSE NEIGHBOUR: 'it returns false'. Refute it at one input. -/
def auditReadsWrong : ChangeSpec := { name := "auditReads", fn := fun _ => fun
  | [d1, d2, d3, d4, d5] => { results := [.lit (.bool false)], args := [d1, d2, d3, d4, d5] }
  | _ => none }
def AuditReadsWrongFalsely : Prop := auditReadsRow.holds Try.pinned (OpenSpec.ofChange auditReadsWrong)

/-- 'matchguardlaw24.AuditBlind': WHATEVER THE INPUT: true; the input reads as it did. -/
def auditBlindSpec : ChangeSpec := { name := "auditBlind", fn := fun _ => fun
  | [d1, d2, d3, d4] => { results := [.lit (.bool true)], args := [d1, d2, d3, d4] }
  | _ => none }
def auditBlindRow : OpenClaim := { program := "ytlnkiclnofgagaa", sum := "95d49f0c7920baeea9f0e81f1b393ec8aa9211b59981949a315829df29567f1f", func := "matchguard/matchguardlaw24.AuditBlind", spec := "auditBlind", unfollowed := true, recurses := true, apart := false }
def AuditBlindSaid : Prop := auditBlindRow.holds Try.pinned (OpenSpec.ofChange auditBlindSpec)

/-- ITS FALSE NEIGHBOUR: 'it returns false'. Refute it at one input. -/
def auditBlindWrong : ChangeSpec := { name := "auditBlind", fn := fun _ => fun
  | [d1, d2, d3, d4] => { results := [.lit (.bool false)], args := [d1, d2, d3, d4] }
  | _ => none }
def AuditBlindWrongFalsely : Prop := auditBlindRow.holds Try.pinned (OpenSpec.ofChange auditBlindWrong)

/-- 'matchguardlaw24.AuditPages': WHATEVER THE INPUT: true; the input reads as it did. -/
def auditPagesSpec : ChangeSpec := { name := "auditPages", fn := fun _ => fun
  | [d1, d2, d3, d4] => { results := [.lit (.bool true)], args := [d1, d2, d3, d4] }
  | _ => none }
def auditPagesRow : OpenClaim := { program := "ytlnkiclnofgagaa", sum := "95d49f0c7920baeea9f0e81f1b393ec8aa9211b59981949a315829df29567f1f", func := "matchguard/matchguardlaw24.AuditPages", spec := "auditPages", unfollowed := true, recurses := true, apart := false }
def AuditPagesSaid : Prop := auditPagesRow.holds Try.pinned (OpenSpec.ofChange auditPagesSpec)

/-- ITS FALSE NEIGHBOUR: 'it returns false'. Refute it at one input. -/
def auditPagesWrong : ChangeSpec := { name := "auditPages", fn := fun _ => fun
  | [d1, d2, d3, d4] => { results := [.lit (.bool false)], args := [d1, d2, d3, d4] }
  | _ => none }
def AuditPagesWrongFalsely : Prop := auditPagesRow.holds Try.pinned (OpenSpec.ofChange auditPagesWrong)

/- THE SECOND FORM. 'bulk': how many values and letters a reading holds, each counted each time it is reached (what is shared counts as often as it is met; a slice's spare places count too). A statement '..UptoSaid' is the law's where the arguments, and the package variables that the reading takes, are together of bulk at most 1048576: NARROWER than '..Said'. Prove '..Said' where nothing that the law and all that it calls make is longer than what came in: it says more and counts as full. Else prove '..UptoSaid'. A law counts once. -/
mutual
def uptoBulk {H : Type} : DataW H → Nat
  | .lit (.string bytes) => bytes.length + 1
  | .lit _ => 1
  | .nil => 1
  | .ptr d => uptoBulk d + 1
  | .slice elems spare => uptoBulkAll elems + uptoBulkAll spare + 1
  | .agg parts => uptoBulkAll parts + 1
  | .iface _ d => uptoBulk d + 1
  | .map entries => uptoBulkEntries entries + 1
  | .held _ => 1
def uptoBulkAll {H : Type} : List (DataW H) → Nat
  | [] => 0
  | d :: r => uptoBulk d + uptoBulkAll r
def uptoBulkEntries {H : Type} : List (Lit × DataW H) → Nat
  | [] => 0
  | x :: r => uptoBulkEntry x + uptoBulkEntries r
def uptoBulkEntry {H : Type} : Lit × DataW H → Nat
  | (.string bytes, d) => bytes.length + uptoBulk d + 1
  | (_, d) => uptoBulk d + 1
 end
def uptoSmall : (H : Type) → List (DataW H) → Bool := fun _ ds => decide (uptoBulkAll ds ≤ 1048576)
def OpenSpec.upto (s : _root_.Go.ChangeSpec) : _root_.Go.OpenSpec := { _root_.Go.OpenSpec.ofChange s with cond := some uptoSmall }

/-- 'matchguardlaw24.AuditAppends', WHERE WHAT IT READS IS OF BULK AT MOST 1048576: true; the input reads as it did. -/
def auditAppendsUptoRow : OpenClaim := { program := "ytlnkiclnofgagaa", sum := "95d49f0c7920baeea9f0e81f1b393ec8aa9211b59981949a315829df29567f1f", func := "matchguard/matchguardlaw24.AuditAppends", spec := "auditAppends", apart := false, narrowed := true }
def AuditAppendsUptoSaid : Prop := auditAppendsUptoRow.holds Try.pinned (OpenSpec.upto auditAppendsSpec)

/-- 'matchguardlaw17.QuotaBound', WHERE WHAT IT READS IS OF BULK AT MOST 1048576: true; the input reads as it did. -/
def quotaBoundUptoRow : OpenClaim := { program := "ytlnkiclnofgagaa", sum := "95d49f0c7920baeea9f0e81f1b393ec8aa9211b59981949a315829df29567f1f", func := "matchguard/matchguardlaw17.QuotaBound", spec := "quotaBound", apart := false, narrowed := true }
def QuotaBoundUptoSaid : Prop := quotaBoundUptoRow.holds Try.pinned (OpenSpec.upto quotaBoundSpec)

/-- 'matchguardlaw17.QuotaApart', WHERE WHAT IT READS IS OF BULK AT MOST 1048576: true; the input reads as it did. -/
def quotaApartUptoRow : OpenClaim := { program := "ytlnkiclnofgagaa", sum := "95d49f0c7920baeea9f0e81f1b393ec8aa9211b59981949a315829df29567f1f", func := "matchguard/matchguardlaw17.QuotaApart", spec := "quotaApart", apart := false, narrowed := true }
def QuotaApartUptoSaid : Prop := quotaApartUptoRow.holds Try.pinned (OpenSpec.upto quotaApartSpec)

/-- 'matchguardlaw17.QuotaCalls', WHERE WHAT IT READS IS OF BULK AT MOST 1048576: true; the input reads as it did. -/
def quotaCallsUptoRow : OpenClaim := { program := "ytlnkiclnofgagaa", sum := "95d49f0c7920baeea9f0e81f1b393ec8aa9211b59981949a315829df29567f1f", func := "matchguard/matchguardlaw17.QuotaCalls", spec := "quotaCalls", apart := false, narrowed := true }
def QuotaCallsUptoSaid : Prop := quotaCallsUptoRow.holds Try.pinned (OpenSpec.upto quotaCallsSpec)

/-- 'matchguardlaw24.AuditReads', WHERE WHAT IT READS IS OF BULK AT MOST 1048576: true; the input reads as it did. -/
def auditReadsUptoRow : OpenClaim := { program := "ytlnkiclnofgagaa", sum := "95d49f0c7920baeea9f0e81f1b393ec8aa9211b59981949a315829df29567f1f", func := "matchguard/matchguardlaw24.AuditReads", spec := "auditReads", unfollowed := true, recurses := true, apart := false, narrowed := true }
def AuditReadsUptoSaid : Prop := auditReadsUptoRow.holds Try.pinned (OpenSpec.upto auditReadsSpec)

/-- 'matchguardlaw24.AuditBlind', WHERE WHAT IT READS IS OF BULK AT MOST 1048576: true; the input reads as it did. -/
def auditBlindUptoRow : OpenClaim := { program := "ytlnkiclnofgagaa", sum := "95d49f0c7920baeea9f0e81f1b393ec8aa9211b59981949a315829df29567f1f", func := "matchguard/matchguardlaw24.AuditBlind", spec := "auditBlind", unfollowed := true, recurses := true, apart := false, narrowed := true }
def AuditBlindUptoSaid : Prop := auditBlindUptoRow.holds Try.pinned (OpenSpec.upto auditBlindSpec)

/-- 'matchguardlaw24.AuditPages', WHERE WHAT IT READS IS OF BULK AT MOST 1048576: true; the input reads as it did. -/
def auditPagesUptoRow : OpenClaim := { program := "ytlnkiclnofgagaa", sum := "95d49f0c7920baeea9f0e81f1b393ec8aa9211b59981949a315829df29567f1f", func := "matchguard/matchguardlaw24.AuditPages", spec := "auditPages", unfollowed := true, recurses := true, apart := false, narrowed := true }
def AuditPagesUptoSaid : Prop := auditPagesUptoRow.holds Try.pinned (OpenSpec.upto auditPagesSpec)

end Rows
end Go.Proofs.Ytlnkiclnofgagaa
