/-
  No cell of these rows narrows 'for every input' (looked for: loops, veiled, ifaces, maps, wideKeys, modest, calm, conditions, laid).
  DERIVED. THE GIVEN ROWS OF THIS SEAT. 6 by the template 'for every input the law returns true; each argument reads behind the call as it read before'; 0 by the template 'total and deterministic' (their statements: YtnmidfcefljafaaGreatTotals.lean).
  GIVEN WITH THE SEED: the statements are not yours to turn. If you find one false, say at which input.
  Laid BY PROGRAM, IN A SANDBOX (cutbox-rows.mjs): the forced cells as the released guide's own fill.sh prints them over the translation c2c00b73183d64c0… (all of the seat's roots in one cut). By AI agents, Wed Nov 11 2026. No macro, syntax, notation, axiom, sorry.
-/
import Derived.Test.YtnmidfcefljafaaGreatChecked
import GoSem.Claim
import GoSem.ClaimJoined
import GoSem.ClaimMapViews
import Derived.JoinedTies
import Derived.KernelRfl
namespace Go.Proofs.YtnmidfcefljafaaGreat
/- THE CELL 'sum', in the pinned program and in every row, IS THE sha256 OF THE DUMP (.gsa) THAT YtnmidfcefljafaaGreatProg.lean LOADS. Nothing in Lean hashes anything: it is a label: what it is worth is what the hold of that sum in a sandbox is worth. -/
noncomputable def Tryz.pinned : Pinned := { name := "ytnmidfcefljafaagreat", sum := "c2c00b73183d64c05c9c95ca3a8cdd9d7ddd8e8c8c5db90c6eb157ead10e636e", checked := Tryz.checked }
namespace Rows
def none {H : Type} : Left H := { results := [], args := [] }

/-- 'compactortop.TopLogsEnd': WHATEVER THE INPUT: true; the input reads as it did. -/
def topLogsEndSpec : ChangeSpec := { name := "topLogsEnd", fn := fun _ => fun
  | [d1, d2] => { results := [.lit (.bool true)], args := [d1, d2] }
  | _ => none }
def topLogsEndRow : OpenClaim := { program := "ytnmidfcefljafaagreat", sum := "c2c00b73183d64c05c9c95ca3a8cdd9d7ddd8e8c8c5db90c6eb157ead10e636e", func := "compactor/compactortop.TopLogsEnd", spec := "topLogsEnd", unfollowed := true, recurses := true, apart := false }
def TopLogsEndSaid : Prop := topLogsEndRow.holds Tryz.pinned (OpenSpec.ofChange topLogsEndSpec)

/-- ITS FALSE NEIGHBOUR: 'it returns false'. Refute it at one input. -/
def topLogsEndWrong : ChangeSpec := { name := "topLogsEnd", fn := fun _ => fun
  | [d1, d2] => { results := [.lit (.bool false)], args := [d1, d2] }
  | _ => none }
def TopLogsEndWrongFalsely : Prop := topLogsEndRow.holds Tryz.pinned (OpenSpec.ofChange topLogsEndWrong)

/-- 'compactortop.TopSealedOpened': WHATEVER THE INPUT: true; the input reads as it did. -/
def topSealedOpenedSpec : ChangeSpec := { name := "topSealedOpened", fn := fun _ => fun
  | [d1, d2, d3] => { results := [.lit (.bool true)], args := [d1, d2, d3] }
  | _ => none }
def topSealedOpenedRow : OpenClaim := { program := "ytnmidfcefljafaagreat", sum := "c2c00b73183d64c05c9c95ca3a8cdd9d7ddd8e8c8c5db90c6eb157ead10e636e", func := "compactor/compactortop.TopSealedOpened", spec := "topSealedOpened", unfollowed := true, recurses := true, apart := false }
def TopSealedOpenedSaid : Prop := topSealedOpenedRow.holds Tryz.pinned (OpenSpec.ofChange topSealedOpenedSpec)

/-- ITS FALSE NEIGHBOUR: 'it returns false'. Refute it at one input. -/
def topSealedOpenedWrong : ChangeSpec := { name := "topSealedOpened", fn := fun _ => fun
  | [d1, d2, d3] => { results := [.lit (.bool false)], args := [d1, d2, d3] }
  | _ => none }
def TopSealedOpenedWrongFalsely : Prop := topSealedOpenedRow.holds Tryz.pinned (OpenSpec.ofChange topSealedOpenedWrong)

/-- 'compactortop.TopSealedTampered': WHATEVER THE INPUT: true; the input reads as it did. -/
def topSealedTamperedSpec : ChangeSpec := { name := "topSealedTampered", fn := fun _ => fun
  | [d1, d2, d3] => { results := [.lit (.bool true)], args := [d1, d2, d3] }
  | _ => none }
def topSealedTamperedRow : OpenClaim := { program := "ytnmidfcefljafaagreat", sum := "c2c00b73183d64c05c9c95ca3a8cdd9d7ddd8e8c8c5db90c6eb157ead10e636e", func := "compactor/compactortop.TopSealedTampered", spec := "topSealedTampered", unfollowed := true, recurses := true, apart := false }
def TopSealedTamperedSaid : Prop := topSealedTamperedRow.holds Tryz.pinned (OpenSpec.ofChange topSealedTamperedSpec)

/-- ITS FALSE NEIGHBOUR: 'it returns false'. Refute it at one input. -/
def topSealedTamperedWrong : ChangeSpec := { name := "topSealedTampered", fn := fun _ => fun
  | [d1, d2, d3] => { results := [.lit (.bool false)], args := [d1, d2, d3] }
  | _ => none }
def TopSealedTamperedWrongFalsely : Prop := topSealedTamperedRow.holds Tryz.pinned (OpenSpec.ofChange topSealedTamperedWrong)

/-- 'compactortop.TopCommitsSurvive': WHATEVER THE INPUT: true; the input reads as it did. -/
def topCommitsSurviveSpec : ChangeSpec := { name := "topCommitsSurvive", fn := fun _ => fun
  | [d1, d2, d3] => { results := [.lit (.bool true)], args := [d1, d2, d3] }
  | _ => none }
def topCommitsSurviveRow : OpenClaim := { program := "ytnmidfcefljafaagreat", sum := "c2c00b73183d64c05c9c95ca3a8cdd9d7ddd8e8c8c5db90c6eb157ead10e636e", func := "compactor/compactortop.TopCommitsSurvive", spec := "topCommitsSurvive", unfollowed := true, recurses := true, apart := false }
def TopCommitsSurviveSaid : Prop := topCommitsSurviveRow.holds Tryz.pinned (OpenSpec.ofChange topCommitsSurviveSpec)

/-- ITS FALSE NEIGHBOUR: 'it returns false'. Refute it at one input. -/
def topCommitsSurviveWrong : ChangeSpec := { name := "topCommitsSurvive", fn := fun _ => fun
  | [d1, d2, d3] => { results := [.lit (.bool false)], args := [d1, d2, d3] }
  | _ => none }
def TopCommitsSurviveWrongFalsely : Prop := topCommitsSurviveRow.holds Tryz.pinned (OpenSpec.ofChange topCommitsSurviveWrong)

/-- 'compactortop.TopLogPrefix': WHATEVER THE INPUT: true; the input reads as it did. -/
def topLogPrefixSpec : ChangeSpec := { name := "topLogPrefix", fn := fun _ => fun
  | [d1, d2, d3] => { results := [.lit (.bool true)], args := [d1, d2, d3] }
  | _ => none }
def topLogPrefixRow : OpenClaim := { program := "ytnmidfcefljafaagreat", sum := "c2c00b73183d64c05c9c95ca3a8cdd9d7ddd8e8c8c5db90c6eb157ead10e636e", func := "compactor/compactortop.TopLogPrefix", spec := "topLogPrefix", unfollowed := true, recurses := true, apart := false }
def TopLogPrefixSaid : Prop := topLogPrefixRow.holds Tryz.pinned (OpenSpec.ofChange topLogPrefixSpec)

/-- ITS FALSE NEIGHBOUR: 'it returns false'. Refute it at one input. -/
def topLogPrefixWrong : ChangeSpec := { name := "topLogPrefix", fn := fun _ => fun
  | [d1, d2, d3] => { results := [.lit (.bool false)], args := [d1, d2, d3] }
  | _ => none }
def TopLogPrefixWrongFalsely : Prop := topLogPrefixRow.holds Tryz.pinned (OpenSpec.ofChange topLogPrefixWrong)

/-- 'compactortop.TopLogDurable': WHATEVER THE INPUT: true; the input reads as it did. -/
def topLogDurableSpec : ChangeSpec := { name := "topLogDurable", fn := fun _ => fun
  | [d1, d2, d3] => { results := [.lit (.bool true)], args := [d1, d2, d3] }
  | _ => none }
def topLogDurableRow : OpenClaim := { program := "ytnmidfcefljafaagreat", sum := "c2c00b73183d64c05c9c95ca3a8cdd9d7ddd8e8c8c5db90c6eb157ead10e636e", func := "compactor/compactortop.TopLogDurable", spec := "topLogDurable", unfollowed := true, recurses := true, apart := false }
def TopLogDurableSaid : Prop := topLogDurableRow.holds Tryz.pinned (OpenSpec.ofChange topLogDurableSpec)

/-- ITS FALSE NEIGHBOUR: 'it returns false'. Refute it at one input. -/
def topLogDurableWrong : ChangeSpec := { name := "topLogDurable", fn := fun _ => fun
  | [d1, d2, d3] => { results := [.lit (.bool false)], args := [d1, d2, d3] }
  | _ => none }
def TopLogDurableWrongFalsely : Prop := topLogDurableRow.holds Tryz.pinned (OpenSpec.ofChange topLogDurableWrong)

/- THE SECOND FORM. 'bulk': how many values and letters a reading holds, each counted each time it is reached (what is shared counts as often as it is met; a slice's spare places count too). A statement '..UptoSaid' is the law's where the arguments, and the package variables that the reading takes, are together of bulk at most 1048576: NARROWER than '..Said'. Prove '..Said' where nothing that the law and all that it calls make is longer than what came in: it says more and counts as full. Else prove '..UptoSaid'. A law counts once. -/
mutual
def uptoBulk {H : Type} : DataW H → Nat
  | .lit (.string bytes) => bytes.length + 1
  | .lit _ => 1
  | .nil => 1
  | .ptr d => uptoBulk d + 1
  | .slice elems spare => uptoBulkAll elems + uptoBulkAll spare + 1
  | .agg parts => uptoBulkAll parts + 1
  | .iface _ d => uptoBulk d + 1
  | .map entries => uptoBulkEntries entries + 1
  | .held _ => 1
def uptoBulkAll {H : Type} : List (DataW H) → Nat
  | [] => 0
  | d :: r => uptoBulk d + uptoBulkAll r
def uptoBulkEntries {H : Type} : List (Lit × DataW H) → Nat
  | [] => 0
  | x :: r => uptoBulkEntry x + uptoBulkEntries r
def uptoBulkEntry {H : Type} : Lit × DataW H → Nat
  | (.string bytes, d) => bytes.length + uptoBulk d + 1
  | (_, d) => uptoBulk d + 1
 end
def uptoSmall : (H : Type) → List (DataW H) → Bool := fun _ ds => decide (uptoBulkAll ds ≤ 1048576)
def OpenSpec.upto (s : _root_.Go.ChangeSpec) : _root_.Go.OpenSpec := { _root_.Go.OpenSpec.ofChange s with cond := some uptoSmall }

/-- 'compactortop.TopLogsEnd', WHERE WHAT IT READS IS OF BULK AT MOST 1048576: true; the input reads as it did. -/
def topLogsEndUptoRow : OpenClaim := { program := "ytnmidfcefljafaagreat", sum := "c2c00b73183d64c05c9c95ca3a8cdd9d7ddd8e8c8c5db90c6eb157ead10e636e", func := "compactor/compactortop.TopLogsEnd", spec := "topLogsEnd", unfollowed := true, recurses := true, apart := false, narrowed := true }
def TopLogsEndUptoSaid : Prop := topLogsEndUptoRow.holds Tryz.pinned (OpenSpec.upto topLogsEndSpec)

/-- 'compactortop.TopSealedOpened', WHERE WHAT IT READS IS OF BULK AT MOST 1048576: true; the input reads as it did. -/
def topSealedOpenedUptoRow : OpenClaim := { program := "ytnmidfcefljafaagreat", sum := "c2c00b73183d64c05c9c95ca3a8cdd9d7ddd8e8c8c5db90c6eb157ead10e636e", func := "compactor/compactortop.TopSealedOpened", spec := "topSealedOpened", unfollowed := true, recurses := true, apart := false, narrowed := true }
def TopSealedOpenedUptoSaid : Prop := topSealedOpenedUptoRow.holds Tryz.pinned (OpenSpec.upto topSealedOpenedSpec)

/-- 'compactortop.TopSealedTampered', WHERE WHAT IT READS IS OF BULK AT MOST 1048576: true; the input reads as it did. -/
def topSealedTamperedUptoRow : OpenClaim := { program := "ytnmidfcefljafaagreat", sum := "c2c00b73183d64c05c9c95ca3a8cdd9d7ddd8e8c8c5db90c6eb157ead10e636e", func := "compactor/compactortop.TopSealedTampered", spec := "topSealedTampered", unfollowed := true, recurses := true, apart := false, narrowed := true }
def TopSealedTamperedUptoSaid : Prop := topSealedTamperedUptoRow.holds Tryz.pinned (OpenSpec.upto topSealedTamperedSpec)

/-- 'compactortop.TopCommitsSurvive', WHERE WHAT IT READS IS OF BULK AT MOST 1048576: true; the input reads as it did. -/
def topCommitsSurviveUptoRow : OpenClaim := { program := "ytnmidfcefljafaagreat", sum := "c2c00b73183d64c05c9c95ca3a8cdd9d7ddd8e8c8c5db90c6eb157ead10e636e", func := "compactor/compactortop.TopCommitsSurvive", spec := "topCommitsSurvive", unfollowed := true, recurses := true, apart := false, narrowed := true }
def TopCommitsSurviveUptoSaid : Prop := topCommitsSurviveUptoRow.holds Tryz.pinned (OpenSpec.upto topCommitsSurviveSpec)

/-- 'compactortop.TopLogPrefix', WHERE WHAT IT READS IS OF BULK AT MOST 1048576: true; the input reads as it did. -/
def topLogPrefixUptoRow : OpenClaim := { program := "ytnmidfcefljafaagreat", sum := "c2c00b73183d64c05c9c95ca3a8cdd9d7ddd8e8c8c5db90c6eb157ead10e636e", func := "compactor/compactortop.TopLogPrefix", spec := "topLogPrefix", unfollowed := true, recurses := true, apart := false, narrowed := true }
def TopLogPrefixUptoSaid : Prop := topLogPrefixUptoRow.holds Tryz.pinned (OpenSpec.upto topLogPrefixSpec)

/-- 'compactortop.TopLogDurable', WHERE WHAT IT READS IS OF BULK AT MOST 1048576: true; the input reads as it did. -/
def topLogDurableUptoRow : OpenClaim := { program := "ytnmidfcefljafaagreat", sum := "c2c00b73183d64c05c9c95ca3a8cdd9d7ddd8e8c8c5db90c6eb157ead10e636e", func := "compactor/compactortop.TopLogDurable", spec := "topLogDurable", unfollowed := true, recurses := true, apart := false, narrowed := true }
def TopLogDurableUptoSaid : Prop := topLogDurableUptoRow.holds Tryz.pinned (OpenSpec.upto topLogDurableSpec)

end Rows
end Go.Proofs.YtnmidfcefljafaaGreat
