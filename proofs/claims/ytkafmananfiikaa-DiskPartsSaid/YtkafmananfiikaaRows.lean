/-
  No cell of these rows narrows 'for every input' (looked for: loops, veiled, ifaces, maps, wideKeys, modest, calm, conditions, laid).
  DERIVED. THE GIVEN ROWS OF THIS SEAT. 7 by the template 'for every input the law returns true; each argument reads behind the call as it read before'; 0 by the template 'total and deterministic' (their statements: YtkafmananfiikaaTotals.lean).
  GIVEN WITH THE SEED: the statements are not yours to turn. If you find one false, say at which input.
  Laid BY PROGRAM, IN A SANDBOX (cutbox-rows.mjs): the forced cells as the released guide's own fill.sh prints them over the translation ee3005fcc2f2b2ee… (all of the seat's roots in one cut). By AI agents, Wed Nov 11 2026. No macro, syntax, notation, axiom, sorry.
-/
import Derived.Test.YtkafmananfiikaaChecked
import GoSem.Claim
import GoSem.ClaimJoined
import GoSem.ClaimMapViews
import Derived.JoinedTies
import Derived.KernelRfl
namespace Go.Proofs.Ytkafmananfiikaa
/- THE CELL 'sum', in the pinned program and in every row, IS THE sha256 OF THE DUMP (.gsa) THAT YtkafmananfiikaaProg.lean LOADS. Nothing in Lean hashes anything: it is a label: what it is worth is what the hold of that sum in a sandbox is worth. -/
noncomputable def Try.pinned : Pinned := { name := "ytkafmananfiikaa", sum := "ee3005fcc2f2b2eed8120f6c61c38a7da47d2fcc8a7e3fa1384ce736025f3982", checked := Try.checked }
namespace Rows
def none {H : Type} : Left H := { results := [], args := [] }

/-- 'compactorlaw48.DiskReads': WHATEVER THE INPUT: true; the input reads as it did. -/
def diskReadsSpec : ChangeSpec := { name := "diskReads", fn := fun _ => fun
  | [d1, d2, d3] => { results := [.lit (.bool true)], args := [d1, d2, d3] }
  | _ => none }
def diskReadsRow : OpenClaim := { program := "ytkafmananfiikaa", sum := "ee3005fcc2f2b2eed8120f6c61c38a7da47d2fcc8a7e3fa1384ce736025f3982", func := "compactor/compactorlaw48.DiskReads", spec := "diskReads", unfollowed := true, recurses := true, apart := false }
def DiskReadsSaid : Prop := diskReadsRow.holds Try.pinned (OpenSpec.ofChange diskReadsSpec)

/-- ITS FALSE NEIGHBOUR: 'it returns false'. Refute it at one input. -/
def diskReadsWrong : ChangeSpec := { name := "diskReads", fn := fun _ => fun
  | [d1, d2, d3] => { results := [.lit (.bool false)], args := [d1, d2, d3] }
  | _ => none }
def DiskReadsWrongFalsely : Prop := diskReadsRow.holds Try.pinned (OpenSpec.ofChange diskReadsWrong)

/-- 'compactorlaw48.DiskRuns': WHATEVER THE INPUT: true; the input reads as it did. -/
def diskRunsSpec : ChangeSpec := { name := "diskRuns", fn := fun _ => fun
  | [d1, d2] => { results := [.lit (.bool true)], args := [d1, d2] }
  | _ => none }
def diskRunsRow : OpenClaim := { program := "ytkafmananfiikaa", sum := "ee3005fcc2f2b2eed8120f6c61c38a7da47d2fcc8a7e3fa1384ce736025f3982", func := "compactor/compactorlaw48.DiskRuns", spec := "diskRuns", unfollowed := true, recurses := true, apart := false }
def DiskRunsSaid : Prop := diskRunsRow.holds Try.pinned (OpenSpec.ofChange diskRunsSpec)

/-- ITS FALSE NEIGHBOUR: 'it returns false'. Refute it at one input. -/
def diskRunsWrong : ChangeSpec := { name := "diskRuns", fn := fun _ => fun
  | [d1, d2] => { results := [.lit (.bool false)], args := [d1, d2] }
  | _ => none }
def DiskRunsWrongFalsely : Prop := diskRunsRow.holds Try.pinned (OpenSpec.ofChange diskRunsWrong)

/-- 'compactorlaw48.DiskReturns': WHATEVER THE INPUT: true; the input reads as it did. -/
def diskReturnsSpec : ChangeSpec := { name := "diskReturns", fn := fun _ => fun
  | [d1, d2] => { results := [.lit (.bool true)], args := [d1, d2] }
  | _ => none }
def diskReturnsRow : OpenClaim := { program := "ytkafmananfiikaa", sum := "ee3005fcc2f2b2eed8120f6c61c38a7da47d2fcc8a7e3fa1384ce736025f3982", func := "compactor/compactorlaw48.DiskReturns", spec := "diskReturns", unfollowed := true, recurses := true, apart := false }
def DiskReturnsSaid : Prop := diskReturnsRow.holds Try.pinned (OpenSpec.ofChange diskReturnsSpec)

/-- ITS FALSE NEIGHBOUR: 'it returns false'. Refute it at one input. -/
def diskReturnsWrong : ChangeSpec := { name := "diskReturns", fn := fun _ => fun
  | [d1, d2] => { results := [.lit (.bool false)], args := [d1, d2] }
  | _ => none }
def DiskReturnsWrongFalsely : Prop := diskReturnsRow.holds Try.pinned (OpenSpec.ofChange diskReturnsWrong)

/-- 'compactorlaw48.DiskSurvives': WHATEVER THE INPUT: true; the input reads as it did. -/
def diskSurvivesSpec : ChangeSpec := { name := "diskSurvives", fn := fun _ => fun
  | [d1, d2] => { results := [.lit (.bool true)], args := [d1, d2] }
  | _ => none }
def diskSurvivesRow : OpenClaim := { program := "ytkafmananfiikaa", sum := "ee3005fcc2f2b2eed8120f6c61c38a7da47d2fcc8a7e3fa1384ce736025f3982", func := "compactor/compactorlaw48.DiskSurvives", spec := "diskSurvives", unfollowed := true, recurses := true, apart := false }
def DiskSurvivesSaid : Prop := diskSurvivesRow.holds Try.pinned (OpenSpec.ofChange diskSurvivesSpec)

/-- ITS FALSE NEIGHBOUR: 'it returns false'. Refute it at one input. -/
def diskSurvivesWrong : ChangeSpec := { name := "diskSurvives", fn := fun _ => fun
  | [d1, d2] => { results := [.lit (.bool false)], args := [d1, d2] }
  | _ => none }
def DiskSurvivesWrongFalsely : Prop := diskSurvivesRow.holds Try.pinned (OpenSpec.ofChange diskSurvivesWrong)

/-- 'compactorlaw48.DiskChooses': WHATEVER THE INPUT: true; the input reads as it did. -/
def diskChoosesSpec : ChangeSpec := { name := "diskChooses", fn := fun _ => fun
  | [d1, d2] => { results := [.lit (.bool true)], args := [d1, d2] }
  | _ => none }
def diskChoosesRow : OpenClaim := { program := "ytkafmananfiikaa", sum := "ee3005fcc2f2b2eed8120f6c61c38a7da47d2fcc8a7e3fa1384ce736025f3982", func := "compactor/compactorlaw48.DiskChooses", spec := "diskChooses", unfollowed := true, recurses := true, apart := false }
def DiskChoosesSaid : Prop := diskChoosesRow.holds Try.pinned (OpenSpec.ofChange diskChoosesSpec)

/-- ITS FALSE NEIGHBOUR: 'it returns false'. Refute it at one input. -/
def diskChoosesWrong : ChangeSpec := { name := "diskChooses", fn := fun _ => fun
  | [d1, d2] => { results := [.lit (.bool false)], args := [d1, d2] }
  | _ => none }
def DiskChoosesWrongFalsely : Prop := diskChoosesRow.holds Try.pinned (OpenSpec.ofChange diskChoosesWrong)

/-- 'compactorlaw48.DiskCrashes': WHATEVER THE INPUT: true; the input reads as it did. -/
def diskCrashesSpec : ChangeSpec := { name := "diskCrashes", fn := fun _ => fun
  | [d1, d2, d3] => { results := [.lit (.bool true)], args := [d1, d2, d3] }
  | _ => none }
def diskCrashesRow : OpenClaim := { program := "ytkafmananfiikaa", sum := "ee3005fcc2f2b2eed8120f6c61c38a7da47d2fcc8a7e3fa1384ce736025f3982", func := "compactor/compactorlaw48.DiskCrashes", spec := "diskCrashes", unfollowed := true, recurses := true, apart := false }
def DiskCrashesSaid : Prop := diskCrashesRow.holds Try.pinned (OpenSpec.ofChange diskCrashesSpec)

/-- ITS FALSE NEIGHBOUR: 'it returns false'. Refute it at one input. -/
def diskCrashesWrong : ChangeSpec := { name := "diskCrashes", fn := fun _ => fun
  | [d1, d2, d3] => { results := [.lit (.bool false)], args := [d1, d2, d3] }
  | _ => none }
def DiskCrashesWrongFalsely : Prop := diskCrashesRow.holds Try.pinned (OpenSpec.ofChange diskCrashesWrong)

/-- 'compactorlaw48.DiskParts': WHATEVER THE INPUT: true; the input reads as it did. -/
def diskPartsSpec : ChangeSpec := { name := "diskParts", fn := fun _ => fun
  | [d1, d2, d3] => { results := [.lit (.bool true)], args := [d1, d2, d3] }
  | _ => none }
def diskPartsRow : OpenClaim := { program := "ytkafmananfiikaa", sum := "ee3005fcc2f2b2eed8120f6c61c38a7da47d2fcc8a7e3fa1384ce736025f3982", func := "compactor/compactorlaw48.DiskParts", spec := "diskParts", unfollowed := true, recurses := true, apart := false }
def DiskPartsSaid : Prop := diskPartsRow.holds Try.pinned (OpenSpec.ofChange diskPartsSpec)

/-- ITS FALSE NEIGHBOUR: 'it returns false'. Refute it at one input. -/
def diskPartsWrong : ChangeSpec := { name := "diskParts", fn := fun _ => fun
  | [d1, d2, d3] => { results := [.lit (.bool false)], args := [d1, d2, d3] }
  | _ => none }
def DiskPartsWrongFalsely : Prop := diskPartsRow.holds Try.pinned (OpenSpec.ofChange diskPartsWrong)

/- THE SECOND FORM. 'bulk': how many values and letters a reading holds, each counted each time it is reached (what is shared counts as often as it is met; a slice's spare places count too). A statement '..UptoSaid' is the law's where the arguments, and the package variables that the reading takes, are together of bulk at most 1048576: NARROWER than '..Said'. Prove '..Said' where nothing that the law and all that it calls make is longer than what came in: it says more and counts as full. Else prove '..UptoSaid'. A law counts once. -/
mutual
def uptoBulk {H : Type} : DataW H → Nat
  | .lit (.string bytes) => bytes.length + 1
  | .lit _ => 1
  | .nil => 1
  | .ptr d => uptoBulk d + 1
  | .slice elems spare => uptoBulkAll elems + uptoBulkAll spare + 1
  | .agg parts => uptoBulkAll parts + 1
  | .iface _ d => uptoBulk d + 1
  | .map entries => uptoBulkEntries entries + 1
  | .held _ => 1
def uptoBulkAll {H : Type} : List (DataW H) → Nat
  | [] => 0
  | d :: r => uptoBulk d + uptoBulkAll r
def uptoBulkEntries {H : Type} : List (Lit × DataW H) → Nat
  | [] => 0
  | x :: r => uptoBulkEntry x + uptoBulkEntries r
def uptoBulkEntry {H : Type} : Lit × DataW H → Nat
  | (.string bytes, d) => bytes.length + uptoBulk d + 1
  | (_, d) => uptoBulk d + 1
 end
def uptoSmall : (H : Type) → List (DataW H) → Bool := fun _ ds => decide (uptoBulkAll ds ≤ 1048576)
def OpenSpec.upto (s : _root_.Go.ChangeSpec) : _root_.Go.OpenSpec := { _root_.Go.OpenSpec.ofChange s with cond := some uptoSmall }

/-- 'compactorlaw48.DiskReads', WHERE WHAT IT READS IS OF BULK AT MOST 1048576: true; the input reads as it did. -/
def diskReadsUptoRow : OpenClaim := { program := "ytkafmananfiikaa", sum := "ee3005fcc2f2b2eed8120f6c61c38a7da47d2fcc8a7e3fa1384ce736025f3982", func := "compactor/compactorlaw48.DiskReads", spec := "diskReads", unfollowed := true, recurses := true, apart := false, narrowed := true }
def DiskReadsUptoSaid : Prop := diskReadsUptoRow.holds Try.pinned (OpenSpec.upto diskReadsSpec)

/-- 'compactorlaw48.DiskRuns', WHERE WHAT IT READS IS OF BULK AT MOST 1048576: true; the input reads as it did. -/
def diskRunsUptoRow : OpenClaim := { program := "ytkafmananfiikaa", sum := "ee3005fcc2f2b2eed8120f6c61c38a7da47d2fcc8a7e3fa1384ce736025f3982", func := "compactor/compactorlaw48.DiskRuns", spec := "diskRuns", unfollowed := true, recurses := true, apart := false, narrowed := true }
def DiskRunsUptoSaid : Prop := diskRunsUptoRow.holds Try.pinned (OpenSpec.upto diskRunsSpec)

/-- 'compactorlaw48.DiskReturns', WHERE WHAT IT READS IS OF BULK AT MOST 1048576: true; the input reads as it did. -/
def diskReturnsUptoRow : OpenClaim := { program := "ytkafmananfiikaa", sum := "ee3005fcc2f2b2eed8120f6c61c38a7da47d2fcc8a7e3fa1384ce736025f3982", func := "compactor/compactorlaw48.DiskReturns", spec := "diskReturns", unfollowed := true, recurses := true, apart := false, narrowed := true }
def DiskReturnsUptoSaid : Prop := diskReturnsUptoRow.holds Try.pinned (OpenSpec.upto diskReturnsSpec)

/-- 'compactorlaw48.DiskSurvives', WHERE WHAT IT READS IS OF BULK AT MOST 1048576: true; the input reads as it did. -/
def diskSurvivesUptoRow : OpenClaim := { program := "ytkafmananfiikaa", sum := "ee3005fcc2f2b2eed8120f6c61c38a7da47d2fcc8a7e3fa1384ce736025f3982", func := "compactor/compactorlaw48.DiskSurvives", spec := "diskSurvives", unfollowed := true, recurses := true, apart := false, narrowed := true }
def DiskSurvivesUptoSaid : Prop := diskSurvivesUptoRow.holds Try.pinned (OpenSpec.upto diskSurvivesSpec)

/-- 'compactorlaw48.DiskChooses', WHERE WHAT IT READS IS OF BULK AT MOST 1048576: true; the input reads as it did. -/
def diskChoosesUptoRow : OpenClaim := { program := "ytkafmananfiikaa", sum := "ee3005fcc2f2b2eed8120f6c61c38a7da47d2fcc8a7e3fa1384ce736025f3982", func := "compactor/compactorlaw48.DiskChooses", spec := "diskChooses", unfollowed := true, recurses := true, apart := false, narrowed := true }
def DiskChoosesUptoSaid : Prop := diskChoosesUptoRow.holds Try.pinned (OpenSpec.upto diskChoosesSpec)

/-- 'compactorlaw48.DiskCrashes', WHERE WHAT IT READS IS OF BULK AT MOST 1048576: true; the input reads as it did. -/
def diskCrashesUptoRow : OpenClaim := { program := "ytkafmananfiikaa", sum := "ee3005fcc2f2b2eed8120f6c61c38a7da47d2fcc8a7e3fa1384ce736025f3982", func := "compactor/compactorlaw48.DiskCrashes", spec := "diskCrashes", unfollowed := true, recurses := true, apart := false, narrowed := true }
def DiskCrashesUptoSaid : Prop := diskCrashesUptoRow.holds Try.pinned (OpenSpec.upto diskCrashesSpec)

/-- 'compactorlaw48.DiskParts', WHERE WHAT IT READS IS OF BULK AT MOST 1048576: true; the input reads as it did. -/
def diskPartsUptoRow : OpenClaim := { program := "ytkafmananfiikaa", sum := "ee3005fcc2f2b2eed8120f6c61c38a7da47d2fcc8a7e3fa1384ce736025f3982", func := "compactor/compactorlaw48.DiskParts", spec := "diskParts", unfollowed := true, recurses := true, apart := false, narrowed := true }
def DiskPartsUptoSaid : Prop := diskPartsUptoRow.holds Try.pinned (OpenSpec.upto diskPartsSpec)

end Rows
end Go.Proofs.Ytkafmananfiikaa
