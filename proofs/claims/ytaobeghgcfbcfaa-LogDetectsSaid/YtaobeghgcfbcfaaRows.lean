/-
  No cell of these rows narrows 'for every input' (looked for: loops, veiled, ifaces, maps, wideKeys, modest, calm, conditions, laid).
  DERIVED. THE GIVEN ROWS OF THIS SEAT. 7 by the template 'for every input the law returns true; each argument reads behind the call as it read before'; 0 by the template 'total and deterministic' (their statements: YtaobeghgcfbcfaaTotals.lean).
  GIVEN WITH THE SEED: the statements are not yours to turn. If you find one false, say at which input.
  Laid BY PROGRAM, IN A SANDBOX (cutbox-rows.mjs): the forced cells as the released guide's own fill.sh prints them over the translation 89a44b11287b6fdb… (all of the seat's roots in one cut). By AI agents, Wed Nov 11 2026. No macro, syntax, notation, axiom, sorry.
-/
import Derived.Test.YtaobeghgcfbcfaaChecked
import GoSem.Claim
import GoSem.ClaimJoined
import GoSem.ClaimMapViews
import Derived.JoinedTies
import Derived.KernelRfl
namespace Go.Proofs.Ytaobeghgcfbcfaa
/- THE CELL 'sum', in the pinned program and in every row, IS THE sha256 OF THE DUMP (.gsa) THAT YtaobeghgcfbcfaaProg.lean LOADS. Nothing in Lean hashes anything: it is a label: what it is worth is what the hold of that sum in a sandbox is worth. -/
noncomputable def Try.pinned : Pinned := { name := "ytaobeghgcfbcfaa", sum := "89a44b11287b6fdbd6293122188901849bac54ef302bea060f9fc2da9f7c39ac", checked := Try.checked }
namespace Rows
def none {H : Type} : Left H := { results := [], args := [] }

/-- 'compactorlaw49.LogFormats': WHATEVER THE INPUT: true; the input reads as it did. -/
def logFormatsSpec : ChangeSpec := { name := "logFormats", fn := fun _ => fun
  | [d1, d2] => { results := [.lit (.bool true)], args := [d1, d2] }
  | _ => none }
def logFormatsRow : OpenClaim := { program := "ytaobeghgcfbcfaa", sum := "89a44b11287b6fdbd6293122188901849bac54ef302bea060f9fc2da9f7c39ac", func := "compactor/compactorlaw49.LogFormats", spec := "logFormats", unfollowed := true, recurses := true, apart := false }
def LogFormatsSaid : Prop := logFormatsRow.holds Try.pinned (OpenSpec.ofChange logFormatsSpec)

/-- ITS FALSE NEIGHBOUR: 'it returns false'. Refute it at one input. -/
def logFormatsWrong : ChangeSpec := { name := "logFormats", fn := fun _ => fun
  | [d1, d2] => { results := [.lit (.bool false)], args := [d1, d2] }
  | _ => none }
def LogFormatsWrongFalsely : Prop := logFormatsRow.holds Try.pinned (OpenSpec.ofChange logFormatsWrong)

/-- 'compactorlaw49.LogAppends': WHATEVER THE INPUT: true; the input reads as it did. -/
def logAppendsSpec : ChangeSpec := { name := "logAppends", fn := fun _ => fun
  | [d1, d2] => { results := [.lit (.bool true)], args := [d1, d2] }
  | _ => none }
def logAppendsRow : OpenClaim := { program := "ytaobeghgcfbcfaa", sum := "89a44b11287b6fdbd6293122188901849bac54ef302bea060f9fc2da9f7c39ac", func := "compactor/compactorlaw49.LogAppends", spec := "logAppends", unfollowed := true, recurses := true, apart := false }
def LogAppendsSaid : Prop := logAppendsRow.holds Try.pinned (OpenSpec.ofChange logAppendsSpec)

/-- ITS FALSE NEIGHBOUR: 'it returns false'. Refute it at one input. -/
def logAppendsWrong : ChangeSpec := { name := "logAppends", fn := fun _ => fun
  | [d1, d2] => { results := [.lit (.bool false)], args := [d1, d2] }
  | _ => none }
def LogAppendsWrongFalsely : Prop := logAppendsRow.holds Try.pinned (OpenSpec.ofChange logAppendsWrong)

/-- 'compactorlaw49.LogScans': WHATEVER THE INPUT: true; the input reads as it did. -/
def logScansSpec : ChangeSpec := { name := "logScans", fn := fun _ => fun
  | [d1, d2] => { results := [.lit (.bool true)], args := [d1, d2] }
  | _ => none }
def logScansRow : OpenClaim := { program := "ytaobeghgcfbcfaa", sum := "89a44b11287b6fdbd6293122188901849bac54ef302bea060f9fc2da9f7c39ac", func := "compactor/compactorlaw49.LogScans", spec := "logScans", unfollowed := true, recurses := true, apart := false }
def LogScansSaid : Prop := logScansRow.holds Try.pinned (OpenSpec.ofChange logScansSpec)

/-- ITS FALSE NEIGHBOUR: 'it returns false'. Refute it at one input. -/
def logScansWrong : ChangeSpec := { name := "logScans", fn := fun _ => fun
  | [d1, d2] => { results := [.lit (.bool false)], args := [d1, d2] }
  | _ => none }
def LogScansWrongFalsely : Prop := logScansRow.holds Try.pinned (OpenSpec.ofChange logScansWrong)

/-- 'compactorlaw49.LogOpens': WHATEVER THE INPUT: true; the input reads as it did. -/
def logOpensSpec : ChangeSpec := { name := "logOpens", fn := fun _ => fun
  | [d] => { results := [.lit (.bool true)], args := [d] }
  | _ => none }
def logOpensRow : OpenClaim := { program := "ytaobeghgcfbcfaa", sum := "89a44b11287b6fdbd6293122188901849bac54ef302bea060f9fc2da9f7c39ac", func := "compactor/compactorlaw49.LogOpens", spec := "logOpens", unfollowed := true, recurses := true, apart := false }
def LogOpensSaid : Prop := logOpensRow.holds Try.pinned (OpenSpec.ofChange logOpensSpec)

/-- ITS FALSE NEIGHBOUR: 'it returns false'. Refute it at one input. -/
def logOpensWrong : ChangeSpec := { name := "logOpens", fn := fun _ => fun
  | [d] => { results := [.lit (.bool false)], args := [d] }
  | _ => none }
def LogOpensWrongFalsely : Prop := logOpensRow.holds Try.pinned (OpenSpec.ofChange logOpensWrong)

/-- 'compactorlaw49.LogReturns': WHATEVER THE INPUT: true; the input reads as it did. -/
def logReturnsSpec : ChangeSpec := { name := "logReturns", fn := fun _ => fun
  | [d1, d2] => { results := [.lit (.bool true)], args := [d1, d2] }
  | _ => none }
def logReturnsRow : OpenClaim := { program := "ytaobeghgcfbcfaa", sum := "89a44b11287b6fdbd6293122188901849bac54ef302bea060f9fc2da9f7c39ac", func := "compactor/compactorlaw49.LogReturns", spec := "logReturns", unfollowed := true, recurses := true, apart := false }
def LogReturnsSaid : Prop := logReturnsRow.holds Try.pinned (OpenSpec.ofChange logReturnsSpec)

/-- ITS FALSE NEIGHBOUR: 'it returns false'. Refute it at one input. -/
def logReturnsWrong : ChangeSpec := { name := "logReturns", fn := fun _ => fun
  | [d1, d2] => { results := [.lit (.bool false)], args := [d1, d2] }
  | _ => none }
def LogReturnsWrongFalsely : Prop := logReturnsRow.holds Try.pinned (OpenSpec.ofChange logReturnsWrong)

/-- 'compactorlaw49.LogCrashes': WHATEVER THE INPUT: true; the input reads as it did. -/
def logCrashesSpec : ChangeSpec := { name := "logCrashes", fn := fun _ => fun
  | [d1, d2, d3] => { results := [.lit (.bool true)], args := [d1, d2, d3] }
  | _ => none }
def logCrashesRow : OpenClaim := { program := "ytaobeghgcfbcfaa", sum := "89a44b11287b6fdbd6293122188901849bac54ef302bea060f9fc2da9f7c39ac", func := "compactor/compactorlaw49.LogCrashes", spec := "logCrashes", unfollowed := true, recurses := true, apart := false }
def LogCrashesSaid : Prop := logCrashesRow.holds Try.pinned (OpenSpec.ofChange logCrashesSpec)

/-- ITS FALSE NEIGHBOUR: 'it returns false'. Refute it at one input. -/
def logCrashesWrong : ChangeSpec := { name := "logCrashes", fn := fun _ => fun
  | [d1, d2, d3] => { results := [.lit (.bool false)], args := [d1, d2, d3] }
  | _ => none }
def LogCrashesWrongFalsely : Prop := logCrashesRow.holds Try.pinned (OpenSpec.ofChange logCrashesWrong)

/-- 'compactorlaw49.LogDetects': WHATEVER THE INPUT: true; the input reads as it did. -/
def logDetectsSpec : ChangeSpec := { name := "logDetects", fn := fun _ => fun
  | [d1, d2] => { results := [.lit (.bool true)], args := [d1, d2] }
  | _ => none }
def logDetectsRow : OpenClaim := { program := "ytaobeghgcfbcfaa", sum := "89a44b11287b6fdbd6293122188901849bac54ef302bea060f9fc2da9f7c39ac", func := "compactor/compactorlaw49.LogDetects", spec := "logDetects", unfollowed := true, recurses := true, apart := false }
def LogDetectsSaid : Prop := logDetectsRow.holds Try.pinned (OpenSpec.ofChange logDetectsSpec)

/-- ITS FALSE NEIGHBOUR: 'it returns false'. Refute it at one input. -/
def logDetectsWrong : ChangeSpec := { name := "logDetects", fn := fun _ => fun
  | [d1, d2] => { results := [.lit (.bool false)], args := [d1, d2] }
  | _ => none }
def LogDetectsWrongFalsely : Prop := logDetectsRow.holds Try.pinned (OpenSpec.ofChange logDetectsWrong)

/- THE SECOND FORM. 'bulk': how many values and letters a reading holds, each counted each time it is reached (what is shared counts as often as it is met; a slice's spare places count too). A statement '..UptoSaid' is the law's where the arguments, and the package variables that the reading takes, are together of bulk at most 1048576: NARROWER than '..Said'. Prove '..Said' where nothing that the law and all that it calls make is longer than what came in: it says more and counts as full. Else prove '..UptoSaid'. A law counts once. -/
mutual
def uptoBulk {H : Type} : DataW H → Nat
  | .lit (.string bytes) => bytes.length + 1
  | .lit _ => 1
  | .nil => 1
  | .ptr d => uptoBulk d + 1
  | .slice elems spare => uptoBulkAll elems + uptoBulkAll spare + 1
  | .agg parts => uptoBulkAll parts + 1
  | .iface _ d => uptoBulk d + 1
  | .map entries => uptoBulkEntries entries + 1
  | .held _ => 1
def uptoBulkAll {H : Type} : List (DataW H) → Nat
  | [] => 0
  | d :: r => uptoBulk d + uptoBulkAll r
def uptoBulkEntries {H : Type} : List (Lit × DataW H) → Nat
  | [] => 0
  | x :: r => uptoBulkEntry x + uptoBulkEntries r
def uptoBulkEntry {H : Type} : Lit × DataW H → Nat
  | (.string bytes, d) => bytes.length + uptoBulk d + 1
  | (_, d) => uptoBulk d + 1
 end
def uptoSmall : (H : Type) → List (DataW H) → Bool := fun _ ds => decide (uptoBulkAll ds ≤ 1048576)
def OpenSpec.upto (s : _root_.Go.ChangeSpec) : _root_.Go.OpenSpec := { _root_.Go.OpenSpec.ofChange s with cond := some uptoSmall }

/-- 'compactorlaw49.LogFormats', WHERE WHAT IT READS IS OF BULK AT MOST 1048576: true; the input reads as it did. -/
def logFormatsUptoRow : OpenClaim := { program := "ytaobeghgcfbcfaa", sum := "89a44b11287b6fdbd6293122188901849bac54ef302bea060f9fc2da9f7c39ac", func := "compactor/compactorlaw49.LogFormats", spec := "logFormats", unfollowed := true, recurses := true, apart := false, narrowed := true }
def LogFormatsUptoSaid : Prop := logFormatsUptoRow.holds Try.pinned (OpenSpec.upto logFormatsSpec)

/-- 'compactorlaw49.LogAppends', WHERE WHAT IT READS IS OF BULK AT MOST 1048576: true; the input reads as it did. -/
def logAppendsUptoRow : OpenClaim := { program := "ytaobeghgcfbcfaa", sum := "89a44b11287b6fdbd6293122188901849bac54ef302bea060f9fc2da9f7c39ac", func := "compactor/compactorlaw49.LogAppends", spec := "logAppends", unfollowed := true, recurses := true, apart := false, narrowed := true }
def LogAppendsUptoSaid : Prop := logAppendsUptoRow.holds Try.pinned (OpenSpec.upto logAppendsSpec)

/-- 'compactorlaw49.LogScans', WHERE WHAT IT READS IS OF BULK AT MOST 1048576: true; the input reads as it did. -/
def logScansUptoRow : OpenClaim := { program := "ytaobeghgcfbcfaa", sum := "89a44b11287b6fdbd6293122188901849bac54ef302bea060f9fc2da9f7c39ac", func := "compactor/compactorlaw49.LogScans", spec := "logScans", unfollowed := true, recurses := true, apart := false, narrowed := true }
def LogScansUptoSaid : Prop := logScansUptoRow.holds Try.pinned (OpenSpec.upto logScansSpec)

/-- 'compactorlaw49.LogOpens', WHERE WHAT IT READS IS OF BULK AT MOST 1048576: true; the input reads as it did. -/
def logOpensUptoRow : OpenClaim := { program := "ytaobeghgcfbcfaa", sum := "89a44b11287b6fdbd6293122188901849bac54ef302bea060f9fc2da9f7c39ac", func := "compactor/compactorlaw49.LogOpens", spec := "logOpens", unfollowed := true, recurses := true, apart := false, narrowed := true }
def LogOpensUptoSaid : Prop := logOpensUptoRow.holds Try.pinned (OpenSpec.upto logOpensSpec)

/-- 'compactorlaw49.LogReturns', WHERE WHAT IT READS IS OF BULK AT MOST 1048576: true; the input reads as it did. -/
def logReturnsUptoRow : OpenClaim := { program := "ytaobeghgcfbcfaa", sum := "89a44b11287b6fdbd6293122188901849bac54ef302bea060f9fc2da9f7c39ac", func := "compactor/compactorlaw49.LogReturns", spec := "logReturns", unfollowed := true, recurses := true, apart := false, narrowed := true }
def LogReturnsUptoSaid : Prop := logReturnsUptoRow.holds Try.pinned (OpenSpec.upto logReturnsSpec)

/-- 'compactorlaw49.LogCrashes', WHERE WHAT IT READS IS OF BULK AT MOST 1048576: true; the input reads as it did. -/
def logCrashesUptoRow : OpenClaim := { program := "ytaobeghgcfbcfaa", sum := "89a44b11287b6fdbd6293122188901849bac54ef302bea060f9fc2da9f7c39ac", func := "compactor/compactorlaw49.LogCrashes", spec := "logCrashes", unfollowed := true, recurses := true, apart := false, narrowed := true }
def LogCrashesUptoSaid : Prop := logCrashesUptoRow.holds Try.pinned (OpenSpec.upto logCrashesSpec)

/-- 'compactorlaw49.LogDetects', WHERE WHAT IT READS IS OF BULK AT MOST 1048576: true; the input reads as it did. -/
def logDetectsUptoRow : OpenClaim := { program := "ytaobeghgcfbcfaa", sum := "89a44b11287b6fdbd6293122188901849bac54ef302bea060f9fc2da9f7c39ac", func := "compactor/compactorlaw49.LogDetects", spec := "logDetects", unfollowed := true, recurses := true, apart := false, narrowed := true }
def LogDetectsUptoSaid : Prop := logDetectsUptoRow.holds Try.pinned (OpenSpec.upto logDetectsSpec)

end Rows
end Go.Proofs.Ytaobeghgcfbcfaa
