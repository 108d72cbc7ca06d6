/-
  No cell of these rows narrows 'for every input' (looked for: loops, veiled, ifaces, maps, wideKeys, modest, calm, conditions, laid).
  DERIVED. THE GIVEN ROWS OF THIS SEAT. 8 by the template 'for every input the law returns true; each argument reads behind the call as it read before'; 0 by the template 'total and deterministic' (their statements: YtadpmbipdafjiaaTotals.lean).
  GIVEN WITH THE SEED: the statements are not yours to turn. If you find one false, say at which input.
  Laid BY PROGRAM, IN A SANDBOX (cutbox-rows.mjs): the forced cells as the released guide's own fill.sh prints them over the translation 46637bc267c247d5… (all of the seat's roots in one cut). By AI agents, Wed Nov 11 2026. No macro, syntax, notation, axiom, sorry.
-/
import Derived.Test.YtadpmbipdafjiaaChecked
import GoSem.Claim
import GoSem.ClaimJoined
import GoSem.ClaimMapViews
import Derived.JoinedTies
import Derived.KernelRfl
namespace Go.Proofs.Ytadpmbipdafjiaa
/- THE CELL 'sum', in the pinned program and in every row, IS THE sha256 OF THE DUMP (.gsa) THAT YtadpmbipdafjiaaProg.lean LOADS. Nothing in Lean hashes anything: it is a label: what it is worth is what the hold of that sum in a sandbox is worth. -/
noncomputable def Try.pinned : Pinned := { name := "ytadpmbipdafjiaa", sum := "46637bc267c247d5251bce90b8d49e9adc8e2edf1559da47039a36f3a97e7111", checked := Try.checked }
namespace Rows
def none {H : Type} : Left H := { results := [], args := [] }

/-- 'compactorlaw02.WireOrders': WHATEVER THE INPUT: true; the input reads as it did. -/
def wireOrdersSpec : ChangeSpec := { name := "wireOrders", fn := fun _ => fun
  | [d1, d2, d3] => { results := [.lit (.bool true)], args := [d1, d2, d3] }
  | _ => none }
def wireOrdersRow : OpenClaim := { program := "ytadpmbipdafjiaa", sum := "46637bc267c247d5251bce90b8d49e9adc8e2edf1559da47039a36f3a97e7111", func := "compactor/compactorlaw02.WireOrders", spec := "wireOrders", inPlace := ["internal/bytealg.Compare"], unfollowed := true, recurses := true, apart := false }
def WireOrdersSaid : Prop := wireOrdersRow.holds Try.pinned (OpenSpec.ofChange wireOrdersSpec)

/-- ITS FALSE NEIGHBOUR: 'it returns false'. Refute it at one input. -/
def wireOrdersWrong : ChangeSpec := { name := "wireOrders", fn := fun _ => fun
  | [d1, d2, d3] => { results := [.lit (.bool false)], args := [d1, d2, d3] }
  | _ => none }
def WireOrdersWrongFalsely : Prop := wireOrdersRow.holds Try.pinned (OpenSpec.ofChange wireOrdersWrong)

/-- 'compactorlaw02.WirePuts': WHATEVER THE INPUT: true; the input reads as it did. -/
def wirePutsSpec : ChangeSpec := { name := "wirePuts", fn := fun _ => fun
  | [d1, d2] => { results := [.lit (.bool true)], args := [d1, d2] }
  | _ => none }
def wirePutsRow : OpenClaim := { program := "ytadpmbipdafjiaa", sum := "46637bc267c247d5251bce90b8d49e9adc8e2edf1559da47039a36f3a97e7111", func := "compactor/compactorlaw02.WirePuts", spec := "wirePuts", unfollowed := true, recurses := true, apart := false }
def WirePutsSaid : Prop := wirePutsRow.holds Try.pinned (OpenSpec.ofChange wirePutsSpec)

/-- ITS FALSE NEIGHBOUR: 'it returns false'. Refute it at one input. -/
def wirePutsWrong : ChangeSpec := { name := "wirePuts", fn := fun _ => fun
  | [d1, d2] => { results := [.lit (.bool false)], args := [d1, d2] }
  | _ => none }
def WirePutsWrongFalsely : Prop := wirePutsRow.holds Try.pinned (OpenSpec.ofChange wirePutsWrong)

/-- 'compactorlaw02.WireReads': WHATEVER THE INPUT: true; the input reads as it did. -/
def wireReadsSpec : ChangeSpec := { name := "wireReads", fn := fun _ => fun
  | [d] => { results := [.lit (.bool true)], args := [d] }
  | _ => none }
def wireReadsRow : OpenClaim := { program := "ytadpmbipdafjiaa", sum := "46637bc267c247d5251bce90b8d49e9adc8e2edf1559da47039a36f3a97e7111", func := "compactor/compactorlaw02.WireReads", spec := "wireReads", unfollowed := true, recurses := true, apart := false }
def WireReadsSaid : Prop := wireReadsRow.holds Try.pinned (OpenSpec.ofChange wireReadsSpec)

/-- ITS FALSE NEIGHBOUR: 'it returns false'. Refute it at one input. -/
def wireReadsWrong : ChangeSpec := { name := "wireReads", fn := fun _ => fun
  | [d] => { results := [.lit (.bool false)], args := [d] }
  | _ => none }
def WireReadsWrongFalsely : Prop := wireReadsRow.holds Try.pinned (OpenSpec.ofChange wireReadsWrong)

/-- 'compactorlaw02.WireStrings': WHATEVER THE INPUT: true; the input reads as it did. -/
def wireStringsSpec : ChangeSpec := { name := "wireStrings", fn := fun _ => fun
  | [d1, d2, d3] => { results := [.lit (.bool true)], args := [d1, d2, d3] }
  | _ => none }
def wireStringsRow : OpenClaim := { program := "ytadpmbipdafjiaa", sum := "46637bc267c247d5251bce90b8d49e9adc8e2edf1559da47039a36f3a97e7111", func := "compactor/compactorlaw02.WireStrings", spec := "wireStrings", unfollowed := true, recurses := true, apart := false }
def WireStringsSaid : Prop := wireStringsRow.holds Try.pinned (OpenSpec.ofChange wireStringsSpec)

/-- ITS FALSE NEIGHBOUR: 'it returns false'. Refute it at one input. -/
def wireStringsWrong : ChangeSpec := { name := "wireStrings", fn := fun _ => fun
  | [d1, d2, d3] => { results := [.lit (.bool false)], args := [d1, d2, d3] }
  | _ => none }
def WireStringsWrongFalsely : Prop := wireStringsRow.holds Try.pinned (OpenSpec.ofChange wireStringsWrong)

/-- 'compactorlaw02.WireTears': WHATEVER THE INPUT: true; the input reads as it did. -/
def wireTearsSpec : ChangeSpec := { name := "wireTears", fn := fun _ => fun
  | [d1, d2, d3] => { results := [.lit (.bool true)], args := [d1, d2, d3] }
  | _ => none }
def wireTearsRow : OpenClaim := { program := "ytadpmbipdafjiaa", sum := "46637bc267c247d5251bce90b8d49e9adc8e2edf1559da47039a36f3a97e7111", func := "compactor/compactorlaw02.WireTears", spec := "wireTears", unfollowed := true, recurses := true, apart := false }
def WireTearsSaid : Prop := wireTearsRow.holds Try.pinned (OpenSpec.ofChange wireTearsSpec)

/-- ITS FALSE NEIGHBOUR: 'it returns false'. Refute it at one input. -/
def wireTearsWrong : ChangeSpec := { name := "wireTears", fn := fun _ => fun
  | [d1, d2, d3] => { results := [.lit (.bool false)], args := [d1, d2, d3] }
  | _ => none }
def WireTearsWrongFalsely : Prop := wireTearsRow.holds Try.pinned (OpenSpec.ofChange wireTearsWrong)

/-- 'compactorlaw02.WireLists': WHATEVER THE INPUT: true; the input reads as it did. -/
def wireListsSpec : ChangeSpec := { name := "wireLists", fn := fun _ => fun
  | [d1, d2, d3] => { results := [.lit (.bool true)], args := [d1, d2, d3] }
  | _ => none }
def wireListsRow : OpenClaim := { program := "ytadpmbipdafjiaa", sum := "46637bc267c247d5251bce90b8d49e9adc8e2edf1559da47039a36f3a97e7111", func := "compactor/compactorlaw02.WireLists", spec := "wireLists", unfollowed := true, recurses := true, apart := false }
def WireListsSaid : Prop := wireListsRow.holds Try.pinned (OpenSpec.ofChange wireListsSpec)

/-- ITS FALSE NEIGHBOUR: 'it returns false'. Refute it at one input. -/
def wireListsWrong : ChangeSpec := { name := "wireLists", fn := fun _ => fun
  | [d1, d2, d3] => { results := [.lit (.bool false)], args := [d1, d2, d3] }
  | _ => none }
def WireListsWrongFalsely : Prop := wireListsRow.holds Try.pinned (OpenSpec.ofChange wireListsWrong)

/-- 'compactorlaw02.WireCanonical': WHATEVER THE INPUT: true; the input reads as it did. -/
def wireCanonicalSpec : ChangeSpec := { name := "wireCanonical", fn := fun _ => fun
  | [d] => { results := [.lit (.bool true)], args := [d] }
  | _ => none }
def wireCanonicalRow : OpenClaim := { program := "ytadpmbipdafjiaa", sum := "46637bc267c247d5251bce90b8d49e9adc8e2edf1559da47039a36f3a97e7111", func := "compactor/compactorlaw02.WireCanonical", spec := "wireCanonical", unfollowed := true, recurses := true, apart := false }
def WireCanonicalSaid : Prop := wireCanonicalRow.holds Try.pinned (OpenSpec.ofChange wireCanonicalSpec)

/-- ITS FALSE NEIGHBOUR: 'it returns false'. Refute it at one input. -/
def wireCanonicalWrong : ChangeSpec := { name := "wireCanonical", fn := fun _ => fun
  | [d] => { results := [.lit (.bool false)], args := [d] }
  | _ => none }
def WireCanonicalWrongFalsely : Prop := wireCanonicalRow.holds Try.pinned (OpenSpec.ofChange wireCanonicalWrong)

/-- 'compactorlaw02.WireReturns': WHATEVER THE INPUT: true; the input reads as it did. -/
def wireReturnsSpec : ChangeSpec := { name := "wireReturns", fn := fun _ => fun
  | [d1, d2, d3] => { results := [.lit (.bool true)], args := [d1, d2, d3] }
  | _ => none }
def wireReturnsRow : OpenClaim := { program := "ytadpmbipdafjiaa", sum := "46637bc267c247d5251bce90b8d49e9adc8e2edf1559da47039a36f3a97e7111", func := "compactor/compactorlaw02.WireReturns", spec := "wireReturns", unfollowed := true, recurses := true, apart := false }
def WireReturnsSaid : Prop := wireReturnsRow.holds Try.pinned (OpenSpec.ofChange wireReturnsSpec)

/-- ITS FALSE NEIGHBOUR: 'it returns false'. Refute it at one input. -/
def wireReturnsWrong : ChangeSpec := { name := "wireReturns", fn := fun _ => fun
  | [d1, d2, d3] => { results := [.lit (.bool false)], args := [d1, d2, d3] }
  | _ => none }
def WireReturnsWrongFalsely : Prop := wireReturnsRow.holds Try.pinned (OpenSpec.ofChange wireReturnsWrong)

/- THE SECOND FORM. 'bulk': how many values and letters a reading holds, each counted each time it is reached (what is shared counts as often as it is met; a slice's spare places count too). A statement '..UptoSaid' is the law's where the arguments, and the package variables that the reading takes, are together of bulk at most 1048576: NARROWER than '..Said'. Prove '..Said' where nothing that the law and all that it calls make is longer than what came in: it says more and counts as full. Else prove '..UptoSaid'. A law counts once. -/
mutual
def uptoBulk {H : Type} : DataW H → Nat
  | .lit (.string bytes) => bytes.length + 1
  | .lit _ => 1
  | .nil => 1
  | .ptr d => uptoBulk d + 1
  | .slice elems spare => uptoBulkAll elems + uptoBulkAll spare + 1
  | .agg parts => uptoBulkAll parts + 1
  | .iface _ d => uptoBulk d + 1
  | .map entries => uptoBulkEntries entries + 1
  | .held _ => 1
def uptoBulkAll {H : Type} : List (DataW H) → Nat
  | [] => 0
  | d :: r => uptoBulk d + uptoBulkAll r
def uptoBulkEntries {H : Type} : List (Lit × DataW H) → Nat
  | [] => 0
  | x :: r => uptoBulkEntry x + uptoBulkEntries r
def uptoBulkEntry {H : Type} : Lit × DataW H → Nat
  | (.string bytes, d) => bytes.length + uptoBulk d + 1
  | (_, d) => uptoBulk d + 1
 end
def uptoSmall : (H : Type) → List (DataW H) → Bool := fun _ ds => decide (uptoBulkAll ds ≤ 1048576)
def OpenSpec.upto (s : _root_.Go.ChangeSpec) : _root_.Go.OpenSpec := { _root_.Go.OpenSpec.ofChange s with cond := some uptoSmall }

/-- 'compactorlaw02.WireOrders', WHERE WHAT IT READS IS OF BULK AT MOST 1048576: true; the input reads as it did. -/
def wireOrdersUptoRow : OpenClaim := { program := "ytadpmbipdafjiaa", sum := "46637bc267c247d5251bce90b8d49e9adc8e2edf1559da47039a36f3a97e7111", func := "compactor/compactorlaw02.WireOrders", spec := "wireOrders", inPlace := ["internal/bytealg.Compare"], unfollowed := true, recurses := true, apart := false, narrowed := true }
def WireOrdersUptoSaid : Prop := wireOrdersUptoRow.holds Try.pinned (OpenSpec.upto wireOrdersSpec)

/-- 'compactorlaw02.WirePuts', WHERE WHAT IT READS IS OF BULK AT MOST 1048576: true; the input reads as it did. -/
def wirePutsUptoRow : OpenClaim := { program := "ytadpmbipdafjiaa", sum := "46637bc267c247d5251bce90b8d49e9adc8e2edf1559da47039a36f3a97e7111", func := "compactor/compactorlaw02.WirePuts", spec := "wirePuts", unfollowed := true, recurses := true, apart := false, narrowed := true }
def WirePutsUptoSaid : Prop := wirePutsUptoRow.holds Try.pinned (OpenSpec.upto wirePutsSpec)

/-- 'compactorlaw02.WireReads', WHERE WHAT IT READS IS OF BULK AT MOST 1048576: true; the input reads as it did. -/
def wireReadsUptoRow : OpenClaim := { program := "ytadpmbipdafjiaa", sum := "46637bc267c247d5251bce90b8d49e9adc8e2edf1559da47039a36f3a97e7111", func := "compactor/compactorlaw02.WireReads", spec := "wireReads", unfollowed := true, recurses := true, apart := false, narrowed := true }
def WireReadsUptoSaid : Prop := wireReadsUptoRow.holds Try.pinned (OpenSpec.upto wireReadsSpec)

/-- 'compactorlaw02.WireStrings', WHERE WHAT IT READS IS OF BULK AT MOST 1048576: true; the input reads as it did. -/
def wireStringsUptoRow : OpenClaim := { program := "ytadpmbipdafjiaa", sum := "46637bc267c247d5251bce90b8d49e9adc8e2edf1559da47039a36f3a97e7111", func := "compactor/compactorlaw02.WireStrings", spec := "wireStrings", unfollowed := true, recurses := true, apart := false, narrowed := true }
def WireStringsUptoSaid : Prop := wireStringsUptoRow.holds Try.pinned (OpenSpec.upto wireStringsSpec)

/-- 'compactorlaw02.WireTears', WHERE WHAT IT READS IS OF BULK AT MOST 1048576: true; the input reads as it did. -/
def wireTearsUptoRow : OpenClaim := { program := "ytadpmbipdafjiaa", sum := "46637bc267c247d5251bce90b8d49e9adc8e2edf1559da47039a36f3a97e7111", func := "compactor/compactorlaw02.WireTears", spec := "wireTears", unfollowed := true, recurses := true, apart := false, narrowed := true }
def WireTearsUptoSaid : Prop := wireTearsUptoRow.holds Try.pinned (OpenSpec.upto wireTearsSpec)

/-- 'compactorlaw02.WireLists', WHERE WHAT IT READS IS OF BULK AT MOST 1048576: true; the input reads as it did. -/
def wireListsUptoRow : OpenClaim := { program := "ytadpmbipdafjiaa", sum := "46637bc267c247d5251bce90b8d49e9adc8e2edf1559da47039a36f3a97e7111", func := "compactor/compactorlaw02.WireLists", spec := "wireLists", unfollowed := true, recurses := true, apart := false, narrowed := true }
def WireListsUptoSaid : Prop := wireListsUptoRow.holds Try.pinned (OpenSpec.upto wireListsSpec)

/-- 'compactorlaw02.WireCanonical', WHERE WHAT IT READS IS OF BULK AT MOST 1048576: true; the input reads as it did. -/
def wireCanonicalUptoRow : OpenClaim := { program := "ytadpmbipdafjiaa", sum := "46637bc267c247d5251bce90b8d49e9adc8e2edf1559da47039a36f3a97e7111", func := "compactor/compactorlaw02.WireCanonical", spec := "wireCanonical", unfollowed := true, recurses := true, apart := false, narrowed := true }
def WireCanonicalUptoSaid : Prop := wireCanonicalUptoRow.holds Try.pinned (OpenSpec.upto wireCanonicalSpec)

/-- 'compactorlaw02.WireReturns', WHERE WHAT IT READS IS OF BULK AT MOST 1048576: true; the input reads as it did. -/
def wireReturnsUptoRow : OpenClaim := { program := "ytadpmbipdafjiaa", sum := "46637bc267c247d5251bce90b8d49e9adc8e2edf1559da47039a36f3a97e7111", func := "compactor/compactorlaw02.WireReturns", spec := "wireReturns", unfollowed := true, recurses := true, apart := false, narrowed := true }
def WireReturnsUptoSaid : Prop := wireReturnsUptoRow.holds Try.pinned (OpenSpec.upto wireReturnsSpec)

end Rows
end Go.Proofs.Ytadpmbipdafjiaa
