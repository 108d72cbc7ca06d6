/-
  No cell of these rows narrows 'for every input' (looked for: loops, veiled, ifaces, maps, wideKeys, modest, calm, conditions, laid).
  DERIVED. THE GIVEN ROWS OF THIS SEAT. 2 by the template 'for every input the law returns true; each argument reads behind the call as it read before'; 0 by the template 'total and deterministic' (their statements: YtcdajbmgoafnkaaTotals.lean).
  GIVEN WITH THE SEED: the statements are not yours to turn. If you find one false, say at which input.
  Laid BY PROGRAM, IN A SANDBOX (cutbox-rows.mjs): the forced cells as the released guide's own fill.sh prints them over the translation 7fd4d023e4d89264… (all of the seat's roots in one cut). By AI agents, Wed Nov 11 2026. No macro, syntax, notation, axiom, sorry.
-/
import Derived.Test.YtcdajbmgoafnkaaChecked
import GoSem.Claim
import GoSem.ClaimJoined
import GoSem.ClaimMapViews
import Derived.JoinedTies
import Derived.KernelRfl
namespace Go.Proofs.Ytcdajbmgoafnkaa
/- THE CELL 'sum', in the pinned program and in every row, IS THE sha256 OF THE DUMP (.gsa) THAT YtcdajbmgoafnkaaProg.lean LOADS. Nothing in Lean hashes anything: it is a label: what it is worth is what the hold of that sum in a sandbox is worth. -/
noncomputable def Try.pinned : Pinned := { name := "ytcdajbmgoafnkaa", sum := "7fd4d023e4d892647e630aaade482839039bb637607393b5aebe83d6dbf273bc", checked := Try.checked }
namespace Rows
def none {H : Type} : Left H := { results := [], args := [] }

/-- 'compactorlaw50.TransactionEncodes': WHATEVER THE INPUT: true; the input reads as it did. -/
def transactionEncodesSpec : ChangeSpec := { name := "transactionEncodes", fn := fun _ => fun
  | [d1, d2] => { results := [.lit (.bool true)], args := [d1, d2] }
  | _ => none }
def transactionEncodesRow : OpenClaim := { program := "ytcdajbmgoafnkaa", sum := "7fd4d023e4d892647e630aaade482839039bb637607393b5aebe83d6dbf273bc", func := "compactor/compactorlaw50.TransactionEncodes", spec := "transactionEncodes", unfollowed := true, recurses := true, apart := false }
def TransactionEncodesSaid : Prop := transactionEncodesRow.holds Try.pinned (OpenSpec.ofChange transactionEncodesSpec)

/-- ITS FALSE NEIGHBOUR: 'it returns false'. Refute it at one input. -/
def transactionEncodesWrong : ChangeSpec := { name := "transactionEncodes", fn := fun _ => fun
  | [d1, d2] => { results := [.lit (.bool false)], args := [d1, d2] }
  | _ => none }
def TransactionEncodesWrongFalsely : Prop := transactionEncodesRow.holds Try.pinned (OpenSpec.ofChange transactionEncodesWrong)

/-- 'compactorlaw50.TransactionReturns': WHATEVER THE INPUT: true; the input reads as it did. -/
def transactionReturnsSpec : ChangeSpec := { name := "transactionReturns", fn := fun _ => fun
  | [d1, d2] => { results := [.lit (.bool true)], args := [d1, d2] }
  | _ => none }
def transactionReturnsRow : OpenClaim := { program := "ytcdajbmgoafnkaa", sum := "7fd4d023e4d892647e630aaade482839039bb637607393b5aebe83d6dbf273bc", func := "compactor/compactorlaw50.TransactionReturns", spec := "transactionReturns", unfollowed := true, recurses := true, apart := false }
def TransactionReturnsSaid : Prop := transactionReturnsRow.holds Try.pinned (OpenSpec.ofChange transactionReturnsSpec)

/-- ITS FALSE NEIGHBOUR: 'it returns false'. Refute it at one input. -/
def transactionReturnsWrong : ChangeSpec := { name := "transactionReturns", fn := fun _ => fun
  | [d1, d2] => { results := [.lit (.bool false)], args := [d1, d2] }
  | _ => none }
def TransactionReturnsWrongFalsely : Prop := transactionReturnsRow.holds Try.pinned (OpenSpec.ofChange transactionReturnsWrong)

/- THE SECOND FORM. 'bulk': how many values and letters a reading holds, each counted each time it is reached (what is shared counts as often as it is met; a slice's spare places count too). A statement '..UptoSaid' is the law's where the arguments, and the package variables that the reading takes, are together of bulk at most 1048576: NARROWER than '..Said'. Prove '..Said' where nothing that the law and all that it calls make is longer than what came in: it says more and counts as full. Else prove '..UptoSaid'. A law counts once. -/
mutual
def uptoBulk {H : Type} : DataW H → Nat
  | .lit (.string bytes) => bytes.length + 1
  | .lit _ => 1
  | .nil => 1
  | .ptr d => uptoBulk d + 1
  | .slice elems spare => uptoBulkAll elems + uptoBulkAll spare + 1
  | .agg parts => uptoBulkAll parts + 1
  | .iface _ d => uptoBulk d + 1
  | .map entries => uptoBulkEntries entries + 1
  | .held _ => 1
def uptoBulkAll {H : Type} : List (DataW H) → Nat
  | [] => 0
  | d :: r => uptoBulk d + uptoBulkAll r
def uptoBulkEntries {H : Type} : List (Lit × DataW H) → Nat
  | [] => 0
  | x :: r => uptoBulkEntry x + uptoBulkEntries r
def uptoBulkEntry {H : Type} : Lit × DataW H → Nat
  | (.string bytes, d) => bytes.length + uptoBulk d + 1
  | (_, d) => uptoBulk d + 1
 end
def uptoSmall : (H : Type) → List (DataW H) → Bool := fun _ ds => decide (uptoBulkAll ds ≤ 1048576)
def OpenSpec.upto (s : _root_.Go.ChangeSpec) : _root_.Go.OpenSpec := { _root_.Go.OpenSpec.ofChange s with cond := some uptoSmall }

/-- 'compactorlaw50.TransactionEncodes', WHERE WHAT IT READS IS OF BULK AT MOST 1048576: true; the input reads as it did. -/
def transactionEncodesUptoRow : OpenClaim := { program := "ytcdajbmgoafnkaa", sum := "7fd4d023e4d892647e630aaade482839039bb637607393b5aebe83d6dbf273bc", func := "compactor/compactorlaw50.TransactionEncodes", spec := "transactionEncodes", unfollowed := true, recurses := true, apart := false, narrowed := true }
def TransactionEncodesUptoSaid : Prop := transactionEncodesUptoRow.holds Try.pinned (OpenSpec.upto transactionEncodesSpec)

/-- 'compactorlaw50.TransactionReturns', WHERE WHAT IT READS IS OF BULK AT MOST 1048576: true; the input reads as it did. -/
def transactionReturnsUptoRow : OpenClaim := { program := "ytcdajbmgoafnkaa", sum := "7fd4d023e4d892647e630aaade482839039bb637607393b5aebe83d6dbf273bc", func := "compactor/compactorlaw50.TransactionReturns", spec := "transactionReturns", unfollowed := true, recurses := true, apart := false, narrowed := true }
def TransactionReturnsUptoSaid : Prop := transactionReturnsUptoRow.holds Try.pinned (OpenSpec.upto transactionReturnsSpec)

end Rows
end Go.Proofs.Ytcdajbmgoafnkaa
