/-
  No cell of these rows narrows 'for every input' (looked for: loops, veiled, ifaces, maps, wideKeys, modest, calm, conditions, laid).
  DERIVED. THE GIVEN ROWS OF THIS SEAT. 5 by the template 'for every input the law returns true; each argument reads behind the call as it read before'; 0 by the template 'total and deterministic' (their statements: YtcdajbmgoafnkaaGreatTotals.lean).
  GIVEN WITH THE SEED: the statements are not yours to turn. If you find one false, say at which input.
  Laid BY PROGRAM, IN A SANDBOX (cutbox-rows.mjs): the forced cells as the released guide's own fill.sh prints them over the translation 20ecadeacdf49ba1… (all of the seat's roots in one cut). By AI agents, Wed Nov 11 2026. No macro, syntax, notation, axiom, sorry.
-/
import Derived.Test.YtcdajbmgoafnkaaGreatChecked
import GoSem.Claim
import GoSem.ClaimJoined
import GoSem.ClaimMapViews
import Derived.JoinedTies
import Derived.KernelRfl
namespace Go.Proofs.YtcdajbmgoafnkaaGreat
/- THE CELL 'sum', in the pinned program and in every row, IS THE sha256 OF THE DUMP (.gsa) THAT YtcdajbmgoafnkaaGreatProg.lean LOADS. Nothing in Lean hashes anything: it is a label: what it is worth is what the hold of that sum in a sandbox is worth. -/
noncomputable def Tryz.pinned : Pinned := { name := "ytcdajbmgoafnkaagreat", sum := "20ecadeacdf49ba1a9f20e284547a9aa4a5aba1c795fc3c59fdcc8f623b3eea7", checked := Tryz.checked }
namespace Rows
def none {H : Type} : Left H := { results := [], args := [] }

/-- 'compactorlaw50.TransactionCommits': WHATEVER THE INPUT: true; the input reads as it did. -/
def transactionCommitsSpec : ChangeSpec := { name := "transactionCommits", fn := fun _ => fun
  | [d1, d2, d3] => { results := [.lit (.bool true)], args := [d1, d2, d3] }
  | _ => none }
def transactionCommitsRow : OpenClaim := { program := "ytcdajbmgoafnkaagreat", sum := "20ecadeacdf49ba1a9f20e284547a9aa4a5aba1c795fc3c59fdcc8f623b3eea7", func := "compactor/compactorlaw50.TransactionCommits", spec := "transactionCommits", unfollowed := true, recurses := true, apart := false }
def TransactionCommitsSaid : Prop := transactionCommitsRow.holds Tryz.pinned (OpenSpec.ofChange transactionCommitsSpec)

/-- ITS FALSE NEIGHBOUR: 'it returns false'. Refute it at one input. -/
def transactionCommitsWrong : ChangeSpec := { name := "transactionCommits", fn := fun _ => fun
  | [d1, d2, d3] => { results := [.lit (.bool false)], args := [d1, d2, d3] }
  | _ => none }
def TransactionCommitsWrongFalsely : Prop := transactionCommitsRow.holds Tryz.pinned (OpenSpec.ofChange transactionCommitsWrong)

/-- 'compactorlaw50.TransactionReplays': WHATEVER THE INPUT: true; the input reads as it did. -/
def transactionReplaysSpec : ChangeSpec := { name := "transactionReplays", fn := fun _ => fun
  | [d1, d2] => { results := [.lit (.bool true)], args := [d1, d2] }
  | _ => none }
def transactionReplaysRow : OpenClaim := { program := "ytcdajbmgoafnkaagreat", sum := "20ecadeacdf49ba1a9f20e284547a9aa4a5aba1c795fc3c59fdcc8f623b3eea7", func := "compactor/compactorlaw50.TransactionReplays", spec := "transactionReplays", unfollowed := true, recurses := true, apart := false }
def TransactionReplaysSaid : Prop := transactionReplaysRow.holds Tryz.pinned (OpenSpec.ofChange transactionReplaysSpec)

/-- ITS FALSE NEIGHBOUR: 'it returns false'. Refute it at one input. -/
def transactionReplaysWrong : ChangeSpec := { name := "transactionReplays", fn := fun _ => fun
  | [d1, d2] => { results := [.lit (.bool false)], args := [d1, d2] }
  | _ => none }
def TransactionReplaysWrongFalsely : Prop := transactionReplaysRow.holds Tryz.pinned (OpenSpec.ofChange transactionReplaysWrong)

/-- 'compactorlaw50.TransactionReads': WHATEVER THE INPUT: true; the input reads as it did. -/
def transactionReadsSpec : ChangeSpec := { name := "transactionReads", fn := fun _ => fun
  | [d1, d2] => { results := [.lit (.bool true)], args := [d1, d2] }
  | _ => none }
def transactionReadsRow : OpenClaim := { program := "ytcdajbmgoafnkaagreat", sum := "20ecadeacdf49ba1a9f20e284547a9aa4a5aba1c795fc3c59fdcc8f623b3eea7", func := "compactor/compactorlaw50.TransactionReads", spec := "transactionReads", unfollowed := true, recurses := true, apart := false }
def TransactionReadsSaid : Prop := transactionReadsRow.holds Tryz.pinned (OpenSpec.ofChange transactionReadsSpec)

/-- ITS FALSE NEIGHBOUR: 'it returns false'. Refute it at one input. -/
def transactionReadsWrong : ChangeSpec := { name := "transactionReads", fn := fun _ => fun
  | [d1, d2] => { results := [.lit (.bool false)], args := [d1, d2] }
  | _ => none }
def TransactionReadsWrongFalsely : Prop := transactionReadsRow.holds Tryz.pinned (OpenSpec.ofChange transactionReadsWrong)

/-- 'compactorlaw50.TransactionRefuses': WHATEVER THE INPUT: true; the input reads as it did. -/
def transactionRefusesSpec : ChangeSpec := { name := "transactionRefuses", fn := fun _ => fun
  | [d1, d2, d3] => { results := [.lit (.bool true)], args := [d1, d2, d3] }
  | _ => none }
def transactionRefusesRow : OpenClaim := { program := "ytcdajbmgoafnkaagreat", sum := "20ecadeacdf49ba1a9f20e284547a9aa4a5aba1c795fc3c59fdcc8f623b3eea7", func := "compactor/compactorlaw50.TransactionRefuses", spec := "transactionRefuses", unfollowed := true, recurses := true, apart := false }
def TransactionRefusesSaid : Prop := transactionRefusesRow.holds Tryz.pinned (OpenSpec.ofChange transactionRefusesSpec)

/-- ITS FALSE NEIGHBOUR: 'it returns false'. Refute it at one input. -/
def transactionRefusesWrong : ChangeSpec := { name := "transactionRefuses", fn := fun _ => fun
  | [d1, d2, d3] => { results := [.lit (.bool false)], args := [d1, d2, d3] }
  | _ => none }
def TransactionRefusesWrongFalsely : Prop := transactionRefusesRow.holds Tryz.pinned (OpenSpec.ofChange transactionRefusesWrong)

/-- 'compactorlaw50.TransactionSurvives': WHATEVER THE INPUT: true; the input reads as it did. -/
def transactionSurvivesSpec : ChangeSpec := { name := "transactionSurvives", fn := fun _ => fun
  | [d1, d2, d3] => { results := [.lit (.bool true)], args := [d1, d2, d3] }
  | _ => none }
def transactionSurvivesRow : OpenClaim := { program := "ytcdajbmgoafnkaagreat", sum := "20ecadeacdf49ba1a9f20e284547a9aa4a5aba1c795fc3c59fdcc8f623b3eea7", func := "compactor/compactorlaw50.TransactionSurvives", spec := "transactionSurvives", unfollowed := true, recurses := true, apart := false }
def TransactionSurvivesSaid : Prop := transactionSurvivesRow.holds Tryz.pinned (OpenSpec.ofChange transactionSurvivesSpec)

/-- ITS FALSE NEIGHBOUR: 'it returns false'. Refute it at one input. -/
def transactionSurvivesWrong : ChangeSpec := { name := "transactionSurvives", fn := fun _ => fun
  | [d1, d2, d3] => { results := [.lit (.bool false)], args := [d1, d2, d3] }
  | _ => none }
def TransactionSurvivesWrongFalsely : Prop := transactionSurvivesRow.holds Tryz.pinned (OpenSpec.ofChange transactionSurvivesWrong)

/- THE SECOND FORM. 'bulk': how many values and letters a reading holds, each counted each time it is reached (what is shared counts as often as it is met; a slice's spare places count too). A statement '..UptoSaid' is the law's where the arguments, and the package variables that the reading takes, are together of bulk at most 1048576: NARROWER than '..Said'. Prove '..Said' where nothing that the law and all that it calls make is longer than what came in: it says more and counts as full. Else prove '..UptoSaid'. A law counts once. -/
mutual
def uptoBulk {H : Type} : DataW H → Nat
  | .lit (.string bytes) => bytes.length + 1
  | .lit _ => 1
  | .nil => 1
  | .ptr d => uptoBulk d + 1
  | .slice elems spare => uptoBulkAll elems + uptoBulkAll spare + 1
  | .agg parts => uptoBulkAll parts + 1
  | .iface _ d => uptoBulk d + 1
  | .map entries => uptoBulkEntries entries + 1
  | .held _ => 1
def uptoBulkAll {H : Type} : List (DataW H) → Nat
  | [] => 0
  | d :: r => uptoBulk d + uptoBulkAll r
def uptoBulkEntries {H : Type} : List (Lit × DataW H) → Nat
  | [] => 0
  | x :: r => uptoBulkEntry x + uptoBulkEntries r
def uptoBulkEntry {H : Type} : Lit × DataW H → Nat
  | (.string bytes, d) => bytes.length + uptoBulk d + 1
  | (_, d) => uptoBulk d + 1
 end
def uptoSmall : (H : Type) → List (DataW H) → Bool := fun _ ds => decide (uptoBulkAll ds ≤ 1048576)
def OpenSpec.upto (s : _root_.Go.ChangeSpec) : _root_.Go.OpenSpec := { _root_.Go.OpenSpec.ofChange s with cond := some uptoSmall }

/-- 'compactorlaw50.TransactionCommits', WHERE WHAT IT READS IS OF BULK AT MOST 1048576: true; the input reads as it did. -/
def transactionCommitsUptoRow : OpenClaim := { program := "ytcdajbmgoafnkaagreat", sum := "20ecadeacdf49ba1a9f20e284547a9aa4a5aba1c795fc3c59fdcc8f623b3eea7", func := "compactor/compactorlaw50.TransactionCommits", spec := "transactionCommits", unfollowed := true, recurses := true, apart := false, narrowed := true }
def TransactionCommitsUptoSaid : Prop := transactionCommitsUptoRow.holds Tryz.pinned (OpenSpec.upto transactionCommitsSpec)

/-- 'compactorlaw50.TransactionReplays', WHERE WHAT IT READS IS OF BULK AT MOST 1048576: true; the input reads as it did. -/
def transactionReplaysUptoRow : OpenClaim := { program := "ytcdajbmgoafnkaagreat", sum := "20ecadeacdf49ba1a9f20e284547a9aa4a5aba1c795fc3c59fdcc8f623b3eea7", func := "compactor/compactorlaw50.TransactionReplays", spec := "transactionReplays", unfollowed := true, recurses := true, apart := false, narrowed := true }
def TransactionReplaysUptoSaid : Prop := transactionReplaysUptoRow.holds Tryz.pinned (OpenSpec.upto transactionReplaysSpec)

/-- 'compactorlaw50.TransactionReads', WHERE WHAT IT READS IS OF BULK AT MOST 1048576: true; the input reads as it did. -/
def transactionReadsUptoRow : OpenClaim := { program := "ytcdajbmgoafnkaagreat", sum := "20ecadeacdf49ba1a9f20e284547a9aa4a5aba1c795fc3c59fdcc8f623b3eea7", func := "compactor/compactorlaw50.TransactionReads", spec := "transactionReads", unfollowed := true, recurses := true, apart := false, narrowed := true }
def TransactionReadsUptoSaid : Prop := transactionReadsUptoRow.holds Tryz.pinned (OpenSpec.upto transactionReadsSpec)

/-- 'compactorlaw50.TransactionRefuses', WHERE WHAT IT READS IS OF BULK AT MOST 1048576: true; the input reads as it did. -/
def transactionRefusesUptoRow : OpenClaim := { program := "ytcdajbmgoafnkaagreat", sum := "20ecadeacdf49ba1a9f20e284547a9aa4a5aba1c795fc3c59fdcc8f623b3eea7", func := "compactor/compactorlaw50.TransactionRefuses", spec := "transactionRefuses", unfollowed := true, recurses := true, apart := false, narrowed := true }
def TransactionRefusesUptoSaid : Prop := transactionRefusesUptoRow.holds Tryz.pinned (OpenSpec.upto transactionRefusesSpec)

/-- 'compactorlaw50.TransactionSurvives', WHERE WHAT IT READS IS OF BULK AT MOST 1048576: true; the input reads as it did. -/
def transactionSurvivesUptoRow : OpenClaim := { program := "ytcdajbmgoafnkaagreat", sum := "20ecadeacdf49ba1a9f20e284547a9aa4a5aba1c795fc3c59fdcc8f623b3eea7", func := "compactor/compactorlaw50.TransactionSurvives", spec := "transactionSurvives", unfollowed := true, recurses := true, apart := false, narrowed := true }
def TransactionSurvivesUptoSaid : Prop := transactionSurvivesUptoRow.holds Tryz.pinned (OpenSpec.upto transactionSurvivesSpec)

end Rows
end Go.Proofs.YtcdajbmgoafnkaaGreat
