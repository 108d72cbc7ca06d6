/-
  No cell of these rows narrows 'for every input' (looked for: loops, veiled, ifaces, maps, wideKeys, modest, calm, conditions, laid).
  DERIVED. THE GIVEN ROWS OF THIS SEAT. 8 by the template 'for every input the law returns true; each argument reads behind the call as it read before'; 0 by the template 'total and deterministic' (their statements: YtlilfooddecabaaTotals.lean).
  GIVEN WITH THE SEED: the statements are not yours to turn. If you find one false, say at which input.
  Laid BY PROGRAM, IN A SANDBOX (cutbox-rows.mjs): the forced cells as the released guide's own fill.sh prints them over the translation 27a251cf7afab954… (all of the seat's roots in one cut). By AI agents, Wed Nov 11 2026. No macro, syntax, notation, axiom, sorry.
-/
import Derived.Test.YtlilfooddecabaaChecked
import GoSem.Claim
import GoSem.ClaimJoined
import GoSem.ClaimMapViews
import Derived.JoinedTies
import Derived.KernelRfl
namespace Go.Proofs.Ytlilfooddecabaa
/- THE CELL 'sum', in the pinned program and in every row, IS THE sha256 OF THE DUMP (.gsa) THAT YtlilfooddecabaaProg.lean LOADS. Nothing in Lean hashes anything: it is a label: what it is worth is what the hold of that sum in a sandbox is worth. -/
noncomputable def Try.pinned : Pinned := { name := "ytlilfooddecabaa", sum := "27a251cf7afab954801916fed7ac24713ce7cc97d78832242c6e094a26efde1f", checked := Try.checked }
namespace Rows
def none {H : Type} : Left H := { results := [], args := [] }

/-- 'compactorlaw46.FragmentsAdds': WHATEVER THE INPUT: true; the input reads as it did. -/
def fragmentsAddsSpec : ChangeSpec := { name := "fragmentsAdds", fn := fun _ => fun
  | [d1, d2] => { results := [.lit (.bool true)], args := [d1, d2] }
  | _ => none }
def fragmentsAddsRow : OpenClaim := { program := "ytlilfooddecabaa", sum := "27a251cf7afab954801916fed7ac24713ce7cc97d78832242c6e094a26efde1f", func := "compactor/compactorlaw46.FragmentsAdds", spec := "fragmentsAdds", unfollowed := true, recurses := true, plainKeys := false, apart := false }
def FragmentsAddsSaid : Prop := fragmentsAddsRow.holds Try.pinned (OpenSpec.ofChange fragmentsAddsSpec)

/-- ITS FALSE NEIGHBOUR: 'it returns false'. Refute it at one input. -/
def fragmentsAddsWrong : ChangeSpec := { name := "fragmentsAdds", fn := fun _ => fun
  | [d1, d2] => { results := [.lit (.bool false)], args := [d1, d2] }
  | _ => none }
def FragmentsAddsWrongFalsely : Prop := fragmentsAddsRow.holds Try.pinned (OpenSpec.ofChange fragmentsAddsWrong)

/-- 'compactorlaw46.FragmentsPlaces': WHATEVER THE INPUT: true; the input reads as it did. -/
def fragmentsPlacesSpec : ChangeSpec := { name := "fragmentsPlaces", fn := fun _ => fun
  | [d1, d2, d3] => { results := [.lit (.bool true)], args := [d1, d2, d3] }
  | _ => none }
def fragmentsPlacesRow : OpenClaim := { program := "ytlilfooddecabaa", sum := "27a251cf7afab954801916fed7ac24713ce7cc97d78832242c6e094a26efde1f", func := "compactor/compactorlaw46.FragmentsPlaces", spec := "fragmentsPlaces", unfollowed := true, recurses := true, plainKeys := false, apart := false }
def FragmentsPlacesSaid : Prop := fragmentsPlacesRow.holds Try.pinned (OpenSpec.ofChange fragmentsPlacesSpec)

/-- ITS FALSE NEIGHBOUR: 'it returns false'. Refute it at one input. -/
def fragmentsPlacesWrong : ChangeSpec := { name := "fragmentsPlaces", fn := fun _ => fun
  | [d1, d2, d3] => { results := [.lit (.bool false)], args := [d1, d2, d3] }
  | _ => none }
def FragmentsPlacesWrongFalsely : Prop := fragmentsPlacesRow.holds Try.pinned (OpenSpec.ofChange fragmentsPlacesWrong)

/-- 'compactorlaw46.FragmentsGroups': WHATEVER THE INPUT: true; the input reads as it did. -/
def fragmentsGroupsSpec : ChangeSpec := { name := "fragmentsGroups", fn := fun _ => fun
  | [d1, d2] => { results := [.lit (.bool true)], args := [d1, d2] }
  | _ => none }
def fragmentsGroupsRow : OpenClaim := { program := "ytlilfooddecabaa", sum := "27a251cf7afab954801916fed7ac24713ce7cc97d78832242c6e094a26efde1f", func := "compactor/compactorlaw46.FragmentsGroups", spec := "fragmentsGroups", unfollowed := true, recurses := true, plainKeys := false, apart := false }
def FragmentsGroupsSaid : Prop := fragmentsGroupsRow.holds Try.pinned (OpenSpec.ofChange fragmentsGroupsSpec)

/-- ITS FALSE NEIGHBOUR: 'it returns false'. Refute it at one input. -/
def fragmentsGroupsWrong : ChangeSpec := { name := "fragmentsGroups", fn := fun _ => fun
  | [d1, d2] => { results := [.lit (.bool false)], args := [d1, d2] }
  | _ => none }
def FragmentsGroupsWrongFalsely : Prop := fragmentsGroupsRow.holds Try.pinned (OpenSpec.ofChange fragmentsGroupsWrong)

/-- 'compactorlaw46.FragmentsRemain': WHATEVER THE INPUT: true; the input reads as it did. -/
def fragmentsRemainSpec : ChangeSpec := { name := "fragmentsRemain", fn := fun _ => fun
  | [d1, d2] => { results := [.lit (.bool true)], args := [d1, d2] }
  | _ => none }
def fragmentsRemainRow : OpenClaim := { program := "ytlilfooddecabaa", sum := "27a251cf7afab954801916fed7ac24713ce7cc97d78832242c6e094a26efde1f", func := "compactor/compactorlaw46.FragmentsRemain", spec := "fragmentsRemain", unfollowed := true, recurses := true, plainKeys := false, apart := false }
def FragmentsRemainSaid : Prop := fragmentsRemainRow.holds Try.pinned (OpenSpec.ofChange fragmentsRemainSpec)

/-- ITS FALSE NEIGHBOUR: 'it returns false'. Refute it at one input. -/
def fragmentsRemainWrong : ChangeSpec := { name := "fragmentsRemain", fn := fun _ => fun
  | [d1, d2] => { results := [.lit (.bool false)], args := [d1, d2] }
  | _ => none }
def FragmentsRemainWrongFalsely : Prop := fragmentsRemainRow.holds Try.pinned (OpenSpec.ofChange fragmentsRemainWrong)

/-- 'compactorlaw46.FragmentsGathers': WHATEVER THE INPUT: true; the input reads as it did. -/
def fragmentsGathersSpec : ChangeSpec := { name := "fragmentsGathers", fn := fun _ => fun
  | [d1, d2] => { results := [.lit (.bool true)], args := [d1, d2] }
  | _ => none }
def fragmentsGathersRow : OpenClaim := { program := "ytlilfooddecabaa", sum := "27a251cf7afab954801916fed7ac24713ce7cc97d78832242c6e094a26efde1f", func := "compactor/compactorlaw46.FragmentsGathers", spec := "fragmentsGathers", unfollowed := true, recurses := true, plainKeys := false, apart := false }
def FragmentsGathersSaid : Prop := fragmentsGathersRow.holds Try.pinned (OpenSpec.ofChange fragmentsGathersSpec)

/-- ITS FALSE NEIGHBOUR: 'it returns false'. Refute it at one input. -/
def fragmentsGathersWrong : ChangeSpec := { name := "fragmentsGathers", fn := fun _ => fun
  | [d1, d2] => { results := [.lit (.bool false)], args := [d1, d2] }
  | _ => none }
def FragmentsGathersWrongFalsely : Prop := fragmentsGathersRow.holds Try.pinned (OpenSpec.ofChange fragmentsGathersWrong)

/-- 'compactorlaw46.FragmentsFewest': WHATEVER THE INPUT: true; the input reads as it did. -/
def fragmentsFewestSpec : ChangeSpec := { name := "fragmentsFewest", fn := fun _ => fun
  | [d1, d2, d3] => { results := [.lit (.bool true)], args := [d1, d2, d3] }
  | _ => none }
def fragmentsFewestRow : OpenClaim := { program := "ytlilfooddecabaa", sum := "27a251cf7afab954801916fed7ac24713ce7cc97d78832242c6e094a26efde1f", func := "compactor/compactorlaw46.FragmentsFewest", spec := "fragmentsFewest", unfollowed := true, recurses := true, plainKeys := false, apart := false }
def FragmentsFewestSaid : Prop := fragmentsFewestRow.holds Try.pinned (OpenSpec.ofChange fragmentsFewestSpec)

/-- ITS FALSE NEIGHBOUR: 'it returns false'. Refute it at one input. -/
def fragmentsFewestWrong : ChangeSpec := { name := "fragmentsFewest", fn := fun _ => fun
  | [d1, d2, d3] => { results := [.lit (.bool false)], args := [d1, d2, d3] }
  | _ => none }
def FragmentsFewestWrongFalsely : Prop := fragmentsFewestRow.holds Try.pinned (OpenSpec.ofChange fragmentsFewestWrong)

/-- 'compactorlaw46.FragmentsChecks': WHATEVER THE INPUT: true; the input reads as it did. -/
def fragmentsChecksSpec : ChangeSpec := { name := "fragmentsChecks", fn := fun _ => fun
  | [d1, d2, d3] => { results := [.lit (.bool true)], args := [d1, d2, d3] }
  | _ => none }
def fragmentsChecksRow : OpenClaim := { program := "ytlilfooddecabaa", sum := "27a251cf7afab954801916fed7ac24713ce7cc97d78832242c6e094a26efde1f", func := "compactor/compactorlaw46.FragmentsChecks", spec := "fragmentsChecks", unfollowed := true, recurses := true, plainKeys := false, apart := false }
def FragmentsChecksSaid : Prop := fragmentsChecksRow.holds Try.pinned (OpenSpec.ofChange fragmentsChecksSpec)

/-- ITS FALSE NEIGHBOUR: 'it returns false'. Refute it at one input. -/
def fragmentsChecksWrong : ChangeSpec := { name := "fragmentsChecks", fn := fun _ => fun
  | [d1, d2, d3] => { results := [.lit (.bool false)], args := [d1, d2, d3] }
  | _ => none }
def FragmentsChecksWrongFalsely : Prop := fragmentsChecksRow.holds Try.pinned (OpenSpec.ofChange fragmentsChecksWrong)

/-- 'compactorlaw46.FragmentsOnce': WHATEVER THE INPUT: true; the input reads as it did. -/
def fragmentsOnceSpec : ChangeSpec := { name := "fragmentsOnce", fn := fun _ => fun
  | [d] => { results := [.lit (.bool true)], args := [d] }
  | _ => none }
def fragmentsOnceRow : OpenClaim := { program := "ytlilfooddecabaa", sum := "27a251cf7afab954801916fed7ac24713ce7cc97d78832242c6e094a26efde1f", func := "compactor/compactorlaw46.FragmentsOnce", spec := "fragmentsOnce", unfollowed := true, recurses := true, plainKeys := false, apart := false }
def FragmentsOnceSaid : Prop := fragmentsOnceRow.holds Try.pinned (OpenSpec.ofChange fragmentsOnceSpec)

/-- ITS FALSE NEIGHBOUR: 'it returns false'. Refute it at one input. -/
def fragmentsOnceWrong : ChangeSpec := { name := "fragmentsOnce", fn := fun _ => fun
  | [d] => { results := [.lit (.bool false)], args := [d] }
  | _ => none }
def FragmentsOnceWrongFalsely : Prop := fragmentsOnceRow.holds Try.pinned (OpenSpec.ofChange fragmentsOnceWrong)

/- THE SECOND FORM. 'bulk': how many values and letters a reading holds, each counted each time it is reached (what is shared counts as often as it is met; a slice's spare places count too). A statement '..UptoSaid' is the law's where the arguments, and the package variables that the reading takes, are together of bulk at most 1048576: NARROWER than '..Said'. Prove '..Said' where nothing that the law and all that it calls make is longer than what came in: it says more and counts as full. Else prove '..UptoSaid'. A law counts once. -/
mutual
def uptoBulk {H : Type} : DataW H → Nat
  | .lit (.string bytes) => bytes.length + 1
  | .lit _ => 1
  | .nil => 1
  | .ptr d => uptoBulk d + 1
  | .slice elems spare => uptoBulkAll elems + uptoBulkAll spare + 1
  | .agg parts => uptoBulkAll parts + 1
  | .iface _ d => uptoBulk d + 1
  | .map entries => uptoBulkEntries entries + 1
  | .held _ => 1
def uptoBulkAll {H : Type} : List (DataW H) → Nat
  | [] => 0
  | d :: r => uptoBulk d + uptoBulkAll r
def uptoBulkEntries {H : Type} : List (Lit × DataW H) → Nat
  | [] => 0
  | x :: r => uptoBulkEntry x + uptoBulkEntries r
def uptoBulkEntry {H : Type} : Lit × DataW H → Nat
  | (.string bytes, d) => bytes.length + uptoBulk d + 1
  | (_, d) => uptoBulk d + 1
 end
def uptoSmall : (H : Type) → List (DataW H) → Bool := fun _ ds => decide (uptoBulkAll ds ≤ 1048576)
def OpenSpec.upto (s : _root_.Go.ChangeSpec) : _root_.Go.OpenSpec := { _root_.Go.OpenSpec.ofChange s with cond := some uptoSmall }

/-- 'compactorlaw46.FragmentsAdds', WHERE WHAT IT READS IS OF BULK AT MOST 1048576: true; the input reads as it did. -/
def fragmentsAddsUptoRow : OpenClaim := { program := "ytlilfooddecabaa", sum := "27a251cf7afab954801916fed7ac24713ce7cc97d78832242c6e094a26efde1f", func := "compactor/compactorlaw46.FragmentsAdds", spec := "fragmentsAdds", unfollowed := true, recurses := true, plainKeys := false, apart := false, narrowed := true }
def FragmentsAddsUptoSaid : Prop := fragmentsAddsUptoRow.holds Try.pinned (OpenSpec.upto fragmentsAddsSpec)

/-- 'compactorlaw46.FragmentsPlaces', WHERE WHAT IT READS IS OF BULK AT MOST 1048576: true; the input reads as it did. -/
def fragmentsPlacesUptoRow : OpenClaim := { program := "ytlilfooddecabaa", sum := "27a251cf7afab954801916fed7ac24713ce7cc97d78832242c6e094a26efde1f", func := "compactor/compactorlaw46.FragmentsPlaces", spec := "fragmentsPlaces", unfollowed := true, recurses := true, plainKeys := false, apart := false, narrowed := true }
def FragmentsPlacesUptoSaid : Prop := fragmentsPlacesUptoRow.holds Try.pinned (OpenSpec.upto fragmentsPlacesSpec)

/-- 'compactorlaw46.FragmentsGroups', WHERE WHAT IT READS IS OF BULK AT MOST 1048576: true; the input reads as it did. -/
def fragmentsGroupsUptoRow : OpenClaim := { program := "ytlilfooddecabaa", sum := "27a251cf7afab954801916fed7ac24713ce7cc97d78832242c6e094a26efde1f", func := "compactor/compactorlaw46.FragmentsGroups", spec := "fragmentsGroups", unfollowed := true, recurses := true, plainKeys := false, apart := false, narrowed := true }
def FragmentsGroupsUptoSaid : Prop := fragmentsGroupsUptoRow.holds Try.pinned (OpenSpec.upto fragmentsGroupsSpec)

/-- 'compactorlaw46.FragmentsRemain', WHERE WHAT IT READS IS OF BULK AT MOST 1048576: true; the input reads as it did. -/
def fragmentsRemainUptoRow : OpenClaim := { program := "ytlilfooddecabaa", sum := "27a251cf7afab954801916fed7ac24713ce7cc97d78832242c6e094a26efde1f", func := "compactor/compactorlaw46.FragmentsRemain", spec := "fragmentsRemain", unfollowed := true, recurses := true, plainKeys := false, apart := false, narrowed := true }
def FragmentsRemainUptoSaid : Prop := fragmentsRemainUptoRow.holds Try.pinned (OpenSpec.upto fragmentsRemainSpec)

/-- 'compactorlaw46.FragmentsGathers', WHERE WHAT IT READS IS OF BULK AT MOST 1048576: true; the input reads as it did. -/
def fragmentsGathersUptoRow : OpenClaim := { program := "ytlilfooddecabaa", sum := "27a251cf7afab954801916fed7ac24713ce7cc97d78832242c6e094a26efde1f", func := "compactor/compactorlaw46.FragmentsGathers", spec := "fragmentsGathers", unfollowed := true, recurses := true, plainKeys := false, apart := false, narrowed := true }
def FragmentsGathersUptoSaid : Prop := fragmentsGathersUptoRow.holds Try.pinned (OpenSpec.upto fragmentsGathersSpec)

/-- 'compactorlaw46.FragmentsFewest', WHERE WHAT IT READS IS OF BULK AT MOST 1048576: true; the input reads as it did. -/
def fragmentsFewestUptoRow : OpenClaim := { program := "ytlilfooddecabaa", sum := "27a251cf7afab954801916fed7ac24713ce7cc97d78832242c6e094a26efde1f", func := "compactor/compactorlaw46.FragmentsFewest", spec := "fragmentsFewest", unfollowed := true, recurses := true, plainKeys := false, apart := false, narrowed := true }
def FragmentsFewestUptoSaid : Prop := fragmentsFewestUptoRow.holds Try.pinned (OpenSpec.upto fragmentsFewestSpec)

/-- 'compactorlaw46.FragmentsChecks', WHERE WHAT IT READS IS OF BULK AT MOST 1048576: true; the input reads as it did. -/
def fragmentsChecksUptoRow : OpenClaim := { program := "ytlilfooddecabaa", sum := "27a251cf7afab954801916fed7ac24713ce7cc97d78832242c6e094a26efde1f", func := "compactor/compactorlaw46.FragmentsChecks", spec := "fragmentsChecks", unfollowed := true, recurses := true, plainKeys := false, apart := false, narrowed := true }
def FragmentsChecksUptoSaid : Prop := fragmentsChecksUptoRow.holds Try.pinned (OpenSpec.upto fragmentsChecksSpec)

/-- 'compactorlaw46.FragmentsOnce', WHERE WHAT IT READS IS OF BULK AT MOST 1048576: true; the input reads as it did. -/
def fragmentsOnceUptoRow : OpenClaim := { program := "ytlilfooddecabaa", sum := "27a251cf7afab954801916fed7ac24713ce7cc97d78832242c6e094a26efde1f", func := "compactor/compactorlaw46.FragmentsOnce", spec := "fragmentsOnce", unfollowed := true, recurses := true, plainKeys := false, apart := false, narrowed := true }
def FragmentsOnceUptoSaid : Prop := fragmentsOnceUptoRow.holds Try.pinned (OpenSpec.upto fragmentsOnceSpec)

end Rows
end Go.Proofs.Ytlilfooddecabaa
