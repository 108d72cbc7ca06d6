/-
  No cell of these rows narrows 'for every input' (looked for: loops, veiled, ifaces, maps, wideKeys, modest, calm, conditions, laid).
  DERIVED. THE GIVEN ROWS OF THIS SEAT. 8 by the template 'for every input the law returns true; each argument reads behind the call as it read before'; 0 by the template 'total and deterministic' (their statements: YtoabbbechmeggaaTotals.lean).
  GIVEN WITH THE SEED: the statements are not yours to turn. If you find one false, say at which input.
  Laid BY PROGRAM, IN A SANDBOX (cutbox-rows.mjs): the forced cells as the released guide's own fill.sh prints them over the translation b3a992f2de31f9c2… (all of the seat's roots in one cut). By AI agents, Wed Nov 11 2026. No macro, syntax, notation, axiom, sorry.
-/
import Derived.Test.YtoabbbechmeggaaChecked
import GoSem.Claim
import GoSem.ClaimJoined
import GoSem.ClaimMapViews
import Derived.JoinedTies
import Derived.KernelRfl
namespace Go.Proofs.Ytoabbbechmeggaa
/- THE CELL 'sum', in the pinned program and in every row, IS THE sha256 OF THE DUMP (.gsa) THAT YtoabbbechmeggaaProg.lean LOADS. Nothing in Lean hashes anything: it is a label: what it is worth is what the hold of that sum in a sandbox is worth. -/
noncomputable def Try.pinned : Pinned := { name := "ytoabbbechmeggaa", sum := "b3a992f2de31f9c2818db4cc1f089899c67b67f639281084d1fa725fe436cdb0", checked := Try.checked }
namespace Rows
def none {H : Type} : Left H := { results := [], args := [] }

/-- 'compactorlaw04.DigestSums': WHATEVER THE INPUT: true; the input reads as it did. -/
def digestSumsSpec : ChangeSpec := { name := "digestSums", fn := fun _ => fun
  | [d] => { results := [.lit (.bool true)], args := [d] }
  | _ => none }
def digestSumsRow : OpenClaim := { program := "ytoabbbechmeggaa", sum := "b3a992f2de31f9c2818db4cc1f089899c67b67f639281084d1fa725fe436cdb0", func := "compactor/compactorlaw04.DigestSums", spec := "digestSums", unfollowed := true, recurses := true, apart := false }
def DigestSumsSaid : Prop := digestSumsRow.holds Try.pinned (OpenSpec.ofChange digestSumsSpec)

/-- ITS FALSE NEIGHBOUR: 'it returns false'. Refute it at one input. -/
def digestSumsWrong : ChangeSpec := { name := "digestSums", fn := fun _ => fun
  | [d] => { results := [.lit (.bool false)], args := [d] }
  | _ => none }
def DigestSumsWrongFalsely : Prop := digestSumsRow.holds Try.pinned (OpenSpec.ofChange digestSumsWrong)

/-- 'compactorlaw04.DigestMacs': WHATEVER THE INPUT: true; the input reads as it did. -/
def digestMacsSpec : ChangeSpec := { name := "digestMacs", fn := fun _ => fun
  | [d1, d2, d3] => { results := [.lit (.bool true)], args := [d1, d2, d3] }
  | _ => none }
def digestMacsRow : OpenClaim := { program := "ytoabbbechmeggaa", sum := "b3a992f2de31f9c2818db4cc1f089899c67b67f639281084d1fa725fe436cdb0", func := "compactor/compactorlaw04.DigestMacs", spec := "digestMacs", unfollowed := true, recurses := true, apart := false }
def DigestMacsSaid : Prop := digestMacsRow.holds Try.pinned (OpenSpec.ofChange digestMacsSpec)

/-- ITS FALSE NEIGHBOUR: 'it returns false'. Refute it at one input. -/
def digestMacsWrong : ChangeSpec := { name := "digestMacs", fn := fun _ => fun
  | [d1, d2, d3] => { results := [.lit (.bool false)], args := [d1, d2, d3] }
  | _ => none }
def DigestMacsWrongFalsely : Prop := digestMacsRow.holds Try.pinned (OpenSpec.ofChange digestMacsWrong)

/-- 'compactorlaw04.DigestKeys': WHATEVER THE INPUT: true; the input reads as it did. -/
def digestKeysSpec : ChangeSpec := { name := "digestKeys", fn := fun _ => fun
  | [d1, d2, d3] => { results := [.lit (.bool true)], args := [d1, d2, d3] }
  | _ => none }
def digestKeysRow : OpenClaim := { program := "ytoabbbechmeggaa", sum := "b3a992f2de31f9c2818db4cc1f089899c67b67f639281084d1fa725fe436cdb0", func := "compactor/compactorlaw04.DigestKeys", spec := "digestKeys", unfollowed := true, recurses := true, apart := false }
def DigestKeysSaid : Prop := digestKeysRow.holds Try.pinned (OpenSpec.ofChange digestKeysSpec)

/-- ITS FALSE NEIGHBOUR: 'it returns false'. Refute it at one input. -/
def digestKeysWrong : ChangeSpec := { name := "digestKeys", fn := fun _ => fun
  | [d1, d2, d3] => { results := [.lit (.bool false)], args := [d1, d2, d3] }
  | _ => none }
def DigestKeysWrongFalsely : Prop := digestKeysRow.holds Try.pinned (OpenSpec.ofChange digestKeysWrong)

/-- 'compactorlaw04.DigestRounds': WHATEVER THE INPUT: true; the input reads as it did. -/
def digestRoundsSpec : ChangeSpec := { name := "digestRounds", fn := fun _ => fun
  | [d1, d2, d3] => { results := [.lit (.bool true)], args := [d1, d2, d3] }
  | _ => none }
def digestRoundsRow : OpenClaim := { program := "ytoabbbechmeggaa", sum := "b3a992f2de31f9c2818db4cc1f089899c67b67f639281084d1fa725fe436cdb0", func := "compactor/compactorlaw04.DigestRounds", spec := "digestRounds", unfollowed := true, recurses := true, apart := false }
def DigestRoundsSaid : Prop := digestRoundsRow.holds Try.pinned (OpenSpec.ofChange digestRoundsSpec)

/-- ITS FALSE NEIGHBOUR: 'it returns false'. Refute it at one input. -/
def digestRoundsWrong : ChangeSpec := { name := "digestRounds", fn := fun _ => fun
  | [d1, d2, d3] => { results := [.lit (.bool false)], args := [d1, d2, d3] }
  | _ => none }
def DigestRoundsWrongFalsely : Prop := digestRoundsRow.holds Try.pinned (OpenSpec.ofChange digestRoundsWrong)

/-- 'compactorlaw04.DigestTexts': WHATEVER THE INPUT: true; the input reads as it did. -/
def digestTextsSpec : ChangeSpec := { name := "digestTexts", fn := fun _ => fun
  | [d1, d2] => { results := [.lit (.bool true)], args := [d1, d2] }
  | _ => none }
def digestTextsRow : OpenClaim := { program := "ytoabbbechmeggaa", sum := "b3a992f2de31f9c2818db4cc1f089899c67b67f639281084d1fa725fe436cdb0", func := "compactor/compactorlaw04.DigestTexts", spec := "digestTexts", unfollowed := true, recurses := true, apart := false }
def DigestTextsSaid : Prop := digestTextsRow.holds Try.pinned (OpenSpec.ofChange digestTextsSpec)

/-- ITS FALSE NEIGHBOUR: 'it returns false'. Refute it at one input. -/
def digestTextsWrong : ChangeSpec := { name := "digestTexts", fn := fun _ => fun
  | [d1, d2] => { results := [.lit (.bool false)], args := [d1, d2] }
  | _ => none }
def DigestTextsWrongFalsely : Prop := digestTextsRow.holds Try.pinned (OpenSpec.ofChange digestTextsWrong)

/-- 'compactorlaw04.DigestReturns': WHATEVER THE INPUT: true; the input reads as it did. -/
def digestReturnsSpec : ChangeSpec := { name := "digestReturns", fn := fun _ => fun
  | [d1, d2] => { results := [.lit (.bool true)], args := [d1, d2] }
  | _ => none }
def digestReturnsRow : OpenClaim := { program := "ytoabbbechmeggaa", sum := "b3a992f2de31f9c2818db4cc1f089899c67b67f639281084d1fa725fe436cdb0", func := "compactor/compactorlaw04.DigestReturns", spec := "digestReturns", unfollowed := true, recurses := true, apart := false }
def DigestReturnsSaid : Prop := digestReturnsRow.holds Try.pinned (OpenSpec.ofChange digestReturnsSpec)

/-- ITS FALSE NEIGHBOUR: 'it returns false'. Refute it at one input. -/
def digestReturnsWrong : ChangeSpec := { name := "digestReturns", fn := fun _ => fun
  | [d1, d2] => { results := [.lit (.bool false)], args := [d1, d2] }
  | _ => none }
def DigestReturnsWrongFalsely : Prop := digestReturnsRow.holds Try.pinned (OpenSpec.ofChange digestReturnsWrong)

/-- 'compactorlaw04.DigestWrites': WHATEVER THE INPUT: true; the input reads as it did. -/
def digestWritesSpec : ChangeSpec := { name := "digestWrites", fn := fun _ => fun
  | [d1, d2] => { results := [.lit (.bool true)], args := [d1, d2] }
  | _ => none }
def digestWritesRow : OpenClaim := { program := "ytoabbbechmeggaa", sum := "b3a992f2de31f9c2818db4cc1f089899c67b67f639281084d1fa725fe436cdb0", func := "compactor/compactorlaw04.DigestWrites", spec := "digestWrites", unfollowed := true, recurses := true, apart := false }
def DigestWritesSaid : Prop := digestWritesRow.holds Try.pinned (OpenSpec.ofChange digestWritesSpec)

/-- ITS FALSE NEIGHBOUR: 'it returns false'. Refute it at one input. -/
def digestWritesWrong : ChangeSpec := { name := "digestWrites", fn := fun _ => fun
  | [d1, d2] => { results := [.lit (.bool false)], args := [d1, d2] }
  | _ => none }
def DigestWritesWrongFalsely : Prop := digestWritesRow.holds Try.pinned (OpenSpec.ofChange digestWritesWrong)

/-- 'compactorlaw04.DigestParts': WHATEVER THE INPUT: true; the input reads as it did. -/
def digestPartsSpec : ChangeSpec := { name := "digestParts", fn := fun _ => fun
  | [d1, d2] => { results := [.lit (.bool true)], args := [d1, d2] }
  | _ => none }
def digestPartsRow : OpenClaim := { program := "ytoabbbechmeggaa", sum := "b3a992f2de31f9c2818db4cc1f089899c67b67f639281084d1fa725fe436cdb0", func := "compactor/compactorlaw04.DigestParts", spec := "digestParts", unfollowed := true, recurses := true, apart := false }
def DigestPartsSaid : Prop := digestPartsRow.holds Try.pinned (OpenSpec.ofChange digestPartsSpec)

/-- ITS FALSE NEIGHBOUR: 'it returns false'. Refute it at one input. -/
def digestPartsWrong : ChangeSpec := { name := "digestParts", fn := fun _ => fun
  | [d1, d2] => { results := [.lit (.bool false)], args := [d1, d2] }
  | _ => none }
def DigestPartsWrongFalsely : Prop := digestPartsRow.holds Try.pinned (OpenSpec.ofChange digestPartsWrong)

/- THE SECOND FORM. 'bulk': how many values and letters a reading holds, each counted each time it is reached (what is shared counts as often as it is met; a slice's spare places count too). A statement '..UptoSaid' is the law's where the arguments, and the package variables that the reading takes, are together of bulk at most 1048576: NARROWER than '..Said'. Prove '..Said' where nothing that the law and all that it calls make is longer than what came in: it says more and counts as full. Else prove '..UptoSaid'. A law counts once. -/
mutual
def uptoBulk {H : Type} : DataW H → Nat
  | .lit (.string bytes) => bytes.length + 1
  | .lit _ => 1
  | .nil => 1
  | .ptr d => uptoBulk d + 1
  | .slice elems spare => uptoBulkAll elems + uptoBulkAll spare + 1
  | .agg parts => uptoBulkAll parts + 1
  | .iface _ d => uptoBulk d + 1
  | .map entries => uptoBulkEntries entries + 1
  | .held _ => 1
def uptoBulkAll {H : Type} : List (DataW H) → Nat
  | [] => 0
  | d :: r => uptoBulk d + uptoBulkAll r
def uptoBulkEntries {H : Type} : List (Lit × DataW H) → Nat
  | [] => 0
  | x :: r => uptoBulkEntry x + uptoBulkEntries r
def uptoBulkEntry {H : Type} : Lit × DataW H → Nat
  | (.string bytes, d) => bytes.length + uptoBulk d + 1
  | (_, d) => uptoBulk d + 1
 end
def uptoSmall : (H : Type) → List (DataW H) → Bool := fun _ ds => decide (uptoBulkAll ds ≤ 1048576)
def OpenSpec.upto (s : _root_.Go.ChangeSpec) : _root_.Go.OpenSpec := { _root_.Go.OpenSpec.ofChange s with cond := some uptoSmall }

/-- 'compactorlaw04.DigestSums', WHERE WHAT IT READS IS OF BULK AT MOST 1048576: true; the input reads as it did. -/
def digestSumsUptoRow : OpenClaim := { program := "ytoabbbechmeggaa", sum := "b3a992f2de31f9c2818db4cc1f089899c67b67f639281084d1fa725fe436cdb0", func := "compactor/compactorlaw04.DigestSums", spec := "digestSums", unfollowed := true, recurses := true, apart := false, narrowed := true }
def DigestSumsUptoSaid : Prop := digestSumsUptoRow.holds Try.pinned (OpenSpec.upto digestSumsSpec)

/-- 'compactorlaw04.DigestMacs', WHERE WHAT IT READS IS OF BULK AT MOST 1048576: true; the input reads as it did. -/
def digestMacsUptoRow : OpenClaim := { program := "ytoabbbechmeggaa", sum := "b3a992f2de31f9c2818db4cc1f089899c67b67f639281084d1fa725fe436cdb0", func := "compactor/compactorlaw04.DigestMacs", spec := "digestMacs", unfollowed := true, recurses := true, apart := false, narrowed := true }
def DigestMacsUptoSaid : Prop := digestMacsUptoRow.holds Try.pinned (OpenSpec.upto digestMacsSpec)

/-- 'compactorlaw04.DigestKeys', WHERE WHAT IT READS IS OF BULK AT MOST 1048576: true; the input reads as it did. -/
def digestKeysUptoRow : OpenClaim := { program := "ytoabbbechmeggaa", sum := "b3a992f2de31f9c2818db4cc1f089899c67b67f639281084d1fa725fe436cdb0", func := "compactor/compactorlaw04.DigestKeys", spec := "digestKeys", unfollowed := true, recurses := true, apart := false, narrowed := true }
def DigestKeysUptoSaid : Prop := digestKeysUptoRow.holds Try.pinned (OpenSpec.upto digestKeysSpec)

/-- 'compactorlaw04.DigestRounds', WHERE WHAT IT READS IS OF BULK AT MOST 1048576: true; the input reads as it did. -/
def digestRoundsUptoRow : OpenClaim := { program := "ytoabbbechmeggaa", sum := "b3a992f2de31f9c2818db4cc1f089899c67b67f639281084d1fa725fe436cdb0", func := "compactor/compactorlaw04.DigestRounds", spec := "digestRounds", unfollowed := true, recurses := true, apart := false, narrowed := true }
def DigestRoundsUptoSaid : Prop := digestRoundsUptoRow.holds Try.pinned (OpenSpec.upto digestRoundsSpec)

/-- 'compactorlaw04.DigestTexts', WHERE WHAT IT READS IS OF BULK AT MOST 1048576: true; the input reads as it did. -/
def digestTextsUptoRow : OpenClaim := { program := "ytoabbbechmeggaa", sum := "b3a992f2de31f9c2818db4cc1f089899c67b67f639281084d1fa725fe436cdb0", func := "compactor/compactorlaw04.DigestTexts", spec := "digestTexts", unfollowed := true, recurses := true, apart := false, narrowed := true }
def DigestTextsUptoSaid : Prop := digestTextsUptoRow.holds Try.pinned (OpenSpec.upto digestTextsSpec)

/-- 'compactorlaw04.DigestReturns', WHERE WHAT IT READS IS OF BULK AT MOST 1048576: true; the input reads as it did. -/
def digestReturnsUptoRow : OpenClaim := { program := "ytoabbbechmeggaa", sum := "b3a992f2de31f9c2818db4cc1f089899c67b67f639281084d1fa725fe436cdb0", func := "compactor/compactorlaw04.DigestReturns", spec := "digestReturns", unfollowed := true, recurses := true, apart := false, narrowed := true }
def DigestReturnsUptoSaid : Prop := digestReturnsUptoRow.holds Try.pinned (OpenSpec.upto digestReturnsSpec)

/-- 'compactorlaw04.DigestWrites', WHERE WHAT IT READS IS OF BULK AT MOST 1048576: true; the input reads as it did. -/
def digestWritesUptoRow : OpenClaim := { program := "ytoabbbechmeggaa", sum := "b3a992f2de31f9c2818db4cc1f089899c67b67f639281084d1fa725fe436cdb0", func := "compactor/compactorlaw04.DigestWrites", spec := "digestWrites", unfollowed := true, recurses := true, apart := false, narrowed := true }
def DigestWritesUptoSaid : Prop := digestWritesUptoRow.holds Try.pinned (OpenSpec.upto digestWritesSpec)

/-- 'compactorlaw04.DigestParts', WHERE WHAT IT READS IS OF BULK AT MOST 1048576: true; the input reads as it did. -/
def digestPartsUptoRow : OpenClaim := { program := "ytoabbbechmeggaa", sum := "b3a992f2de31f9c2818db4cc1f089899c67b67f639281084d1fa725fe436cdb0", func := "compactor/compactorlaw04.DigestParts", spec := "digestParts", unfollowed := true, recurses := true, apart := false, narrowed := true }
def DigestPartsUptoSaid : Prop := digestPartsUptoRow.holds Try.pinned (OpenSpec.upto digestPartsSpec)

end Rows
end Go.Proofs.Ytoabbbechmeggaa
