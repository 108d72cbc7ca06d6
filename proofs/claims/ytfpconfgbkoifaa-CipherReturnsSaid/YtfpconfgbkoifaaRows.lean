/-
  No cell of these rows narrows 'for every input' (looked for: loops, veiled, ifaces, maps, wideKeys, modest, calm, conditions, laid).
  DERIVED. THE GIVEN ROWS OF THIS SEAT. 8 by the template 'for every input the law returns true; each argument reads behind the call as it read before'; 0 by the template 'total and deterministic' (their statements: YtfpconfgbkoifaaTotals.lean).
  GIVEN WITH THE SEED: the statements are not yours to turn. If you find one false, say at which input.
  Laid BY PROGRAM, IN A SANDBOX (cutbox-rows.mjs): the forced cells as the released guide's own fill.sh prints them over the translation 955dcc14d2f92385… (all of the seat's roots in one cut). By AI agents, Wed Nov 11 2026. No macro, syntax, notation, axiom, sorry.
-/
import Derived.Test.YtfpconfgbkoifaaChecked
import GoSem.Claim
import GoSem.ClaimJoined
import GoSem.ClaimMapViews
import Derived.JoinedTies
import Derived.KernelRfl
namespace Go.Proofs.Ytfpconfgbkoifaa
/- THE CELL 'sum', in the pinned program and in every row, IS THE sha256 OF THE DUMP (.gsa) THAT YtfpconfgbkoifaaProg.lean LOADS. Nothing in Lean hashes anything: it is a label: what it is worth is what the hold of that sum in a sandbox is worth. -/
noncomputable def Try.pinned : Pinned := { name := "ytfpconfgbkoifaa", sum := "955dcc14d2f92385b19439eeedc3e520f6e85d2ed53ec9dd37fdba72219e087d", checked := Try.checked }
namespace Rows
def none {H : Type} : Left H := { results := [], args := [] }

/-- 'compactorlaw47.CipherBlocks': WHATEVER THE INPUT: true; the input reads as it did. -/
def cipherBlocksSpec : ChangeSpec := { name := "cipherBlocks", fn := fun _ => fun
  | [d1, d2, d3] => { results := [.lit (.bool true)], args := [d1, d2, d3] }
  | _ => none }
def cipherBlocksRow : OpenClaim := { program := "ytfpconfgbkoifaa", sum := "955dcc14d2f92385b19439eeedc3e520f6e85d2ed53ec9dd37fdba72219e087d", func := "compactor/compactorlaw47.CipherBlocks", spec := "cipherBlocks", unfollowed := true, recurses := true, apart := false }
def CipherBlocksSaid : Prop := cipherBlocksRow.holds Try.pinned (OpenSpec.ofChange cipherBlocksSpec)

/-- ITS FALSE NEIGHBOUR: 'it returns false'. Refute it at one input. -/
def cipherBlocksWrong : ChangeSpec := { name := "cipherBlocks", fn := fun _ => fun
  | [d1, d2, d3] => { results := [.lit (.bool false)], args := [d1, d2, d3] }
  | _ => none }
def CipherBlocksWrongFalsely : Prop := cipherBlocksRow.holds Try.pinned (OpenSpec.ofChange cipherBlocksWrong)

/-- 'compactorlaw47.CipherInverts': WHATEVER THE INPUT: true; the input reads as it did. -/
def cipherInvertsSpec : ChangeSpec := { name := "cipherInverts", fn := fun _ => fun
  | [d1, d2, d3] => { results := [.lit (.bool true)], args := [d1, d2, d3] }
  | _ => none }
def cipherInvertsRow : OpenClaim := { program := "ytfpconfgbkoifaa", sum := "955dcc14d2f92385b19439eeedc3e520f6e85d2ed53ec9dd37fdba72219e087d", func := "compactor/compactorlaw47.CipherInverts", spec := "cipherInverts", unfollowed := true, recurses := true, apart := false }
def CipherInvertsSaid : Prop := cipherInvertsRow.holds Try.pinned (OpenSpec.ofChange cipherInvertsSpec)

/-- ITS FALSE NEIGHBOUR: 'it returns false'. Refute it at one input. -/
def cipherInvertsWrong : ChangeSpec := { name := "cipherInverts", fn := fun _ => fun
  | [d1, d2, d3] => { results := [.lit (.bool false)], args := [d1, d2, d3] }
  | _ => none }
def CipherInvertsWrongFalsely : Prop := cipherInvertsRow.holds Try.pinned (OpenSpec.ofChange cipherInvertsWrong)

/-- 'compactorlaw47.CipherCounts': WHATEVER THE INPUT: true; the input reads as it did. -/
def cipherCountsSpec : ChangeSpec := { name := "cipherCounts", fn := fun _ => fun
  | [d1, d2, d3] => { results := [.lit (.bool true)], args := [d1, d2, d3] }
  | _ => none }
def cipherCountsRow : OpenClaim := { program := "ytfpconfgbkoifaa", sum := "955dcc14d2f92385b19439eeedc3e520f6e85d2ed53ec9dd37fdba72219e087d", func := "compactor/compactorlaw47.CipherCounts", spec := "cipherCounts", unfollowed := true, recurses := true, apart := false }
def CipherCountsSaid : Prop := cipherCountsRow.holds Try.pinned (OpenSpec.ofChange cipherCountsSpec)

/-- ITS FALSE NEIGHBOUR: 'it returns false'. Refute it at one input. -/
def cipherCountsWrong : ChangeSpec := { name := "cipherCounts", fn := fun _ => fun
  | [d1, d2, d3] => { results := [.lit (.bool false)], args := [d1, d2, d3] }
  | _ => none }
def CipherCountsWrongFalsely : Prop := cipherCountsRow.holds Try.pinned (OpenSpec.ofChange cipherCountsWrong)

/-- 'compactorlaw47.CipherReturns': WHATEVER THE INPUT: true; the input reads as it did. -/
def cipherReturnsSpec : ChangeSpec := { name := "cipherReturns", fn := fun _ => fun
  | [d1, d2, d3] => { results := [.lit (.bool true)], args := [d1, d2, d3] }
  | _ => none }
def cipherReturnsRow : OpenClaim := { program := "ytfpconfgbkoifaa", sum := "955dcc14d2f92385b19439eeedc3e520f6e85d2ed53ec9dd37fdba72219e087d", func := "compactor/compactorlaw47.CipherReturns", spec := "cipherReturns", unfollowed := true, recurses := true, apart := false }
def CipherReturnsSaid : Prop := cipherReturnsRow.holds Try.pinned (OpenSpec.ofChange cipherReturnsSpec)

/-- ITS FALSE NEIGHBOUR: 'it returns false'. Refute it at one input. -/
def cipherReturnsWrong : ChangeSpec := { name := "cipherReturns", fn := fun _ => fun
  | [d1, d2, d3] => { results := [.lit (.bool false)], args := [d1, d2, d3] }
  | _ => none }
def CipherReturnsWrongFalsely : Prop := cipherReturnsRow.holds Try.pinned (OpenSpec.ofChange cipherReturnsWrong)

/-- 'compactorlaw47.CipherNotices': WHATEVER THE INPUT: true; the input reads as it did. -/
def cipherNoticesSpec : ChangeSpec := { name := "cipherNotices", fn := fun _ => fun
  | [d1, d2, d3] => { results := [.lit (.bool true)], args := [d1, d2, d3] }
  | _ => none }
def cipherNoticesRow : OpenClaim := { program := "ytfpconfgbkoifaa", sum := "955dcc14d2f92385b19439eeedc3e520f6e85d2ed53ec9dd37fdba72219e087d", func := "compactor/compactorlaw47.CipherNotices", spec := "cipherNotices", unfollowed := true, recurses := true, apart := false }
def CipherNoticesSaid : Prop := cipherNoticesRow.holds Try.pinned (OpenSpec.ofChange cipherNoticesSpec)

/-- ITS FALSE NEIGHBOUR: 'it returns false'. Refute it at one input. -/
def cipherNoticesWrong : ChangeSpec := { name := "cipherNotices", fn := fun _ => fun
  | [d1, d2, d3] => { results := [.lit (.bool false)], args := [d1, d2, d3] }
  | _ => none }
def CipherNoticesWrongFalsely : Prop := cipherNoticesRow.holds Try.pinned (OpenSpec.ofChange cipherNoticesWrong)

/-- 'compactorlaw47.CipherStreams': WHATEVER THE INPUT: true; the input reads as it did. -/
def cipherStreamsSpec : ChangeSpec := { name := "cipherStreams", fn := fun _ => fun
  | [d1, d2, d3] => { results := [.lit (.bool true)], args := [d1, d2, d3] }
  | _ => none }
def cipherStreamsRow : OpenClaim := { program := "ytfpconfgbkoifaa", sum := "955dcc14d2f92385b19439eeedc3e520f6e85d2ed53ec9dd37fdba72219e087d", func := "compactor/compactorlaw47.CipherStreams", spec := "cipherStreams", unfollowed := true, recurses := true, apart := false }
def CipherStreamsSaid : Prop := cipherStreamsRow.holds Try.pinned (OpenSpec.ofChange cipherStreamsSpec)

/-- ITS FALSE NEIGHBOUR: 'it returns false'. Refute it at one input. -/
def cipherStreamsWrong : ChangeSpec := { name := "cipherStreams", fn := fun _ => fun
  | [d1, d2, d3] => { results := [.lit (.bool false)], args := [d1, d2, d3] }
  | _ => none }
def CipherStreamsWrongFalsely : Prop := cipherStreamsRow.holds Try.pinned (OpenSpec.ofChange cipherStreamsWrong)

/-- 'compactorlaw47.CipherSeals': WHATEVER THE INPUT: true; the input reads as it did. -/
def cipherSealsSpec : ChangeSpec := { name := "cipherSeals", fn := fun _ => fun
  | [d1, d2, d3] => { results := [.lit (.bool true)], args := [d1, d2, d3] }
  | _ => none }
def cipherSealsRow : OpenClaim := { program := "ytfpconfgbkoifaa", sum := "955dcc14d2f92385b19439eeedc3e520f6e85d2ed53ec9dd37fdba72219e087d", func := "compactor/compactorlaw47.CipherSeals", spec := "cipherSeals", unfollowed := true, recurses := true, apart := false }
def CipherSealsSaid : Prop := cipherSealsRow.holds Try.pinned (OpenSpec.ofChange cipherSealsSpec)

/-- ITS FALSE NEIGHBOUR: 'it returns false'. Refute it at one input. -/
def cipherSealsWrong : ChangeSpec := { name := "cipherSeals", fn := fun _ => fun
  | [d1, d2, d3] => { results := [.lit (.bool false)], args := [d1, d2, d3] }
  | _ => none }
def CipherSealsWrongFalsely : Prop := cipherSealsRow.holds Try.pinned (OpenSpec.ofChange cipherSealsWrong)

/-- 'compactorlaw47.CipherOpens': WHATEVER THE INPUT: true; the input reads as it did. -/
def cipherOpensSpec : ChangeSpec := { name := "cipherOpens", fn := fun _ => fun
  | [d1, d2, d3] => { results := [.lit (.bool true)], args := [d1, d2, d3] }
  | _ => none }
def cipherOpensRow : OpenClaim := { program := "ytfpconfgbkoifaa", sum := "955dcc14d2f92385b19439eeedc3e520f6e85d2ed53ec9dd37fdba72219e087d", func := "compactor/compactorlaw47.CipherOpens", spec := "cipherOpens", unfollowed := true, recurses := true, apart := false }
def CipherOpensSaid : Prop := cipherOpensRow.holds Try.pinned (OpenSpec.ofChange cipherOpensSpec)

/-- ITS FALSE NEIGHBOUR: 'it returns false'. Refute it at one input. -/
def cipherOpensWrong : ChangeSpec := { name := "cipherOpens", fn := fun _ => fun
  | [d1, d2, d3] => { results := [.lit (.bool false)], args := [d1, d2, d3] }
  | _ => none }
def CipherOpensWrongFalsely : Prop := cipherOpensRow.holds Try.pinned (OpenSpec.ofChange cipherOpensWrong)

/- THE SECOND FORM. 'bulk': how many values and letters a reading holds, each counted each time it is reached (what is shared counts as often as it is met; a slice's spare places count too). A statement '..UptoSaid' is the law's where the arguments, and the package variables that the reading takes, are together of bulk at most 1048576: NARROWER than '..Said'. Prove '..Said' where nothing that the law and all that it calls make is longer than what came in: it says more and counts as full. Else prove '..UptoSaid'. A law counts once. -/
mutual
def uptoBulk {H : Type} : DataW H → Nat
  | .lit (.string bytes) => bytes.length + 1
  | .lit _ => 1
  | .nil => 1
  | .ptr d => uptoBulk d + 1
  | .slice elems spare => uptoBulkAll elems + uptoBulkAll spare + 1
  | .agg parts => uptoBulkAll parts + 1
  | .iface _ d => uptoBulk d + 1
  | .map entries => uptoBulkEntries entries + 1
  | .held _ => 1
def uptoBulkAll {H : Type} : List (DataW H) → Nat
  | [] => 0
  | d :: r => uptoBulk d + uptoBulkAll r
def uptoBulkEntries {H : Type} : List (Lit × DataW H) → Nat
  | [] => 0
  | x :: r => uptoBulkEntry x + uptoBulkEntries r
def uptoBulkEntry {H : Type} : Lit × DataW H → Nat
  | (.string bytes, d) => bytes.length + uptoBulk d + 1
  | (_, d) => uptoBulk d + 1
 end
def uptoSmall : (H : Type) → List (DataW H) → Bool := fun _ ds => decide (uptoBulkAll ds ≤ 1048576)
def OpenSpec.upto (s : _root_.Go.ChangeSpec) : _root_.Go.OpenSpec := { _root_.Go.OpenSpec.ofChange s with cond := some uptoSmall }

/-- 'compactorlaw47.CipherBlocks', WHERE WHAT IT READS IS OF BULK AT MOST 1048576: true; the input reads as it did. -/
def cipherBlocksUptoRow : OpenClaim := { program := "ytfpconfgbkoifaa", sum := "955dcc14d2f92385b19439eeedc3e520f6e85d2ed53ec9dd37fdba72219e087d", func := "compactor/compactorlaw47.CipherBlocks", spec := "cipherBlocks", unfollowed := true, recurses := true, apart := false, narrowed := true }
def CipherBlocksUptoSaid : Prop := cipherBlocksUptoRow.holds Try.pinned (OpenSpec.upto cipherBlocksSpec)

/-- 'compactorlaw47.CipherInverts', WHERE WHAT IT READS IS OF BULK AT MOST 1048576: true; the input reads as it did. -/
def cipherInvertsUptoRow : OpenClaim := { program := "ytfpconfgbkoifaa", sum := "955dcc14d2f92385b19439eeedc3e520f6e85d2ed53ec9dd37fdba72219e087d", func := "compactor/compactorlaw47.CipherInverts", spec := "cipherInverts", unfollowed := true, recurses := true, apart := false, narrowed := true }
def CipherInvertsUptoSaid : Prop := cipherInvertsUptoRow.holds Try.pinned (OpenSpec.upto cipherInvertsSpec)

/-- 'compactorlaw47.CipherCounts', WHERE WHAT IT READS IS OF BULK AT MOST 1048576: true; the input reads as it did. -/
def cipherCountsUptoRow : OpenClaim := { program := "ytfpconfgbkoifaa", sum := "955dcc14d2f92385b19439eeedc3e520f6e85d2ed53ec9dd37fdba72219e087d", func := "compactor/compactorlaw47.CipherCounts", spec := "cipherCounts", unfollowed := true, recurses := true, apart := false, narrowed := true }
def CipherCountsUptoSaid : Prop := cipherCountsUptoRow.holds Try.pinned (OpenSpec.upto cipherCountsSpec)

/-- 'compactorlaw47.CipherReturns', WHERE WHAT IT READS IS OF BULK AT MOST 1048576: true; the input reads as it did. -/
def cipherReturnsUptoRow : OpenClaim := { program := "ytfpconfgbkoifaa", sum := "955dcc14d2f92385b19439eeedc3e520f6e85d2ed53ec9dd37fdba72219e087d", func := "compactor/compactorlaw47.CipherReturns", spec := "cipherReturns", unfollowed := true, recurses := true, apart := false, narrowed := true }
def CipherReturnsUptoSaid : Prop := cipherReturnsUptoRow.holds Try.pinned (OpenSpec.upto cipherReturnsSpec)

/-- 'compactorlaw47.CipherNotices', WHERE WHAT IT READS IS OF BULK AT MOST 1048576: true; the input reads as it did. -/
def cipherNoticesUptoRow : OpenClaim := { program := "ytfpconfgbkoifaa", sum := "955dcc14d2f92385b19439eeedc3e520f6e85d2ed53ec9dd37fdba72219e087d", func := "compactor/compactorlaw47.CipherNotices", spec := "cipherNotices", unfollowed := true, recurses := true, apart := false, narrowed := true }
def CipherNoticesUptoSaid : Prop := cipherNoticesUptoRow.holds Try.pinned (OpenSpec.upto cipherNoticesSpec)

/-- 'compactorlaw47.CipherStreams', WHERE WHAT IT READS IS OF BULK AT MOST 1048576: true; the input reads as it did. -/
def cipherStreamsUptoRow : OpenClaim := { program := "ytfpconfgbkoifaa", sum := "955dcc14d2f92385b19439eeedc3e520f6e85d2ed53ec9dd37fdba72219e087d", func := "compactor/compactorlaw47.CipherStreams", spec := "cipherStreams", unfollowed := true, recurses := true, apart := false, narrowed := true }
def CipherStreamsUptoSaid : Prop := cipherStreamsUptoRow.holds Try.pinned (OpenSpec.upto cipherStreamsSpec)

/-- 'compactorlaw47.CipherSeals', WHERE WHAT IT READS IS OF BULK AT MOST 1048576: true; the input reads as it did. -/
def cipherSealsUptoRow : OpenClaim := { program := "ytfpconfgbkoifaa", sum := "955dcc14d2f92385b19439eeedc3e520f6e85d2ed53ec9dd37fdba72219e087d", func := "compactor/compactorlaw47.CipherSeals", spec := "cipherSeals", unfollowed := true, recurses := true, apart := false, narrowed := true }
def CipherSealsUptoSaid : Prop := cipherSealsUptoRow.holds Try.pinned (OpenSpec.upto cipherSealsSpec)

/-- 'compactorlaw47.CipherOpens', WHERE WHAT IT READS IS OF BULK AT MOST 1048576: true; the input reads as it did. -/
def cipherOpensUptoRow : OpenClaim := { program := "ytfpconfgbkoifaa", sum := "955dcc14d2f92385b19439eeedc3e520f6e85d2ed53ec9dd37fdba72219e087d", func := "compactor/compactorlaw47.CipherOpens", spec := "cipherOpens", unfollowed := true, recurses := true, apart := false, narrowed := true }
def CipherOpensUptoSaid : Prop := cipherOpensUptoRow.holds Try.pinned (OpenSpec.upto cipherOpensSpec)

end Rows
end Go.Proofs.Ytfpconfgbkoifaa
