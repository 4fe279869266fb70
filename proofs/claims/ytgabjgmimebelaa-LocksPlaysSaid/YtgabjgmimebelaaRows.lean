/-
  No cell of these rows narrows 'for every input' (looked for: loops, veiled, ifaces, maps, wideKeys, modest, calm, conditions, laid).
  DERIVED. THE GIVEN ROWS OF THIS SEAT. 6 by the template 'for every input the law returns true; each argument reads behind the call as it read before'; 0 by the template 'total and deterministic' (their statements: YtgabjgmimebelaaTotals.lean).
  GIVEN WITH THE SEED: the statements are not yours to turn. If you find one false, say at which input.
  Laid BY PROGRAM, IN A SANDBOX (cutbox-rows.mjs): the forced cells as the released guide's own fill.sh prints them over the translation c2bf0ba38c9e9c65… (all of the seat's roots in one cut). By AI agents, Wed Nov 11 2026. No macro, syntax, notation, axiom, sorry.
-/
import Derived.Test.YtgabjgmimebelaaChecked
import GoSem.Claim
import GoSem.ClaimJoined
import GoSem.ClaimMapViews
import Derived.JoinedTies
import Derived.KernelRfl
namespace Go.Proofs.Ytgabjgmimebelaa
/- THE CELL 'sum', in the pinned program and in every row, IS THE sha256 OF THE DUMP (.gsa) THAT YtgabjgmimebelaaProg.lean LOADS. Nothing in Lean hashes anything: it is a label: what it is worth is what the hold of that sum in a sandbox is worth. -/
noncomputable def Try.pinned : Pinned := { name := "ytgabjgmimebelaa", sum := "c2bf0ba38c9e9c654a688493f5465e44a4c5eb2a74eb33a9f5dde83e3a04aaa7", checked := Try.checked }
namespace Rows
def none {H : Type} : Left H := { results := [], args := [] }

/-- 'portagelaw15.LocksClash': WHATEVER THE INPUT: true; the input reads as it did. -/
def locksClashSpec : ChangeSpec := { name := "locksClash", fn := fun _ => fun
  | [d1, d2] => { results := [.lit (.bool true)], args := [d1, d2] }
  | _ => none }
def locksClashRow : OpenClaim := { program := "ytgabjgmimebelaa", sum := "c2bf0ba38c9e9c654a688493f5465e44a4c5eb2a74eb33a9f5dde83e3a04aaa7", func := "portage/portagelaw15.LocksClash", spec := "locksClash", unfollowed := true, recurses := true, apart := false }
def LocksClashSaid : Prop := locksClashRow.holds Try.pinned (OpenSpec.ofChange locksClashSpec)

/-- ITS FALSE NEIGHBOUR: 'it returns false'. Refute it at one input. -/
def locksClashWrong : ChangeSpec := { name := "locksClash", fn := fun _ => fun
  | [d1, d2] => { results := [.lit (.bool false)], args := [d1, d2] }
  | _ => none }
def LocksClashWrongFalsely : Prop := locksClashRow.holds Try.pinned (OpenSpec.ofChange locksClashWrong)

/-- 'portagelaw15.LocksBlocks': WHATEVER THE INPUT: true; the input reads as it did. -/
def locksBlocksSpec : ChangeSpec := { name := "locksBlocks", fn := fun _ => fun
  | [d1, d2] => { results := [.lit (.bool true)], args := [d1, d2] }
  | _ => none }
def locksBlocksRow : OpenClaim := { program := "ytgabjgmimebelaa", sum := "c2bf0ba38c9e9c654a688493f5465e44a4c5eb2a74eb33a9f5dde83e3a04aaa7", func := "portage/portagelaw15.LocksBlocks", spec := "locksBlocks", unfollowed := true, recurses := true, apart := false }
def LocksBlocksSaid : Prop := locksBlocksRow.holds Try.pinned (OpenSpec.ofChange locksBlocksSpec)

/-- ITS FALSE NEIGHBOUR: 'it returns false'. Refute it at one input. -/
def locksBlocksWrong : ChangeSpec := { name := "locksBlocks", fn := fun _ => fun
  | [d1, d2] => { results := [.lit (.bool false)], args := [d1, d2] }
  | _ => none }
def LocksBlocksWrongFalsely : Prop := locksBlocksRow.holds Try.pinned (OpenSpec.ofChange locksBlocksWrong)

/-- 'portagelaw15.LocksWhole': WHATEVER THE INPUT: true; the input reads as it did. -/
def locksWholeSpec : ChangeSpec := { name := "locksWhole", fn := fun _ => fun
  | [d1, d2] => { results := [.lit (.bool true)], args := [d1, d2] }
  | _ => none }
def locksWholeRow : OpenClaim := { program := "ytgabjgmimebelaa", sum := "c2bf0ba38c9e9c654a688493f5465e44a4c5eb2a74eb33a9f5dde83e3a04aaa7", func := "portage/portagelaw15.LocksWhole", spec := "locksWhole", unfollowed := true, recurses := true, apart := false }
def LocksWholeSaid : Prop := locksWholeRow.holds Try.pinned (OpenSpec.ofChange locksWholeSpec)

/-- ITS FALSE NEIGHBOUR: 'it returns false'. Refute it at one input. -/
def locksWholeWrong : ChangeSpec := { name := "locksWhole", fn := fun _ => fun
  | [d1, d2] => { results := [.lit (.bool false)], args := [d1, d2] }
  | _ => none }
def LocksWholeWrongFalsely : Prop := locksWholeRow.holds Try.pinned (OpenSpec.ofChange locksWholeWrong)

/-- 'portagelaw15.LocksEnds': WHATEVER THE INPUT: true; the input reads as it did. -/
def locksEndsSpec : ChangeSpec := { name := "locksEnds", fn := fun _ => fun
  | [d1, d2] => { results := [.lit (.bool true)], args := [d1, d2] }
  | _ => none }
def locksEndsRow : OpenClaim := { program := "ytgabjgmimebelaa", sum := "c2bf0ba38c9e9c654a688493f5465e44a4c5eb2a74eb33a9f5dde83e3a04aaa7", func := "portage/portagelaw15.LocksEnds", spec := "locksEnds", unfollowed := true, recurses := true, apart := false }
def LocksEndsSaid : Prop := locksEndsRow.holds Try.pinned (OpenSpec.ofChange locksEndsSpec)

/-- ITS FALSE NEIGHBOUR: 'it returns false'. Refute it at one input. -/
def locksEndsWrong : ChangeSpec := { name := "locksEnds", fn := fun _ => fun
  | [d1, d2] => { results := [.lit (.bool false)], args := [d1, d2] }
  | _ => none }
def LocksEndsWrongFalsely : Prop := locksEndsRow.holds Try.pinned (OpenSpec.ofChange locksEndsWrong)

/-- 'portagelaw15.LocksReaders': WHATEVER THE INPUT: true; the input reads as it did. -/
def locksReadersSpec : ChangeSpec := { name := "locksReaders", fn := fun _ => fun
  | [d1, d2] => { results := [.lit (.bool true)], args := [d1, d2] }
  | _ => none }
def locksReadersRow : OpenClaim := { program := "ytgabjgmimebelaa", sum := "c2bf0ba38c9e9c654a688493f5465e44a4c5eb2a74eb33a9f5dde83e3a04aaa7", func := "portage/portagelaw15.LocksReaders", spec := "locksReaders", unfollowed := true, recurses := true, apart := false }
def LocksReadersSaid : Prop := locksReadersRow.holds Try.pinned (OpenSpec.ofChange locksReadersSpec)

/-- ITS FALSE NEIGHBOUR: 'it returns false'. Refute it at one input. -/
def locksReadersWrong : ChangeSpec := { name := "locksReaders", fn := fun _ => fun
  | [d1, d2] => { results := [.lit (.bool false)], args := [d1, d2] }
  | _ => none }
def LocksReadersWrongFalsely : Prop := locksReadersRow.holds Try.pinned (OpenSpec.ofChange locksReadersWrong)

/-- 'portagelaw15.LocksPlays': WHATEVER THE INPUT: true; the input reads as it did. -/
def locksPlaysSpec : ChangeSpec := { name := "locksPlays", fn := fun _ => fun
  | [d] => { results := [.lit (.bool true)], args := [d] }
  | _ => none }
def locksPlaysRow : OpenClaim := { program := "ytgabjgmimebelaa", sum := "c2bf0ba38c9e9c654a688493f5465e44a4c5eb2a74eb33a9f5dde83e3a04aaa7", func := "portage/portagelaw15.LocksPlays", spec := "locksPlays", inPlace := ["internal/reflectlite.TypeOf"], unfollowed := true, recurses := true, apart := false }
def LocksPlaysSaid : Prop := locksPlaysRow.holds Try.pinned (OpenSpec.ofChange locksPlaysSpec)

/-- ITS FALSE NEIGHBOUR: 'it returns false'. Refute it at one input. -/
def locksPlaysWrong : ChangeSpec := { name := "locksPlays", fn := fun _ => fun
  | [d] => { results := [.lit (.bool false)], args := [d] }
  | _ => none }
def LocksPlaysWrongFalsely : Prop := locksPlaysRow.holds Try.pinned (OpenSpec.ofChange locksPlaysWrong)

/- THE SECOND FORM. 'bulk': how many values and letters a reading holds, each counted each time it is reached (what is shared counts as often as it is met; a slice's spare places count too). A statement '..UptoSaid' is the law's where the arguments, and the package variables that the reading takes, are together of bulk at most 1048576: NARROWER than '..Said'. Prove '..Said' where nothing that the law and all that it calls make is longer than what came in: it says more and counts as full. Else prove '..UptoSaid'. A law counts once. -/
mutual
def uptoBulk {H : Type} : DataW H → Nat
  | .lit (.string bytes) => bytes.length + 1
  | .lit _ => 1
  | .nil => 1
  | .ptr d => uptoBulk d + 1
  | .slice elems spare => uptoBulkAll elems + uptoBulkAll spare + 1
  | .agg parts => uptoBulkAll parts + 1
  | .iface _ d => uptoBulk d + 1
  | .map entries => uptoBulkEntries entries + 1
  | .held _ => 1
def uptoBulkAll {H : Type} : List (DataW H) → Nat
  | [] => 0
  | d :: r => uptoBulk d + uptoBulkAll r
def uptoBulkEntries {H : Type} : List (Lit × DataW H) → Nat
  | [] => 0
  | x :: r => uptoBulkEntry x + uptoBulkEntries r
def uptoBulkEntry {H : Type} : Lit × DataW H → Nat
  | (.string bytes, d) => bytes.length + uptoBulk d + 1
  | (_, d) => uptoBulk d + 1
 end
def uptoSmall : (H : Type) → List (DataW H) → Bool := fun _ ds => decide (uptoBulkAll ds ≤ 1048576)
def OpenSpec.upto (s : _root_.Go.ChangeSpec) : _root_.Go.OpenSpec := { _root_.Go.OpenSpec.ofChange s with cond := some uptoSmall }

/-- 'portagelaw15.LocksClash', WHERE WHAT IT READS IS OF BULK AT MOST 1048576: true; the input reads as it did. -/
def locksClashUptoRow : OpenClaim := { program := "ytgabjgmimebelaa", sum := "c2bf0ba38c9e9c654a688493f5465e44a4c5eb2a74eb33a9f5dde83e3a04aaa7", func := "portage/portagelaw15.LocksClash", spec := "locksClash", unfollowed := true, recurses := true, apart := false, narrowed := true }
def LocksClashUptoSaid : Prop := locksClashUptoRow.holds Try.pinned (OpenSpec.upto locksClashSpec)

/-- 'portagelaw15.LocksBlocks', WHERE WHAT IT READS IS OF BULK AT MOST 1048576: true; the input reads as it did. -/
def locksBlocksUptoRow : OpenClaim := { program := "ytgabjgmimebelaa", sum := "c2bf0ba38c9e9c654a688493f5465e44a4c5eb2a74eb33a9f5dde83e3a04aaa7", func := "portage/portagelaw15.LocksBlocks", spec := "locksBlocks", unfollowed := true, recurses := true, apart := false, narrowed := true }
def LocksBlocksUptoSaid : Prop := locksBlocksUptoRow.holds Try.pinned (OpenSpec.upto locksBlocksSpec)

/-- 'portagelaw15.LocksWhole', WHERE WHAT IT READS IS OF BULK AT MOST 1048576: true; the input reads as it did. -/
def locksWholeUptoRow : OpenClaim := { program := "ytgabjgmimebelaa", sum := "c2bf0ba38c9e9c654a688493f5465e44a4c5eb2a74eb33a9f5dde83e3a04aaa7", func := "portage/portagelaw15.LocksWhole", spec := "locksWhole", unfollowed := true, recurses := true, apart := false, narrowed := true }
def LocksWholeUptoSaid : Prop := locksWholeUptoRow.holds Try.pinned (OpenSpec.upto locksWholeSpec)

/-- 'portagelaw15.LocksEnds', WHERE WHAT IT READS IS OF BULK AT MOST 1048576: true; the input reads as it did. -/
def locksEndsUptoRow : OpenClaim := { program := "ytgabjgmimebelaa", sum := "c2bf0ba38c9e9c654a688493f5465e44a4c5eb2a74eb33a9f5dde83e3a04aaa7", func := "portage/portagelaw15.LocksEnds", spec := "locksEnds", unfollowed := true, recurses := true, apart := false, narrowed := true }
def LocksEndsUptoSaid : Prop := locksEndsUptoRow.holds Try.pinned (OpenSpec.upto locksEndsSpec)

/-- 'portagelaw15.LocksReaders', WHERE WHAT IT READS IS OF BULK AT MOST 1048576: true; the input reads as it did. -/
def locksReadersUptoRow : OpenClaim := { program := "ytgabjgmimebelaa", sum := "c2bf0ba38c9e9c654a688493f5465e44a4c5eb2a74eb33a9f5dde83e3a04aaa7", func := "portage/portagelaw15.LocksReaders", spec := "locksReaders", unfollowed := true, recurses := true, apart := false, narrowed := true }
def LocksReadersUptoSaid : Prop := locksReadersUptoRow.holds Try.pinned (OpenSpec.upto locksReadersSpec)

/-- 'portagelaw15.LocksPlays', WHERE WHAT IT READS IS OF BULK AT MOST 1048576: true; the input reads as it did. -/
def locksPlaysUptoRow : OpenClaim := { program := "ytgabjgmimebelaa", sum := "c2bf0ba38c9e9c654a688493f5465e44a4c5eb2a74eb33a9f5dde83e3a04aaa7", func := "portage/portagelaw15.LocksPlays", spec := "locksPlays", inPlace := ["internal/reflectlite.TypeOf"], unfollowed := true, recurses := true, apart := false, narrowed := true }
def LocksPlaysUptoSaid : Prop := locksPlaysUptoRow.holds Try.pinned (OpenSpec.upto locksPlaysSpec)

end Rows
end Go.Proofs.Ytgabjgmimebelaa
