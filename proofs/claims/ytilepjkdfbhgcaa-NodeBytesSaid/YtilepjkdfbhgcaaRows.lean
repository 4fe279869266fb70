/-
  No cell of these rows narrows 'for every input' (looked for: loops, veiled, ifaces, maps, wideKeys, modest, calm, conditions, laid).
  DERIVED. THE GIVEN ROWS OF THIS SEAT. 8 by the template 'for every input the law returns true; each argument reads behind the call as it read before'; 0 by the template 'total and deterministic' (their statements: YtilepjkdfbhgcaaTotals.lean).
  GIVEN WITH THE SEED: the statements are not yours to turn. If you find one false, say at which input.
  Laid BY PROGRAM, IN A SANDBOX (cutbox-rows.mjs): the forced cells as the released guide's own fill.sh prints them over the translation 7d3660435e6e923c… (all of the seat's roots in one cut). By AI agents, Wed Nov 11 2026. No macro, syntax, notation, axiom, sorry.
-/
import Derived.Test.YtilepjkdfbhgcaaChecked
import GoSem.Claim
import GoSem.ClaimJoined
import GoSem.ClaimMapViews
import Derived.JoinedTies
import Derived.KernelRfl
namespace Go.Proofs.Ytilepjkdfbhgcaa
/- THE CELL 'sum', in the pinned program and in every row, IS THE sha256 OF THE DUMP (.gsa) THAT YtilepjkdfbhgcaaProg.lean LOADS. Nothing in Lean hashes anything: it is a label: what it is worth is what the hold of that sum in a sandbox is worth. -/
noncomputable def Try.pinned : Pinned := { name := "ytilepjkdfbhgcaa", sum := "7d3660435e6e923c5a4f03dc2669be1cfeb0a43d47f8beba3457710171886775", checked := Try.checked }
namespace Rows
def none {H : Type} : Left H := { results := [], args := [] }

/-- 'portagelaw10.NodeParts': WHATEVER THE INPUT: true; the input reads as it did. -/
def nodePartsSpec : ChangeSpec := { name := "nodeParts", fn := fun _ => fun
  | [d1, d2, d3] => { results := [.lit (.bool true)], args := [d1, d2, d3] }
  | _ => none }
def nodePartsRow : OpenClaim := { program := "ytilepjkdfbhgcaa", sum := "7d3660435e6e923c5a4f03dc2669be1cfeb0a43d47f8beba3457710171886775", func := "portage/portagelaw10.NodeParts", spec := "nodeParts", inPlace := ["slices.overlaps[portage/node.Pair]"], apart := false }
def NodePartsSaid : Prop := nodePartsRow.holds Try.pinned (OpenSpec.ofChange nodePartsSpec)

/-- ITS FALSE NEIGHBOUR: 'it returns false'. Refute it at one input. -/
def nodePartsWrong : ChangeSpec := { name := "nodeParts", fn := fun _ => fun
  | [d1, d2, d3] => { results := [.lit (.bool false)], args := [d1, d2, d3] }
  | _ => none }
def NodePartsWrongFalsely : Prop := nodePartsRow.holds Try.pinned (OpenSpec.ofChange nodePartsWrong)

/-- 'portagelaw10.NodeFinds': WHATEVER THE INPUT: true; the input reads as it did. -/
def nodeFindsSpec : ChangeSpec := { name := "nodeFinds", fn := fun _ => fun
  | [d] => { results := [.lit (.bool true)], args := [d] }
  | _ => none }
def nodeFindsRow : OpenClaim := { program := "ytilepjkdfbhgcaa", sum := "7d3660435e6e923c5a4f03dc2669be1cfeb0a43d47f8beba3457710171886775", func := "portage/portagelaw10.NodeFinds", spec := "nodeFinds", inPlace := ["slices.overlaps[portage/node.Pair]"], apart := false }
def NodeFindsSaid : Prop := nodeFindsRow.holds Try.pinned (OpenSpec.ofChange nodeFindsSpec)

/-- ITS FALSE NEIGHBOUR: 'it returns false'. Refute it at one input. -/
def nodeFindsWrong : ChangeSpec := { name := "nodeFinds", fn := fun _ => fun
  | [d] => { results := [.lit (.bool false)], args := [d] }
  | _ => none }
def NodeFindsWrongFalsely : Prop := nodeFindsRow.holds Try.pinned (OpenSpec.ofChange nodeFindsWrong)

/-- 'portagelaw10.NodeTwice': WHATEVER THE INPUT: true; the input reads as it did. -/
def nodeTwiceSpec : ChangeSpec := { name := "nodeTwice", fn := fun _ => fun
  | [d1, d2, d3] => { results := [.lit (.bool true)], args := [d1, d2, d3] }
  | _ => none }
def nodeTwiceRow : OpenClaim := { program := "ytilepjkdfbhgcaa", sum := "7d3660435e6e923c5a4f03dc2669be1cfeb0a43d47f8beba3457710171886775", func := "portage/portagelaw10.NodeTwice", spec := "nodeTwice", inPlace := ["slices.overlaps[portage/node.Pair]"], apart := false }
def NodeTwiceSaid : Prop := nodeTwiceRow.holds Try.pinned (OpenSpec.ofChange nodeTwiceSpec)

/-- ITS FALSE NEIGHBOUR: 'it returns false'. Refute it at one input. -/
def nodeTwiceWrong : ChangeSpec := { name := "nodeTwice", fn := fun _ => fun
  | [d1, d2, d3] => { results := [.lit (.bool false)], args := [d1, d2, d3] }
  | _ => none }
def NodeTwiceWrongFalsely : Prop := nodeTwiceRow.holds Try.pinned (OpenSpec.ofChange nodeTwiceWrong)

/-- 'portagelaw10.NodeBack': WHATEVER THE INPUT: true; the input reads as it did. -/
def nodeBackSpec : ChangeSpec := { name := "nodeBack", fn := fun _ => fun
  | [d1, d2, d3] => { results := [.lit (.bool true)], args := [d1, d2, d3] }
  | _ => none }
def nodeBackRow : OpenClaim := { program := "ytilepjkdfbhgcaa", sum := "7d3660435e6e923c5a4f03dc2669be1cfeb0a43d47f8beba3457710171886775", func := "portage/portagelaw10.NodeBack", spec := "nodeBack", inPlace := ["slices.overlaps[portage/node.Pair]"], apart := false }
def NodeBackSaid : Prop := nodeBackRow.holds Try.pinned (OpenSpec.ofChange nodeBackSpec)

/-- ITS FALSE NEIGHBOUR: 'it returns false'. Refute it at one input. -/
def nodeBackWrong : ChangeSpec := { name := "nodeBack", fn := fun _ => fun
  | [d1, d2, d3] => { results := [.lit (.bool false)], args := [d1, d2, d3] }
  | _ => none }
def NodeBackWrongFalsely : Prop := nodeBackRow.holds Try.pinned (OpenSpec.ofChange nodeBackWrong)

/-- 'portagelaw10.NodePuts': WHATEVER THE INPUT: true; the input reads as it did. -/
def nodePutsSpec : ChangeSpec := { name := "nodePuts", fn := fun _ => fun
  | [d1, d2, d3] => { results := [.lit (.bool true)], args := [d1, d2, d3] }
  | _ => none }
def nodePutsRow : OpenClaim := { program := "ytilepjkdfbhgcaa", sum := "7d3660435e6e923c5a4f03dc2669be1cfeb0a43d47f8beba3457710171886775", func := "portage/portagelaw10.NodePuts", spec := "nodePuts", inPlace := ["slices.overlaps[portage/node.Pair]", "internal/reflectlite.TypeOf"], unfollowed := true, recurses := true, apart := false }
def NodePutsSaid : Prop := nodePutsRow.holds Try.pinned (OpenSpec.ofChange nodePutsSpec)

/-- ITS FALSE NEIGHBOUR: 'it returns false'. Refute it at one input. -/
def nodePutsWrong : ChangeSpec := { name := "nodePuts", fn := fun _ => fun
  | [d1, d2, d3] => { results := [.lit (.bool false)], args := [d1, d2, d3] }
  | _ => none }
def NodePutsWrongFalsely : Prop := nodePutsRow.holds Try.pinned (OpenSpec.ofChange nodePutsWrong)

/-- 'portagelaw10.NodeDrops': WHATEVER THE INPUT: true; the input reads as it did. -/
def nodeDropsSpec : ChangeSpec := { name := "nodeDrops", fn := fun _ => fun
  | [d1, d2] => { results := [.lit (.bool true)], args := [d1, d2] }
  | _ => none }
def nodeDropsRow : OpenClaim := { program := "ytilepjkdfbhgcaa", sum := "7d3660435e6e923c5a4f03dc2669be1cfeb0a43d47f8beba3457710171886775", func := "portage/portagelaw10.NodeDrops", spec := "nodeDrops", inPlace := ["slices.overlaps[portage/node.Pair]", "internal/reflectlite.TypeOf"], unfollowed := true, recurses := true, apart := false }
def NodeDropsSaid : Prop := nodeDropsRow.holds Try.pinned (OpenSpec.ofChange nodeDropsSpec)

/-- ITS FALSE NEIGHBOUR: 'it returns false'. Refute it at one input. -/
def nodeDropsWrong : ChangeSpec := { name := "nodeDrops", fn := fun _ => fun
  | [d1, d2] => { results := [.lit (.bool false)], args := [d1, d2] }
  | _ => none }
def NodeDropsWrongFalsely : Prop := nodeDropsRow.holds Try.pinned (OpenSpec.ofChange nodeDropsWrong)

/-- 'portagelaw10.NodeChanges': WHATEVER THE INPUT: true; the input reads as it did. -/
def nodeChangesSpec : ChangeSpec := { name := "nodeChanges", fn := fun _ => fun
  | [d1, d2, d3] => { results := [.lit (.bool true)], args := [d1, d2, d3] }
  | _ => none }
def nodeChangesRow : OpenClaim := { program := "ytilepjkdfbhgcaa", sum := "7d3660435e6e923c5a4f03dc2669be1cfeb0a43d47f8beba3457710171886775", func := "portage/portagelaw10.NodeChanges", spec := "nodeChanges", inPlace := ["slices.overlaps[portage/node.Pair]", "internal/reflectlite.TypeOf"], unfollowed := true, recurses := true, apart := false }
def NodeChangesSaid : Prop := nodeChangesRow.holds Try.pinned (OpenSpec.ofChange nodeChangesSpec)

/-- ITS FALSE NEIGHBOUR: 'it returns false'. Refute it at one input. -/
def nodeChangesWrong : ChangeSpec := { name := "nodeChanges", fn := fun _ => fun
  | [d1, d2, d3] => { results := [.lit (.bool false)], args := [d1, d2, d3] }
  | _ => none }
def NodeChangesWrongFalsely : Prop := nodeChangesRow.holds Try.pinned (OpenSpec.ofChange nodeChangesWrong)

/-- 'portagelaw10.NodeBytes': WHATEVER THE INPUT: true; the input reads as it did. -/
def nodeBytesSpec : ChangeSpec := { name := "nodeBytes", fn := fun _ => fun
  | [d1, d2, d3] => { results := [.lit (.bool true)], args := [d1, d2, d3] }
  | _ => none }
def nodeBytesRow : OpenClaim := { program := "ytilepjkdfbhgcaa", sum := "7d3660435e6e923c5a4f03dc2669be1cfeb0a43d47f8beba3457710171886775", func := "portage/portagelaw10.NodeBytes", spec := "nodeBytes", inPlace := ["slices.overlaps[portage/node.Pair]", "internal/reflectlite.TypeOf"], unfollowed := true, recurses := true, apart := false }
def NodeBytesSaid : Prop := nodeBytesRow.holds Try.pinned (OpenSpec.ofChange nodeBytesSpec)

/-- ITS FALSE NEIGHBOUR: 'it returns false'. Refute it at one input. -/
def nodeBytesWrong : ChangeSpec := { name := "nodeBytes", fn := fun _ => fun
  | [d1, d2, d3] => { results := [.lit (.bool false)], args := [d1, d2, d3] }
  | _ => none }
def NodeBytesWrongFalsely : Prop := nodeBytesRow.holds Try.pinned (OpenSpec.ofChange nodeBytesWrong)

/- THE SECOND FORM. 'bulk': how many values and letters a reading holds, each counted each time it is reached (what is shared counts as often as it is met; a slice's spare places count too). A statement '..UptoSaid' is the law's where the arguments, and the package variables that the reading takes, are together of bulk at most 1048576: NARROWER than '..Said'. Prove '..Said' where nothing that the law and all that it calls make is longer than what came in: it says more and counts as full. Else prove '..UptoSaid'. A law counts once. -/
mutual
def uptoBulk {H : Type} : DataW H → Nat
  | .lit (.string bytes) => bytes.length + 1
  | .lit _ => 1
  | .nil => 1
  | .ptr d => uptoBulk d + 1
  | .slice elems spare => uptoBulkAll elems + uptoBulkAll spare + 1
  | .agg parts => uptoBulkAll parts + 1
  | .iface _ d => uptoBulk d + 1
  | .map entries => uptoBulkEntries entries + 1
  | .held _ => 1
def uptoBulkAll {H : Type} : List (DataW H) → Nat
  | [] => 0
  | d :: r => uptoBulk d + uptoBulkAll r
def uptoBulkEntries {H : Type} : List (Lit × DataW H) → Nat
  | [] => 0
  | x :: r => uptoBulkEntry x + uptoBulkEntries r
def uptoBulkEntry {H : Type} : Lit × DataW H → Nat
  | (.string bytes, d) => bytes.length + uptoBulk d + 1
  | (_, d) => uptoBulk d + 1
 end
def uptoSmall : (H : Type) → List (DataW H) → Bool := fun _ ds => decide (uptoBulkAll ds ≤ 1048576)
def OpenSpec.upto (s : _root_.Go.ChangeSpec) : _root_.Go.OpenSpec := { _root_.Go.OpenSpec.ofChange s with cond := some uptoSmall }

/-- 'portagelaw10.NodeParts', WHERE WHAT IT READS IS OF BULK AT MOST 1048576: true; the input reads as it did. -/
def nodePartsUptoRow : OpenClaim := { program := "ytilepjkdfbhgcaa", sum := "7d3660435e6e923c5a4f03dc2669be1cfeb0a43d47f8beba3457710171886775", func := "portage/portagelaw10.NodeParts", spec := "nodeParts", inPlace := ["slices.overlaps[portage/node.Pair]"], apart := false, narrowed := true }
def NodePartsUptoSaid : Prop := nodePartsUptoRow.holds Try.pinned (OpenSpec.upto nodePartsSpec)

/-- 'portagelaw10.NodeFinds', WHERE WHAT IT READS IS OF BULK AT MOST 1048576: true; the input reads as it did. -/
def nodeFindsUptoRow : OpenClaim := { program := "ytilepjkdfbhgcaa", sum := "7d3660435e6e923c5a4f03dc2669be1cfeb0a43d47f8beba3457710171886775", func := "portage/portagelaw10.NodeFinds", spec := "nodeFinds", inPlace := ["slices.overlaps[portage/node.Pair]"], apart := false, narrowed := true }
def NodeFindsUptoSaid : Prop := nodeFindsUptoRow.holds Try.pinned (OpenSpec.upto nodeFindsSpec)

/-- 'portagelaw10.NodeTwice', WHERE WHAT IT READS IS OF BULK AT MOST 1048576: true; the input reads as it did. -/
def nodeTwiceUptoRow : OpenClaim := { program := "ytilepjkdfbhgcaa", sum := "7d3660435e6e923c5a4f03dc2669be1cfeb0a43d47f8beba3457710171886775", func := "portage/portagelaw10.NodeTwice", spec := "nodeTwice", inPlace := ["slices.overlaps[portage/node.Pair]"], apart := false, narrowed := true }
def NodeTwiceUptoSaid : Prop := nodeTwiceUptoRow.holds Try.pinned (OpenSpec.upto nodeTwiceSpec)

/-- 'portagelaw10.NodeBack', WHERE WHAT IT READS IS OF BULK AT MOST 1048576: true; the input reads as it did. -/
def nodeBackUptoRow : OpenClaim := { program := "ytilepjkdfbhgcaa", sum := "7d3660435e6e923c5a4f03dc2669be1cfeb0a43d47f8beba3457710171886775", func := "portage/portagelaw10.NodeBack", spec := "nodeBack", inPlace := ["slices.overlaps[portage/node.Pair]"], apart := false, narrowed := true }
def NodeBackUptoSaid : Prop := nodeBackUptoRow.holds Try.pinned (OpenSpec.upto nodeBackSpec)

/-- 'portagelaw10.NodePuts', WHERE WHAT IT READS IS OF BULK AT MOST 1048576: true; the input reads as it did. -/
def nodePutsUptoRow : OpenClaim := { program := "ytilepjkdfbhgcaa", sum := "7d3660435e6e923c5a4f03dc2669be1cfeb0a43d47f8beba3457710171886775", func := "portage/portagelaw10.NodePuts", spec := "nodePuts", inPlace := ["slices.overlaps[portage/node.Pair]", "internal/reflectlite.TypeOf"], unfollowed := true, recurses := true, apart := false, narrowed := true }
def NodePutsUptoSaid : Prop := nodePutsUptoRow.holds Try.pinned (OpenSpec.upto nodePutsSpec)

/-- 'portagelaw10.NodeDrops', WHERE WHAT IT READS IS OF BULK AT MOST 1048576: true; the input reads as it did. -/
def nodeDropsUptoRow : OpenClaim := { program := "ytilepjkdfbhgcaa", sum := "7d3660435e6e923c5a4f03dc2669be1cfeb0a43d47f8beba3457710171886775", func := "portage/portagelaw10.NodeDrops", spec := "nodeDrops", inPlace := ["slices.overlaps[portage/node.Pair]", "internal/reflectlite.TypeOf"], unfollowed := true, recurses := true, apart := false, narrowed := true }
def NodeDropsUptoSaid : Prop := nodeDropsUptoRow.holds Try.pinned (OpenSpec.upto nodeDropsSpec)

/-- 'portagelaw10.NodeChanges', WHERE WHAT IT READS IS OF BULK AT MOST 1048576: true; the input reads as it did. -/
def nodeChangesUptoRow : OpenClaim := { program := "ytilepjkdfbhgcaa", sum := "7d3660435e6e923c5a4f03dc2669be1cfeb0a43d47f8beba3457710171886775", func := "portage/portagelaw10.NodeChanges", spec := "nodeChanges", inPlace := ["slices.overlaps[portage/node.Pair]", "internal/reflectlite.TypeOf"], unfollowed := true, recurses := true, apart := false, narrowed := true }
def NodeChangesUptoSaid : Prop := nodeChangesUptoRow.holds Try.pinned (OpenSpec.upto nodeChangesSpec)

/-- 'portagelaw10.NodeBytes', WHERE WHAT IT READS IS OF BULK AT MOST 1048576: true; the input reads as it did. -/
def nodeBytesUptoRow : OpenClaim := { program := "ytilepjkdfbhgcaa", sum := "7d3660435e6e923c5a4f03dc2669be1cfeb0a43d47f8beba3457710171886775", func := "portage/portagelaw10.NodeBytes", spec := "nodeBytes", inPlace := ["slices.overlaps[portage/node.Pair]", "internal/reflectlite.TypeOf"], unfollowed := true, recurses := true, apart := false, narrowed := true }
def NodeBytesUptoSaid : Prop := nodeBytesUptoRow.holds Try.pinned (OpenSpec.upto nodeBytesSpec)

end Rows
end Go.Proofs.Ytilepjkdfbhgcaa
