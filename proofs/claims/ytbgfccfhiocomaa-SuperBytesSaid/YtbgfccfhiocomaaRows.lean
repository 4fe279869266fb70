/-
  No cell of these rows narrows 'for every input' (looked for: loops, veiled, ifaces, maps, wideKeys, modest, calm, conditions, laid).
  DERIVED. THE GIVEN ROWS OF THIS SEAT. 4 by the template 'for every input the law returns true; each argument reads behind the call as it read before'; 0 by the template 'total and deterministic' (their statements: YtbgfccfhiocomaaTotals.lean).
  GIVEN WITH THE SEED: the statements are not yours to turn. If you find one false, say at which input.
  Laid BY PROGRAM, IN A SANDBOX (cutbox-rows.mjs): the forced cells as the released guide's own fill.sh prints them over the translation 2d97166b7e82f0b9… (all of the seat's roots in one cut). By AI agents, Wed Nov 11 2026. No macro, syntax, notation, axiom, sorry.
-/
import Derived.Test.YtbgfccfhiocomaaChecked
import GoSem.Claim
import GoSem.ClaimJoined
import GoSem.ClaimMapViews
import Derived.JoinedTies
import Derived.KernelRfl
namespace Go.Proofs.Ytbgfccfhiocomaa
/- THE CELL 'sum', in the pinned program and in every row, IS THE sha256 OF THE DUMP (.gsa) THAT YtbgfccfhiocomaaProg.lean LOADS. Nothing in Lean hashes anything: it is a label: what it is worth is what the hold of that sum in a sandbox is worth. -/
noncomputable def Try.pinned : Pinned := { name := "ytbgfccfhiocomaa", sum := "2d97166b7e82f0b9f022e2939c79e2c551032baa97c33f003339c6b7555ef5ec", checked := Try.checked }
namespace Rows
def none {H : Type} : Left H := { results := [], args := [] }

/-- 'portagelaw06.SuperBytes': WHATEVER THE INPUT: true; the input reads as it did. -/
def superBytesSpec : ChangeSpec := { name := "superBytes", fn := fun _ => fun
  | [d1, d2, d3] => { results := [.lit (.bool true)], args := [d1, d2, d3] }
  | _ => none }
def superBytesRow : OpenClaim := { program := "ytbgfccfhiocomaa", sum := "2d97166b7e82f0b9f022e2939c79e2c551032baa97c33f003339c6b7555ef5ec", func := "portage/portagelaw06.SuperBytes", spec := "superBytes", inPlace := ["internal/reflectlite.TypeOf"], unfollowed := true, recurses := true, apart := false }
def SuperBytesSaid : Prop := superBytesRow.holds Try.pinned (OpenSpec.ofChange superBytesSpec)

/-- ITS FALSE NEIGHBOUR: 'it returns false'. Refute it at one input. -/
def superBytesWrong : ChangeSpec := { name := "superBytes", fn := fun _ => fun
  | [d1, d2, d3] => { results := [.lit (.bool false)], args := [d1, d2, d3] }
  | _ => none }
def SuperBytesWrongFalsely : Prop := superBytesRow.holds Try.pinned (OpenSpec.ofChange superBytesWrong)

/-- 'portagelaw06.SuperSlots': WHATEVER THE INPUT: true; the input reads as it did. -/
def superSlotsSpec : ChangeSpec := { name := "superSlots", fn := fun _ => fun
  | [d1, d2] => { results := [.lit (.bool true)], args := [d1, d2] }
  | _ => none }
def superSlotsRow : OpenClaim := { program := "ytbgfccfhiocomaa", sum := "2d97166b7e82f0b9f022e2939c79e2c551032baa97c33f003339c6b7555ef5ec", func := "portage/portagelaw06.SuperSlots", spec := "superSlots", unfollowed := true, recurses := true, apart := false }
def SuperSlotsSaid : Prop := superSlotsRow.holds Try.pinned (OpenSpec.ofChange superSlotsSpec)

/-- ITS FALSE NEIGHBOUR: 'it returns false'. Refute it at one input. -/
def superSlotsWrong : ChangeSpec := { name := "superSlots", fn := fun _ => fun
  | [d1, d2] => { results := [.lit (.bool false)], args := [d1, d2] }
  | _ => none }
def SuperSlotsWrongFalsely : Prop := superSlotsRow.holds Try.pinned (OpenSpec.ofChange superSlotsWrong)

/-- 'portagelaw06.SuperOthers': WHATEVER THE INPUT: true; the input reads as it did. -/
def superOthersSpec : ChangeSpec := { name := "superOthers", fn := fun _ => fun
  | [d] => { results := [.lit (.bool true)], args := [d] }
  | _ => none }
def superOthersRow : OpenClaim := { program := "ytbgfccfhiocomaa", sum := "2d97166b7e82f0b9f022e2939c79e2c551032baa97c33f003339c6b7555ef5ec", func := "portage/portagelaw06.SuperOthers", spec := "superOthers", unfollowed := true, recurses := true, apart := false }
def SuperOthersSaid : Prop := superOthersRow.holds Try.pinned (OpenSpec.ofChange superOthersSpec)

/-- ITS FALSE NEIGHBOUR: 'it returns false'. Refute it at one input. -/
def superOthersWrong : ChangeSpec := { name := "superOthers", fn := fun _ => fun
  | [d] => { results := [.lit (.bool false)], args := [d] }
  | _ => none }
def SuperOthersWrongFalsely : Prop := superOthersRow.holds Try.pinned (OpenSpec.ofChange superOthersWrong)

/-- 'portagelaw06.SuperCrash': WHATEVER THE INPUT: true; the input reads as it did. -/
def superCrashSpec : ChangeSpec := { name := "superCrash", fn := fun _ => fun
  | [d] => { results := [.lit (.bool true)], args := [d] }
  | _ => none }
def superCrashRow : OpenClaim := { program := "ytbgfccfhiocomaa", sum := "2d97166b7e82f0b9f022e2939c79e2c551032baa97c33f003339c6b7555ef5ec", func := "portage/portagelaw06.SuperCrash", spec := "superCrash", unfollowed := true, recurses := true, apart := false }
def SuperCrashSaid : Prop := superCrashRow.holds Try.pinned (OpenSpec.ofChange superCrashSpec)

/-- ITS FALSE NEIGHBOUR: 'it returns false'. Refute it at one input. -/
def superCrashWrong : ChangeSpec := { name := "superCrash", fn := fun _ => fun
  | [d] => { results := [.lit (.bool false)], args := [d] }
  | _ => none }
def SuperCrashWrongFalsely : Prop := superCrashRow.holds Try.pinned (OpenSpec.ofChange superCrashWrong)

/- THE SECOND FORM. 'bulk': how many values and letters a reading holds, each counted each time it is reached (what is shared counts as often as it is met; a slice's spare places count too). A statement '..UptoSaid' is the law's where the arguments, and the package variables that the reading takes, are together of bulk at most 1048576: NARROWER than '..Said'. Prove '..Said' where nothing that the law and all that it calls make is longer than what came in: it says more and counts as full. Else prove '..UptoSaid'. A law counts once. -/
mutual
def uptoBulk {H : Type} : DataW H → Nat
  | .lit (.string bytes) => bytes.length + 1
  | .lit _ => 1
  | .nil => 1
  | .ptr d => uptoBulk d + 1
  | .slice elems spare => uptoBulkAll elems + uptoBulkAll spare + 1
  | .agg parts => uptoBulkAll parts + 1
  | .iface _ d => uptoBulk d + 1
  | .map entries => uptoBulkEntries entries + 1
  | .held _ => 1
def uptoBulkAll {H : Type} : List (DataW H) → Nat
  | [] => 0
  | d :: r => uptoBulk d + uptoBulkAll r
def uptoBulkEntries {H : Type} : List (Lit × DataW H) → Nat
  | [] => 0
  | x :: r => uptoBulkEntry x + uptoBulkEntries r
def uptoBulkEntry {H : Type} : Lit × DataW H → Nat
  | (.string bytes, d) => bytes.length + uptoBulk d + 1
  | (_, d) => uptoBulk d + 1
 end
def uptoSmall : (H : Type) → List (DataW H) → Bool := fun _ ds => decide (uptoBulkAll ds ≤ 1048576)
def OpenSpec.upto (s : _root_.Go.ChangeSpec) : _root_.Go.OpenSpec := { _root_.Go.OpenSpec.ofChange s with cond := some uptoSmall }

/-- 'portagelaw06.SuperBytes', WHERE WHAT IT READS IS OF BULK AT MOST 1048576: true; the input reads as it did. -/
def superBytesUptoRow : OpenClaim := { program := "ytbgfccfhiocomaa", sum := "2d97166b7e82f0b9f022e2939c79e2c551032baa97c33f003339c6b7555ef5ec", func := "portage/portagelaw06.SuperBytes", spec := "superBytes", inPlace := ["internal/reflectlite.TypeOf"], unfollowed := true, recurses := true, apart := false, narrowed := true }
def SuperBytesUptoSaid : Prop := superBytesUptoRow.holds Try.pinned (OpenSpec.upto superBytesSpec)

/-- 'portagelaw06.SuperSlots', WHERE WHAT IT READS IS OF BULK AT MOST 1048576: true; the input reads as it did. -/
def superSlotsUptoRow : OpenClaim := { program := "ytbgfccfhiocomaa", sum := "2d97166b7e82f0b9f022e2939c79e2c551032baa97c33f003339c6b7555ef5ec", func := "portage/portagelaw06.SuperSlots", spec := "superSlots", unfollowed := true, recurses := true, apart := false, narrowed := true }
def SuperSlotsUptoSaid : Prop := superSlotsUptoRow.holds Try.pinned (OpenSpec.upto superSlotsSpec)

/-- 'portagelaw06.SuperOthers', WHERE WHAT IT READS IS OF BULK AT MOST 1048576: true; the input reads as it did. -/
def superOthersUptoRow : OpenClaim := { program := "ytbgfccfhiocomaa", sum := "2d97166b7e82f0b9f022e2939c79e2c551032baa97c33f003339c6b7555ef5ec", func := "portage/portagelaw06.SuperOthers", spec := "superOthers", unfollowed := true, recurses := true, apart := false, narrowed := true }
def SuperOthersUptoSaid : Prop := superOthersUptoRow.holds Try.pinned (OpenSpec.upto superOthersSpec)

/-- 'portagelaw06.SuperCrash', WHERE WHAT IT READS IS OF BULK AT MOST 1048576: true; the input reads as it did. -/
def superCrashUptoRow : OpenClaim := { program := "ytbgfccfhiocomaa", sum := "2d97166b7e82f0b9f022e2939c79e2c551032baa97c33f003339c6b7555ef5ec", func := "portage/portagelaw06.SuperCrash", spec := "superCrash", unfollowed := true, recurses := true, apart := false, narrowed := true }
def SuperCrashUptoSaid : Prop := superCrashUptoRow.holds Try.pinned (OpenSpec.upto superCrashSpec)

end Rows
end Go.Proofs.Ytbgfccfhiocomaa
