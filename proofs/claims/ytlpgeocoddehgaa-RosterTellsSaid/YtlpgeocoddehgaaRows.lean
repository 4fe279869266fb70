/-
  No cell of these rows narrows 'for every input' (looked for: loops, veiled, ifaces, maps, wideKeys, modest, calm, conditions, laid).
  DERIVED. THE GIVEN ROWS OF THIS SEAT. 7 by the template 'for every input the law returns true; each argument reads behind the call as it read before'; 0 by the template 'total and deterministic' (their statements: YtlpgeocoddehgaaTotals.lean).
  GIVEN WITH THE SEED: the statements are not yours to turn. If you find one false, say at which input.
  Laid BY PROGRAM, IN A SANDBOX (cutbox-rows.mjs): the forced cells as the released guide's own fill.sh prints them over the translation 6d2a51cd4b592b51… (all of the seat's roots in one cut). By AI agents, Wed Nov 11 2026. No macro, syntax, notation, axiom, sorry.
-/
import Derived.Test.YtlpgeocoddehgaaChecked
import GoSem.Claim
import GoSem.ClaimJoined
import GoSem.ClaimMapViews
import Derived.JoinedTies
import Derived.KernelRfl
namespace Go.Proofs.Ytlpgeocoddehgaa
/- THE CELL 'sum', in the pinned program and in every row, IS THE sha256 OF THE DUMP (.gsa) THAT YtlpgeocoddehgaaProg.lean LOADS. Nothing in Lean hashes anything: it is a label: what it is worth is what the hold of that sum in a sandbox is worth. -/
noncomputable def Try.pinned : Pinned := { name := "ytlpgeocoddehgaa", sum := "6d2a51cd4b592b51061ea6ef0da960c72f6f6c5d68f36477592dea4eac1715b4", checked := Try.checked }
namespace Rows
def none {H : Type} : Left H := { results := [], args := [] }

/-- 'portagelaw05.RosterGrows': WHATEVER THE INPUT: true; the input reads as it did. -/
def rosterGrowsSpec : ChangeSpec := { name := "rosterGrows", fn := fun _ => fun
  | [d1, d2, d3] => { results := [.lit (.bool true)], args := [d1, d2, d3] }
  | _ => none }
def rosterGrowsRow : OpenClaim := { program := "ytlpgeocoddehgaa", sum := "6d2a51cd4b592b51061ea6ef0da960c72f6f6c5d68f36477592dea4eac1715b4", func := "portage/portagelaw05.RosterGrows", spec := "rosterGrows", unfollowed := true, recurses := true, apart := false }
def RosterGrowsSaid : Prop := rosterGrowsRow.holds Try.pinned (OpenSpec.ofChange rosterGrowsSpec)

/-- ITS FALSE NEIGHBOUR: 'it returns false'. Refute it at one input. -/
def rosterGrowsWrong : ChangeSpec := { name := "rosterGrows", fn := fun _ => fun
  | [d1, d2, d3] => { results := [.lit (.bool false)], args := [d1, d2, d3] }
  | _ => none }
def RosterGrowsWrongFalsely : Prop := rosterGrowsRow.holds Try.pinned (OpenSpec.ofChange rosterGrowsWrong)

/-- 'portagelaw05.RosterLasts': WHATEVER THE INPUT: true; the input reads as it did. -/
def rosterLastsSpec : ChangeSpec := { name := "rosterLasts", fn := fun _ => fun
  | [d] => { results := [.lit (.bool true)], args := [d] }
  | _ => none }
def rosterLastsRow : OpenClaim := { program := "ytlpgeocoddehgaa", sum := "6d2a51cd4b592b51061ea6ef0da960c72f6f6c5d68f36477592dea4eac1715b4", func := "portage/portagelaw05.RosterLasts", spec := "rosterLasts", unfollowed := true, recurses := true, apart := false }
def RosterLastsSaid : Prop := rosterLastsRow.holds Try.pinned (OpenSpec.ofChange rosterLastsSpec)

/-- ITS FALSE NEIGHBOUR: 'it returns false'. Refute it at one input. -/
def rosterLastsWrong : ChangeSpec := { name := "rosterLasts", fn := fun _ => fun
  | [d] => { results := [.lit (.bool false)], args := [d] }
  | _ => none }
def RosterLastsWrongFalsely : Prop := rosterLastsRow.holds Try.pinned (OpenSpec.ofChange rosterLastsWrong)

/-- 'portagelaw05.RosterTurns': WHATEVER THE INPUT: true; the input reads as it did. -/
def rosterTurnsSpec : ChangeSpec := { name := "rosterTurns", fn := fun _ => fun
  | [d1, d2, d3] => { results := [.lit (.bool true)], args := [d1, d2, d3] }
  | _ => none }
def rosterTurnsRow : OpenClaim := { program := "ytlpgeocoddehgaa", sum := "6d2a51cd4b592b51061ea6ef0da960c72f6f6c5d68f36477592dea4eac1715b4", func := "portage/portagelaw05.RosterTurns", spec := "rosterTurns", inPlace := ["internal/reflectlite.TypeOf"], unfollowed := true, recurses := true, apart := false }
def RosterTurnsSaid : Prop := rosterTurnsRow.holds Try.pinned (OpenSpec.ofChange rosterTurnsSpec)

/-- ITS FALSE NEIGHBOUR: 'it returns false'. Refute it at one input. -/
def rosterTurnsWrong : ChangeSpec := { name := "rosterTurns", fn := fun _ => fun
  | [d1, d2, d3] => { results := [.lit (.bool false)], args := [d1, d2, d3] }
  | _ => none }
def RosterTurnsWrongFalsely : Prop := rosterTurnsRow.holds Try.pinned (OpenSpec.ofChange rosterTurnsWrong)

/-- 'portagelaw05.RosterBack': WHATEVER THE INPUT: true; the input reads as it did. -/
def rosterBackSpec : ChangeSpec := { name := "rosterBack", fn := fun _ => fun
  | [d1, d2] => { results := [.lit (.bool true)], args := [d1, d2] }
  | _ => none }
def rosterBackRow : OpenClaim := { program := "ytlpgeocoddehgaa", sum := "6d2a51cd4b592b51061ea6ef0da960c72f6f6c5d68f36477592dea4eac1715b4", func := "portage/portagelaw05.RosterBack", spec := "rosterBack", inPlace := ["internal/reflectlite.TypeOf"], unfollowed := true, recurses := true, apart := false }
def RosterBackSaid : Prop := rosterBackRow.holds Try.pinned (OpenSpec.ofChange rosterBackSpec)

/-- ITS FALSE NEIGHBOUR: 'it returns false'. Refute it at one input. -/
def rosterBackWrong : ChangeSpec := { name := "rosterBack", fn := fun _ => fun
  | [d1, d2] => { results := [.lit (.bool false)], args := [d1, d2] }
  | _ => none }
def RosterBackWrongFalsely : Prop := rosterBackRow.holds Try.pinned (OpenSpec.ofChange rosterBackWrong)

/-- 'portagelaw05.RosterTells': WHATEVER THE INPUT: true; the input reads as it did. -/
def rosterTellsSpec : ChangeSpec := { name := "rosterTells", fn := fun _ => fun
  | [d1, d2, d3] => { results := [.lit (.bool true)], args := [d1, d2, d3] }
  | _ => none }
def rosterTellsRow : OpenClaim := { program := "ytlpgeocoddehgaa", sum := "6d2a51cd4b592b51061ea6ef0da960c72f6f6c5d68f36477592dea4eac1715b4", func := "portage/portagelaw05.RosterTells", spec := "rosterTells", inPlace := ["internal/reflectlite.TypeOf"], unfollowed := true, recurses := true, apart := false }
def RosterTellsSaid : Prop := rosterTellsRow.holds Try.pinned (OpenSpec.ofChange rosterTellsSpec)

/-- ITS FALSE NEIGHBOUR: 'it returns false'. Refute it at one input. -/
def rosterTellsWrong : ChangeSpec := { name := "rosterTells", fn := fun _ => fun
  | [d1, d2, d3] => { results := [.lit (.bool false)], args := [d1, d2, d3] }
  | _ => none }
def RosterTellsWrongFalsely : Prop := rosterTellsRow.holds Try.pinned (OpenSpec.ofChange rosterTellsWrong)

/-- 'portagelaw05.RosterParses': WHATEVER THE INPUT: true; the input reads as it did. -/
def rosterParsesSpec : ChangeSpec := { name := "rosterParses", fn := fun _ => fun
  | [d1, d2] => { results := [.lit (.bool true)], args := [d1, d2] }
  | _ => none }
def rosterParsesRow : OpenClaim := { program := "ytlpgeocoddehgaa", sum := "6d2a51cd4b592b51061ea6ef0da960c72f6f6c5d68f36477592dea4eac1715b4", func := "portage/portagelaw05.RosterParses", spec := "rosterParses", inPlace := ["internal/reflectlite.TypeOf"], unfollowed := true, recurses := true, apart := false }
def RosterParsesSaid : Prop := rosterParsesRow.holds Try.pinned (OpenSpec.ofChange rosterParsesSpec)

/-- ITS FALSE NEIGHBOUR: 'it returns false'. Refute it at one input. -/
def rosterParsesWrong : ChangeSpec := { name := "rosterParses", fn := fun _ => fun
  | [d1, d2] => { results := [.lit (.bool false)], args := [d1, d2] }
  | _ => none }
def RosterParsesWrongFalsely : Prop := rosterParsesRow.holds Try.pinned (OpenSpec.ofChange rosterParsesWrong)

/-- 'portagelaw05.RosterForms': WHATEVER THE INPUT: true; the input reads as it did. -/
def rosterFormsSpec : ChangeSpec := { name := "rosterForms", fn := fun _ => fun
  | [d1, d2] => { results := [.lit (.bool true)], args := [d1, d2] }
  | _ => none }
def rosterFormsRow : OpenClaim := { program := "ytlpgeocoddehgaa", sum := "6d2a51cd4b592b51061ea6ef0da960c72f6f6c5d68f36477592dea4eac1715b4", func := "portage/portagelaw05.RosterForms", spec := "rosterForms", inPlace := ["internal/reflectlite.TypeOf"], unfollowed := true, recurses := true, apart := false }
def RosterFormsSaid : Prop := rosterFormsRow.holds Try.pinned (OpenSpec.ofChange rosterFormsSpec)

/-- ITS FALSE NEIGHBOUR: 'it returns false'. Refute it at one input. -/
def rosterFormsWrong : ChangeSpec := { name := "rosterForms", fn := fun _ => fun
  | [d1, d2] => { results := [.lit (.bool false)], args := [d1, d2] }
  | _ => none }
def RosterFormsWrongFalsely : Prop := rosterFormsRow.holds Try.pinned (OpenSpec.ofChange rosterFormsWrong)

/- THE SECOND FORM. 'bulk': how many values and letters a reading holds, each counted each time it is reached (what is shared counts as often as it is met; a slice's spare places count too). A statement '..UptoSaid' is the law's where the arguments, and the package variables that the reading takes, are together of bulk at most 1048576: NARROWER than '..Said'. Prove '..Said' where nothing that the law and all that it calls make is longer than what came in: it says more and counts as full. Else prove '..UptoSaid'. A law counts once. -/
mutual
def uptoBulk {H : Type} : DataW H → Nat
  | .lit (.string bytes) => bytes.length + 1
  | .lit _ => 1
  | .nil => 1
  | .ptr d => uptoBulk d + 1
  | .slice elems spare => uptoBulkAll elems + uptoBulkAll spare + 1
  | .agg parts => uptoBulkAll parts + 1
  | .iface _ d => uptoBulk d + 1
  | .map entries => uptoBulkEntries entries + 1
  | .held _ => 1
def uptoBulkAll {H : Type} : List (DataW H) → Nat
  | [] => 0
  | d :: r => uptoBulk d + uptoBulkAll r
def uptoBulkEntries {H : Type} : List (Lit × DataW H) → Nat
  | [] => 0
  | x :: r => uptoBulkEntry x + uptoBulkEntries r
def uptoBulkEntry {H : Type} : Lit × DataW H → Nat
  | (.string bytes, d) => bytes.length + uptoBulk d + 1
  | (_, d) => uptoBulk d + 1
 end
def uptoSmall : (H : Type) → List (DataW H) → Bool := fun _ ds => decide (uptoBulkAll ds ≤ 1048576)
def OpenSpec.upto (s : _root_.Go.ChangeSpec) : _root_.Go.OpenSpec := { _root_.Go.OpenSpec.ofChange s with cond := some uptoSmall }

/-- 'portagelaw05.RosterGrows', WHERE WHAT IT READS IS OF BULK AT MOST 1048576: true; the input reads as it did. -/
def rosterGrowsUptoRow : OpenClaim := { program := "ytlpgeocoddehgaa", sum := "6d2a51cd4b592b51061ea6ef0da960c72f6f6c5d68f36477592dea4eac1715b4", func := "portage/portagelaw05.RosterGrows", spec := "rosterGrows", unfollowed := true, recurses := true, apart := false, narrowed := true }
def RosterGrowsUptoSaid : Prop := rosterGrowsUptoRow.holds Try.pinned (OpenSpec.upto rosterGrowsSpec)

/-- 'portagelaw05.RosterLasts', WHERE WHAT IT READS IS OF BULK AT MOST 1048576: true; the input reads as it did. -/
def rosterLastsUptoRow : OpenClaim := { program := "ytlpgeocoddehgaa", sum := "6d2a51cd4b592b51061ea6ef0da960c72f6f6c5d68f36477592dea4eac1715b4", func := "portage/portagelaw05.RosterLasts", spec := "rosterLasts", unfollowed := true, recurses := true, apart := false, narrowed := true }
def RosterLastsUptoSaid : Prop := rosterLastsUptoRow.holds Try.pinned (OpenSpec.upto rosterLastsSpec)

/-- 'portagelaw05.RosterTurns', WHERE WHAT IT READS IS OF BULK AT MOST 1048576: true; the input reads as it did. -/
def rosterTurnsUptoRow : OpenClaim := { program := "ytlpgeocoddehgaa", sum := "6d2a51cd4b592b51061ea6ef0da960c72f6f6c5d68f36477592dea4eac1715b4", func := "portage/portagelaw05.RosterTurns", spec := "rosterTurns", inPlace := ["internal/reflectlite.TypeOf"], unfollowed := true, recurses := true, apart := false, narrowed := true }
def RosterTurnsUptoSaid : Prop := rosterTurnsUptoRow.holds Try.pinned (OpenSpec.upto rosterTurnsSpec)

/-- 'portagelaw05.RosterBack', WHERE WHAT IT READS IS OF BULK AT MOST 1048576: true; the input reads as it did. -/
def rosterBackUptoRow : OpenClaim := { program := "ytlpgeocoddehgaa", sum := "6d2a51cd4b592b51061ea6ef0da960c72f6f6c5d68f36477592dea4eac1715b4", func := "portage/portagelaw05.RosterBack", spec := "rosterBack", inPlace := ["internal/reflectlite.TypeOf"], unfollowed := true, recurses := true, apart := false, narrowed := true }
def RosterBackUptoSaid : Prop := rosterBackUptoRow.holds Try.pinned (OpenSpec.upto rosterBackSpec)

/-- 'portagelaw05.RosterTells', WHERE WHAT IT READS IS OF BULK AT MOST 1048576: true; the input reads as it did. -/
def rosterTellsUptoRow : OpenClaim := { program := "ytlpgeocoddehgaa", sum := "6d2a51cd4b592b51061ea6ef0da960c72f6f6c5d68f36477592dea4eac1715b4", func := "portage/portagelaw05.RosterTells", spec := "rosterTells", inPlace := ["internal/reflectlite.TypeOf"], unfollowed := true, recurses := true, apart := false, narrowed := true }
def RosterTellsUptoSaid : Prop := rosterTellsUptoRow.holds Try.pinned (OpenSpec.upto rosterTellsSpec)

/-- 'portagelaw05.RosterParses', WHERE WHAT IT READS IS OF BULK AT MOST 1048576: true; the input reads as it did. -/
def rosterParsesUptoRow : OpenClaim := { program := "ytlpgeocoddehgaa", sum := "6d2a51cd4b592b51061ea6ef0da960c72f6f6c5d68f36477592dea4eac1715b4", func := "portage/portagelaw05.RosterParses", spec := "rosterParses", inPlace := ["internal/reflectlite.TypeOf"], unfollowed := true, recurses := true, apart := false, narrowed := true }
def RosterParsesUptoSaid : Prop := rosterParsesUptoRow.holds Try.pinned (OpenSpec.upto rosterParsesSpec)

/-- 'portagelaw05.RosterForms', WHERE WHAT IT READS IS OF BULK AT MOST 1048576: true; the input reads as it did. -/
def rosterFormsUptoRow : OpenClaim := { program := "ytlpgeocoddehgaa", sum := "6d2a51cd4b592b51061ea6ef0da960c72f6f6c5d68f36477592dea4eac1715b4", func := "portage/portagelaw05.RosterForms", spec := "rosterForms", inPlace := ["internal/reflectlite.TypeOf"], unfollowed := true, recurses := true, apart := false, narrowed := true }
def RosterFormsUptoSaid : Prop := rosterFormsUptoRow.holds Try.pinned (OpenSpec.upto rosterFormsSpec)

end Rows
end Go.Proofs.Ytlpgeocoddehgaa
