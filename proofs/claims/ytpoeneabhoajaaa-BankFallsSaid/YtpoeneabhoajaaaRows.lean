/-
  No cell of these rows narrows 'for every input' (looked for: loops, veiled, ifaces, maps, wideKeys, modest, calm, conditions, laid).
  DERIVED. THE GIVEN ROWS OF THIS SEAT. 3 by the template 'for every input the law returns true; each argument reads behind the call as it read before'; 0 by the template 'total and deterministic' (their statements: YtpoeneabhoajaaaTotals.lean).
  GIVEN WITH THE SEED: the statements are not yours to turn. If you find one false, say at which input.
  Laid BY PROGRAM, IN A SANDBOX (cutbox-rows.mjs): the forced cells as the released guide's own fill.sh prints them over the translation ff617cdbf3db31f4… (all of the seat's roots in one cut). By AI agents, Wed Nov 11 2026. No macro, syntax, notation, axiom, sorry.
-/
import Derived.Test.YtpoeneabhoajaaaChecked
import GoSem.Claim
import GoSem.ClaimJoined
import GoSem.ClaimMapViews
import Derived.JoinedTies
import Derived.KernelRfl
namespace Go.Proofs.Ytpoeneabhoajaaa
/- THE CELL 'sum', in the pinned program and in every row, IS THE sha256 OF THE DUMP (.gsa) THAT YtpoeneabhoajaaaProg.lean LOADS. Nothing in Lean hashes anything: it is a label: what it is worth is what the hold of that sum in a sandbox is worth. -/
noncomputable def Try.pinned : Pinned := { name := "ytpoeneabhoajaaa", sum := "ff617cdbf3db31f46212f4c4f325249c3bedba96918ea13f77e0e6b906ebb98e", checked := Try.checked }
namespace Rows
def none {H : Type} : Left H := { results := [], args := [] }

/-- 'portagelaw04.BankCounts': WHATEVER THE INPUT: true; the input reads as it did. -/
def bankCountsSpec : ChangeSpec := { name := "bankCounts", fn := fun _ => fun
  | [d1, d2] => { results := [.lit (.bool true)], args := [d1, d2] }
  | _ => none }
def bankCountsRow : OpenClaim := { program := "ytpoeneabhoajaaa", sum := "ff617cdbf3db31f46212f4c4f325249c3bedba96918ea13f77e0e6b906ebb98e", func := "portage/portagelaw04.BankCounts", spec := "bankCounts", apart := false }
def BankCountsSaid : Prop := bankCountsRow.holds Try.pinned (OpenSpec.ofChange bankCountsSpec)

/-- ITS FALSE NEIGHBOUR: 'it returns false'. Refute it at one input. -/
def bankCountsWrong : ChangeSpec := { name := "bankCounts", fn := fun _ => fun
  | [d1, d2] => { results := [.lit (.bool false)], args := [d1, d2] }
  | _ => none }
def BankCountsWrongFalsely : Prop := bankCountsRow.holds Try.pinned (OpenSpec.ofChange bankCountsWrong)

/-- 'portagelaw04.BankFalls': WHATEVER THE INPUT: true; the input reads as it did. -/
def bankFallsSpec : ChangeSpec := { name := "bankFalls", fn := fun _ => fun
  | [d1, d2] => { results := [.lit (.bool true)], args := [d1, d2] }
  | _ => none }
def bankFallsRow : OpenClaim := { program := "ytpoeneabhoajaaa", sum := "ff617cdbf3db31f46212f4c4f325249c3bedba96918ea13f77e0e6b906ebb98e", func := "portage/portagelaw04.BankFalls", spec := "bankFalls", inPlace := ["internal/reflectlite.TypeOf"], unfollowed := true, recurses := true, apart := false }
def BankFallsSaid : Prop := bankFallsRow.holds Try.pinned (OpenSpec.ofChange bankFallsSpec)

/-- ITS FALSE NEIGHBOUR: 'it returns false'. Refute it at one input. -/
def bankFallsWrong : ChangeSpec := { name := "bankFalls", fn := fun _ => fun
  | [d1, d2] => { results := [.lit (.bool false)], args := [d1, d2] }
  | _ => none }
def BankFallsWrongFalsely : Prop := bankFallsRow.holds Try.pinned (OpenSpec.ofChange bankFallsWrong)

/-- 'portagelaw04.BankApart': WHATEVER THE INPUT: true; the input reads as it did. -/
def bankApartSpec : ChangeSpec := { name := "bankApart", fn := fun _ => fun
  | [d1, d2] => { results := [.lit (.bool true)], args := [d1, d2] }
  | _ => none }
def bankApartRow : OpenClaim := { program := "ytpoeneabhoajaaa", sum := "ff617cdbf3db31f46212f4c4f325249c3bedba96918ea13f77e0e6b906ebb98e", func := "portage/portagelaw04.BankApart", spec := "bankApart", apart := false }
def BankApartSaid : Prop := bankApartRow.holds Try.pinned (OpenSpec.ofChange bankApartSpec)

/-- ITS FALSE NEIGHBOUR: 'it returns false'. Refute it at one input. -/
def bankApartWrong : ChangeSpec := { name := "bankApart", fn := fun _ => fun
  | [d1, d2] => { results := [.lit (.bool false)], args := [d1, d2] }
  | _ => none }
def BankApartWrongFalsely : Prop := bankApartRow.holds Try.pinned (OpenSpec.ofChange bankApartWrong)

/- THE SECOND FORM. 'bulk': how many values and letters a reading holds, each counted each time it is reached (what is shared counts as often as it is met; a slice's spare places count too). A statement '..UptoSaid' is the law's where the arguments, and the package variables that the reading takes, are together of bulk at most 1048576: NARROWER than '..Said'. Prove '..Said' where nothing that the law and all that it calls make is longer than what came in: it says more and counts as full. Else prove '..UptoSaid'. A law counts once. -/
mutual
def uptoBulk {H : Type} : DataW H → Nat
  | .lit (.string bytes) => bytes.length + 1
  | .lit _ => 1
  | .nil => 1
  | .ptr d => uptoBulk d + 1
  | .slice elems spare => uptoBulkAll elems + uptoBulkAll spare + 1
  | .agg parts => uptoBulkAll parts + 1
  | .iface _ d => uptoBulk d + 1
  | .map entries => uptoBulkEntries entries + 1
  | .held _ => 1
def uptoBulkAll {H : Type} : List (DataW H) → Nat
  | [] => 0
  | d :: r => uptoBulk d + uptoBulkAll r
def uptoBulkEntries {H : Type} : List (Lit × DataW H) → Nat
  | [] => 0
  | x :: r => uptoBulkEntry x + uptoBulkEntries r
def uptoBulkEntry {H : Type} : Lit × DataW H → Nat
  | (.string bytes, d) => bytes.length + uptoBulk d + 1
  | (_, d) => uptoBulk d + 1
 end
def uptoSmall : (H : Type) → List (DataW H) → Bool := fun _ ds => decide (uptoBulkAll ds ≤ 1048576)
def OpenSpec.upto (s : _root_.Go.ChangeSpec) : _root_.Go.OpenSpec := { _root_.Go.OpenSpec.ofChange s with cond := some uptoSmall }

/-- 'portagelaw04.BankCounts', WHERE WHAT IT READS IS OF BULK AT MOST 1048576: true; the input reads as it did. -/
def bankCountsUptoRow : OpenClaim := { program := "ytpoeneabhoajaaa", sum := "ff617cdbf3db31f46212f4c4f325249c3bedba96918ea13f77e0e6b906ebb98e", func := "portage/portagelaw04.BankCounts", spec := "bankCounts", apart := false, narrowed := true }
def BankCountsUptoSaid : Prop := bankCountsUptoRow.holds Try.pinned (OpenSpec.upto bankCountsSpec)

/-- 'portagelaw04.BankFalls', WHERE WHAT IT READS IS OF BULK AT MOST 1048576: true; the input reads as it did. -/
def bankFallsUptoRow : OpenClaim := { program := "ytpoeneabhoajaaa", sum := "ff617cdbf3db31f46212f4c4f325249c3bedba96918ea13f77e0e6b906ebb98e", func := "portage/portagelaw04.BankFalls", spec := "bankFalls", inPlace := ["internal/reflectlite.TypeOf"], unfollowed := true, recurses := true, apart := false, narrowed := true }
def BankFallsUptoSaid : Prop := bankFallsUptoRow.holds Try.pinned (OpenSpec.upto bankFallsSpec)

/-- 'portagelaw04.BankApart', WHERE WHAT IT READS IS OF BULK AT MOST 1048576: true; the input reads as it did. -/
def bankApartUptoRow : OpenClaim := { program := "ytpoeneabhoajaaa", sum := "ff617cdbf3db31f46212f4c4f325249c3bedba96918ea13f77e0e6b906ebb98e", func := "portage/portagelaw04.BankApart", spec := "bankApart", apart := false, narrowed := true }
def BankApartUptoSaid : Prop := bankApartUptoRow.holds Try.pinned (OpenSpec.upto bankApartSpec)

end Rows
end Go.Proofs.Ytpoeneabhoajaaa
