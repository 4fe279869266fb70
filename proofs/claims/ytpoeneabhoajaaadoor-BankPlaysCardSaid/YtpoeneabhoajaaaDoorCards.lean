/-
  DERIVED. GIVEN WITH THE SEED: THE CARDS: each row of YtpoeneabhoajaaaDoorRows.lean that lists a variable, with what it lists TIED to the program's text (the seventh form; the later family's looks); each row that meets fmt, with fmt's text TOLD by the authors' own Lean function (tested against real Go, not proved from fmt's source: count such statements apart). THE CARD IS WHAT COUNTS. Prove the row's statement (the work); the ties are given (YtpoeneabhoajaaaDoorTie.lean); close each card by the builder's one call (the guide's Derived/Test/ToyasCard.lean, 'card_holds'). Laid BY PROGRAM, IN A SANDBOX (cutbox-door.mjs). By AI agents, Wed Nov 11 2026. No macro, syntax, notation, axiom, sorry.
-/
import Derived.Test.YtpoeneabhoajaaaDoorRows
import GoSem.ClaimSeven
namespace Go.Proofs.YtpoeneabhoajaaaDoor
namespace Rows

/-- THE TIED CARD OF 'portagelaw04.BankNumbers'. -/
def bankNumbersCard : Claim7 := { stood := { row := bankNumbersRow, standIns := [], harness := (true, "b4067b21af6ce6d5a1b3808803e7c6dc6c45958355a473b062fd175f4dba78f1"), looks := true }, kinds := [], alts := [], laidByText := true, laidKinds := [.handle], laidTests := true, laidLooks := .later }
def BankNumbersCardSaid : Prop := Claim7.holds Tryd.pinned (.plain (OpenSpec.ofChange bankNumbersSpec)) bankNumbersCard

/-- THE TIED CARD OF 'portagelaw04.BankPlays'. -/
def bankPlaysCard : Claim7 := { stood := { row := bankPlaysRow, standIns := [], harness := (true, "b4067b21af6ce6d5a1b3808803e7c6dc6c45958355a473b062fd175f4dba78f1"), looks := true }, kinds := [], alts := [], laidByText := true, laidKinds := [.handle], laidTests := true, laidLooks := .later }
def BankPlaysCardSaid : Prop := Claim7.holds Tryd.pinned (.plain (OpenSpec.ofChange bankPlaysSpec)) bankPlaysCard

/-- THE SECOND FORM's CARD OF 'portagelaw04.BankNumbers'. -/
def bankNumbersUptoCard : Claim7 := { stood := { row := bankNumbersUptoRow, standIns := [], harness := (true, "b4067b21af6ce6d5a1b3808803e7c6dc6c45958355a473b062fd175f4dba78f1"), looks := true }, kinds := [], alts := [], laidByText := true, laidKinds := [.handle], laidTests := true, laidLooks := .later }
def BankNumbersUptoCardSaid : Prop := Claim7.holds Tryd.pinned (.plain (OpenSpec.upto bankNumbersSpec)) bankNumbersUptoCard

/-- THE SECOND FORM's CARD OF 'portagelaw04.BankPlays'. -/
def bankPlaysUptoCard : Claim7 := { stood := { row := bankPlaysUptoRow, standIns := [], harness := (true, "b4067b21af6ce6d5a1b3808803e7c6dc6c45958355a473b062fd175f4dba78f1"), looks := true }, kinds := [], alts := [], laidByText := true, laidKinds := [.handle], laidTests := true, laidLooks := .later }
def BankPlaysUptoCardSaid : Prop := Claim7.holds Tryd.pinned (.plain (OpenSpec.upto bankPlaysSpec)) bankPlaysUptoCard
end Rows
end Go.Proofs.YtpoeneabhoajaaaDoor
