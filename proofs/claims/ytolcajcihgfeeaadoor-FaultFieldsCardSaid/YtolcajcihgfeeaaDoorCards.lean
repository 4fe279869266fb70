/-
  DERIVED. GIVEN WITH THE SEED: THE CARDS: each row of YtolcajcihgfeeaaDoorRows.lean that lists a variable, with what it lists TIED to the program's text (the seventh form; the later family's looks); each row that meets fmt, with fmt's text TOLD by the authors' own Lean function (tested against real Go, not proved from fmt's source: count such statements apart). THE CARD IS WHAT COUNTS. Prove the row's statement (the work); the ties are given (YtolcajcihgfeeaaDoorTie.lean); close each card by the builder's one call (the guide's Derived/Test/ToyasCard.lean, 'card_holds'). Laid BY PROGRAM, IN A SANDBOX (cutbox-door.mjs). By AI agents, Wed Nov 11 2026. No macro, syntax, notation, axiom, sorry.
-/
import Derived.Test.YtolcajcihgfeeaaDoorRows
import GoSem.ClaimSeven
namespace Go.Proofs.YtolcajcihgfeeaaDoor
namespace Rows

/-- THE TIED CARD OF 'portagelaw01.FaultIs'. -/
def faultIsCard : Claim7 := { stood := { row := faultIsRow, standIns := [], harness := (true, "0ecfaf5012e834f00dc188353a4c64960d422a0951a1a5b62d519d320ed7d878"), looks := true }, kinds := [], alts := [], laidByText := true, laidKinds := [.handle], laidTests := true, laidLooks := .later }
def FaultIsCardSaid : Prop := Claim7.holds Tryd.pinned (.plain (OpenSpec.ofChange faultIsSpec)) faultIsCard

/-- THE TIED CARD OF 'portagelaw01.FaultPeels'. -/
def faultPeelsCard : Claim7 := { stood := { row := faultPeelsRow, standIns := [], harness := (true, "0ecfaf5012e834f00dc188353a4c64960d422a0951a1a5b62d519d320ed7d878"), looks := true }, kinds := [], alts := [], laidByText := true, laidKinds := [.handle], laidTests := true, laidLooks := .later }
def FaultPeelsCardSaid : Prop := Claim7.holds Tryd.pinned (.plain (OpenSpec.ofChange faultPeelsSpec)) faultPeelsCard

/-- THE TIED CARD OF 'portagelaw01.FaultWraps'. -/
def faultWrapsCard : Claim7 := { stood := { row := faultWrapsRow, standIns := [], harness := (true, "0ecfaf5012e834f00dc188353a4c64960d422a0951a1a5b62d519d320ed7d878"), looks := true }, kinds := [], alts := [], laidByText := true, laidKinds := [.handle], laidTests := true, laidLooks := .later }
def FaultWrapsCardSaid : Prop := Claim7.holds Tryd.pinned (.plain (OpenSpec.ofChange faultWrapsSpec)) faultWrapsCard

/-- THE TIED CARD OF 'portagelaw01.FaultMore'. -/
def faultMoreCard : Claim7 := { stood := { row := faultMoreRow, standIns := [], harness := (true, "0ecfaf5012e834f00dc188353a4c64960d422a0951a1a5b62d519d320ed7d878"), looks := true }, kinds := [], alts := [], laidByText := true, laidKinds := [.handle], laidTests := true, laidLooks := .later }
def FaultMoreCardSaid : Prop := Claim7.holds Tryd.pinned (.plain (OpenSpec.ofChange faultMoreSpec)) faultMoreCard

/-- THE TIED CARD OF 'portagelaw01.FaultFields'. -/
def faultFieldsCard : Claim7 := { stood := { row := faultFieldsRow, standIns := [], harness := (true, "0ecfaf5012e834f00dc188353a4c64960d422a0951a1a5b62d519d320ed7d878"), looks := true }, kinds := [], alts := [], laidByText := true, laidKinds := [.data, .data, .data, .handle], laidTests := true, laidLooks := .later }
def FaultFieldsCardSaid : Prop := Claim7.holds Tryd.pinned (.plain (OpenSpec.ofChange faultFieldsSpec)) faultFieldsCard

/-- THE TIED CARD OF 'portagelaw01.FaultNil'. -/
def faultNilCard : Claim7 := { stood := { row := faultNilRow, standIns := [], harness := (true, "0ecfaf5012e834f00dc188353a4c64960d422a0951a1a5b62d519d320ed7d878"), looks := true }, kinds := [], alts := [], laidByText := true, laidKinds := [.data, .data, .data, .handle], laidTests := true, laidLooks := .later }
def FaultNilCardSaid : Prop := Claim7.holds Tryd.pinned (.plain (OpenSpec.ofChange faultNilSpec)) faultNilCard

/-- THE SECOND FORM's CARD OF 'portagelaw01.FaultIs'. -/
def faultIsUptoCard : Claim7 := { stood := { row := faultIsUptoRow, standIns := [], harness := (true, "0ecfaf5012e834f00dc188353a4c64960d422a0951a1a5b62d519d320ed7d878"), looks := true }, kinds := [], alts := [], laidByText := true, laidKinds := [.handle], laidTests := true, laidLooks := .later }
def FaultIsUptoCardSaid : Prop := Claim7.holds Tryd.pinned (.plain (OpenSpec.upto faultIsSpec)) faultIsUptoCard

/-- THE SECOND FORM's CARD OF 'portagelaw01.FaultPeels'. -/
def faultPeelsUptoCard : Claim7 := { stood := { row := faultPeelsUptoRow, standIns := [], harness := (true, "0ecfaf5012e834f00dc188353a4c64960d422a0951a1a5b62d519d320ed7d878"), looks := true }, kinds := [], alts := [], laidByText := true, laidKinds := [.handle], laidTests := true, laidLooks := .later }
def FaultPeelsUptoCardSaid : Prop := Claim7.holds Tryd.pinned (.plain (OpenSpec.upto faultPeelsSpec)) faultPeelsUptoCard

/-- THE SECOND FORM's CARD OF 'portagelaw01.FaultWraps'. -/
def faultWrapsUptoCard : Claim7 := { stood := { row := faultWrapsUptoRow, standIns := [], harness := (true, "0ecfaf5012e834f00dc188353a4c64960d422a0951a1a5b62d519d320ed7d878"), looks := true }, kinds := [], alts := [], laidByText := true, laidKinds := [.handle], laidTests := true, laidLooks := .later }
def FaultWrapsUptoCardSaid : Prop := Claim7.holds Tryd.pinned (.plain (OpenSpec.upto faultWrapsSpec)) faultWrapsUptoCard

/-- THE SECOND FORM's CARD OF 'portagelaw01.FaultMore'. -/
def faultMoreUptoCard : Claim7 := { stood := { row := faultMoreUptoRow, standIns := [], harness := (true, "0ecfaf5012e834f00dc188353a4c64960d422a0951a1a5b62d519d320ed7d878"), looks := true }, kinds := [], alts := [], laidByText := true, laidKinds := [.handle], laidTests := true, laidLooks := .later }
def FaultMoreUptoCardSaid : Prop := Claim7.holds Tryd.pinned (.plain (OpenSpec.upto faultMoreSpec)) faultMoreUptoCard

/-- THE SECOND FORM's CARD OF 'portagelaw01.FaultFields'. -/
def faultFieldsUptoCard : Claim7 := { stood := { row := faultFieldsUptoRow, standIns := [], harness := (true, "0ecfaf5012e834f00dc188353a4c64960d422a0951a1a5b62d519d320ed7d878"), looks := true }, kinds := [], alts := [], laidByText := true, laidKinds := [.data, .data, .data, .handle], laidTests := true, laidLooks := .later }
def FaultFieldsUptoCardSaid : Prop := Claim7.holds Tryd.pinned (.plain (OpenSpec.upto faultFieldsSpec)) faultFieldsUptoCard

/-- THE SECOND FORM's CARD OF 'portagelaw01.FaultNil'. -/
def faultNilUptoCard : Claim7 := { stood := { row := faultNilUptoRow, standIns := [], harness := (true, "0ecfaf5012e834f00dc188353a4c64960d422a0951a1a5b62d519d320ed7d878"), looks := true }, kinds := [], alts := [], laidByText := true, laidKinds := [.data, .data, .data, .handle], laidTests := true, laidLooks := .later }
def FaultNilUptoCardSaid : Prop := Claim7.holds Tryd.pinned (.plain (OpenSpec.upto faultNilSpec)) faultNilUptoCard
end Rows
end Go.Proofs.YtolcajcihgfeeaaDoor
