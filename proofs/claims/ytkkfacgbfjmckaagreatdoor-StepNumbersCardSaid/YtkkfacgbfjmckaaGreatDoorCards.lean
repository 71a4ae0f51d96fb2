/-
  DERIVED. GIVEN WITH THE SEED: THE CARDS: each row of YtkkfacgbfjmckaaGreatDoorRows.lean that lists a variable, with what it lists TIED to the program's text (the seventh form; the later family's looks); each row that meets fmt, with fmt's text TOLD by the authors' own Lean function (tested against real Go, not proved from fmt's source: count such statements apart). THE CARD IS WHAT COUNTS. Prove the row's statement (the work); the ties are given (YtkkfacgbfjmckaaGreatDoorTie.lean); close each card by the builder's one call (the guide's Derived/Test/ToyasCard.lean, 'card_holds'). Laid BY PROGRAM, IN A SANDBOX (cutbox-door.mjs). By AI agents, Wed Nov 11 2026. No macro, syntax, notation, axiom, sorry.
-/
import Derived.Test.YtkkfacgbfjmckaaGreatDoorRows
import GoSem.ClaimSeven
namespace Go.Proofs.YtkkfacgbfjmckaaGreatDoor
namespace Rows

/-- THE TIED CARD OF 'turnbucklelaw21.StepNumbers'. -/
def stepNumbersCard : Claim7 := { stood := { row := stepNumbersRow, standIns := [], harness := (true, "e371ad55bce2a54cd621b4dfcea8d51df93a62a09f035b9b6dcc52c1eb81c498"), looks := false }, kinds := [], alts := [], laidByText := true, laidKinds := [.data], laidTests := true, laidLooks := .later }
def StepNumbersCardSaid : Prop := Claim7.holds Tryz.pinned (.plain (OpenSpec.ofChange stepNumbersSpec)) stepNumbersCard

/-- THE TIED CARD OF 'turnbucklelaw21.StepJumps'. -/
def stepJumpsCard : Claim7 := { stood := { row := stepJumpsRow, standIns := [], harness := (true, "e371ad55bce2a54cd621b4dfcea8d51df93a62a09f035b9b6dcc52c1eb81c498"), looks := false }, kinds := [], alts := [], laidByText := true, laidKinds := [.data], laidTests := true, laidLooks := .later }
def StepJumpsCardSaid : Prop := Claim7.holds Tryz.pinned (.plain (OpenSpec.ofChange stepJumpsSpec)) stepJumpsCard

/-- THE TIED CARD OF 'turnbucklelaw21.StepStarts'. -/
def stepStartsCard : Claim7 := { stood := { row := stepStartsRow, standIns := [], harness := (true, "e371ad55bce2a54cd621b4dfcea8d51df93a62a09f035b9b6dcc52c1eb81c498"), looks := false }, kinds := [], alts := [], laidByText := true, laidKinds := [.data], laidTests := true, laidLooks := .later }
def StepStartsCardSaid : Prop := Claim7.holds Tryz.pinned (.plain (OpenSpec.ofChange stepStartsSpec)) stepStartsCard

/-- THE SECOND FORM's CARD OF 'turnbucklelaw21.StepNumbers'. -/
def stepNumbersUptoCard : Claim7 := { stood := { row := stepNumbersUptoRow, standIns := [], harness := (true, "e371ad55bce2a54cd621b4dfcea8d51df93a62a09f035b9b6dcc52c1eb81c498"), looks := false }, kinds := [], alts := [], laidByText := true, laidKinds := [.data], laidTests := true, laidLooks := .later }
def StepNumbersUptoCardSaid : Prop := Claim7.holds Tryz.pinned (.plain (OpenSpec.upto stepNumbersSpec)) stepNumbersUptoCard

/-- THE SECOND FORM's CARD OF 'turnbucklelaw21.StepJumps'. -/
def stepJumpsUptoCard : Claim7 := { stood := { row := stepJumpsUptoRow, standIns := [], harness := (true, "e371ad55bce2a54cd621b4dfcea8d51df93a62a09f035b9b6dcc52c1eb81c498"), looks := false }, kinds := [], alts := [], laidByText := true, laidKinds := [.data], laidTests := true, laidLooks := .later }
def StepJumpsUptoCardSaid : Prop := Claim7.holds Tryz.pinned (.plain (OpenSpec.upto stepJumpsSpec)) stepJumpsUptoCard

/-- THE SECOND FORM's CARD OF 'turnbucklelaw21.StepStarts'. -/
def stepStartsUptoCard : Claim7 := { stood := { row := stepStartsUptoRow, standIns := [], harness := (true, "e371ad55bce2a54cd621b4dfcea8d51df93a62a09f035b9b6dcc52c1eb81c498"), looks := false }, kinds := [], alts := [], laidByText := true, laidKinds := [.data], laidTests := true, laidLooks := .later }
def StepStartsUptoCardSaid : Prop := Claim7.holds Tryz.pinned (.plain (OpenSpec.upto stepStartsSpec)) stepStartsUptoCard
end Rows
end Go.Proofs.YtkkfacgbfjmckaaGreatDoor
