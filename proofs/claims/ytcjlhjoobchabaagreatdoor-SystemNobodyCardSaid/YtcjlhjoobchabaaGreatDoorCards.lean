/-
  DERIVED. GIVEN WITH THE SEED: THE CARDS: each row of YtcjlhjoobchabaaGreatDoorRows.lean that lists a variable, with what it lists TIED to the program's text (the seventh form; the later family's looks); each row that meets fmt, with fmt's text TOLD by the authors' own Lean function (tested against real Go, not proved from fmt's source: count such statements apart). THE CARD IS WHAT COUNTS. Prove the row's statement (the work); the ties are given (YtcjlhjoobchabaaGreatDoorTie.lean); close each card by the builder's one call (the guide's Derived/Test/ToyasCard.lean, 'card_holds'). Laid BY PROGRAM, IN A SANDBOX (cutbox-door.mjs). By AI agents, Wed Nov 11 2026. No macro, syntax, notation, axiom, sorry.
-/
import Derived.Test.YtcjlhjoobchabaaGreatDoorRows
import GoSem.ClaimSeven
namespace Go.Proofs.YtcjlhjoobchabaaGreatDoor
namespace Rows

/-- THE TIED CARD OF 'turnbucklelaw20.WorldLocks'. -/
def worldLocksCard : Claim7 := { stood := { row := worldLocksRow, standIns := [], harness := (true, "1d8c4c47f2efd0021f1c9f13f42a44c17c53c7ea1cfe77f327a272bef5d52ee1"), looks := true }, kinds := [], alts := [], laidByText := true, laidKinds := [.data, .data, .data], laidTests := true, laidLooks := .later }
def WorldLocksCardSaid : Prop := Claim7.holds Tryz.pinned (.plain (OpenSpec.ofChange worldLocksSpec)) worldLocksCard

/-- THE TIED CARD OF 'turnbucklelaw20.WorldCounts'. -/
def worldCountsCard : Claim7 := { stood := { row := worldCountsRow, standIns := [], harness := (true, "1d8c4c47f2efd0021f1c9f13f42a44c17c53c7ea1cfe77f327a272bef5d52ee1"), looks := true }, kinds := [], alts := [], laidByText := true, laidKinds := [.data, .data, .data], laidTests := true, laidLooks := .later }
def WorldCountsCardSaid : Prop := Claim7.holds Tryz.pinned (.plain (OpenSpec.ofChange worldCountsSpec)) worldCountsCard

/-- THE TIED CARD OF 'turnbucklelaw20.WorldMaps'. -/
def worldMapsCard : Claim7 := { stood := { row := worldMapsRow, standIns := [], harness := (true, "1d8c4c47f2efd0021f1c9f13f42a44c17c53c7ea1cfe77f327a272bef5d52ee1"), looks := true }, kinds := [], alts := [], laidByText := true, laidKinds := [.data, .data, .data], laidTests := true, laidLooks := .later }
def WorldMapsCardSaid : Prop := Claim7.holds Tryz.pinned (.plain (OpenSpec.ofChange worldMapsSpec)) worldMapsCard

/-- THE TIED CARD OF 'turnbucklelaw20.WorldGrace'. -/
def worldGraceCard : Claim7 := { stood := { row := worldGraceRow, standIns := [], harness := (true, "1d8c4c47f2efd0021f1c9f13f42a44c17c53c7ea1cfe77f327a272bef5d52ee1"), looks := true }, kinds := [], alts := [], laidByText := true, laidKinds := [.data, .data, .data], laidTests := true, laidLooks := .later }
def WorldGraceCardSaid : Prop := Claim7.holds Tryz.pinned (.plain (OpenSpec.ofChange worldGraceSpec)) worldGraceCard

/-- THE TIED CARD OF 'turnbucklelaw20.WorldNobody'. -/
def worldNobodyCard : Claim7 := { stood := { row := worldNobodyRow, standIns := [], harness := (true, "1d8c4c47f2efd0021f1c9f13f42a44c17c53c7ea1cfe77f327a272bef5d52ee1"), looks := true }, kinds := [], alts := [], laidByText := true, laidKinds := [.data, .data, .data], laidTests := true, laidLooks := .later }
def WorldNobodyCardSaid : Prop := Claim7.holds Tryz.pinned (.plain (OpenSpec.ofChange worldNobodySpec)) worldNobodyCard

/-- THE TIED CARD OF 'turnbucklelaw22.SystemSlots'. -/
def systemSlotsCard : Claim7 := { stood := { row := systemSlotsRow, standIns := [], harness := (true, "1d8c4c47f2efd0021f1c9f13f42a44c17c53c7ea1cfe77f327a272bef5d52ee1"), looks := true }, kinds := [], alts := [], laidByText := true, laidKinds := [.data], laidTests := true, laidLooks := .later }
def SystemSlotsCardSaid : Prop := Claim7.holds Tryz.pinned (.plain (OpenSpec.ofChange systemSlotsSpec)) systemSlotsCard

/-- THE TIED CARD OF 'turnbucklelaw22.SystemNobody'. -/
def systemNobodyCard : Claim7 := { stood := { row := systemNobodyRow, standIns := [], harness := (true, "1d8c4c47f2efd0021f1c9f13f42a44c17c53c7ea1cfe77f327a272bef5d52ee1"), looks := true }, kinds := [], alts := [], laidByText := true, laidKinds := [.data, .data, .data], laidTests := true, laidLooks := .later }
def SystemNobodyCardSaid : Prop := Claim7.holds Tryz.pinned (.plain (OpenSpec.ofChange systemNobodySpec)) systemNobodyCard

/-- THE SECOND FORM's CARD OF 'turnbucklelaw20.WorldLocks'. -/
def worldLocksUptoCard : Claim7 := { stood := { row := worldLocksUptoRow, standIns := [], harness := (true, "1d8c4c47f2efd0021f1c9f13f42a44c17c53c7ea1cfe77f327a272bef5d52ee1"), looks := true }, kinds := [], alts := [], laidByText := true, laidKinds := [.data, .data, .data], laidTests := true, laidLooks := .later }
def WorldLocksUptoCardSaid : Prop := Claim7.holds Tryz.pinned (.plain (OpenSpec.upto worldLocksSpec)) worldLocksUptoCard

/-- THE SECOND FORM's CARD OF 'turnbucklelaw20.WorldCounts'. -/
def worldCountsUptoCard : Claim7 := { stood := { row := worldCountsUptoRow, standIns := [], harness := (true, "1d8c4c47f2efd0021f1c9f13f42a44c17c53c7ea1cfe77f327a272bef5d52ee1"), looks := true }, kinds := [], alts := [], laidByText := true, laidKinds := [.data, .data, .data], laidTests := true, laidLooks := .later }
def WorldCountsUptoCardSaid : Prop := Claim7.holds Tryz.pinned (.plain (OpenSpec.upto worldCountsSpec)) worldCountsUptoCard

/-- THE SECOND FORM's CARD OF 'turnbucklelaw20.WorldMaps'. -/
def worldMapsUptoCard : Claim7 := { stood := { row := worldMapsUptoRow, standIns := [], harness := (true, "1d8c4c47f2efd0021f1c9f13f42a44c17c53c7ea1cfe77f327a272bef5d52ee1"), looks := true }, kinds := [], alts := [], laidByText := true, laidKinds := [.data, .data, .data], laidTests := true, laidLooks := .later }
def WorldMapsUptoCardSaid : Prop := Claim7.holds Tryz.pinned (.plain (OpenSpec.upto worldMapsSpec)) worldMapsUptoCard

/-- THE SECOND FORM's CARD OF 'turnbucklelaw20.WorldGrace'. -/
def worldGraceUptoCard : Claim7 := { stood := { row := worldGraceUptoRow, standIns := [], harness := (true, "1d8c4c47f2efd0021f1c9f13f42a44c17c53c7ea1cfe77f327a272bef5d52ee1"), looks := true }, kinds := [], alts := [], laidByText := true, laidKinds := [.data, .data, .data], laidTests := true, laidLooks := .later }
def WorldGraceUptoCardSaid : Prop := Claim7.holds Tryz.pinned (.plain (OpenSpec.upto worldGraceSpec)) worldGraceUptoCard

/-- THE SECOND FORM's CARD OF 'turnbucklelaw20.WorldNobody'. -/
def worldNobodyUptoCard : Claim7 := { stood := { row := worldNobodyUptoRow, standIns := [], harness := (true, "1d8c4c47f2efd0021f1c9f13f42a44c17c53c7ea1cfe77f327a272bef5d52ee1"), looks := true }, kinds := [], alts := [], laidByText := true, laidKinds := [.data, .data, .data], laidTests := true, laidLooks := .later }
def WorldNobodyUptoCardSaid : Prop := Claim7.holds Tryz.pinned (.plain (OpenSpec.upto worldNobodySpec)) worldNobodyUptoCard

/-- THE SECOND FORM's CARD OF 'turnbucklelaw22.SystemSlots'. -/
def systemSlotsUptoCard : Claim7 := { stood := { row := systemSlotsUptoRow, standIns := [], harness := (true, "1d8c4c47f2efd0021f1c9f13f42a44c17c53c7ea1cfe77f327a272bef5d52ee1"), looks := true }, kinds := [], alts := [], laidByText := true, laidKinds := [.data], laidTests := true, laidLooks := .later }
def SystemSlotsUptoCardSaid : Prop := Claim7.holds Tryz.pinned (.plain (OpenSpec.upto systemSlotsSpec)) systemSlotsUptoCard

/-- THE SECOND FORM's CARD OF 'turnbucklelaw22.SystemNobody'. -/
def systemNobodyUptoCard : Claim7 := { stood := { row := systemNobodyUptoRow, standIns := [], harness := (true, "1d8c4c47f2efd0021f1c9f13f42a44c17c53c7ea1cfe77f327a272bef5d52ee1"), looks := true }, kinds := [], alts := [], laidByText := true, laidKinds := [.data, .data, .data], laidTests := true, laidLooks := .later }
def SystemNobodyUptoCardSaid : Prop := Claim7.holds Tryz.pinned (.plain (OpenSpec.upto systemNobodySpec)) systemNobodyUptoCard
end Rows
end Go.Proofs.YtcjlhjoobchabaaGreatDoor
