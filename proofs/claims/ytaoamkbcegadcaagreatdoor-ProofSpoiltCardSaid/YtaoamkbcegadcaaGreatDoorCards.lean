/-
  DERIVED. GIVEN WITH THE SEED: THE CARDS: each row of YtaoamkbcegadcaaGreatDoorRows.lean that lists a variable, with what it lists TIED to the program's text (the seventh form; the later family's looks); each row that meets fmt, with fmt's text TOLD by the authors' own Lean function (tested against real Go, not proved from fmt's source: count such statements apart). THE CARD IS WHAT COUNTS. Prove the row's statement (the work); the ties are given (YtaoamkbcegadcaaGreatDoorTie.lean); close each card by the builder's one call (the guide's Derived/Test/ToyasCard.lean, 'card_holds'). Laid BY PROGRAM, IN A SANDBOX (cutbox-door.mjs). By AI agents, Wed Nov 11 2026. No macro, syntax, notation, axiom, sorry.
-/
import Derived.Test.YtaoamkbcegadcaaGreatDoorRows
import GoSem.ClaimSeven
namespace Go.Proofs.YtaoamkbcegadcaaGreatDoor
namespace Rows

/-- THE TIED CARD OF 'gouachelaw20.ProofSpoilt'. -/
def proofSpoiltCard : Claim7 := { stood := { row := proofSpoiltRow, standIns := [], harness := (true, "c457fba5c6def67dc87a2d761feda71650505d726a75ebf59193efa00df28255"), looks := true }, kinds := [], alts := [], laidByText := true, laidKinds := [.data, .data, .data], laidTests := true, laidLooks := .later }
def ProofSpoiltCardSaid : Prop := Claim7.holds Tryz.pinned (.plain (OpenSpec.ofChange proofSpoiltSpec)) proofSpoiltCard

/-- THE TIED CARD OF 'gouachelaw20.ProofTurned'. -/
def proofTurnedCard : Claim7 := { stood := { row := proofTurnedRow, standIns := [], harness := (true, "c457fba5c6def67dc87a2d761feda71650505d726a75ebf59193efa00df28255"), looks := true }, kinds := [], alts := [], laidByText := true, laidKinds := [.data, .data, .data], laidTests := true, laidLooks := .later }
def ProofTurnedCardSaid : Prop := Claim7.holds Tryz.pinned (.plain (OpenSpec.ofChange proofTurnedSpec)) proofTurnedCard

/-- THE TIED CARD OF 'gouachelaw20.ProofKeeps'. -/
def proofKeepsCard : Claim7 := { stood := { row := proofKeepsRow, standIns := [], harness := (true, "c457fba5c6def67dc87a2d761feda71650505d726a75ebf59193efa00df28255"), looks := true }, kinds := [], alts := [], laidByText := true, laidKinds := [.data, .data, .data], laidTests := true, laidLooks := .later }
def ProofKeepsCardSaid : Prop := Claim7.holds Tryz.pinned (.plain (OpenSpec.ofChange proofKeepsSpec)) proofKeepsCard

/-- THE SECOND FORM's CARD OF 'gouachelaw20.ProofSpoilt'. -/
def proofSpoiltUptoCard : Claim7 := { stood := { row := proofSpoiltUptoRow, standIns := [], harness := (true, "c457fba5c6def67dc87a2d761feda71650505d726a75ebf59193efa00df28255"), looks := true }, kinds := [], alts := [], laidByText := true, laidKinds := [.data, .data, .data], laidTests := true, laidLooks := .later }
def ProofSpoiltUptoCardSaid : Prop := Claim7.holds Tryz.pinned (.plain (OpenSpec.upto proofSpoiltSpec)) proofSpoiltUptoCard

/-- THE SECOND FORM's CARD OF 'gouachelaw20.ProofTurned'. -/
def proofTurnedUptoCard : Claim7 := { stood := { row := proofTurnedUptoRow, standIns := [], harness := (true, "c457fba5c6def67dc87a2d761feda71650505d726a75ebf59193efa00df28255"), looks := true }, kinds := [], alts := [], laidByText := true, laidKinds := [.data, .data, .data], laidTests := true, laidLooks := .later }
def ProofTurnedUptoCardSaid : Prop := Claim7.holds Tryz.pinned (.plain (OpenSpec.upto proofTurnedSpec)) proofTurnedUptoCard

/-- THE SECOND FORM's CARD OF 'gouachelaw20.ProofKeeps'. -/
def proofKeepsUptoCard : Claim7 := { stood := { row := proofKeepsUptoRow, standIns := [], harness := (true, "c457fba5c6def67dc87a2d761feda71650505d726a75ebf59193efa00df28255"), looks := true }, kinds := [], alts := [], laidByText := true, laidKinds := [.data, .data, .data], laidTests := true, laidLooks := .later }
def ProofKeepsUptoCardSaid : Prop := Claim7.holds Tryz.pinned (.plain (OpenSpec.upto proofKeepsSpec)) proofKeepsUptoCard
end Rows
end Go.Proofs.YtaoamkbcegadcaaGreatDoor
