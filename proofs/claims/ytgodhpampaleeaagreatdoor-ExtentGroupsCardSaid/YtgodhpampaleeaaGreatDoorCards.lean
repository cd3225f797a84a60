/-
  DERIVED. GIVEN WITH THE SEED: THE CARDS: each row of YtgodhpampaleeaaGreatDoorRows.lean that lists a variable, with what it lists TIED to the program's text (the seventh form; the later family's looks); each row that meets fmt, with fmt's text TOLD by the authors' own Lean function (tested against real Go, not proved from fmt's source: count such statements apart). THE CARD IS WHAT COUNTS. Prove the row's statement (the work); the ties are given (YtgodhpampaleeaaGreatDoorTie.lean); close each card by the builder's one call (the guide's Derived/Test/ToyasCard.lean, 'card_holds'). Laid BY PROGRAM, IN A SANDBOX (cutbox-door.mjs). By AI agents, Wed Nov 11 2026. No macro, syntax, notation, axiom, sorry.
-/
import Derived.Test.YtgodhpampaleeaaGreatDoorRows
import GoSem.ClaimSeven
namespace Go.Proofs.YtgodhpampaleeaaGreatDoor
namespace Rows

/-- THE TIED CARD OF 'gouachelaw24.ExtentMeans'. -/
def extentMeansCard : Claim7 := { stood := { row := extentMeansRow, standIns := [], harness := (true, "d6cf7bd2aa76ab0a6f6f982e81137aa8a4d2e034d10767f3ca15a53524b5d072"), looks := true }, kinds := [], alts := [], laidByText := true, laidKinds := [.data, .data, .data], laidTests := true, laidLooks := .later }
def ExtentMeansCardSaid : Prop := Claim7.holds Tryz.pinned (.plain (OpenSpec.ofChange extentMeansSpec)) extentMeansCard

/-- THE TIED CARD OF 'gouachelaw24.ExtentGroups'. -/
def extentGroupsCard : Claim7 := { stood := { row := extentGroupsRow, standIns := [], harness := (true, "d6cf7bd2aa76ab0a6f6f982e81137aa8a4d2e034d10767f3ca15a53524b5d072"), looks := true }, kinds := [], alts := [], laidByText := true, laidKinds := [.data, .data, .data], laidTests := true, laidLooks := .later }
def ExtentGroupsCardSaid : Prop := Claim7.holds Tryz.pinned (.plain (OpenSpec.ofChange extentGroupsSpec)) extentGroupsCard

/-- THE SECOND FORM's CARD OF 'gouachelaw24.ExtentMeans'. -/
def extentMeansUptoCard : Claim7 := { stood := { row := extentMeansUptoRow, standIns := [], harness := (true, "d6cf7bd2aa76ab0a6f6f982e81137aa8a4d2e034d10767f3ca15a53524b5d072"), looks := true }, kinds := [], alts := [], laidByText := true, laidKinds := [.data, .data, .data], laidTests := true, laidLooks := .later }
def ExtentMeansUptoCardSaid : Prop := Claim7.holds Tryz.pinned (.plain (OpenSpec.upto extentMeansSpec)) extentMeansUptoCard

/-- THE SECOND FORM's CARD OF 'gouachelaw24.ExtentGroups'. -/
def extentGroupsUptoCard : Claim7 := { stood := { row := extentGroupsUptoRow, standIns := [], harness := (true, "d6cf7bd2aa76ab0a6f6f982e81137aa8a4d2e034d10767f3ca15a53524b5d072"), looks := true }, kinds := [], alts := [], laidByText := true, laidKinds := [.data, .data, .data], laidTests := true, laidLooks := .later }
def ExtentGroupsUptoCardSaid : Prop := Claim7.holds Tryz.pinned (.plain (OpenSpec.upto extentGroupsSpec)) extentGroupsUptoCard
end Rows
end Go.Proofs.YtgodhpampaleeaaGreatDoor
