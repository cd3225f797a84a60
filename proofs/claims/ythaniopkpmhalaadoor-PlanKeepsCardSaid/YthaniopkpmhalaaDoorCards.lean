/-
  DERIVED. GIVEN WITH THE SEED: THE CARDS: each row of YthaniopkpmhalaaDoorRows.lean that lists a variable, with what it lists TIED to the program's text (the seventh form; the later family's looks); each row that meets fmt, with fmt's text TOLD by the authors' own Lean function (tested against real Go, not proved from fmt's source: count such statements apart). THE CARD IS WHAT COUNTS. Prove the row's statement (the work); the ties are given (YthaniopkpmhalaaDoorTie.lean); close each card by the builder's one call (the guide's Derived/Test/ToyasCard.lean, 'card_holds'). Laid BY PROGRAM, IN A SANDBOX (cutbox-door.mjs). By AI agents, Wed Nov 11 2026. No macro, syntax, notation, axiom, sorry.
-/
import Derived.Test.YthaniopkpmhalaaDoorRows
import GoSem.ClaimSeven
namespace Go.Proofs.YthaniopkpmhalaaDoor
namespace Rows

/-- THE TIED CARD OF 'gouachelaw19.PlanPeak'. -/
def planPeakCard : Claim7 := { stood := { row := planPeakRow, standIns := [], harness := (true, "773828217944fcdc7ea81ed4959c28d9a7786771e96970d7cd7061f19569942a"), looks := true }, kinds := [], alts := [], laidByText := true, laidKinds := [.data, .data, .data], laidTests := true, laidLooks := .later }
def PlanPeakCardSaid : Prop := Claim7.holds Tryd.pinned (.plain (OpenSpec.ofChange planPeakSpec)) planPeakCard

/-- THE TIED CARD OF 'gouachelaw19.PlanBoxes'. -/
def planBoxesCard : Claim7 := { stood := { row := planBoxesRow, standIns := [], harness := (true, "773828217944fcdc7ea81ed4959c28d9a7786771e96970d7cd7061f19569942a"), looks := true }, kinds := [], alts := [], laidByText := true, laidKinds := [.data, .data, .data], laidTests := true, laidLooks := .later }
def PlanBoxesCardSaid : Prop := Claim7.holds Tryd.pinned (.plain (OpenSpec.ofChange planBoxesSpec)) planBoxesCard

/-- THE TIED CARD OF 'gouachelaw19.PlanFuse'. -/
def planFuseCard : Claim7 := { stood := { row := planFuseRow, standIns := [], harness := (true, "773828217944fcdc7ea81ed4959c28d9a7786771e96970d7cd7061f19569942a"), looks := true }, kinds := [], alts := [], laidByText := true, laidKinds := [.data, .data, .data], laidTests := true, laidLooks := .later }
def PlanFuseCardSaid : Prop := Claim7.holds Tryd.pinned (.plain (OpenSpec.ofChange planFuseSpec)) planFuseCard

/-- THE TIED CARD OF 'gouachelaw19.PlanKeeps'. -/
def planKeepsCard : Claim7 := { stood := { row := planKeepsRow, standIns := [], harness := (true, "773828217944fcdc7ea81ed4959c28d9a7786771e96970d7cd7061f19569942a"), looks := true }, kinds := [], alts := [], laidByText := true, laidKinds := [.data, .data, .data], laidTests := true, laidLooks := .later }
def PlanKeepsCardSaid : Prop := Claim7.holds Tryd.pinned (.plain (OpenSpec.ofChange planKeepsSpec)) planKeepsCard

/-- THE SECOND FORM's CARD OF 'gouachelaw19.PlanPeak'. -/
def planPeakUptoCard : Claim7 := { stood := { row := planPeakUptoRow, standIns := [], harness := (true, "773828217944fcdc7ea81ed4959c28d9a7786771e96970d7cd7061f19569942a"), looks := true }, kinds := [], alts := [], laidByText := true, laidKinds := [.data, .data, .data], laidTests := true, laidLooks := .later }
def PlanPeakUptoCardSaid : Prop := Claim7.holds Tryd.pinned (.plain (OpenSpec.upto planPeakSpec)) planPeakUptoCard

/-- THE SECOND FORM's CARD OF 'gouachelaw19.PlanBoxes'. -/
def planBoxesUptoCard : Claim7 := { stood := { row := planBoxesUptoRow, standIns := [], harness := (true, "773828217944fcdc7ea81ed4959c28d9a7786771e96970d7cd7061f19569942a"), looks := true }, kinds := [], alts := [], laidByText := true, laidKinds := [.data, .data, .data], laidTests := true, laidLooks := .later }
def PlanBoxesUptoCardSaid : Prop := Claim7.holds Tryd.pinned (.plain (OpenSpec.upto planBoxesSpec)) planBoxesUptoCard

/-- THE SECOND FORM's CARD OF 'gouachelaw19.PlanFuse'. -/
def planFuseUptoCard : Claim7 := { stood := { row := planFuseUptoRow, standIns := [], harness := (true, "773828217944fcdc7ea81ed4959c28d9a7786771e96970d7cd7061f19569942a"), looks := true }, kinds := [], alts := [], laidByText := true, laidKinds := [.data, .data, .data], laidTests := true, laidLooks := .later }
def PlanFuseUptoCardSaid : Prop := Claim7.holds Tryd.pinned (.plain (OpenSpec.upto planFuseSpec)) planFuseUptoCard

/-- THE SECOND FORM's CARD OF 'gouachelaw19.PlanKeeps'. -/
def planKeepsUptoCard : Claim7 := { stood := { row := planKeepsUptoRow, standIns := [], harness := (true, "773828217944fcdc7ea81ed4959c28d9a7786771e96970d7cd7061f19569942a"), looks := true }, kinds := [], alts := [], laidByText := true, laidKinds := [.data, .data, .data], laidTests := true, laidLooks := .later }
def PlanKeepsUptoCardSaid : Prop := Claim7.holds Tryd.pinned (.plain (OpenSpec.upto planKeepsSpec)) planKeepsUptoCard
end Rows
end Go.Proofs.YthaniopkpmhalaaDoor
