/-
  DERIVED. GIVEN WITH THE SEED: THE CARDS: each row of YtgodhpampaleeaaDoorRows.lean that lists a variable, with what it lists TIED to the program's text (the seventh form; the later family's looks); each row that meets fmt, with fmt's text TOLD by the authors' own Lean function (tested against real Go, not proved from fmt's source: count such statements apart). THE CARD IS WHAT COUNTS. Prove the row's statement (the work); the ties are given (YtgodhpampaleeaaDoorTie.lean); close each card by the builder's one call (the guide's Derived/Test/ToyasCard.lean, 'card_holds'). Laid BY PROGRAM, IN A SANDBOX (cutbox-door.mjs). By AI agents, Wed Nov 11 2026. No macro, syntax, notation, axiom, sorry.
-/
import Derived.Test.YtgodhpampaleeaaDoorRows
import GoSem.ClaimSeven
namespace Go.Proofs.YtgodhpampaleeaaDoor
namespace Rows

/-- THE TIED CARD OF 'gouachelaw24.ExtentPixels'. -/
def extentPixelsCard : Claim7 := { stood := { row := extentPixelsRow, standIns := [], harness := (true, "ea1681c72fcff42b9d5f0b2bc33b92f5976f150865dcc39a2ca78bb5252e5157"), looks := true }, kinds := [], alts := [], laidByText := true, laidKinds := [.data, .data, .data], laidTests := true, laidLooks := .later }
def ExtentPixelsCardSaid : Prop := Claim7.holds Tryd.pinned (.plain (OpenSpec.ofChange extentPixelsSpec)) extentPixelsCard

/-- THE TIED CARD OF 'gouachelaw24.ExtentMore'. -/
def extentMoreCard : Claim7 := { stood := { row := extentMoreRow, standIns := [], harness := (true, "ea1681c72fcff42b9d5f0b2bc33b92f5976f150865dcc39a2ca78bb5252e5157"), looks := true }, kinds := [], alts := [], laidByText := true, laidKinds := [.data, .data, .data], laidTests := true, laidLooks := .later }
def ExtentMoreCardSaid : Prop := Claim7.holds Tryd.pinned (.plain (OpenSpec.ofChange extentMoreSpec)) extentMoreCard

/-- THE SECOND FORM's CARD OF 'gouachelaw24.ExtentPixels'. -/
def extentPixelsUptoCard : Claim7 := { stood := { row := extentPixelsUptoRow, standIns := [], harness := (true, "ea1681c72fcff42b9d5f0b2bc33b92f5976f150865dcc39a2ca78bb5252e5157"), looks := true }, kinds := [], alts := [], laidByText := true, laidKinds := [.data, .data, .data], laidTests := true, laidLooks := .later }
def ExtentPixelsUptoCardSaid : Prop := Claim7.holds Tryd.pinned (.plain (OpenSpec.upto extentPixelsSpec)) extentPixelsUptoCard

/-- THE SECOND FORM's CARD OF 'gouachelaw24.ExtentMore'. -/
def extentMoreUptoCard : Claim7 := { stood := { row := extentMoreUptoRow, standIns := [], harness := (true, "ea1681c72fcff42b9d5f0b2bc33b92f5976f150865dcc39a2ca78bb5252e5157"), looks := true }, kinds := [], alts := [], laidByText := true, laidKinds := [.data, .data, .data], laidTests := true, laidLooks := .later }
def ExtentMoreUptoCardSaid : Prop := Claim7.holds Tryd.pinned (.plain (OpenSpec.upto extentMoreSpec)) extentMoreUptoCard
end Rows
end Go.Proofs.YtgodhpampaleeaaDoor
