/-
  DERIVED. GIVEN WITH THE SEED: THE CARDS: each row of YtfjeohnigikmoaaDoorRows.lean that lists a variable, with what it lists TIED to the program's text (the seventh form; the later family's looks); each row that meets fmt, with fmt's text TOLD by the authors' own Lean function (tested against real Go, not proved from fmt's source: count such statements apart). THE CARD IS WHAT COUNTS. Prove the row's statement (the work); the ties are given (YtfjeohnigikmoaaDoorTie.lean); close each card by the builder's one call (the guide's Derived/Test/ToyasCard.lean, 'card_holds'). Laid BY PROGRAM, IN A SANDBOX (cutbox-door.mjs). By AI agents, Wed Nov 11 2026. No macro, syntax, notation, axiom, sorry.
-/
import Derived.Test.YtfjeohnigikmoaaDoorRows
import GoSem.ClaimSeven
namespace Go.Proofs.YtfjeohnigikmoaaDoor
namespace Rows

/-- THE TIED CARD OF 'gouachelaw14.NeedCovers'. -/
def needCoversCard : Claim7 := { stood := { row := needCoversRow, standIns := [], harness := (true, "b1309cbf868a8f3fccb067eeae30229515802b1fb0365c9e8835ae6fa2877394"), looks := true }, kinds := [], alts := [], laidByText := true, laidKinds := [.data, .data, .data], laidTests := true, laidLooks := .later }
def NeedCoversCardSaid : Prop := Claim7.holds Tryd.pinned (.plain (OpenSpec.ofChange needCoversSpec)) needCoversCard

/-- THE TIED CARD OF 'gouachelaw14.NeedGrows'. -/
def needGrowsCard : Claim7 := { stood := { row := needGrowsRow, standIns := [], harness := (true, "b1309cbf868a8f3fccb067eeae30229515802b1fb0365c9e8835ae6fa2877394"), looks := true }, kinds := [], alts := [], laidByText := true, laidKinds := [.data, .data, .data], laidTests := true, laidLooks := .later }
def NeedGrowsCardSaid : Prop := Claim7.holds Tryd.pinned (.plain (OpenSpec.ofChange needGrowsSpec)) needGrowsCard

/-- THE TIED CARD OF 'gouachelaw14.NeedKeeps'. -/
def needKeepsCard : Claim7 := { stood := { row := needKeepsRow, standIns := [], harness := (true, "b1309cbf868a8f3fccb067eeae30229515802b1fb0365c9e8835ae6fa2877394"), looks := true }, kinds := [], alts := [], laidByText := true, laidKinds := [.data, .data, .data], laidTests := true, laidLooks := .later }
def NeedKeepsCardSaid : Prop := Claim7.holds Tryd.pinned (.plain (OpenSpec.ofChange needKeepsSpec)) needKeepsCard

/-- THE SECOND FORM's CARD OF 'gouachelaw14.NeedCovers'. -/
def needCoversUptoCard : Claim7 := { stood := { row := needCoversUptoRow, standIns := [], harness := (true, "b1309cbf868a8f3fccb067eeae30229515802b1fb0365c9e8835ae6fa2877394"), looks := true }, kinds := [], alts := [], laidByText := true, laidKinds := [.data, .data, .data], laidTests := true, laidLooks := .later }
def NeedCoversUptoCardSaid : Prop := Claim7.holds Tryd.pinned (.plain (OpenSpec.upto needCoversSpec)) needCoversUptoCard

/-- THE SECOND FORM's CARD OF 'gouachelaw14.NeedGrows'. -/
def needGrowsUptoCard : Claim7 := { stood := { row := needGrowsUptoRow, standIns := [], harness := (true, "b1309cbf868a8f3fccb067eeae30229515802b1fb0365c9e8835ae6fa2877394"), looks := true }, kinds := [], alts := [], laidByText := true, laidKinds := [.data, .data, .data], laidTests := true, laidLooks := .later }
def NeedGrowsUptoCardSaid : Prop := Claim7.holds Tryd.pinned (.plain (OpenSpec.upto needGrowsSpec)) needGrowsUptoCard

/-- THE SECOND FORM's CARD OF 'gouachelaw14.NeedKeeps'. -/
def needKeepsUptoCard : Claim7 := { stood := { row := needKeepsUptoRow, standIns := [], harness := (true, "b1309cbf868a8f3fccb067eeae30229515802b1fb0365c9e8835ae6fa2877394"), looks := true }, kinds := [], alts := [], laidByText := true, laidKinds := [.data, .data, .data], laidTests := true, laidLooks := .later }
def NeedKeepsUptoCardSaid : Prop := Claim7.holds Tryd.pinned (.plain (OpenSpec.upto needKeepsSpec)) needKeepsUptoCard
end Rows
end Go.Proofs.YtfjeohnigikmoaaDoor
