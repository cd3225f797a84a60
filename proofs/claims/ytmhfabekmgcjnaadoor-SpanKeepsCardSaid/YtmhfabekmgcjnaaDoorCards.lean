/-
  DERIVED. GIVEN WITH THE SEED: THE CARDS: each row of YtmhfabekmgcjnaaDoorRows.lean that lists a variable, with what it lists TIED to the program's text (the seventh form; the later family's looks); each row that meets fmt, with fmt's text TOLD by the authors' own Lean function (tested against real Go, not proved from fmt's source: count such statements apart). THE CARD IS WHAT COUNTS. Prove the row's statement (the work); the ties are given (YtmhfabekmgcjnaaDoorTie.lean); close each card by the builder's one call (the guide's Derived/Test/ToyasCard.lean, 'card_holds'). Laid BY PROGRAM, IN A SANDBOX (cutbox-door.mjs). By AI agents, Wed Nov 11 2026. No macro, syntax, notation, axiom, sorry.
-/
import Derived.Test.YtmhfabekmgcjnaaDoorRows
import GoSem.ClaimSeven
namespace Go.Proofs.YtmhfabekmgcjnaaDoor
namespace Rows

/-- THE TIED CARD OF 'gouachelaw17.SpanAlls'. -/
def spanAllsCard : Claim7 := { stood := { row := spanAllsRow, standIns := [], harness := (true, "8ac4a184f5b2e618a374b42a6dbe7590aed4e317889c42573a7420a7ed5b5c65"), looks := false }, kinds := [], alts := [], laidByText := true, laidKinds := [.data, .data, .data], laidTests := true, laidLooks := .later }
def SpanAllsCardSaid : Prop := Claim7.holds Tryd.pinned (.plain (OpenSpec.ofChange spanAllsSpec)) spanAllsCard

/-- THE TIED CARD OF 'gouachelaw17.SpanLives'. -/
def spanLivesCard : Claim7 := { stood := { row := spanLivesRow, standIns := [], harness := (true, "8ac4a184f5b2e618a374b42a6dbe7590aed4e317889c42573a7420a7ed5b5c65"), looks := false }, kinds := [], alts := [], laidByText := true, laidKinds := [.data, .data, .data], laidTests := true, laidLooks := .later }
def SpanLivesCardSaid : Prop := Claim7.holds Tryd.pinned (.plain (OpenSpec.ofChange spanLivesSpec)) spanLivesCard

/-- THE TIED CARD OF 'gouachelaw17.SpanLast'. -/
def spanLastCard : Claim7 := { stood := { row := spanLastRow, standIns := [], harness := (true, "8ac4a184f5b2e618a374b42a6dbe7590aed4e317889c42573a7420a7ed5b5c65"), looks := false }, kinds := [], alts := [], laidByText := true, laidKinds := [.data, .data, .data], laidTests := true, laidLooks := .later }
def SpanLastCardSaid : Prop := Claim7.holds Tryd.pinned (.plain (OpenSpec.ofChange spanLastSpec)) spanLastCard

/-- THE TIED CARD OF 'gouachelaw17.SpanKeeps'. -/
def spanKeepsCard : Claim7 := { stood := { row := spanKeepsRow, standIns := [], harness := (true, "8ac4a184f5b2e618a374b42a6dbe7590aed4e317889c42573a7420a7ed5b5c65"), looks := false }, kinds := [], alts := [], laidByText := true, laidKinds := [.data, .data, .data], laidTests := true, laidLooks := .later }
def SpanKeepsCardSaid : Prop := Claim7.holds Tryd.pinned (.plain (OpenSpec.ofChange spanKeepsSpec)) spanKeepsCard

/-- THE SECOND FORM's CARD OF 'gouachelaw17.SpanAlls'. -/
def spanAllsUptoCard : Claim7 := { stood := { row := spanAllsUptoRow, standIns := [], harness := (true, "8ac4a184f5b2e618a374b42a6dbe7590aed4e317889c42573a7420a7ed5b5c65"), looks := false }, kinds := [], alts := [], laidByText := true, laidKinds := [.data, .data, .data], laidTests := true, laidLooks := .later }
def SpanAllsUptoCardSaid : Prop := Claim7.holds Tryd.pinned (.plain (OpenSpec.upto spanAllsSpec)) spanAllsUptoCard

/-- THE SECOND FORM's CARD OF 'gouachelaw17.SpanLives'. -/
def spanLivesUptoCard : Claim7 := { stood := { row := spanLivesUptoRow, standIns := [], harness := (true, "8ac4a184f5b2e618a374b42a6dbe7590aed4e317889c42573a7420a7ed5b5c65"), looks := false }, kinds := [], alts := [], laidByText := true, laidKinds := [.data, .data, .data], laidTests := true, laidLooks := .later }
def SpanLivesUptoCardSaid : Prop := Claim7.holds Tryd.pinned (.plain (OpenSpec.upto spanLivesSpec)) spanLivesUptoCard

/-- THE SECOND FORM's CARD OF 'gouachelaw17.SpanLast'. -/
def spanLastUptoCard : Claim7 := { stood := { row := spanLastUptoRow, standIns := [], harness := (true, "8ac4a184f5b2e618a374b42a6dbe7590aed4e317889c42573a7420a7ed5b5c65"), looks := false }, kinds := [], alts := [], laidByText := true, laidKinds := [.data, .data, .data], laidTests := true, laidLooks := .later }
def SpanLastUptoCardSaid : Prop := Claim7.holds Tryd.pinned (.plain (OpenSpec.upto spanLastSpec)) spanLastUptoCard

/-- THE SECOND FORM's CARD OF 'gouachelaw17.SpanKeeps'. -/
def spanKeepsUptoCard : Claim7 := { stood := { row := spanKeepsUptoRow, standIns := [], harness := (true, "8ac4a184f5b2e618a374b42a6dbe7590aed4e317889c42573a7420a7ed5b5c65"), looks := false }, kinds := [], alts := [], laidByText := true, laidKinds := [.data, .data, .data], laidTests := true, laidLooks := .later }
def SpanKeepsUptoCardSaid : Prop := Claim7.holds Tryd.pinned (.plain (OpenSpec.upto spanKeepsSpec)) spanKeepsUptoCard
end Rows
end Go.Proofs.YtmhfabekmgcjnaaDoor
