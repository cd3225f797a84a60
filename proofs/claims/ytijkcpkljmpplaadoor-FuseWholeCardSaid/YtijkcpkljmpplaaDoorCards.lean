/-
  DERIVED. GIVEN WITH THE SEED: THE CARDS: each row of YtijkcpkljmpplaaDoorRows.lean that lists a variable, with what it lists TIED to the program's text (the seventh form; the later family's looks); each row that meets fmt, with fmt's text TOLD by the authors' own Lean function (tested against real Go, not proved from fmt's source: count such statements apart). THE CARD IS WHAT COUNTS. Prove the row's statement (the work); the ties are given (YtijkcpkljmpplaaDoorTie.lean); close each card by the builder's one call (the guide's Derived/Test/ToyasCard.lean, 'card_holds'). Laid BY PROGRAM, IN A SANDBOX (cutbox-door.mjs). By AI agents, Wed Nov 11 2026. No macro, syntax, notation, axiom, sorry.
-/
import Derived.Test.YtijkcpkljmpplaaDoorRows
import GoSem.ClaimSeven
namespace Go.Proofs.YtijkcpkljmpplaaDoor
namespace Rows

/-- THE TIED CARD OF 'gouachelaw16.FuseGroups'. -/
def fuseGroupsCard : Claim7 := { stood := { row := fuseGroupsRow, standIns := [], harness := (true, "c2f3d116e809681e9756b3aecfb5915961d9c20a0eb075ff2788760038fc9c2c"), looks := true }, kinds := [], alts := [], laidByText := true, laidKinds := [.data, .data, .data], laidTests := true, laidLooks := .later }
def FuseGroupsCardSaid : Prop := Claim7.holds Tryd.pinned (.plain (OpenSpec.ofChange fuseGroupsSpec)) fuseGroupsCard

/-- THE TIED CARD OF 'gouachelaw16.FuseWhole'. -/
def fuseWholeCard : Claim7 := { stood := { row := fuseWholeRow, standIns := [], harness := (true, "c2f3d116e809681e9756b3aecfb5915961d9c20a0eb075ff2788760038fc9c2c"), looks := true }, kinds := [], alts := [], laidByText := true, laidKinds := [.data, .data, .data], laidTests := true, laidLooks := .later }
def FuseWholeCardSaid : Prop := Claim7.holds Tryd.pinned (.plain (OpenSpec.ofChange fuseWholeSpec)) fuseWholeCard

/-- THE TIED CARD OF 'gouachelaw16.FuseFewer'. -/
def fuseFewerCard : Claim7 := { stood := { row := fuseFewerRow, standIns := [], harness := (true, "c2f3d116e809681e9756b3aecfb5915961d9c20a0eb075ff2788760038fc9c2c"), looks := true }, kinds := [], alts := [], laidByText := true, laidKinds := [.data, .data, .data], laidTests := true, laidLooks := .later }
def FuseFewerCardSaid : Prop := Claim7.holds Tryd.pinned (.plain (OpenSpec.ofChange fuseFewerSpec)) fuseFewerCard

/-- THE TIED CARD OF 'gouachelaw16.FuseKeeps'. -/
def fuseKeepsCard : Claim7 := { stood := { row := fuseKeepsRow, standIns := [], harness := (true, "c2f3d116e809681e9756b3aecfb5915961d9c20a0eb075ff2788760038fc9c2c"), looks := true }, kinds := [], alts := [], laidByText := true, laidKinds := [.data, .data, .data], laidTests := true, laidLooks := .later }
def FuseKeepsCardSaid : Prop := Claim7.holds Tryd.pinned (.plain (OpenSpec.ofChange fuseKeepsSpec)) fuseKeepsCard

/-- THE SECOND FORM's CARD OF 'gouachelaw16.FuseGroups'. -/
def fuseGroupsUptoCard : Claim7 := { stood := { row := fuseGroupsUptoRow, standIns := [], harness := (true, "c2f3d116e809681e9756b3aecfb5915961d9c20a0eb075ff2788760038fc9c2c"), looks := true }, kinds := [], alts := [], laidByText := true, laidKinds := [.data, .data, .data], laidTests := true, laidLooks := .later }
def FuseGroupsUptoCardSaid : Prop := Claim7.holds Tryd.pinned (.plain (OpenSpec.upto fuseGroupsSpec)) fuseGroupsUptoCard

/-- THE SECOND FORM's CARD OF 'gouachelaw16.FuseWhole'. -/
def fuseWholeUptoCard : Claim7 := { stood := { row := fuseWholeUptoRow, standIns := [], harness := (true, "c2f3d116e809681e9756b3aecfb5915961d9c20a0eb075ff2788760038fc9c2c"), looks := true }, kinds := [], alts := [], laidByText := true, laidKinds := [.data, .data, .data], laidTests := true, laidLooks := .later }
def FuseWholeUptoCardSaid : Prop := Claim7.holds Tryd.pinned (.plain (OpenSpec.upto fuseWholeSpec)) fuseWholeUptoCard

/-- THE SECOND FORM's CARD OF 'gouachelaw16.FuseFewer'. -/
def fuseFewerUptoCard : Claim7 := { stood := { row := fuseFewerUptoRow, standIns := [], harness := (true, "c2f3d116e809681e9756b3aecfb5915961d9c20a0eb075ff2788760038fc9c2c"), looks := true }, kinds := [], alts := [], laidByText := true, laidKinds := [.data, .data, .data], laidTests := true, laidLooks := .later }
def FuseFewerUptoCardSaid : Prop := Claim7.holds Tryd.pinned (.plain (OpenSpec.upto fuseFewerSpec)) fuseFewerUptoCard

/-- THE SECOND FORM's CARD OF 'gouachelaw16.FuseKeeps'. -/
def fuseKeepsUptoCard : Claim7 := { stood := { row := fuseKeepsUptoRow, standIns := [], harness := (true, "c2f3d116e809681e9756b3aecfb5915961d9c20a0eb075ff2788760038fc9c2c"), looks := true }, kinds := [], alts := [], laidByText := true, laidKinds := [.data, .data, .data], laidTests := true, laidLooks := .later }
def FuseKeepsUptoCardSaid : Prop := Claim7.holds Tryd.pinned (.plain (OpenSpec.upto fuseKeepsSpec)) fuseKeepsUptoCard
end Rows
end Go.Proofs.YtijkcpkljmpplaaDoor
