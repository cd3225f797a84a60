/-
  NARROWER THAN 'FOR EVERY INPUT', by the rows' own cells (each row's printed sentence says how): ProofSpoilt: laid · ProofTurned: laid · ProofKeeps: laid.
  DERIVED. THE GIVEN ROWS OF THIS SEAT. 3 by the template 'for every input the law returns true; each argument reads behind the call as it read before'; 0 by the template 'total and deterministic' (their statements: YtaoamkbcegadcaaGreatDoorTotals.lean).
  GIVEN WITH THE SEED: the statements are not yours to turn. If you find one false, say at which input.
  Laid BY PROGRAM, IN A SANDBOX (cutbox-rows.mjs): the forced cells as the released guide's own fill.sh prints them over the translation ee34acf8615a7c8d… (all of the seat's roots in one cut). By AI agents, Wed Nov 11 2026. No macro, syntax, notation, axiom, sorry.
-/
import Derived.Test.YtaoamkbcegadcaaGreatDoorChecked
import GoSem.Claim
import GoSem.ClaimJoined
import GoSem.ClaimMapViews
import Derived.JoinedTies
import Derived.KernelRfl
namespace Go.Proofs.YtaoamkbcegadcaaGreatDoor
/- THE CELL 'sum', in the pinned program and in every row, IS THE sha256 OF THE DUMP (.gsa) THAT YtaoamkbcegadcaaGreatDoorProg.lean LOADS. Nothing in Lean hashes anything: it is a label: what it is worth is what the hold of that sum in a sandbox is worth. -/
noncomputable def Tryz.pinned : Pinned := { name := "ytaoamkbcegadcaagreatdoor", sum := "ee34acf8615a7c8d4de0a26c218f52c8e2eb500477a44d81550210faa9e321ad", checked := Tryz.checked }
namespace Rows
def none {H : Type} : Left H := { results := [], args := [] }

/- WHAT THE LISTED PACKAGE-LEVEL VARIABLES READ AS WHEN THE CALL BEGINS. Each datum BY PROGRAM (the guide's laid-datum.mjs) off the statement by which the dump's own 'gosem.cut.vars' lays the variable. In a bare row this is a premise. The card (YtaoamkbcegadcaaGreatDoorCards.lean) ties it to the program's text. -/
def laid_gouache_gouacheref12_least {H : Type} : DataW H := .agg [.lit (.int .i64 0), .lit (.int .i64 1), .lit (.int .i64 1), .lit (.int .i64 1), .lit (.int .i64 1), .lit (.int .i64 1), .lit (.int .i64 0), .lit (.int .i64 2), .lit (.int .i64 2), .lit (.int .i64 1), .lit (.int .i64 1), .lit (.int .i64 1), .lit (.int .i64 1)]
def laid_gouache_gouacheref12_most {H : Type} : DataW H := .agg [.lit (.int .i64 0), .lit (.int .i64 1), .lit (.int .i64 1), .lit (.int .i64 1), .lit (.int .i64 1), .lit (.int .i64 1), .lit (.int .i64 0), .lit (.int .i64 2), .lit (.int .i64 2), .lit (.int .i64 8), .lit (.int .i64 1), .lit (.int .i64 1), .lit (.int .i64 1)]
def laid_gouache_gouacheref12_params {H : Type} : DataW H := .agg [.lit (.int .i64 0), .lit (.int .i64 2), .lit (.int .i64 2), .lit (.int .i64 2), .lit (.int .i64 2), .lit (.int .i64 20), .lit (.int .i64 8), .lit (.int .i64 1), .lit (.int .i64 1), .lit (.int .i64 0), .lit (.int .i64 4), .lit (.int .i64 8), .lit (.int .i64 4)]

/-- 'gouachelaw20.ProofSpoilt': WHATEVER THE INPUT: true; the input reads as it did. -/
def proofSpoiltSpec : ChangeSpec := { name := "proofSpoilt", fn := fun _ => fun
  | [d1, d2, d3, d4] => { results := [.lit (.bool true)], args := [d1, d2, d3, d4] }
  | _ => none }
def proofSpoiltRow : OpenClaim := { program := "ytaoamkbcegadcaagreatdoor", sum := "ee34acf8615a7c8d4de0a26c218f52c8e2eb500477a44d81550210faa9e321ad", func := "gouache/gouachelaw20.ProofSpoilt", spec := "proofSpoilt", unfollowed := true, recurses := true, named := ["gouache/gouacheref12.least", "gouache/gouacheref12.most", "gouache/gouacheref12.params"], apart := false, laid := [("gouache/gouacheref12.least", laid_gouache_gouacheref12_least), ("gouache/gouacheref12.most", laid_gouache_gouacheref12_most), ("gouache/gouacheref12.params", laid_gouache_gouacheref12_params)] }
def ProofSpoiltSaid : Prop := proofSpoiltRow.holds Tryz.pinned (OpenSpec.ofChange proofSpoiltSpec)

/-- ITS FALSE NEIGHBOUR: 'it returns false'. Refute it at one input. -/
def proofSpoiltWrong : ChangeSpec := { name := "proofSpoilt", fn := fun _ => fun
  | [d1, d2, d3, d4] => { results := [.lit (.bool false)], args := [d1, d2, d3, d4] }
  | _ => none }
def ProofSpoiltWrongFalsely : Prop := proofSpoiltRow.holds Tryz.pinned (OpenSpec.ofChange proofSpoiltWrong)

/-- 'gouachelaw20.ProofTurned': WHATEVER THE INPUT: true; the input reads as it did. -/
def proofTurnedSpec : ChangeSpec := { name := "proofTurned", fn := fun _ => fun
  | [d1, d2, d3] => { results := [.lit (.bool true)], args := [d1, d2, d3] }
  | _ => none }
def proofTurnedRow : OpenClaim := { program := "ytaoamkbcegadcaagreatdoor", sum := "ee34acf8615a7c8d4de0a26c218f52c8e2eb500477a44d81550210faa9e321ad", func := "gouache/gouachelaw20.ProofTurned", spec := "proofTurned", unfollowed := true, recurses := true, named := ["gouache/gouacheref12.least", "gouache/gouacheref12.most", "gouache/gouacheref12.params"], apart := false, laid := [("gouache/gouacheref12.least", laid_gouache_gouacheref12_least), ("gouache/gouacheref12.most", laid_gouache_gouacheref12_most), ("gouache/gouacheref12.params", laid_gouache_gouacheref12_params)] }
def ProofTurnedSaid : Prop := proofTurnedRow.holds Tryz.pinned (OpenSpec.ofChange proofTurnedSpec)

/-- ITS FALSE NEIGHBOUR: 'it returns false'. Refute it at one input. -/
def proofTurnedWrong : ChangeSpec := { name := "proofTurned", fn := fun _ => fun
  | [d1, d2, d3] => { results := [.lit (.bool false)], args := [d1, d2, d3] }
  | _ => none }
def ProofTurnedWrongFalsely : Prop := proofTurnedRow.holds Tryz.pinned (OpenSpec.ofChange proofTurnedWrong)

/-- 'gouachelaw20.ProofKeeps': WHATEVER THE INPUT: true; the input reads as it did. -/
def proofKeepsSpec : ChangeSpec := { name := "proofKeeps", fn := fun _ => fun
  | [d1, d2, d3] => { results := [.lit (.bool true)], args := [d1, d2, d3] }
  | _ => none }
def proofKeepsRow : OpenClaim := { program := "ytaoamkbcegadcaagreatdoor", sum := "ee34acf8615a7c8d4de0a26c218f52c8e2eb500477a44d81550210faa9e321ad", func := "gouache/gouachelaw20.ProofKeeps", spec := "proofKeeps", unfollowed := true, recurses := true, named := ["gouache/gouacheref12.least", "gouache/gouacheref12.most", "gouache/gouacheref12.params"], apart := false, laid := [("gouache/gouacheref12.least", laid_gouache_gouacheref12_least), ("gouache/gouacheref12.most", laid_gouache_gouacheref12_most), ("gouache/gouacheref12.params", laid_gouache_gouacheref12_params)] }
def ProofKeepsSaid : Prop := proofKeepsRow.holds Tryz.pinned (OpenSpec.ofChange proofKeepsSpec)

/-- ITS FALSE NEIGHBOUR: 'it returns false'. Refute it at one input. -/
def proofKeepsWrong : ChangeSpec := { name := "proofKeeps", fn := fun _ => fun
  | [d1, d2, d3] => { results := [.lit (.bool false)], args := [d1, d2, d3] }
  | _ => none }
def ProofKeepsWrongFalsely : Prop := proofKeepsRow.holds Tryz.pinned (OpenSpec.ofChange proofKeepsWrong)

/- THE SECOND FORM. 'bulk': how many values and letters a reading holds, each counted each time it is reached (what is shared counts as often as it is met; a slice's spare places count too). A statement '..UptoSaid' is the law's where the arguments, and the package variables that the reading takes, are together of bulk at most 1048576: NARROWER than '..Said'. Prove '..Said' where nothing that the law and all that it calls make is longer than what came in: it says more and counts as full. Else prove '..UptoSaid'. A law counts once. -/
mutual
def uptoBulk {H : Type} : DataW H → Nat
  | .lit (.string bytes) => bytes.length + 1
  | .lit _ => 1
  | .nil => 1
  | .ptr d => uptoBulk d + 1
  | .slice elems spare => uptoBulkAll elems + uptoBulkAll spare + 1
  | .agg parts => uptoBulkAll parts + 1
  | .iface _ d => uptoBulk d + 1
  | .map entries => uptoBulkEntries entries + 1
  | .held _ => 1
def uptoBulkAll {H : Type} : List (DataW H) → Nat
  | [] => 0
  | d :: r => uptoBulk d + uptoBulkAll r
def uptoBulkEntries {H : Type} : List (Lit × DataW H) → Nat
  | [] => 0
  | x :: r => uptoBulkEntry x + uptoBulkEntries r
def uptoBulkEntry {H : Type} : Lit × DataW H → Nat
  | (.string bytes, d) => bytes.length + uptoBulk d + 1
  | (_, d) => uptoBulk d + 1
 end
def uptoSmall : (H : Type) → List (DataW H) → Bool := fun _ ds => decide (uptoBulkAll ds ≤ 1048576)
def OpenSpec.upto (s : _root_.Go.ChangeSpec) : _root_.Go.OpenSpec := { _root_.Go.OpenSpec.ofChange s with cond := some uptoSmall }

/-- 'gouachelaw20.ProofSpoilt', WHERE WHAT IT READS IS OF BULK AT MOST 1048576: true; the input reads as it did. -/
def proofSpoiltUptoRow : OpenClaim := { program := "ytaoamkbcegadcaagreatdoor", sum := "ee34acf8615a7c8d4de0a26c218f52c8e2eb500477a44d81550210faa9e321ad", func := "gouache/gouachelaw20.ProofSpoilt", spec := "proofSpoilt", unfollowed := true, recurses := true, named := ["gouache/gouacheref12.least", "gouache/gouacheref12.most", "gouache/gouacheref12.params"], apart := false, laid := [("gouache/gouacheref12.least", laid_gouache_gouacheref12_least), ("gouache/gouacheref12.most", laid_gouache_gouacheref12_most), ("gouache/gouacheref12.params", laid_gouache_gouacheref12_params)], narrowed := true }
def ProofSpoiltUptoSaid : Prop := proofSpoiltUptoRow.holds Tryz.pinned (OpenSpec.upto proofSpoiltSpec)

/-- 'gouachelaw20.ProofTurned', WHERE WHAT IT READS IS OF BULK AT MOST 1048576: true; the input reads as it did. -/
def proofTurnedUptoRow : OpenClaim := { program := "ytaoamkbcegadcaagreatdoor", sum := "ee34acf8615a7c8d4de0a26c218f52c8e2eb500477a44d81550210faa9e321ad", func := "gouache/gouachelaw20.ProofTurned", spec := "proofTurned", unfollowed := true, recurses := true, named := ["gouache/gouacheref12.least", "gouache/gouacheref12.most", "gouache/gouacheref12.params"], apart := false, laid := [("gouache/gouacheref12.least", laid_gouache_gouacheref12_least), ("gouache/gouacheref12.most", laid_gouache_gouacheref12_most), ("gouache/gouacheref12.params", laid_gouache_gouacheref12_params)], narrowed := true }
def ProofTurnedUptoSaid : Prop := proofTurnedUptoRow.holds Tryz.pinned (OpenSpec.upto proofTurnedSpec)

/-- 'gouachelaw20.ProofKeeps', WHERE WHAT IT READS IS OF BULK AT MOST 1048576: true; the input reads as it did. -/
def proofKeepsUptoRow : OpenClaim := { program := "ytaoamkbcegadcaagreatdoor", sum := "ee34acf8615a7c8d4de0a26c218f52c8e2eb500477a44d81550210faa9e321ad", func := "gouache/gouachelaw20.ProofKeeps", spec := "proofKeeps", unfollowed := true, recurses := true, named := ["gouache/gouacheref12.least", "gouache/gouacheref12.most", "gouache/gouacheref12.params"], apart := false, laid := [("gouache/gouacheref12.least", laid_gouache_gouacheref12_least), ("gouache/gouacheref12.most", laid_gouache_gouacheref12_most), ("gouache/gouacheref12.params", laid_gouache_gouacheref12_params)], narrowed := true }
def ProofKeepsUptoSaid : Prop := proofKeepsUptoRow.holds Tryz.pinned (OpenSpec.upto proofKeepsSpec)

end Rows
end Go.Proofs.YtaoamkbcegadcaaGreatDoor
