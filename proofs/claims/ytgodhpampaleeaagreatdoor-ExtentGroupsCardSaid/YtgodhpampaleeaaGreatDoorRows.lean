/-
  NARROWER THAN 'FOR EVERY INPUT', by the rows' own cells (each row's printed sentence says how): ExtentMeans: loops, laid · ExtentGroups: loops, laid.
  DERIVED. THE GIVEN ROWS OF THIS SEAT. 2 by the template 'for every input the law returns true; each argument reads behind the call as it read before'; 0 by the template 'total and deterministic' (their statements: YtgodhpampaleeaaGreatDoorTotals.lean).
  GIVEN WITH THE SEED: the statements are not yours to turn. If you find one false, say at which input.
  Laid BY PROGRAM, IN A SANDBOX (cutbox-rows.mjs): the forced cells as the released guide's own fill.sh prints them over the translation 19f6c151b16b26b0… (all of the seat's roots in one cut). By AI agents, Wed Nov 11 2026. No macro, syntax, notation, axiom, sorry.
-/
import Derived.Test.YtgodhpampaleeaaGreatDoorChecked
import GoSem.Claim
import GoSem.ClaimJoined
import GoSem.ClaimMapViews
import Derived.JoinedTies
import Derived.KernelRfl
namespace Go.Proofs.YtgodhpampaleeaaGreatDoor
/- THE CELL 'sum', in the pinned program and in every row, IS THE sha256 OF THE DUMP (.gsa) THAT YtgodhpampaleeaaGreatDoorProg.lean LOADS. Nothing in Lean hashes anything: it is a label: what it is worth is what the hold of that sum in a sandbox is worth. -/
noncomputable def Tryz.pinned : Pinned := { name := "ytgodhpampaleeaagreatdoor", sum := "19f6c151b16b26b0b9c54d979e964c118321389c411f07e23118626754da538e", checked := Tryz.checked }
namespace Rows
def none {H : Type} : Left H := { results := [], args := [] }

/- WHAT THE LISTED PACKAGE-LEVEL VARIABLES READ AS WHEN THE CALL BEGINS. Each datum BY PROGRAM (the guide's laid-datum.mjs) off the statement by which the dump's own 'gosem.cut.vars' lays the variable. In a bare row this is a premise. The card (YtgodhpampaleeaaGreatDoorCards.lean) ties it to the program's text. -/
def laid_gouache_gouacheref12_least {H : Type} : DataW H := .agg [.lit (.int .i64 0), .lit (.int .i64 1), .lit (.int .i64 1), .lit (.int .i64 1), .lit (.int .i64 1), .lit (.int .i64 1), .lit (.int .i64 0), .lit (.int .i64 2), .lit (.int .i64 2), .lit (.int .i64 1), .lit (.int .i64 1), .lit (.int .i64 1), .lit (.int .i64 1)]
def laid_gouache_gouacheref12_most {H : Type} : DataW H := .agg [.lit (.int .i64 0), .lit (.int .i64 1), .lit (.int .i64 1), .lit (.int .i64 1), .lit (.int .i64 1), .lit (.int .i64 1), .lit (.int .i64 0), .lit (.int .i64 2), .lit (.int .i64 2), .lit (.int .i64 8), .lit (.int .i64 1), .lit (.int .i64 1), .lit (.int .i64 1)]
def laid_gouache_gouacheref12_params {H : Type} : DataW H := .agg [.lit (.int .i64 0), .lit (.int .i64 2), .lit (.int .i64 2), .lit (.int .i64 2), .lit (.int .i64 2), .lit (.int .i64 20), .lit (.int .i64 8), .lit (.int .i64 1), .lit (.int .i64 1), .lit (.int .i64 0), .lit (.int .i64 4), .lit (.int .i64 8), .lit (.int .i64 4)]

/-- 'gouachelaw24.ExtentMeans': WHATEVER THE INPUT: true; the input reads as it did. -/
def extentMeansSpec : ChangeSpec := { name := "extentMeans", fn := fun _ => fun
  | [d1, d2] => { results := [.lit (.bool true)], args := [d1, d2] }
  | _ => none }
def extentMeansRow : OpenClaim := { program := "ytgodhpampaleeaagreatdoor", sum := "19f6c151b16b26b0b9c54d979e964c118321389c411f07e23118626754da538e", func := "gouache/gouachelaw24.ExtentMeans", spec := "extentMeans", unfollowed := true, recurses := true, named := ["gouache/gouacheref12.least", "gouache/gouacheref12.most", "gouache/gouacheref12.params"], loops := true, apart := false, laid := [("gouache/gouacheref12.least", laid_gouache_gouacheref12_least), ("gouache/gouacheref12.most", laid_gouache_gouacheref12_most), ("gouache/gouacheref12.params", laid_gouache_gouacheref12_params)] }
def ExtentMeansSaid : Prop := extentMeansRow.holds Tryz.pinned (OpenSpec.ofChange extentMeansSpec)

/-- ITS FALSE NEIGHBOUR: 'it returns false'. Refute it at one input. -/
def extentMeansWrong : ChangeSpec := { name := "extentMeans", fn := fun _ => fun
  | [d1, d2] => { results := [.lit (.bool false)], args := [d1, d2] }
  | _ => none }
def ExtentMeansWrongFalsely : Prop := extentMeansRow.holds Tryz.pinned (OpenSpec.ofChange extentMeansWrong)

/-- 'gouachelaw24.ExtentGroups': WHATEVER THE INPUT: true; the input reads as it did. -/
def extentGroupsSpec : ChangeSpec := { name := "extentGroups", fn := fun _ => fun
  | [d1, d2] => { results := [.lit (.bool true)], args := [d1, d2] }
  | _ => none }
def extentGroupsRow : OpenClaim := { program := "ytgodhpampaleeaagreatdoor", sum := "19f6c151b16b26b0b9c54d979e964c118321389c411f07e23118626754da538e", func := "gouache/gouachelaw24.ExtentGroups", spec := "extentGroups", unfollowed := true, recurses := true, named := ["gouache/gouacheref12.least", "gouache/gouacheref12.most", "gouache/gouacheref12.params"], loops := true, apart := false, laid := [("gouache/gouacheref12.least", laid_gouache_gouacheref12_least), ("gouache/gouacheref12.most", laid_gouache_gouacheref12_most), ("gouache/gouacheref12.params", laid_gouache_gouacheref12_params)] }
def ExtentGroupsSaid : Prop := extentGroupsRow.holds Tryz.pinned (OpenSpec.ofChange extentGroupsSpec)

/-- ITS FALSE NEIGHBOUR: 'it returns false'. Refute it at one input. -/
def extentGroupsWrong : ChangeSpec := { name := "extentGroups", fn := fun _ => fun
  | [d1, d2] => { results := [.lit (.bool false)], args := [d1, d2] }
  | _ => none }
def ExtentGroupsWrongFalsely : Prop := extentGroupsRow.holds Tryz.pinned (OpenSpec.ofChange extentGroupsWrong)

/- THE SECOND FORM. 'bulk': how many values and letters a reading holds, each counted each time it is reached (what is shared counts as often as it is met; a slice's spare places count too). A statement '..UptoSaid' is the law's where the arguments, and the package variables that the reading takes, are together of bulk at most 1048576: NARROWER than '..Said'. Prove '..Said' where nothing that the law and all that it calls make is longer than what came in: it says more and counts as full. Else prove '..UptoSaid'. A law counts once. -/
mutual
def uptoBulk {H : Type} : DataW H → Nat
  | .lit (.string bytes) => bytes.length + 1
  | .lit _ => 1
  | .nil => 1
  | .ptr d => uptoBulk d + 1
  | .slice elems spare => uptoBulkAll elems + uptoBulkAll spare + 1
  | .agg parts => uptoBulkAll parts + 1
  | .iface _ d => uptoBulk d + 1
  | .map entries => uptoBulkEntries entries + 1
  | .held _ => 1
def uptoBulkAll {H : Type} : List (DataW H) → Nat
  | [] => 0
  | d :: r => uptoBulk d + uptoBulkAll r
def uptoBulkEntries {H : Type} : List (Lit × DataW H) → Nat
  | [] => 0
  | x :: r => uptoBulkEntry x + uptoBulkEntries r
def uptoBulkEntry {H : Type} : Lit × DataW H → Nat
  | (.string bytes, d) => bytes.length + uptoBulk d + 1
  | (_, d) => uptoBulk d + 1
 end
def uptoSmall : (H : Type) → List (DataW H) → Bool := fun _ ds => decide (uptoBulkAll ds ≤ 1048576)
def OpenSpec.upto (s : _root_.Go.ChangeSpec) : _root_.Go.OpenSpec := { _root_.Go.OpenSpec.ofChange s with cond := some uptoSmall }

/-- 'gouachelaw24.ExtentMeans', WHERE WHAT IT READS IS OF BULK AT MOST 1048576: true; the input reads as it did. -/
def extentMeansUptoRow : OpenClaim := { program := "ytgodhpampaleeaagreatdoor", sum := "19f6c151b16b26b0b9c54d979e964c118321389c411f07e23118626754da538e", func := "gouache/gouachelaw24.ExtentMeans", spec := "extentMeans", unfollowed := true, recurses := true, named := ["gouache/gouacheref12.least", "gouache/gouacheref12.most", "gouache/gouacheref12.params"], loops := true, apart := false, laid := [("gouache/gouacheref12.least", laid_gouache_gouacheref12_least), ("gouache/gouacheref12.most", laid_gouache_gouacheref12_most), ("gouache/gouacheref12.params", laid_gouache_gouacheref12_params)], narrowed := true }
def ExtentMeansUptoSaid : Prop := extentMeansUptoRow.holds Tryz.pinned (OpenSpec.upto extentMeansSpec)

/-- 'gouachelaw24.ExtentGroups', WHERE WHAT IT READS IS OF BULK AT MOST 1048576: true; the input reads as it did. -/
def extentGroupsUptoRow : OpenClaim := { program := "ytgodhpampaleeaagreatdoor", sum := "19f6c151b16b26b0b9c54d979e964c118321389c411f07e23118626754da538e", func := "gouache/gouachelaw24.ExtentGroups", spec := "extentGroups", unfollowed := true, recurses := true, named := ["gouache/gouacheref12.least", "gouache/gouacheref12.most", "gouache/gouacheref12.params"], loops := true, apart := false, laid := [("gouache/gouacheref12.least", laid_gouache_gouacheref12_least), ("gouache/gouacheref12.most", laid_gouache_gouacheref12_most), ("gouache/gouacheref12.params", laid_gouache_gouacheref12_params)], narrowed := true }
def ExtentGroupsUptoSaid : Prop := extentGroupsUptoRow.holds Tryz.pinned (OpenSpec.upto extentGroupsSpec)

end Rows
end Go.Proofs.YtgodhpampaleeaaGreatDoor
