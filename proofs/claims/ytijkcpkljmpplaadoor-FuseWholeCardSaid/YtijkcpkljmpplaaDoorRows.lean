/-
  NARROWER THAN 'FOR EVERY INPUT', by the rows' own cells (each row's printed sentence says how): FuseGroups: laid · FuseWhole: laid · FuseFewer: laid · FuseKeeps: laid.
  DERIVED. THE GIVEN ROWS OF THIS SEAT. 4 by the template 'for every input the law returns true; each argument reads behind the call as it read before'; 0 by the template 'total and deterministic' (their statements: YtijkcpkljmpplaaDoorTotals.lean).
  GIVEN WITH THE SEED: the statements are not yours to turn. If you find one false, say at which input.
  Laid BY PROGRAM, IN A SANDBOX (cutbox-rows.mjs): the forced cells as the released guide's own fill.sh prints them over the translation 9217a2b06c9c120b… (all of the seat's roots in one cut). By AI agents, Wed Nov 11 2026. No macro, syntax, notation, axiom, sorry.
-/
import Derived.Test.YtijkcpkljmpplaaDoorChecked
import GoSem.Claim
import GoSem.ClaimJoined
import GoSem.ClaimMapViews
import Derived.JoinedTies
import Derived.KernelRfl
namespace Go.Proofs.YtijkcpkljmpplaaDoor
/- THE CELL 'sum', in the pinned program and in every row, IS THE sha256 OF THE DUMP (.gsa) THAT YtijkcpkljmpplaaDoorProg.lean LOADS. Nothing in Lean hashes anything: it is a label: what it is worth is what the hold of that sum in a sandbox is worth. -/
noncomputable def Tryd.pinned : Pinned := { name := "ytijkcpkljmpplaadoor", sum := "9217a2b06c9c120b88baa62555b665be92fff3e0d14d1d07bed809115c3f0725", checked := Tryd.checked }
namespace Rows
def none {H : Type} : Left H := { results := [], args := [] }

/- WHAT THE LISTED PACKAGE-LEVEL VARIABLES READ AS WHEN THE CALL BEGINS. Each datum BY PROGRAM (the guide's laid-datum.mjs) off the statement by which the dump's own 'gosem.cut.vars' lays the variable. In a bare row this is a premise. The card (YtijkcpkljmpplaaDoorCards.lean) ties it to the program's text. -/
def laid_gouache_gouacheref12_least {H : Type} : DataW H := .agg [.lit (.int .i64 0), .lit (.int .i64 1), .lit (.int .i64 1), .lit (.int .i64 1), .lit (.int .i64 1), .lit (.int .i64 1), .lit (.int .i64 0), .lit (.int .i64 2), .lit (.int .i64 2), .lit (.int .i64 1), .lit (.int .i64 1), .lit (.int .i64 1), .lit (.int .i64 1)]
def laid_gouache_gouacheref12_most {H : Type} : DataW H := .agg [.lit (.int .i64 0), .lit (.int .i64 1), .lit (.int .i64 1), .lit (.int .i64 1), .lit (.int .i64 1), .lit (.int .i64 1), .lit (.int .i64 0), .lit (.int .i64 2), .lit (.int .i64 2), .lit (.int .i64 8), .lit (.int .i64 1), .lit (.int .i64 1), .lit (.int .i64 1)]
def laid_gouache_gouacheref12_params {H : Type} : DataW H := .agg [.lit (.int .i64 0), .lit (.int .i64 2), .lit (.int .i64 2), .lit (.int .i64 2), .lit (.int .i64 2), .lit (.int .i64 20), .lit (.int .i64 8), .lit (.int .i64 1), .lit (.int .i64 1), .lit (.int .i64 0), .lit (.int .i64 4), .lit (.int .i64 8), .lit (.int .i64 4)]

/-- 'gouachelaw16.FuseGroups': WHATEVER THE INPUT: true; the input reads as it did. -/
def fuseGroupsSpec : ChangeSpec := { name := "fuseGroups", fn := fun _ => fun
  | [d1, d2] => { results := [.lit (.bool true)], args := [d1, d2] }
  | _ => none }
def fuseGroupsRow : OpenClaim := { program := "ytijkcpkljmpplaadoor", sum := "9217a2b06c9c120b88baa62555b665be92fff3e0d14d1d07bed809115c3f0725", func := "gouache/gouachelaw16.FuseGroups", spec := "fuseGroups", unfollowed := true, recurses := true, named := ["gouache/gouacheref12.least", "gouache/gouacheref12.most", "gouache/gouacheref12.params"], apart := false, laid := [("gouache/gouacheref12.least", laid_gouache_gouacheref12_least), ("gouache/gouacheref12.most", laid_gouache_gouacheref12_most), ("gouache/gouacheref12.params", laid_gouache_gouacheref12_params)] }
def FuseGroupsSaid : Prop := fuseGroupsRow.holds Tryd.pinned (OpenSpec.ofChange fuseGroupsSpec)

/-- ITS FALSE NEIGHBOUR: 'it returns false'. Refute it at one input. -/
def fuseGroupsWrong : ChangeSpec := { name := "fuseGroups", fn := fun _ => fun
  | [d1, d2] => { results := [.lit (.bool false)], args := [d1, d2] }
  | _ => none }
def FuseGroupsWrongFalsely : Prop := fuseGroupsRow.holds Tryd.pinned (OpenSpec.ofChange fuseGroupsWrong)

/-- 'gouachelaw16.FuseWhole': WHATEVER THE INPUT: true; the input reads as it did. -/
def fuseWholeSpec : ChangeSpec := { name := "fuseWhole", fn := fun _ => fun
  | [d1, d2] => { results := [.lit (.bool true)], args := [d1, d2] }
  | _ => none }
def fuseWholeRow : OpenClaim := { program := "ytijkcpkljmpplaadoor", sum := "9217a2b06c9c120b88baa62555b665be92fff3e0d14d1d07bed809115c3f0725", func := "gouache/gouachelaw16.FuseWhole", spec := "fuseWhole", unfollowed := true, recurses := true, named := ["gouache/gouacheref12.least", "gouache/gouacheref12.most", "gouache/gouacheref12.params"], apart := false, laid := [("gouache/gouacheref12.least", laid_gouache_gouacheref12_least), ("gouache/gouacheref12.most", laid_gouache_gouacheref12_most), ("gouache/gouacheref12.params", laid_gouache_gouacheref12_params)] }
def FuseWholeSaid : Prop := fuseWholeRow.holds Tryd.pinned (OpenSpec.ofChange fuseWholeSpec)

/-- ITS FALSE NEIGHBOUR: 'it returns false'. Refute it at one input. -/
def fuseWholeWrong : ChangeSpec := { name := "fuseWhole", fn := fun _ => fun
  | [d1, d2] => { results := [.lit (.bool false)], args := [d1, d2] }
  | _ => none }
def FuseWholeWrongFalsely : Prop := fuseWholeRow.holds Tryd.pinned (OpenSpec.ofChange fuseWholeWrong)

/-- 'gouachelaw16.FuseFewer': WHATEVER THE INPUT: true; the input reads as it did. -/
def fuseFewerSpec : ChangeSpec := { name := "fuseFewer", fn := fun _ => fun
  | [d] => { results := [.lit (.bool true)], args := [d] }
  | _ => none }
def fuseFewerRow : OpenClaim := { program := "ytijkcpkljmpplaadoor", sum := "9217a2b06c9c120b88baa62555b665be92fff3e0d14d1d07bed809115c3f0725", func := "gouache/gouachelaw16.FuseFewer", spec := "fuseFewer", unfollowed := true, recurses := true, named := ["gouache/gouacheref12.least", "gouache/gouacheref12.most", "gouache/gouacheref12.params"], apart := false, laid := [("gouache/gouacheref12.least", laid_gouache_gouacheref12_least), ("gouache/gouacheref12.most", laid_gouache_gouacheref12_most), ("gouache/gouacheref12.params", laid_gouache_gouacheref12_params)] }
def FuseFewerSaid : Prop := fuseFewerRow.holds Tryd.pinned (OpenSpec.ofChange fuseFewerSpec)

/-- ITS FALSE NEIGHBOUR: 'it returns false'. Refute it at one input. -/
def fuseFewerWrong : ChangeSpec := { name := "fuseFewer", fn := fun _ => fun
  | [d] => { results := [.lit (.bool false)], args := [d] }
  | _ => none }
def FuseFewerWrongFalsely : Prop := fuseFewerRow.holds Tryd.pinned (OpenSpec.ofChange fuseFewerWrong)

/-- 'gouachelaw16.FuseKeeps': WHATEVER THE INPUT: true; the input reads as it did. -/
def fuseKeepsSpec : ChangeSpec := { name := "fuseKeeps", fn := fun _ => fun
  | [d] => { results := [.lit (.bool true)], args := [d] }
  | _ => none }
def fuseKeepsRow : OpenClaim := { program := "ytijkcpkljmpplaadoor", sum := "9217a2b06c9c120b88baa62555b665be92fff3e0d14d1d07bed809115c3f0725", func := "gouache/gouachelaw16.FuseKeeps", spec := "fuseKeeps", unfollowed := true, recurses := true, named := ["gouache/gouacheref12.least", "gouache/gouacheref12.most", "gouache/gouacheref12.params"], apart := false, laid := [("gouache/gouacheref12.least", laid_gouache_gouacheref12_least), ("gouache/gouacheref12.most", laid_gouache_gouacheref12_most), ("gouache/gouacheref12.params", laid_gouache_gouacheref12_params)] }
def FuseKeepsSaid : Prop := fuseKeepsRow.holds Tryd.pinned (OpenSpec.ofChange fuseKeepsSpec)

/-- ITS FALSE NEIGHBOUR: 'it returns false'. Refute it at one input. -/
def fuseKeepsWrong : ChangeSpec := { name := "fuseKeeps", fn := fun _ => fun
  | [d] => { results := [.lit (.bool false)], args := [d] }
  | _ => none }
def FuseKeepsWrongFalsely : Prop := fuseKeepsRow.holds Tryd.pinned (OpenSpec.ofChange fuseKeepsWrong)

/- THE SECOND FORM. 'bulk': how many values and letters a reading holds, each counted each time it is reached (what is shared counts as often as it is met; a slice's spare places count too). A statement '..UptoSaid' is the law's where the arguments, and the package variables that the reading takes, are together of bulk at most 1048576: NARROWER than '..Said'. Prove '..Said' where nothing that the law and all that it calls make is longer than what came in: it says more and counts as full. Else prove '..UptoSaid'. A law counts once. -/
mutual
def uptoBulk {H : Type} : DataW H → Nat
  | .lit (.string bytes) => bytes.length + 1
  | .lit _ => 1
  | .nil => 1
  | .ptr d => uptoBulk d + 1
  | .slice elems spare => uptoBulkAll elems + uptoBulkAll spare + 1
  | .agg parts => uptoBulkAll parts + 1
  | .iface _ d => uptoBulk d + 1
  | .map entries => uptoBulkEntries entries + 1
  | .held _ => 1
def uptoBulkAll {H : Type} : List (DataW H) → Nat
  | [] => 0
  | d :: r => uptoBulk d + uptoBulkAll r
def uptoBulkEntries {H : Type} : List (Lit × DataW H) → Nat
  | [] => 0
  | x :: r => uptoBulkEntry x + uptoBulkEntries r
def uptoBulkEntry {H : Type} : Lit × DataW H → Nat
  | (.string bytes, d) => bytes.length + uptoBulk d + 1
  | (_, d) => uptoBulk d + 1
 end
def uptoSmall : (H : Type) → List (DataW H) → Bool := fun _ ds => decide (uptoBulkAll ds ≤ 1048576)
def OpenSpec.upto (s : _root_.Go.ChangeSpec) : _root_.Go.OpenSpec := { _root_.Go.OpenSpec.ofChange s with cond := some uptoSmall }

/-- 'gouachelaw16.FuseGroups', WHERE WHAT IT READS IS OF BULK AT MOST 1048576: true; the input reads as it did. -/
def fuseGroupsUptoRow : OpenClaim := { program := "ytijkcpkljmpplaadoor", sum := "9217a2b06c9c120b88baa62555b665be92fff3e0d14d1d07bed809115c3f0725", func := "gouache/gouachelaw16.FuseGroups", spec := "fuseGroups", unfollowed := true, recurses := true, named := ["gouache/gouacheref12.least", "gouache/gouacheref12.most", "gouache/gouacheref12.params"], apart := false, laid := [("gouache/gouacheref12.least", laid_gouache_gouacheref12_least), ("gouache/gouacheref12.most", laid_gouache_gouacheref12_most), ("gouache/gouacheref12.params", laid_gouache_gouacheref12_params)], narrowed := true }
def FuseGroupsUptoSaid : Prop := fuseGroupsUptoRow.holds Tryd.pinned (OpenSpec.upto fuseGroupsSpec)

/-- 'gouachelaw16.FuseWhole', WHERE WHAT IT READS IS OF BULK AT MOST 1048576: true; the input reads as it did. -/
def fuseWholeUptoRow : OpenClaim := { program := "ytijkcpkljmpplaadoor", sum := "9217a2b06c9c120b88baa62555b665be92fff3e0d14d1d07bed809115c3f0725", func := "gouache/gouachelaw16.FuseWhole", spec := "fuseWhole", unfollowed := true, recurses := true, named := ["gouache/gouacheref12.least", "gouache/gouacheref12.most", "gouache/gouacheref12.params"], apart := false, laid := [("gouache/gouacheref12.least", laid_gouache_gouacheref12_least), ("gouache/gouacheref12.most", laid_gouache_gouacheref12_most), ("gouache/gouacheref12.params", laid_gouache_gouacheref12_params)], narrowed := true }
def FuseWholeUptoSaid : Prop := fuseWholeUptoRow.holds Tryd.pinned (OpenSpec.upto fuseWholeSpec)

/-- 'gouachelaw16.FuseFewer', WHERE WHAT IT READS IS OF BULK AT MOST 1048576: true; the input reads as it did. -/
def fuseFewerUptoRow : OpenClaim := { program := "ytijkcpkljmpplaadoor", sum := "9217a2b06c9c120b88baa62555b665be92fff3e0d14d1d07bed809115c3f0725", func := "gouache/gouachelaw16.FuseFewer", spec := "fuseFewer", unfollowed := true, recurses := true, named := ["gouache/gouacheref12.least", "gouache/gouacheref12.most", "gouache/gouacheref12.params"], apart := false, laid := [("gouache/gouacheref12.least", laid_gouache_gouacheref12_least), ("gouache/gouacheref12.most", laid_gouache_gouacheref12_most), ("gouache/gouacheref12.params", laid_gouache_gouacheref12_params)], narrowed := true }
def FuseFewerUptoSaid : Prop := fuseFewerUptoRow.holds Tryd.pinned (OpenSpec.upto fuseFewerSpec)

/-- 'gouachelaw16.FuseKeeps', WHERE WHAT IT READS IS OF BULK AT MOST 1048576: true; the input reads as it did. -/
def fuseKeepsUptoRow : OpenClaim := { program := "ytijkcpkljmpplaadoor", sum := "9217a2b06c9c120b88baa62555b665be92fff3e0d14d1d07bed809115c3f0725", func := "gouache/gouachelaw16.FuseKeeps", spec := "fuseKeeps", unfollowed := true, recurses := true, named := ["gouache/gouacheref12.least", "gouache/gouacheref12.most", "gouache/gouacheref12.params"], apart := false, laid := [("gouache/gouacheref12.least", laid_gouache_gouacheref12_least), ("gouache/gouacheref12.most", laid_gouache_gouacheref12_most), ("gouache/gouacheref12.params", laid_gouache_gouacheref12_params)], narrowed := true }
def FuseKeepsUptoSaid : Prop := fuseKeepsUptoRow.holds Tryd.pinned (OpenSpec.upto fuseKeepsSpec)

end Rows
end Go.Proofs.YtijkcpkljmpplaaDoor
