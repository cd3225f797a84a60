/-
  No cell of these rows narrows 'for every input' (looked for: loops, veiled, ifaces, maps, wideKeys, modest, calm, conditions, laid).
  DERIVED. THE GIVEN ROWS OF THIS SEAT. 5 by the template 'for every input the law returns true; each argument reads behind the call as it read before'; 0 by the template 'total and deterministic' (their statements: YthjfbcmbjfkodaaTotals.lean).
  GIVEN WITH THE SEED: the statements are not yours to turn. If you find one false, say at which input.
  Laid BY PROGRAM, IN A SANDBOX (cutbox-rows.mjs): the forced cells as the released guide's own fill.sh prints them over the translation b110e32a6e6e05d7… (all of the seat's roots in one cut). By AI agents, Wed Nov 11 2026. No macro, syntax, notation, axiom, sorry.
-/
import Derived.Test.YthjfbcmbjfkodaaChecked
import GoSem.Claim
import GoSem.ClaimJoined
import GoSem.ClaimMapViews
import Derived.JoinedTies
import Derived.KernelRfl
namespace Go.Proofs.Ythjfbcmbjfkodaa
/- THE CELL 'sum', in the pinned program and in every row, IS THE sha256 OF THE DUMP (.gsa) THAT YthjfbcmbjfkodaaProg.lean LOADS. Nothing in Lean hashes anything: it is a label: what it is worth is what the hold of that sum in a sandbox is worth. -/
noncomputable def Try.pinned : Pinned := { name := "ythjfbcmbjfkodaa", sum := "b110e32a6e6e05d7e01d8c57cfd186def4d6a507c6aeeb614934ea6e66b69d04", checked := Try.checked }
namespace Rows
def none {H : Type} : Left H := { results := [], args := [] }

/-- 'gouachelaw11.OrderAlls': WHATEVER THE INPUT: true; the input reads as it did. -/
def orderAllsSpec : ChangeSpec := { name := "orderAlls", fn := fun _ => fun
  | [d] => { results := [.lit (.bool true)], args := [d] }
  | _ => none }
def orderAllsRow : OpenClaim := { program := "ythjfbcmbjfkodaa", sum := "b110e32a6e6e05d7e01d8c57cfd186def4d6a507c6aeeb614934ea6e66b69d04", func := "gouache/gouachelaw11.OrderAlls", spec := "orderAlls", unfollowed := true, recurses := true, apart := false }
def OrderAllsSaid : Prop := orderAllsRow.holds Try.pinned (OpenSpec.ofChange orderAllsSpec)

/-- ITS FALSE NEIGHBOUR: 'it returns false'. Refute it at one input. -/
def orderAllsWrong : ChangeSpec := { name := "orderAlls", fn := fun _ => fun
  | [d] => { results := [.lit (.bool false)], args := [d] }
  | _ => none }
def OrderAllsWrongFalsely : Prop := orderAllsRow.holds Try.pinned (OpenSpec.ofChange orderAllsWrong)

/-- 'gouachelaw11.OrderAhead': WHATEVER THE INPUT: true; the input reads as it did. -/
def orderAheadSpec : ChangeSpec := { name := "orderAhead", fn := fun _ => fun
  | [d] => { results := [.lit (.bool true)], args := [d] }
  | _ => none }
def orderAheadRow : OpenClaim := { program := "ythjfbcmbjfkodaa", sum := "b110e32a6e6e05d7e01d8c57cfd186def4d6a507c6aeeb614934ea6e66b69d04", func := "gouache/gouachelaw11.OrderAhead", spec := "orderAhead", unfollowed := true, recurses := true, apart := false }
def OrderAheadSaid : Prop := orderAheadRow.holds Try.pinned (OpenSpec.ofChange orderAheadSpec)

/-- ITS FALSE NEIGHBOUR: 'it returns false'. Refute it at one input. -/
def orderAheadWrong : ChangeSpec := { name := "orderAhead", fn := fun _ => fun
  | [d] => { results := [.lit (.bool false)], args := [d] }
  | _ => none }
def OrderAheadWrongFalsely : Prop := orderAheadRow.holds Try.pinned (OpenSpec.ofChange orderAheadWrong)

/-- 'gouachelaw11.OrderNeeds': WHATEVER THE INPUT: true; the input reads as it did. -/
def orderNeedsSpec : ChangeSpec := { name := "orderNeeds", fn := fun _ => fun
  | [d] => { results := [.lit (.bool true)], args := [d] }
  | _ => none }
def orderNeedsRow : OpenClaim := { program := "ythjfbcmbjfkodaa", sum := "b110e32a6e6e05d7e01d8c57cfd186def4d6a507c6aeeb614934ea6e66b69d04", func := "gouache/gouachelaw11.OrderNeeds", spec := "orderNeeds", unfollowed := true, recurses := true, apart := false }
def OrderNeedsSaid : Prop := orderNeedsRow.holds Try.pinned (OpenSpec.ofChange orderNeedsSpec)

/-- ITS FALSE NEIGHBOUR: 'it returns false'. Refute it at one input. -/
def orderNeedsWrong : ChangeSpec := { name := "orderNeeds", fn := fun _ => fun
  | [d] => { results := [.lit (.bool false)], args := [d] }
  | _ => none }
def OrderNeedsWrongFalsely : Prop := orderNeedsRow.holds Try.pinned (OpenSpec.ofChange orderNeedsWrong)

/-- 'gouachelaw11.OrderLess': WHATEVER THE INPUT: true; the input reads as it did. -/
def orderLessSpec : ChangeSpec := { name := "orderLess", fn := fun _ => fun
  | [d1, d2] => { results := [.lit (.bool true)], args := [d1, d2] }
  | _ => none }
def orderLessRow : OpenClaim := { program := "ythjfbcmbjfkodaa", sum := "b110e32a6e6e05d7e01d8c57cfd186def4d6a507c6aeeb614934ea6e66b69d04", func := "gouache/gouachelaw11.OrderLess", spec := "orderLess", unfollowed := true, recurses := true, apart := false }
def OrderLessSaid : Prop := orderLessRow.holds Try.pinned (OpenSpec.ofChange orderLessSpec)

/-- ITS FALSE NEIGHBOUR: 'it returns false'. Refute it at one input. -/
def orderLessWrong : ChangeSpec := { name := "orderLess", fn := fun _ => fun
  | [d1, d2] => { results := [.lit (.bool false)], args := [d1, d2] }
  | _ => none }
def OrderLessWrongFalsely : Prop := orderLessRow.holds Try.pinned (OpenSpec.ofChange orderLessWrong)

/-- 'gouachelaw11.OrderKeeps': WHATEVER THE INPUT: true; the input reads as it did. -/
def orderKeepsSpec : ChangeSpec := { name := "orderKeeps", fn := fun _ => fun
  | [d] => { results := [.lit (.bool true)], args := [d] }
  | _ => none }
def orderKeepsRow : OpenClaim := { program := "ythjfbcmbjfkodaa", sum := "b110e32a6e6e05d7e01d8c57cfd186def4d6a507c6aeeb614934ea6e66b69d04", func := "gouache/gouachelaw11.OrderKeeps", spec := "orderKeeps", unfollowed := true, recurses := true, apart := false }
def OrderKeepsSaid : Prop := orderKeepsRow.holds Try.pinned (OpenSpec.ofChange orderKeepsSpec)

/-- ITS FALSE NEIGHBOUR: 'it returns false'. Refute it at one input. -/
def orderKeepsWrong : ChangeSpec := { name := "orderKeeps", fn := fun _ => fun
  | [d] => { results := [.lit (.bool false)], args := [d] }
  | _ => none }
def OrderKeepsWrongFalsely : Prop := orderKeepsRow.holds Try.pinned (OpenSpec.ofChange orderKeepsWrong)

/- THE SECOND FORM. 'bulk': how many values and letters a reading holds, each counted each time it is reached (what is shared counts as often as it is met; a slice's spare places count too). A statement '..UptoSaid' is the law's where the arguments, and the package variables that the reading takes, are together of bulk at most 1048576: NARROWER than '..Said'. Prove '..Said' where nothing that the law and all that it calls make is longer than what came in: it says more and counts as full. Else prove '..UptoSaid'. A law counts once. -/
mutual
def uptoBulk {H : Type} : DataW H → Nat
  | .lit (.string bytes) => bytes.length + 1
  | .lit _ => 1
  | .nil => 1
  | .ptr d => uptoBulk d + 1
  | .slice elems spare => uptoBulkAll elems + uptoBulkAll spare + 1
  | .agg parts => uptoBulkAll parts + 1
  | .iface _ d => uptoBulk d + 1
  | .map entries => uptoBulkEntries entries + 1
  | .held _ => 1
def uptoBulkAll {H : Type} : List (DataW H) → Nat
  | [] => 0
  | d :: r => uptoBulk d + uptoBulkAll r
def uptoBulkEntries {H : Type} : List (Lit × DataW H) → Nat
  | [] => 0
  | x :: r => uptoBulkEntry x + uptoBulkEntries r
def uptoBulkEntry {H : Type} : Lit × DataW H → Nat
  | (.string bytes, d) => bytes.length + uptoBulk d + 1
  | (_, d) => uptoBulk d + 1
 end
def uptoSmall : (H : Type) → List (DataW H) → Bool := fun _ ds => decide (uptoBulkAll ds ≤ 1048576)
def OpenSpec.upto (s : _root_.Go.ChangeSpec) : _root_.Go.OpenSpec := { _root_.Go.OpenSpec.ofChange s with cond := some uptoSmall }

/-- 'gouachelaw11.OrderAlls', WHERE WHAT IT READS IS OF BULK AT MOST 1048576: true; the input reads as it did. -/
def orderAllsUptoRow : OpenClaim := { program := "ythjfbcmbjfkodaa", sum := "b110e32a6e6e05d7e01d8c57cfd186def4d6a507c6aeeb614934ea6e66b69d04", func := "gouache/gouachelaw11.OrderAlls", spec := "orderAlls", unfollowed := true, recurses := true, apart := false, narrowed := true }
def OrderAllsUptoSaid : Prop := orderAllsUptoRow.holds Try.pinned (OpenSpec.upto orderAllsSpec)

/-- 'gouachelaw11.OrderAhead', WHERE WHAT IT READS IS OF BULK AT MOST 1048576: true; the input reads as it did. -/
def orderAheadUptoRow : OpenClaim := { program := "ythjfbcmbjfkodaa", sum := "b110e32a6e6e05d7e01d8c57cfd186def4d6a507c6aeeb614934ea6e66b69d04", func := "gouache/gouachelaw11.OrderAhead", spec := "orderAhead", unfollowed := true, recurses := true, apart := false, narrowed := true }
def OrderAheadUptoSaid : Prop := orderAheadUptoRow.holds Try.pinned (OpenSpec.upto orderAheadSpec)

/-- 'gouachelaw11.OrderNeeds', WHERE WHAT IT READS IS OF BULK AT MOST 1048576: true; the input reads as it did. -/
def orderNeedsUptoRow : OpenClaim := { program := "ythjfbcmbjfkodaa", sum := "b110e32a6e6e05d7e01d8c57cfd186def4d6a507c6aeeb614934ea6e66b69d04", func := "gouache/gouachelaw11.OrderNeeds", spec := "orderNeeds", unfollowed := true, recurses := true, apart := false, narrowed := true }
def OrderNeedsUptoSaid : Prop := orderNeedsUptoRow.holds Try.pinned (OpenSpec.upto orderNeedsSpec)

/-- 'gouachelaw11.OrderLess', WHERE WHAT IT READS IS OF BULK AT MOST 1048576: true; the input reads as it did. -/
def orderLessUptoRow : OpenClaim := { program := "ythjfbcmbjfkodaa", sum := "b110e32a6e6e05d7e01d8c57cfd186def4d6a507c6aeeb614934ea6e66b69d04", func := "gouache/gouachelaw11.OrderLess", spec := "orderLess", unfollowed := true, recurses := true, apart := false, narrowed := true }
def OrderLessUptoSaid : Prop := orderLessUptoRow.holds Try.pinned (OpenSpec.upto orderLessSpec)

/-- 'gouachelaw11.OrderKeeps', WHERE WHAT IT READS IS OF BULK AT MOST 1048576: true; the input reads as it did. -/
def orderKeepsUptoRow : OpenClaim := { program := "ythjfbcmbjfkodaa", sum := "b110e32a6e6e05d7e01d8c57cfd186def4d6a507c6aeeb614934ea6e66b69d04", func := "gouache/gouachelaw11.OrderKeeps", spec := "orderKeeps", unfollowed := true, recurses := true, apart := false, narrowed := true }
def OrderKeepsUptoSaid : Prop := orderKeepsUptoRow.holds Try.pinned (OpenSpec.upto orderKeepsSpec)

end Rows
end Go.Proofs.Ythjfbcmbjfkodaa
