/-
  No cell of these rows narrows 'for every input' (looked for: loops, veiled, ifaces, maps, wideKeys, modest, calm, conditions, laid).
  DERIVED. THE GIVEN ROWS OF THIS SEAT. 10 by the template 'for every input the law returns true; each argument reads behind the call as it read before'; 0 by the template 'total and deterministic' (their statements: YtlcefgdiclpcjaaTotals.lean).
  GIVEN WITH THE SEED: the statements are not yours to turn. If you find one false, say at which input.
  Laid BY PROGRAM, IN A SANDBOX (cutbox-rows.mjs): the forced cells as the released guide's own fill.sh prints them over the translation 9501f10cfb6e8a7f… (all of the seat's roots in one cut). By AI agents, Wed Nov 11 2026. No macro, syntax, notation, axiom, sorry.
-/
import Derived.Test.YtlcefgdiclpcjaaChecked
import GoSem.Claim
import GoSem.ClaimJoined
import GoSem.ClaimMapViews
import Derived.JoinedTies
import Derived.KernelRfl
namespace Go.Proofs.Ytlcefgdiclpcjaa
/- THE CELL 'sum', in the pinned program and in every row, IS THE sha256 OF THE DUMP (.gsa) THAT YtlcefgdiclpcjaaProg.lean LOADS. Nothing in Lean hashes anything: it is a label: what it is worth is what the hold of that sum in a sandbox is worth. -/
noncomputable def Try.pinned : Pinned := { name := "ytlcefgdiclpcjaa", sum := "9501f10cfb6e8a7f1242be2c0a8ff412c6a02603dc47e8b902154b66dea15aa0", checked := Try.checked }
namespace Rows
def none {H : Type} : Left H := { results := [], args := [] }

/-- 'gouachelaw02.VecParts': WHATEVER THE INPUT: true; the input reads as it did. -/
def vecPartsSpec : ChangeSpec := { name := "vecParts", fn := fun _ => fun
  | [d1, d2, d3] => { results := [.lit (.bool true)], args := [d1, d2, d3] }
  | _ => none }
def vecPartsRow : OpenClaim := { program := "ytlcefgdiclpcjaa", sum := "9501f10cfb6e8a7f1242be2c0a8ff412c6a02603dc47e8b902154b66dea15aa0", func := "gouache/gouachelaw02.VecParts", spec := "vecParts", apart := false }
def VecPartsSaid : Prop := vecPartsRow.holds Try.pinned (OpenSpec.ofChange vecPartsSpec)

/-- ITS FALSE NEIGHBOUR: 'it returns false'. Refute it at one input. -/
def vecPartsWrong : ChangeSpec := { name := "vecParts", fn := fun _ => fun
  | [d1, d2, d3] => { results := [.lit (.bool false)], args := [d1, d2, d3] }
  | _ => none }
def VecPartsWrongFalsely : Prop := vecPartsRow.holds Try.pinned (OpenSpec.ofChange vecPartsWrong)

/-- 'gouachelaw02.VecSums': WHATEVER THE INPUT: true; the input reads as it did. -/
def vecSumsSpec : ChangeSpec := { name := "vecSums", fn := fun _ => fun
  | [d1, d2, d3, d4, d5] => { results := [.lit (.bool true)], args := [d1, d2, d3, d4, d5] }
  | _ => none }
def vecSumsRow : OpenClaim := { program := "ytlcefgdiclpcjaa", sum := "9501f10cfb6e8a7f1242be2c0a8ff412c6a02603dc47e8b902154b66dea15aa0", func := "gouache/gouachelaw02.VecSums", spec := "vecSums", apart := false }
def VecSumsSaid : Prop := vecSumsRow.holds Try.pinned (OpenSpec.ofChange vecSumsSpec)

/-- ITS FALSE NEIGHBOUR: 'it returns false'. Refute it at one input. -/
def vecSumsWrong : ChangeSpec := { name := "vecSums", fn := fun _ => fun
  | [d1, d2, d3, d4, d5] => { results := [.lit (.bool false)], args := [d1, d2, d3, d4, d5] }
  | _ => none }
def VecSumsWrongFalsely : Prop := vecSumsRow.holds Try.pinned (OpenSpec.ofChange vecSumsWrong)

/-- 'gouachelaw02.VecPlaces': WHATEVER THE INPUT: true; the input reads as it did. -/
def vecPlacesSpec : ChangeSpec := { name := "vecPlaces", fn := fun _ => fun
  | [d1, d2, d3, d4, d5] => { results := [.lit (.bool true)], args := [d1, d2, d3, d4, d5] }
  | _ => none }
def vecPlacesRow : OpenClaim := { program := "ytlcefgdiclpcjaa", sum := "9501f10cfb6e8a7f1242be2c0a8ff412c6a02603dc47e8b902154b66dea15aa0", func := "gouache/gouachelaw02.VecPlaces", spec := "vecPlaces", apart := false }
def VecPlacesSaid : Prop := vecPlacesRow.holds Try.pinned (OpenSpec.ofChange vecPlacesSpec)

/-- ITS FALSE NEIGHBOUR: 'it returns false'. Refute it at one input. -/
def vecPlacesWrong : ChangeSpec := { name := "vecPlaces", fn := fun _ => fun
  | [d1, d2, d3, d4, d5] => { results := [.lit (.bool false)], args := [d1, d2, d3, d4, d5] }
  | _ => none }
def VecPlacesWrongFalsely : Prop := vecPlacesRow.holds Try.pinned (OpenSpec.ofChange vecPlacesWrong)

/-- 'gouachelaw18.PoolSizes': WHATEVER THE INPUT: true; the input reads as it did. -/
def poolSizesSpec : ChangeSpec := { name := "poolSizes", fn := fun _ => fun
  | [d1, d2] => { results := [.lit (.bool true)], args := [d1, d2] }
  | _ => none }
def poolSizesRow : OpenClaim := { program := "ytlcefgdiclpcjaa", sum := "9501f10cfb6e8a7f1242be2c0a8ff412c6a02603dc47e8b902154b66dea15aa0", func := "gouache/gouachelaw18.PoolSizes", spec := "poolSizes", apart := false }
def PoolSizesSaid : Prop := poolSizesRow.holds Try.pinned (OpenSpec.ofChange poolSizesSpec)

/-- ITS FALSE NEIGHBOUR: 'it returns false'. Refute it at one input. -/
def poolSizesWrong : ChangeSpec := { name := "poolSizes", fn := fun _ => fun
  | [d1, d2] => { results := [.lit (.bool false)], args := [d1, d2] }
  | _ => none }
def PoolSizesWrongFalsely : Prop := poolSizesRow.holds Try.pinned (OpenSpec.ofChange poolSizesWrong)

/-- 'gouachelaw18.PoolOrder': WHATEVER THE INPUT: true; the input reads as it did. -/
def poolOrderSpec : ChangeSpec := { name := "poolOrder", fn := fun _ => fun
  | [d1, d2, d3] => { results := [.lit (.bool true)], args := [d1, d2, d3] }
  | _ => none }
def poolOrderRow : OpenClaim := { program := "ytlcefgdiclpcjaa", sum := "9501f10cfb6e8a7f1242be2c0a8ff412c6a02603dc47e8b902154b66dea15aa0", func := "gouache/gouachelaw18.PoolOrder", spec := "poolOrder", apart := false }
def PoolOrderSaid : Prop := poolOrderRow.holds Try.pinned (OpenSpec.ofChange poolOrderSpec)

/-- ITS FALSE NEIGHBOUR: 'it returns false'. Refute it at one input. -/
def poolOrderWrong : ChangeSpec := { name := "poolOrder", fn := fun _ => fun
  | [d1, d2, d3] => { results := [.lit (.bool false)], args := [d1, d2, d3] }
  | _ => none }
def PoolOrderWrongFalsely : Prop := poolOrderRow.holds Try.pinned (OpenSpec.ofChange poolOrderWrong)

/-- 'gouachelaw18.PoolCounts': WHATEVER THE INPUT: true; the input reads as it did. -/
def poolCountsSpec : ChangeSpec := { name := "poolCounts", fn := fun _ => fun
  | [d1, d2] => { results := [.lit (.bool true)], args := [d1, d2] }
  | _ => none }
def poolCountsRow : OpenClaim := { program := "ytlcefgdiclpcjaa", sum := "9501f10cfb6e8a7f1242be2c0a8ff412c6a02603dc47e8b902154b66dea15aa0", func := "gouache/gouachelaw18.PoolCounts", spec := "poolCounts", apart := false }
def PoolCountsSaid : Prop := poolCountsRow.holds Try.pinned (OpenSpec.ofChange poolCountsSpec)

/-- ITS FALSE NEIGHBOUR: 'it returns false'. Refute it at one input. -/
def poolCountsWrong : ChangeSpec := { name := "poolCounts", fn := fun _ => fun
  | [d1, d2] => { results := [.lit (.bool false)], args := [d1, d2] }
  | _ => none }
def PoolCountsWrongFalsely : Prop := poolCountsRow.holds Try.pinned (OpenSpec.ofChange poolCountsWrong)

/-- 'gouachelaw22.ArenaCounts': WHATEVER THE INPUT: true; the input reads as it did. -/
def arenaCountsSpec : ChangeSpec := { name := "arenaCounts", fn := fun _ => fun
  | [d1, d2] => { results := [.lit (.bool true)], args := [d1, d2] }
  | _ => none }
def arenaCountsRow : OpenClaim := { program := "ytlcefgdiclpcjaa", sum := "9501f10cfb6e8a7f1242be2c0a8ff412c6a02603dc47e8b902154b66dea15aa0", func := "gouache/gouachelaw22.ArenaCounts", spec := "arenaCounts", apart := false }
def ArenaCountsSaid : Prop := arenaCountsRow.holds Try.pinned (OpenSpec.ofChange arenaCountsSpec)

/-- ITS FALSE NEIGHBOUR: 'it returns false'. Refute it at one input. -/
def arenaCountsWrong : ChangeSpec := { name := "arenaCounts", fn := fun _ => fun
  | [d1, d2] => { results := [.lit (.bool false)], args := [d1, d2] }
  | _ => none }
def ArenaCountsWrongFalsely : Prop := arenaCountsRow.holds Try.pinned (OpenSpec.ofChange arenaCountsWrong)

/-- 'gouachelaw22.ArenaKeeps': WHATEVER THE INPUT: true; the input reads as it did. -/
def arenaKeepsSpec : ChangeSpec := { name := "arenaKeeps", fn := fun _ => fun
  | [d1, d2] => { results := [.lit (.bool true)], args := [d1, d2] }
  | _ => none }
def arenaKeepsRow : OpenClaim := { program := "ytlcefgdiclpcjaa", sum := "9501f10cfb6e8a7f1242be2c0a8ff412c6a02603dc47e8b902154b66dea15aa0", func := "gouache/gouachelaw22.ArenaKeeps", spec := "arenaKeeps", apart := false }
def ArenaKeepsSaid : Prop := arenaKeepsRow.holds Try.pinned (OpenSpec.ofChange arenaKeepsSpec)

/-- ITS FALSE NEIGHBOUR: 'it returns false'. Refute it at one input. -/
def arenaKeepsWrong : ChangeSpec := { name := "arenaKeeps", fn := fun _ => fun
  | [d1, d2] => { results := [.lit (.bool false)], args := [d1, d2] }
  | _ => none }
def ArenaKeepsWrongFalsely : Prop := arenaKeepsRow.holds Try.pinned (OpenSpec.ofChange arenaKeepsWrong)

/-- 'gouachelaw22.ArenaActs': WHATEVER THE INPUT: true; the input reads as it did. -/
def arenaActsSpec : ChangeSpec := { name := "arenaActs", fn := fun _ => fun
  | [d1, d2] => { results := [.lit (.bool true)], args := [d1, d2] }
  | _ => none }
def arenaActsRow : OpenClaim := { program := "ytlcefgdiclpcjaa", sum := "9501f10cfb6e8a7f1242be2c0a8ff412c6a02603dc47e8b902154b66dea15aa0", func := "gouache/gouachelaw22.ArenaActs", spec := "arenaActs", apart := false }
def ArenaActsSaid : Prop := arenaActsRow.holds Try.pinned (OpenSpec.ofChange arenaActsSpec)

/-- ITS FALSE NEIGHBOUR: 'it returns false'. Refute it at one input. -/
def arenaActsWrong : ChangeSpec := { name := "arenaActs", fn := fun _ => fun
  | [d1, d2] => { results := [.lit (.bool false)], args := [d1, d2] }
  | _ => none }
def ArenaActsWrongFalsely : Prop := arenaActsRow.holds Try.pinned (OpenSpec.ofChange arenaActsWrong)

/-- 'gouachelaw22.ArenaStale': WHATEVER THE INPUT: true; the input reads as it did. -/
def arenaStaleSpec : ChangeSpec := { name := "arenaStale", fn := fun _ => fun
  | [d1, d2, d3] => { results := [.lit (.bool true)], args := [d1, d2, d3] }
  | _ => none }
def arenaStaleRow : OpenClaim := { program := "ytlcefgdiclpcjaa", sum := "9501f10cfb6e8a7f1242be2c0a8ff412c6a02603dc47e8b902154b66dea15aa0", func := "gouache/gouachelaw22.ArenaStale", spec := "arenaStale", apart := false }
def ArenaStaleSaid : Prop := arenaStaleRow.holds Try.pinned (OpenSpec.ofChange arenaStaleSpec)

/-- ITS FALSE NEIGHBOUR: 'it returns false'. Refute it at one input. -/
def arenaStaleWrong : ChangeSpec := { name := "arenaStale", fn := fun _ => fun
  | [d1, d2, d3] => { results := [.lit (.bool false)], args := [d1, d2, d3] }
  | _ => none }
def ArenaStaleWrongFalsely : Prop := arenaStaleRow.holds Try.pinned (OpenSpec.ofChange arenaStaleWrong)

/- THE SECOND FORM. 'bulk': how many values and letters a reading holds, each counted each time it is reached (what is shared counts as often as it is met; a slice's spare places count too). A statement '..UptoSaid' is the law's where the arguments, and the package variables that the reading takes, are together of bulk at most 1048576: NARROWER than '..Said'. Prove '..Said' where nothing that the law and all that it calls make is longer than what came in: it says more and counts as full. Else prove '..UptoSaid'. A law counts once. -/
mutual
def uptoBulk {H : Type} : DataW H → Nat
  | .lit (.string bytes) => bytes.length + 1
  | .lit _ => 1
  | .nil => 1
  | .ptr d => uptoBulk d + 1
  | .slice elems spare => uptoBulkAll elems + uptoBulkAll spare + 1
  | .agg parts => uptoBulkAll parts + 1
  | .iface _ d => uptoBulk d + 1
  | .map entries => uptoBulkEntries entries + 1
  | .held _ => 1
def uptoBulkAll {H : Type} : List (DataW H) → Nat
  | [] => 0
  | d :: r => uptoBulk d + uptoBulkAll r
def uptoBulkEntries {H : Type} : List (Lit × DataW H) → Nat
  | [] => 0
  | x :: r => uptoBulkEntry x + uptoBulkEntries r
def uptoBulkEntry {H : Type} : Lit × DataW H → Nat
  | (.string bytes, d) => bytes.length + uptoBulk d + 1
  | (_, d) => uptoBulk d + 1
 end
def uptoSmall : (H : Type) → List (DataW H) → Bool := fun _ ds => decide (uptoBulkAll ds ≤ 1048576)
def OpenSpec.upto (s : _root_.Go.ChangeSpec) : _root_.Go.OpenSpec := { _root_.Go.OpenSpec.ofChange s with cond := some uptoSmall }

/-- 'gouachelaw02.VecParts', WHERE WHAT IT READS IS OF BULK AT MOST 1048576: true; the input reads as it did. -/
def vecPartsUptoRow : OpenClaim := { program := "ytlcefgdiclpcjaa", sum := "9501f10cfb6e8a7f1242be2c0a8ff412c6a02603dc47e8b902154b66dea15aa0", func := "gouache/gouachelaw02.VecParts", spec := "vecParts", apart := false, narrowed := true }
def VecPartsUptoSaid : Prop := vecPartsUptoRow.holds Try.pinned (OpenSpec.upto vecPartsSpec)

/-- 'gouachelaw02.VecSums', WHERE WHAT IT READS IS OF BULK AT MOST 1048576: true; the input reads as it did. -/
def vecSumsUptoRow : OpenClaim := { program := "ytlcefgdiclpcjaa", sum := "9501f10cfb6e8a7f1242be2c0a8ff412c6a02603dc47e8b902154b66dea15aa0", func := "gouache/gouachelaw02.VecSums", spec := "vecSums", apart := false, narrowed := true }
def VecSumsUptoSaid : Prop := vecSumsUptoRow.holds Try.pinned (OpenSpec.upto vecSumsSpec)

/-- 'gouachelaw02.VecPlaces', WHERE WHAT IT READS IS OF BULK AT MOST 1048576: true; the input reads as it did. -/
def vecPlacesUptoRow : OpenClaim := { program := "ytlcefgdiclpcjaa", sum := "9501f10cfb6e8a7f1242be2c0a8ff412c6a02603dc47e8b902154b66dea15aa0", func := "gouache/gouachelaw02.VecPlaces", spec := "vecPlaces", apart := false, narrowed := true }
def VecPlacesUptoSaid : Prop := vecPlacesUptoRow.holds Try.pinned (OpenSpec.upto vecPlacesSpec)

/-- 'gouachelaw18.PoolSizes', WHERE WHAT IT READS IS OF BULK AT MOST 1048576: true; the input reads as it did. -/
def poolSizesUptoRow : OpenClaim := { program := "ytlcefgdiclpcjaa", sum := "9501f10cfb6e8a7f1242be2c0a8ff412c6a02603dc47e8b902154b66dea15aa0", func := "gouache/gouachelaw18.PoolSizes", spec := "poolSizes", apart := false, narrowed := true }
def PoolSizesUptoSaid : Prop := poolSizesUptoRow.holds Try.pinned (OpenSpec.upto poolSizesSpec)

/-- 'gouachelaw18.PoolOrder', WHERE WHAT IT READS IS OF BULK AT MOST 1048576: true; the input reads as it did. -/
def poolOrderUptoRow : OpenClaim := { program := "ytlcefgdiclpcjaa", sum := "9501f10cfb6e8a7f1242be2c0a8ff412c6a02603dc47e8b902154b66dea15aa0", func := "gouache/gouachelaw18.PoolOrder", spec := "poolOrder", apart := false, narrowed := true }
def PoolOrderUptoSaid : Prop := poolOrderUptoRow.holds Try.pinned (OpenSpec.upto poolOrderSpec)

/-- 'gouachelaw18.PoolCounts', WHERE WHAT IT READS IS OF BULK AT MOST 1048576: true; the input reads as it did. -/
def poolCountsUptoRow : OpenClaim := { program := "ytlcefgdiclpcjaa", sum := "9501f10cfb6e8a7f1242be2c0a8ff412c6a02603dc47e8b902154b66dea15aa0", func := "gouache/gouachelaw18.PoolCounts", spec := "poolCounts", apart := false, narrowed := true }
def PoolCountsUptoSaid : Prop := poolCountsUptoRow.holds Try.pinned (OpenSpec.upto poolCountsSpec)

/-- 'gouachelaw22.ArenaCounts', WHERE WHAT IT READS IS OF BULK AT MOST 1048576: true; the input reads as it did. -/
def arenaCountsUptoRow : OpenClaim := { program := "ytlcefgdiclpcjaa", sum := "9501f10cfb6e8a7f1242be2c0a8ff412c6a02603dc47e8b902154b66dea15aa0", func := "gouache/gouachelaw22.ArenaCounts", spec := "arenaCounts", apart := false, narrowed := true }
def ArenaCountsUptoSaid : Prop := arenaCountsUptoRow.holds Try.pinned (OpenSpec.upto arenaCountsSpec)

/-- 'gouachelaw22.ArenaKeeps', WHERE WHAT IT READS IS OF BULK AT MOST 1048576: true; the input reads as it did. -/
def arenaKeepsUptoRow : OpenClaim := { program := "ytlcefgdiclpcjaa", sum := "9501f10cfb6e8a7f1242be2c0a8ff412c6a02603dc47e8b902154b66dea15aa0", func := "gouache/gouachelaw22.ArenaKeeps", spec := "arenaKeeps", apart := false, narrowed := true }
def ArenaKeepsUptoSaid : Prop := arenaKeepsUptoRow.holds Try.pinned (OpenSpec.upto arenaKeepsSpec)

/-- 'gouachelaw22.ArenaActs', WHERE WHAT IT READS IS OF BULK AT MOST 1048576: true; the input reads as it did. -/
def arenaActsUptoRow : OpenClaim := { program := "ytlcefgdiclpcjaa", sum := "9501f10cfb6e8a7f1242be2c0a8ff412c6a02603dc47e8b902154b66dea15aa0", func := "gouache/gouachelaw22.ArenaActs", spec := "arenaActs", apart := false, narrowed := true }
def ArenaActsUptoSaid : Prop := arenaActsUptoRow.holds Try.pinned (OpenSpec.upto arenaActsSpec)

/-- 'gouachelaw22.ArenaStale', WHERE WHAT IT READS IS OF BULK AT MOST 1048576: true; the input reads as it did. -/
def arenaStaleUptoRow : OpenClaim := { program := "ytlcefgdiclpcjaa", sum := "9501f10cfb6e8a7f1242be2c0a8ff412c6a02603dc47e8b902154b66dea15aa0", func := "gouache/gouachelaw22.ArenaStale", spec := "arenaStale", apart := false, narrowed := true }
def ArenaStaleUptoSaid : Prop := arenaStaleUptoRow.holds Try.pinned (OpenSpec.upto arenaStaleSpec)

end Rows
end Go.Proofs.Ytlcefgdiclpcjaa
