/- Texts joined: XLa. -/
import Derived.Test.YtgodhpampaleeaaDoorRows
import Derived.Test.YtgodhpampaleeaaDoorAc
import Derived.ProofKit
import Derived.LaidMore
import Derived.LaidLaws
import Derived.OpenShut
import Derived.Stop.Joined
set_option maxRecDepth 4000
/- The three tables of layer 12: what the row's laid condition gives a walk; the door's own heap meets it. -/
namespace Go.Proofs.YtgodhpampaleeaaDoor
open Go.ChangeShapes Go.WideShapes Go.ChangeAt Go.RowKit
set_option linter.unusedVariables false

def laid3 : List (String × DataW Unit) := [("gouache/gouacheref12.least", Rows.laid_gouache_gouacheref12_least), ("gouache/gouacheref12.most", Rows.laid_gouache_gouacheref12_most), ("gouache/gouacheref12.params", Rows.laid_gouache_gouacheref12_params)]
theorem tab_at {W : World} {H : Type} {enc : TypeId × Value → H} {sp : Addr → Bool} {held : Bool} {name : String} {g : Nat} {cs : Array Value} {L : List Int} {fuel : Nat} {q : List MemPlace} (hg : Tryd.prog.globalNamed name = some g) (hv : W.var? Tryd.prog name = some cs)
    (hd : DataW.trod enc Tryd.prog W 0 (fun _ => true) held fuel 93 cs.toList = some (.agg (L.map fun x => .lit (.int .i64 x)), q)) : ∀ j : Nat, j < 13 → W.cell? ⟨g, j, none⟩ = some (.int .i64 (L.getD j 0)) := by
  obtain ⟨xs, m, rfl, hx1, hlen, hn, hel⟩ := DataW.trod_array Tryd.underlying93 hd
  intro j hj
  have h1 := hel j hj
  have c3 : Tryd.prog.cellsOf 3 = 1 := by kernel_rfl
  rw [c3, Nat.mul_one] at h1
  have hxj : xs[j]? = some xs[j] := List.getElem?_eq_getElem (by omega)
  rw [hxj] at h1
  obtain ⟨k, e1, e2, _⟩ := DataW.trod_int Tryd.underlying3 h1
  simp only [Prod.mk.injEq, DataW.agg.injEq] at hx1
  have e3 := congrArg (fun l => l[j]?) hx1.1
  simp only [List.getElem?_map, hxj, Option.map_some, e2] at e3
  have hk : L[j]? = some k := by
    cases h : L[j]? with
    | none => rw [h] at e3; cases e3
    | some y =>
      rw [h] at e3
      simp only [Option.map_some, Option.some.injEq, DataW.lit.injEq, Lit.int.injEq, true_and] at e3
      rw [e3]
  rw [World.var?_cell hg hv j]
  have e4 : cs.toList[j]? = some (.int .i64 k) := by
    have := congrArg (fun l => l[0]?) e1
    simpa using this
  rw [List.getD_eq_getElem?_getD, hk]
  simpa using e4
theorem gLeast : Tryd.prog.globalNamed "gouache/gouacheref12.least" = some 0 := by kernel_rfl
theorem gMost : Tryd.prog.globalNamed "gouache/gouacheref12.most" = some 1 := by kernel_rfl
theorem gParams : Tryd.prog.globalNamed "gouache/gouacheref12.params" = some 2 := by kernel_rfl
theorem tLeast : (Tryd.prog.globals[0]?).map (·.type) = some 93 := by kernel_rfl
theorem tMost : (Tryd.prog.globals[1]?).map (·.type) = some 93 := by kernel_rfl
theorem tParams : (Tryd.prog.globals[2]?).map (·.type) = some 93 := by kernel_rfl
theorem tabs_laid {W : World} (h : laidMetH Tryd.prog laid3 W) : Tabs W := by
  rw [MakeChecks.laidMetH_plain _ _ _ (by kernel_rfl)] at h
  obtain ⟨ps, ⟨g0, t0, cs0, f0, p0, q0, hg0, ht0, hv0, hd0, ⟨g1, t1, cs1, f1, p1, q1, hg1, ht1, hv1, hd1, ⟨g2, t2, cs2, f2, p2, q2, hg2, ht2, hv2, hd2, _⟩, _⟩, _⟩, _⟩ := h
  obtain rfl := Option.some.inj (gLeast.symm.trans hg0)
  obtain rfl := Option.some.inj (gMost.symm.trans hg1)
  obtain rfl := Option.some.inj (gParams.symm.trans hg2)
  obtain rfl := Option.some.inj (tLeast.symm.trans ht0)
  obtain rfl := Option.some.inj (tMost.symm.trans ht1)
  obtain rfl := Option.some.inj (tParams.symm.trans ht2)
  exact fun j hj => ⟨tab_at (L := leastL) (sp := fun _ => true) hg0 hv0 hd0 j hj, tab_at (L := mostL) (sp := fun _ => true) hg1 hv1 hd1 j hj, tab_at (L := parL) (sp := fun _ => true) hg2 hv2 hd2 j hj⟩
/-- The door's own heap meets the condition. -/
theorem door_met (os : Os) (args : Array Value) : laidMetH Tryd.prog laid3 ((World.doorLaid Tryd.prog 400 os).forCall (fun _ _ => 0) ⟨#[], args, []⟩).memory :=
  laidMetH_of_parts3 (fuel := 8) (laidMet_of_run' 8 (by kernel_rfl) (by kernel_rfl)) (by kernel_rfl) (by kernel_rfl)
end Go.Proofs.YtgodhpampaleeaaDoor
