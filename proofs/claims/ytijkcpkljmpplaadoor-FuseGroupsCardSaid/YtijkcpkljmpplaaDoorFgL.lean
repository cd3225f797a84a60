/- 'FuseGroups' of whatever arguments. -/
import Derived.Test.YtijkcpkljmpplaaDoorFg
namespace Go.Proofs.YtijkcpkljmpplaaDoor
open Go.RowKit Go.Bx Go.ChangeShapes Go.WideShapes Go.ChangeAt
set_option linter.unusedVariables false
section
variable {H : Type} {enc : TypeId × Value → H} {W : World} {base : Nat}
theorem fuseGroups.fuseGroups_law (W : World) (ht : Tabs W) {v0 v1 : Value} {d0 d1 : DataW H} {p0 p1 : List MemPlace}
    (h0 : DataW.Trod enc Tryd.prog W 0 (fun _ => true) true 24 v0 d0 p0) (h1 : DataW.Trod enc Tryd.prog W 0 (fun _ => true) true 4 v1 d1 p1)
    (k0 : Value.okWide Tryd.prog W .any base 24 v0) (k1 : Value.okWide Tryd.prog W .any base 4 v1) :
    Calls Tryd.prog 3 #[v0, v1] W (TPost W) := by
  obtain ⟨nv, out, nds, rfl, hg, hout⟩ := graph_arg h0 k0
  obtain ⟨z, rfl⟩ := okWide_bool Tryd.underlying4 k1
  exact fuseGroups_walk nv nds out z W ht hg
end
end Go.Proofs.YtijkcpkljmpplaaDoor
