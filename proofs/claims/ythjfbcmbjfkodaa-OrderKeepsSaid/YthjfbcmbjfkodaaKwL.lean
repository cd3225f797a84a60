/- 'OrderKeeps' of whatever argument. -/
import Derived.Test.YthjfbcmbjfkodaaKw
namespace Go.Proofs.Ythjfbcmbjfkodaa
open Go.RowKit Go.Bx Go.ChangeShapes Go.WideShapes Go.ChangeAt
set_option linter.unusedVariables false
section
variable {H : Type} {enc : TypeId × Value → H} {W : World} {base : Nat}
theorem orderKeeps.orderKeeps_law (W : World) {v0 : Value} {d0 : DataW H} {p0 : List MemPlace}
    (h0 : DataW.Trod enc Try.prog W 0 (fun _ => true) true 24 v0 d0 p0)
    (k0 : Value.okWide Try.prog W .any base 24 v0) :
    Calls Try.prog 7 #[v0] W (TPost W) := by
  obtain ⟨nv, out, nds, rfl, hg, hout⟩ := graph_arg h0 k0
  exact orderKeeps_walk nv nds out W hg
end
end Go.Proofs.Ythjfbcmbjfkodaa
