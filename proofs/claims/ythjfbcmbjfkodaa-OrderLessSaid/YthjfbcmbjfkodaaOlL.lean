/- 'OrderLess' of whatever arguments. -/
import Derived.Test.YthjfbcmbjfkodaaOl
namespace Go.Proofs.Ythjfbcmbjfkodaa
open Go.RowKit Go.Bx Go.ChangeShapes Go.WideShapes Go.ChangeAt
set_option linter.unusedVariables false
section
variable {H : Type} {enc : TypeId × Value → H} {W : World} {base : Nat}
theorem orderLess.orderLess_law (W : World) {v0 v1 : Value} {d0 d1 : DataW H} {p0 p1 : List MemPlace}
    (h0 : DataW.Trod enc Try.prog W 0 (fun _ => true) true 24 v0 d0 p0) (h1 : DataW.Trod enc Try.prog W 0 (fun _ => true) true 5 v1 d1 p1)
    (k0 : Value.okWide Try.prog W .any base 24 v0) (k1 : Value.okWide Try.prog W .any base 5 v1) :
    Calls Try.prog 6 #[v0, v1] W (TPost W) := by
  obtain ⟨nv, out, nds, rfl, hg, hout⟩ := graph_arg h0 k0
  obtain ⟨z, rfl⟩ := okWide_int Try.underlying5 k1
  obtain ⟨fuel, hf⟩ := h1
  obtain ⟨y, hy, hlo, hhi⟩ := reads_u8 (P := Try.prog) (enc := enc) (W := W) Try.underlying5 fuel _ _ hf
  simp [Value.cells] at hy
  subst hy
  obtain ⟨n, rfl⟩ : ∃ n : Nat, z = n := ⟨z.toNat, by omega⟩
  exact orderLess_walk nv nds out n (by omega) W hg
end
end Go.Proofs.Ythjfbcmbjfkodaa
