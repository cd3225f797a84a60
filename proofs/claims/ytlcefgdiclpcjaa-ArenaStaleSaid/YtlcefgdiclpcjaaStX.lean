/- 'ArenaStale' of whatever arguments. -/
import Derived.Test.YtlcefgdiclpcjaaStW
namespace Go.Proofs.Ytlcefgdiclpcjaa
open Go.RowKit Go.Bx Go.ChangeShapes Go.WideShapes Go.ChangeAt
set_option linter.unusedVariables false
section
variable {H : Type} {enc : TypeId × Value → H} {W : World} {base : Nat}
theorem arenaStale.arenaStale_law (W : World) {v0 v1 v2 : Value} {d0 d1 d2 : DataW H} {p0 p1 p2 : List MemPlace}
    (h0 : DataW.Trod enc Try.prog W 0 (fun _ => true) true 46 v0 d0 p0) (h1 : DataW.Trod enc Try.prog W 0 (fun _ => true) true 48 v1 d1 p1) (h2 : DataW.Trod enc Try.prog W 0 (fun _ => true) true 41 v2 d2 p2)
    (k0 : Value.okWide Try.prog W .any base 46 v0) (k1 : Value.okWide Try.prog W .any base 48 v1) (k2 : Value.okWide Try.prog W .any base 41 v2) :
    Calls Try.prog 12 #[v0, v1, v2] W (TPost W) := by
  obtain ⟨gv, lv, gs, ls, rfl, hg, hl⟩ := arena_arg h0 k0
  obtain ⟨at_, gen, rfl⟩ := id_arg h1 k1
  obtain ⟨a, len, cap, rfl⟩ := okWide_slice Try.underlying41 k2
  obtain ⟨fuel, hf⟩ := h2
  obtain ⟨xs, w, hw, hs⟩ := reads_slice (P := Try.prog) (enc := enc) (W := W) Try.underlying41 cells_int (by decide) ri22 fuel _ _ hf
  simp [Value.cells] at hw
  subst hw
  exact arenaStale_walk gv lv _ gs ls at_ gen xs W hg hl hs
end
end Go.Proofs.Ytlcefgdiclpcjaa
