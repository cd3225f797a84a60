/- Texts joined: XZu. -/
import Derived.Test.YtaoamkbcegadcaaGreatDoorZs
set_option maxRecDepth 4000
/- The walk of 'ProofKeeps'. (Printed.) -/
namespace Go.Proofs.YtaoamkbcegadcaaGreatDoor
open Go.RowKit Go.Bx Go.Od Go.Hp
attribute [local go_sem ↓] Go.wp_at_zero Go.wp_at_succ
set_option linter.unusedVariables false

theorem chN {nds : List Nd} {out : Int} {want : Rc} {c : Cf} (h : PlOk nds out want) (h12 : nds.length ≤ 12) {p : Pn} (hp : p = planN nds out c want) : ChOk nds p := by
  subst hp
  have h1 := plS_le h (c := c)
  have h2 := plS_sl h (c := c)
  exact ChOk.of h h12 (by omega) (plS_mk h) (by omega)
end Go.Proofs.YtaoamkbcegadcaaGreatDoor
/-! ### the law -/
namespace Go.Proofs.YtaoamkbcegadcaaGreatDoor
open Go.RowKit Go.Bx Go.Od Go.Hp Go.ChangeShapes Go.WideShapes Go.ChangeAt
set_option linter.unusedVariables false
section
variable {H : Type} {enc : TypeId × Value → H} {W : World} {base : Nat}
end
end Go.Proofs.YtaoamkbcegadcaaGreatDoor
