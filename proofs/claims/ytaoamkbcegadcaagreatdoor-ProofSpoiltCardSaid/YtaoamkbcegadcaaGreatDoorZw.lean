/- Texts joined: XZw. -/
import Derived.Test.YtaoamkbcegadcaaGreatDoorZv
import Derived.Test.YtaoamkbcegadcaaGreatDoorZu
set_option maxRecDepth 4000
/- The walk of 'ProofTurned'. (Printed.) -/
namespace Go.Proofs.YtaoamkbcegadcaaGreatDoor
open Go.RowKit Go.Bx Go.Od Go.Hp
attribute [local go_sem ↓] Go.wp_at_zero Go.wp_at_succ
set_option linter.unusedVariables false

theorem ChOk.sub {nds : List Nd} {out : Int} {want : Rc} {c : Cf} (h : PlOk nds out want) (h12 : nds.length ≤ 12) {p : Pn} (hp : p = planN nds out c want) {L : List Ps} (hL : L.length ≤ p.ps.length + 1) (hm : ∀ y ∈ L,MkOk nds p.sn y) {src : Rc} {pk : Int} : ChOk nds ⟨L,src,p.sn,pk⟩ := by
  subst hp
  have h1 := plS_le h (c := c)
  have h2 := plS_sl h (c := c)
  have h3 : L.length ≤ (plS nds out c want).ps.length + 1 := hL
  exact ChOk.of h h12 (by omega) hm (show ((plS nds out c want).sl.length : Int) ≤ 1000 by omega)
theorem planN_mk {nds : List Nd} {out : Int} {want : Rc} {c : Cf} (h : PlOk nds out want) {p : Pn} (hp : p = planN nds out c want) : ∀ y ∈ p.ps,MkOk nds p.sn y := by
  subst hp
  exact plS_mk h
end Go.Proofs.YtaoamkbcegadcaaGreatDoor
/-! ### the law -/
namespace Go.Proofs.YtaoamkbcegadcaaGreatDoor
open Go.RowKit Go.Bx Go.Od Go.Hp Go.ChangeShapes Go.WideShapes Go.ChangeAt
set_option linter.unusedVariables false
section
variable {H : Type} {enc : TypeId × Value → H} {W : World} {base : Nat}
end
end Go.Proofs.YtaoamkbcegadcaaGreatDoor
