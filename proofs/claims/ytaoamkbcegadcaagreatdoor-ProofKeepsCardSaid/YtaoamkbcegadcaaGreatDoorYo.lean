/- Texts joined: XYo. -/
import Derived.Test.YtaoamkbcegadcaaGreatDoorYn
import Derived.Test.YtaoamkbcegadcaaGreatDoorAf
set_option maxRecDepth 4000
/- Layer 19: the plans of the law's own filters, plainly; the law's 'right'. -/
namespace Go.Proofs.YtaoamkbcegadcaaGreatDoor
open Go.RowKit Go.Bx Go.Od Go.Hp
attribute [local go_sem ↓] Go.wp_at_zero Go.wp_at_succ
set_option linter.unusedVariables false

def ndP (op : Int) (p : List Int) : List Nd := [⟨2, [-1], [1, 1]⟩, ⟨op, [0], p⟩]
theorem nedP (op : Int) (p : List Int) : ned (insOf (ndP op p)) 1 = fun i => decide (i < 2) := by
  have r1 : Ned (insOf (ndP op p)) 1 1 := ⟨by decide, by simp [ndP, insOf], .base⟩
  have r0 : Ned (insOf (ndP op p)) 1 0 := r1.next ((inp_mem _ _ _).2 ⟨by simp [ndP, insOf], by simp [ndP, insOf]⟩)
  funext i
  by_cases hi : i < 2
  · rw [decide_eq_true hi]
    refine (ned_iff _ _ _).2 ?_
    match i, hi with
    | 0, _ => exact r0
    | 1, _ => exact r1
  · rw [decide_eq_false hi]
    cases e : ned (insOf (ndP op p)) 1 i with
    | false => rfl
    | true =>
      have := ((ned_iff _ _ _).1 e).lt
      simp [ndP, insOf] at this
      omega
theorem rightP1 : rightB (ndP 2 [1, 1]) 1 = true := by decide
theorem okP1 : PlOk (ndP 2 [1, 1]) 1 ⟨0, 0, 4, 4⟩ := ⟨sgood_of rightP1, goodN_of rightP1, by unfold RcP Pl; decide, by decide⟩
theorem rP (op : Int) (p : List Int) (h : GrpOk (ndP op p) [[0], [1]]) : [[0], [1]].map (rdS (ndP op p)) = [[-1], [0]] := by
  have h : ∀ g ∈ [[(0 : Int)], [1]], rdS (ndP op p) g = rfR (ndP op p) g ((ndP op p).length + 1) := fun g hg => (rfR_eq fun k hk x hx => h.rng _ x hx).symm
  rw [List.map_congr_left h]
  rfl
theorem bP1 : bxN (ndP 2 [1, 1]) ⟨0, 0, 4, 4⟩ 1 0 = ⟨-1, -1, 5, 5⟩ ∧ bxN (ndP 2 [1, 1]) ⟨0, 0, 4, 4⟩ 1 1 = ⟨0, 0, 4, 4⟩ := by
  constructor <;> rfl
end Go.Proofs.YtaoamkbcegadcaaGreatDoor
