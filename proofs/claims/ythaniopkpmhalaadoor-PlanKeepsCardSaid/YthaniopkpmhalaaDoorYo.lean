/- Texts joined: XYo. -/
import Derived.Test.YthaniopkpmhalaaDoorYn
import Derived.Test.YthaniopkpmhalaaDoorAf
set_option maxRecDepth 4000
/- Layer 19: the plans of the law's own filters, plainly; the law's 'right'. -/
namespace Go.Proofs.YthaniopkpmhalaaDoor
open Go.RowKit Go.Bx Go.Od Go.Hp
attribute [local go_sem ↓] Go.wp_at_zero Go.wp_at_succ
set_option linter.unusedVariables false

def ndP (op : Int) (p : List Int) : List Nd := [⟨2, [-1], [1, 1]⟩, ⟨op, [0], p⟩]
theorem nedP (op : Int) (p : List Int) : ned (insOf (ndP op p)) 1 = fun i => decide (i < 2) := by
  have r1 : Ned (insOf (ndP op p)) 1 1 := ⟨by decide, by simp [ndP, insOf], .base⟩
  have r0 : Ned (insOf (ndP op p)) 1 0 := r1.next ((inp_mem _ _ _).2 ⟨by simp [ndP, insOf], by simp [ndP, insOf]⟩)
  funext i
  by_cases hi : i < 2
  · rw [decide_eq_true hi]
    refine (ned_iff _ _ _).2 ?_
    match i, hi with
    | 0, _ => exact r0
    | 1, _ => exact r1
  · rw [decide_eq_false hi]
    cases e : ned (insOf (ndP op p)) 1 i with
    | false => rfl
    | true =>
      have := ((ned_iff _ _ _).1 e).lt
      simp [ndP, insOf] at this
      omega
def cAll : Cf := ⟨true, true, true, true, 0⟩
theorem rightP1 : rightB (ndP 2 [1, 1]) 1 = true := by decide
theorem rightP2 : rightB (ndP 5 (List.replicate 20 0)) 1 = true := by decide
theorem okP1 : PlOk (ndP 2 [1, 1]) 1 ⟨0, 0, 4, 4⟩ := ⟨sgood_of rightP1, goodN_of rightP1, by unfold RcP Pl; decide, by decide⟩
theorem okP2 : PlOk (ndP 5 (List.replicate 20 0)) 1 ⟨0, 0, 4, 4⟩ := ⟨sgood_of rightP2, goodN_of rightP2, by unfold RcP Pl; decide, by decide⟩
theorem gP1 : grp (ndP 2 [1, 1]) 1 true = [[0], [1]] := by
  unfold grp pR jO
  rw [nedP]
  decide
theorem gP2 : grp (ndP 5 (List.replicate 20 0)) 1 true = [[0], [1]] := by
  unfold grp pR jO
  rw [nedP]
  decide
theorem rP (op : Int) (p : List Int) (h : GrpOk (ndP op p) [[0], [1]]) : [[0], [1]].map (rdS (ndP op p)) = [[-1], [0]] := by
  have h : ∀ g ∈ [[(0 : Int)], [1]], rdS (ndP op p) g = rfR (ndP op p) g ((ndP op p).length + 1) := fun g hg => (rfR_eq fun k hk x hx => h.rng _ x hx).symm
  rw [List.map_congr_left h]
  rfl
theorem bP1 : bxN (ndP 2 [1, 1]) ⟨0, 0, 4, 4⟩ 1 0 = ⟨-1, -1, 5, 5⟩ ∧ bxN (ndP 2 [1, 1]) ⟨0, 0, 4, 4⟩ 1 1 = ⟨0, 0, 4, 4⟩ := by
  constructor <;> rfl
theorem bP2 : bxN (ndP 5 (List.replicate 20 0)) ⟨0, 0, 4, 4⟩ 1 0 = ⟨0, 0, 4, 4⟩ ∧ bxN (ndP 5 (List.replicate 20 0)) ⟨0, 0, 4, 4⟩ 1 1 = ⟨0, 0, 4, 4⟩ := by
  constructor <;> rfl
theorem psP1 : pss (ndP 2 [1, 1]) 1 cAll ⟨0, 0, 4, 4⟩ = [⟨[0], [-1], ⟨-1, -1, 5, 5⟩, -1, 1⟩, ⟨[1], [0], ⟨0, 0, 4, 4⟩, -1, 2⟩] := by
  have hk := okP1.sg.ok (on := true)
  have e0 : gL (ndP 2 [1, 1]) 1 true = [[0], [1]] := by unfold gL; rw [gP1]; rfl
  rw [e0] at hk
  have e1 : rL (ndP 2 [1, 1]) 1 true = [[-1], [0]] := by unfold rL; rw [e0, rP _ _ hk]
  unfold pss cAll
  dsimp only
  rw [if_pos rfl]
  unfold raws
  rw [gP1]
  unfold rawP uN
  rw [gP1, e1, e0]
  simp only [List.length_cons, List.length_nil, List.range_succ, List.range_zero, List.nil_append, List.map_append, List.map_cons, List.map_nil, List.cons_append, List.getD_cons_zero, List.getD_cons_succ, lastN, List.getLastD_cons, List.getLastD_nil]
  rw [bP1.1, bP1.2]
  rfl
theorem psP2 : pss (ndP 5 (List.replicate 20 0)) 1 cAll ⟨0, 0, 4, 4⟩ = [⟨[0], [-1], ⟨0, 0, 4, 4⟩, -1, 1⟩, ⟨[1], [0], ⟨0, 0, 4, 4⟩, -1, 2⟩] := by
  have hk := okP2.sg.ok (on := true)
  have e0 : gL (ndP 5 (List.replicate 20 0)) 1 true = [[0], [1]] := by unfold gL; rw [gP2]; rfl
  rw [e0] at hk
  have e1 : rL (ndP 5 (List.replicate 20 0)) 1 true = [[-1], [0]] := by unfold rL; rw [e0, rP _ _ hk]
  unfold pss cAll
  dsimp only
  rw [if_pos rfl]
  unfold raws
  rw [gP2]
  unfold rawP uN
  rw [gP2, e1, e0]
  simp only [List.length_cons, List.length_nil, List.range_succ, List.range_zero, List.nil_append, List.map_append, List.map_cons, List.map_nil, List.cons_append, List.getD_cons_zero, List.getD_cons_succ, lastN, List.getLastD_cons, List.getLastD_nil]
  rw [bP2.1, bP2.2]
  rfl
theorem plP1 : (plS (ndP 2 [1, 1]) 1 cAll ⟨0, 0, 4, 4⟩).sl.length = 2 ∧ (plS (ndP 2 [1, 1]) 1 cAll ⟨0, 0, 4, 4⟩).ps.length = 2 ∧ ((plS (ndP 2 [1, 1]) 1 cAll ⟨0, 0, 4, 4⟩).ps.getD 0 Ps.none).box = ⟨-1, -1, 5, 5⟩ ∧ (plS (ndP 2 [1, 1]) 1 cAll ⟨0, 0, 4, 4⟩).pk = 80 := by
  unfold plS
  rw [psP1]
  refine ⟨?_, ?_, ?_, ?_⟩ <;> rfl
theorem plP2 : (plS (ndP 5 (List.replicate 20 0)) 1 cAll ⟨0, 0, 4, 4⟩).sl.length = 1 ∧ (plS (ndP 5 (List.replicate 20 0)) 1 cAll ⟨0, 0, 4, 4⟩).ps.length = 2 ∧ ((plS (ndP 5 (List.replicate 20 0)) 1 cAll ⟨0, 0, 4, 4⟩).ps.getD 1 Ps.none).slot = 0 ∧ (plS (ndP 5 (List.replicate 20 0)) 1 cAll ⟨0, 0, 4, 4⟩).pk = 16 := by
  unfold plS
  rw [psP2]
  refine ⟨?_, ?_, ?_, ?_⟩ <;> rfl
end Go.Proofs.YthaniopkpmhalaaDoor
