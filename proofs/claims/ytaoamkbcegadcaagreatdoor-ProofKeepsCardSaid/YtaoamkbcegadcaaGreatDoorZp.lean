/- Texts joined: XZp. -/
import Derived.Test.YtaoamkbcegadcaaGreatDoorZo
import Derived.Test.YtaoamkbcegadcaaGreatDoorYo
set_option maxRecDepth 4000
/- Layer 20: the plan of the law's own filter, plainly. -/
namespace Go.Proofs.YtaoamkbcegadcaaGreatDoor
open Go.RowKit Go.Bx Go.Od Go.Hp
set_option linter.unusedVariables false

def c20 : Cf := ⟨false, true, true, false, 0⟩
theorem gP3 : grp (ndP 2 [1, 1]) 1 false = [[0], [1]] := by
  unfold grp pR jO
  rw [nedP]
  decide
def ps20 : List Ps := [⟨[0], [-1], ⟨-1, -1, 5, 5⟩, 0, 1⟩, ⟨[1], [0], ⟨0, 0, 4, 4⟩, 1, 2⟩]
theorem psP3 : pss (ndP 2 [1, 1]) 1 c20 ⟨0, 0, 4, 4⟩ = [⟨[0], [-1], ⟨-1, -1, 5, 5⟩, -1, 1⟩, ⟨[1], [0], ⟨0, 0, 4, 4⟩, -1, 2⟩] := by
  have hk := okP1.sg.ok (on := false)
  have e0 : gL (ndP 2 [1, 1]) 1 false = [[0], [1]] := by unfold gL; rw [gP3]; rfl
  rw [e0] at hk
  have e1 : rL (ndP 2 [1, 1]) 1 false = [[-1], [0]] := by unfold rL; rw [e0, rP _ _ hk]
  unfold pss c20
  dsimp only
  rw [if_pos rfl]
  unfold raws
  rw [gP3]
  unfold rawP uN
  rw [gP3, e1, e0]
  simp only [List.length_cons, List.length_nil, List.range_succ, List.range_zero, List.nil_append, List.map_cons, List.map_nil, List.cons_append, List.getD_cons_zero, List.getD_cons_succ, lastN, List.getLastD_cons, List.getLastD_nil]
  rw [bP1.1, bP1.2]
  rfl
theorem plP3 : (plS (ndP 2 [1, 1]) 1 c20 ⟨0, 0, 4, 4⟩).sl.length = 2 ∧ (plS (ndP 2 [1, 1]) 1 c20 ⟨0, 0, 4, 4⟩).ps = ps20 ∧ (plS (ndP 2 [1, 1]) 1 c20 ⟨0, 0, 4, 4⟩).pk = 80 ∧ srcO (ndP 2 [1, 1]) 1 c20 ⟨0, 0, 4, 4⟩ = ⟨-2, -2, 6, 6⟩ := by
  unfold plS
  rw [psP3]
  refine ⟨?_, ?_, ?_, ?_⟩ <;> rfl
theorem rP3 : rdS (ndP 2 [1, 1]) [0] = [-1] ∧ rdS (ndP 2 [1, 1]) [1] = [0] := by
  have hk := okP1.sg.ok (on := false)
  have e0 : gL (ndP 2 [1, 1]) 1 false = [[0], [1]] := by unfold gL; rw [gP3]; rfl
  rw [e0] at hk
  have h := rP _ _ hk
  simp only [List.map_cons, List.map_nil, List.cons.injEq, and_true] at h
  exact h
theorem chk20 (pk : Int) : chkP (ndP 2 [1, 1]) 1 ⟨0, 0, 4, 4⟩ c20 ⟨ps20, ⟨-2, -2, 6, 6⟩, 2, pk⟩ = decide (80 = pk) := by
  have h1 : ck1 (ndP 2 [1, 1]) 1 ps20 = true := by unfold ck1; rw [nedP]; decide
  have h2 : ck2 (ndP 2 [1, 1]) ps20 = true := by decide
  have h3 : ck3 (ndP 2 [1, 1]) 1 ps20 = true := by
    unfold ck3
    simp only [ps20, ofN, List.length_cons, List.length_nil, List.range_succ, List.range_zero, List.nil_append, List.map_cons, List.map_nil, List.cons_append, List.getD_cons_zero, List.getD_cons_succ, List.all_cons, List.all_nil, Int.natCast_zero, Int.natCast_one]
    rw [rP3.1, rP3.2]
    decide
  have h4 : ck4 (ndP 2 [1, 1]) 1 ⟨0, 0, 4, 4⟩ ⟨ps20, ⟨-2, -2, 6, 6⟩, 2, pk⟩ = true := by rfl
  have h5 : ck5 (ndP 2 [1, 1]) true ⟨ps20, ⟨-2, -2, 6, 6⟩, 2, pk⟩ = true := by
    have h50 : ck5 (ndP 2 [1, 1]) true ⟨ps20, ⟨-2, -2, 6, 6⟩, 2, 0⟩ = true := by decide
    exact h50
  have h6 : ck6 true 2 ⟨ps20, ⟨-2, -2, 6, 6⟩, 2, pk⟩ = decide (80 = pk) := by
    have h60 : mostK true ps20 2 2 = 80 := by decide
    unfold ck6
    dsimp only
    rw [show ps20.length = 2 from rfl, h60]
  unfold chkP
  dsimp only [c20]
  rw [h1, h2, h3, h4, h5]
  exact h6
theorem chk20b (pk : Int) : chkP (ndP 2 [1, 1]) 1 ⟨0, 0, 4, 4⟩ c20 ⟨ps20.take 1, ⟨-2, -2, 6, 6⟩, 2, pk⟩ = false := by
  have h1 : ck1 (ndP 2 [1, 1]) 1 (ps20.take 1) = false := by unfold ck1; rw [nedP]; decide
  unfold chkP
  rw [h1]
  rfl
end Go.Proofs.YtaoamkbcegadcaaGreatDoor
