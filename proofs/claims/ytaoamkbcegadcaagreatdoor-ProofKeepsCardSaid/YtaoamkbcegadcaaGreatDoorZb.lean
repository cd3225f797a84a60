/- Texts joined: XZb. -/
import Derived.Test.YtaoamkbcegadcaaGreatDoorZa
set_option maxRecDepth 4000
/- Layer 20: plain laws: spoilt plans aren't right. -/
namespace Go.Proofs.YtaoamkbcegadcaaGreatDoor
open Go.RowKit Go.Bx Go.Od Go.Hp
set_option linter.unusedVariables false

/-! ### the peak -/
theorem stepA_slot {nds : List Nd} {c : Cf} {s : St} {at_ i : Nat} (h : i ≠ at_) : ((stepA nds c s at_).ps.getD i Ps.none).slot = (s.ps.getD i Ps.none).slot := by
  rw [stepA_eq]
  unfold psM
  dsimp only
  split
  · rw [set_ne h]
  · rfl
section
variable {nds : List Nd} {c : Cf} {ps0 : List Ps}
end
theorem stN_alk {nds : List Nd} {c : Cf} {ps : List Ps} : ∀ k, Alk ps (stN nds c ps k).ps
  | 0 => Alk.refl _
  | k + 1 => by rw [stN_succ, stepA_eq]; exact psM_alk (stN_alk k)
theorem slM_grow (nds : List Nd) (c : Cf) (s : St) (k : Nat) : s.sl.length ≤ (slM nds c s k).length := by
  unfold slM
  split
  · rw [List.length_set]
    rcases findS_cases nds c s.ps k s.sl with ⟨f, hf, e, _⟩ | ⟨f, hf, e, _⟩ | e
    · rw [e]; exact Nat.le_refl _
    · rw [e]; exact Nat.le_refl _
    · rw [e]; simp
  · exact Nat.le_refl _
theorem stepA_len (nds : List Nd) (c : Cf) (s : St) (k : Nat) : (stepA nds c s k).sl.length = (slM nds c s k).length := by
  rw [stepA_eq]
  dsimp only
  split
  · rw [relS_len]
  · rfl
/-! ### spoilt plans -/
variable {nds : List Nd} {out : Int} {want : Rc}
theorem plS_node (h : PlOk nds out want) {c : Cf} {i : Nat} : ((plS nds out c want).ps.getD i Ps.none).nodes = if i < (grp nds out c.fuse).length then (grp nds out c.fuse).getD i [] else [] := by
  have ha : Alk (pss nds out c want) (plS nds out c want).ps := stN_alk _
  rw [ha.nodes]
  split
  · rename_i hi
    rw [(pss_all (want := want) hi).2.2.1]
  · rename_i hi
    have : (pss nds out c want).getD i Ps.none = Ps.none := by
      have hl : (pss nds out c want).length = (grp nds out c.fuse).length := pss_len
      simp [show ¬ i < (pss nds out c want).length by omega]
    rw [this]
    rfl
end Go.Proofs.YtaoamkbcegadcaaGreatDoor
