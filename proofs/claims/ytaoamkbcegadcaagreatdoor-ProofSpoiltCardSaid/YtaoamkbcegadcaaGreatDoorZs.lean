/- Texts joined: XZs XZt. -/
import Derived.Test.YtaoamkbcegadcaaGreatDoorZo
import Derived.Test.YtaoamkbcegadcaaGreatDoorAb
import Derived.Test.YtaoamkbcegadcaaGreatDoorZq
set_option maxRecDepth 4000
/- Layer 20: the document's Same (layer 19), of two plans that are alike. -/
namespace Go.Proofs.YtaoamkbcegadcaaGreatDoor
open Go.RowKit Go.Bx Go.Od Go.Hp
attribute [local go_sem ↓] Go.wp_at_zero Go.wp_at_succ
set_option linter.unusedVariables false

end Go.Proofs.YtaoamkbcegadcaaGreatDoor
/- Layer 20: what its laws stand on. (Printed by mk_z20.py.) -/
namespace Go.Proofs.YtaoamkbcegadcaaGreatDoor
open Go.RowKit Go.Bx Go.Od Go.Hp
attribute [local go_sem ↓] Go.wp_at_zero Go.wp_at_succ
set_option linter.unusedVariables false

noncomputable def planN (nds : List Nd) (out : Int) (c : Cf) (want : Rc) : Pn := ⟨(plS nds out c want).ps,srcO nds out c want,(plS nds out c want).sl.length,(plS nds out c want).pk⟩
def MkG (w : World) (p : Pn) (e : Ending) (w' : World) : Prop := ∃ pa pc,e = .returned (pnv (.slice pa p.ps.length pc) p) ∧ Gp w'.heap.size w' (.slice pa p.ps.length pc) p.ps ∧ p.ps.length ≤ pc ∧ pc ≤ maxLen ∧ Below w.heap.size w w'
theorem makeG_c (B : Nat) (nv : Value) (nds : List Nd) (out : Int) (want : Rc) (c : Cf) (w : World) (h : PlOk nds out want) (hg : Gr B w nv nds) (hB : B ≤ w.heap.size) :
    Calls Tryz.prog 8 #[.agg #[nv,.int .i64 out],rv want,cfv c] w (MkG w (planN nds out c want)) := by
  refine (make_c B nv nds out want c w h hg hB).mono fun e w1 hh => ?_
  obtain ⟨pl,pv,he,hpl,hpr,hb1⟩ := hh
  have hgp : Gp w1.heap.size w1 pv (plS nds out c want).ps := by rw [← hpl]; exact hpr.gp (by rw [hpl]; exact fun y hy => (plS_mk h y hy).ok)
  obtain ⟨pa,pc,rfl⟩ := hgp.isSl
  have hpc : (plS nds out c want).ps.length ≤ pc ∧ pc ≤ maxLen := by
    obtain ⟨_,cc,hv,h1,h2,_⟩ := hgp
    simp only [Value.slice.injEq] at hv
    obtain ⟨_,_,rfl⟩ := hv
    exact ⟨h1,h2⟩
  exact ⟨pa,pc,he,hgp,hpc.1,hpc.2,hb1⟩
theorem few12_of {nds : List Nd} {out : Int} {want : Rc} (h : rightP nds out want = true) : nds.length ≤ 12 := by
  unfold rightP at h
  simp only [Bool.and_eq_true] at h
  have h2 : rightB nds out = true := by first | exact h.2 | exact h.2.2 | exact h.1.2
  unfold rightB at h2
  rw [Bool.and_eq_true] at h2
  exact ((fewB_iff _ _).1 h2.1).1
def PS (w : World) (a b : Value) (r : Rc) (c : Cf) (n q : Nat) (cs : List Value) (pv : Value) (ps : List Ps) (W : World) : Prop := CB w W a b r c ∧ TB W q cs 33 ∧ Gp n W pv ps ∧ n ≤ W.heap.size
theorem PS.call {w W W' : World} {a b : Value} {r : Rc} {c : Cf} {n q : Nat} {cs : List Value} {pv : Value} {ps : List Ps} (h : PS w a b r c n q cs pv ps W) (hb : Below W.heap.size W W') : PS w a b r c n q cs pv ps W' :=
  ⟨h.1.call hb,h.2.1.call hb,h.2.2.1.below hb h.2.2.2,Nat.le_trans h.2.2.2 hb.size⟩
end Go.Proofs.YtaoamkbcegadcaaGreatDoor
