/- Texts joined: XYz. -/
import Derived.Test.YtaoamkbcegadcaaGreatDoorYa
import Derived.Test.YtaoamkbcegadcaaGreatDoorAg
set_option maxRecDepth 4000
/- Layer 19: the plan, plainly. -/
namespace Go.Proofs.YtaoamkbcegadcaaGreatDoor
open Go.RowKit Go.Bx Go.Od Go.Hp
set_option linter.unusedVariables false

/-- how plans are made -/
structure Cf where
  fuse : Bool
  al : Bool
  roi : Bool
  dam : Bool
  room : Int
/-- a pass -/
structure Ps where
  nodes : List Nat
  reads : List Int
  box : Rc
  slot : Int
  last : Int
def Ps.none : Ps := ⟨[], [], Rc.zero, 0, 0⟩
def szP (p : Ps) : Int := sz (areaR p.box)
def resP (p : Ps) : Nat := lastN p.nodes
def byP (nds : List Nd) (p : Ps) : Bool := p.nodes.all fun k => byPt (nds.getD k Nd.none).op
def rcEq (a b : Rc) : Bool := decide (a.x0 = b.x0) && (decide (a.y0 = b.y0) && (decide (a.x1 = b.x1) && decide (a.y1 = b.y1)))
/-- may a pass be done in a slot's place? -/
def inpl (ps : List Ps) (at_ : Nat) (p : Ps) (s : Int × Int) : Bool :=
  if s.2 < 0 then false else decide ((ps.getD s.2.toNat Ps.none).last = at_) && (rcEq (ps.getD s.2.toNat Ps.none).box p.box && p.reads.contains (resP (ps.getD s.2.toNat Ps.none) : Int))
def free (n : Int) (s : Int × Int) : Bool := decide (s.2 < 0) && decide (s.1 = n)
/-- the first of a list of which something holds -/
def fIdx {α : Type} (f : α → Bool) (l : List α) : Int := match l.findIdx? f with | some k => (k : Int) | none => -1
def inPlace (nds : List Nd) (ps : List Ps) (at_ : Nat) (sl : List (Int × Int)) : Int :=
  if byP nds (ps.getD at_ Ps.none) then fIdx (inpl ps at_ (ps.getD at_ Ps.none)) sl else -1
/-- the slot found, and the slots then -/
def findS (nds : List Nd) (c : Cf) (ps : List Ps) (at_ : Nat) (sl : List (Int × Int)) : Int × List (Int × Int) :=
  if c.al = true ∧ 0 ≤ inPlace nds ps at_ sl then (inPlace nds ps at_ sl, sl)
  else if c.al = true ∧ 0 ≤ fIdx (free (szP (ps.getD at_ Ps.none))) sl then (fIdx (free (szP (ps.getD at_ Ps.none))) sl, sl)
  else (sl.length, sl ++ [(szP (ps.getD at_ Ps.none), 0)])
def usedS : List (Int × Int) → Int
  | [] => 0
  | s :: l => (if 0 ≤ s.2 then s.1 else 0) + usedS l
def dies (ps : List Ps) (at_ : Nat) (s : Int × Int) : Bool := decide (0 ≤ s.2) && decide ((ps.getD s.2.toNat Ps.none).last = at_)
def relS (ps : List Ps) (at_ : Nat) (sl : List (Int × Int)) : List (Int × Int) := sl.map fun s => if dies ps at_ s then (s.1, -1) else s
/-- a state: passes, slots, the peak -/
structure St where
  ps : List Ps
  sl : List (Int × Int)
  pk : Int
def stepA (nds : List Nd) (c : Cf) (s : St) (at_ : Nat) : St :=
  let t : St := if 0 < szP (s.ps.getD at_ Ps.none) then
      let f := findS nds c s.ps at_ s.sl
      ⟨s.ps.set at_ { s.ps.getD at_ Ps.none with slot := f.1 }, f.2.set f.1.toNat ((f.2.getD f.1.toNat (0, 0)).1, at_), s.pk⟩
    else s
  ⟨t.ps, if c.al = true then relS t.ps at_ t.sl else t.sl, max t.pk (usedS t.sl)⟩
def asg (nds : List Nd) (c : Cf) (ps : List Ps) : St := (List.range ps.length).foldl (stepA nds c) ⟨ps, [], 0⟩
theorem usedS_app (a b : List (Int × Int)) : usedS (a ++ b) = usedS a + usedS b := by
  induction a with
  | nil => simp [usedS]
  | cons x a ih => simp [usedS, ih]; omega
/-! ### boxes -/
noncomputable def hullN : List Rc → Rc := fun l => l.foldl joinR Rc.zero
theorem hullN_snoc (l : List Rc) (r : Rc) : hullN (l ++ [r]) = joinR (hullN l) r := by simp [hullN]
end Go.Proofs.YtaoamkbcegadcaaGreatDoor
