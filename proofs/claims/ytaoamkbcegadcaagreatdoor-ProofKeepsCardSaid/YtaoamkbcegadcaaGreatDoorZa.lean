/- Texts joined: XZa. -/
import Derived.Test.YtaoamkbcegadcaaGreatDoorYn
set_option maxRecDepth 4000
/- Layer 20: which plans are right, plainly. -/
namespace Go.Proofs.YtaoamkbcegadcaaGreatDoor
open Go.RowKit Go.Bx Go.Od Go.Hp
set_option linter.unusedVariables false

/-- a plan -/
structure Pn where
  ps : List Ps
  src : Rc
  sn : Int
  pk : Int
/-! ### rule 1: nodes -/
/-- nodes in the order in which they are gone over, each with its pass -/
def prs : List Ps → Nat → List (Nat × Nat)
  | [], _ => []
  | p :: l, i => p.nodes.map (fun k => (i, k)) ++ prs l (i + 1)
def mapOf (l : List (Nat × Nat)) : Nat → Option Nat := fun r => (l.find? fun x => x.2 == r).map (·.1)
def R1 (nd : Nat → Bool) (l : List (Nat × Nat)) : Bool := decide (l.map (·.2)).Nodup && l.all fun x => nd x.2
noncomputable def ck1 (nds : List Nd) (out : Int) (ps : List Ps) : Bool := R1 (ned (insOf nds) out) (prs ps 0) && (List.range nds.length).all fun k => !ned (insOf nds) out k || (prs ps 0).any fun x => x.2 == k
theorem R1_iff {nd : Nat → Bool} {l : List (Nat × Nat)} : R1 nd l = true ↔ (l.map (·.2)).Nodup ∧ ∀ x ∈ l, nd x.2 = true := by
  unfold R1
  rw [Bool.and_eq_true, decide_eq_true_eq, List.all_eq_true]
theorem prs_app (a b : List Ps) (i : Nat) : prs (a ++ b) i = prs a i ++ prs b (i + a.length) := by
  induction a generalizing i with
  | nil => simp [prs]
  | cons p a ih =>
    simp only [List.cons_append, prs, ih, List.length_cons, List.append_assoc]
    rw [show i + 1 + a.length = i + (a.length + 1) by omega]
theorem prs_mem {l : List Ps} {i : Nat} {x : Nat × Nat} : x ∈ prs l i ↔ ∃ j, j < l.length ∧ x.1 = i + j ∧ x.2 ∈ (l.getD j Ps.none).nodes := by
  induction l generalizing i with
  | nil => simp [prs]
  | cons p l ih =>
    simp only [prs, List.mem_append, List.mem_map, ih]
    constructor
    · rintro (⟨k, hk, rfl⟩ | ⟨j, hj, h1, h2⟩)
      · exact ⟨0, by simp, by simp, by simpa using hk⟩
      · exact ⟨j + 1, by simpa using hj, by omega, by simpa using h2⟩
    · rintro ⟨j, hj, h1, h2⟩
      cases j with
      | zero => exact .inl ⟨x.2, by simpa using h2, by obtain ⟨a, b⟩ := x; simp at h1 ⊢; omega⟩
      | succ j => exact .inr ⟨j, by simpa using hj, by omega, by simpa using h2⟩
theorem R1_pre {nd : Nat → Bool} {a b : List (Nat × Nat)} (h : R1 nd (a ++ b) = true) : R1 nd a = true := by
  rw [R1_iff] at h ⊢
  rw [List.map_append, List.nodup_append] at h
  exact ⟨h.1.1, fun x hx => h.2 x (List.mem_append_left _ hx)⟩
theorem R1_snoc {nd : Nat → Bool} {a : List (Nat × Nat)} {x : Nat × Nat} (h : R1 nd a = true) : R1 nd (a ++ [x]) = true ↔ (∀ y ∈ a, y.2 ≠ x.2) ∧ nd x.2 = true := by
  rw [R1_iff] at h ⊢
  rw [List.map_append, List.nodup_append]
  constructor
  · rintro ⟨⟨_, _, h3⟩, h4⟩
    exact ⟨fun y hy e => h3 _ (List.mem_map.2 ⟨y, hy, rfl⟩) _ (by simp) e, h4 x (by simp)⟩
  · rintro ⟨h1, h2⟩
    refine ⟨⟨h.1, by simp, fun a' ha b hb e => ?_⟩, fun y hy => ?_⟩
    · obtain ⟨y, hy, rfl⟩ := List.mem_map.1 ha
      simp at hb
      subst hb
      exact h1 y hy e
    · rcases List.mem_append.1 hy with hy | hy
      · exact h.2 y hy
      · rw [List.mem_singleton.1 hy]; exact h2
theorem mapOf_none {l : List (Nat × Nat)} {r : Nat} : mapOf l r = none ↔ ∀ x ∈ l, x.2 ≠ r := by
  unfold mapOf
  rw [Option.map_eq_none_iff, List.find?_eq_none]
  simp
theorem mapOf_snoc {l : List (Nat × Nat)} {x : Nat × Nat} (h : mapOf l x.2 = none) : mapOf (l ++ [x]) = fun r => if r = x.2 then some x.1 else mapOf l r := by
  funext r
  unfold mapOf
  rw [List.find?_append]
  by_cases e : r = x.2
  · subst e
    unfold mapOf at h
    rw [Option.map_eq_none_iff] at h
    rw [h, if_pos rfl]
    simp
  · rw [if_neg e]
    cases hf : l.find? fun y => y.2 == r with
    | none =>
      have : (x.2 == r) = false := by simp; exact fun e' => e e'.symm
      simp [this]
    | some y => simp
/-! ### rule 2: inputs stand ahead -/
def ahB (ps : List Ps) (m : Nat → Option Nat) (i at_ : Nat) (x : Int) : Bool :=
  if x = -1 then true else if (m x.toNat).getD 0 = i then decide (fIdx (fun y => y == x) (ofN (ps.getD i Ps.none).nodes) < at_)
  else decide ((m x.toNat).getD 0 < i) && ((resP (ps.getD ((m x.toNat).getD 0) Ps.none) : Int) == x)
def nodeB (nds : List Nd) (ps : List Ps) (m : Nat → Option Nat) (i at_ : Nat) : Bool := (nds.getD ((ps.getD i Ps.none).nodes.getD at_ 0) Nd.none).ins.all (ahB ps m i at_)
def passB (nds : List Nd) (ps : List Ps) (m : Nat → Option Nat) (i : Nat) : Bool :=
  (!(decide (1 < (ps.getD i Ps.none).nodes.length) && !byP nds (ps.getD i Ps.none))) && (List.range (ps.getD i Ps.none).nodes.length).all (nodeB nds ps m i)
def ck2 (nds : List Nd) (ps : List Ps) : Bool := (List.range ps.length).all (passB nds ps (mapOf (prs ps 0)))
/-! ### rule 3: what is read, until when -/
noncomputable def ck3 (nds : List Nd) (out : Int) (ps : List Ps) : Bool :=
  (List.range ps.length).all fun i => decide ((ps.getD i Ps.none).reads = rdS nds (ofN (ps.getD i Ps.none).nodes)) && decide ((ps.getD i Ps.none).last = unA ((ps.map fun p => ofN p.nodes).map (rdS nds)) (ps.map fun p => ofN p.nodes) out i)
/-! ### rule 4: boxes -/
noncomputable def ck4 (nds : List Nd) (out : Int) (want : Rc) (p : Pn) : Bool :=
  (p.ps.all fun x => wiR (bxN nds want out (resP x)) x.box) && wiR (allN nds want out).2 p.src
/-! ### rule 5: slots -/
def shB (nds : List Nd) (al : Bool) (a b : Ps) (k : Nat) : Bool :=
  al && (decide (szP a = szP b) && (decide (a.last < k) || (decide (a.last = k) && (rcEq a.box b.box && (b.reads.contains (resP a : Int) && byP nds b)))))
def slotB (nds : List Nd) (al : Bool) (p : Pn) (k : Nat) : Bool :=
  if szP (p.ps.getD k Ps.none) = 0 then decide ((p.ps.getD k Ps.none).slot = -1)
  else decide (0 ≤ (p.ps.getD k Ps.none).slot) && (decide ((p.ps.getD k Ps.none).slot < p.sn) && (List.range k).all fun i => !decide ((p.ps.getD i Ps.none).slot = (p.ps.getD k Ps.none).slot) || shB nds al (p.ps.getD i Ps.none) (p.ps.getD k Ps.none) k)
def ck5 (nds : List Nd) (al : Bool) (p : Pn) : Bool := (List.range p.ps.length).all (slotB nds al p)
/-! ### rule 6: the peak -/
/-- whose a slot is, once k passes are done -/
def owK (ps : List Ps) : Nat → Nat → Option Nat
  | 0 => fun _ => none
  | k + 1 => fun r => if 0 ≤ (ps.getD k Ps.none).slot ∧ (ps.getD k Ps.none).slot.toNat = r then some k else owK ps k r
/-- what an owner counts at pass k -/
def cnt (al : Bool) (ps : List Ps) (k i : Nat) : Int := if al = false ∨ (k : Int) ≤ (ps.getD i Ps.none).last then szP (ps.getD i Ps.none) else 0
/-- what is in use at pass k: slots below N -/
def useK (al : Bool) (ps : List Ps) (N k : Nat) : Int := sumI ((List.range N).map fun r => match owK ps (k + 1) r with | some i => cnt al ps k i | none => 0)
def mostK (al : Bool) (ps : List Ps) (N : Nat) : Nat → Int
  | 0 => 0
  | k + 1 => max (mostK al ps N k) (useK al ps N k)
def ck6 (al : Bool) (N : Nat) (p : Pn) : Bool := decide (mostK al p.ps N p.ps.length = p.pk)
/-- all rules -/
noncomputable def chkP (nds : List Nd) (out : Int) (want : Rc) (c : Cf) (p : Pn) : Bool := ck1 nds out p.ps && (ck2 nds p.ps && (ck3 nds out p.ps && (ck4 nds out want p && (ck5 nds c.al p && ck6 c.al p.sn.toNat p))))
end Go.Proofs.YtaoamkbcegadcaaGreatDoor
