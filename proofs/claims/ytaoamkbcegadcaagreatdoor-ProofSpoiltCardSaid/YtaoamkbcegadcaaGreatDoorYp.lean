/- Texts joined: XYp XYq. -/
import Derived.Test.YtaoamkbcegadcaaGreatDoorPs
import Derived.Test.YtaoamkbcegadcaaGreatDoorAe
import Derived.Test.YtaoamkbcegadcaaGreatDoorAh
import Derived.Test.YtaoamkbcegadcaaGreatDoorAg
set_option maxRecDepth 4000
/- Layer 19: plain laws of plans. -/
namespace Go.Proofs.YtaoamkbcegadcaaGreatDoor
open Go.RowKit Go.Bx Go.Od Go.Hp
set_option linter.unusedVariables false

theorem fIdx_at {α : Type} {f : α → Bool} {l : List α} (d : α) (h : 0 ≤ fIdx f l) : (fIdx f l).toNat < l.length ∧ f (l.getD (fIdx f l).toNat d) = true := by
  unfold fIdx at h ⊢
  cases e : l.findIdx? f with
  | none => rw [e] at h; exact absurd h (by decide)
  | some k =>
    rw [List.findIdx?_eq_some_iff_getElem] at e
    obtain ⟨hk,hf,_⟩ := e
    dsimp only
    rw [Int.toNat_natCast]
    exact ⟨hk,by simpa [hk] using hf⟩
theorem szP_bd (p : Ps) : 0 ≤ szP p ∧ szP p ≤ 1099511627776 := sz_bd _
theorem rcEq_iff {a b : Rc} : rcEq a b = true ↔ a = b := by
  obtain ⟨a0,a1,a2,a3⟩ := a
  obtain ⟨b0,b1,b2,b3⟩ := b
  unfold rcEq
  simp only [Bool.and_eq_true,decide_eq_true_eq,Rc.mk.injEq]
theorem findS_cases (nds : List Nd) (c : Cf) (ps : List Ps) (at_ : Nat) (sl : List (Int × Int)) :
    (∃ k,k < sl.length ∧ findS nds c ps at_ sl = ((k : Int),sl) ∧ c.al = true ∧ inpl ps at_ (ps.getD at_ Ps.none) (sl.getD k (0,0)) = true) ∨
    (∃ k,k < sl.length ∧ findS nds c ps at_ sl = ((k : Int),sl) ∧ c.al = true ∧ free (szP (ps.getD at_ Ps.none)) (sl.getD k (0,0)) = true) ∨
    findS nds c ps at_ sl = ((sl.length : Int),sl ++ [(szP (ps.getD at_ Ps.none),0)]) := by
  unfold findS
  split
  · rename_i h
    obtain ⟨h1,h2⟩ := h
    refine .inl ?_
    unfold inPlace at h2 ⊢
    split at h2
    · rename_i hb
      rw [if_pos hb]
      obtain ⟨e1,e2⟩ := fIdx_at (0,0) h2
      exact ⟨_,e1,by rw [Int.toNat_of_nonneg h2],h1,e2⟩
    · exact absurd h2 (by decide)
  · split
    · rename_i h
      obtain ⟨h1,h2⟩ := h
      obtain ⟨e1,e2⟩ := fIdx_at (0,0) h2
      exact .inr (.inl ⟨_,e1,by rw [Int.toNat_of_nonneg h2],h1,e2⟩)
    · exact .inr (.inr rfl)
theorem slset_ne {l : List (Int × Int)} {k i : Nat} (h : i ≠ k) (p : Int × Int) : (l.set k p).getD i (0,0) = l.getD i (0,0) := by simp [Ne.symm h]
theorem relS_len (ps : List Ps) (at_ : Nat) (sl : List (Int × Int)) : (relS ps at_ sl).length = sl.length := by simp [relS]
theorem relS_get (ps : List Ps) (at_ : Nat) (sl : List (Int × Int)) {j : Nat} (hj : j < sl.length) : (relS ps at_ sl).getD j (0,0) = if dies ps at_ (sl.getD j (0,0)) then ((sl.getD j (0,0)).1,-1) else sl.getD j (0,0) := by
  simp [relS,hj]
theorem rel_mem {ps : List Ps} {at_ : Nat} {sl : List (Int × Int)} {s : Int × Int} (h : s ∈ relS ps at_ sl) : ∃ t ∈ sl,t.1 = s.1 := by
  unfold relS at h
  obtain ⟨t,ht,rfl⟩ := List.mem_map.1 h
  refine ⟨t,ht,?_⟩
  split <;> rfl
theorem getD_mem {α : Type} {l : List α} {i : Nat} (d : α) (h : i < l.length) : l.getD i d ∈ l := List.mem_of_getElem? (show l[i]? = some (l.getD i d) by simp [h])
def Alk (ps0 ps : List Ps) : Prop := ps.length = ps0.length ∧ ∀ i,∃ s,ps.getD i Ps.none = { ps0.getD i Ps.none with slot := s }
theorem Alk.refl (ps0 : List Ps) : Alk ps0 ps0 := ⟨rfl,fun i => ⟨_,rfl⟩⟩
theorem Alk.set {ps0 ps : List Ps} (h : Alk ps0 ps) (k : Nat) (s : Int) : Alk ps0 (ps.set k { ps.getD k Ps.none with slot := s }) := by
  refine ⟨by rw [List.length_set]; exact h.1,fun i => ?_⟩
  obtain ⟨t,ht⟩ := h.2 i
  by_cases e : i = k
  · subst e
    by_cases hi : i < ps.length
    · refine ⟨s,?_⟩
      have : (ps.set i { ps.getD i Ps.none with slot := s }).getD i Ps.none = { ps.getD i Ps.none with slot := s } := by simp [hi]
      rw [this,ht]
    · refine ⟨t,?_⟩
      rw [← ht,List.set_eq_of_length_le (by omega)]
  · refine ⟨t,?_⟩
    rw [← ht]
    simp [Ne.symm e]
section
variable {ps0 ps : List Ps}
theorem Alk.last (h : Alk ps0 ps) (i : Nat) : (ps.getD i Ps.none).last = (ps0.getD i Ps.none).last := by obtain ⟨s,e⟩ := h.2 i; rw [e]
theorem Alk.box (h : Alk ps0 ps) (i : Nat) : (ps.getD i Ps.none).box = (ps0.getD i Ps.none).box := by obtain ⟨s,e⟩ := h.2 i; rw [e]
theorem Alk.nodes (h : Alk ps0 ps) (i : Nat) : (ps.getD i Ps.none).nodes = (ps0.getD i Ps.none).nodes := by obtain ⟨s,e⟩ := h.2 i; rw [e]
theorem Alk.szP (h : Alk ps0 ps) (i : Nat) : Go.Proofs.YtaoamkbcegadcaaGreatDoor.szP (ps.getD i Ps.none) = Go.Proofs.YtaoamkbcegadcaaGreatDoor.szP (ps0.getD i Ps.none) := by unfold Go.Proofs.YtaoamkbcegadcaaGreatDoor.szP; rw [h.box]
end
/-! ### with aliasing, and without -/
def slM (nds : List Nd) (c : Cf) (s : St) (at_ : Nat) : List (Int × Int) :=
  if 0 < szP (s.ps.getD at_ Ps.none) then (findS nds c s.ps at_ s.sl).2.set (findS nds c s.ps at_ s.sl).1.toNat (((findS nds c s.ps at_ s.sl).2.getD (findS nds c s.ps at_ s.sl).1.toNat (0,0)).1,at_) else s.sl
def psM (nds : List Nd) (c : Cf) (s : St) (at_ : Nat) : List Ps :=
  if 0 < szP (s.ps.getD at_ Ps.none) then s.ps.set at_ { s.ps.getD at_ Ps.none with slot := (findS nds c s.ps at_ s.sl).1 } else s.ps
theorem stepA_eq (nds : List Nd) (c : Cf) (s : St) (at_ : Nat) : stepA nds c s at_ = ⟨psM nds c s at_,if c.al = true then relS (psM nds c s at_) at_ (slM nds c s at_) else slM nds c s at_,max s.pk (usedS (slM nds c s at_))⟩ := by
  unfold stepA psM slM
  dsimp only
  split <;> rfl
theorem psM_alk {nds : List Nd} {c : Cf} {s : St} {at_ : Nat} {ps0 : List Ps} (h : Alk ps0 s.ps) : Alk ps0 (psM nds c s at_) := by
  unfold psM
  split
  · exact h.set _ _
  · exact h
/-! ### what is still read keeps its slot -/
theorem set_at {l : List Ps} {k : Nat} (h : k < l.length) (p : Ps) : (l.set k p).getD k Ps.none = p := by simp [h]
theorem set_ne {l : List Ps} {k i : Nat} (h : i ≠ k) (p : Ps) : (l.set k p).getD i Ps.none = l.getD i Ps.none := by simp [Ne.symm h]
end Go.Proofs.YtaoamkbcegadcaaGreatDoor
/- Layer 19: plain laws of plans: passes, boxes, fusing. -/
namespace Go.Proofs.YtaoamkbcegadcaaGreatDoor
open Go.RowKit Go.Bx Go.Od Go.Hp
set_option linter.unusedVariables false

section
variable {nds : List Nd} {out : Int} {on : Bool} {want : Rc}
noncomputable def bxN (nds : List Nd) (want : Rc) (out : Int) (k : Nat) : Rc := (allN nds want out).1 k
noncomputable def rawP (nds : List Nd) (out : Int) (on : Bool) (want : Rc) (i : Nat) : Ps :=
  ⟨(grp nds out on).getD i [],(rL nds out on).getD i [],bxN nds want out (lastN ((grp nds out on).getD i [])),-1,uN nds out on i⟩
noncomputable def raws (nds : List Nd) (out : Int) (on : Bool) (want : Rc) : List Ps := (List.range (grp nds out on).length).map (rawP nds out on want)
noncomputable def hullO (nds : List Nd) (out : Int) (on : Bool) (want : Rc) : Rc := hullN ((raws nds out on want).map (·.box))
def wide (h : Rc) (p : Ps) : Ps := if p.box.emp then p else { p with box := h }
noncomputable def pss (nds : List Nd) (out : Int) (c : Cf) (want : Rc) : List Ps := if c.roi then raws nds out c.fuse want else (raws nds out c.fuse want).map (wide (hullO nds out c.fuse want))
noncomputable def srcO (nds : List Nd) (out : Int) (c : Cf) (want : Rc) : Rc := if c.roi = true ∨ (allN nds want out).2.emp = true then (allN nds want out).2 else joinR (allN nds want out).2 (hullO nds out c.fuse want)
theorem raws_len : (raws nds out on want).length = (grp nds out on).length := by simp [raws]
theorem raws_get {i : Nat} (hi : i < (grp nds out on).length) : (raws nds out on want).getD i Ps.none = rawP nds out on want i := by simp [raws,hi]
theorem pss_len {c : Cf} : (pss nds out c want).length = (grp nds out c.fuse).length := by
  unfold pss
  split <;> simp [raws_len]
theorem pss_get {c : Cf} {i : Nat} (hi : i < (grp nds out c.fuse).length) : (pss nds out c want).getD i Ps.none = if c.roi then rawP nds out c.fuse want i else wide (hullO nds out c.fuse want) (rawP nds out c.fuse want i) := by
  unfold pss
  split
  · exact raws_get hi
  · have h1 : i < (raws nds out c.fuse want).length := by rw [raws_len]; exact hi
    have h2 := raws_get (want := want) hi
    rw [← h2]
    simp [h1]
theorem wide_slot (h : Rc) (p : Ps) : (wide h p).slot = p.slot ∧ (wide h p).last = p.last ∧ (wide h p).nodes = p.nodes ∧ (wide h p).reads = p.reads := by
  unfold wide
  split <;> exact ⟨rfl,rfl,rfl,rfl⟩
theorem pss_all {c : Cf} {i : Nat} (hi : i < (grp nds out c.fuse).length) : ((pss nds out c want).getD i Ps.none).slot = -1 ∧ ((pss nds out c want).getD i Ps.none).last = uN nds out c.fuse i ∧ ((pss nds out c want).getD i Ps.none).nodes = (grp nds out c.fuse).getD i [] ∧ ((pss nds out c want).getD i Ps.none).reads = (rL nds out c.fuse).getD i [] := by
  rw [pss_get hi]
  split
  · exact ⟨rfl,rfl,rfl,rfl⟩
  · obtain ⟨h1,h2,h3,h4⟩ := wide_slot (hullO nds out c.fuse want) (rawP nds out c.fuse want i)
    rw [h1,h2,h3,h4]
    exact ⟨rfl,rfl,rfl,rfl⟩
/-! ### the hull -/
theorem hull_pl : ∀ (l : List Rc) (a : Rc),RcP a → (∀ r ∈ l,RcP r) → RcP (l.foldl joinR a)
  | [],a,ha,_ => ha
  | x :: l,a,ha,h => hull_pl l (joinR a x) (joinR_pl ha (h x (List.mem_cons_self ..))) fun r hr => h r (List.mem_cons_of_mem _ hr)
theorem bxN_pl (hg : GoodN nds out) (hw : RcP want) (k : Nat) : RcP (bxN nds want out k) := (hg.cv hw).1 k
theorem hullO_pl (hg : GoodN nds out) (hw : RcP want) : RcP (hullO nds out on want) := by
  refine hull_pl _ _ zero_pl fun r hr => ?_
  obtain ⟨p,hp,rfl⟩ := List.mem_map.1 hr
  obtain ⟨i,hi,rfl⟩ := List.mem_map.1 hp
  exact bxN_pl hg hw _
theorem pss_pl {c : Cf} (hg : GoodN nds out) (hw : RcP want) {i : Nat} (hi : i < (grp nds out c.fuse).length) : RcP ((pss nds out c want).getD i Ps.none).box := by
  rw [pss_get hi]
  split
  · exact bxN_pl hg hw _
  · unfold wide
    split
    · exact bxN_pl hg hw _
    · exact hullO_pl hg hw
/-! ### without aliasing: the peak is a sum -/
def sumI : List Int → Int
  | [] => 0
  | x :: l => x + sumI l
theorem sumI_app (a b : List Int) : sumI (a ++ b) = sumI a + sumI b := by
  induction a with
  | nil => simp [sumI]
  | cons x a ih => simp [sumI,ih]; omega
end
end Go.Proofs.YtaoamkbcegadcaaGreatDoor
