/- Texts joined: XZa XZb XZc XZd. -/
import Derived.Test.YtaoamkbcegadcaaGreatDoorYn
set_option maxRecDepth 4000
/- Layer 20: which plans are right, plainly. -/
namespace Go.Proofs.YtaoamkbcegadcaaGreatDoor
open Go.RowKit Go.Bx Go.Od Go.Hp
set_option linter.unusedVariables false

structure Pn where
  ps : List Ps
  src : Rc
  sn : Int
  pk : Int
/-! ### rule 1: nodes -/
def prs : List Ps → Nat → List (Nat × Nat)
  | [],_ => []
  | p :: l,i => p.nodes.map (fun k => (i,k)) ++ prs l (i + 1)
def mapOf (l : List (Nat × Nat)) : Nat → Option Nat := fun r => (l.find? fun x => x.2 == r).map (·.1)
def R1 (nd : Nat → Bool) (l : List (Nat × Nat)) : Bool := decide (l.map (·.2)).Nodup && l.all fun x => nd x.2
noncomputable def ck1 (nds : List Nd) (out : Int) (ps : List Ps) : Bool := R1 (ned (insOf nds) out) (prs ps 0) && (List.range nds.length).all fun k => !ned (insOf nds) out k || (prs ps 0).any fun x => x.2 == k
theorem R1_iff {nd : Nat → Bool} {l : List (Nat × Nat)} : R1 nd l = true ↔ (l.map (·.2)).Nodup ∧ ∀ x ∈ l,nd x.2 = true := by
  unfold R1
  rw [Bool.and_eq_true,decide_eq_true_eq,List.all_eq_true]
theorem prs_app (a b : List Ps) (i : Nat) : prs (a ++ b) i = prs a i ++ prs b (i + a.length) := by
  induction a generalizing i with
  | nil => simp [prs]
  | cons p a ih =>
    simp only [List.cons_append,prs,ih,List.length_cons,List.append_assoc]
    rw [show i + 1 + a.length = i + (a.length + 1) by omega]
theorem prs_snd (l : List Ps) (i : Nat) : (prs l i).map (·.2) = l.flatMap (·.nodes) := by
  induction l generalizing i with
  | nil => rfl
  | cons p l ih => simp [prs,ih,List.flatMap_cons,Function.comp_def]
theorem prs_mem {l : List Ps} {i : Nat} {x : Nat × Nat} : x ∈ prs l i ↔ ∃ j,j < l.length ∧ x.1 = i + j ∧ x.2 ∈ (l.getD j Ps.none).nodes := by
  induction l generalizing i with
  | nil => simp [prs]
  | cons p l ih =>
    simp only [prs,List.mem_append,List.mem_map,ih]
    constructor
    · rintro (⟨k,hk,rfl⟩ | ⟨j,hj,h1,h2⟩)
      · exact ⟨0,by simp,by simp,by simpa using hk⟩
      · exact ⟨j + 1,by simpa using hj,by omega,by simpa using h2⟩
    · rintro ⟨j,hj,h1,h2⟩
      cases j with
      | zero => exact .inl ⟨x.2,by simpa using h2,by obtain ⟨a,b⟩ := x; simp at h1 ⊢; omega⟩
      | succ j => exact .inr ⟨j,by simpa using hj,by omega,by simpa using h2⟩
theorem R1_pre {nd : Nat → Bool} {a b : List (Nat × Nat)} (h : R1 nd (a ++ b) = true) : R1 nd a = true := by
  rw [R1_iff] at h ⊢
  rw [List.map_append,List.nodup_append] at h
  exact ⟨h.1.1,fun x hx => h.2 x (List.mem_append_left _ hx)⟩
theorem R1_snoc {nd : Nat → Bool} {a : List (Nat × Nat)} {x : Nat × Nat} (h : R1 nd a = true) : R1 nd (a ++ [x]) = true ↔ (∀ y ∈ a,y.2 ≠ x.2) ∧ nd x.2 = true := by
  rw [R1_iff] at h ⊢
  rw [List.map_append,List.nodup_append]
  constructor
  · rintro ⟨⟨_,_,h3⟩,h4⟩
    exact ⟨fun y hy e => h3 _ (List.mem_map.2 ⟨y,hy,rfl⟩) _ (by simp) e,h4 x (by simp)⟩
  · rintro ⟨h1,h2⟩
    refine ⟨⟨h.1,by simp,fun a' ha b hb e => ?_⟩,fun y hy => ?_⟩
    · obtain ⟨y,hy,rfl⟩ := List.mem_map.1 ha
      simp at hb
      subst hb
      exact h1 y hy e
    · rcases List.mem_append.1 hy with hy | hy
      · exact h.2 y hy
      · rw [List.mem_singleton.1 hy]; exact h2
theorem mapOf_none {l : List (Nat × Nat)} {r : Nat} : mapOf l r = none ↔ ∀ x ∈ l,x.2 ≠ r := by
  unfold mapOf
  rw [Option.map_eq_none_iff,List.find?_eq_none]
  simp
theorem mapOf_snoc {l : List (Nat × Nat)} {x : Nat × Nat} (h : mapOf l x.2 = none) : mapOf (l ++ [x]) = fun r => if r = x.2 then some x.1 else mapOf l r := by
  funext r
  unfold mapOf
  rw [List.find?_append]
  by_cases e : r = x.2
  · subst e
    unfold mapOf at h
    rw [Option.map_eq_none_iff] at h
    rw [h,if_pos rfl]
    simp
  · rw [if_neg e]
    cases hf : l.find? fun y => y.2 == r with
    | none =>
      have : (x.2 == r) = false := by simp; exact fun e' => e e'.symm
      simp [this]
    | some y => simp
/-! ### rule 2: inputs stand ahead -/
def ahB (ps : List Ps) (m : Nat → Option Nat) (i at_ : Nat) (x : Int) : Bool :=
  if x = -1 then true else if (m x.toNat).getD 0 = i then decide (fIdx (fun y => y == x) (ofN (ps.getD i Ps.none).nodes) < at_)
  else decide ((m x.toNat).getD 0 < i) && ((resP (ps.getD ((m x.toNat).getD 0) Ps.none) : Int) == x)
def nodeB (nds : List Nd) (ps : List Ps) (m : Nat → Option Nat) (i at_ : Nat) : Bool := (nds.getD ((ps.getD i Ps.none).nodes.getD at_ 0) Nd.none).ins.all (ahB ps m i at_)
def passB (nds : List Nd) (ps : List Ps) (m : Nat → Option Nat) (i : Nat) : Bool :=
  (!(decide (1 < (ps.getD i Ps.none).nodes.length) && !byP nds (ps.getD i Ps.none))) && (List.range (ps.getD i Ps.none).nodes.length).all (nodeB nds ps m i)
def ck2 (nds : List Nd) (ps : List Ps) : Bool := (List.range ps.length).all (passB nds ps (mapOf (prs ps 0)))
/-! ### rule 3: what is read, until when -/
noncomputable def ck3 (nds : List Nd) (out : Int) (ps : List Ps) : Bool :=
  (List.range ps.length).all fun i => decide ((ps.getD i Ps.none).reads = rdS nds (ofN (ps.getD i Ps.none).nodes)) && decide ((ps.getD i Ps.none).last = unA ((ps.map fun p => ofN p.nodes).map (rdS nds)) (ps.map fun p => ofN p.nodes) out i)
/-! ### rule 4: boxes -/
noncomputable def ck4 (nds : List Nd) (out : Int) (want : Rc) (p : Pn) : Bool :=
  (p.ps.all fun x => wiR (bxN nds want out (resP x)) x.box) && wiR (allN nds want out).2 p.src
/-! ### rule 5: slots -/
def shB (nds : List Nd) (al : Bool) (a b : Ps) (k : Nat) : Bool :=
  al && (decide (szP a = szP b) && (decide (a.last < k) || (decide (a.last = k) && (rcEq a.box b.box && (b.reads.contains (resP a : Int) && byP nds b)))))
def slotB (nds : List Nd) (al : Bool) (p : Pn) (k : Nat) : Bool :=
  if szP (p.ps.getD k Ps.none) = 0 then decide ((p.ps.getD k Ps.none).slot = -1)
  else decide (0 ≤ (p.ps.getD k Ps.none).slot) && (decide ((p.ps.getD k Ps.none).slot < p.sn) && (List.range k).all fun i => !decide ((p.ps.getD i Ps.none).slot = (p.ps.getD k Ps.none).slot) || shB nds al (p.ps.getD i Ps.none) (p.ps.getD k Ps.none) k)
def ck5 (nds : List Nd) (al : Bool) (p : Pn) : Bool := (List.range p.ps.length).all (slotB nds al p)
/-! ### rule 6: the peak -/
def owK (ps : List Ps) : Nat → Nat → Option Nat
  | 0 => fun _ => none
  | k + 1 => fun r => if 0 ≤ (ps.getD k Ps.none).slot ∧ (ps.getD k Ps.none).slot.toNat = r then some k else owK ps k r
def cnt (al : Bool) (ps : List Ps) (k i : Nat) : Int := if al = false ∨ (k : Int) ≤ (ps.getD i Ps.none).last then szP (ps.getD i Ps.none) else 0
def useK (al : Bool) (ps : List Ps) (N k : Nat) : Int := sumI ((List.range N).map fun r => match owK ps (k + 1) r with | some i => cnt al ps k i | none => 0)
def mostK (al : Bool) (ps : List Ps) (N : Nat) : Nat → Int
  | 0 => 0
  | k + 1 => max (mostK al ps N k) (useK al ps N k)
def ck6 (al : Bool) (N : Nat) (p : Pn) : Bool := decide (mostK al p.ps N p.ps.length = p.pk)
noncomputable def chkP (nds : List Nd) (out : Int) (want : Rc) (c : Cf) (p : Pn) : Bool := ck1 nds out p.ps && (ck2 nds p.ps && (ck3 nds out p.ps && (ck4 nds out want p && (ck5 nds c.al p && ck6 c.al p.sn.toNat p))))
end Go.Proofs.YtaoamkbcegadcaaGreatDoor
/- Layer 20: plain laws: spoilt plans aren't right. -/
namespace Go.Proofs.YtaoamkbcegadcaaGreatDoor
open Go.RowKit Go.Bx Go.Od Go.Hp
set_option linter.unusedVariables false

/-! ### the peak -/
structure OwI (al : Bool) (ps0 ps : List Ps) (k t : Nat) (sl : List (Int × Int)) : Prop where
  has : ∀ r,r < sl.length → ∃ i,i < k ∧ owK ps k r = some i ∧ (sl.getD r (0,0)).1 = szP (ps0.getD i Ps.none) ∧ (sl.getD r (0,0)).2 = if al = false ∨ (t : Int) ≤ (ps0.getD i Ps.none).last then (i : Int) else -1
  no : ∀ r,sl.length ≤ r → owK ps k r = none
theorem stepA_slot {nds : List Nd} {c : Cf} {s : St} {at_ i : Nat} (h : i ≠ at_) : ((stepA nds c s at_).ps.getD i Ps.none).slot = (s.ps.getD i Ps.none).slot := by
  rw [stepA_eq]
  unfold psM
  dsimp only
  split
  · rw [set_ne h]
  · rfl
theorem stN_slot {nds : List Nd} {c : Cf} {ps : List Ps} {i : Nat} : ∀ {k m : Nat},i < k → k ≤ m → ((stN nds c ps m).ps.getD i Ps.none).slot = ((stN nds c ps k).ps.getD i Ps.none).slot
  | k,0,h1,h2 => by omega
  | k,m + 1,h1,h2 => by
    by_cases e : k = m + 1
    · rw [e]
    · rw [stN_succ,stepA_slot (by omega)]
      exact stN_slot h1 (by omega)
theorem sum_range {f : Nat → Int} : ∀ {n m : Nat},n ≤ m → (∀ r,n ≤ r → r < m → f r = 0) → sumI ((List.range m).map f) = sumI ((List.range n).map f)
  | n,0,h,_ => by rw [show n = 0 by omega]
  | n,m + 1,h,h0 => by
    by_cases e : n = m + 1
    · rw [e]
    · rw [List.range_succ,List.map_append,sumI_app,sum_range (n := n) (m := m) (by omega) fun r h1 h2 => h0 r h1 (by omega)]
      simp [sumI,h0 m (by omega) (by omega)]
theorem usedS_sum : ∀ sl : List (Int × Int),usedS sl = sumI ((List.range sl.length).map fun r => if 0 ≤ (sl.getD r (0,0)).2 then (sl.getD r (0,0)).1 else 0)
  | [] => rfl
  | s :: l => by
    rw [List.length_cons,List.range_succ_eq_map,List.map_cons,List.map_map]
    unfold usedS sumI
    rw [usedS_sum l]
    simp [Function.comp_def]
section
variable {nds : List Nd} {c : Cf} {ps0 : List Ps}
theorem OwI.mid {P : List Ps} {k : Nat} {s : St} (ho : OwI c.al ps0 P k k s.sl) (hk : Alk ps0 s.ps) (hkn : k < ps0.length) (hlate : (s.ps.getD k Ps.none).slot = -1) (hlast : (k : Int) < (ps0.getD k Ps.none).last)
    (hP : (P.getD k Ps.none).slot = ((psM nds c s k).getD k Ps.none).slot) : OwI c.al ps0 P (k + 1) k (slM nds c s k) := by
  have hsz := hk.szP k
  have hklen : k < s.ps.length := by rw [hk.1]; exact hkn
  by_cases hp : 0 < szP (s.ps.getD k Ps.none)
  · -- the slot f
    have hfs : ∃ (f : Nat) (sl2 : List (Int × Int)),findS nds c s.ps k s.sl = ((f : Int),sl2) ∧ f < sl2.length ∧ s.sl.length ≤ sl2.length ∧ (sl2.length = s.sl.length ∨ (f = s.sl.length ∧ sl2.length = f + 1)) ∧ (∀ j,j < s.sl.length → sl2.getD j (0,0) = s.sl.getD j (0,0)) ∧ (sl2.getD f (0,0)).1 = szP (ps0.getD k Ps.none) := by
      rcases findS_cases nds c s.ps k s.sl with ⟨f,hf,e,_,hi⟩ | ⟨f,hf,e,_,hi⟩ | e
      · refine ⟨f,s.sl,e,hf,Nat.le_refl _,.inl rfl,fun j _ => rfl,?_⟩
        obtain ⟨i,hi1,hi2,hi3,hi4⟩ := ho.has f hf
        unfold inpl at hi
        by_cases hneg : (s.sl.getD f (0,0)).2 < 0
        · rw [if_pos hneg] at hi; cases hi
        · rw [if_neg hneg] at hi
          simp only [Bool.and_eq_true,decide_eq_true_eq] at hi
          have h2 := hi.2.1
          rw [rcEq_iff,hk.box,hk.box] at h2
          have : (s.sl.getD f (0,0)).2.toNat = i := by
            rw [hi4] at hneg ⊢
            split
            · simp
            · rename_i h; rw [if_neg h] at hneg; omega
          rw [this] at h2
          rw [hi3]
          unfold szP
          rw [h2]
      · refine ⟨f,s.sl,e,hf,Nat.le_refl _,.inl rfl,fun j _ => rfl,?_⟩
        unfold free at hi
        rw [Bool.and_eq_true,decide_eq_true_eq,decide_eq_true_eq] at hi
        rw [hi.2,hsz]
      · refine ⟨s.sl.length,_,e,by simp,by simp,.inr ⟨rfl,by simp⟩,fun j hj => by simp [List.getElem?_append_left hj],?_⟩
        have : (s.sl ++ [(szP (s.ps.getD k Ps.none),(0 : Int))]).getD s.sl.length (0,0) = (szP (s.ps.getD k Ps.none),0) := by simp
        rw [this]
        exact hsz
    obtain ⟨f,sl2,e,hf,hle,hmx,hsl,hfz⟩ := hfs
    have hps : psM nds c s k = s.ps.set k { s.ps.getD k Ps.none with slot := (f : Int) } := by unfold psM; rw [if_pos hp,e]
    have hsm : slM nds c s k = sl2.set f ((sl2.getD f (0,0)).1,(k : Int)) := by unfold slM; rw [if_pos hp,e]; simp only [Int.toNat_natCast]
    have hPk : (P.getD k Ps.none).slot = f := by rw [hP,hps,set_at hklen]
    have hlen : (slM nds c s k).length = sl2.length := by rw [hsm,List.length_set]
    have hnew : ∀ r,owK P (k + 1) r = if r = f then some k else owK P k r := fun r => by
      show (if 0 ≤ (P.getD k Ps.none).slot ∧ (P.getD k Ps.none).slot.toNat = r then some k else owK P k r) = _
      rw [hPk,Int.toNat_natCast]
      by_cases e : f = r
      · rw [if_pos ⟨by omega,e⟩,if_pos e.symm]
      · rw [if_neg (fun h => e h.2),if_neg (Ne.symm e)]
    refine ⟨fun r hr => ?_,fun r hr => ?_⟩
    · by_cases er : r = f
      · subst er
        refine ⟨k,Nat.lt_succ_self k,by rw [hnew,if_pos rfl],?_,?_⟩
        · rw [hsm]
          simp only [List.getD_eq_getElem?_getD,List.getElem?_set_self hf,Option.getD_some]
          rw [← List.getD_eq_getElem?_getD]
          exact hfz
        · rw [if_pos (.inr (by omega)),hsm]
          simp [hf]
      · have hrs : r < s.sl.length := by rw [hlen] at hr; omega
        obtain ⟨i,h1,h2,h3,h4⟩ := ho.has r hrs
        refine ⟨i,by omega,by rw [hnew,if_neg er]; exact h2,?_,?_⟩
        · rw [hsm,slset_ne er,hsl r hrs]; exact h3
        · rw [hsm,slset_ne er,hsl r hrs]; exact h4
    · rw [hlen] at hr
      rw [hnew,if_neg (by omega)]
      exact ho.no r (by omega)
  · have hps : psM nds c s k = s.ps := by unfold psM; rw [if_neg hp]
    have hsm : slM nds c s k = s.sl := by unfold slM; rw [if_neg hp]
    have hPk : (P.getD k Ps.none).slot = -1 := by rw [hP,hps,hlate]
    have hnew : ∀ r,owK P (k + 1) r = owK P k r := fun r => by
      show (if 0 ≤ (P.getD k Ps.none).slot ∧ (P.getD k Ps.none).slot.toNat = r then some k else owK P k r) = _
      rw [hPk,if_neg (fun h => by omega)]
    rw [hsm]
    refine ⟨fun r hr => ?_,fun r hr => by rw [hnew]; exact ho.no r hr⟩
    obtain ⟨i,h1,h2,h3,h4⟩ := ho.has r hr
    exact ⟨i,by omega,by rw [hnew]; exact h2,h3,h4⟩
theorem OwI.use {al : Bool} {P : List Ps} {k N : Nat} {sl : List (Int × Int)} (ho : OwI al ps0 P (k + 1) k sl) (hk : Alk ps0 P) (hN : sl.length ≤ N) : useK al P N k = usedS sl := by
  unfold useK
  rw [usedS_sum,sum_range hN fun r h1 h2 => by rw [ho.no r h1]]
  congr 1
  refine List.map_congr_left fun r hr => ?_
  obtain ⟨i,h1,h2,h3,h4⟩ := ho.has r (List.mem_range.1 hr)
  rw [h2,h3,h4]
  unfold cnt
  dsimp only
  rw [hk.last,hk.szP]
  split <;> simp
theorem OwI.next {P : List Ps} {k : Nat} {s : St} (ho : OwI c.al ps0 P (k + 1) k (slM nds c s k)) (hk : Alk ps0 (psM nds c s k)) : OwI c.al ps0 P (k + 1) (k + 1) (stepA nds c s k).sl := by
  rw [stepA_eq]
  dsimp only
  by_cases hal : c.al = true
  · rw [if_pos hal]
    refine ⟨fun r hr => ?_,fun r hr => ho.no r (by rw [relS_len] at hr; exact hr)⟩
    rw [relS_len] at hr
    obtain ⟨i,h1,h2,h3,h4⟩ := ho.has r hr
    refine ⟨i,h1,h2,?_,?_⟩
    · rw [relS_get _ _ _ hr]
      split
      · exact h3
      · exact h3
    · have hf : ¬ c.al = false := by rw [hal]; simp
      by_cases hl : (k : Int) ≤ (ps0.getD i Ps.none).last
      · have h5 : ((slM nds c s k).getD r (0,0)).2 = (i : Int) := by rw [h4,if_pos (.inr hl)]
        rw [relS_get _ _ _ hr]
        unfold dies
        rw [h5,Int.toNat_natCast,hk.last]
        by_cases hl2 : (ps0.getD i Ps.none).last = k
        · rw [decide_eq_true hl2,decide_eq_true (show (0 : Int) ≤ (i : Int) by omega),Bool.and_true,if_pos rfl,if_neg (fun h => h.elim hf fun h => by omega)]
        · rw [decide_eq_false hl2,Bool.and_false,if_neg (by simp),h5,if_pos (.inr (by omega))]
      · have h5 : ((slM nds c s k).getD r (0,0)).2 = -1 := by rw [h4,if_neg (fun h => h.elim hf hl)]
        rw [relS_get _ _ _ hr]
        unfold dies
        rw [h5,show decide (0 ≤ (-1 : Int)) = false from rfl,Bool.false_and,if_neg (by simp),h5,if_neg (fun h => h.elim hf fun h => by omega)]
  · rw [if_neg hal]
    have hf : c.al = false := by simpa using hal
    refine ⟨fun r hr => ?_,ho.no⟩
    obtain ⟨i,h1,h2,h3,h4⟩ := ho.has r hr
    refine ⟨i,h1,h2,h3,?_⟩
    rw [h4,if_pos (.inl hf),if_pos (.inl hf)]
end
theorem stN_late {nds : List Nd} {c : Cf} {ps : List Ps} {i : Nat} : ∀ {k : Nat},k ≤ i → ((stN nds c ps k).ps.getD i Ps.none).slot = (ps.getD i Ps.none).slot
  | 0,_ => rfl
  | k + 1,h => by
    rw [stN_succ,stepA_slot (by omega)]
    exact stN_late (by omega)
theorem stN_alk {nds : List Nd} {c : Cf} {ps : List Ps} : ∀ k,Alk ps (stN nds c ps k).ps
  | 0 => Alk.refl _
  | k + 1 => by rw [stN_succ,stepA_eq]; exact psM_alk (stN_alk k)
theorem slM_grow (nds : List Nd) (c : Cf) (s : St) (k : Nat) : s.sl.length ≤ (slM nds c s k).length := by
  unfold slM
  split
  · rw [List.length_set]
    rcases findS_cases nds c s.ps k s.sl with ⟨f,hf,e,_⟩ | ⟨f,hf,e,_⟩ | e
    · rw [e]; exact Nat.le_refl _
    · rw [e]; exact Nat.le_refl _
    · rw [e]; simp
  · exact Nat.le_refl _
theorem stepA_len (nds : List Nd) (c : Cf) (s : St) (k : Nat) : (stepA nds c s k).sl.length = (slM nds c s k).length := by
  rw [stepA_eq]
  dsimp only
  split
  · rw [relS_len]
  · rfl
theorem stN_grow {nds : List Nd} {c : Cf} {ps : List Ps} {k : Nat} : ∀ {m : Nat},k ≤ m → (stN nds c ps k).sl.length ≤ (stN nds c ps m).sl.length
  | 0,h => by rw [show k = 0 by omega]; exact Nat.le_refl _
  | m + 1,h => by
    by_cases e : k = m + 1
    · rw [e]; exact Nat.le_refl _
    · have h1 := stN_grow (nds := nds) (c := c) (ps := ps) (k := k) (m := m) (by omega)
      have h2 := slM_grow nds c (stN nds c ps m) m
      rw [stN_succ,stepA_len]
      omega
theorem asg_stN (nds : List Nd) (c : Cf) (ps : List Ps) : asg nds c ps = stN nds c ps ps.length := rfl
theorem most_asg (nds : List Nd) (c : Cf) (ps : List Ps) (hl : ∀ i,i < ps.length → (i : Int) < (ps.getD i Ps.none).last) (hs : ∀ i,i < ps.length → (ps.getD i Ps.none).slot = -1) : mostK c.al (asg nds c ps).ps (asg nds c ps).sl.length ps.length = (asg nds c ps).pk := by
  rw [asg_stN]
  have hA := stN_alk (nds := nds) (c := c) (ps := ps) ps.length
  have key : ∀ k,k ≤ ps.length → OwI c.al ps (stN nds c ps ps.length).ps k k (stN nds c ps k).sl ∧ mostK c.al (stN nds c ps ps.length).ps (stN nds c ps ps.length).sl.length k = (stN nds c ps k).pk := by
    intro k
    induction k with
    | zero => exact fun _ => ⟨⟨fun r hr => by simp [stN] at hr,fun r _ => rfl⟩,rfl⟩
    | succ k ih =>
      intro hk
      obtain ⟨h1,h2⟩ := ih (by omega)
      have hmid := h1.mid (nds := nds) (s := stN nds c ps k) (stN_alk k) (by omega) (by rw [stN_late (Nat.le_refl _)]; exact hs k (by omega)) (hl k (by omega)) (by
        rw [stN_slot (k := k + 1) (Nat.lt_succ_self k) hk,stN_succ,stepA_eq])
      have hgr : (slM nds c (stN nds c ps k) k).length ≤ (stN nds c ps ps.length).sl.length := by
        rw [← stepA_len,← stN_succ]
        exact stN_grow hk
      have huse := hmid.use hA hgr
      refine ⟨?_,?_⟩
      · rw [stN_succ]
        exact hmid.next (psM_alk (stN_alk k))
      · show max (mostK c.al _ _ k) (useK c.al _ _ k) = _
        rw [h2,huse,stN_succ,stepA_eq]
  exact (key ps.length (Nat.le_refl _)).2
/-! ### spoilt plans -/
variable {nds : List Nd} {out : Int} {want : Rc}
theorem less_false (h : PlOk nds out want) {c : Cf} {src : Rc} : ck6 c.al (plS nds out c want).sl.length ⟨(plS nds out c want).ps,src,(plS nds out c want).sl.length,(plS nds out c want).pk - 1⟩ = false := by
  have hm := most_asg nds c (pss nds out c want) (fun i hi => by
    rw [pss_len] at hi
    rw [(pss_all (want := want) hi).2.1]
    exact (h.sg.uN_gt hi).1) (fun i hi => by
    rw [pss_len] at hi
    exact (pss_all (want := want) hi).1)
  unfold ck6
  refine decide_eq_false ?_
  dsimp only
  have hl : (plS nds out c want).ps.length = (pss nds out c want).length := (stN_alk (nds := nds) (c := c) (ps := pss nds out c want) _).1
  rw [hl]
  intro e
  have hm2 : mostK c.al (plS nds out c want).ps (plS nds out c want).sl.length (pss nds out c want).length = (plS nds out c want).pk := hm
  omega
theorem plS_node (h : PlOk nds out want) {c : Cf} {i : Nat} : ((plS nds out c want).ps.getD i Ps.none).nodes = if i < (grp nds out c.fuse).length then (grp nds out c.fuse).getD i [] else [] := by
  have ha : Alk (pss nds out c want) (plS nds out c want).ps := stN_alk _
  rw [ha.nodes]
  split
  · rename_i hi
    rw [(pss_all (want := want) hi).2.2.1]
  · rename_i hi
    have : (pss nds out c want).getD i Ps.none = Ps.none := by
      have hl : (pss nds out c want).length = (grp nds out c.fuse).length := pss_len
      simp [show ¬ i < (pss nds out c want).length by omega]
    rw [this]
    rfl
theorem plS_one (h : PlOk nds out want) {c : Cf} {i x : Nat} (hi : i < (plS nds out c want).ps.length) (hx : x ∈ ((plS nds out c want).ps.getD i Ps.none).nodes) : ned (insOf nds) out x = true ∧ x < nds.length ∧ ∀ j,j < (plS nds out c want).ps.length → x ∈ ((plS nds out c want).ps.getD j Ps.none).nodes → j = i := by
  have hl : (plS nds out c want).ps.length = (grp nds out c.fuse).length := by
    have ha : Alk (pss nds out c want) (plS nds out c want).ps := stN_alk _
    rw [ha.1,pss_len]
  rw [hl] at hi
  rw [plS_node h,if_pos hi] at hx
  refine ⟨h.sg.toGood.needs hi hx,h.sg.toGood.w_lt hi hx,fun j hj hxj => ?_⟩
  rw [hl] at hj
  rw [plS_node h,if_pos hj] at hxj
  exact h.sg.toGood.one hj hi hxj hx
theorem plS_first (h : PlOk nds out want) {c : Cf} {i : Nat} (hi : i < (plS nds out c want).ps.length) : ∃ x,x ∈ ((plS nds out c want).ps.getD i Ps.none).nodes := by
  have ha : Alk (pss nds out c want) (plS nds out c want).ps := stN_alk _
  have hp := POk.alk ha (pss_ok h) _ (getD_mem Ps.none hi)
  obtain ⟨x,hx⟩ := List.exists_mem_of_length_pos hp.1
  exact ⟨x,hx⟩
theorem out_false (h : PlOk nds out want) {c : Cf} {k : Nat} (hk : k < (plS nds out c want).ps.length) : ck1 nds out ((plS nds out c want).ps.take k ++ (plS nds out c want).ps.drop (k + 1)) = false := by
  obtain ⟨x,hx⟩ := plS_first h hk
  obtain ⟨h1,h2,h3⟩ := plS_one h hk hx
  rw [Bool.eq_false_iff]
  intro hc
  unfold ck1 at hc
  rw [Bool.and_eq_true,List.all_eq_true] at hc
  have := hc.2 x (List.mem_range.2 h2)
  rw [h1,Bool.not_true,Bool.false_or,List.any_eq_true] at this
  obtain ⟨y,hy,he⟩ := this
  have he : y.2 = x := by simpa using he
  rw [prs_app,List.mem_append] at hy
  rcases hy with hy | hy
  · obtain ⟨j,hj,_,hm⟩ := prs_mem.1 hy
    rw [List.length_take] at hj
    rw [he] at hm
    have e : ((plS nds out c want).ps.take k).getD j Ps.none = (plS nds out c want).ps.getD j Ps.none := by
      simp [List.getElem?_take,show j < k by omega]
    rw [e] at hm
    have := h3 j (by omega) hm
    omega
  · obtain ⟨j,hj,_,hm⟩ := prs_mem.1 hy
    rw [List.length_drop] at hj
    rw [he] at hm
    have e : ((plS nds out c want).ps.drop (k + 1)).getD j Ps.none = (plS nds out c want).ps.getD (k + 1 + j) Ps.none := by
      simp [List.getElem?_drop]
    rw [e] at hm
    have := h3 (k + 1 + j) (by omega) hm
    omega
theorem twice_false (h : PlOk nds out want) {c : Cf} {k : Nat} (hk : k < (plS nds out c want).ps.length) : ck1 nds out ((plS nds out c want).ps ++ [(plS nds out c want).ps.getD k Ps.none]) = false := by
  obtain ⟨x,hx⟩ := plS_first h hk
  rw [Bool.eq_false_iff]
  intro hc
  unfold ck1 at hc
  rw [Bool.and_eq_true,R1_iff] at hc
  have hn := hc.1.1
  rw [prs_snd,List.flatMap_append,List.nodup_append] at hn
  refine hn.2.2 x ?_ x ?_ rfl
  · exact List.mem_flatMap.2 ⟨_,getD_mem Ps.none hk,hx⟩
  · simpa using hx
theorem same_false (h : PlOk nds out want) {c : Cf} {src : Rc} {sn pk : Int} {i k : Nat} (hik : i < k) (hk : k < (plS nds out c want).ps.length) (hl : (k : Int) < ((plS nds out c want).ps.getD i Ps.none).last) (hs : 0 ≤ ((plS nds out c want).ps.getD k Ps.none).slot) (hsz : szP ((plS nds out c want).ps.getD k Ps.none) ≠ 0) :
    ck5 nds c.al ⟨(plS nds out c want).ps.set k { (plS nds out c want).ps.getD k Ps.none with slot := ((plS nds out c want).ps.getD i Ps.none).slot },src,sn,pk⟩ = false := by
  rw [Bool.eq_false_iff]
  intro hc
  unfold ck5 at hc
  rw [List.all_eq_true] at hc
  have h1 := hc k (List.mem_range.2 (by dsimp only; rw [List.length_set]; exact hk))
  unfold slotB at h1
  dsimp only at h1
  rw [set_at hk] at h1
  have hz : szP { (plS nds out c want).ps.getD k Ps.none with slot := ((plS nds out c want).ps.getD i Ps.none).slot } = szP ((plS nds out c want).ps.getD k Ps.none) := rfl
  rw [hz,if_neg hsz,Bool.and_eq_true,Bool.and_eq_true,List.all_eq_true] at h1
  have h2 := h1.2.2 i (List.mem_range.2 hik)
  rw [set_ne (by omega)] at h2
  dsimp only at h2
  rw [decide_eq_true rfl,Bool.not_true,Bool.false_or] at h2
  unfold shB at h2
  rw [decide_eq_false (show ¬ ((plS nds out c want).ps.getD i Ps.none).last < (k : Int) by omega),decide_eq_false (show ¬ ((plS nds out c want).ps.getD i Ps.none).last = (k : Int) by omega)] at h2
  simp at h2
end Go.Proofs.YtaoamkbcegadcaaGreatDoor
/- Layer 20: a plan handed in, a prover in memory. -/
namespace Go.Proofs.YtaoamkbcegadcaaGreatDoor
open Go.RowKit Go.Bx Go.Od Go.Hp
attribute [local go_sem ↓] Go.wp_at_zero Go.wp_at_succ
set_option linter.unusedVariables false

def RPass : Rep Ps := fun F w cs x => ∃ a b,cs = [a,b,.int .i64 x.box.x0,.int .i64 x.box.y0,.int .i64 x.box.x1,.int .i64 x.box.y1,.int .i64 x.slot,.int .i64 x.last] ∧ SlOf RInt 1 F w a (ofN x.nodes) ∧ SlOf RInt 1 F w b x.reads
theorem RPass.ok : RPass.Ok :=
  ⟨fun _ _ _ _ _ hs ⟨a,b,h1,h3,h4⟩ => ⟨a,b,h1,h3.same RInt.ok hs,h4.same RInt.ok hs⟩,fun _ _ _ _ _ hg ⟨a,b,h1,h3,h4⟩ => ⟨a,b,h1,h3.mono RInt.ok hg,h4.mono RInt.ok hg⟩⟩
def Gp (B : Nat) (w : World) (v : Value) (ps : List Ps) : Prop := SlOf RPass 8 (· < B) w v ps
theorem Gp.same {B : Nat} {w w' : World} {v : Value} {ps : List Ps} (h : Gp B w v ps) (hs : Same (· < B) w w') : Gp B w' v ps := SlOf.same RPass.ok hs h
theorem Gp.below {B C : Nat} {w w' : World} {v : Value} {ps : List Ps} (h : Gp B w v ps) (hb : Below C w w') (hC : B ≤ C) : Gp B w' v ps := h.same fun b hbl => hb.block b (by have : b < B := hbl; omega)
theorem Gp.mono {B C : Nat} {w : World} {v : Value} {ps : List Ps} (h : Gp B w v ps) (hC : B ≤ C) : Gp C w v ps := SlOf.mono RPass.ok (fun b hb => by have : b < B := hb; show b < C; omega) h
theorem Gp.isSl {B : Nat} {w : World} {v : Value} {ps : List Ps} (h : Gp B w v ps) : ∃ a cap,v = .slice a ps.length cap := by
  obtain ⟨a,cap,hv,_⟩ := h
  exact ⟨a,cap,hv⟩
theorem Gp.at {B : Nat} {w : World} {a : Option Addr} {n c : Nat} {ps : List Ps} (h : Gp B w (.slice a n c) ps) {i : Nat} (hi : i < ps.length) {p : Ps} (hp : p = ps.getD i Ps.none) : ∃ b o na nc ra rc,a = some ⟨b,o,none⟩ ∧ b < B ∧
    PC w b (o + i * 8) (.slice na p.nodes.length nc) (.slice ra p.reads.length rc) p ∧ SlOf RInt 1 (· < B) w (.slice na p.nodes.length nc) (ofN p.nodes) ∧ SlOf RInt 1 (· < B) w (.slice ra p.reads.length rc) p.reads := by
  obtain ⟨a',cap,hv,h1,h2,h3⟩ := h
  simp only [Value.slice.injEq] at hv
  obtain ⟨rfl,_,_⟩ := hv
  rcases h3 with h3 | ⟨b,o,rfl,hF,h3⟩
  · subst h3; simp at hi
  · obtain ⟨cs,hl,hc,sa,sb,rfl,s1,s2⟩ := h3 i ps[i] (List.getElem?_eq_getElem hi)
    have e : p = ps[i] := by rw [hp]; simp [hi]
    rw [← e] at hc s1 s2
    have k0 := hc 0 _ rfl
    have k1 := hc 1 _ rfl
    have k2 := hc 2 _ rfl
    have k3 := hc 3 _ rfl
    have k4 := hc 4 _ rfl
    have k5 := hc 5 _ rfl
    have k6 := hc 6 _ rfl
    have k7 := hc 7 _ rfl
    obtain ⟨ia,ic,rfl,t⟩ := s1
    obtain ⟨pa,pc,rfl,t'⟩ := s2
    rw [ofN_len] at k0
    have t2 : SlOf RInt 1 (· < B) w (.slice ia p.nodes.length ic) (ofN p.nodes) := by
      refine ⟨ia,ic,by rw [ofN_len],t⟩
    exact ⟨b,o,ia,ic,pa,pc,rfl,hF,⟨by simpa using k0,by simpa using k1,by simpa using k2,by simpa using k3,by simpa using k4,by simpa using k5,by simpa using k6,by simpa using k7⟩,t2,⟨pa,pc,rfl,t'⟩⟩
theorem PR.gp {B : Nat} {pl : List (Value × Value × Ps)} {pv : Value} {W : World} (h : PR B pl pv W) (hok : ∀ x ∈ psl pl,POk x) : Gp W.heap.size W pv (psl pl) := by
  rcases h.1.2 with ⟨rfl,h0⟩ | ⟨g,cap,cur,rfl,hB,hb,hnc,hcm,_⟩
  · have : pl = [] := List.eq_nil_of_length_eq_zero h0
    subst this
    exact ⟨none,0,rfl,Nat.le_refl _,by decide,.inl rfl⟩
  · refine ⟨_,cap,by rw [psl_len],by rw [psl_len]; exact hnc,hcm,.inr ⟨g,0,rfl,(Array.getElem?_eq_some_iff.1 hb).1,fun i x hi => ?_⟩⟩
    have hil : i < pl.length := by rw [← psl_len]; exact (List.getElem?_eq_some_iff.1 hi).1
    have hx : x = (psl pl).getD i Ps.none := by simp [hi]
    obtain ⟨g',cap',na,nc,ra,rc,hv,_,hgl,_,_,hpc,o1,o2⟩ := h.at hil hx
    simp only [Value.slice.injEq,Option.some.injEq,Addr.mk.injEq,and_true] at hv
    obtain ⟨rfl,_,_⟩ := hv
    have hokx := hok x (List.mem_of_getElem? hi)
    obtain ⟨c0,c1,c2,c3,c4,c5,c6,c7⟩ := hpc
    refine ⟨[.slice na x.nodes.length nc,.slice ra x.reads.length rc,.int .i64 x.box.x0,.int .i64 x.box.y0,.int .i64 x.box.x1,.int .i64 x.box.y1,.int .i64 x.slot,.int .i64 x.last],rfl,fun j u hu => ?_,_,_,rfl,own_sl_int o1 hokx.2.1,own_sl_x o2 hokx.2.2.1⟩
    rw [Nat.zero_add]
    match j,hu with
    | 0,hu => simp at hu; subst hu; exact c0
    | 1,hu => simp at hu; subst hu; exact c1
    | 2,hu => simp at hu; subst hu; exact c2
    | 3,hu => simp at hu; subst hu; exact c3
    | 4,hu => simp at hu; subst hu; exact c4
    | 5,hu => simp at hu; subst hu; exact c5
    | 6,hu => simp at hu; subst hu; exact c6
    | 7,hu => simp at hu; subst hu; exact c7
    | j + 8,hu => simp at hu
def qcl (nv : Value) (out : Int) (want : Rc) (c : Cf) (pv : Value) (src : Rc) (sn pk : Int) (mb : Nat) : List Value :=
  [nv,.int .i64 out,.int .i64 want.x0,.int .i64 want.y0,.int .i64 want.x1,.int .i64 want.y1,.bool c.fuse,.bool c.al,.bool c.roi,.bool c.dam,.int .i64 c.room,pv,.int .i64 src.x0,.int .i64 src.y0,.int .i64 src.x1,.int .i64 src.y1,.int .i64 sn,.int .i64 pk,.map (some mb)]
end Go.Proofs.YtaoamkbcegadcaaGreatDoor
/- Layer 20: a prover in memory; a pass's last node and size, whether it goes point by point. -/
namespace Go.Proofs.YtaoamkbcegadcaaGreatDoor
open Go.RowKit Go.Bx Go.Od Go.Hp
attribute [local go_sem ↓] Go.wp_at_zero Go.wp_at_succ
set_option linter.unusedVariables false

structure KpX (n m : Nat) (w w' : World) : Prop where
  os : w'.os = w.os
  tape : w'.tape = w.tape
  output : w'.output = w.output
  size : w.heap.size ≤ w'.heap.size
  block : ∀ k,k < n → k ≠ m → w'.heap[k]? = w.heap[k]?
theorem KpX.refl (n m : Nat) (w : World) : KpX n m w w := ⟨rfl,rfl,rfl,Nat.le_refl _,fun _ _ _ => rfl⟩
theorem KpX.trans {n m : Nat} {a b c : World} (h : KpX n m a b) (k : KpX n m b c) : KpX n m a c :=
  ⟨k.os.trans h.os,k.tape.trans h.tape,k.output.trans h.output,Nat.le_trans h.size k.size,fun i hi hn => (k.block i hi hn).trans (h.block i hi hn)⟩
theorem KpX.of {n m : Nat} {w w' : World} (h : Below n w w') : KpX n m w w' := ⟨h.os,h.tape,h.output,h.size,fun k hk _ => h.block k hk⟩
theorem KpX.call {n m : Nat} {a w w' : World} (h : KpX n m a w) (hb : Below w.heap.size w w') (hn : n ≤ w.heap.size) : KpX n m a w' := h.trans (KpX.of (hb.mono hn))
theorem KpX.grown {n m : Nat} {a w w' : World} (h : KpX n m a w) (hg : w.grownBy w' (some m)) (hn : n ≤ w.heap.size) : KpX n m a w' :=
  h.trans ⟨hg.os,hg.tape,hg.output,hg.size,fun k hk hne => hg.block k (by omega) (by simp; exact fun e => hne e)⟩
theorem KpX.below {n m B : Nat} {w w' : World} (h : KpX n m w w') (h1 : B ≤ n) (h2 : B ≤ m) : Below B w w' := ⟨h.os,h.tape,h.output,h.size,fun k hk => h.block k (by omega) (by omega)⟩
structure QM (B q m : Nat) (nv : Value) (nds : List Nd) (out : Int) (want : Rc) (c : Cf) (pv : Value) (p : Pn) (w : World) : Prop where
  box : Box w q (qcl nv out want c pv p.src p.sn p.pk m)
  gr : Gr B w nv nds
  gp : Gp B w pv p.ps
  bq : B ≤ q
  bm : B ≤ m
  ne : q ≠ m
  mlt : m < w.heap.size
theorem QM.call {B q m : Nat} {nv pv : Value} {nds : List Nd} {out : Int} {want : Rc} {c : Cf} {p : Pn} {w w' : World} (h : QM B q m nv nds out want c pv p w) (hb : Below w.heap.size w w') : QM B q m nv nds out want c pv p w' :=
  ⟨h.box.call hb,h.gr.below hb (by have := h.box.lt; have := h.bq; omega),h.gp.below hb (by have := h.box.lt; have := h.bq; omega),h.bq,h.bm,h.ne,Nat.lt_of_lt_of_le h.mlt hb.size⟩
theorem QM.hB {B q m : Nat} {nv pv : Value} {nds : List Nd} {out : Int} {want : Rc} {c : Cf} {p : Pn} {w : World} (h : QM B q m nv nds out want c pv p w) : B ≤ w.heap.size := by
  have := h.box.lt; have := h.bq; omega
theorem QM.kpx {B q m n : Nat} {nv pv : Value} {nds : List Nd} {out : Int} {want : Rc} {c : Cf} {p : Pn} {w w' : World} (h : QM B q m nv nds out want c pv p w) (hk : KpX n m w w') (hn : w.heap.size ≤ n) : QM B q m nv nds out want c pv p w' := by
  have hl := h.box.lt
  have hb : Below B w w' := hk.below (by have := h.hB; omega) h.bm
  exact ⟨h.box.of_block (hk.block q (by omega) h.ne),h.gr.same fun b hbl => hb.block b hbl,h.gp.same fun b hbl => hb.block b hbl,h.bq,h.bm,h.ne,Nat.lt_of_lt_of_le h.mlt hk.size⟩
theorem PC.below {W W' : World} {B g o : Nat} {s t : Value} {p : Ps} (h : PC W g o s t p) (hg : g < B) (hb : Below B W W') : PC W' g o s t p := by
  obtain ⟨h0,h1,h2,h3,h4,h5,h6,h7⟩ := h
  exact ⟨(hb.cell hg).trans h0,(hb.cell hg).trans h1,(hb.cell hg).trans h2,(hb.cell hg).trans h3,(hb.cell hg).trans h4,(hb.cell hg).trans h5,(hb.cell hg).trans h6,(hb.cell hg).trans h7⟩
theorem QM.sl {B q m : Nat} {nv pv : Value} {nds : List Nd} {out : Int} {want : Rc} {c : Cf} {p : Pn} {w : World} (h : QM B q m nv nds out want c pv p w) : ∃ a cap,pv = .slice a p.ps.length cap := h.gp.isSl
set_option maxHeartbeats 1600000 in
theorem qsize_c (na : Option Addr) (nn nc : Nat) (ra : Option Addr) (rn rc : Nat) (p : Ps) (w : World) (hr : RcP p.box) :
    Calls Tryz.prog 41 #[pvl na nn nc ra rn rc p] w (PPost w (.int .i64 (szP p))) := by
  obtain ⟨nodes,reads,⟨x0,y0,x1,y1⟩,sl,la⟩ := p
  have HR : Hid (RcP ⟨x0,y0,x1,y1⟩) := hr
  have hb1 := below_new w (.cells (pcv na nn nc ra rn rc ⟨nodes,reads,⟨x0,y0,x1,y1⟩,sl,la⟩) 37)
  clear hr
  go_enter Tryz.func41,Tryz.ntmps41
  go_wp2_with fail
  refine (area_c ⟨x0,y0,x1,y1⟩ _ HR.out).mono ?_; rintro e w2 ⟨rfl,hb2⟩
  have HB : Hid (Below w.heap.size w w2) := hb1.trans (hb2.mono hb1.size)
  have hbd := areaR_bd _ HR.out
  obtain ⟨a,ha⟩ : ∃ a,a = areaR ⟨x0,y0,x1,y1⟩ := ⟨_,rfl⟩
  have HA : Hid (szP ⟨nodes,reads,⟨x0,y0,x1,y1⟩,sl,la⟩ = sz a) := by
    have : szP ⟨nodes,reads,⟨x0,y0,x1,y1⟩,sl,la⟩ = sz a := by rw [ha]; rfl
    exact this
  rw [← ha] at hbd ⊢
  clear hb1 hb2 ha
  go_wp2_with fail
  refine (psize_c a w2 (by omega) (by omega)).mono ?_; rintro e w3 ⟨rfl,rfl⟩
  go_wp2_with fail
  go_ret
  exact ⟨by rw [HA.out]; rfl,HB.out⟩
set_option maxHeartbeats 1600000 in
theorem qresult_c {F : Nat → Prop} (na : Option Addr) (nn nc : Nat) (ra : Option Addr) (rn rc : Nat) (p : Ps) (w : World) (hn : nn = p.nodes.length) (h0 : 0 < nn) (hs : SlOf RInt 1 F w (.slice na nn nc) (ofN p.nodes)) :
    Calls Tryz.prog 40 #[pvl na nn nc ra rn rc p] w (PPost w (.int .i64 (resP p : Nat))) := by
  obtain ⟨nodes,reads,⟨x0,y0,x1,y1⟩,sl,la⟩ := p
  dsimp only at hn hs
  obtain ⟨m,rfl⟩ : ∃ m,nn = m + 1 := ⟨nn - 1,by omega⟩
  have hle : m + 1 ≤ maxLen := by
    obtain ⟨_,c,hv,h1,h2,_⟩ := hs
    simp only [Value.slice.injEq] at hv
    rw [ofN_len] at h1
    omega
  unfold maxLen at hle
  obtain ⟨b,o,rfl,hc⟩ := sl_lastS hs (by rw [ofN_len]; exact hn.symm)
  rw [lstI_ofN] at hc
  have hb1 := below_new w (.cells (pcv (some ⟨b,o,none⟩) (m + 1) nc ra rn rc ⟨nodes,reads,⟨x0,y0,x1,y1⟩,sl,la⟩) 37)
  have c1 := cell_alloc_lt hc (.cells (pcv (some ⟨b,o,none⟩) (m + 1) nc ra rn rc ⟨nodes,reads,⟨x0,y0,x1,y1⟩,sl,la⟩) 37)
  obtain ⟨z,hz⟩ : ∃ z,z = lastN nodes := ⟨_,rfl⟩
  have HZ : Hid (resP ⟨nodes,reads,⟨x0,y0,x1,y1⟩,sl,la⟩ = z) := by
    have : resP ⟨nodes,reads,⟨x0,y0,x1,y1⟩,sl,la⟩ = z := by rw [hz]; rfl
    exact this
  rw [← hz] at c1
  have HB : Hid _ := hb1
  clear hn hs hc hz hb1 h0
  go_enter Tryz.func40,Tryz.ntmps40
  go_wp2_with fail
  go_ret
  exact ⟨by rw [HZ.out]; rfl,HB.out⟩
set_option maxHeartbeats 1600000 in
theorem qnpt_c (B M mb : Nat) (nv : Value) (nds : List Nd) (k : Nat) (w : World) (hk : k < nds.length) (hm : nds.length ≤ 1000) (h1 : w.cell? ⟨mb,0,none⟩ = some (.pointer (some ⟨M,0,none⟩))) (h2 : w.cell? ⟨M,0,none⟩ = some nv) (hg : Gr B w nv nds) :
    Calls Tryz.prog 60 #[.int .i64 k,.pointer (some ⟨mb,0,none⟩)] w (PPost w (.bool (npt nds k))) := by
  obtain ⟨b,o,cap,ia,ic,pa,pc,rfl,hbB,hcap,hcm,k0,k1,k2,s1,s2⟩ := hg.node hk
  obtain ⟨op,hop⟩ : ∃ op,op = (nds.getD k Nd.none).op := ⟨_,rfl⟩
  rw [← hop] at k0
  have HE : Hid (npt nds k = !byPt op) := by
    have : npt nds k = !byPt op := by unfold npt; rw [Int.toNat_natCast,hop]
    exact this
  have hk0 : (0 : Int) ≤ (k : Int) := by omega
  have hk1 : (k : Int) < (nds.length : Int) := by omega
  clear hg s1 s2 k1 k2 hop hcm
  go_enter Tryz.func60,Tryz.ntmps60
  go_wp2_with fail
  refine (bypoint_c op w).mono ?_; rintro e w2 ⟨rfl,rfl⟩
  go_wp2_with fail
  go_ret
  exact ⟨ret_b HE.out.symm,Below.refl _ _⟩
set_option maxHeartbeats 1600000 in
theorem qbyp_c (B M : Nat) (nv : Value) (nds : List Nd) (na : Option Addr) (nn nc : Nat) (ra : Option Addr) (rn rc : Nat) (p : Ps) (w : World) (hM : M < w.heap.size) (hm : nds.length ≤ 1000) (h2 : w.cell? ⟨M,0,none⟩ = some nv) (hg : Gr B w nv nds) (hB : B ≤ w.heap.size) (hs : SlOf RInt 1 (· < B) w (.slice na nn nc) (ofN p.nodes)) (hk : ∀ k ∈ p.nodes,k < nds.length) :
    Calls Tryz.prog 36 #[.pointer (some ⟨M,0,none⟩),pvl na nn nc ra rn rc p] w (PPost w (.bool (byP nds p))) := by
  have hE := npt_any nds p
  obtain ⟨nodes,reads,⟨x0,y0,x1,y1⟩,sl,la⟩ := p
  have X := Box.new w [.pointer (some ⟨M,0,none⟩)] 53
  have hb1 := below_new w (.cells #[.pointer (some ⟨M,0,none⟩)] 53)
  have X2 := X.alloc (.cells (pcv na nn nc ra rn rc ⟨nodes,reads,⟨x0,y0,x1,y1⟩,sl,la⟩) 37)
  have hb2 := hb1.alloc hb1.size (.cells (pcv na nn nc ra rn rc ⟨nodes,reads,⟨x0,y0,x1,y1⟩,sl,la⟩) 37)
  have hcon := containsI_c (F := (· < B)) 60 #[.pointer (some ⟨w.heap.size,0,none⟩)] (npt nds) (.slice na nn nc) (ofN nodes) ((w.alloc (.cells #[.pointer (some ⟨M,0,none⟩)] 53)).alloc (.cells (pcv na nn nc ra rn rc ⟨nodes,reads,⟨x0,y0,x1,y1⟩,sl,la⟩) 37)) (enters_of Tryz.func60 (by kernel_rfl) rfl) (sl_below hs (hb2.mono hB)) (fun W x hW hx => by
    obtain ⟨k,hkm,rfl⟩ := List.mem_map.1 hx
    have hbw : Below w.heap.size w W := hb2.trans (hW.mono hb2.size)
    exact qnpt_c B M w.heap.size nv nds k W (hk k hkm) hm ((X2.call hW).cell 0 rfl) ((hbw.cell hM).trans h2) (hg.below hbw hB))
  have HB : Hid (Below w.heap.size w ((w.alloc (.cells #[.pointer (some ⟨M,0,none⟩)] 53)).alloc (.cells (pcv na nn nc ra rn rc ⟨nodes,reads,⟨x0,y0,x1,y1⟩,sl,la⟩) 37))) := hb2
  have HC : Hid _ := hcon
  obtain ⟨q,hq⟩ : ∃ q,q = (ofN nodes).any (npt nds) := ⟨_,rfl⟩
  rw [← hq] at hcon
  have HE : Hid ((!q) = byP nds ⟨nodes,reads,⟨x0,y0,x1,y1⟩,sl,la⟩) := by rw [hq]; exact hE
  clear X X2 hb1 hb2 hs hk hg h2 hq hE HC
  go_enter Tryz.func36,Tryz.ntmps36
  go_wp2_with fail
  refine hcon.mono ?_; rintro e w2 ⟨rfl,hb3⟩
  have HE2 : Hid (Below w.heap.size w w2) := HB.out.trans (hb3.mono HB.out.size)
  clear hcon hb3
  go_wp2_with fail
  go_ret
  exact ⟨ret_b HE.out,HE2.out⟩
end Go.Proofs.YtaoamkbcegadcaaGreatDoor
