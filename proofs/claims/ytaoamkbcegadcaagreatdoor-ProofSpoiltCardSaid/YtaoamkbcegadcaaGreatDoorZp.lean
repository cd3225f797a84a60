/- Texts joined: XZp XZr. -/
import Derived.Test.YtaoamkbcegadcaaGreatDoorZo
import Derived.Test.YtaoamkbcegadcaaGreatDoorYn
set_option maxRecDepth 4000
/- Layer 20: the plan of the law's own filter, plainly. -/
namespace Go.Proofs.YtaoamkbcegadcaaGreatDoor
open Go.RowKit Go.Bx Go.Od Go.Hp
set_option linter.unusedVariables false

def c20 : Cf := ⟨false,true,true,false,0⟩
theorem gP3 : grp (ndP 2 [1,1]) 1 false = [[0],[1]] := by
  unfold grp pR jO
  rw [nedP]
  decide
def ps20 : List Ps := [⟨[0],[-1],⟨-1,-1,5,5⟩,0,1⟩,⟨[1],[0],⟨0,0,4,4⟩,1,2⟩]
theorem psP3 : pss (ndP 2 [1,1]) 1 c20 ⟨0,0,4,4⟩ = [⟨[0],[-1],⟨-1,-1,5,5⟩,-1,1⟩,⟨[1],[0],⟨0,0,4,4⟩,-1,2⟩] := by
  have hk := okP1.sg.ok (on := false)
  have e0 : gL (ndP 2 [1,1]) 1 false = [[0],[1]] := by unfold gL; rw [gP3]; rfl
  rw [e0] at hk
  have e1 : rL (ndP 2 [1,1]) 1 false = [[-1],[0]] := by unfold rL; rw [e0,rP _ _ hk]
  unfold pss c20
  dsimp only
  rw [if_pos rfl]
  unfold raws
  rw [gP3]
  unfold rawP uN
  rw [gP3,e1,e0]
  simp only [List.length_cons,List.length_nil,List.range_succ,List.range_zero,List.nil_append,List.map_cons,List.map_nil,List.cons_append,List.getD_cons_zero,List.getD_cons_succ,lastN,List.getLastD_cons,List.getLastD_nil]
  rw [bP1.1,bP1.2]
  rfl
theorem plP3 : (plS (ndP 2 [1,1]) 1 c20 ⟨0,0,4,4⟩).sl.length = 2 ∧ (plS (ndP 2 [1,1]) 1 c20 ⟨0,0,4,4⟩).ps = ps20 ∧ (plS (ndP 2 [1,1]) 1 c20 ⟨0,0,4,4⟩).pk = 80 ∧ srcO (ndP 2 [1,1]) 1 c20 ⟨0,0,4,4⟩ = ⟨-2,-2,6,6⟩ := by
  unfold plS
  rw [psP3]
  refine ⟨?_,?_,?_,?_⟩ <;> rfl
theorem rP3 : rdS (ndP 2 [1,1]) [0] = [-1] ∧ rdS (ndP 2 [1,1]) [1] = [0] := by
  have hk := okP1.sg.ok (on := false)
  have e0 : gL (ndP 2 [1,1]) 1 false = [[0],[1]] := by unfold gL; rw [gP3]; rfl
  rw [e0] at hk
  have h := rP _ _ hk
  simp only [List.map_cons,List.map_nil,List.cons.injEq,and_true] at h
  exact h
theorem chk20 (pk : Int) : chkP (ndP 2 [1,1]) 1 ⟨0,0,4,4⟩ c20 ⟨ps20,⟨-2,-2,6,6⟩,2,pk⟩ = decide (80 = pk) := by
  have h1 : ck1 (ndP 2 [1,1]) 1 ps20 = true := by unfold ck1; rw [nedP]; decide
  have h2 : ck2 (ndP 2 [1,1]) ps20 = true := by decide
  have h3 : ck3 (ndP 2 [1,1]) 1 ps20 = true := by
    unfold ck3
    simp only [ps20,ofN,List.length_cons,List.length_nil,List.range_succ,List.range_zero,List.nil_append,List.map_cons,List.map_nil,List.cons_append,List.getD_cons_zero,List.getD_cons_succ,List.all_cons,List.all_nil,Int.natCast_zero,Int.natCast_one]
    rw [rP3.1,rP3.2]
    decide
  have h4 : ck4 (ndP 2 [1,1]) 1 ⟨0,0,4,4⟩ ⟨ps20,⟨-2,-2,6,6⟩,2,pk⟩ = true := by rfl
  have h5 : ck5 (ndP 2 [1,1]) true ⟨ps20,⟨-2,-2,6,6⟩,2,pk⟩ = true := by
    have h50 : ck5 (ndP 2 [1,1]) true ⟨ps20,⟨-2,-2,6,6⟩,2,0⟩ = true := by decide
    exact h50
  have h6 : ck6 true 2 ⟨ps20,⟨-2,-2,6,6⟩,2,pk⟩ = decide (80 = pk) := by
    have h60 : mostK true ps20 2 2 = 80 := by decide
    unfold ck6
    dsimp only
    rw [show ps20.length = 2 from rfl,h60]
  unfold chkP
  dsimp only [c20]
  rw [h1,h2,h3,h4,h5]
  exact h6
theorem chk20b (pk : Int) : chkP (ndP 2 [1,1]) 1 ⟨0,0,4,4⟩ c20 ⟨ps20.take 1,⟨-2,-2,6,6⟩,2,pk⟩ = false := by
  have h1 : ck1 (ndP 2 [1,1]) 1 (ps20.take 1) = false := by unfold ck1; rw [nedP]; decide
  unfold chkP
  rw [h1]
  rfl
end Go.Proofs.YtaoamkbcegadcaaGreatDoor
/- Layer 20: what plan.Make tells is fit to be gone over; so are its passes put together otherwise. -/
namespace Go.Proofs.YtaoamkbcegadcaaGreatDoor
open Go.RowKit Go.Bx Go.Od Go.Hp
set_option linter.unusedVariables false

structure MkOk (nds : List Nd) (sn : Int) (y : Ps) : Prop where
  ok : POk y
  nodes : ∀ k ∈ y.nodes,k < nds.length
  short : y.nodes.length ≤ nds.length
  slot : y.slot < sn
theorem findS_lt (nds : List Nd) (c : Cf) (ps : List Ps) (at_ : Nat) (sl : List (Int × Int)) : (findS nds c ps at_ sl).1 < (findS nds c ps at_ sl).2.length := by
  rcases findS_cases nds c ps at_ sl with ⟨f,hf,e,_⟩ | ⟨f,hf,e,_⟩ | e
  · rw [e]; dsimp only; omega
  · rw [e]; dsimp only; omega
  · rw [e]; dsimp only; rw [List.length_append]; simp; omega
theorem stN_slots {nds : List Nd} {c : Cf} {ps : List Ps} (h0 : ∀ i,i < ps.length → (ps.getD i Ps.none).slot = -1) : ∀ k,∀ i,i < ps.length → ((stN nds c ps k).ps.getD i Ps.none).slot < ((stN nds c ps k).sl.length : Int)
  | 0,i,hi => by
    have : (stN nds c ps 0).ps = ps := rfl
    rw [this,h0 i hi]
    omega
  | k + 1,i,hi => by
    have ih := stN_slots (nds := nds) (c := c) h0 k i hi
    have hlen : (stN nds c ps k).ps.length = ps.length := (stN_alk (nds := nds) (c := c) k).1
    have hg := slM_grow nds c (stN nds c ps k) k
    rw [stN_succ,stepA_len]
    by_cases e : i = k
    · subst e
      rw [stepA_eq]
      unfold psM slM
      dsimp only
      by_cases hp : 0 < szP ((stN nds c ps i).ps.getD i Ps.none)
      · rw [if_pos hp,if_pos hp,set_at (by omega),List.length_set]
        exact findS_lt _ _ _ _ _
      · rw [if_neg hp,if_neg hp]
        exact ih
    · rw [stepA_slot e]
      omega
section
variable {nds : List Nd} {out : Int} {want : Rc}
theorem grp_lens12 (h : Good nds out) {on : Bool} {i : Nat} (hi : i < (grp nds out on).length) : ((grp nds out on).getD i []).length ≤ nds.length := by
  obtain ⟨h0,l,_,e⟩ := grp_mem.1 (grp_at hi)
  rw [← e]
  refine Nat.le_trans (List.length_filter_le _ _) ?_
  have h2 := ord_len (insOf nds)
  rw [insOf_len] at h2
  exact h2
theorem grp_le12 (h : Good nds out) {on : Bool} : (grp nds out on).length ≤ nds.length := by
  have h1 := gsP_len (pR nds out on) (ord (insOf nds)) (ord (insOf nds)).length
  have h2 := ord_len (insOf nds)
  rw [insOf_len] at h2
  unfold grp
  omega
theorem plS_mk (h : PlOk nds out want) {c : Cf} : ∀ y ∈ (plS nds out c want).ps,MkOk nds (plS nds out c want).sl.length y := fun y hy => by
  have ha : Alk (pss nds out c want) (plS nds out c want).ps := stN_alk _
  obtain ⟨i,hi,rfl⟩ := List.mem_iff_getElem.1 hy
  have e1 : (plS nds out c want).ps[i] = (plS nds out c want).ps.getD i Ps.none := by simp [hi]
  have hpl : (pss nds out c want).length = (grp nds out c.fuse).length := pss_len
  have hig : i < (grp nds out c.fuse).length := by rw [ha.1] at hi; omega
  have hn : ((plS nds out c want).ps.getD i Ps.none).nodes = (grp nds out c.fuse).getD i [] := by rw [plS_node h,if_pos hig]
  refine ⟨POk.alk ha (pss_ok h) _ hy,fun k hk => ?_,?_,?_⟩
  · rw [e1,hn] at hk
    exact h.sg.toGood.w_lt hig hk
  · rw [e1,hn]
    exact grp_lens12 h.sg.toGood hig
  · rw [e1]
    exact stN_slots (nds := nds) (c := c) (ps := pss nds out c want) (fun i hi => (pss_all (nds := nds) (out := out) (want := want) (c := c) (i := i) (by omega)).1) _ i (by omega)
theorem plS_sl (h : PlOk nds out want) {c : Cf} : (plS nds out c want).sl.length ≤ (plS nds out c want).ps.length := by
  have ha : Alk (pss nds out c want) (plS nds out c want).ps := stN_alk _
  have hl : (pss nds out c want).length = (grp nds out c.fuse).length := pss_len
  have h1 := grp_le h.sg.toGood (on := c.fuse)
  have := (stN_ok nds c (pss nds out c want) (by omega) _ (Nat.le_refl _)).len
  rw [ha.1]
  exact this
theorem plS_le (h : PlOk nds out want) {c : Cf} : (plS nds out c want).ps.length ≤ nds.length := by
  have ha : Alk (pss nds out c want) (plS nds out c want).ps := stN_alk _
  have hl : (pss nds out c want).length = (grp nds out c.fuse).length := pss_len
  have := grp_le12 h.sg.toGood (on := c.fuse)
  rw [ha.1,hl]
  exact this
theorem prs_few {N : Nat} : ∀ {L : List Ps} {i : Nat},(∀ y ∈ L,y.nodes.length ≤ N) → (prs L i).length ≤ L.length * N
  | [],_,_ => by simp [prs]
  | y :: L,i,h => by
    rw [prs,List.length_append,List.length_map,List.length_cons,Nat.add_mul]
    have h1 := h y (by simp)
    have h2 := prs_few (L := L) (i := i + 1) (N := N) fun y hy => h y (by simp [hy])
    omega
theorem ChOk.of (h : PlOk nds out want) (h12 : nds.length ≤ 12) {L : List Ps} {src : Rc} {sn pk : Int} (hL : L.length ≤ 14) (hm : ∀ y ∈ L,MkOk nds sn y) (hsn : sn ≤ 1000) : ChOk nds ⟨L,src,sn,pk⟩ := by
  have hp := prs_few (L := L) (i := 0) (N := 12) fun y hy => Nat.le_trans (hm y hy).short h12
  refine ⟨by dsimp only; omega,by dsimp only; omega,fun y hy => (hm y hy).ok,fun y hy => (hm y hy).nodes,⟨by omega,h.sg.few20,h.sg.rng,by rw [grpP_len]; dsimp only; omega,fun g hg => ?_⟩,fun y hy => (hm y hy).slot,hsn⟩
  unfold grpP at hg
  obtain ⟨y,hy,rfl⟩ := List.mem_map.1 hg
  have k := hm y hy
  refine ⟨⟨by rw [ofN_len]; exact k.ok.1,by rw [ofN_len]; have := k.short; omega⟩,fun x hx => ?_⟩
  unfold ofN at hx
  obtain ⟨a,ha,rfl⟩ := List.mem_map.1 hx
  have := k.nodes a ha
  omega
theorem Gp.take {B : Nat} {w : World} {a : Option Addr} {n c : Nat} {ps : List Ps} (h : Gp B w (.slice a n c) ps) {k : Nat} (hk : k ≤ ps.length) : Gp B w (.slice a k c) (ps.take k) := by
  obtain ⟨a',cap,hv,h1,h2,h3⟩ := h
  simp only [Value.slice.injEq] at hv
  obtain ⟨rfl,_,rfl⟩ := hv
  have hl : (ps.take k).length = k := by rw [List.length_take]; omega
  refine ⟨a,c,by rw [hl],by omega,h2,?_⟩
  rcases h3 with rfl | ⟨b,o,hb,hF,h3⟩
  · exact .inl (by simp)
  · refine .inr ⟨b,o,hb,hF,fun i x hi => h3 i x ?_⟩
    rw [List.getElem?_take] at hi
    split at hi
    · exact hi
    · cases hi
end
end Go.Proofs.YtaoamkbcegadcaaGreatDoor
