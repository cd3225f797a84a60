/- Texts joined: Tl Mx Qh Qi. -/
import Derived.Test.YtgodhpampaleeaaGreatDoorM05
import Derived.Test.YtgodhpampaleeaaGreatDoorM10
import Derived.Test.YtgodhpampaleeaaGreatDoorM09
import Derived.Test.YtgodhpampaleeaaGreatDoorM02
import Derived.Test.YtgodhpampaleeaaGreatDoorM06
open Go.Value renaming int→Y
open Go.IntKind renaming i64→X,u8→J
open Nat renaming le_refl→Z,le_trans→O
open List renaming getElem?_eq_getElem→U,getElem?_eq_some_iff→N,getD_eq_getElem?_getD→D,mem_of_getElem?→M,range→z
open Bool renaming and_eq_true→F
open Go.Lib renaming hid→S
set_option maxRecDepth 4000
set_option maxHeartbeats 12800000
set_option linter.unusedVariables false
namespace Go.Bx
open Go.RowKit
section
variable {P:Program} {Q:Exit→Act→World→Prop} {a0:Act} {w0:World} {l:List Oper}
theorem chain_any {k:Nat} (hacyc:∀ i oi,l[i]?=some oi→∀ e∈oi.after,Region.binds .any e=true→e.on<i) (hch:∀ i oi,k<i→l[i]?=some oi→depB oi (i-1)=true):
  ∀ (m i fuel:Nat) (listed:Array Bool) (a:Act) (w:World),k<i→l.length=i+m→m≤fuel→listed.size=l.length→(∀ j,j<i→listed.getD j false=true)→(∀ j,i≤j→listed.getD j false=false)→
   wpList P l.toArray Q (l.drop i) a w→wpAny P .any l.toArray Q fuel listed a w:=by
 intro m
 induction m with
 |zero=>
  intro i fuel listed a w hki hlen hf hsz h1 h2 h;rw [List.drop_eq_nil_of_le (by omega)] at h;exact any_done (ready_nil hsz fun j hj=>h1 j (by omega)) h fuel
 |succ m ih=>
  intro i fuel listed a w hki hlen hf hsz h1 h2 h;obtain ⟨fuel,rfl⟩:∃ f,fuel=f+1:=⟨fuel-1,by omega⟩;have hil:i<l.length:=by omega
  have hgd:∀ j,j<l.length→listed.getD j true=listed.getD j false:=fun j hj=>by
   rw [←hsz] at hj;simp [hj]
  have hset:∀ j,(listed.setIfInBounds i true).getD j false=upd (fun j=>listed.getD j false) i true j:=fun j=>by
   by_cases e:i=j
   ·subst e;have:i<listed.size:=by omega
    simp [this,upd]
   ·rw [getD_set_ne false e];exact (if_neg fun h=>e h.symm).symm
  refine ⟨fun h0=>?_,fun j hj=>?_⟩
  ·exfalso;have:i∈Region.ready .any l.toArray listed:=mem_ready.2 ⟨by rw [hgd i hil];exact h2 i (Z _),l[i],by simp [hil],fun e he hb=>h1 _ (hacyc i l[i] (U hil) e he hb)⟩;rw [h0] at this
   cases this
  ·obtain ⟨hun,o,ho',hdeps⟩:=mem_ready.1 hj;have ho:l[j]?=some o:=by simpa using ho'
   have hjl:j<l.length:=(N.1 ho).1;rw [hgd j hjl] at hun;have hji:j=i:=by
    rcases Nat.lt_trichotomy j i with h|h|h
    ·rw [h1 j h] at hun;cases hun
    ·exact h
    ·have h3:=hch j o (by omega) ho;unfold depB at h3;rw [Array.any_eq_true'] at h3;obtain ⟨e',he,hb⟩:=h3;simp only [F,beq_iff_eq] at hb;have h4:=hdeps e' he hb.1;rw [hb.2,h2 (j-1) (by omega)] at h4;cases h4
   subst hji;have hd:l.drop j=o::l.drop (j+1):=by
    rw [List.drop_eq_getElem_cons hil];rw [U hil] at ho;cases ho
    rfl
   rw [hd] at h;have hK:∀ a w,wpList P l.toArray Q (l.drop (j+1)) a w→wpAny P .any l.toArray Q fuel (listed.setIfInBounds j true) a w:=fun a w h=>ih (j+1) fuel _ a w (by omega) (by omega) (by omega) (by simpa using hsz) (fun i hi=>by
    rw [hset];unfold upd
    split
    ·rfl
    ·exact h1 i (by omega)) (fun i hi=>by
    rw [hset];unfold upd;rw [if_neg (by omega)];exact h2 i (by omega)) h
   unfold wpOp;simp only [ho'];unfold wpList at h
   split
   ·rename_i hw';simp only [hw',if_true] at h;exact h.imp (Oper.wp_mono hK) id
   ·rename_i hw';simp only [hw'] at h;exact hK _ _ h
theorem chain_step {k:Nat} (hacyc:∀ i oi,l[i]?=some oi→∀ e∈oi.after,Region.binds .any e=true→e.on<i) (hch:∀ i oi,k<i→l[i]?=some oi→depB oi (i-1)=true) (i fuel:Nat) (listed:Array Bool) (a:Act) (w:World) {o:Oper} (ho:l[i]?=some o) (hki:k≤i) (hsz:listed.size=l.length)
  (h1:∀ j,j<i→listed.getD j false=true) (h2:∀ j,i≤j→listed.getD j false=false) (hf:l.length-(i+1)≤fuel) (h:wpList P l.toArray Q (l.drop i) a w):wpOp P l.toArray Q i (wpAny P .any l.toArray Q fuel (listed.setIfInBounds i true)) a w:=by
 have hil:i<l.length:=(N.1 ho).1;have hset:∀ j,(listed.setIfInBounds i true).getD j false=upd (fun j=>listed.getD j false) i true j:=fun j=>by
  by_cases e:i=j
  ·subst e;have:i<listed.size:=by omega
   simp [this,upd]
  ·rw [getD_set_ne false e];exact (if_neg fun h=>e h.symm).symm
 have hd:l.drop i=o::l.drop (i+1):=by
  rw [List.drop_eq_getElem_cons hil];rw [U hil] at ho;cases ho
  rfl
 rw [hd] at h;have ho':l.toArray[i]?=some o:=by simpa using ho
 have hK:∀ a w,wpList P l.toArray Q (l.drop (i+1)) a w→wpAny P .any l.toArray Q fuel (listed.setIfInBounds i true) a w:=fun a w h=>chain_any hacyc hch (l.length-(i+1)) (i+1) fuel _ a w (by omega) (by omega) hf (by simpa using hsz) (fun j hj=>by
  rw [hset];unfold upd
  split
  ·rfl
  ·exact h1 j (by omega)) (fun j hj=>by
  rw [hset];unfold upd;rw [if_neg (by omega)];exact h2 j (by omega)) h
 unfold wpOp;simp only [ho'];unfold wpList at h
 split
 ·rename_i hw';simp only [hw',if_true] at h;exact h.imp (Oper.wp_mono hK) id
 ·rename_i hw';simp only [hw'] at h;exact hK _ _ h
theorem tail_any (I:World→Prop) (T:Nat→Value→World→Prop) (k:Nat) (last:Oper) (hl:l[k]?=some last) (hsel:Region.noSelect l.toArray=true)
  (hacyc:∀ i oi,l[i]?=some oi→∀ e∈oi.after,Region.binds .any e=true→e.on<i)
  (hcl:∀ i,i<k→∃ j oj,i<j∧j≤k∧l[j]?=some oj∧depB oj i=true) (hch:∀ i oi,k<i→l[i]?=some oi→depB oi (i-1)=true)
  (hdst:∀ i j oi oj d,l[i]?=some oi→l[j]?=some oj→oj.dst=some d→(i=j∨oi.dst≠some d)∧(d∈oi.looksAt l.toArray→depB oi j=true))
  (hop:∀ i,i<k→OpIs P l a0 I T i)
  (hlast:∀ vs w,I w→(∀ i,i<k→T i (vs i) w)→wpList P l.toArray Q (l.drop k) (fr (fun j=>decide (j<k)) vs l 0 a0) w):
  ∀ (fuel:Nat) (listed:Array Bool) (vs:Nat→Value) (w:World),listed.size=l.length→
   (∀ i oi,l[i]?=some oi→listed.getD i false=true→∀ e∈oi.after,Region.binds .any e=true→listed.getD e.on false=true)→
   (∀ j,k≤j→listed.getD j false=false)→(∀ i,i<k→listed.getD i false=true→T i (vs i) w)→I w→(z l.length).countP (fun i=>!listed.getD i false)≤fuel→
   wpAny P .any l.toArray Q fuel listed (fr (fun j=>listed.getD j false) vs l 0 a0) w:=by
 intro fuel
 induction fuel with
 |zero=>
  intro listed vs w hsz hdown hk hT hw hf;have:0<(z l.length).countP (fun i=>!listed.getD i false):=List.countP_pos_iff.2 ⟨k,List.mem_range.2 (N.1 hl).1,by simp [hk k (Z _)]⟩;omega
 |succ fuel ih=>
  intro listed vs w hsz hdown hk hT hw hf;have hkl:k<l.length:=(N.1 hl).1;have hgd:∀ j,j<l.length→listed.getD j true=listed.getD j false:=fun j hj=>by
   rw [←hsz] at hj;simp [hj]
  have hout:∀ j,l.length≤j→listed.getD j false=false:=fun j hj=>by
   rw [←hsz] at hj;simp [Array.getElem?_eq_none hj]
  have hselo:∀ (j:Nat) (o:Oper) cs b,l[j]?=some o→o.op≠.select cs b:=fun j o cs b ho=>Region.noSelect_spec hsel j o cs b (by simpa using ho);refine ⟨fun h=>?_,fun i hi=>?_⟩
  ·exfalso
   -- the least that has not come up may come up
   have hex:∃ m,m≤k∧listed.getD m false=false∧∀ j,j<m→listed.getD j false=true:=by
    clear h hT hw hf hdown;have:∀ n,(∃ m,m≤n∧listed.getD m false=false∧∀ j,j<m→listed.getD j false=true)∨∀ j,j≤n→listed.getD j false=true:=by
     intro n
     induction n with
     |zero=>
      cases e:listed.getD 0 false with
      |false=>exact .inl ⟨0,Z _,e,fun j hj=>by omega⟩
      |true=>exact .inr fun j hj=>by rw [show j=0 by omega];exact e
     |succ n ihn=>
      rcases ihn with ⟨m,hm,h1,h2⟩|h1
      ·exact .inl ⟨m,by omega,h1,h2⟩
      ·cases e:listed.getD (n+1) false with
       |false=>exact .inl ⟨n+1,Z _,e,fun j hj=>h1 j (by omega)⟩
       |true=>
        refine .inr fun j hj=>?_;by_cases hjn:j≤n
        ·exact h1 j hjn
        ·rw [show j=n+1 by omega];exact e
    rcases this k with h2|h2
    ·exact h2
    ·have:=hk k (Z _);rw [h2 k (Z _)] at this;cases this
   obtain ⟨m,hm,h1,h2⟩:=hex;obtain ⟨o,ho⟩:∃ o,l[m]?=some o:=⟨_,U (by omega)⟩;have:m∈Region.ready .any l.toArray listed:=mem_ready.2 ⟨by rw [hgd m (by omega)];exact h1,o,by simpa using ho,fun e he hb=>h2 _ (hacyc m o ho e he hb)⟩;rw [h] at this
   cases this
  ·obtain ⟨hun,o,ho',hdeps⟩:=mem_ready.1 hi;have ho:l[i]?=some o:=by simpa using ho'
   have hil:i<l.length:=(N.1 ho).1;rw [hgd i hil] at hun;have hdep:∀ j,depB o j=true→listed.getD j false=true:=fun j hj=>by
    unfold depB at hj;rw [Array.any_eq_true'] at hj;obtain ⟨e,he,hb⟩:=hj;simp only [F,beq_iff_eq] at hb;rw [←hb.2];exact hdeps e he hb.1
   have hlooks:∀ (L':Nat→Bool),(∀ j,depB o j=true→L' j=true)→∀ t∈o.looksAt l.toArray,(fr L' vs l 0 a0).tmps[t]?=(fr (fun j=>listed.getD j false) vs l 0 a0).tmps[t]?:=fun L' hL' t ht=>
    fr_at l 0 a0 a0 rfl fun j oj hj hd=>by
     have hd2:=(hdst i j o oj t ho hj hd).2 ht;rw [Nat.zero_add,hL' j hd2,hdep j hd2]
   have hik':i≤k:=by
    rcases Nat.lt_or_ge k i with h|h
    ·have h2:=hdep (i-1) (hch i o h ho);rw [hk (i-1) (by omega)] at h2;cases h2
    ·exact h
   by_cases hik:i=k
   ·subst hik;rw [hl] at ho;cases ho
    have hall:∀ n j,i-j≤n→j<i→listed.getD j false=true:=by
     intro n
     induction n with
     |zero=>intro j h1 h2;omega
     |succ n ihn=>
      intro j h1 h2;obtain ⟨m,om,hm,hmk,hom,hd⟩:=hcl j h2;by_cases e:m=i
      ·subst e;rw [hl] at hom;cases hom
       exact hdep j hd
      ·have:=ihn m (by omega) (by omega);unfold depB at hd;rw [Array.any_eq_true'] at hd;obtain ⟨e',he,hb⟩:=hd;simp only [F,beq_iff_eq] at hb;rw [←hb.2];exact hdown m om hom this e' he hb.1
    have hL:∀ j,listed.getD j false=decide (j<i):=fun j=>by
     by_cases h1:j<i
     ·rw [hall i j (by omega) h1];simp [h1]
     ·rw [decide_eq_false h1];exact hk j (by omega)
    have hfr:fr (fun j=>listed.getD j false) vs l 0 a0=fr (fun j=>decide (j<i)) vs l 0 a0:=fr_congr l 0 a0 fun j _=>⟨hL j,rfl⟩;rw [hfr];have hs:=hlast vs w hw (fun j hj=>hT j hj (hall i j (by omega) hj));have hcp:l.length-(i+1)≤fuel:=by
     have e1:(z l.length).countP (fun j=>!listed.getD j false)=l.length-i:=by
      have h3:∀ n,n≤l.length→(z n).countP (fun j=>!listed.getD j false)=n-i:=by
       intro n
       induction n with
       |zero=>intro _;simp
       |succ n ihn=>
        intro hn;rw [List.range_succ,List.countP_append,ihn (by omega),List.countP_singleton,hL n];by_cases h:n<i
        ·simp [h];omega
        ·simp [h];omega
      exact h3 l.length (Z _)
     omega
    exact chain_step hacyc hch i fuel listed _ w hl (by omega) hsz (fun j hj=>hall i j (by omega) hj) hk hcp hs
   ·have hs0:=hop i (by omega) o ho vs w hw (fun j hj=>hT j (by
     unfold depB at hj;rw [Array.any_eq_true'] at hj;obtain ⟨e,he,hb⟩:=hj;simp only [F,beq_iff_eq] at hb;have:=hacyc i o ho e he hb.1;omega) (hdep j hj))
    have hs:=steps_same o (fun cs b=>hselo i o cs b ho) (hlooks (fun _=>true) fun _ _=>rfl) hs0;have hnext:∀ v w',(T i v w'∧I w'∧∀ j u,j≠i→T j u w→T j u w')→wpAny P .any l.toArray Q fuel (listed.setIfInBounds i true) ((fr (fun j=>listed.getD j false) vs l 0 a0).put o.dst v) w':=by
     intro v w' ⟨hTv,hIw,hkeep⟩;have hset:∀ j,(listed.setIfInBounds i true).getD j false=upd (fun j=>listed.getD j false) i true j:=fun j=>by
      by_cases e:i=j
      ·subst e;have:i<listed.size:=by omega
       simp [this,upd]
      ·rw [getD_set_ne false e];exact (if_neg fun h=>e h.symm).symm
     have hfr:fr (fun j=>(listed.setIfInBounds i true).getD j false) (upd vs i v) l 0 a0=(fr (fun j=>listed.getD j false) vs l 0 a0).put o.dst v:=by
      rw [fr_congr (L':=upd (fun j=>listed.getD j false) (0+i) true) (vs':=upd vs (0+i) v) l 0 a0 fun j _=>by rw [Nat.zero_add];exact ⟨hset j,rfl⟩];exact fr_step l 0 i a0 o ho (by rw [Nat.zero_add];exact hun) fun j o' hj hne t ht=>by
       rcases (hdst j i o' o t hj ho ht).1 with h|h
       ·exact absurd h hne
       ·exact h
     rw [←hfr];refine ih _ _ w' (by simpa using hsz) ?_ ?_ ?_ hIw ?_
     ·intro j oj hj hlj e he hbd;rw [hset] at hlj;rw [hset];by_cases e1:e.on=i
      ·exact if_pos e1
      ·rw [show upd (fun j=>listed.getD j false) i true e.on=listed.getD e.on false from if_neg e1];by_cases e2:j=i
       ·subst e2;rw [ho] at hj;cases hj
        exact hdeps e he hbd
       ·rw [show upd (fun j=>listed.getD j false) i true j=listed.getD j false from if_neg e2] at hlj;exact hdown j oj hj hlj e he hbd
     ·intro j hj;rw [hset,show upd (fun j=>listed.getD j false) i true j=listed.getD j false from if_neg (by omega)];exact hk j hj
     ·intro j hj hlj;by_cases e:j=i
      ·subst e;rw [show upd vs j v j=v from if_pos rfl];exact hTv
      ·rw [show upd vs i v j=vs j from if_neg e];rw [hset,show upd (fun j=>listed.getD j false) i true j=listed.getD j false from if_neg e] at hlj;exact hkeep j _ e (hT j hj hlj)
     ·have:=countP_one (f:=fun i=>!listed.getD i false) (g:=fun j=>!(listed.setIfInBounds i true).getD j false) (i:=i) (by simp only [hun];rfl) (by simp only [hset,upd,if_true];rfl) (fun j hj=>by
       simp only [hset];rw [show upd (fun j=>listed.getD j false) i true j=listed.getD j false from if_neg hj]) l.length hil
      omega
    unfold wpOp;simp only [ho'];unfold stepsTo at hs
    split
    ·rename_i hw';simp only [hw',if_true] at hs;exact .inl (gives_put hs hnext)
    ·rename_i hw';simp only [hw'] at hs;exact hnext _ _ hs
def tailB (k:Nat) (l:List Oper):Bool:=
 monoB l&&((z k).all fun i=>(z (k+1)).any fun j=>decide (i<j)&&match l[j]? with
  |some oj=>depB oj i
  |none=>false)&&((z l.length).all fun i=>!decide (k<i)||match l[i]? with
  |some oi=>depB oi (i-1)
  |none=>false)
theorem tailB_parts {k:Nat} {l:List Oper} (h:tailB k l=true):monoB l=true∧(∀ i,i<k→∃ j oj,i<j∧j≤k∧l[j]?=some oj∧depB oj i=true)∧(∀ i oi,k<i→l[i]?=some oi→depB oi (i-1)=true):=by
 unfold tailB at h;rw [F,F,List.all_eq_true,List.all_eq_true] at h;refine ⟨h.1.1,fun i hi=>?_,fun i oi hi ho=>?_⟩
 ·have:=h.1.2 i (List.mem_range.2 hi);simp only [List.any_eq_true,F,decide_eq_true_eq,List.mem_range] at this;obtain ⟨j,h0,h1,h2⟩:=this
  split at h2
  ·rename_i oj hj;exact ⟨j,oj,h1,by omega,hj,h2⟩
  ·cases h2
 ·have:=h.2 i (List.mem_range.2 (N.1 ho).1);simp only [ho,Bool.or_eq_true,Bool.not_eq_true',decide_eq_false_iff_not] at this;exact this.resolve_left fun h=>h hi
theorem wp_region_tail {id:Nat} (I:World→Prop) (T:Nat→Value→World→Prop) (k:Nat) (last:Oper) (hl:l[k]?=some last) (hm:P.follows .mixedOrders=true) (hT:tailB k l=true) (hI:I w0.drew)
  (hop:∀ i,i<k→OpIs P l a0 I T i)
  (hlast:∀ vs w,I w→(∀ i,i<k→T i (vs i) w)→Shut (wpList P l.toArray Q (l.drop k) (fr (fun j=>decide (j<k)) vs l 0 a0) w)):
  (Code.region id l.toArray true).wp P Q a0 w0:=by
 obtain ⟨hB,hcl,hch⟩:=tailB_parts hT;unfold monoB at hB;rw [F,List.all_eq_true] at hB;obtain ⟨hsel,hB⟩:=hB;have hB1:∀ i oi,l[i]?=some oi→_:=fun i oi hi=>by
  have:=hB i (List.mem_range.2 (N.1 hi).1);simp only [hi,F] at this;exact this
 refine wp_region_any hm ?_;have hfr:a0=fr (fun j=>(Array.replicate l.length false).getD j false) (fun _=>undef) l 0 a0:=by
  have hgen:∀ (l':List Oper) (k:Nat) (a:Act),a=fr (fun j=>(Array.replicate l.length false).getD j false) (fun _=>undef) l' k a:=by
   intro l'
   induction l' with
   |nil=>intro _ _;rfl
   |cons o l' ih=>
    intro k a;have:(Array.replicate l.length false).getD k false=false:=by
     rcases Nat.lt_or_ge k l.length with h|h
     ·simp [h]
     ·simp [Array.getElem?_eq_none (xs:=Array.replicate l.length false) (i:=k) (by simpa using h)]
    simp only [fr,this,Bool.false_eq_true,if_false];exact ih (k+1) a
  exact hgen l 0 a0
 have hrep:∀ j,(Array.replicate l.length false).getD j false=false:=fun k=>by
  rcases Nat.lt_or_ge k l.length with h|h
  ·simp [h]
  ·simp [Array.getElem?_eq_none (xs:=Array.replicate l.length false) (i:=k) (by simpa using h)]
 have hmain:=tail_any (P:=P) (Q:=Q) (a0:=a0) I T k last hl hsel ?_ hcl hch ?_ hop (fun vs w h1 h2=>(hlast vs w h1 h2).out) l.length (Array.replicate l.length false) (fun _=>undef) {w0 with drawn:=w0.drawn+1} (by simp)
  (fun i _ _ h=>by rw [hrep i] at h;cases h) (fun j _=>hrep j) (fun i _ h=>by rw [hrep i] at h;cases h) hI (by
   have:=List.countP_le_length (p:=fun i=>!(Array.replicate l.length false).getD i false) (l:=z l.length)
   simpa using this)
 ·rw [←hfr] at hmain
  simpa using hmain
 ·intro i oi hi e he hb;have:=(hB1 i oi hi).1.1;rw [Array.all_eq_true'] at this;have:=this e he
  simpa [hb] using this
 ·intro i j oi oj d hi hj hd;have:=(hB1 i oi hi).2;rw [List.all_eq_true] at this;have:=this j (List.mem_range.2 (N.1 hj).1);simp only [hj,hd,F,Bool.or_eq_true,beq_iff_eq,bne_iff_ne,Bool.not_eq_true',List.contains_eq_mem,decide_eq_false_iff_not,ne_eq] at this;refine ⟨this.1,fun hm=>?_⟩
  rcases this.2 with h|h
  ·exact absurd hm (by simpa using h)
  ·exact h
end
section
variable {P:Program} {Q:Exit→Act→World→Prop} {a0:Act} {w0:World} {l:List Oper}
theorem wp_region_kept_tail {id:Nat} (n k:Nat) (last:Oper) (hl:l[k]?=some last) (hm:P.follows .mixedOrders=true) (hT:tailB k l=true)
  (h:wpQuiet P l.toArray (fun w'=>∃ s:Kept n w0,w'=s.w) (fun a'=>∀ s:Kept n w0,Shut (wpList P l.toArray Q (l.drop k) a' s.w)) (l.take k) a0):(Code.region id l.toArray true).wp P Q a0 w0:=by
 have hB:=(tailB_parts hT).1;have hkl:k<l.length:=(N.1 hl).1;have hB':=hB;unfold monoB at hB';rw [F,List.all_eq_true] at hB';have hB1:∀ i oi,l[i]?=some oi→_:=fun i oi hi=>by
  have:=hB'.2 i (List.mem_range.2 (N.1 hi).1);simp only [hi,F] at this;exact this
 have hd2:∀ i j oi oj d,l[i]?=some oi→l[j]?=some oj→oj.dst=some d→(i=j∨oi.dst≠some d)∧(d∈oi.looksAt l.toArray→depB oi j=true):=fun i j oi oj d hi hj hd=>by
  have:=(hB1 i oi hi).2;rw [List.all_eq_true] at this;have:=this j (List.mem_range.2 (N.1 hj).1);simp only [hj,hd,F,Bool.or_eq_true,beq_iff_eq,bne_iff_ne,ne_eq] at this;refine ⟨this.1,fun hm=>?_⟩
  rcases this.2 with h|h
  ·rw [Bool.not_eq_true'] at h;have hc:(oi.looksAt l.toArray).contains d=true:=by simpa using hm
   rw [hc] at h;cases h
  ·exact h
 have hacyc:∀ i oi,l[i]?=some oi→∀ j,depB oi j=true→j<i:=fun i oi hi j hj=>by
  have h1:=(hB1 i oi hi).1.1;rw [Array.all_eq_true'] at h1;unfold depB at hj;rw [Array.any_eq_true'] at hj;obtain ⟨e,he,hb⟩:=hj;simp only [F,beq_iff_eq] at hb;have:=h1 e he;simp [hb.1] at this;omega
 have hsel:∀ (j:Nat) (o:Oper) cs b,l[j]?=some o→o.op≠.select cs b:=fun j o cs b ho=>Region.noSelect_spec hB'.1 j o cs b (by simpa using ho);have hfr:a0=fr (fun q=>decide (q<0)) (fun _=>undef) l 0 a0:=by
  have hgen:∀ (l':List Oper) (k:Nat) (a:Act),a=fr (fun q=>decide (q<0)) (fun _=>undef) l' k a:=by
   intro l'
   induction l' with
   |nil=>intro _ _;rfl
   |cons o l' ih=>
    intro k a;simp only [fr,Nat.not_lt_zero,decide_false,Bool.false_eq_true,if_false];exact ih (k+1) a
  exact hgen l 0 a0
 rw [hfr] at h;obtain ⟨vs,_,hy,hR⟩:=quiet_vals (a0:=a0) (fun i j oi oj hi hj hne t ht=>by
  rcases (hd2 j i oj oi t hj hi ht).1 with h|h
  ·exact absurd h.symm hne
  ·exact h) (l.take k) 0 (fun _=>undef) (fun j hj=>by rw [Nat.zero_add,List.getElem?_take_of_lt (by rw [List.length_take] at hj;omega)]) h
 have hk:(l.take k).length=k:=by rw [List.length_take];omega
 rw [Nat.zero_add,hk] at hR;rw [hk] at hy;refine wp_region_tail (fun w'=>∃ s:Kept n w0,w'=s.w) (fun i v _=>v=vs i) k last hl hm hT ⟨⟨w0.drew,(Below.refl _ w0).drew⟩,rfl⟩ (fun i hi o ho vs' W hC hdep=>?_) (fun vs' W hC hT=>?_)
 ·have hyi:=hy i (Nat.zero_le _) (by omega) o ho;have hlooks:∀ t∈o.looksAt l.toArray,(fr (fun q=>decide (q<i)) vs l 0 a0).tmps[t]?=(fr (fun _=>true) vs' l 0 a0).tmps[t]?:=fun t ht=>
   fr_at2 l 0 a0 a0 rfl fun j oj hj hd=>by
    have hd3:=(hd2 i j o oj t ho hj hd).2 ht;rw [Nat.zero_add];exact ⟨decide_eq_true (hacyc i o ho j hd3),(hdep j hd3).symm⟩
  refine steps_same o (fun cs b=>hsel i o cs b ho) hlooks ?_;unfold stepsTo
  rcases hyi with ⟨hw,hv⟩|⟨hw,hv⟩
  ·rw [if_pos hw];have h1:=hv W hC;unfold Oper.quietAt at h1;unfold gives;generalize (execOp (fr (fun q=>decide (q<i)) vs l 0 a0).eval o).run P W=r at *
   cases r with
   |ok nx w'=>
    cases nx<;>simp only [Oper.quietUpon] at h1 ⊢
    case value u=>obtain ⟨e1,e2⟩:=h1;rw [e1,e2];exact ⟨rfl,hC,fun _ _ _ h=>h⟩
    case skip=>obtain ⟨e1,e2⟩:=h1;rw [e1];exact ⟨e2.symm,hC,fun _ _ _ h=>h⟩
    case enter f args=>
     obtain ⟨e1,hc⟩:=h1;rw [e1];exact hc.mono fun e w'' ⟨he,hw''⟩=>⟨_,he,rfl,hw'',fun _ _ _ h=>h⟩
   |halt x w'=>simp only [Oper.quietUpon] at h1
  ·rw [if_neg (by rw [hw];simp)];exact ⟨hv.symm,hC,fun _ _ _ h=>h⟩
 ·obtain ⟨s,rfl⟩:=hC;have:=hR s;rw [fr_congr2 (L':=fun j=>decide (j<k)) (vs':=vs') l 0 a0 fun q _=>⟨rfl,fun hq=>(hT q (of_decide_eq_true hq)).symm⟩] at this;exact this
end
def Stab (G:World→Prop):Prop:=∀ W W',G W→Below W.heap.size W W'→G W'
theorem Stab.and {G H:World→Prop} (h:Stab G) (k:Stab H):Stab fun w=>G w∧H w:=fun W W' ⟨a,b⟩ hb=>⟨h W W' a hb,k W W' b hb⟩
def InG (n:Nat) (w:World) (G:World→Prop):={W:World // Below n w W∧n≤W.heap.size∧G W}
def InG.w {n:Nat} {w:World} {G:World→Prop} (s:InG n w G):World:=s.1
theorem InG.below {n:Nat} {w:World} {G:World→Prop} (s:InG n w G):Below n w s.w:=s.2.1
theorem InG.at {w:World} {G:World→Prop} (s:InG w.heap.size w G) {a:Addr} {v:Value} (h:w.cell? a=some v):s.w.cell? a=some v:=(s.below.cell (lt_of_cell h)).trans h
theorem Calls.inG {P:Program} {f:FuncId} {args:Array Value} {n:Nat} {w:World} {G:World→Prop} (hG:Stab G) (s:InG n w G) {v:Value} (h:Calls P f args s.w (PPost s.w v)):
  Calls P f args s.w fun e w''=>e=.returned v∧∃ s':InG n w G,w''=s'.w:=
 h.mono fun _ w'' ⟨he,hb⟩=>⟨he,⟨w'',s.below.trans (hb.mono s.2.2.1),O s.2.2.1 hb.size,hG _ _ s.2.2.2 hb⟩,rfl⟩
def skip:List Bool→List Oper→List Oper
 |[],_=>[]
 |_::_,[]=>[]
 |true::m,_::l=>skip m l
 |false::m,o::l=>o::skip m l
section
variable {P:Program} {Q:Exit→Act→World→Prop} {a0:Act} {w0:World} {l:List Oper}
def wpChain (P:Program) (Q:Exit→Act→World→Prop) (l:List Oper) (k:Nat):(World→Prop)→List Nat→Act→Prop
 |C,[],a=>∀ w,C w→Shut (wpList P l.toArray Q (l.drop k) a w)
 |C,e::es,a=>∃ (α:Type) (val:α→Value) (T:α→World→Prop),(∀ x,Stab (T x))∧
   ∀ o,l[e]?=some o→(∀ w,C w→stepsTo P l.toArray o a w (fun v w'=>Below w.heap.size w w'∧∃ x,v=val x∧T x w'))∧∀ x,wpChain P Q l k (fun w=>C w∧T x w) es (a.put o.dst (val x))
def chainB (l:List Oper):List Nat→Bool
 |[]=>true
 |[_]=>true
 |e::e'::es=>(match l[e']? with
  |some o=>depB o e
  |none=>false)&&chainB l (e'::es)
def mixB (m:List Bool) (es:List Nat) (l:List Oper):Bool:=
 tailB m.length l&&(es==(z m.length).filter fun i=>m.getD i false)&&chainB l es &&
 (z m.length).all fun j=>m.getD j false||match l[j]? with
  |some o=>(z m.length).all fun e=>!m.getD e false||!depB o e
  |none=>false
theorem fr_congr3 {L:Nat→Bool} {vs vs':Nat→Value}:∀ (l':List Oper) (k:Nat) (a:Act),(∀ j o d,L (k+j)=true→l'[j]?=some o→o.dst=some d→d<a.tmps.size→vs (k+j)=vs' (k+j))→fr L vs l' k a=fr L vs' l' k a
 |[],_,_,_=>rfl
 |o::l',k,a,h=>by
  simp only [fr];have e:(if L k=true then a.put o.dst (vs k) else a)=(if L k=true then a.put o.dst (vs' k) else a):=by
   split
   ·rename_i hL;cases hd:o.dst with
    |none=>rfl
    |some d=>
     by_cases hlt:d<a.tmps.size
     ·have:=h 0 o d (by simpa using hL) rfl hd hlt;rw [Nat.add_zero] at this;rw [this]
     ·simp [Act.put,Array.setIfInBounds,hlt]
   ·rfl
  rw [e];refine fr_congr3 l' (k+1) _ fun j o' d hL ho hd hlt=>?_;have:=h (j+1) o' d (by rw [←hL];congr 1;omega) (by simpa using ho) hd (by
   split at hlt
   ·rw [put_size] at hlt;exact hlt
   ·exact hlt)
  rw [show k+1+j=k+(j+1) by omega];exact this
theorem mix_vals {C:World→Prop} {R:Act→Prop} {E:Nat→Bool} (hdst:∀ (i j:Nat) (oi oj:Oper),l[i]?=some oi→l[j]?=some oj→i≠j→∀ t,oi.dst=some t→oj.dst≠some t):
  ∀ (m:List Bool) (l':List Oper) (i:Nat) (vs0:Nat→Value),m.length≤l'.length→(∀ j,l'[j]?=l[i+j]?)→(∀ j,j<m.length→m.getD j false=E (i+j))→
  wpQuiet P l.toArray C R (skip m l') (fr (fun q=>decide (q<i)&&!E q) vs0 l 0 a0)→
  ∃ vs,(∀ j,j<i→vs j=vs0 j)∧(∀ j,i≤j→j<i+m.length→E j=false→∀ o,l[j]?=some o→YieldsIn P l.toArray C o (vs j) (fr (fun q=>decide (q<j)&&!E q) vs l 0 a0))∧R (fr (fun q=>decide (q<i+m.length)&&!E q) vs l 0 a0)
 |[],l',i,vs0,_,_,_,h=>⟨vs0,fun _ _=>rfl,fun j h1 h2=>by simp at h2;omega,by simpa [skip,wpQuiet] using h⟩
 |b::m,[],i,vs0,hlen,_,_,_=>by simp at hlen
 |true::m,o::l',i,vs0,hlen,hm,hE,h=>by
  have hEi:E i=true:=by have:=hE 0 (by simp);simpa using this.symm
  have hf:fr (fun q=>decide (q<i)&&!E q) vs0 l 0 a0=fr (fun q=>decide (q<i+1)&&!E q) vs0 l 0 a0:=fr_congr2 l 0 a0 fun j _=>⟨by
   by_cases e:j=i
   ·subst e;simp [hEi]
   ·have:decide (j<i)=decide (j<i+1):=decide_eq_decide.2 (by omega);rw [this],fun _=>rfl⟩
  rw [hf] at h;obtain ⟨vs,h1,h2,h3⟩:=mix_vals hdst m l' (i+1) vs0 (by simpa using hlen) (fun j=>by have:=hm (j+1);simp at this;rw [this];congr 1;omega) (fun j hj=>by have:=hE (j+1) (by simpa using hj);simp at this;rw [D,this];congr 1;omega) h;refine ⟨vs,fun j hj=>h1 j (by omega),fun j hij hj hEj o' ho'=>?_,?_⟩
  ·by_cases e:j=i
   ·subst e;rw [hEi] at hEj;cases hEj
   ·exact h2 j (by omega) (by simp at hj;omega) hEj o' ho'
  ·rw [List.length_cons,show i+(m.length+1)=i+1+m.length by omega];exact h3
 |false::m,o::l',i,vs0,hlen,hm,hE,h=>by
  have hEi:E i=false:=by have:=hE 0 (by simp);simpa using this.symm
  have ho:l[i]?=some o:=by have:=hm 0;simpa using this.symm
  have hq:qOp P l.toArray C i (wpQuiet P l.toArray C R (skip m l')) (fr (fun q=>decide (q<i)&&!E q) vs0 l 0 a0):=by
   unfold qOp;simp only [List.getElem?_toArray,ho];exact h
  obtain ⟨v,hy,hrest⟩:=yieldsIn_of_qOp (by simpa using ho) hq;have hput:(fr (fun q=>decide (q<i)&&!E q) vs0 l 0 a0).put o.dst v=fr (fun q=>decide (q<i+1)&&!E q) (upd vs0 i v) l 0 a0:=by
   have h1:=fr_step (L:=fun q=>decide (q<i)&&!E q) (vs:=vs0) (v:=v) l 0 i a0 o ho (by simp) fun j o' hj hne t ht=>hdst i j o o' ho hj (fun e=>hne e.symm) t ht;rw [←h1,Nat.zero_add];refine fr_congr2 l 0 a0 fun j _=>⟨?_,fun _=>rfl⟩;unfold upd;by_cases e:j=i
   ·subst e;simp [hEi]
   ·rw [if_neg e];have:decide (j<i)=decide (j<i+1):=decide_eq_decide.2 (by omega);show (decide (j<i)&&!E j)=_;rw [this]
  rw [hput] at hrest;obtain ⟨vs,h1,h2,h3⟩:=mix_vals hdst m l' (i+1) (upd vs0 i v) (by simpa using hlen) (fun j=>by have:=hm (j+1);simp at this;rw [this];congr 1;omega) (fun j hj=>by have:=hE (j+1) (by simpa using hj);simp at this;rw [D,this];congr 1;omega) hrest;have hvi:vs i=v:=by rw [h1 i (by omega)];simp [upd]
  have hold:∀ j,j<i→vs j=vs0 j:=fun j hj=>by rw [h1 j (by omega)];simp [upd,show j≠i by omega]
  refine ⟨vs,hold,fun j hij hj hEj o' ho'=>?_,?_⟩
  ·by_cases e:j=i
   ·subst e;rw [ho] at ho';cases ho'
    rw [hvi,fr_congr2 (L':=fun q=>decide (q<j)&&!E q) (vs':=vs0) l 0 a0 fun q _=>⟨rfl,fun hq=>hold q (by simp at hq;exact hq.1)⟩];exact hy
   ·exact h2 j (by omega) (by simp at hj;omega) hEj o' ho'
  ·rw [List.length_cons,show i+(m.length+1)=i+1+m.length by omega];exact h3
theorem chain_mem:∀ (es:List Nat),chainB l es=true→∀ i∈es,es.head?≠some i→∃ e o,e∈es∧l[i]?=some o∧depB o e=true
 |[],_,i,hi,_=>by cases hi
 |[e],_,i,hi,hh=>by simp at hi hh;omega
 |e::e'::es,h,i,hi,hh=>by
  unfold chainB at h;rw [F] at h
  rcases List.mem_cons.1 hi with h1|h1
  ·exact absurd (by rw [h1];rfl) hh
  ·by_cases h2:i=e'
   ·subst h2;have h3:=h.1
    split at h3
    ·rename_i o ho;exact ⟨e,o,by simp,ho,h3⟩
    ·cases h3
   ·obtain ⟨f,o,hf,ho,hd⟩:=chain_mem (e'::es) h.2 i h1 (by simp;omega);exact ⟨f,o,List.mem_cons_of_mem _ hf,ho,hd⟩
theorem chainB_tail {e:Nat} {es:List Nat} (h:chainB l (e::es)=true):chainB l es=true:=by
 cases es with
 |nil=>rfl
 |cons e' es=>
  unfold chainB at h;rw [F] at h;exact h.2
def QuietAll (P:Program) (l:List Oper) (a0:Act) (w0:World) (n k:Nat) (E:Nat→Bool) (vs:Nat→Value):Prop:=
 ∀ G,Stab G→Nonempty (InG n w0 G)→∀ j,j<k→E j=false→∀ o,l[j]?=some o→∃ v,YieldsIn P l.toArray (fun w'=>∃ s:InG n w0 G,w'=s.w) o v (fr (fun q=>decide (q<j)&&!E q) vs l 0 a0)∧∀ a:Act,a.tmps.size=a0.tmps.size→a.put o.dst v=a.put o.dst (vs j)
theorem mix_any {n k:Nat} {E:Nat→Bool} {last:Oper} (hl:l[k]?=some last) (hsel:Region.noSelect l.toArray=true)
  (hacyc:∀ i oi,l[i]?=some oi→∀ e∈oi.after,Region.binds .any e=true→e.on<i)
  (hcl:∀ i,i<k→∃ j oj,i<j∧j≤k∧l[j]?=some oj∧depB oj i=true) (hch:∀ i oi,k<i→l[i]?=some oi→depB oi (i-1)=true)
  (hdst:∀ i j oi oj d,l[i]?=some oi→l[j]?=some oj→oj.dst=some d→(i=j∨oi.dst≠some d)∧(d∈oi.looksAt l.toArray→depB oi j=true))
  (hqe:∀ j o,j<k→E j=false→l[j]?=some o→∀ e,e<k→E e=true→depB o e=false) (vT:Nat→Value) (hQ:QuietAll P l a0 w0 n k E vT):
  ∀ (fuel:Nat) (listed:Array Bool) (vs:Nat→Value) (w:World) (C:World→Prop) (rem:List Nat),listed.size=l.length→
   (∀ i oi,l[i]?=some oi→listed.getD i false=true→∀ e∈oi.after,Region.binds .any e=true→listed.getD e.on false=true)→
   (∀ j,k≤j→listed.getD j false=false)→Stab C→C w→(∀ w,C w→Below n w0 w∧n≤w.heap.size)→
   chainB l rem=true→(∀ i,i∈rem↔i<k∧E i=true∧listed.getD i false=false)→rem.Nodup→(∀ j,j<k→E j=false→vs j=vT j)→
   wpChain P Q l k C rem (fr (fun q=>decide (q<k)&&(!E q||listed.getD q false)) vs l 0 a0)→(z l.length).countP (fun i=>!listed.getD i false)≤fuel→
   wpAny P .any l.toArray Q fuel listed (fr (fun j=>listed.getD j false) vs l 0 a0) w:=by
 have hkl:k<l.length:=(N.1 hl).1;intro fuel
 induction fuel with
 |zero=>
  intro listed vs w C rem hsz hdown hk hC hw hn hcb hrem hnd hvs hchain hf;have:0<(z l.length).countP (fun i=>!listed.getD i false):=List.countP_pos_iff.2 ⟨k,List.mem_range.2 hkl,by simp [hk k (Z _)]⟩;omega
 |succ fuel ih=>
  intro listed vs w C rem hsz hdown hk hC hw hn hcb hrem hnd hvs hchain hf;have hgd:∀ j,j<l.length→listed.getD j true=listed.getD j false:=fun j hj=>by
   rw [←hsz] at hj;simp [hj]
  have hselo:∀ (j:Nat) (o:Oper) cs b,l[j]?=some o→o.op≠.select cs b:=fun j o cs b ho=>Region.noSelect_spec hsel j o cs b (by simpa using ho);refine ⟨fun h=>?_,fun i hi=>?_⟩
  ·exfalso;have hex:∃ m,m≤k∧listed.getD m false=false∧∀ j,j<m→listed.getD j false=true:=by
    have:∀ n,(∃ m,m≤n∧listed.getD m false=false∧∀ j,j<m→listed.getD j false=true)∨∀ j,j≤n→listed.getD j false=true:=by
     intro n
     induction n with
     |zero=>
      cases e:listed.getD 0 false with
      |false=>exact .inl ⟨0,Z _,e,fun j hj=>by omega⟩
      |true=>exact .inr fun j hj=>by rw [show j=0 by omega];exact e
     |succ n ihn=>
      rcases ihn with ⟨m,hm,h1,h2⟩|h1
      ·exact .inl ⟨m,by omega,h1,h2⟩
      ·cases e:listed.getD (n+1) false with
       |false=>exact .inl ⟨n+1,Z _,e,fun j hj=>h1 j (by omega)⟩
       |true=>
        refine .inr fun j hj=>?_;by_cases hjn:j≤n
        ·exact h1 j hjn
        ·rw [show j=n+1 by omega];exact e
    rcases this k with h2|h2
    ·exact h2
    ·have:=hk k (Z _);rw [h2 k (Z _)] at this;cases this
   obtain ⟨m,hm,h1,h2⟩:=hex;obtain ⟨o,ho⟩:∃ o,l[m]?=some o:=⟨_,U (by omega)⟩;have:m∈Region.ready .any l.toArray listed:=mem_ready.2 ⟨by rw [hgd m (by omega)];exact h1,o,by simpa using ho,fun e he hb=>h2 _ (hacyc m o ho e he hb)⟩;rw [h] at this
   cases this
  ·obtain ⟨hun,o,ho',hdeps⟩:=mem_ready.1 hi;have ho:l[i]?=some o:=by simpa using ho'
   have hil:i<l.length:=(N.1 ho).1;rw [hgd i hil] at hun;have hdep:∀ j,depB o j=true→listed.getD j false=true∧j<i:=fun j hj=>by
    unfold depB at hj;rw [Array.any_eq_true'] at hj;obtain ⟨e,he,hb⟩:=hj;simp only [F,beq_iff_eq] at hb;rw [←hb.2];exact ⟨hdeps e he hb.1,hacyc i o ho e he hb.1⟩
   have hik':i≤k:=by
    rcases Nat.lt_or_ge k i with h|h
    ·have h2:=(hdep (i-1) (hch i o h ho)).1;rw [hk (i-1) (by omega)] at h2;cases h2
    ·exact h
   have hset:∀ j,(listed.setIfInBounds i true).getD j false=upd (fun j=>listed.getD j false) i true j:=fun j=>by
    by_cases e:i=j
    ·subst e;have:i<listed.size:=by omega
     simp [this,upd]
    ·rw [getD_set_ne false e];exact (if_neg fun h=>e h.symm).symm
   have hsetI:(listed.setIfInBounds i true).getD i false=true:=by rw [hset];exact if_pos rfl
   have hsetN:∀ j,j≠i→(listed.setIfInBounds i true).getD j false=listed.getD j false:=fun j hj=>by rw [hset];exact if_neg hj
   have hdown':∀ j oj,l[j]?=some oj→(listed.setIfInBounds i true).getD j false=true→∀ e∈oj.after,Region.binds .any e=true→(listed.setIfInBounds i true).getD e.on false=true:=by
    intro j oj hj hlj e he hbd;by_cases e1:e.on=i
    ·rw [e1];exact hsetI
    ·rw [hsetN _ e1];by_cases e2:j=i
     ·subst e2;rw [ho] at hj;cases hj
      exact hdeps e he hbd
     ·rw [hsetN _ e2] at hlj;exact hdown j oj hj hlj e he hbd
   have hcnt:(z l.length).countP (fun j=>!(listed.setIfInBounds i true).getD j false)≤fuel:=by
    have:=countP_one (f:=fun i=>!listed.getD i false) (g:=fun j=>!(listed.setIfInBounds i true).getD j false) (i:=i) (by simp only [hun];rfl) (by simp only [hsetI];rfl) (fun j hj=>by
     simp only [hsetN j hj]) l.length hil
    omega
   have hfrp:∀ v,fr (fun j=>(listed.setIfInBounds i true).getD j false) (upd vs i v) l 0 a0=(fr (fun j=>listed.getD j false) vs l 0 a0).put o.dst v:=fun v=>by
    rw [fr_congr (L':=upd (fun j=>listed.getD j false) (0+i) true) (vs':=upd vs (0+i) v) l 0 a0 fun j _=>by rw [Nat.zero_add];exact ⟨hset j,rfl⟩];exact fr_step l 0 i a0 o ho (by rw [Nat.zero_add];exact hun) fun j o' hj hne t ht=>by
     rcases (hdst j i o' o t hj ho ht).1 with h|h
     ·exact absurd h hne
     ·exact h
   by_cases hik:i=k
   ·subst hik;rw [hl] at ho;cases ho
    have hall:∀ n j,i-j≤n→j<i→listed.getD j false=true:=by
     intro n
     induction n with
     |zero=>intro j h1 h2;omega
     |succ n ihn=>
      intro j h1 h2;obtain ⟨m,om,hm,hmk,hom,hd⟩:=hcl j h2;by_cases e:m=i
      ·subst e;rw [hl] at hom;cases hom
       exact (hdep j hd).1
      ·have:=ihn m (by omega) (by omega);unfold depB at hd;rw [Array.any_eq_true'] at hd;obtain ⟨e',he,hb⟩:=hd;simp only [F,beq_iff_eq] at hb;rw [←hb.2];exact hdown m om hom this e' he hb.1
    have hrn:rem=[]:=by
     cases rem with
     |nil=>rfl
     |cons e rem=>
      have h1:=(hrem e).1 (by simp);rw [hall i e (by omega) h1.1] at h1;exact absurd h1.2.2 (by simp)
    subst hrn;have hfr:fr (fun j=>listed.getD j false) vs l 0 a0=fr (fun q=>decide (q<i)&&(!E q||listed.getD q false)) vs l 0 a0:=fr_congr l 0 a0 fun j _=>⟨by
     by_cases h1:j<i
     ·rw [hall i j (by omega) h1];simp [h1]
     ·rw [hk j (by omega)];simp [h1],rfl⟩
    rw [hfr];have hcp:l.length-(i+1)≤fuel:=by
     have e1:(z l.length).countP (fun j=>!listed.getD j false)=l.length-i:=by
      have h3:∀ n,n≤l.length→(z n).countP (fun j=>!listed.getD j false)=n-i:=by
       intro n
       induction n with
       |zero=>intro _;simp
       |succ n ihn=>
        intro hn;rw [List.range_succ,List.countP_append,ihn (by omega),List.countP_singleton];by_cases h:n<i
        ·simp [hall i n (by omega) h];omega
        ·simp [hk n (by omega)];omega
      exact h3 l.length (Z _)
     omega
    exact chain_step hacyc hch i fuel listed _ w hl (by omega) hsz (fun j hj=>hall i j (by omega) hj) hk hcp (hchain w hw).out
   ·have hlt:i<k:=by omega
    cases hE:E i with
    |true=>
     have him:i∈rem:=(hrem i).2 ⟨hlt,hE,hun⟩
     cases rem with
     |nil=>cases him
     |cons e rem=>
     have hei:e=i:=by
      by_cases h:e=i
      ·exact h
      ·obtain ⟨f,o',hf1,ho2,hd⟩:=chain_mem (e::rem) hcb i him (by simp;exact h);rw [ho] at ho2;cases ho2
       have h1:=(hdep f hd).1;rw [((hrem f).1 hf1).2.2] at h1;cases h1
     subst hei;obtain ⟨α,val,T,hT,hstep⟩:=hchain;obtain ⟨hs0,hnext⟩:=hstep o ho;have hs:=steps_same o (fun cs b=>hselo e o cs b ho) (a':=fr (fun j=>listed.getD j false) vs l 0 a0) (fun t ht=>fr_at l 0 a0 a0 rfl fun j oj hj hd=>by
      have hd2:=(hdst e j o oj t ho hj hd).2 ht;have h3:=hdep j hd2;rw [Nat.zero_add,h3.1]
      simp;omega) (hs0 w hw)
     have hgo:∀ v w',(Below w.heap.size w w'∧∃ x,v=val x∧T x w')→wpAny P .any l.toArray Q fuel (listed.setIfInBounds e true) ((fr (fun j=>listed.getD j false) vs l 0 a0).put o.dst v) w':=by
      rintro v w' ⟨hb,x,rfl,hTx⟩;rw [←hfrp];refine ih _ _ w' (fun w=>C w∧T x w) rem (by simpa using hsz) hdown' (fun j hj=>by rw [hsetN j (by omega)];exact hk j hj) (hC.and (hT x)) ⟨hC _ _ hw hb,hTx⟩ (fun w h=>hn w h.1) (chainB_tail hcb) (fun j=>?_) (List.nodup_cons.1 hnd).2 (fun j hj hEj=>?_) ?_ hcnt
      ·by_cases h:j=e
       ·subst h;rw [hsetI];simp [(List.nodup_cons.1 hnd).1]
       ·rw [hsetN j h,←hrem j];simp [h]
      ·have:j≠e:=fun h=>by subst h;rw [hE] at hEj;cases hEj
       unfold upd;rw [if_neg this];exact hvs j hj hEj
      ·have h1:=hnext x;have h2:=fr_step (L:=fun q=>decide (q<k)&&(!E q||listed.getD q false)) (vs:=vs) (v:=val x) l 0 e a0 o ho (by rw [Nat.zero_add,hun,hE];simp) fun j o' hj hne t ht=>by
        rcases (hdst j e o' o t hj ho ht).1 with h|h
        ·exact absurd h hne
        ·exact h
       rw [←h2,Nat.zero_add] at h1;rw [fr_congr (L':=upd (fun q=>decide (q<k)&&(!E q||listed.getD q false)) e true) (vs':=upd vs e (val x)) l 0 a0 fun j _=>⟨by
        by_cases h:j=e
        ·subst h;rw [hsetI];simp [upd,hlt]
        ·rw [hsetN j h];simp [upd,h],rfl⟩]
       exact h1
     unfold wpOp;simp only [ho'];unfold stepsTo at hs
     split
     ·rename_i hw';simp only [hw',if_true] at hs;exact .inl (gives_put hs hgo)
     ·rename_i hw';simp only [hw'] at hs;exact hgo _ _ hs
    |false=>
     obtain ⟨v,hy0,hput⟩:=hQ C hC ⟨⟨w,(hn w hw).1,(hn w hw).2,hw⟩⟩ i hlt hE o ho;have hlooks:∀ t∈o.looksAt l.toArray,(fr (fun q=>decide (q<i)&&!E q) vT l 0 a0).tmps[t]?=(fr (fun j=>listed.getD j false) vs l 0 a0).tmps[t]?:=fun t ht=>
      fr_at2 l 0 a0 a0 rfl fun j oj hj hd=>by
       have hd2:=(hdst i j o oj t ho hj hd).2 ht;have h3:=hdep j hd2;have hEj:E j=false:=by
        cases h4:E j with
        |false=>rfl
        |true=>
         have h5:=hqe i o hlt hE ho j (by omega) h4;rw [hd2] at h5;cases h5
       rw [Nat.zero_add,h3.1,hEj,hvs j (by omega) hEj];exact ⟨by simp;exact h3.2,rfl⟩
     have hy:YieldsIn P l.toArray (fun w'=>∃ s:InG n w0 C,w'=s.w) o v (fr (fun j=>listed.getD j false) vs l 0 a0):=
      hy0.of_same (exec_same o (fun cs b=>hselo i o cs b ho) hlooks).symm (wanted_same o hlooks).symm
     have hsize:∀ (l':List Oper) (q:Nat) (L:Nat→Bool) (vs:Nat→Value) (a:Act),(fr L vs l' q a).tmps.size=a.tmps.size:=by
      intro l'
      induction l' with
      |nil=>intro q L vs a;rfl
      |cons o' l' ihl=>
       intro q L vs a;simp only [fr];rw [ihl]
       split
       ·exact put_size _ _ _
       ·rfl
     have hgo:∀ w',(∃ s:InG n w0 C,w'=s.w)→wpAny P .any l.toArray Q fuel (listed.setIfInBounds i true) ((fr (fun j=>listed.getD j false) vs l 0 a0).put o.dst v) w':=by
      rintro w' ⟨s,rfl⟩;rw [hput _ (hsize _ _ _ _ _),←hvs i hlt hE,←hfrp,show upd vs i (vs i)=vs from funext fun j=>by unfold upd;split<;>simp [*]];refine ih _ _ s.w C rem (by simpa using hsz) hdown' (fun j hj=>by rw [hsetN j (by omega)];exact hk j hj) hC s.2.2.2 hn hcb (fun j=>?_) hnd hvs ?_ hcnt
      ·by_cases h:j=i
       ·subst h;rw [hrem j,hsetI,hE]
        simp
       ·rw [hsetN j h];exact hrem j
      ·rw [fr_congr (L':=fun q=>decide (q<k)&&(!E q||listed.getD q false)) (vs':=vs) l 0 a0 fun j _=>⟨by
        by_cases h:j=i
        ·subst h;rw [hE];simp
        ·rw [hsetN j h],rfl⟩]
       exact hchain
     have hwC:∃ s:InG n w0 C,w=s.w:=⟨⟨w,(hn w hw).1,(hn w hw).2,hw⟩,rfl⟩;unfold wpOp;simp only [ho']
     rcases hy with ⟨hw',hv⟩|⟨hw',rfl⟩
     ·rw [if_pos hw'];exact .inl (Oper.wp_of_quiet (C:=fun w'=>∃ s:InG n w0 C,w'=s.w) (K:=fun a'=>a'=(fr (fun j=>listed.getD j false) vs l 0 a0).put o.dst v) hwC (fun a' w' h1 h2=>by subst h2;exact hgo w' h1) ⟨v,hv,rfl⟩)
     ·rw [if_neg (by rw [hw'];simp)];exact hgo w hwC
theorem wp_region_mix {id:Nat} (n:Nat) (m:List Bool) (es:List Nat) (last:Oper) (hl:l[m.length]?=some last) (hn:n≤w0.heap.size) (hm:P.follows .mixedOrders=true) (hB:mixB m es l=true)
  (h:∃ A,(∀ G,Stab G→Nonempty (InG n w0 G)→∀ R:Act→Prop,R A→wpQuiet P l.toArray (fun w'=>∃ s:InG n w0 G,w'=s.w) R (skip m l) a0)∧wpChain P Q l m.length (fun w=>Below n w0 w∧n≤w.heap.size) es A):(Code.region id l.toArray true).wp P Q a0 w0:=by
 obtain ⟨A,hq,hc⟩:=h;unfold mixB at hB;rw [F,F,F,List.all_eq_true] at hB;obtain ⟨⟨⟨hT,hes⟩,hcb⟩,hqe⟩:=hB;have hes:es=(z m.length).filter fun i=>m.getD i false:=by simpa using hes
 obtain ⟨hB,hcl,hch⟩:=tailB_parts hT;unfold monoB at hB;rw [F,List.all_eq_true] at hB;obtain ⟨hsel,hB⟩:=hB;have hkl:m.length<l.length:=(N.1 hl).1;have hB1:∀ i oi,l[i]?=some oi→_:=fun i oi hi=>by
  have:=hB i (List.mem_range.2 (N.1 hi).1);simp only [hi,F] at this;exact this
 have hdst:∀ i j oi oj d,l[i]?=some oi→l[j]?=some oj→oj.dst=some d→(i=j∨oi.dst≠some d)∧(d∈oi.looksAt l.toArray→depB oi j=true):=by
  intro i j oi oj d hi hj hd;have:=(hB1 i oi hi).2;rw [List.all_eq_true] at this;have:=this j (List.mem_range.2 (N.1 hj).1);simp only [hj,hd,F,Bool.or_eq_true,beq_iff_eq,bne_iff_ne,Bool.not_eq_true',List.contains_eq_mem,decide_eq_false_iff_not,ne_eq] at this;refine ⟨this.1,fun hm=>?_⟩
  rcases this.2 with h|h
  ·exact absurd hm (by simpa using h)
  ·exact h
 have hacyc:∀ i oi,l[i]?=some oi→∀ e∈oi.after,Region.binds .any e=true→e.on<i:=by
  intro i oi hi e he hb;have:=(hB1 i oi hi).1.1;rw [Array.all_eq_true'] at this;have:=this e he
  simpa [hb] using this
 have hdd:∀ (i j:Nat) (oi oj:Oper),l[i]?=some oi→l[j]?=some oj→i≠j→∀ t,oi.dst=some t→oj.dst≠some t:=fun i j oi oj hi hj hne t ht=>by
  rcases (hdst j i oj oi t hj hi ht).1 with h|h
  ·exact absurd h.symm hne
  ·exact h
 have hzero:∀ (L:Nat→Bool),(∀ j,L j=false)→∀ (l':List Oper) (k:Nat) (vs:Nat→Value) (a:Act),fr L vs l' k a=a:=by
  intro L hL l'
  induction l' with
  |nil=>intro k vs a;rfl
  |cons o l' ih=>
   intro k vs a;simp only [fr,hL k,Bool.false_eq_true,if_false];exact ih _ _ _
 have hvals:∀ G,Stab G→Nonempty (InG n w0 G)→∃ vs:Nat→Value,(∀ j,j<m.length→m.getD j false=false→∀ o,l[j]?=some o→YieldsIn P l.toArray (fun w'=>∃ s:InG n w0 G,w'=s.w) o (vs j) (fr (fun q=>decide (q<j)&&!m.getD q false) vs l 0 a0))∧fr (fun q=>decide (q<m.length)&&!m.getD q false) vs l 0 a0=A:=fun G hG hne=>by
  have h:=hq G hG hne (fun a'=>a'=A) rfl;rw [show a0=fr (fun q=>decide (q<0)&&!m.getD q false) (fun _=>undef) l 0 a0 from (hzero _ (fun j=>by simp) _ _ _ _).symm] at h;obtain ⟨vs,_,h2,h3⟩:=mix_vals (E:=fun q=>m.getD q false) hdd m l 0 (fun _=>undef) (by omega) (fun j=>by rw [Nat.zero_add]) (fun j _=>by rw [Nat.zero_add]) h;rw [Nat.zero_add] at h2 h3;exact ⟨vs,fun j hj hE o ho=>h2 j (Nat.zero_le _) hj hE o ho,h3⟩
 obtain ⟨vT,hvT,hA⟩:=hvals (fun _=>True) (fun _ _ _ _=>trivial) ⟨⟨w0,Below.refl n w0,hn,trivial⟩⟩;have hQ:QuietAll P l a0 w0 n m.length (fun q=>m.getD q false) vT:=fun G hG hne j hj hE o ho=>by
  obtain ⟨vs,hv,hA2⟩:=hvals G hG hne;have hpin:∀ j,j<m.length→m.getD j false=false→∀ o,l[j]?=some o→∀ d,o.dst=some d→d<a0.tmps.size→vs j=vT j:=fun j hj hE o ho d hd hlt=>by
   have h1:=fr_of (L:=fun q=>decide (q<m.length)&&!m.getD q false) (vs:=vs) l 0 j a0 o ho hd (by rw [Nat.zero_add,hE];simp [hj]) (fun i o' hi hne=>fun e=>hdd j i o o' ho hi (fun h=>hne h.symm) d hd e) hlt;have h2:=fr_of (L:=fun q=>decide (q<m.length)&&!m.getD q false) (vs:=vT) l 0 j a0 o ho hd (by rw [Nat.zero_add,hE];simp [hj]) (fun i o' hi hne=>fun e=>hdd j i o o' ho hi (fun h=>hne h.symm) d hd e) hlt;rw [hA2] at h1;rw [hA,h1,Nat.zero_add] at h2;exact Option.some.inj h2
  refine ⟨vs j,?_,fun a ha=>?_⟩
  ·have h1:=hv j hj hE o ho;rw [fr_congr3 (vs':=vT) l 0 a0 fun q o' d hL ho' hd hlt=>by
    rw [Nat.zero_add] at hL ⊢;simp only [F,decide_eq_true_eq,Bool.not_eq_true'] at hL;exact hpin q (by omega) hL.2 o' ho' d hd hlt] at h1
   exact h1
  ·cases hd:o.dst with
   |none=>rfl
   |some d=>
    by_cases hlt:d<a0.tmps.size
    ·rw [hpin j hj hE o ho d hd hlt]
    ·rw [←ha] at hlt;simp [Act.put,Array.setIfInBounds,hlt]
 have hrep:∀ j,(Array.replicate l.length false).getD j false=false:=fun k=>by
  rcases Nat.lt_or_ge k l.length with h|h
  ·simp [h]
  ·simp [Array.getElem?_eq_none (xs:=Array.replicate l.length false) (i:=k) (by simpa using h)]
 refine wp_region_any hm ?_;have hmain:=mix_any (P:=P) (Q:=Q) (a0:=a0) (w0:=w0) (n:=n) (E:=fun q=>m.getD q false) hl hsel hacyc hcl hch hdst (fun j o hj hE ho e he hEe=>by
  have:=hqe j (List.mem_range.2 hj);rw [hE,ho] at this;simp only [Bool.false_or,List.all_eq_true,List.mem_range] at this;have:=this e he;rw [hEe] at this
  simpa using this) vT hQ l.length (Array.replicate l.length false) vT {w0 with drawn:=w0.drawn+1} (fun w=>Below n w0 w∧n≤w.heap.size) es (by simp)
  (fun i _ _ h=>by rw [hrep i] at h;cases h) (fun j _=>hrep j) (fun W W' ⟨h1,h2⟩ hb=>⟨h1.trans (hb.mono h2),O h2 hb.size⟩) ⟨(Below.refl n w0).drew,hn⟩ (fun _ h=>h) hcb (fun i=>by rw [hes,hrep i];simp) (by rw [hes];exact List.nodup_range.filter _) (fun _ _ _=>rfl) (by
   rw [fr_congr (L':=fun q=>decide (q<m.length)&&!m.getD q false) (vs':=vT) l 0 a0 fun j _=>⟨by rw [hrep j];simp,rfl⟩,hA];exact hc) (by
   have:=List.countP_le_length (p:=fun i=>!(Array.replicate l.length false).getD i false) (l:=z l.length)
   simpa using this)
 rw [hzero _ (fun j=>hrep j)] at hmain
 simpa using hmain
theorem wpChain_cons {k:Nat} {C:World→Prop} {e:Nat} {es:List Nat} {a:Act} (o:Oper) (ho:l[e]?=some o) (hg:o.guard=none) {α:Type} (val:α→Value) (T:α→World→Prop) (hT:∀ x,Stab (T x))
  (h1:∀ w,C w→gives P o a.eval w (fun v w'=>Below w.heap.size w w'∧∃ x,v=val x∧T x w')) (h2:∀ x,wpChain P Q l k (fun w=>C w∧T x w) es (a.put o.dst (val x))):wpChain P Q l k C (e::es) a:=by
 refine ⟨α,val,T,hT,fun o' ho'=>?_⟩;rw [ho] at ho';cases ho'
 refine ⟨fun w hw=>?_,h2⟩;unfold stepsTo;rw [if_pos (by simp [Region.wanted,hg])];exact h1 w hw
theorem wpChain_nil {k:Nat} {C:World→Prop} {a:Act} (h:∀ w,C w→wpList P l.toArray Q (l.drop k) a w):wpChain P Q l k C [] a:=fun w hw=>⟨h w hw⟩
theorem gives_enter {o:Oper} {ev:Operand→Value} {w:World} {R:Value→World→Prop} {f:FuncId} {args:Array Value} (h:(execOp ev o).run P w=.ok (.enter f args) w) (hc:Calls P f args w (fun e w''=>∃ v,e=.returned v∧R v w'')):gives P o ev w R:=by
 unfold gives;rw [h];exact hc
end
end Go.Bx
namespace Go.Proofs.YtgodhpampaleeaaGreatDoor
open Go.RowKit Go.Bx Go.Od Go.Hp
abbrev bfv (r:Rc) (s:Value):Value:=.agg #[Y X r.x0,Y X r.y0,Y X r.x1,Y X r.y1,s]
abbrev bfc (r:Rc) (s:Value):List Value:=(qS r.x0 r.y0 r.x1 r.y1 s)
abbrev pxc (p:Px):List Value:=(qU p.r p.g p.b p.a)
def pxs (l:List Px):List Value:=(l.map pxc).flatten
theorem pxs_snoc (l:List Px) (p:Px):pxs (l++[p])=pxs l++pxc p:=by simp [pxs]
theorem pxs_at (l:List Px) (i:Nat) (p:Px) (h:l[i]?=some p):((pxs l).drop (i*4)).take 4=pxc p:=
 flat_at (sz:=4) _ (fun cs hc=>by obtain ⟨p,_,rfl⟩:=List.mem_map.1 hc;rfl) i _ (by rw [List.getElem?_map,h];rfl)
structure BfV (w:World) (b:Bf) (s:Value):Prop where
 sl:SlOf RPx 4 (·<w.heap.size) w s b.pix
 ok:BfOk b
 pl:RcP b.box
theorem BfV.below {w w':World} {b:Bf} {s:Value} (h:BfV w b s) (hb:Below w.heap.size w w'):BfV w' b s:=
 ⟨(h.sl.same RPx.ok (Same.of_below hb fun _ h=>h)).mono RPx.ok fun _ h=>Nat.lt_of_lt_of_le h hb.size,h.ok,h.pl⟩
def BPost (w:World) (Q:Bf→Prop) (e:Ending) (w':World):Prop:=∃ (b:Bf) (a:Option Addr) (n c:Nat),e=.returned (bfv b.box (.slice a n c))∧Below w.heap.size w w'∧BfV w' b (.slice a n c)∧Q b
theorem BfV.nil (w:World):BfV w ⟨Rc.zero,[]⟩ (.slice none 0 0):=
 ⟨⟨none,0,rfl,Z _,by decide,.inl rfl⟩,⟨rfl,fun p h=>(List.not_mem_nil h).elim⟩,zero_pl⟩
def WithPost (w:World) (B:Nat) (r:Rc) (s:Value) (n:Nat) (l:List Px) (p:Px) (e:Ending) (w':World):Prop:=
 ∃ g c,e=.returned (bfv r (.slice (some ⟨g,0,none⟩) (n+1) c))∧w'.ownsRow B 27 4 (.slice (some ⟨g,0,none⟩) (n+1) c) (n+1) (pxs (l++[p]))∧w.grownBy w' s.ownBlock
theorem own_pxs {w:World} {B:Nat} {v:Value} {l:List Px} (h:w.ownsRow B 27 4 v l.length (pxs l)) (hp:∀ p∈l,p.Ok):SlOf RPx 4 (·<w.heap.size) w v l:=
 own_read (by decide) h rfl fun i x hx=>⟨pxs_at l i x hx,hp x (M hx)⟩
theorem RowP.put {r:Rc} {Pf:Int→Int→Px→Prop} {n:Nat} {l:List Px} (h:RowP r Pf n l) {p:Px} (hp:p.Ok) (hP:∀ x y,hasR r x y=true→(ixB r x y).toNat=n→Pf x y p):RowP r Pf (n+1) (l++[p]):=by
 refine ⟨by rw [List.length_append,h.1];rfl,fun q hq=>?_,fun u v huv hlt=>?_⟩
 ·rcases List.mem_append.1 hq with hq|hq
  ·exact h.2.1 q hq
  ·rw [List.mem_singleton.1 hq];exact hp
 ·by_cases e:(ixB r u v).toNat<n
  ·have:(l++[p]).getD (ixB r u v).toNat Px.zero=l.getD (ixB r u v).toNat Px.zero:=by
    rw [D,D,List.getElem?_append_left (by rw [h.1];exact e)]
   rw [this];exact h.2.2 u v huv e
  ·have e1:(ixB r u v).toNat=n:=by omega
   have:(l++[p]).getD n Px.zero=p:=by
    rw [D,List.getElem?_append_right (by rw [h.1];exact Z _),h.1,Nat.sub_self];rfl
   rw [e1,this];exact hP u v huv e1
structure Mkg (w W:World) (bag:List (Nat×List Value)) (B:Nat) (r:Rc) (Pf:Int→Int→Px→Prop) (n:Nat) (s:Value) (l:List Px):Prop where
 bg:Bag w W bag
 lt:∀ p∈bag,p.1<B
 own:W.ownsRow B 27 4 s l.length (pxs l)
 row:RowP r Pf n l
 lo:w.heap.size≤B
 hi:B≤W.heap.size
theorem Mkg.start {w W:World} {bag:List (Nat×List Value)} (r:Rc) (Pf:Int→Int→Px→Prop) (h:Bag w W bag):Mkg w W bag W.heap.size r Pf 0 (.slice none 0 0) []:=
 ⟨h,h.lt,World.ownsRow_nil _ _ _ _,RowP.nil _ _,h.below.size,Z _⟩
theorem Mkg.call {w W W':World} {bag:List (Nat×List Value)} {B:Nat} {r:Rc} {Pf:Int→Int→Px→Prop} {n:Nat} {s:Value} {l:List Px} (h:Mkg w W bag B r Pf n s l) (hb:Below W.heap.size W W'):Mkg w W' bag B r Pf n s l:=
 ⟨h.bg.call hb,h.lt,owns_below h.own hb (Z _),h.row,h.lo,O h.hi hb.size⟩
theorem ix_pin {r:Rc} {u v x y:Int} (h1:hasR r u v=true) (h2:hasR r x y=true) (h:(ixB r u v).toNat=cnt r x y):u=x∧v=y:=by
 have b1:=ixB_bd h1;have b2:=ixB_bd h2;unfold cnt at h;have e2:ixB r u v=ixB r x y:=by omega
 rw [hasR_iff] at h1 h2;unfold ixB at e2;obtain ⟨e3,e4⟩:=ix_inj (w:=r.x1-r.x0) (i:=u-r.x0) (i':=x-r.x0) (j:=v-r.y0) (j':=y-r.y0) (by omega) (by omega) e2;exact ⟨by omega,by omega⟩
theorem Mkg.with {w W W':World} {bag:List (Nat×List Value)} {B:Nat} {r:Rc} {Pf:Int→Int→Px→Prop} {n:Nat} {s s':Value} {l:List Px} {p:Px} (h:Mkg w W bag B r Pf n s l)
  (hown:W'.ownsRow B 27 4 s' (n+1) (pxs (l++[p]))) (hg:W.grownBy W' s.ownBlock) (hp:p.Ok) (hP:∀ x y,hasR r x y=true→(ixB r x y).toNat=n→Pf x y p):Mkg w W' bag B r Pf (n+1) s' (l++[p]):=
 ⟨h.bg.grown hg h.own h.lt h.lo,h.lt,by rw [List.length_append,h.row.1];exact hown,h.row.put hp hP,h.lo,O h.hi hg.size⟩
theorem Mkg.next {w W W':World} {bag:List (Nat×List Value)} {B:Nat} {r:Rc} {Pf:Int→Int→Px→Prop} {n:Nat} {s s':Value} {l:List Px} {p:Px} (h:Mkg w W bag B r Pf n s l)
  (hown:W'.ownsRow B 27 4 s' (n+1) (pxs (l++[p]))) (hg:W.grownBy W' s.ownBlock) (hp:p.Ok) {x y:Int} (hxy:hasR r x y=true) (hn:n=cnt r x y) (hP:Pf x y p):Mkg w W' bag B r Pf (n+1) s' (l++[p]):=
 h.with hown hg hp fun u v h1 h2=>by
  obtain ⟨rfl,rfl⟩:=ix_pin h1 hxy (by rw [h2,hn]);exact hP
theorem Mkg.own' {w W:World} {bag:List (Nat×List Value)} {B:Nat} {r:Rc} {Pf:Int→Int→Px→Prop} {n:Nat} {s:Value} {l:List Px} (h:Mkg w W bag B r Pf n s l):W.ownsRow B 27 4 s n (pxs l):=by rw [←h.row.1];exact h.own
theorem Mkg.set {w W:World} {bag:List (Nat×List Value)} {B:Nat} {r:Rc} {Pf:Int→Int→Px→Prop} {n:Nat} {s:Value} {l:List Px} (h:Mkg w W bag B r Pf n s l) (i:Nat) {a:Nat} {cs:List Value} (hi:bag[i]?=some (a,cs)) (j:Nat) (v:Value):
  Mkg w (W.setCell ⟨a,j,none⟩ v) (bag.set i (a,cs.set j v)) B r Pf n s l:=by
 have ha:=h.lt _ (M hi);refine ⟨h.bg.set i hi _ _,fun p hp=>?_,owns_set h.own (by exact ha) _,h.row,h.lo,by rw [size_set];exact h.hi⟩
 rcases List.mem_or_eq_of_mem_set hp with h2|rfl
 ·exact h.lt p h2
 ·exact ha
theorem Mkg.alloc {w W:World} {bag:List (Nat×List Value)} {B:Nat} {r:Rc} {Pf:Int→Int→Px→Prop} {n:Nat} {s:Value} {l:List Px} (h:Mkg w W bag B r Pf n s l) (o:Obj):Mkg w (W.alloc o) bag B r Pf n s l:=h.call (below_alloc W o)
theorem Mkg.le {w W:World} {bag:List (Nat×List Value)} {B:Nat} {r:Rc} {Pf:Int→Int→Px→Prop} {n:Nat} {s:Value} {l:List Px} (h:Mkg w W bag B r Pf n s l) {x y:Int} (hxy:hasR r x y=true) (hn:n=cnt r x y) (ha:areaN r≤2000000):n<2000000:=by
 have:=(ixB_bd hxy).2;unfold cnt at hn;omega
theorem bag_set5 {w W:World} {l:List (Nat×List Value)} (h:Bag w W l) (i:Nat) {a:Nat} {v0 v1 v2 v3 v4:Value} (hi:l[i]?=some (a,[v0,v1,v2,v3,v4])) (u0 u1 u2 u3 u4:Value):
  Bag w (((((W.setCell ⟨a,0,none⟩ u0).setCell ⟨a,1,none⟩ u1).setCell ⟨a,2,none⟩ u2).setCell ⟨a,3,none⟩ u3).setCell ⟨a,4,none⟩ u4) (l.set i (a,[u0,u1,u2,u3,u4])):=by
 have hil:=(N.1 hi).1;have h0:=h.set i hi 0 u0;have h1:=h0.set i (List.getElem?_set_self hil) 1 u1;have h2:=h1.set i (List.getElem?_set_self (by simpa using hil)) 2 u2;have h3:=h2.set i (List.getElem?_set_self (by simpa using hil)) 3 u3;have h4:=h3.set i (List.getElem?_set_self (by simpa using hil)) 4 u4
 simpa using h4
theorem owns_set5 {W:World} {B:Nat} {e:TypeId} {size:Nat} {s:Value} {n:Nat} {xs:List Value} (h:W.ownsRow B e size s n xs) {a:Nat} (ha:a<B) (u0 u1 u2 u3 u4:Value):
  (((((W.setCell ⟨a,0,none⟩ u0).setCell ⟨a,1,none⟩ u1).setCell ⟨a,2,none⟩ u2).setCell ⟨a,3,none⟩ u3).setCell ⟨a,4,none⟩ u4).ownsRow B e size s n xs:=
 owns_set (owns_set (owns_set (owns_set (owns_set h (by exact ha) _) (by exact ha) _) (by exact ha) _) (by exact ha) _) (by exact ha) _
theorem Mkg.set5 {w W:World} {bag:List (Nat×List Value)} {B:Nat} {r:Rc} {Pf:Int→Int→Px→Prop} {n:Nat} {s:Value} {l:List Px} (h:Mkg w W bag B r Pf n s l) (i:Nat) {a:Nat} {v0 v1 v2 v3 v4:Value} (hi:bag[i]?=some (a,[v0,v1,v2,v3,v4])) (u0 u1 u2 u3 u4:Value):
  Mkg w (((((W.setCell ⟨a,0,none⟩ u0).setCell ⟨a,1,none⟩ u1).setCell ⟨a,2,none⟩ u2).setCell ⟨a,3,none⟩ u3).setCell ⟨a,4,none⟩ u4) (bag.set i (a,[u0,u1,u2,u3,u4])) B r Pf n s l:=by
 have ha:=h.lt _ (M hi);refine ⟨bag_set5 h.bg i hi _ _ _ _ _,fun p hp=>?_,owns_set5 h.own ha _ _ _ _ _,h.row,h.lo,?_⟩
 ·rcases List.mem_or_eq_of_mem_set hp with h2|rfl
  ·exact h.lt p h2
  ·exact ha
 ·simp only [size_set];exact h.hi
theorem Mkg.done {w W:World} {bag:List (Nat×List Value)} {B:Nat} {r:Rc} {Pf:Int→Int→Px→Prop} {s:Value} {l:List Px} (h:Mkg w W bag B r Pf (areaN r) s l) (hr:RcP r):BfV W ⟨r,l⟩ s:=
 ⟨own_pxs h.own h.row.2.1,h.row.ok,hr⟩
end Go.Proofs.YtgodhpampaleeaaGreatDoor
namespace Go.Proofs.YtgodhpampaleeaaGreatDoor
open Go.RowKit Go.Bx Go.Od Go.Hp
attribute [local go_sem ↓] Go.wp_at_zero Go.wp_at_succ
def cmpN (op x y p q:Int):Int:=if op=0 then x+mulU y (255-p) else if op=1 then mulU x q else if op=2 then mulU x (255-q) else if op=3 then mulU x q+mulU y (255-p) else if op=4 then mulU x (255-q)+mulU y (255-p) else 0
def cmpC (op x y p q:Int):Int:=cutU (cmpN op x y p q)
def cmpP (op:Int) (a b:Px):Px:=⟨cmpC op a.r b.r a.a b.a,cmpC op a.g b.g a.a b.a,cmpC op a.b b.b a.a b.a,cmpC op a.a b.a a.a b.a⟩
def ch (p:Px) (j:Nat):Int:=match j with
 |0=>p.r
 |1=>p.g
 |2=>p.b
 |_=>p.a
theorem ch_byte {p:Px} (h:p.Ok) (j:Nat):Byte (ch p j):=by
 unfold ch
 split
 ·exact h.1
 ·exact h.2.1
 ·exact h.2.2.1
 ·exact h.2.2.2
theorem pxc_get (p:Px) (j:Nat) (h:j<4):(pxc p)[j]?=some (Y J (ch p j)):=by
 match j,h with
 |0,_=>rfl
 |1,_=>rfl
 |2,_=>rfl
 |3,_=>rfl
def upC (f:Nat→Int) (j:Nat):List Value:=(qU (if 0<j then f 0 else 0) (if 1<j then f 1 else 0) (if 2<j then f 2 else 0) (if 3<j then f 3 else 0))
theorem upC_set (f:Nat→Int) (j:Nat) (h:j<4):(upC f j).set j (Y J (f j))=upC f (j+1):=by
 match j,h with
 |0,_=>rfl
 |1,_=>rfl
 |2,_=>rfl
 |3,_=>rfl
theorem upC_get (f:Nat→Int) (j:Nat) (h:j<4):(upC f j)[j]?=some (Y J 0):=by
 match j,h with
 |0,_=>rfl
 |1,_=>rfl
 |2,_=>rfl
 |3,_=>rfl
def cmpF (op:Int) (a b:Px) (j:Nat):Int:=cmpC op (ch a j) (ch b j) a.a b.a
theorem cmpP_ok (op:Int) (a b:Px):(cmpP op a b).Ok:=⟨cutU_byte _,cutU_byte _,cutU_byte _,cutU_byte _⟩
theorem cmpC_zero (op p q:Int):cmpC op 0 0 p q=0:=by
 unfold cmpC cmpN;simp only [mulU,Int.zero_mul,Int.zero_add];have:(127:Int)/255=0:=by decide
 simp only [this,Int.add_zero];unfold cutU
 split<;>(try split)<;>(try split)<;>(try split)<;>(try split)<;>omega
theorem cmpP_zero (op:Int):cmpP op Px.zero Px.zero=Px.zero:=by
 unfold cmpP Px.zero;simp only [cmpC_zero]
theorem by255 {x:Int} (h:Byte x):Byte (255-x):=by unfold Byte at *;omega
theorem ret_u8 {P:Program} {f:FuncId} {args:Array Value} {W:World} {a b:Int} (h:Calls P f args W (PPost W (Y J a))) (e:a=b):Calls P f args W (PPost W (Y J b)):=e▸h
theorem bag4 (w:World) (cs ds es fs:List Value) (t u v x:TypeId):Bag w ((((w.alloc (.cells cs.toArray t)).alloc (.cells ds.toArray u)).alloc (.cells es.toArray v)).alloc (.cells fs.toArray x)) [(w.heap.size,cs),(w.heap.size+1,ds),(w.heap.size+1+1,es),(w.heap.size+1+1+1,fs)]:=by
 have h:=(bag3 w cs ds es t u v).alloc fs x;simp only [size_alloc,List.cons_append,List.nil_append] at h;exact h
theorem comp06_c (op:Int) (a b:Px) (w:World) (ha:a.Ok) (hb:b.Ok):Calls Tryz.prog 99 #[Y X op,pxv a,pxv b] w (PPost w (pxv (cmpP op a b))):=by
 obtain ⟨a0,a1,a2,a3⟩:=a;obtain ⟨b0,b1,b2,b3⟩:=b;have HA:Hid ((Byte a0∧Byte a1∧Byte a2∧Byte a3)∧Byte b0∧Byte b1∧Byte b2∧Byte b3):=⟨ha,hb⟩;have H0:Hid (Bag w ((((w.alloc (.cells #[Y J a0,Y J a1,Y J a2,Y J a3] 27)).alloc (.cells #[Y J b0,Y J b1,Y J b2,Y J b3] 27)).alloc (.cells #[Y J 0,Y J 0,Y J 0,Y J 0] 27)).alloc (.cells #[Y J 0,Y J 0,Y J 0,Y J 0] 27)) [(w.heap.size,pxc ⟨a0,a1,a2,a3⟩),(w.heap.size+1,pxc ⟨b0,b1,b2,b3⟩),(w.heap.size+1+1,zU),(w.heap.size+1+1+1,upC (cmpF op ⟨a0,a1,a2,a3⟩ ⟨b0,b1,b2,b3⟩) 0)]):=bag4 w (pxc ⟨a0,a1,a2,a3⟩) (pxc ⟨b0,b1,b2,b3⟩) zU (upC (cmpF op ⟨a0,a1,a2,a3⟩ ⟨b0,b1,b2,b3⟩) 0) _ _ _ _;clear ha hb;go_enter Tryz.func99,Tryz.ntmps99;go_wp2_with fail;generalize ((((w.alloc (.cells #[Y J a0,Y J a1,Y J a2,Y J a3] 27)).alloc (.cells #[Y J b0,Y J b1,Y J b2,Y J b3] 27)).alloc (.cells #[Y J 0,Y J 0,Y J 0,Y J 0] 27)).alloc (.cells #[Y J 0,Y J 0,Y J 0,Y J 0] 27))=W0 at *;go_loopw [8,9,10,11,12] (fun jv _ _ _ _ wr=>∃ j:Nat,j≤4∧jv=Y X j∧Bag w wr [(w.heap.size,pxc ⟨a0,a1,a2,a3⟩),(w.heap.size+1,pxc ⟨b0,b1,b2,b3⟩),(w.heap.size+1+1,zU),(w.heap.size+1+1+1,upC (cmpF op ⟨a0,a1,a2,a3⟩ ⟨b0,b1,b2,b3⟩) j)]) (fun jv _ _ _ _ _=>4-(intOf jv).toNat)
 case atStart=>exact ⟨0,by omega,rfl,H0.o⟩
 case round=>
  obtain ⟨j,hj,rfl,hr⟩:=hrel;have H1:=S hr;clear hr H0;by_cases hj4:j<4
  ·obtain ⟨x,hxx⟩:∃ x,x=ch ⟨a0,a1,a2,a3⟩ j:=⟨_,rfl⟩;obtain ⟨y,hyy⟩:∃ y,y=ch ⟨b0,b1,b2,b3⟩ j:=⟨_,rfl⟩;have HX:Hid (x=ch ⟨a0,a1,a2,a3⟩ j∧y=ch ⟨b0,b1,b2,b3⟩ j∧j<4):=⟨hxx,hyy,hj4⟩;have hx:Byte x:=by rw [hxx];exact ch_byte (p:=⟨a0,a1,a2,a3⟩) HA.o.1 j
   have hy:Byte y:=by rw [hyy];exact ch_byte (p:=⟨b0,b1,b2,b3⟩) HA.o.2 j
   clear hxx hyy;have hj0:(0:Int)≤(j:Int):=by omega
   have hj1:(j:Int)<4:=by omega
   have hp:Byte a3:=HA.o.1.2.2.2;have hq:Byte b3:=HA.o.2.2.2.2;obtain ⟨m1,h1⟩:∃ m,m=mulU x b3:=⟨_,rfl⟩;obtain ⟨m2,h2⟩:∃ m,m=mulU x (255-b3):=⟨_,rfl⟩;obtain ⟨m3,h3⟩:∃ m,m=mulU y (255-a3):=⟨_,rfl⟩;obtain ⟨V,hV⟩:∃ V,V=cmpC op x y a3 b3:=⟨_,rfl⟩;have HB1:Hid (∀ W,Calls Tryz.prog 100 #[Y J x,Y J b3] W (PPost W (Y X m1))):=fun W=>by rw [h1];exact by06_c _ _ W hx hq
   have HB2:Hid (∀ W,Calls Tryz.prog 100 #[Y J x,Y J (255-b3)] W (PPost W (Y X m2))):=fun W=>by rw [h2];exact by06_c _ _ W hx (by255 hq)
   have HB3:Hid (∀ W,Calls Tryz.prog 100 #[Y J y,Y J (255-a3)] W (PPost W (Y X m3))):=fun W=>by rw [h3];exact by06_c _ _ W hy (by255 hp)
   have HV:Hid (V=cutU (if op=0 then x+m3 else if op=1 then m1 else if op=2 then m2 else if op=3 then m1+m3 else if op=4 then m2+m3 else 0)):=by rw [h1,h2,h3];exact hV
   have HVJ:Hid (V=cmpF op ⟨a0,a1,a2,a3⟩ ⟨b0,b1,b2,b3⟩ j):=by unfold cmpF;rw [←HX.o.1,←HX.o.2.1];exact hV
   have y1:Byte m1:=by rw [h1];exact mulU_byte hx hq
   have y2:Byte m2:=by rw [h2];exact mulU_byte hx (by255 hq)
   have y3:Byte m3:=by rw [h3];exact mulU_byte hy (by255 hp)
   clear h1 h2 h3 hV;unfold Byte at hx hy hp hq y1 y2 y3;have gp:IntKind.u8.wrap (255-a3)=255-a3:=by unfold IntKind.wrap;simp [IntKind.signed,IntKind.bits];omega
   have gq:IntKind.u8.wrap (255-b3)=255-b3:=by unfold IntKind.wrap;simp [IntKind.signed,IntKind.bits];omega
   obtain ⟨x0,x1⟩:=hx;obtain ⟨y0,y4⟩:=hy;obtain ⟨m10,m11⟩:=y1;obtain ⟨m20,m21⟩:=y2;obtain ⟨m30,m31⟩:=y3;have cx:wr.cell? ⟨w.heap.size,j,none⟩=some (Y J x):=H1.o.cell 0 rfl j (by rw [HX.o.1];exact pxc_get _ _ HX.o.2.2);have cp:=H1.o.cell 0 rfl 3 rfl;have cy:wr.cell? ⟨w.heap.size+1,j,none⟩=some (Y J y):=H1.o.cell 1 rfl j (by rw [HX.o.2.1];exact pxc_get _ _ HX.o.2.2);have cq:=H1.o.cell 1 rfl 3 rfl;obtain ⟨kcx,kcp,kcy,kcq⟩:=kept4 cx cp cy cq;clear cx cp cy cq;go_wp2_with fail;refine wp_region_kept wr.heap.size (by kernel_rfl) (by kernel_rfl) ?_
   repeat (go_big_quiet_step (first
    |(go_at_call 100;with_reducible exact Calls.kept _ (Z _) (HB1.o _))))
   refine wpQuiet_nil ?_;rintro _ ⟨s1,rfl⟩;have H2:=S (H1.o.call s1.below);clear kcx kcp kcy kcq;have cx:s1.w.cell? ⟨w.heap.size,j,none⟩=some (Y J x):=H2.o.cell 0 rfl j (by rw [HX.o.1];exact pxc_get _ _ HX.o.2.2);have cp:=H2.o.cell 0 rfl 3 rfl;have cy:s1.w.cell? ⟨w.heap.size+1,j,none⟩=some (Y J y):=H2.o.cell 1 rfl j (by rw [HX.o.2.1];exact pxc_get _ _ HX.o.2.2);have cq:=H2.o.cell 1 rfl 3 rfl;obtain ⟨kcx,kcp,kcy,kcq⟩:=kept4 cx cp cy cq;clear cx cp cy cq;go_wp2_with fail;refine wp_region_kept s1.w.heap.size (by kernel_rfl) (by kernel_rfl) ?_
   repeat (go_big_quiet_step (first
    |(go_at_call 100;with_reducible exact Calls.kept _ (Z _) (HB2.o _))))
   refine wpQuiet_nil ?_;rintro _ ⟨s2,rfl⟩;have H3:=S (H2.o.call s2.below);clear kcx kcp kcy kcq;have cx:s2.w.cell? ⟨w.heap.size,j,none⟩=some (Y J x):=H3.o.cell 0 rfl j (by rw [HX.o.1];exact pxc_get _ _ HX.o.2.2);have cp:=H3.o.cell 0 rfl 3 rfl;have cy:s2.w.cell? ⟨w.heap.size+1,j,none⟩=some (Y J y):=H3.o.cell 1 rfl j (by rw [HX.o.2.1];exact pxc_get _ _ HX.o.2.2);have cq:=H3.o.cell 1 rfl 3 rfl;obtain ⟨kcx,kcp,kcy,kcq⟩:=kept4 cx cp cy cq;clear cx cp cy cq;go_wp2_with fail;refine wp_region_kept s2.w.heap.size (by kernel_rfl) (by kernel_rfl) ?_
   repeat (go_big_quiet_step (first
    |(go_at_call 100;with_reducible exact Calls.kept _ (Z _) (HB3.o _))))
   refine wpQuiet_nil ?_;rintro _ ⟨s3,rfl⟩;have H4:=S (H3.o.call s3.below);clear kcx kcp kcy kcq H1 H2 H3 HB1 HB2 HB3;have cx:s3.w.cell? ⟨w.heap.size,j,none⟩=some (Y J x):=H4.o.cell 0 rfl j (by rw [HX.o.1];exact pxc_get _ _ HX.o.2.2);have cp:=H4.o.cell 0 rfl 3 rfl;have cy:s3.w.cell? ⟨w.heap.size+1,j,none⟩=some (Y J y):=H4.o.cell 1 rfl j (by rw [HX.o.2.1];exact pxc_get _ _ HX.o.2.2);have cq:=H4.o.cell 1 rfl 3 rfl;by_cases t0:op=0
   ·subst t0;have HC:Hid (∀ W,Calls Tryz.prog 101 #[Y X (x+m3)] W (PPost W (Y J V))):=fun W=>ret_u8 (cut01_c (x+m3) W) (by have h:=HV.o;simp [] at h;exact h.symm);go_wp2_with fail;refine (HC.o _).mono ?_;rintro e W5 ⟨rfl,hb5⟩;have H5:=S (H4.o.call hb5);have c0:W5.cell? ⟨w.heap.size+1+1+1,j,none⟩=some (Y J 0):=H5.o.cell 3 rfl j (upC_get _ _ HX.o.2.2);have f0:=H5.o.frozen 3 rfl j;have H6:Hid (Bag w (W5.setCell ⟨w.heap.size+1+1+1,j,none⟩ (Y J V)) [(w.heap.size,pxc ⟨a0,a1,a2,a3⟩),(w.heap.size+1,pxc ⟨b0,b1,b2,b3⟩),(w.heap.size+1+1,zU),(w.heap.size+1+1+1,upC (cmpF 0 ⟨a0,a1,a2,a3⟩ ⟨b0,b1,b2,b3⟩) (j+1))]):=by
     rw [HVJ.o];have h:=H5.o.set 3 rfl j (Y J (cmpF 0 ⟨a0,a1,a2,a3⟩ ⟨b0,b1,b2,b3⟩ j));rw [upC_set _ _ HX.o.2.2] at h;exact h
    clear hb5 H4 H5 HC;go_wp2_with fail;go_roundw
    case rel=>exact ⟨j+1,by omega,by go_num,H6.o⟩
    case measure=>simp [intOf];omega
   by_cases t1:op=1
   ·subst t1;have HC:Hid (∀ W,Calls Tryz.prog 101 #[Y X (m1)] W (PPost W (Y J V))):=fun W=>ret_u8 (cut01_c (m1) W) (by have h:=HV.o;simp [] at h;exact h.symm);go_wp2_with fail;refine (HC.o _).mono ?_;rintro e W5 ⟨rfl,hb5⟩;have H5:=S (H4.o.call hb5);have c0:W5.cell? ⟨w.heap.size+1+1+1,j,none⟩=some (Y J 0):=H5.o.cell 3 rfl j (upC_get _ _ HX.o.2.2);have f0:=H5.o.frozen 3 rfl j;have H6:Hid (Bag w (W5.setCell ⟨w.heap.size+1+1+1,j,none⟩ (Y J V)) [(w.heap.size,pxc ⟨a0,a1,a2,a3⟩),(w.heap.size+1,pxc ⟨b0,b1,b2,b3⟩),(w.heap.size+1+1,zU),(w.heap.size+1+1+1,upC (cmpF 1 ⟨a0,a1,a2,a3⟩ ⟨b0,b1,b2,b3⟩) (j+1))]):=by
     rw [HVJ.o];have h:=H5.o.set 3 rfl j (Y J (cmpF 1 ⟨a0,a1,a2,a3⟩ ⟨b0,b1,b2,b3⟩ j));rw [upC_set _ _ HX.o.2.2] at h;exact h
    clear hb5 H4 H5 HC;go_wp2_with fail;go_roundw
    case rel=>exact ⟨j+1,by omega,by go_num,H6.o⟩
    case measure=>simp [intOf];omega
   by_cases t2:op=2
   ·subst t2;have HC:Hid (∀ W,Calls Tryz.prog 101 #[Y X (m2)] W (PPost W (Y J V))):=fun W=>ret_u8 (cut01_c (m2) W) (by have h:=HV.o;simp [] at h;exact h.symm);go_wp2_with fail;refine (HC.o _).mono ?_;rintro e W5 ⟨rfl,hb5⟩;have H5:=S (H4.o.call hb5);have c0:W5.cell? ⟨w.heap.size+1+1+1,j,none⟩=some (Y J 0):=H5.o.cell 3 rfl j (upC_get _ _ HX.o.2.2);have f0:=H5.o.frozen 3 rfl j;have H6:Hid (Bag w (W5.setCell ⟨w.heap.size+1+1+1,j,none⟩ (Y J V)) [(w.heap.size,pxc ⟨a0,a1,a2,a3⟩),(w.heap.size+1,pxc ⟨b0,b1,b2,b3⟩),(w.heap.size+1+1,zU),(w.heap.size+1+1+1,upC (cmpF 2 ⟨a0,a1,a2,a3⟩ ⟨b0,b1,b2,b3⟩) (j+1))]):=by
     rw [HVJ.o];have h:=H5.o.set 3 rfl j (Y J (cmpF 2 ⟨a0,a1,a2,a3⟩ ⟨b0,b1,b2,b3⟩ j));rw [upC_set _ _ HX.o.2.2] at h;exact h
    clear hb5 H4 H5 HC;go_wp2_with fail;go_roundw
    case rel=>exact ⟨j+1,by omega,by go_num,H6.o⟩
    case measure=>simp [intOf];omega
   by_cases t3:op=3
   ·subst t3;have HC:Hid (∀ W,Calls Tryz.prog 101 #[Y X (m1+m3)] W (PPost W (Y J V))):=fun W=>ret_u8 (cut01_c (m1+m3) W) (by have h:=HV.o;simp [] at h;exact h.symm);go_wp2_with fail;refine (HC.o _).mono ?_;rintro e W5 ⟨rfl,hb5⟩;have H5:=S (H4.o.call hb5);have c0:W5.cell? ⟨w.heap.size+1+1+1,j,none⟩=some (Y J 0):=H5.o.cell 3 rfl j (upC_get _ _ HX.o.2.2);have f0:=H5.o.frozen 3 rfl j;have H6:Hid (Bag w (W5.setCell ⟨w.heap.size+1+1+1,j,none⟩ (Y J V)) [(w.heap.size,pxc ⟨a0,a1,a2,a3⟩),(w.heap.size+1,pxc ⟨b0,b1,b2,b3⟩),(w.heap.size+1+1,zU),(w.heap.size+1+1+1,upC (cmpF 3 ⟨a0,a1,a2,a3⟩ ⟨b0,b1,b2,b3⟩) (j+1))]):=by
     rw [HVJ.o];have h:=H5.o.set 3 rfl j (Y J (cmpF 3 ⟨a0,a1,a2,a3⟩ ⟨b0,b1,b2,b3⟩ j));rw [upC_set _ _ HX.o.2.2] at h;exact h
    clear hb5 H4 H5 HC;go_wp2_with fail;go_roundw
    case rel=>exact ⟨j+1,by omega,by go_num,H6.o⟩
    case measure=>simp [intOf];omega
   by_cases t4:op=4
   ·subst t4;have HC:Hid (∀ W,Calls Tryz.prog 101 #[Y X (m2+m3)] W (PPost W (Y J V))):=fun W=>ret_u8 (cut01_c (m2+m3) W) (by have h:=HV.o;simp [] at h;exact h.symm);go_wp2_with fail;refine (HC.o _).mono ?_;rintro e W5 ⟨rfl,hb5⟩;have H5:=S (H4.o.call hb5);have c0:W5.cell? ⟨w.heap.size+1+1+1,j,none⟩=some (Y J 0):=H5.o.cell 3 rfl j (upC_get _ _ HX.o.2.2);have f0:=H5.o.frozen 3 rfl j;have H6:Hid (Bag w (W5.setCell ⟨w.heap.size+1+1+1,j,none⟩ (Y J V)) [(w.heap.size,pxc ⟨a0,a1,a2,a3⟩),(w.heap.size+1,pxc ⟨b0,b1,b2,b3⟩),(w.heap.size+1+1,zU),(w.heap.size+1+1+1,upC (cmpF 4 ⟨a0,a1,a2,a3⟩ ⟨b0,b1,b2,b3⟩) (j+1))]):=by
     rw [HVJ.o];have h:=H5.o.set 3 rfl j (Y J (cmpF 4 ⟨a0,a1,a2,a3⟩ ⟨b0,b1,b2,b3⟩ j));rw [upC_set _ _ HX.o.2.2] at h;exact h
    clear hb5 H4 H5 HC;go_wp2_with fail;go_roundw
    case rel=>exact ⟨j+1,by omega,by go_num,H6.o⟩
    case measure=>simp [intOf];omega
   have d0:(op==0)=false:=by simpa using t0
   have d1:(op==1)=false:=by simpa using t1
   have d2:(op==2)=false:=by simpa using t2
   have d3:(op==3)=false:=by simpa using t3
   have d4:(op==4)=false:=by simpa using t4
   have HC:Hid (∀ W,Calls Tryz.prog 101 #[Y X (0)] W (PPost W (Y J V))):=fun W=>ret_u8 (cut01_c (0) W) (by have h:=HV.o;simp [t0,t1,t2,t3,t4] at h;exact h.symm);clear t0 t1 t2 t3 t4;go_wp2_with fail;refine (HC.o _).mono ?_;rintro e W5 ⟨rfl,hb5⟩;have H5:=S (H4.o.call hb5);have c0:W5.cell? ⟨w.heap.size+1+1+1,j,none⟩=some (Y J 0):=H5.o.cell 3 rfl j (upC_get _ _ HX.o.2.2);have f0:=H5.o.frozen 3 rfl j;have H6:Hid (Bag w (W5.setCell ⟨w.heap.size+1+1+1,j,none⟩ (Y J V)) [(w.heap.size,pxc ⟨a0,a1,a2,a3⟩),(w.heap.size+1,pxc ⟨b0,b1,b2,b3⟩),(w.heap.size+1+1,zU),(w.heap.size+1+1+1,upC (cmpF op ⟨a0,a1,a2,a3⟩ ⟨b0,b1,b2,b3⟩) (j+1))]):=by
    rw [HVJ.o];have h:=H5.o.set 3 rfl j (Y J (cmpF op ⟨a0,a1,a2,a3⟩ ⟨b0,b1,b2,b3⟩ j));rw [upC_set _ _ HX.o.2.2] at h;exact h
   clear hb5 H4 H5 HC;go_wp2_with fail;go_roundw
   case rel=>exact ⟨j+1,by omega,by go_num,H6.o⟩
   case measure=>simp [intOf];omega
  ·obtain rfl:j=4:=by omega
   obtain ⟨q,hq⟩:∃ q,q=cmpP op ⟨a0,a1,a2,a3⟩ ⟨b0,b1,b2,b3⟩:=⟨_,rfl⟩;have HQE:=S hq;have HQ:Hid (Bag w wr [(w.heap.size,pxc ⟨a0,a1,a2,a3⟩),(w.heap.size+1,pxc ⟨b0,b1,b2,b3⟩),(w.heap.size+1+1,zU),(w.heap.size+1+1+1,pxc q)]):=by
    rw [hq];exact H1.o
   clear hq H1;obtain ⟨e0,e1,e2,e3⟩:=(HQ.o.box 3 rfl).c4;have r0:=HQ.o.cell 2 rfl 0 rfl;have f0:=HQ.o.frozen 2 rfl 0;have r1:=HQ.o.cell 2 rfl 1 rfl;have f1:=HQ.o.frozen 2 rfl 1;have r2:=HQ.o.cell 2 rfl 2 rfl;have f2:=HQ.o.frozen 2 rfl 2;have r3:=HQ.o.cell 2 rfl 3 rfl;have f3:=HQ.o.frozen 2 rfl 3;go_wp2_with fail;have H2:=HQ.o.set4 2 rfl (Y J q.r) (Y J q.g) (Y J q.b) (Y J q.a);exact ret_px (g:=w.heap.size+1+1) (p:=q) rfl rfl (H2.box 2 rfl) rfl ⟨by rw [HQE.o],H2.below⟩
end Go.Proofs.YtgodhpampaleeaaGreatDoor
