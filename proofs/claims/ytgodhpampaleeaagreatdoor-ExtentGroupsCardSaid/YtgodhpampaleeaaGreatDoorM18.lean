/- Texts joined: Uf Ug Mz Mw Uh Ui. -/
import Derived.Test.YtgodhpampaleeaaGreatDoorM17
import Derived.Laws.AppendOwn
import Derived.Deep.AppendLies
import Derived.Test.YtgodhpampaleeaaGreatDoorM11
import Derived.Test.YtgodhpampaleeaaGreatDoorM02
open Go.Value renaming int→Y,slice→J
open Go.IntKind renaming i64→X
open Nat renaming le_refl→O,le_trans→U,lt_of_lt_of_le→V
open List renaming getElem?_eq_getElem→I,getElem?_eq_some_iff→N,getD_eq_getElem?_getD→M
open Bool renaming and_eq_true→H
open Go.Lib renaming hid→S
open Go.Value.slice renaming injEq→y
set_option maxRecDepth 8000
set_option maxHeartbeats 12800000
set_option linter.unusedVariables false
namespace Go.Proofs.YtgodhpampaleeaaGreatDoor
open Go.RowKit Go.Bx Go.Od Go.Hp
theorem infoBf:(Tryz.prog.info? 43).map (fun i=>(i.zero,i.size,i.bytes))=some (some (.agg #[Y X 0,Y X 0,Y X 0,Y X 0,J none 0 0]),5,56):=by kernel_rfl
def Kin (K:Value→Prop) (W:World) (v:Value):Prop:=∀ g cur e fz,v.ownBlock=some g→W.heap[g]?=some (.cells cur e fz)→∀ u∈cur.toList,K u
theorem zc_mem {z:Array Value} {n:Nat} (hz:0<z.size) {u:Value} (h:u∈(Builtin.zeroCells z n).toList):u∈z.toList:=by
 unfold Builtin.zeroCells at h;rw [Array.toList_map,List.mem_map] at h;obtain ⟨i,_,rfl⟩:=h;have hi:i%z.size<z.size:=Nat.mod_lt _ hz;rw [getElem!_pos z (i%z.size) hi];exact Array.getElem_mem_toList hi
section
variable {P:Program} (w:World)
theorem run_append_kin (K:Value→Prop) (t ty:TypeId) (base:Nat) (e:TypeId) (i:TypeInfo) (z:Value) (size bytes:Nat) (ht:P.underlying t=some (.slice e)) (hi:P.info? e=some i) (hz:i.zero=some z)
  (hsize:i.size=size) (hby:i.bytes=bytes) (hzs:z.cells.size=size) (hsz:0<size)
  (v:Value) (n:Nat) (xs:List Value) (hown:w.ownsRow base e size v n xs)
  (ad:Addr) (m c:Nat) (news:List Value) (hl:news.length=m*size) (hnews:∀ j u,news[j]?=some u→w.cell? (ad.add j)=some u) (h1:∀ u∈news,u.oneCell'=true)
  (hm:0<m) (h63:n+m≤maxLen) (hbytes:(n+m)*bytes≤140737488355328) (hbase:base≤w.heap.size)
  (hKv:Kin K w v) (hKx:∀ u∈xs,K u) (hKn:∀ u∈news,K u) (hKz:∀ u∈z.cells.toList,K u):
  ∃ g cap w',(Builtin.append_ #[t,t] ty #[v,J (some ad) m c]).run P w=.ok (J (some ⟨g,0,none⟩) (n+m) cap) w'∧
   w'.ownsRow base e size (J (some ⟨g,0,none⟩) (n+m) cap) (n+m) (xs++news)∧w.grownBy w' v.ownBlock∧Kin K w' (J (some ⟨g,0,none⟩) (n+m) cap):=by
 subst hsize;subst hby;have hsmall:n+m≤9223372036854775807:=by simp only [maxLen] at h63;omega
 have hlen:(xs++news).length=(n+m)*i.size:=by rw [List.length_append,hown.1,hl,Nat.add_mul]
 have grown:∀ (old:Nat),old<n+m→∀ (row:Option Nat),
   (w.drew.alloc (.cells (xs.toArray++news.toArray++Builtin.zeroCells z.cells (grownCap w (n+m) old e-(n+m))) e)).ownsRow base e i.size
    (J (some ⟨w.heap.size,0,none⟩) (n+m) (grownCap w (n+m) old e)) (n+m) (xs++news)∧
   w.grownBy (w.drew.alloc (.cells (xs.toArray++news.toArray++Builtin.zeroCells z.cells (grownCap w (n+m) old e-(n+m))) e)) row∧
   Kin K (w.drew.alloc (.cells (xs.toArray++news.toArray++Builtin.zeroCells z.cells (grownCap w (n+m) old e-(n+m))) e)) (J (some ⟨w.heap.size,0,none⟩) (n+m) (grownCap w (n+m) old e)):=by
  intro old ho row;have hge:=grownCap_ge w (n+m) old e;have hcm:grownCap w (n+m) old e≤maxLen:=grownCap_le_maxLen w (n+m) old e h63;refine ⟨⟨hlen,.inr ⟨w.heap.size,_,_,rfl,hbase,heap_alloc_new w.drew _,hge,hcm,?_,?_⟩⟩,⟨rfl,rfl,rfl,by simp,fun k hk _=>heap_alloc_old w.drew _ (by exact hk)⟩,?_⟩
  ·simp only [Array.size_append,List.size_toArray,size_zeroCells,hzs,hown.1,hl,←Nat.add_mul]
   congr 1
   omega
  ·simp only [Array.toList_append,List.append_assoc];rw [←List.append_assoc,←hlen];exact List.take_left
  ·intro g cur e' fz hg hcur u hu;have hg':w.heap.size=g:=by simpa [Value.ownBlock] using hg
   rw [←hg',show w.heap.size=w.drew.heap.size from rfl,heap_alloc_new w.drew _] at hcur;have hc:=Option.some.inj hcur;injection hc with hc1 _ _;subst hc1;simp only [Array.toList_append,List.mem_append] at hu
   rcases hu with (hu|hu)|hu
   ·exact hKx u hu
   ·exact hKn u hu
   ·exact hKz u (zc_mem (by omega) hu)
 rcases hown.2 with ⟨rfl,rfl⟩|⟨g,cap,cur,rfl,hbg,hg,hnc,hcm,hcs,htake⟩
 ·have hx:xs=[]:=List.eq_nil_of_length_eq_zero (by simpa using hown.1);subst hx;have hr:=run_append_nil (P:=P) w t ty e i z ht hi hz ad m c news hl hnews (by omega) (by omega) (by have hb:=hbytes;simp only [Nat.zero_add] at hb;omega);have hgr:=grown 0 (by omega) (Value.ownBlock (J none 0 0));simp only [Nat.zero_add,List.nil_append,Array.empty_append] at hgr ⊢;exact ⟨_,_,_,hr,hgr.1,hgr.2.1,hgr.2.2⟩
 ·by_cases hroom:n+m≤cap
  ·have hfit:n*i.size+news.length≤cur.size:=by rw [hl,hcs,←Nat.add_mul];exact Nat.mul_le_mul_right _ hroom
   have hr:=run_append_room (P:=P) w t ty e i ht hi g n cap cur hg ad m c news hl hnews h1 hroom hfit;refine ⟨_,_,_,hr,⟨hlen,.inr ⟨g,cap,_,rfl,hbg,setRow_heap w g cur _ e _ hg,hroom,hcm,?_,?_⟩⟩,⟨rfl,rfl,rfl,by simp,fun k _ hk=>setRow_other w g k _ (fun e=>hk (by simp [Value.ownBlock,e]))⟩,?_⟩
   ·simp only [List.size_toArray,List.length_append,List.length_take,List.length_drop,Array.length_toList];omega
   ·rw [htake,←hlen];exact List.take_left
   ·intro g' cur' e' fz hg' hcur u hu;have hgg:g=g':=by simpa [Value.ownBlock] using hg'
    rw [←hgg,setRow_heap w g cur _ e _ hg] at hcur;have hc:=Option.some.inj hcur;injection hc with hc1 _ _;subst hc1;have hold:=hKv g cur e (0,0) rfl hg;simp only [List.mem_append] at hu
    rcases hu with (hu|hu)|hu
    ·exact hold u (List.mem_of_mem_take hu)
    ·exact hKn u hu
    ·exact hold u (List.mem_of_mem_drop hu)
  ·have holds:∀ j u,xs[j]?=some u→w.cell? ((⟨g,0,none⟩:Addr).add j)=some u:=hown.cells (g:=g) rfl;have hr:=run_append_grow (P:=P) w t ty e i z ht hi hz ⟨g,0,none⟩ n cap xs hown.1 holds ad m c news hl hnews (by omega) (by omega) (growslice_fits (by omega) hbytes);have hgr:=grown cap (by omega) (Value.ownBlock (J (some ⟨g,0,none⟩) n cap));exact ⟨_,_,_,hr,hgr.1,hgr.2.1,hgr.2.2⟩
theorem wp_append_kin {o:Oper} {a:Act} {C:Act→World→Prop} {Q:Exit→Act→World→Prop} (K:Value→Prop) (s x:Operand) (t:TypeId)
  (ho:o.op=.call {callee:=.builtin .append,args:=#[s,x],argTypes:=#[t,t]})
  (base:Nat) (e:TypeId) (i:TypeInfo) (z:Value) (size bytes:Nat) (ht:P.underlying t=some (.slice e)) (hi:P.info? e=some i) (hz:i.zero=some z)
  (hsize:i.size=size) (hby:i.bytes=bytes) (hzs:z.cells.size=size) (hsz:0<size)
  (v:Value) (n:Nat) (xs:List Value) (hs:a.eval s=v) (hown:w.ownsRow base e size v n xs)
  (ad:Addr) (m c:Nat) (news:List Value) (hx:a.eval x=J (some ad) m c) (hl:news.length=m*size) (hnews:∀ j u,news[j]?=some u→w.cell? (ad.add j)=some u) (h1:∀ u∈news,u.oneCell'=true)
  (hm:0<m) (h63:n+m≤maxLen) (hbytes:(n+m)*bytes≤140737488355328) (hbase:base≤w.heap.size)
  (hKv:Kin K w v) (hKx:∀ u∈xs,K u) (hKn:∀ u∈news,K u) (hKz:∀ u∈z.cells.toList,K u)
  (h:∀ g cap w',w'.ownsRow base e size (J (some ⟨g,0,none⟩) (n+m) cap) (n+m) (xs++news)→w.grownBy w' v.ownBlock→Kin K w' (J (some ⟨g,0,none⟩) (n+m) cap)→C (a.put o.dst (J (some ⟨g,0,none⟩) (n+m) cap)) w'):o.wp P a w C Q:=by
 obtain ⟨g,cap,w',hr,h2,h3,h4⟩:=run_append_kin (P:=P) w K t o.type base e i z size bytes ht hi hz hsize hby hzs hsz v n xs hown ad m c news hl hnews h1 hm h63 hbytes hbase hKv hKx hKn hKz;unfold Oper.wp execOp;simp only [ho,resolve,invoke,builtin,Sem.run_bind,Sem.run_pure,Result.andThen_ok,List.map_toArray,List.map_cons,List.map_nil,hs,hx,hr];exact h g cap w' h2 h3 h4
theorem wpList_append_kin {ops:Array Oper} {rest:List Oper} {o:Oper} {a:Act} {Q:Exit→Act→World→Prop} (K:Value→Prop) (hgd:o.guard=none) (s x:Operand) (t:TypeId)
  (ho:o.op=.call {callee:=.builtin .append,args:=#[s,x],argTypes:=#[t,t]})
  (base:Nat) (e:TypeId) (i:TypeInfo) (z:Value) (size bytes:Nat) (ht:P.underlying t=some (.slice e)) (hi:P.info? e=some i) (hz:i.zero=some z)
  (hsize:i.size=size) (hby:i.bytes=bytes) (hzs:z.cells.size=size) (hsz:0<size)
  (v:Value) (n:Nat) (xs:List Value) (hs:a.eval s=v) (hown:w.ownsRow base e size v n xs)
  (ad:Addr) (m c:Nat) (news:List Value) (hx:a.eval x=J (some ad) m c) (hl:news.length=m*size) (hnews:∀ j u,news[j]?=some u→w.cell? (ad.add j)=some u) (h1:∀ u∈news,u.oneCell'=true)
  (hm:0<m) (h63:n+m≤maxLen) (hbytes:(n+m)*bytes≤140737488355328) (hbase:base≤w.heap.size)
  (hKv:Kin K w v) (hKx:∀ u∈xs,K u) (hKn:∀ u∈news,K u) (hKz:∀ u∈z.cells.toList,K u)
  (h:∀ g cap w',w'.ownsRow base e size (J (some ⟨g,0,none⟩) (n+m) cap) (n+m) (xs++news)→w.grownBy w' v.ownBlock→Kin K w' (J (some ⟨g,0,none⟩) (n+m) cap)→wpList P ops Q rest (a.put o.dst (J (some ⟨g,0,none⟩) (n+m) cap)) w'):wpList P ops Q (o::rest) a w:=
 wpList_plain hgd fun _ hK=>wp_append_kin w K s x t ho base e i z size bytes ht hi hz hsize hby hzs hsz v n xs hs hown ad m c news hx hl hnews h1 hm h63 hbytes hbase hKv hKx hKn hKz fun g cap w' h2 h3 h4=>hK _ _ (h g cap w' h2 h3 h4)
end
def NoU8 (u:Value):Prop:=∀ k,u≠.int .u8 k
def bcs (l:List (Bf×Value)):List Value:=(l.map fun p=>bfc p.1.box p.2).flatten
theorem bcs_snoc (l:List (Bf×Value)) (p:Bf×Value):bcs (l++[p])=bcs l++bfc p.1.box p.2:=by simp [bcs]
theorem bcs_at (l:List (Bf×Value)) (i:Nat) (p:Bf×Value) (h:l[i]?=some p):((bcs l).drop (i*5)).take 5=bfc p.1.box p.2:=
 flat_at (sz:=5) _ (fun cs hc=>by obtain ⟨p,_,rfl⟩:=List.mem_map.1 hc;rfl) i _ (by rw [List.getElem?_map,h];rfl)
theorem bfc_no (r:Rc) (a:Option Addr) (n c:Nat):∀ u∈bfc r (J a n c),NoU8 u:=by
 intro u hu k e;subst e;simp [bfc] at hu
theorem px_far {W W':World} {b:Bf} {s v:Value} (h:BfV W b s) (hk:Kin NoU8 W v) (hg:W.grownBy W' v.ownBlock):BfV W' b s:=by
 refine ⟨?_,h.ok,h.pl⟩;obtain ⟨p,cap,hv,h1,h2,h3⟩:=h.sl;refine ⟨p,cap,hv,h1,h2,?_⟩
 rcases h3 with h3|⟨ib,o,hp,hF,h3⟩
 ·exact .inl h3
 ·by_cases hne:some ib=v.ownBlock
  ·cases hpx:b.pix with
   |nil=>exact .inl rfl
   |cons x xs=>
    exfalso;rw [hpx] at h3;obtain ⟨cs,_,hc,he⟩:=h3 0 x rfl;have h4:=hc 0 (.int .u8 x.r) (by rw [he.1];rfl);unfold World.cell? at h4;dsimp only at h4;cases hh:W.heap[ib]? with
    |none=>rw [hh] at h4;simp at h4
    |some ob=>
     rw [hh] at h4
     cases ob with
     |cells cur e fz=>
      have h5:cur[o+0*4+0]?=some (.int .u8 x.r):=by simpa using h4
      exact hk ib cur e fz hne.symm hh _ (by rw [Array.mem_toList_iff];exact Array.mem_of_getElem? h5) _ rfl
     |_=>simp at h4
  ·refine .inr ⟨ib,o,hp,V hF hg.size,fun i x hi=>?_⟩;obtain ⟨cs,hl,hc,he⟩:=h3 i x hi;exact ⟨cs,hl,fun j u hu=>(World.cell?_of_block (hg.block ib hF hne)).trans (hc j u hu),he⟩
structure RowB (W:World) (B:Nat) (v:Value) (l:List (Bf×Value)):Prop where
 own:W.ownsRow B 43 5 v l.length (bcs l)
 kin:Kin NoU8 W v
 is:∀ p∈l,(∃ a n c,p.2=J a n c)∧BfV W p.1 p.2
theorem RowB.nil (W:World) (B:Nat):RowB W B (J none 0 0) []:=⟨World.ownsRow_nil _ _ _ _,fun g cur e fz hg=>by simp [Value.ownBlock] at hg,fun p hp=>by cases hp⟩
theorem RowB.call {W W':World} {B:Nat} {v:Value} {l:List (Bf×Value)} (h:RowB W B v l) (hb:Below W.heap.size W W'):RowB W' B v l:=
 ⟨owns_below h.own hb (O _),fun g cur e fz hg hcur=>h.kin g cur e fz hg (by rw [←hcur];exact (hb.block g (h.own.lt g hg).2).symm),fun p hp=>⟨(h.is p hp).1,(h.is p hp).2.below hb⟩⟩
theorem RowB.cells {W:World} {B:Nat} {v:Value} {l:List (Bf×Value)} (h:RowB W B v l):∀ u∈bcs l,NoU8 u:=by
 intro u hu;unfold bcs at hu;rw [List.mem_flatten] at hu;obtain ⟨cs,hcs,hu⟩:=hu;obtain ⟨p,hp,rfl⟩:=List.mem_map.1 hcs;obtain ⟨⟨a,n,c,e⟩,_⟩:=h.is p hp;rw [e] at hu;exact bfc_no _ _ _ _ u hu
theorem RowB.add {W W':World} {B:Nat} {v v':Value} {l:List (Bf×Value)} (h:RowB W B v l) {b:Bf} {a:Option Addr} {n c:Nat} (hb:BfV W b (J a n c)) (hg:W.grownBy W' v.ownBlock)
  (ho:W'.ownsRow B 43 5 v' (l.length+1) (bcs l++bfc b.box (J a n c))) (hk:Kin NoU8 W' v'):RowB W' B v' (l++[(b,J a n c)]):=by
 refine ⟨by rw [List.length_append,bcs_snoc];exact ho,hk,fun p hp=>?_⟩
 rcases List.mem_append.1 hp with hp|hp
 ·exact ⟨(h.is p hp).1,px_far (h.is p hp).2 h.kin hg⟩
 ·obtain rfl:=List.mem_singleton.1 hp;exact ⟨⟨a,n,c,rfl⟩,px_far hb h.kin hg⟩
theorem RowB.sl {W:World} {B:Nat} {v:Value} {l:List (Bf×Value)} (h:RowB W B v l):SlOf RBf 5 (·<W.heap.size) W v (l.map (·.1)):=
 own_read (by decide) h.own (by simp) fun i b hb=>by
  rw [List.getElem?_map] at hb;cases hp:l[i]? with
  |none=>rw [hp] at hb;cases hb
  |some p=>
   rw [hp] at hb;cases hb
   obtain ⟨⟨a,n,c,e⟩,hbv⟩:=h.is p (List.mem_of_getElem? hp);rw [bcs_at l i p hp];rw [e] at hbv ⊢;exact ⟨a,n,c,rfl,hbv.sl,hbv.ok,hbv.pl⟩
theorem idxTake {l:List Nat} {m k:Nat} (h:k∈l.take m):l.idxOf k<m:=by
 have e:l=l.take m++l.drop m:=(List.take_append_drop m l).symm;have h1:l.idxOf k=(l.take m).idxOf k:=by
  have:(l.take m++l.drop m).idxOf k=(l.take m).idxOf k:=by rw [List.idxOf_append,if_pos h]
  rwa [List.take_append_drop] at this
 rw [h1];have:=List.idxOf_lt_length_of_mem h;rw [List.length_take] at this;omega
theorem idxAt {l:List Nat} {u:Nat} (h:u∈l):l[l.idxOf u]?=some u:=by
 have h1:=List.idxOf_lt_length_of_mem h;rw [I h1,List.getElem_idxOf]
theorem reachF_get (nds:List Nd) (r:Rc) (k:Nat):∀ (o:List Nat) (vs:List Rc),k∉o→(o.foldl (reachS nds r) vs).getD k Rc.zero=vs.getD k Rc.zero
 |[],_,_=>rfl
 |j::o,vs,h=>by
  rw [List.foldl_cons,reachF_get nds r k o _ (fun hk=>h (List.mem_cons_of_mem _ hk))];unfold reachS;rw [M,M,List.getElem?_set_ne (fun e=>h (by rw [e];exact List.mem_cons_self)),←M]
def knR (g:Fg) (r:Rc):List Rc:=reachL g.nds r (ord (insOf g.nds))
theorem reach_fix {g:Fg} (hg:GoodR g) (r:Rc) {p:Nat} (hp:p<g.nds.length):(knR g r).getD p Rc.zero=reachN (g.nds.getD p Nd.none) ((g.nds.getD p Nd.none).ins.map (rin r (knR g r))):=by
 have hm:=idxAt (hg.gn.full p hp);have hf:=ord_fine (insOf g.nds);obtain ⟨m,hmm⟩:∃ m,m=(ord (insOf g.nds)).idxOf p:=⟨_,rfl⟩;rw [←hmm] at hm;have hb:=hf.behind m p hm;have hml:=(N.1 hm).1;have hsp:ord (insOf g.nds)=(ord (insOf g.nds)).take m++p::(ord (insOf g.nds)).drop (m+1):=by
  have h1:(ord (insOf g.nds)).drop m=p::(ord (insOf g.nds)).drop (m+1):=by
   rw [List.drop_eq_getElem_cons hml];rw [I hml] at hm;cases hm
   rfl
  rw [←h1,List.take_append_drop]
 generalize (ord (insOf g.nds)).take m=pre at hb hsp;generalize (ord (insOf g.nds)).drop (m+1)=post at hsp;have hnd:=hf.nodup;rw [hsp,List.nodup_append] at hnd;obtain ⟨_,h2,h3⟩:=hnd;have hpost:=(List.nodup_cons.1 h2).1;obtain ⟨A,hA⟩:∃ A,A=reachL g.nds r pre:=⟨_,rfl⟩;have hK:knR g r=post.foldl (reachS g.nds r) (reachS g.nds r A p):=by
  unfold knR;rw [hsp,hA];unfold reachL;rw [List.foldl_append,List.foldl_cons]
 have hAl:A.length=g.nds.length:=by rw [hA,reachL_len]
 have h4:(knR g r).getD p Rc.zero=reachN (g.nds.getD p Nd.none) ((g.nds.getD p Nd.none).ins.map (rin r A)):=by
  rw [hK,reachF_get _ _ _ _ _ hpost];unfold reachS;rw [M,List.getElem?_set_self (by omega)];rfl
 rw [h4]
 congr 1
 refine List.map_congr_left fun x hx=>?_;unfold rin
 split
 ·rfl
 ·rename_i hx1;have hrng:=hg.gn.rng p hp x hx;have hxp:x.toNat∈pre:=hb _ ((inp_mem _ _ _).2 ⟨by rw [insOf_len];omega,by rw [insOf_get,Int.toNat_of_nonneg (by omega)];exact hx⟩);have hn1:x.toNat∉post:=fun h=>h3 _ hxp _ (List.mem_cons_of_mem _ h) rfl;have hn2:x.toNat≠p:=fun h=>h3 _ hxp _ (by rw [h];exact List.mem_cons_self) rfl;rw [hK,reachF_get _ _ _ _ _ hn1];unfold reachS;rw [M (l:=A.set _ _),List.getElem?_set_ne (fun e=>hn2 e.symm),←M]
def LtP (nds:List Nd):Nat→Int→Rc→Prop
 |0,_,_=>False
 |f+1,p,r=>HfB r∧areaR r≤20000∧(0≤p→((nds.getD p.toNat Nd.none).op=2∨(nds.getD p.toNat Nd.none).op=3∨(nds.getD p.toNat Nd.none).op=4→par (nds.getD p.toNat Nd.none) 0≤9∧par (nds.getD p.toNat Nd.none) 1≤9)∧
   ((nds.getD p.toNat Nd.none).op=11→par (nds.getD p.toNat Nd.none) 2≤9∧par (nds.getD p.toNat Nd.none) 3≤9)∧∀ k∈(nds.getD p.toNat Nd.none).ins,LtP nds f k (rofR (nds.getD p.toNat Nd.none) r))
theorem area_grow0 {r:Rc} (h:HfB r):areaR (grow3R r 0 0 0 0)=areaR r:=by
 unfold HfB at h;have e:∀ n:Int,(-33554432≤n∧n≤33554432)→cutP n=n:=fun n hn=>by unfold cutP;omega
 unfold grow3R;cases hs:r.emp with
 |true=>
  rw [if_pos rfl];unfold areaR;rw [hs];rfl
 |false=>
  rw [if_neg (by decide)];rw [Int.sub_zero,Int.sub_zero,Int.add_zero,Int.add_zero,e _ h.1,e _ h.2.1,e _ h.2.2.1,e _ h.2.2.2];have:boxR ⟨r.x0,r.y0,r.x1,r.y1⟩=r:=by
   unfold boxR;rw [show (⟨r.x0,r.y0,r.x1,r.y1⟩:Rc)=r from rfl,hs,if_neg (by decide)]
  rw [this]
theorem fine_is {r:Rc} {m:Int} (h:fineB r m=true):HfB r∧areaR r≤m:=by
 unfold fineB at h
 split at h
 ·rename_i hf;refine ⟨hf,?_⟩;rw [area_grow0 hf] at h;exact of_decide_eq_true h
 ·cases h
noncomputable def rkN (nds:List Nd) (p:Int):Nat:=if p<0 then 0 else (ord (insOf nds)).idxOf p.toNat+1
theorem rkN_in {g:Fg} (hg:GoodR g) {p:Int} (h0:0≤p) (h1:p<g.nds.length) {x:Int} (hx:x∈(g.nds.getD p.toNat Nd.none).ins):rkN g.nds x<rkN g.nds p:=by
 unfold rkN;rw [if_neg (show ¬p<0 by omega)]
 split
 ·omega
 ·rename_i hx0;have hrng:=hg.gn.rng p.toNat (by omega) x hx;have:=idxTake ((ord_fine (insOf g.nds)).behind _ p.toNat (idxAt (hg.gn.full p.toNat (by omega))) x.toNat ((inp_mem _ _ _).2 ⟨by rw [insOf_len];omega,by rw [insOf_get,Int.toNat_of_nonneg (by omega)];exact hx⟩));omega
theorem rkN_le {g:Fg} (hg:GoodR g) {p:Int} (h1:p<g.nds.length):rkN g.nds p≤100:=by
 unfold rkN
 split
 ·omega
 ·have h2:=List.idxOf_lt_length_of_mem (hg.gn.full p.toNat (by omega));have h3:=ord_len (insOf g.nds);rw [insOf_len] at h3;have:=hg.gn.few;omega
end Go.Proofs.YtgodhpampaleeaaGreatDoor
namespace Go.Bx
open Go.RowKit
def monoK (k:Nat) (l:List Oper):Bool:=
 Region.noSelect l.toArray &&
 (List.range l.length).all fun i=>match l[i]? with
  |none=>false
  |some oi=>(oi.after.all fun e=>!Region.binds .any e||decide (e.on<i)) &&
    (i+1==l.length||(List.range l.length).any fun j=>decide (i<j)&&match l[j]? with
     |some oj=>depB oj i
     |none=>false) &&
    (List.range l.length).all fun j=>match l[j]? with
     |none=>false
     |some oj=>match oj.dst with
      |none=>true
      |some d=>(i==j||oi.dst != some d)&&(!(decide (j<k))||!(oi.looksAt l.toArray).contains d||depB oi j)
def tailK (k:Nat) (l:List Oper):Bool:=
 monoK k l&&((List.range k).all fun i=>(List.range (k+1)).any fun j=>decide (i<j)&&match l[j]? with
  |some oj=>depB oj i
  |none=>false)&&((List.range l.length).all fun i=>!decide (k<i)||match l[i]? with
  |some oi=>depB oi (i-1)
  |none=>false)
theorem tailK_parts {k:Nat} {l:List Oper} (h:tailK k l=true):monoK k l=true∧(∀ i,i<k→∃ j oj,i<j∧j≤k∧l[j]?=some oj∧depB oj i=true)∧(∀ i oi,k<i→l[i]?=some oi→depB oi (i-1)=true):=by
 unfold tailK at h;rw [H,H,List.all_eq_true,List.all_eq_true] at h;refine ⟨h.1.1,fun i hi=>?_,fun i oi hi ho=>?_⟩
 ·have:=h.1.2 i (List.mem_range.2 hi);simp only [List.any_eq_true,H,decide_eq_true_eq,List.mem_range] at this;obtain ⟨j,h0,h1,h2⟩:=this
  split at h2
  ·rename_i oj hj;exact ⟨j,oj,h1,by omega,hj,h2⟩
  ·cases h2
 ·have:=h.2 i (List.mem_range.2 (N.1 ho).1);simp only [ho,Bool.or_eq_true,Bool.not_eq_true',decide_eq_false_iff_not] at this;exact this.resolve_left fun h=>h hi
theorem fr_at3 {L L':Nat→Bool} {vs vs':Nat→Value} {t:Tmp}:∀ (l:List Oper) (k:Nat) (a a':Act),a.tmps[t]?=a'.tmps[t]?→(∀ j o,l[j]?=some o→o.dst=some t→L (k+j)=L' (k+j)∧(L (k+j)=true→vs (k+j)=vs' (k+j)))→(fr L vs l k a).tmps[t]?=(fr L' vs' l k a').tmps[t]?
 |[],_,_,_,h,_=>h
 |o::l,k,a,a',h,hd=>by
  simp only [fr];refine fr_at3 l (k+1) _ _ ?_ fun j o' hj ho'=>by
   have:=hd (j+1) o' (by simpa using hj) ho';rw [show k+(j+1)=k+1+j by omega] at this;exact this
  by_cases e:o.dst=some t
  ·have h2:=hd 0 o rfl e;rw [Nat.add_zero] at h2;have h3:=h2.2;rw [h2.1] at h3 ⊢
   split
   ·rename_i hL;exact put_at2 h _ _ _ fun _=>h3 hL
   ·exact h
  ·split<;>split
   ·rw [put_off _ _ e,put_off _ _ e];exact h
   ·rw [put_off _ _ e];exact h
   ·rw [put_off _ _ e];exact h
   ·exact h
def mixK (m:List Bool) (es:List Nat) (l:List Oper):Bool:=
 tailK m.length l&&(es==(List.range m.length).filter fun i=>m.getD i false)&&chainB l es &&
 (List.range m.length).all fun j=>m.getD j false||match l[j]? with
  |some o=>(List.range m.length).all fun e=>!m.getD e false||!depB o e
  |none=>false
section
variable {P:Program} {Q:Exit→Act→World→Prop} {a0:Act} {w0:World} {l:List Oper}
theorem mix_any2 {n k:Nat} {E:Nat→Bool} {last:Oper} (hl:l[k]?=some last) (hsel:Region.noSelect l.toArray=true)
  (hacyc:∀ i oi,l[i]?=some oi→∀ e∈oi.after,Region.binds .any e=true→e.on<i)
  (hcl:∀ i,i<k→∃ j oj,i<j∧j≤k∧l[j]?=some oj∧depB oj i=true) (hch:∀ i oi,k<i→l[i]?=some oi→depB oi (i-1)=true)
  (hdst:∀ i j oi oj d,l[i]?=some oi→l[j]?=some oj→oj.dst=some d→(i=j∨oi.dst≠some d)∧(j<k→d∈oi.looksAt l.toArray→depB oi j=true))
  (hqe:∀ j o,j<k→E j=false→l[j]?=some o→∀ e,e<k→E e=true→depB o e=false) (vT:Nat→Value) (hQ:QuietAll P l a0 w0 n k E vT):
  ∀ (fuel:Nat) (listed:Array Bool) (vs:Nat→Value) (w:World) (C:World→Prop) (rem:List Nat),listed.size=l.length→
   (∀ i oi,l[i]?=some oi→listed.getD i false=true→∀ e∈oi.after,Region.binds .any e=true→listed.getD e.on false=true)→
   (∀ j,k≤j→listed.getD j false=false)→Stab C→C w→(∀ w,C w→Below n w0 w∧n≤w.heap.size)→
   chainB l rem=true→(∀ i,i∈rem↔i<k∧E i=true∧listed.getD i false=false)→rem.Nodup→(∀ j,j<k→E j=false→vs j=vT j)→
   wpChain P Q l k C rem (fr (fun q=>decide (q<k)&&(!E q||listed.getD q false)) vs l 0 a0)→(List.range l.length).countP (fun i=>!listed.getD i false)≤fuel→
   wpAny P .any l.toArray Q fuel listed (fr (fun j=>listed.getD j false) vs l 0 a0) w:=by
 have hkl:k<l.length:=(N.1 hl).1;intro fuel
 induction fuel with
 |zero=>
  intro listed vs w C rem hsz hdown hk hC hw hn hcb hrem hnd hvs hchain hf;have:0<(List.range l.length).countP (fun i=>!listed.getD i false):=List.countP_pos_iff.2 ⟨k,List.mem_range.2 hkl,by simp [hk k (O _)]⟩;omega
 |succ fuel ih=>
  intro listed vs w C rem hsz hdown hk hC hw hn hcb hrem hnd hvs hchain hf;have hgd:∀ j,j<l.length→listed.getD j true=listed.getD j false:=fun j hj=>by
   rw [←hsz] at hj;simp [hj]
  have hselo:∀ (j:Nat) (o:Oper) cs b,l[j]?=some o→o.op≠.select cs b:=fun j o cs b ho=>Region.noSelect_spec hsel j o cs b (by simpa using ho);refine ⟨fun h=>?_,fun i hi=>?_⟩
  ·exfalso;have hex:∃ m,m≤k∧listed.getD m false=false∧∀ j,j<m→listed.getD j false=true:=by
    have:∀ n,(∃ m,m≤n∧listed.getD m false=false∧∀ j,j<m→listed.getD j false=true)∨∀ j,j≤n→listed.getD j false=true:=by
     intro n
     induction n with
     |zero=>
      cases e:listed.getD 0 false with
      |false=>exact .inl ⟨0,O _,e,fun j hj=>by omega⟩
      |true=>exact .inr fun j hj=>by rw [show j=0 by omega];exact e
     |succ n ihn=>
      rcases ihn with ⟨m,hm,h1,h2⟩|h1
      ·exact .inl ⟨m,by omega,h1,h2⟩
      ·cases e:listed.getD (n+1) false with
       |false=>exact .inl ⟨n+1,O _,e,fun j hj=>h1 j (by omega)⟩
       |true=>
        refine .inr fun j hj=>?_;by_cases hjn:j≤n
        ·exact h1 j hjn
        ·rw [show j=n+1 by omega];exact e
    rcases this k with h2|h2
    ·exact h2
    ·have:=hk k (O _);rw [h2 k (O _)] at this;cases this
   obtain ⟨m,hm,h1,h2⟩:=hex;obtain ⟨o,ho⟩:∃ o,l[m]?=some o:=⟨_,I (by omega)⟩;have:m∈Region.ready .any l.toArray listed:=mem_ready.2 ⟨by rw [hgd m (by omega)];exact h1,o,by simpa using ho,fun e he hb=>h2 _ (hacyc m o ho e he hb)⟩;rw [h] at this
   cases this
  ·obtain ⟨hun,o,ho',hdeps⟩:=mem_ready.1 hi;have ho:l[i]?=some o:=by simpa using ho'
   have hil:i<l.length:=(N.1 ho).1;rw [hgd i hil] at hun;have hdep:∀ j,depB o j=true→listed.getD j false=true∧j<i:=fun j hj=>by
    unfold depB at hj;rw [Array.any_eq_true'] at hj;obtain ⟨e,he,hb⟩:=hj;simp only [H,beq_iff_eq] at hb;rw [←hb.2];exact ⟨hdeps e he hb.1,hacyc i o ho e he hb.1⟩
   have hik':i≤k:=by
    rcases Nat.lt_or_ge k i with h|h
    ·have h2:=(hdep (i-1) (hch i o h ho)).1;rw [hk (i-1) (by omega)] at h2;cases h2
    ·exact h
   have hset:∀ j,(listed.setIfInBounds i true).getD j false=upd (fun j=>listed.getD j false) i true j:=fun j=>by
    by_cases e:i=j
    ·subst e;have:i<listed.size:=by omega
     simp [this,upd]
    ·rw [getD_set_ne false e];exact (if_neg fun h=>e h.symm).symm
   have hsetI:(listed.setIfInBounds i true).getD i false=true:=by rw [hset];exact if_pos rfl
   have hsetN:∀ j,j≠i→(listed.setIfInBounds i true).getD j false=listed.getD j false:=fun j hj=>by rw [hset];exact if_neg hj
   have hdown':∀ j oj,l[j]?=some oj→(listed.setIfInBounds i true).getD j false=true→∀ e∈oj.after,Region.binds .any e=true→(listed.setIfInBounds i true).getD e.on false=true:=by
    intro j oj hj hlj e he hbd;by_cases e1:e.on=i
    ·rw [e1];exact hsetI
    ·rw [hsetN _ e1];by_cases e2:j=i
     ·subst e2;rw [ho] at hj;cases hj
      exact hdeps e he hbd
     ·rw [hsetN _ e2] at hlj;exact hdown j oj hj hlj e he hbd
   have hcnt:(List.range l.length).countP (fun j=>!(listed.setIfInBounds i true).getD j false)≤fuel:=by
    have:=countP_one (f:=fun i=>!listed.getD i false) (g:=fun j=>!(listed.setIfInBounds i true).getD j false) (i:=i) (by simp only [hun];rfl) (by simp only [hsetI];rfl) (fun j hj=>by
     simp only [hsetN j hj]) l.length hil
    omega
   have hfrp:∀ v,fr (fun j=>(listed.setIfInBounds i true).getD j false) (upd vs i v) l 0 a0=(fr (fun j=>listed.getD j false) vs l 0 a0).put o.dst v:=fun v=>by
    rw [fr_congr (L':=upd (fun j=>listed.getD j false) (0+i) true) (vs':=upd vs (0+i) v) l 0 a0 fun j _=>by rw [Nat.zero_add];exact ⟨hset j,rfl⟩];exact fr_step l 0 i a0 o ho (by rw [Nat.zero_add];exact hun) fun j o' hj hne t ht=>by
     rcases (hdst j i o' o t hj ho ht).1 with h|h
     ·exact absurd h hne
     ·exact h
   by_cases hik:i=k
   ·subst hik;rw [hl] at ho;cases ho
    have hall:∀ n j,i-j≤n→j<i→listed.getD j false=true:=by
     intro n
     induction n with
     |zero=>intro j h1 h2;omega
     |succ n ihn=>
      intro j h1 h2;obtain ⟨m,om,hm,hmk,hom,hd⟩:=hcl j h2;by_cases e:m=i
      ·subst e;rw [hl] at hom;cases hom
       exact (hdep j hd).1
      ·have:=ihn m (by omega) (by omega);unfold depB at hd;rw [Array.any_eq_true'] at hd;obtain ⟨e',he,hb⟩:=hd;simp only [H,beq_iff_eq] at hb;rw [←hb.2];exact hdown m om hom this e' he hb.1
    have hrn:rem=[]:=by
     cases rem with
     |nil=>rfl
     |cons e rem=>
      have h1:=(hrem e).1 (by simp);rw [hall i e (by omega) h1.1] at h1;exact absurd h1.2.2 (by simp)
    subst hrn;have hfr:fr (fun j=>listed.getD j false) vs l 0 a0=fr (fun q=>decide (q<i)&&(!E q||listed.getD q false)) vs l 0 a0:=fr_congr l 0 a0 fun j _=>⟨by
     by_cases h1:j<i
     ·rw [hall i j (by omega) h1];simp [h1]
     ·rw [hk j (by omega)];simp [h1],rfl⟩
    rw [hfr];have hcp:l.length-(i+1)≤fuel:=by
     have e1:(List.range l.length).countP (fun j=>!listed.getD j false)=l.length-i:=by
      have h3:∀ n,n≤l.length→(List.range n).countP (fun j=>!listed.getD j false)=n-i:=by
       intro n
       induction n with
       |zero=>intro _;simp
       |succ n ihn=>
        intro hn;rw [List.range_succ,List.countP_append,ihn (by omega),List.countP_singleton];by_cases h:n<i
        ·simp [hall i n (by omega) h];omega
        ·simp [hk n (by omega)];omega
      exact h3 l.length (O _)
     omega
    exact chain_step hacyc hch i fuel listed _ w hl (by omega) hsz (fun j hj=>hall i j (by omega) hj) hk hcp (hchain w hw).out
   ·have hlt:i<k:=by omega
    cases hE:E i with
    |true=>
     have him:i∈rem:=(hrem i).2 ⟨hlt,hE,hun⟩
     cases rem with
     |nil=>cases him
     |cons e rem=>
     have hei:e=i:=by
      by_cases h:e=i
      ·exact h
      ·obtain ⟨f,o',hf1,ho2,hd⟩:=chain_mem (e::rem) hcb i him (by simp;exact h);rw [ho] at ho2;cases ho2
       have h1:=(hdep f hd).1;rw [((hrem f).1 hf1).2.2] at h1;cases h1
     subst hei;obtain ⟨α,val,T,hT,hstep⟩:=hchain;obtain ⟨hs0,hnext⟩:=hstep o ho;have hs:=steps_same o (fun cs b=>hselo e o cs b ho) (a':=fr (fun j=>listed.getD j false) vs l 0 a0) (fun t ht=>fr_at l 0 a0 a0 rfl fun j oj hj hd=>by
      by_cases hjk:j<k
      ·have hd2:=(hdst e j o oj t ho hj hd).2 hjk ht;have h3:=hdep j hd2;rw [Nat.zero_add,h3.1]
       simp;omega
      ·rw [Nat.zero_add,hk j (by omega)];simp [hjk]) (hs0 w hw)
     have hgo:∀ v w',(Below w.heap.size w w'∧∃ x,v=val x∧T x w')→wpAny P .any l.toArray Q fuel (listed.setIfInBounds e true) ((fr (fun j=>listed.getD j false) vs l 0 a0).put o.dst v) w':=by
      rintro v w' ⟨hb,x,rfl,hTx⟩;rw [←hfrp];refine ih _ _ w' (fun w=>C w∧T x w) rem (by simpa using hsz) hdown' (fun j hj=>by rw [hsetN j (by omega)];exact hk j hj) (hC.and (hT x)) ⟨hC _ _ hw hb,hTx⟩ (fun w h=>hn w h.1) (chainB_tail hcb) (fun j=>?_) (List.nodup_cons.1 hnd).2 (fun j hj hEj=>?_) ?_ hcnt
      ·by_cases h:j=e
       ·subst h;rw [hsetI];simp [(List.nodup_cons.1 hnd).1]
       ·rw [hsetN j h,←hrem j];simp [h]
      ·have:j≠e:=fun h=>by subst h;rw [hE] at hEj;cases hEj
       unfold upd;rw [if_neg this];exact hvs j hj hEj
      ·have h1:=hnext x;have h2:=fr_step (L:=fun q=>decide (q<k)&&(!E q||listed.getD q false)) (vs:=vs) (v:=val x) l 0 e a0 o ho (by rw [Nat.zero_add,hun,hE];simp) fun j o' hj hne t ht=>by
        rcases (hdst j e o' o t hj ho ht).1 with h|h
        ·exact absurd h hne
        ·exact h
       rw [←h2,Nat.zero_add] at h1;rw [fr_congr (L':=upd (fun q=>decide (q<k)&&(!E q||listed.getD q false)) e true) (vs':=upd vs e (val x)) l 0 a0 fun j _=>⟨by
        by_cases h:j=e
        ·subst h;rw [hsetI];simp [upd,hlt]
        ·rw [hsetN j h];simp [upd,h],rfl⟩]
       exact h1
     unfold wpOp;simp only [ho'];unfold stepsTo at hs
     split
     ·rename_i hw';simp only [hw',if_true] at hs;exact .inl (gives_put hs hgo)
     ·rename_i hw';simp only [hw'] at hs;exact hgo _ _ hs
    |false=>
     obtain ⟨v,hy0,hput⟩:=hQ C hC ⟨⟨w,(hn w hw).1,(hn w hw).2,hw⟩⟩ i hlt hE o ho;have hlooks:∀ t∈o.looksAt l.toArray,(fr (fun q=>decide (q<i)&&!E q) vT l 0 a0).tmps[t]?=(fr (fun j=>listed.getD j false) vs l 0 a0).tmps[t]?:=fun t ht=>
      fr_at3 l 0 a0 a0 rfl fun j oj hj hd=>by
       by_cases hjk:j<k
       case neg=>
        rw [Nat.zero_add,hk j (by omega)];exact ⟨by simp;omega,fun h=>by simp at h;omega⟩
       have hd2:=(hdst i j o oj t ho hj hd).2 hjk ht;have h3:=hdep j hd2;have hEj:E j=false:=by
        cases h4:E j with
        |false=>rfl
        |true=>
         have h5:=hqe i o hlt hE ho j (by omega) h4;rw [hd2] at h5;cases h5
       rw [Nat.zero_add,h3.1,hEj,hvs j (by omega) hEj];exact ⟨by simp;exact h3.2,fun _=>rfl⟩
     have hy:YieldsIn P l.toArray (fun w'=>∃ s:InG n w0 C,w'=s.w) o v (fr (fun j=>listed.getD j false) vs l 0 a0):=
      hy0.of_same (exec_same o (fun cs b=>hselo i o cs b ho) hlooks).symm (wanted_same o hlooks).symm
     have hsize:∀ (l':List Oper) (q:Nat) (L:Nat→Bool) (vs:Nat→Value) (a:Act),(fr L vs l' q a).tmps.size=a.tmps.size:=by
      intro l'
      induction l' with
      |nil=>intro q L vs a;rfl
      |cons o' l' ihl=>
       intro q L vs a;simp only [fr];rw [ihl]
       split
       ·exact put_size _ _ _
       ·rfl
     have hgo:∀ w',(∃ s:InG n w0 C,w'=s.w)→wpAny P .any l.toArray Q fuel (listed.setIfInBounds i true) ((fr (fun j=>listed.getD j false) vs l 0 a0).put o.dst v) w':=by
      rintro w' ⟨s,rfl⟩;rw [hput _ (hsize _ _ _ _ _),←hvs i hlt hE,←hfrp,show upd vs i (vs i)=vs from funext fun j=>by unfold upd;split<;>simp [*]];refine ih _ _ s.w C rem (by simpa using hsz) hdown' (fun j hj=>by rw [hsetN j (by omega)];exact hk j hj) hC s.2.2.2 hn hcb (fun j=>?_) hnd hvs ?_ hcnt
      ·by_cases h:j=i
       ·subst h;rw [hrem j,hsetI,hE]
        simp
       ·rw [hsetN j h];exact hrem j
      ·rw [fr_congr (L':=fun q=>decide (q<k)&&(!E q||listed.getD q false)) (vs':=vs) l 0 a0 fun j _=>⟨by
        by_cases h:j=i
        ·subst h;rw [hE];simp
        ·rw [hsetN j h],rfl⟩]
       exact hchain
     have hwC:∃ s:InG n w0 C,w=s.w:=⟨⟨w,(hn w hw).1,(hn w hw).2,hw⟩,rfl⟩;unfold wpOp;simp only [ho']
     rcases hy with ⟨hw',hv⟩|⟨hw',rfl⟩
     ·rw [if_pos hw'];exact .inl (Oper.wp_of_quiet (C:=fun w'=>∃ s:InG n w0 C,w'=s.w) (K:=fun a'=>a'=(fr (fun j=>listed.getD j false) vs l 0 a0).put o.dst v) hwC (fun a' w' h1 h2=>by subst h2;exact hgo w' h1) ⟨v,hv,rfl⟩)
     ·rw [if_neg (by rw [hw'];simp)];exact hgo w hwC
theorem wp_region_mix2 {id:Nat} (n:Nat) (m:List Bool) (es:List Nat) (last:Oper) (hl:l[m.length]?=some last) (hn:n≤w0.heap.size) (hm:P.follows .mixedOrders=true) (hB:mixK m es l=true)
  (h:∃ A,(∀ G,Stab G→Nonempty (InG n w0 G)→∀ R:Act→Prop,R A→wpQuiet P l.toArray (fun w'=>∃ s:InG n w0 G,w'=s.w) R (skip m l) a0)∧wpChain P Q l m.length (fun w=>Below n w0 w∧n≤w.heap.size) es A):(Code.region id l.toArray true).wp P Q a0 w0:=by
 obtain ⟨A,hq,hc⟩:=h;unfold mixK at hB;rw [H,H,H,List.all_eq_true] at hB;obtain ⟨⟨⟨hT,hes⟩,hcb⟩,hqe⟩:=hB;have hes:es=(List.range m.length).filter fun i=>m.getD i false:=by simpa using hes
 obtain ⟨hB,hcl,hch⟩:=tailK_parts hT;unfold monoK at hB;rw [H,List.all_eq_true] at hB;obtain ⟨hsel,hB⟩:=hB;have hkl:m.length<l.length:=(N.1 hl).1;have hB1:∀ i oi,l[i]?=some oi→_:=fun i oi hi=>by
  have:=hB i (List.mem_range.2 (N.1 hi).1);simp only [hi,H] at this;exact this
 have hdst:∀ i j oi oj d,l[i]?=some oi→l[j]?=some oj→oj.dst=some d→(i=j∨oi.dst≠some d)∧(j<m.length→d∈oi.looksAt l.toArray→depB oi j=true):=by
  intro i j oi oj d hi hj hd;have:=(hB1 i oi hi).2;rw [List.all_eq_true] at this;have:=this j (List.mem_range.2 (N.1 hj).1);simp only [hj,hd,H,Bool.or_eq_true,beq_iff_eq,bne_iff_ne,Bool.not_eq_true',List.contains_eq_mem,decide_eq_false_iff_not,ne_eq] at this;refine ⟨this.1,fun hjk hm=>?_⟩
  rcases this.2 with (h|h)|h
  ·exact absurd hjk (by simpa using h)
  ·exact absurd hm (by simpa using h)
  ·exact h
 have hacyc:∀ i oi,l[i]?=some oi→∀ e∈oi.after,Region.binds .any e=true→e.on<i:=by
  intro i oi hi e he hb;have:=(hB1 i oi hi).1.1;rw [Array.all_eq_true'] at this;have:=this e he
  simpa [hb] using this
 have hdd:∀ (i j:Nat) (oi oj:Oper),l[i]?=some oi→l[j]?=some oj→i≠j→∀ t,oi.dst=some t→oj.dst≠some t:=fun i j oi oj hi hj hne t ht=>by
  rcases (hdst j i oj oi t hj hi ht).1 with h|h
  ·exact absurd h.symm hne
  ·exact h
 have hzero:∀ (L:Nat→Bool),(∀ j,L j=false)→∀ (l':List Oper) (k:Nat) (vs:Nat→Value) (a:Act),fr L vs l' k a=a:=by
  intro L hL l'
  induction l' with
  |nil=>intro k vs a;rfl
  |cons o l' ih=>
   intro k vs a;simp only [fr,hL k,Bool.false_eq_true,if_false];exact ih _ _ _
 have hvals:∀ G,Stab G→Nonempty (InG n w0 G)→∃ vs:Nat→Value,(∀ j,j<m.length→m.getD j false=false→∀ o,l[j]?=some o→YieldsIn P l.toArray (fun w'=>∃ s:InG n w0 G,w'=s.w) o (vs j) (fr (fun q=>decide (q<j)&&!m.getD q false) vs l 0 a0))∧fr (fun q=>decide (q<m.length)&&!m.getD q false) vs l 0 a0=A:=fun G hG hne=>by
  have h:=hq G hG hne (fun a'=>a'=A) rfl;rw [show a0=fr (fun q=>decide (q<0)&&!m.getD q false) (fun _=>undef) l 0 a0 from (hzero _ (fun j=>by simp) _ _ _ _).symm] at h;obtain ⟨vs,_,h2,h3⟩:=mix_vals (E:=fun q=>m.getD q false) hdd m l 0 (fun _=>undef) (by omega) (fun j=>by rw [Nat.zero_add]) (fun j _=>by rw [Nat.zero_add]) h;rw [Nat.zero_add] at h2 h3;exact ⟨vs,fun j hj hE o ho=>h2 j (Nat.zero_le _) hj hE o ho,h3⟩
 obtain ⟨vT,hvT,hA⟩:=hvals (fun _=>True) (fun _ _ _ _=>trivial) ⟨⟨w0,Below.refl n w0,hn,trivial⟩⟩;have hQ:QuietAll P l a0 w0 n m.length (fun q=>m.getD q false) vT:=fun G hG hne j hj hE o ho=>by
  obtain ⟨vs,hv,hA2⟩:=hvals G hG hne;have hpin:∀ j,j<m.length→m.getD j false=false→∀ o,l[j]?=some o→∀ d,o.dst=some d→d<a0.tmps.size→vs j=vT j:=fun j hj hE o ho d hd hlt=>by
   have h1:=fr_of (L:=fun q=>decide (q<m.length)&&!m.getD q false) (vs:=vs) l 0 j a0 o ho hd (by rw [Nat.zero_add,hE];simp [hj]) (fun i o' hi hne=>fun e=>hdd j i o o' ho hi (fun h=>hne h.symm) d hd e) hlt;have h2:=fr_of (L:=fun q=>decide (q<m.length)&&!m.getD q false) (vs:=vT) l 0 j a0 o ho hd (by rw [Nat.zero_add,hE];simp [hj]) (fun i o' hi hne=>fun e=>hdd j i o o' ho hi (fun h=>hne h.symm) d hd e) hlt;rw [hA2] at h1;rw [hA,h1,Nat.zero_add] at h2;exact Option.some.inj h2
  refine ⟨vs j,?_,fun a ha=>?_⟩
  ·have h1:=hv j hj hE o ho;rw [fr_congr3 (vs':=vT) l 0 a0 fun q o' d hL ho' hd hlt=>by
    rw [Nat.zero_add] at hL ⊢;simp only [H,decide_eq_true_eq,Bool.not_eq_true'] at hL;exact hpin q (by omega) hL.2 o' ho' d hd hlt] at h1
   exact h1
  ·cases hd:o.dst with
   |none=>rfl
   |some d=>
    by_cases hlt:d<a0.tmps.size
    ·rw [hpin j hj hE o ho d hd hlt]
    ·rw [←ha] at hlt;simp [Act.put,Array.setIfInBounds,hlt]
 have hrep:∀ j,(Array.replicate l.length false).getD j false=false:=fun k=>by
  rcases Nat.lt_or_ge k l.length with h|h
  ·simp [h]
  ·simp [Array.getElem?_eq_none (xs:=Array.replicate l.length false) (i:=k) (by simpa using h)]
 refine wp_region_any hm ?_;have hmain:=mix_any2 (P:=P) (Q:=Q) (a0:=a0) (w0:=w0) (n:=n) (E:=fun q=>m.getD q false) hl hsel hacyc hcl hch hdst (fun j o hj hE ho e he hEe=>by
  have:=hqe j (List.mem_range.2 hj);rw [hE,ho] at this;simp only [Bool.false_or,List.all_eq_true,List.mem_range] at this;have:=this e he;rw [hEe] at this
  simpa using this) vT hQ l.length (Array.replicate l.length false) vT {w0 with drawn:=w0.drawn+1} (fun w=>Below n w0 w∧n≤w.heap.size) es (by simp)
  (fun i _ _ h=>by rw [hrep i] at h;cases h) (fun j _=>hrep j) (fun W W' ⟨h1,h2⟩ hb=>⟨h1.trans (hb.mono h2),U h2 hb.size⟩) ⟨(Below.refl n w0).drew,hn⟩ (fun _ h=>h) hcb (fun i=>by rw [hes,hrep i];simp) (by rw [hes];exact List.nodup_range.filter _) (fun _ _ _=>rfl) (by
   rw [fr_congr (L':=fun q=>decide (q<m.length)&&!m.getD q false) (vs':=vT) l 0 a0 fun j _=>⟨by rw [hrep j];simp,rfl⟩,hA];exact hc) (by
   have:=List.countP_le_length (p:=fun i=>!(Array.replicate l.length false).getD i false) (l:=List.range l.length)
   simpa using this)
 rw [hzero _ (fun j=>hrep j)] at hmain
 simpa using hmain
end
def mixF (m:List Bool) (es:List Nat) (l:List Oper):Bool:=
 tailK m.length l&&(es==(List.range m.length).filter fun i=>m.getD i false) &&
 (List.range m.length).all fun j=>m.getD j false||match l[j]? with
  |some o=>(List.range m.length).all fun e=>!m.getD e false||!depB o e
  |none=>false
section
variable {P:Program} {Q:Exit→Act→World→Prop} {a0:Act} {w0:World} {l:List Oper}
def wpSet (P:Program) (Q:Exit→Act→World→Prop) (l:List Oper) (k:Nat):Nat→(World→Prop)→List Nat→Act→Prop
 |0,C,_,a=>∀ w,C w→Shut (wpList P l.toArray Q (l.drop k) a w)
 |n+1,C,rem,a=>∀ e,e∈rem→(∀ e'∈rem,∀ o,l[e]?=some o→depB o e'=false)→∃ (α:Type) (val:α→Value) (T:α→World→Prop),(∀ x,Stab (T x))∧
   ∀ o,l[e]?=some o→(∀ w,C w→stepsTo P l.toArray o a w (fun v w'=>Below w.heap.size w w'∧∃ x,v=val x∧T x w'))∧∀ x,wpSet P Q l k n (fun w=>C w∧T x w) (rem.erase e) (a.put o.dst (val x))
theorem mix_any3 {n k:Nat} {E:Nat→Bool} {last:Oper} (hl:l[k]?=some last) (hsel:Region.noSelect l.toArray=true)
  (hacyc:∀ i oi,l[i]?=some oi→∀ e∈oi.after,Region.binds .any e=true→e.on<i)
  (hcl:∀ i,i<k→∃ j oj,i<j∧j≤k∧l[j]?=some oj∧depB oj i=true) (hch:∀ i oi,k<i→l[i]?=some oi→depB oi (i-1)=true)
  (hdst:∀ i j oi oj d,l[i]?=some oi→l[j]?=some oj→oj.dst=some d→(i=j∨oi.dst≠some d)∧(j<k→d∈oi.looksAt l.toArray→depB oi j=true))
  (hqe:∀ j o,j<k→E j=false→l[j]?=some o→∀ e,e<k→E e=true→depB o e=false) (vT:Nat→Value) (hQ:QuietAll P l a0 w0 n k E vT):
  ∀ (fuel:Nat) (listed:Array Bool) (vs:Nat→Value) (w:World) (C:World→Prop) (rem:List Nat),listed.size=l.length→
   (∀ i oi,l[i]?=some oi→listed.getD i false=true→∀ e∈oi.after,Region.binds .any e=true→listed.getD e.on false=true)→
   (∀ j,k≤j→listed.getD j false=false)→Stab C→C w→(∀ w,C w→Below n w0 w∧n≤w.heap.size)→
   (∀ i,i∈rem↔i<k∧E i=true∧listed.getD i false=false)→rem.Nodup→(∀ j,j<k→E j=false→vs j=vT j)→
   wpSet P Q l k rem.length C rem (fr (fun q=>decide (q<k)&&(!E q||listed.getD q false)) vs l 0 a0)→(List.range l.length).countP (fun i=>!listed.getD i false)≤fuel→
   wpAny P .any l.toArray Q fuel listed (fr (fun j=>listed.getD j false) vs l 0 a0) w:=by
 have hkl:k<l.length:=(N.1 hl).1;intro fuel
 induction fuel with
 |zero=>
  intro listed vs w C rem hsz hdown hk hC hw hn hrem hnd hvs hchain hf;have:0<(List.range l.length).countP (fun i=>!listed.getD i false):=List.countP_pos_iff.2 ⟨k,List.mem_range.2 hkl,by simp [hk k (O _)]⟩;omega
 |succ fuel ih=>
  intro listed vs w C rem hsz hdown hk hC hw hn hrem hnd hvs hchain hf;have hgd:∀ j,j<l.length→listed.getD j true=listed.getD j false:=fun j hj=>by
   rw [←hsz] at hj;simp [hj]
  have hselo:∀ (j:Nat) (o:Oper) cs b,l[j]?=some o→o.op≠.select cs b:=fun j o cs b ho=>Region.noSelect_spec hsel j o cs b (by simpa using ho);refine ⟨fun h=>?_,fun i hi=>?_⟩
  ·exfalso;have hex:∃ m,m≤k∧listed.getD m false=false∧∀ j,j<m→listed.getD j false=true:=by
    have:∀ n,(∃ m,m≤n∧listed.getD m false=false∧∀ j,j<m→listed.getD j false=true)∨∀ j,j≤n→listed.getD j false=true:=by
     intro n
     induction n with
     |zero=>
      cases e:listed.getD 0 false with
      |false=>exact .inl ⟨0,O _,e,fun j hj=>by omega⟩
      |true=>exact .inr fun j hj=>by rw [show j=0 by omega];exact e
     |succ n ihn=>
      rcases ihn with ⟨m,hm,h1,h2⟩|h1
      ·exact .inl ⟨m,by omega,h1,h2⟩
      ·cases e:listed.getD (n+1) false with
       |false=>exact .inl ⟨n+1,O _,e,fun j hj=>h1 j (by omega)⟩
       |true=>
        refine .inr fun j hj=>?_;by_cases hjn:j≤n
        ·exact h1 j hjn
        ·rw [show j=n+1 by omega];exact e
    rcases this k with h2|h2
    ·exact h2
    ·have:=hk k (O _);rw [h2 k (O _)] at this;cases this
   obtain ⟨m,hm,h1,h2⟩:=hex;obtain ⟨o,ho⟩:∃ o,l[m]?=some o:=⟨_,I (by omega)⟩;have:m∈Region.ready .any l.toArray listed:=mem_ready.2 ⟨by rw [hgd m (by omega)];exact h1,o,by simpa using ho,fun e he hb=>h2 _ (hacyc m o ho e he hb)⟩;rw [h] at this
   cases this
  ·obtain ⟨hun,o,ho',hdeps⟩:=mem_ready.1 hi;have ho:l[i]?=some o:=by simpa using ho'
   have hil:i<l.length:=(N.1 ho).1;rw [hgd i hil] at hun;have hdep:∀ j,depB o j=true→listed.getD j false=true∧j<i:=fun j hj=>by
    unfold depB at hj;rw [Array.any_eq_true'] at hj;obtain ⟨e,he,hb⟩:=hj;simp only [H,beq_iff_eq] at hb;rw [←hb.2];exact ⟨hdeps e he hb.1,hacyc i o ho e he hb.1⟩
   have hik':i≤k:=by
    rcases Nat.lt_or_ge k i with h|h
    ·have h2:=(hdep (i-1) (hch i o h ho)).1;rw [hk (i-1) (by omega)] at h2;cases h2
    ·exact h
   have hset:∀ j,(listed.setIfInBounds i true).getD j false=upd (fun j=>listed.getD j false) i true j:=fun j=>by
    by_cases e:i=j
    ·subst e;have:i<listed.size:=by omega
     simp [this,upd]
    ·rw [getD_set_ne false e];exact (if_neg fun h=>e h.symm).symm
   have hsetI:(listed.setIfInBounds i true).getD i false=true:=by rw [hset];exact if_pos rfl
   have hsetN:∀ j,j≠i→(listed.setIfInBounds i true).getD j false=listed.getD j false:=fun j hj=>by rw [hset];exact if_neg hj
   have hdown':∀ j oj,l[j]?=some oj→(listed.setIfInBounds i true).getD j false=true→∀ e∈oj.after,Region.binds .any e=true→(listed.setIfInBounds i true).getD e.on false=true:=by
    intro j oj hj hlj e he hbd;by_cases e1:e.on=i
    ·rw [e1];exact hsetI
    ·rw [hsetN _ e1];by_cases e2:j=i
     ·subst e2;rw [ho] at hj;cases hj
      exact hdeps e he hbd
     ·rw [hsetN _ e2] at hlj;exact hdown j oj hj hlj e he hbd
   have hcnt:(List.range l.length).countP (fun j=>!(listed.setIfInBounds i true).getD j false)≤fuel:=by
    have:=countP_one (f:=fun i=>!listed.getD i false) (g:=fun j=>!(listed.setIfInBounds i true).getD j false) (i:=i) (by simp only [hun];rfl) (by simp only [hsetI];rfl) (fun j hj=>by
     simp only [hsetN j hj]) l.length hil
    omega
   have hfrp:∀ v,fr (fun j=>(listed.setIfInBounds i true).getD j false) (upd vs i v) l 0 a0=(fr (fun j=>listed.getD j false) vs l 0 a0).put o.dst v:=fun v=>by
    rw [fr_congr (L':=upd (fun j=>listed.getD j false) (0+i) true) (vs':=upd vs (0+i) v) l 0 a0 fun j _=>by rw [Nat.zero_add];exact ⟨hset j,rfl⟩];exact fr_step l 0 i a0 o ho (by rw [Nat.zero_add];exact hun) fun j o' hj hne t ht=>by
     rcases (hdst j i o' o t hj ho ht).1 with h|h
     ·exact absurd h hne
     ·exact h
   by_cases hik:i=k
   ·subst hik;rw [hl] at ho;cases ho
    have hall:∀ n j,i-j≤n→j<i→listed.getD j false=true:=by
     intro n
     induction n with
     |zero=>intro j h1 h2;omega
     |succ n ihn=>
      intro j h1 h2;obtain ⟨m,om,hm,hmk,hom,hd⟩:=hcl j h2;by_cases e:m=i
      ·subst e;rw [hl] at hom;cases hom
       exact (hdep j hd).1
      ·have:=ihn m (by omega) (by omega);unfold depB at hd;rw [Array.any_eq_true'] at hd;obtain ⟨e',he,hb⟩:=hd;simp only [H,beq_iff_eq] at hb;rw [←hb.2];exact hdown m om hom this e' he hb.1
    have hrn:rem=[]:=by
     cases rem with
     |nil=>rfl
     |cons e rem=>
      have h1:=(hrem e).1 (by simp);rw [hall i e (by omega) h1.1] at h1;exact absurd h1.2.2 (by simp)
    subst hrn;have hfr:fr (fun j=>listed.getD j false) vs l 0 a0=fr (fun q=>decide (q<i)&&(!E q||listed.getD q false)) vs l 0 a0:=fr_congr l 0 a0 fun j _=>⟨by
     by_cases h1:j<i
     ·rw [hall i j (by omega) h1];simp [h1]
     ·rw [hk j (by omega)];simp [h1],rfl⟩
    rw [hfr];have hcp:l.length-(i+1)≤fuel:=by
     have e1:(List.range l.length).countP (fun j=>!listed.getD j false)=l.length-i:=by
      have h3:∀ n,n≤l.length→(List.range n).countP (fun j=>!listed.getD j false)=n-i:=by
       intro n
       induction n with
       |zero=>intro _;simp
       |succ n ihn=>
        intro hn;rw [List.range_succ,List.countP_append,ihn (by omega),List.countP_singleton];by_cases h:n<i
        ·simp [hall i n (by omega) h];omega
        ·simp [hk n (by omega)];omega
      exact h3 l.length (O _)
     omega
    exact chain_step hacyc hch i fuel listed _ w hl (by omega) hsz (fun j hj=>hall i j (by omega) hj) hk hcp ((show ∀ w,C w→Shut (wpList P l.toArray Q (l.drop i) _ w) from hchain) w hw).out
   ·have hlt:i<k:=by omega
    cases hE:E i with
    |true=>
     have him:i∈rem:=(hrem i).2 ⟨hlt,hE,hun⟩;obtain ⟨q,hq⟩:∃ q,rem.length=q+1:=⟨rem.length-1,by have:=List.length_pos_of_mem him;omega⟩;rw [hq] at hchain;have hfree:∀ e'∈rem,∀ o',l[i]?=some o'→depB o' e'=false:=fun e' he' o' ho'=>by
      rw [ho] at ho';cases ho'
      cases hd:depB o e' with
      |false=>rfl
      |true=>
       have h1:=(hdep e' hd).1;rw [((hrem e').1 he').2.2] at h1;cases h1
     obtain ⟨α,val,T,hT,hstep⟩:=hchain i him hfree;obtain ⟨e,hei⟩:∃ e,e=i:=⟨_,rfl⟩;subst hei;obtain ⟨hs0,hnext⟩:=hstep o ho;have hs:=steps_same o (fun cs b=>hselo e o cs b ho) (a':=fr (fun j=>listed.getD j false) vs l 0 a0) (fun t ht=>fr_at l 0 a0 a0 rfl fun j oj hj hd=>by
      by_cases hjk:j<k
      ·have hd2:=(hdst e j o oj t ho hj hd).2 hjk ht;have h3:=hdep j hd2;rw [Nat.zero_add,h3.1]
       simp;omega
      ·rw [Nat.zero_add,hk j (by omega)];simp [hjk]) (hs0 w hw)
     have hgo:∀ v w',(Below w.heap.size w w'∧∃ x,v=val x∧T x w')→wpAny P .any l.toArray Q fuel (listed.setIfInBounds e true) ((fr (fun j=>listed.getD j false) vs l 0 a0).put o.dst v) w':=by
      rintro v w' ⟨hb,x,rfl,hTx⟩;rw [←hfrp];refine ih _ _ w' (fun w=>C w∧T x w) (rem.erase e) (by simpa using hsz) hdown' (fun j hj=>by rw [hsetN j (by omega)];exact hk j hj) (hC.and (hT x)) ⟨hC _ _ hw hb,hTx⟩ (fun w h=>hn w h.1) (fun j=>?_) (hnd.erase e) (fun j hj hEj=>?_) ?_ hcnt
      ·by_cases h:j=e
       ·subst h;rw [hsetI];simp [hnd.not_mem_erase]
       ·rw [hsetN j h,←hrem j];exact List.mem_erase_of_ne h
      ·have:j≠e:=fun h=>by subst h;rw [hE] at hEj;cases hEj
       unfold upd;rw [if_neg this];exact hvs j hj hEj
      ·rw [show (rem.erase e).length=q by rw [List.length_erase_of_mem him,hq];rfl];have h1:=hnext x;have h2:=fr_step (L:=fun q=>decide (q<k)&&(!E q||listed.getD q false)) (vs:=vs) (v:=val x) l 0 e a0 o ho (by rw [Nat.zero_add,hun,hE];simp) fun j o' hj hne t ht=>by
        rcases (hdst j e o' o t hj ho ht).1 with h|h
        ·exact absurd h hne
        ·exact h
       rw [←h2,Nat.zero_add] at h1;rw [fr_congr (L':=upd (fun q=>decide (q<k)&&(!E q||listed.getD q false)) e true) (vs':=upd vs e (val x)) l 0 a0 fun j _=>⟨by
        by_cases h:j=e
        ·subst h;rw [hsetI];simp [upd,hlt]
        ·rw [hsetN j h];simp [upd,h],rfl⟩]
       exact h1
     unfold wpOp;simp only [ho'];unfold stepsTo at hs
     split
     ·rename_i hw';simp only [hw',if_true] at hs;exact .inl (gives_put hs hgo)
     ·rename_i hw';simp only [hw'] at hs;exact hgo _ _ hs
    |false=>
     obtain ⟨v,hy0,hput⟩:=hQ C hC ⟨⟨w,(hn w hw).1,(hn w hw).2,hw⟩⟩ i hlt hE o ho;have hlooks:∀ t∈o.looksAt l.toArray,(fr (fun q=>decide (q<i)&&!E q) vT l 0 a0).tmps[t]?=(fr (fun j=>listed.getD j false) vs l 0 a0).tmps[t]?:=fun t ht=>
      fr_at3 l 0 a0 a0 rfl fun j oj hj hd=>by
       by_cases hjk:j<k
       case neg=>
        rw [Nat.zero_add,hk j (by omega)];exact ⟨by simp;omega,fun h=>by simp at h;omega⟩
       have hd2:=(hdst i j o oj t ho hj hd).2 hjk ht;have h3:=hdep j hd2;have hEj:E j=false:=by
        cases h4:E j with
        |false=>rfl
        |true=>
         have h5:=hqe i o hlt hE ho j (by omega) h4;rw [hd2] at h5;cases h5
       rw [Nat.zero_add,h3.1,hEj,hvs j (by omega) hEj];exact ⟨by simp;exact h3.2,fun _=>rfl⟩
     have hy:YieldsIn P l.toArray (fun w'=>∃ s:InG n w0 C,w'=s.w) o v (fr (fun j=>listed.getD j false) vs l 0 a0):=
      hy0.of_same (exec_same o (fun cs b=>hselo i o cs b ho) hlooks).symm (wanted_same o hlooks).symm
     have hsize:∀ (l':List Oper) (q:Nat) (L:Nat→Bool) (vs:Nat→Value) (a:Act),(fr L vs l' q a).tmps.size=a.tmps.size:=by
      intro l'
      induction l' with
      |nil=>intro q L vs a;rfl
      |cons o' l' ihl=>
       intro q L vs a;simp only [fr];rw [ihl]
       split
       ·exact put_size _ _ _
       ·rfl
     have hgo:∀ w',(∃ s:InG n w0 C,w'=s.w)→wpAny P .any l.toArray Q fuel (listed.setIfInBounds i true) ((fr (fun j=>listed.getD j false) vs l 0 a0).put o.dst v) w':=by
      rintro w' ⟨s,rfl⟩;rw [hput _ (hsize _ _ _ _ _),←hvs i hlt hE,←hfrp,show upd vs i (vs i)=vs from funext fun j=>by unfold upd;split<;>simp [*]];refine ih _ _ s.w C rem (by simpa using hsz) hdown' (fun j hj=>by rw [hsetN j (by omega)];exact hk j hj) hC s.2.2.2 hn (fun j=>?_) hnd hvs ?_ hcnt
      ·by_cases h:j=i
       ·subst h;rw [hrem j,hsetI,hE]
        simp
       ·rw [hsetN j h];exact hrem j
      ·rw [fr_congr (L':=fun q=>decide (q<k)&&(!E q||listed.getD q false)) (vs':=vs) l 0 a0 fun j _=>⟨by
        by_cases h:j=i
        ·subst h;rw [hE];simp
        ·rw [hsetN j h],rfl⟩]
       exact hchain
     have hwC:∃ s:InG n w0 C,w=s.w:=⟨⟨w,(hn w hw).1,(hn w hw).2,hw⟩,rfl⟩;unfold wpOp;simp only [ho']
     rcases hy with ⟨hw',hv⟩|⟨hw',rfl⟩
     ·rw [if_pos hw'];exact .inl (Oper.wp_of_quiet (C:=fun w'=>∃ s:InG n w0 C,w'=s.w) (K:=fun a'=>a'=(fr (fun j=>listed.getD j false) vs l 0 a0).put o.dst v) hwC (fun a' w' h1 h2=>by subst h2;exact hgo w' h1) ⟨v,hv,rfl⟩)
     ·rw [if_neg (by rw [hw'];simp)];exact hgo w hwC
theorem wp_region_mix3 {id:Nat} (n:Nat) (m:List Bool) (es:List Nat) (last:Oper) (hl:l[m.length]?=some last) (hn:n≤w0.heap.size) (hm:P.follows .mixedOrders=true) (hB:mixF m es l=true)
  (h:∃ A,(∀ G,Stab G→Nonempty (InG n w0 G)→∀ R:Act→Prop,R A→wpQuiet P l.toArray (fun w'=>∃ s:InG n w0 G,w'=s.w) R (skip m l) a0)∧wpSet P Q l m.length es.length (fun w=>Below n w0 w∧n≤w.heap.size) es A):(Code.region id l.toArray true).wp P Q a0 w0:=by
 obtain ⟨A,hq,hc⟩:=h;unfold mixF at hB;rw [H,H,List.all_eq_true] at hB;obtain ⟨⟨hT,hes⟩,hqe⟩:=hB;have hes:es=(List.range m.length).filter fun i=>m.getD i false:=by simpa using hes
 obtain ⟨hB,hcl,hch⟩:=tailK_parts hT;unfold monoK at hB;rw [H,List.all_eq_true] at hB;obtain ⟨hsel,hB⟩:=hB;have hkl:m.length<l.length:=(N.1 hl).1;have hB1:∀ i oi,l[i]?=some oi→_:=fun i oi hi=>by
  have:=hB i (List.mem_range.2 (N.1 hi).1);simp only [hi,H] at this;exact this
 have hdst:∀ i j oi oj d,l[i]?=some oi→l[j]?=some oj→oj.dst=some d→(i=j∨oi.dst≠some d)∧(j<m.length→d∈oi.looksAt l.toArray→depB oi j=true):=by
  intro i j oi oj d hi hj hd;have:=(hB1 i oi hi).2;rw [List.all_eq_true] at this;have:=this j (List.mem_range.2 (N.1 hj).1);simp only [hj,hd,H,Bool.or_eq_true,beq_iff_eq,bne_iff_ne,Bool.not_eq_true',List.contains_eq_mem,decide_eq_false_iff_not,ne_eq] at this;refine ⟨this.1,fun hjk hm=>?_⟩
  rcases this.2 with (h|h)|h
  ·exact absurd hjk (by simpa using h)
  ·exact absurd hm (by simpa using h)
  ·exact h
 have hacyc:∀ i oi,l[i]?=some oi→∀ e∈oi.after,Region.binds .any e=true→e.on<i:=by
  intro i oi hi e he hb;have:=(hB1 i oi hi).1.1;rw [Array.all_eq_true'] at this;have:=this e he
  simpa [hb] using this
 have hdd:∀ (i j:Nat) (oi oj:Oper),l[i]?=some oi→l[j]?=some oj→i≠j→∀ t,oi.dst=some t→oj.dst≠some t:=fun i j oi oj hi hj hne t ht=>by
  rcases (hdst j i oj oi t hj hi ht).1 with h|h
  ·exact absurd h.symm hne
  ·exact h
 have hzero:∀ (L:Nat→Bool),(∀ j,L j=false)→∀ (l':List Oper) (k:Nat) (vs:Nat→Value) (a:Act),fr L vs l' k a=a:=by
  intro L hL l'
  induction l' with
  |nil=>intro k vs a;rfl
  |cons o l' ih=>
   intro k vs a;simp only [fr,hL k,Bool.false_eq_true,if_false];exact ih _ _ _
 have hvals:∀ G,Stab G→Nonempty (InG n w0 G)→∃ vs:Nat→Value,(∀ j,j<m.length→m.getD j false=false→∀ o,l[j]?=some o→YieldsIn P l.toArray (fun w'=>∃ s:InG n w0 G,w'=s.w) o (vs j) (fr (fun q=>decide (q<j)&&!m.getD q false) vs l 0 a0))∧fr (fun q=>decide (q<m.length)&&!m.getD q false) vs l 0 a0=A:=fun G hG hne=>by
  have h:=hq G hG hne (fun a'=>a'=A) rfl;rw [show a0=fr (fun q=>decide (q<0)&&!m.getD q false) (fun _=>undef) l 0 a0 from (hzero _ (fun j=>by simp) _ _ _ _).symm] at h;obtain ⟨vs,_,h2,h3⟩:=mix_vals (E:=fun q=>m.getD q false) hdd m l 0 (fun _=>undef) (by omega) (fun j=>by rw [Nat.zero_add]) (fun j _=>by rw [Nat.zero_add]) h;rw [Nat.zero_add] at h2 h3;exact ⟨vs,fun j hj hE o ho=>h2 j (Nat.zero_le _) hj hE o ho,h3⟩
 obtain ⟨vT,hvT,hA⟩:=hvals (fun _=>True) (fun _ _ _ _=>trivial) ⟨⟨w0,Below.refl n w0,hn,trivial⟩⟩;have hQ:QuietAll P l a0 w0 n m.length (fun q=>m.getD q false) vT:=fun G hG hne j hj hE o ho=>by
  obtain ⟨vs,hv,hA2⟩:=hvals G hG hne;have hpin:∀ j,j<m.length→m.getD j false=false→∀ o,l[j]?=some o→∀ d,o.dst=some d→d<a0.tmps.size→vs j=vT j:=fun j hj hE o ho d hd hlt=>by
   have h1:=fr_of (L:=fun q=>decide (q<m.length)&&!m.getD q false) (vs:=vs) l 0 j a0 o ho hd (by rw [Nat.zero_add,hE];simp [hj]) (fun i o' hi hne=>fun e=>hdd j i o o' ho hi (fun h=>hne h.symm) d hd e) hlt;have h2:=fr_of (L:=fun q=>decide (q<m.length)&&!m.getD q false) (vs:=vT) l 0 j a0 o ho hd (by rw [Nat.zero_add,hE];simp [hj]) (fun i o' hi hne=>fun e=>hdd j i o o' ho hi (fun h=>hne h.symm) d hd e) hlt;rw [hA2] at h1;rw [hA,h1,Nat.zero_add] at h2;exact Option.some.inj h2
  refine ⟨vs j,?_,fun a ha=>?_⟩
  ·have h1:=hv j hj hE o ho;rw [fr_congr3 (vs':=vT) l 0 a0 fun q o' d hL ho' hd hlt=>by
    rw [Nat.zero_add] at hL ⊢;simp only [H,decide_eq_true_eq,Bool.not_eq_true'] at hL;exact hpin q (by omega) hL.2 o' ho' d hd hlt] at h1
   exact h1
  ·cases hd:o.dst with
   |none=>rfl
   |some d=>
    by_cases hlt:d<a0.tmps.size
    ·rw [hpin j hj hE o ho d hd hlt]
    ·rw [←ha] at hlt;simp [Act.put,Array.setIfInBounds,hlt]
 have hrep:∀ j,(Array.replicate l.length false).getD j false=false:=fun k=>by
  rcases Nat.lt_or_ge k l.length with h|h
  ·simp [h]
  ·simp [Array.getElem?_eq_none (xs:=Array.replicate l.length false) (i:=k) (by simpa using h)]
 refine wp_region_any hm ?_;have hmain:=mix_any3 (P:=P) (Q:=Q) (a0:=a0) (w0:=w0) (n:=n) (E:=fun q=>m.getD q false) hl hsel hacyc hcl hch hdst (fun j o hj hE ho e he hEe=>by
  have:=hqe j (List.mem_range.2 hj);rw [hE,ho] at this;simp only [Bool.false_or,List.all_eq_true,List.mem_range] at this;have:=this e he;rw [hEe] at this
  simpa using this) vT hQ l.length (Array.replicate l.length false) vT {w0 with drawn:=w0.drawn+1} (fun w=>Below n w0 w∧n≤w.heap.size) es (by simp)
  (fun i _ _ h=>by rw [hrep i] at h;cases h) (fun j _=>hrep j) (fun W W' ⟨h1,h2⟩ hb=>⟨h1.trans (hb.mono h2),U h2 hb.size⟩) ⟨(Below.refl n w0).drew,hn⟩ (fun _ h=>h) (fun i=>by rw [hes,hrep i];simp) (by rw [hes];exact List.nodup_range.filter _) (fun _ _ _=>rfl) (by
   rw [fr_congr (L':=fun q=>decide (q<m.length)&&!m.getD q false) (vs':=vT) l 0 a0 fun j _=>⟨by rw [hrep j];simp,rfl⟩,hA];exact hc) (by
   have:=List.countP_le_length (p:=fun i=>!(Array.replicate l.length false).getD i false) (l:=List.range l.length)
   simpa using this)
 rw [hzero _ (fun j=>hrep j)] at hmain
 simpa using hmain
theorem wpSet_cons {n k:Nat} {C:World→Prop} {rem:List Nat} {a:Act} (h:∀ e,e∈rem→(∀ e'∈rem,∀ o,l[e]?=some o→depB o e'=false)→∃ (o:Oper),l[e]?=some o∧o.guard=none∧∃ (α:Type) (val:α→Value) (T:α→World→Prop),(∀ x,Stab (T x))∧
  (∀ w,C w→gives P o a.eval w (fun v w'=>Below w.heap.size w w'∧∃ x,v=val x∧T x w'))∧∀ x,wpSet P Q l k n (fun w=>C w∧T x w) (rem.erase e) (a.put o.dst (val x))):wpSet P Q l k (n+1) C rem a:=by
 intro e he hf;obtain ⟨o,ho,hg,α,val,T,hT,h1,h2⟩:=h e he hf;refine ⟨α,val,T,hT,fun o' ho'=>?_⟩;rw [ho] at ho';cases ho'
 refine ⟨fun w hw=>?_,h2⟩;unfold stepsTo;rw [if_pos (by simp [Region.wanted,hg])];exact h1 w hw
theorem wpSet_nil {k:Nat} {C:World→Prop} {rem:List Nat} {a:Act} (h:∀ w,C w→wpList P l.toArray Q (l.drop k) a w):wpSet P Q l k 0 C rem a:=fun w hw=>⟨h w hw⟩
end
end Go.Bx
namespace Go.Proofs.YtgodhpampaleeaaGreatDoor
open Go.RowKit Go.Bx Go.Od Go.Hp
attribute [local go_sem ↓] Go.wp_at_zero Go.wp_at_succ
theorem areaR_nn {r:Rc} (h:areaR r≤20000):0≤areaR r:=by
 have:=area_eq (r:=r) (by omega);omega
def WgtPost (w:World) (nds:List Nd) (f:Nat) (p:Int) (r:Rc) (e:Ending) (w':World):Prop:=∃ n:Int,e=.returned (Y X n)∧Below w.heap.size w w'∧1≤n∧n≤20001*(f:Int)∧(n≤20000→LtP nds f p r)
def WgtC (f:Nat):Prop:=∀ (D:Nat) (nv:Value) (g:Fg) (p:Int) (r:Rc) (w:World),GoodR g→Gr D w nv g.nds→D≤w.heap.size → -1≤p→p<g.nds.length→rkN g.nds p<f→f≤200→
 Calls Tryz.prog 56 #[.agg #[nv,Y X g.out],Y X p,rv r,Y X 20000] w (WgtPost w g.nds f p r)
theorem wgt_step (f:Nat) (IH:WgtC f):WgtC (f+1):=by
 intro D nv g p want w hg hgr hD hp0 hp1 hrk hf;obtain ⟨nds,out⟩:=g;obtain ⟨tx0,ty0,tx1,ty1⟩:=want;obtain ⟨ga,gc,rfl⟩:=hgr.isSl;obtain ⟨n,hn⟩:∃ n,n=nds.length:=⟨_,rfl⟩;have HN:=S hn;have HG:Hid (∀ W,Below w.heap.size w W→Gr D W (J ga n gc) nds∧D≤W.heap.size):=fun W h=>⟨by rw [hn];exact hgr.below h hD,U hD h.size⟩;have HGR:Hid (GoodR ⟨nds,out⟩∧rkN nds p<f+1∧WgtC f):=⟨hg,hrk,IH⟩;have hn100:n≤100:=by rw [hn];exact hg.gn.few
 dsimp only at hp1 ⊢;rw [←hn] at hp1 ⊢;obtain ⟨F,hF⟩:∃ F,F=fineB ⟨tx0,ty0,tx1,ty1⟩ 20000:=⟨_,rfl⟩;have HFN:Hid (∀ W,Calls Tryz.prog 25 #[rv ⟨tx0,ty0,tx1,ty1⟩,Y X 0,Y X 0,Y X 20000] W (PPost W (.bool F))):=fun W=>by rw [hF];exact fine08_c _ _ W
 have HF:Hid (F=true→HfB ⟨tx0,ty0,tx1,ty1⟩∧areaR ⟨tx0,ty0,tx1,ty1⟩≤20000):=S fun h=>fine_is (by rw [←hF];exact h);have H0:Hid (Bag w ((w.alloc (.cells #[J ga n gc,Y X out] 33)).alloc (.cells #[Y X tx0,Y X ty0,Y X tx1,Y X ty1] 25)) [(w.heap.size,[J ga n gc,Y X out]),(w.heap.size+1,(qI tx0 ty0 tx1 ty1))]):=bag2 w [J ga n gc,Y X out] (qI tx0 ty0 tx1 ty1) _ _;clear hn hgr hg hrk IH hF hD;go_enter Tryz.func56,Tryz.ntmps56;go_wp2_with fail;refine (HFN.o _).mono ?_;rintro e' W1 ⟨rfl,hb1⟩;have H1:=S (H0.o.call hb1);clear hb1 H0 HFN;obtain ⟨e0,e1,e2,e3⟩:=(H1.o.box 1 rfl).c4
 cases F with
 |false=>
  go_wp2_with fail;go_ret;exact ⟨_,rfl,H1.o.below,by omega,by omega,fun h=>absurd h (by omega)⟩
 |true=>
  have HH:Hid (HfB ⟨tx0,ty0,tx1,ty1⟩∧areaR ⟨tx0,ty0,tx1,ty1⟩≤20000):=HF.o rfl;obtain ⟨A,hA⟩:∃ A,A=areaR ⟨tx0,ty0,tx1,ty1⟩:=⟨_,rfl⟩;have hA0:0≤A:=by rw [hA];exact areaR_nn HH.o.2
  have hA1:A≤20000:=by rw [hA];exact HH.o.2
  have HAR:Hid (∀ W,Calls Tryz.prog 26 #[rv ⟨tx0,ty0,tx1,ty1⟩] W (PPost W (Y X A))):=fun W=>by rw [hA];exact area03_c _ W (hf_pl HH.o.1)
  clear hA;go_wp2_with fail;refine (HAR.o _).mono ?_;rintro e' W2 ⟨rfl,hb2⟩;have H2:=S (H1.o.call hb2);clear hb2 H1 HAR e0 e1 e2 e3 HF;by_cases hneg:p<0
  ·have d0:decide (p<0)=true:=decide_eq_true hneg;have HL:Hid (LtP nds (f+1) p ⟨tx0,ty0,tx1,ty1⟩):=⟨HH.o.1,HH.o.2,fun h=>absurd h (by omega)⟩;go_wp2_with fail;go_ret;exact ⟨_,rfl,H2.o.below,by omega,by omega,fun _=>HL.o⟩
  ·have d0:decide (p<0)=false:=decide_eq_false hneg;obtain ⟨k,rfl⟩:∃ k:Nat,p=(k:Int):=⟨p.toNat,by omega⟩;have hk:k<nds.length:=by rw [←HN.o];omega
   obtain ⟨gb,go,gcap,ia,ic,pa,pc,hv,hbD,hcap,hcm,k0,k1,k2,s1,s2⟩:=(HG.o W2 H2.o.below).1.node (i:=k) hk;simp only [y] at hv;obtain ⟨rfl,hnn,rfl⟩:=hv;clear hnn;obtain ⟨op,hop⟩:∃ z,z=(nds.getD k Nd.none).op:=⟨_,rfl⟩;obtain ⟨ins,hins⟩:∃ z,z=(nds.getD k Nd.none).ins:=⟨_,rfl⟩;obtain ⟨P,hP⟩:∃ z,z=(nds.getD k Nd.none).p:=⟨_,rfl⟩;have HND:Hid (nds.getD k Nd.none=⟨op,ins,P⟩):=by
    have:nds.getD k Nd.none=⟨op,ins,P⟩:=by rw [hop,hins,hP]
    exact this
   rw [←hop] at k0;rw [←hins] at k1 s1;rw [←hP] at k2 s2;have HRA:Hid (RaOk ⟨op,ins,P⟩):=by
    have h1:=HGR.o.1.ra k hk;dsimp only at h1;rw [HND.o] at h1;exact h1
   obtain ⟨m,hm⟩:∃ m,m=ins.length:=⟨_,rfl⟩;obtain ⟨pl,hpl⟩:∃ m,m=P.length:=⟨_,rfl⟩;have HM:Hid (m=ins.length∧pl=P.length):=⟨hm,hpl⟩;have hm8:m≤8:=by rw [hm];exact HRA.o.few
   rw [←hm] at k1;rw [←hpl] at k2;have HS:Hid (∀ W,Below W2.heap.size W2 W→SlOf RInt 1 (·<W.heap.size) W (J ia m ic) ins∧SlOf RInt 1 (·<W.heap.size) W (J pa pl pc) P):=fun W h=>by
    have hDw:∀ b,b<D→b<W.heap.size:=fun b hb=>V hb (U (HG.o W2 H2.o.below).2 h.size);have hsm:Same (·<D) W2 W:=Same.of_below h fun b hb=>V hb (HG.o W2 H2.o.below).2;rw [hm,hpl];exact ⟨(s1.same RInt.ok hsm).mono RInt.ok hDw,(s2.same RInt.ok hsm).mono RInt.ok hDw⟩
   obtain ⟨Z,hZ⟩:∃ Z,Z=rofR ⟨op,ins,P⟩ ⟨tx0,ty0,tx1,ty1⟩:=⟨_,rfl⟩;have HZ:Hid (Z=rofR (nds.getD k Nd.none) ⟨tx0,ty0,tx1,ty1⟩∧RcP Z):=⟨by rw [HND.o];exact hZ,by rw [hZ];exact rofR_pl HRA.o (hf_pl HH.o.1)⟩;have HOF:Hid (∀ W,Below W2.heap.size W2 W→Calls Tryz.prog 52 #[.agg #[Y X op,J ia m ic,J pa pl pc],rv ⟨tx0,ty0,tx1,ty1⟩] W (Of3Post W m Z)):=fun W h=>by
    have hr:=of14r_c op (J ia m ic) (J pa pl pc) ins P ⟨tx0,ty0,tx1,ty1⟩ W HRA.o (HS.o W h).1 (HS.o W h).2 (hf_pl HH.o.1);rw [hZ,HM.o.1];rw [HM.o.1] at hr;exact hr
   have hk0:(0:Int)≤(k:Int):=by omega
   have hgc:n≤gc:=by rw [HN.o];exact hcap
   unfold maxLen at hcm;have g0:=H2.o.cell 0 rfl 0 rfl;have H3:Hid (Bag w (W2.alloc (.cells #[Y X op,J ia m ic,J pa pl pc] 52)) [(w.heap.size,[J (some ⟨gb,go,none⟩) n gc,Y X out]),(w.heap.size+1,(qI tx0 ty0 tx1 ty1)),(W2.heap.size,[Y X op,J ia m ic,J pa pl pc])]):=H2.o.alloc [Y X op,J ia m ic,J pa pl pc] _;have HB3:Hid (Below W2.heap.size W2 (W2.alloc (.cells #[Y X op,J ia m ic,J pa pl pc] 52))):=below_alloc W2 _;clear hop hins hP hm hpl;go_upto_region 7 with fail;generalize (W2.alloc (.cells #[Y X op,J ia m ic,J pa pl pc] 52))=W3 at *;clear k0 k1 k2 g0 s1 s2 H2 hZ;have hmv:=S HRA.o.pa.gr;have n0:=H3.o.cell 2 rfl 0 rfl;have n2:=H3.o.cell 2 rfl 2 rfl;have HPI:Hid (pl=P.length∧pl≤pc∧pc≤9223372036854775807∧∀ j:Nat,j<P.length→∃ b o,pa=some ⟨b,o,none⟩∧∀ q:Nat,q<P.length→W3.cell? ⟨b,o+q,none⟩=some (Y X (P.getD q 0))):=by
    obtain ⟨qa,qc,hq0,hq1,hq2,_,hqc⟩:=((HS.o W3 HB3.o).2).ints;simp only [y] at hq0;obtain ⟨rfl,hq3,rfl⟩:=hq0;refine ⟨HM.o.2,by rw [hq3];exact hq1,hq2,fun j hj=>?_⟩;obtain ⟨b,o,h1,h2,h3⟩:=hqc j hj;exact ⟨b,o,h1,h3⟩
   go_cut [70] from 30 (fun c wx=>∃ b:Bool,c=.bool b∧wx=W3∧(b=false→(op=2∨op=3∨op=4→P.getD 0 0≤9∧P.getD 1 0≤9)∧(op=11→P.getD 2 0≤9∧P.getD 3 0≤9)))
   case first=>
    clear HOF HZ HH HG HS;by_cases t3:op=11
    ·have x1:decide (2≤op)=true:=decide_eq_true (by omega);have x2:decide (op≤4)=false:=decide_eq_false (by omega);have x3:(op==11)=true:=by simpa using t3
     have hl2:8≤P.length:=by have h:=(HRA.o.sh t3).1;dsimp only at h;omega
     have HT:=S t3;clear t3;have hlen:8≤P.length:=hl2;have hpn:=HPI.o.1;have hpc1:=HPI.o.2.1;have hpc2:=HPI.o.2.2.1;obtain ⟨pb,po,hpa,hpc⟩:=HPI.o.2.2.2 0 (by omega);subst hpa;obtain ⟨q2,hq2'⟩:∃ q,q=P.getD 2 0:=⟨_,rfl⟩;have m2:W3.cell? ⟨pb,po+2,none⟩=some (Y X q2):=by rw [hq2'];have h:=hpc 2 (by omega);simpa using h
     have hpi2:(2:Int)<(pl:Int):=by omega
     have HQ2:=S hq2';clear hq2';obtain ⟨q3,hq3'⟩:∃ q,q=P.getD 3 0:=⟨_,rfl⟩;have m3:W3.cell? ⟨pb,po+3,none⟩=some (Y X q3):=by rw [hq3'];have h:=hpc 3 (by omega);simpa using h
     have hpi3:(3:Int)<(pl:Int):=by omega
     have HQ3:=S hq3';clear hq3';clear hpc hpn hlen hl2;by_cases u2:9<q2
     ·have v2:decide (9<q2)=true:=decide_eq_true u2;go_wp2_with fail;go_meet;exact ⟨true,rfl,rfl,fun h=>by cases h⟩
     ·have v2:decide (9<q2)=false:=decide_eq_false u2;by_cases u3:9<q3
      ·have v3:decide (9<q3)=true:=decide_eq_true u3;go_wp2_with fail;go_meet;exact ⟨true,rfl,rfl,fun h=>by cases h⟩
      ·have v3:decide (9<q3)=false:=decide_eq_false u3;have HV:Hid (P.getD 2 0≤9∧P.getD 3 0≤9):=by rw [←HQ2.o,←HQ3.o];exact ⟨by omega,by omega⟩
       go_wp2_with fail;go_meet;exact ⟨false,rfl,rfl,fun _=>⟨fun h=>absurd HT.o (by omega),fun _=>HV.o⟩⟩
    ·have x3:(op==11)=false:=by simpa using t3
     by_cases t1:2≤op
     ·have x1:decide (2≤op)=true:=decide_eq_true t1;by_cases t2:op≤4
      ·have x2:decide (op≤4)=true:=decide_eq_true t2;have hl2:2≤P.length:=(HRA.o.pa.gr (by dsimp only;omega)).1;have hlen:2≤P.length:=hl2;have hpn:=HPI.o.1;have hpc1:=HPI.o.2.1;have hpc2:=HPI.o.2.2.1;obtain ⟨pb,po,hpa,hpc⟩:=HPI.o.2.2.2 0 (by omega);subst hpa;obtain ⟨q0,hq0'⟩:∃ q,q=P.getD 0 0:=⟨_,rfl⟩;have m0:W3.cell? ⟨pb,po,none⟩=some (Y X q0):=by rw [hq0'];have h:=hpc 0 (by omega);simpa using h
       have hpi0:(0:Int)<(pl:Int):=by omega
       have HQ0:=S hq0';clear hq0';obtain ⟨q1,hq1'⟩:∃ q,q=P.getD 1 0:=⟨_,rfl⟩;have m1:W3.cell? ⟨pb,po+1,none⟩=some (Y X q1):=by rw [hq1'];have h:=hpc 1 (by omega);simpa using h
       have hpi1:(1:Int)<(pl:Int):=by omega
       have HQ1:=S hq1';clear hq1';clear hpc hpn hlen hl2;by_cases u0:9<q0
       ·have v0:decide (9<q0)=true:=decide_eq_true u0;go_wp2_with fail;go_meet;exact ⟨true,rfl,rfl,fun h=>by cases h⟩
       ·have v0:decide (9<q0)=false:=decide_eq_false u0;by_cases u1:9<q1
        ·have v1:decide (9<q1)=true:=decide_eq_true u1;go_wp2_with fail;go_meet;exact ⟨true,rfl,rfl,fun h=>by cases h⟩
        ·have v1:decide (9<q1)=false:=decide_eq_false u1;have HV:Hid (P.getD 0 0≤9∧P.getD 1 0≤9):=by rw [←HQ0.o,←HQ1.o];exact ⟨by omega,by omega⟩
         go_wp2_with fail;go_meet;exact ⟨false,rfl,rfl,fun _=>⟨fun _=>HV.o,fun h=>absurd h (by omega)⟩⟩
      ·have x2:decide (op≤4)=false:=decide_eq_false t2;go_wp2_with fail;go_meet;exact ⟨false,rfl,rfl,fun _=>⟨fun h=>absurd h (by omega),fun h=>absurd h (by omega)⟩⟩
     ·have x1:decide (2≤op)=false:=decide_eq_false t1;go_wp2_with fail;go_meet;exact ⟨false,rfl,rfl,fun _=>⟨fun h=>absurd h (by omega),fun h=>absurd h (by omega)⟩⟩
   case rest=>
    obtain ⟨bad,rfl,hww,hrad⟩:=hcut;obtain rfl:W3=wc:=hww.symm;have HRD:=S hrad;clear hrad n0 n2 hmv HPI
    cases bad with
    |true=>
     go_wp2_with fail;go_ret;exact ⟨_,rfl,H3.o.below,by omega,by omega,fun h=>absurd h (by omega)⟩
    |false=>
     obtain ⟨n0,n1,n2⟩:=(H3.o.box 2 rfl).c3;obtain ⟨e0,e1,e2,e3⟩:=(H3.o.box 1 rfl).c4;go_wp2_with fail
     (with_reducible refine (HOF.o _ HB3.o).mono ?_);rintro e' W4 ⟨la,lc,rfl,hb4,ho4⟩
     have H4:=S (H3.o.call hb4);have HO4:=S ho4;have HB4:Hid (Below W2.heap.size W2 W4):=HB3.o.trans (hb4.mono HB3.o.size);clear hb4 ho4 HOF H3 n0 n1 n2 e0 e1 e2 e3;go_wp2_with fail;go_loopw [9,12] (fun cv iv wr=>∃ (i:Nat) (c:Int),i≤m∧iv=Y X i∧cv=Y X c∧1≤c∧c≤20001*((f:Int)+1)∧(c≤20000→∀ j:Nat,j<i→LtP nds f (ins.getD j 0) Z)∧Bag w wr [(w.heap.size,[J (some ⟨gb,go,none⟩) n gc,Y X out]),(w.heap.size+1,(qI tx0 ty0 tx1 ty1)),(W2.heap.size,[Y X op,J ia m ic,J pa pl pc])]∧wr.ownsRow W3.heap.size 25 4 (J la m lc) m (rcs (List.replicate m Z))∧Below W2.heap.size W2 wr) (fun _ iv _=>m-(intOf iv).toNat)
     case atStart=>exact ⟨0,_,by omega,rfl,rfl,by omega,by omega,fun _ j hj=>absurd hj (Nat.not_lt_zero _),H4.o,HO4.o,HB4.o⟩
     case round=>
      clear HB4 H4 HO4;obtain ⟨i,c,hi,rfl,rfl,hc1,hc2,hlt,hb,ho,hbw⟩:=hrel;have HLT:=S hlt;have H4:=S hb;have HO:=S ho;have HBW:Hid (Below W2.heap.size W2 wr):=hbw;clear hlt hb ho hbw;by_cases hil:i<m
      ·have x0:decide ((i:Int)<(m:Int))=true:=decide_eq_true (by omega);by_cases hcl:c≤20000
       ·have x1:decide (c≤20000)=true:=decide_eq_true hcl;obtain ⟨ja,jc,hj0,hicap,hicm,_,hjc⟩:=((HS.o wr HBW.o).1).ints;simp only [y] at hj0;obtain ⟨rfl,hj3,rfl⟩:=hj0;obtain ⟨ib,io,hia,_,hix⟩:=hjc i (by omega);subst hia;obtain ⟨x,hx⟩:∃ x,x=ins.getD i 0:=⟨_,rfl⟩;have hix:=hix i (by omega);rw [←hx] at hix;have him:x∈ins:=by
         have h2:i<ins.length:=by omega
         rw [hx,M,I h2];exact List.getElem_mem h2
        have HX:Hid (x=ins.getD i 0∧x∈ins):=⟨hx,him⟩;have hicap':m≤ic:=by omega
        clear hjc hj3 hx him hicap;obtain ⟨lb,lo,lcap,hlv,hlcap,hlcm,hlc⟩:=rcs_at (own_rc (rs:=List.replicate m Z) (by rw [List.length_replicate];exact HO.o) (fun r hr=>by rw [(List.mem_replicate.1 hr).2];exact HZ.o.2)) (i:=i) (r:=Z) (by rw [List.getElem?_replicate,if_pos hil]);simp only [y] at hlv;obtain ⟨rfl,hln,rfl⟩:=hlv;clear hln;rw [List.length_replicate] at hlcap;unfold maxLen at hlcm;have HCH:Hid (∀ W,Below wr.heap.size wr W→Calls Tryz.prog 56 #[.agg #[J (some ⟨gb,go,none⟩) n gc,Y X out],Y X x,rv Z,Y X 20000] W (WgtPost W nds f x Z)):=fun W h=>by
         have hbw:=H4.o.below.trans (h.mono H4.o.below.size);have hxi:x∈(nds.getD k Nd.none).ins:=by rw [HND.o];exact HX.o.2
         have hrg:=HGR.o.1.gn.rng k hk x hxi;have hrk:=rkN_in HGR.o.1 (p:=(k:Int)) (by omega) (by dsimp only;omega) (x:=x) (by rw [Int.toNat_natCast];exact hxi);have hr2:=HGR.o.2.1;dsimp only at hrk hrg;have hr:=HGR.o.2.2 D _ ⟨nds,out⟩ x Z W HGR.o.1 (HG.o W hbw).1 (HG.o W hbw).2 hrg.1 hrg.2 (by dsimp only;omega) (by omega);exact hr
        have HCC:=S hcl;clear hcl;obtain ⟨z0,z1,z2,z3⟩:=Z;have c0:wr.cell? ⟨lb,lo+i*4,none⟩=some (Y X z0):=hlc 0 _ rfl;have c1:wr.cell? ⟨lb,lo+i*4+1,none⟩=some (Y X z1):=hlc 1 _ rfl;have c2:wr.cell? ⟨lb,lo+i*4+2,none⟩=some (Y X z2):=hlc 2 _ rfl;have c3:wr.cell? ⟨lb,lo+i*4+3,none⟩=some (Y X z3):=hlc 3 _ rfl;obtain ⟨g0,g1⟩:=(H4.o.box 0 rfl).c2;have n1:=H4.o.cell 2 rfl 1 rfl;clear hlc;have hi0:(0:Int)≤(i:Int):=by omega
        have hi1:(i:Int)<(m:Int):=by omega
        go_wp2_with fail;refine wp_region_mix2 wr.heap.size [false,false,false,false,false,false,false,false,false,false,false,false,true] [12] _ rfl (O _) (by kernel_rfl) (by kernel_rfl) ?_;apply Exists.intro;apply And.intro
        ·intro G hG hne Rr hR;simp only [skip];have kc0:=fun s:InG wr.heap.size wr G=>s.at c0;have kc1:=fun s:InG wr.heap.size wr G=>s.at c1;have kc2:=fun s:InG wr.heap.size wr G=>s.at c2;have kc3:=fun s:InG wr.heap.size wr G=>s.at c3;have kg0:=fun s:InG wr.heap.size wr G=>s.at g0;have kg1:=fun s:InG wr.heap.size wr G=>s.at g1;have kn1:=fun s:InG wr.heap.size wr G=>s.at n1;have khix:=fun s:InG wr.heap.size wr G=>s.at hix
         repeat (go_big_quiet_step (fail))
         refine wpQuiet_nil ?_;exact hR
        ·refine wpChain_cons _ rfl rfl (fun c':Int=>Y X c') (fun c' _=>1≤c'∧c'≤20001*(f:Int)∧(c'≤20000→LtP nds f x ⟨z0,z1,z2,z3⟩)) (fun _ _ _ h _=>h) ?_ ?_
         ·rintro W ⟨hW,hWs⟩;have hc:=HCH.o W hW;refine gives_enter (f:=56) (args:=#[.agg #[J (some ⟨gb,go,none⟩) n gc,Y X out],Y X x,rv ⟨z0,z1,z2,z3⟩,Y X 20000]) ?_ ?_
          ·first
           |rfl
           |simp [execOp,resolve,invoke,go_sem]
          ·exact hc.mono fun e w' ⟨c',h1,h2,h3,h4,h5⟩=>⟨_,h1,h2,c',rfl,h3,h4,h5⟩
         ·intro c';refine wpChain_nil ?_;rintro W ⟨⟨hW,hWs⟩,hd1,hd2,hd3⟩;have HD:=S hd3;have H5:=S (H4.o.call hW);have HO5:Hid (W.ownsRow W3.heap.size 25 4 (J (some ⟨lb,lo,none⟩) m lc) m (rcs (List.replicate m ⟨z0,z1,z2,z3⟩))∧Below W2.heap.size W2 W):=⟨owns_below HO.o hW (O _),HBW.o.trans (hW.mono HBW.o.size)⟩;have HL5:Hid (c+c'≤20000→∀ j:Nat,j<i+1→LtP nds f (ins.getD j 0) ⟨z0,z1,z2,z3⟩):=by
           have:c+c'≤20000→∀ j:Nat,j<i+1→LtP nds f (ins.getD j 0) ⟨z0,z1,z2,z3⟩:=fun h j hj=>by
            by_cases hji:j<i
            ·exact HLT.o (by omega) j hji
            ·obtain rfl:j=i:=by omega
             have h1:=HD.o (by omega);rw [HX.o.1] at h1;exact h1
           exact this
          have hcc:=HCC.o;clear hd3 hW;simp only [List.drop_succ_cons,List.drop_zero,List.length_cons,List.length_nil];go_wp2_with fail;go_roundw
          case rel=>exact ⟨i+1,c+c',by omega,by go_num,rfl,by omega,by omega,HL5.o,H5.o,HO5.o.1,HO5.o.2⟩
          case measure=>simp [intOf];omega
       ·have x1:decide (c≤20000)=false:=decide_eq_false hcl;go_wp2_with fail;go_ret;exact ⟨c,rfl,H4.o.below,hc1,by omega,fun h=>absurd h (by omega)⟩
      ·obtain rfl:i=m:=by omega
       have HFIN:Hid (c≤20000→LtP nds (f+1) (k:Int) ⟨tx0,ty0,tx1,ty1⟩):=by
        have:c≤20000→LtP nds (f+1) (k:Int) ⟨tx0,ty0,tx1,ty1⟩:=fun h=>by
         refine ⟨HH.o.1,HH.o.2,fun _=>?_⟩;rw [Int.toNat_natCast,HND.o];refine ⟨(HRD.o (by trivial)).1,(HRD.o (by trivial)).2,fun q hq=>?_⟩;obtain ⟨j,hj,rfl⟩:=List.mem_iff_getElem.1 hq;have h1:=HLT.o h j (by rw [HM.o.1];exact hj);rw [HZ.o.1,HND.o] at h1;rw [M,I hj] at h1;exact h1
        exact this
       go_wp2_with fail;go_ret;exact ⟨c,rfl,H4.o.below,hc1,by omega,HFIN.o⟩
theorem wgt_c:∀ f,WgtC f
 |0=>fun D nv g p r w _ _ _ _ _ h _=>absurd h (Nat.not_lt_zero _)
 |f+1=>wgt_step f (wgt_c f)
def LgtPost (w:World) (g:Fg) (r:Rc) (e:Ending) (w':World):Prop:=∃ b:Bool,e=.returned (.bool b)∧Below w.heap.size w w'∧(b=true→LtP g.nds 101 g.out r)
theorem light15_c (D:Nat) (nv:Value) (g:Fg) (want:Rc) (w:World) (hg:GoodR g) (hfw:fewB g.nds 7=true) (hck:chkB g.nds g.out=0) (ht:Tabs w) (hgr:Gr D w nv g.nds) (hD:D≤w.heap.size):
  Calls Tryz.prog 28 #[.agg #[nv,Y X g.out],rv want,Y X 20000] w (LgtPost w g want):=by
 obtain ⟨nds,out⟩:=g;obtain ⟨tx0,ty0,tx1,ty1⟩:=want;obtain ⟨ga,gc,rfl⟩:=hgr.isSl;dsimp only at *;obtain ⟨n,hn⟩:∃ n,n=nds.length:=⟨_,rfl⟩;have HC:Hid (∀ W,Below w.heap.size w W→Calls Tryz.prog 39 #[.agg #[J ga n gc,Y X out],Y X 7] W (PPost W (.bool true))∧
   Calls Tryz.prog 40 #[.agg #[J ga n gc,Y X out]] W (PPost W (Y X 0))∧
   Calls Tryz.prog 56 #[.agg #[J ga n gc,Y X out],Y X out,rv ⟨tx0,ty0,tx1,ty1⟩,Y X 20000] W (WgtPost W nds 101 out ⟨tx0,ty0,tx1,ty1⟩)):=fun W h=>by
  have h1:=hgr.below h hD;have h2:D≤W.heap.size:=U hD h.size;rw [hn];have hf:=rfew_c D _ nds out 7 W (by omega) h1;rw [hfw] at hf;have hc:=check_c D _ nds out W (by have:=hg.gn.few;dsimp only at this;omega) hg.gn.short (ht.below h) h1 h2;rw [hck] at hc;have ho:=hg.gn.outs;exact ⟨hf,hc,wgt_c 101 D _ ⟨nds,out⟩ out ⟨tx0,ty0,tx1,ty1⟩ W hg h1 h2 (by dsimp only at ho;omega) (by exact ho.2) (by have:=rkN_le hg (p:=out) ho.2;dsimp only at this ⊢;omega) (by omega)⟩
 obtain ⟨F,hF⟩:∃ F,F=fineB ⟨tx0,ty0,tx1,ty1⟩ 20000:=⟨_,rfl⟩;have HFN:Hid (∀ W,Calls Tryz.prog 25 #[rv ⟨tx0,ty0,tx1,ty1⟩,Y X 0,Y X 0,Y X 20000] W (PPost W (.bool F))):=fun W=>by rw [hF];exact fine08_c _ _ W
 have H0:Hid (Bag w ((w.alloc (.cells #[J ga n gc,Y X out] 33)).alloc (.cells #[Y X tx0,Y X ty0,Y X tx1,Y X ty1] 25)) [(w.heap.size,[J ga n gc,Y X out]),(w.heap.size+1,(qI tx0 ty0 tx1 ty1))]):=bag2 w [J ga n gc,Y X out] (qI tx0 ty0 tx1 ty1) _ _;rw [←hn];clear hn hgr hg hfw hck ht hF hD;go_enter Tryz.func28,Tryz.ntmps28;go_wp2_with fail;refine ((HC.o _ H0.o.below).1).mono ?_;rintro e' W1 ⟨rfl,hb1⟩;have H1:=S (H0.o.call hb1);clear hb1 H0;obtain ⟨g0,g1⟩:=(H1.o.box 0 rfl).c2;go_wp2_with fail;refine ((HC.o _ H1.o.below).2.1).mono ?_;rintro e' W2 ⟨rfl,hb2⟩;have H2:=S (H1.o.call hb2);clear hb2 H1 g0 g1;obtain ⟨e0,e1,e2,e3⟩:=(H2.o.box 1 rfl).c4;go_wp2_with fail;refine (HFN.o _).mono ?_;rintro e' W3 ⟨rfl,hb3⟩;have H3:=S (H2.o.call hb3);clear hb3 H2 e0 e1 e2 e3 HFN;obtain ⟨g0,g1⟩:=(H3.o.box 0 rfl).c2;obtain ⟨e0,e1,e2,e3⟩:=(H3.o.box 1 rfl).c4
 cases F with
 |false=>
  go_wp2_with fail;go_ret;exact ⟨false,rfl,H3.o.below,fun h=>by cases h⟩
 |true=>
  go_wp2_with fail
  (with_reducible refine ((HC.o _ H3.o.below).2.2).mono ?_);rintro e' W4 ⟨c,rfl,hb4,h1,h2,h3⟩
  have H4:Hid (Below w.heap.size w W4∧(c≤20000→LtP nds 101 out ⟨tx0,ty0,tx1,ty1⟩)):=⟨H3.o.below.trans (hb4.mono H3.o.below.size),h3⟩;clear hb4 h3 g0 g1 e0 e1 e2 e3 H3 HC;go_wp2_with fail;go_ret;exact ⟨_,rfl,H4.o.1,fun h=>H4.o.2 (by simpa using h)⟩
end Go.Proofs.YtgodhpampaleeaaGreatDoor
