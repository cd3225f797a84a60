/- Texts joined: Ab. -/
import Derived.Test.YtgodhpampaleeaaGreatDoorM01
import Derived.Maps.OwnOps
import Derived.Maps.Views
import Derived.Deep.LoopGhost
import Derived.Test.YtgodhpampaleeaaGreatDoorM02
open Go.Value renaming int→Y,slice→J
open Go.IntKind renaming i64→X
open Nat renaming le_refl→Z,le_trans→O
open List renaming getElem?_eq_getElem→V,getD_eq_getElem?_getD→I,mem_of_getElem?→Q,replicate→G,range→M
open Go.Value.slice renaming injEq→K
set_option maxRecDepth 4000
set_option maxHeartbeats 3200000
set_option linter.unusedVariables false
namespace Go.Proofs.YtgodhpampaleeaaGreatDoor
open Go.RowKit Go.Bx Go.Od
attribute [local go_sem ↓] Go.wp_at_zero Go.wp_at_succ
structure Nd where
 op:Int
 ins:List Int
 p:List Int
def Nd.none:Nd:=⟨0,[],[]⟩
def RNode:Rep Nd:=fun F w cs x=>∃ a b,cs=[Y X x.op,a,b]∧In64 x.op∧SlOf RInt 1 F w a x.ins∧SlOf RInt 1 F w b x.p
theorem RNode.ok:RNode.Ok:=
 ⟨fun _ _ _ _ _ hs ⟨a,b,h1,h2,h3,h4⟩=>⟨a,b,h1,h2,h3.same RInt.ok hs,h4.same RInt.ok hs⟩,fun _ _ _ _ _ hg ⟨a,b,h1,h2,h3,h4⟩=>⟨a,b,h1,h2,h3.mono RInt.ok hg,h4.mono RInt.ok hg⟩⟩
def Gr (B:Nat) (w:World) (v:Value) (nds:List Nd):Prop:=SlOf RNode 3 (·<B) w v nds
def insOf (nds:List Nd):List (List Int):=nds.map Nd.ins
theorem insOf_len (nds:List Nd):(insOf nds).length=nds.length:=by simp [insOf]
theorem insOf_get (nds:List Nd) (i:Nat):(insOf nds).getD i []=(nds.getD i Nd.none).ins:=by
 unfold insOf;simp only [I,List.getElem?_map]
 cases nds[i]?<;>rfl
theorem Gr.same {B:Nat} {w w':World} {v:Value} {nds:List Nd} (h:Gr B w v nds) (hs:Same (·<B) w w'):Gr B w' v nds:=SlOf.same RNode.ok hs h
theorem Gr.below {B C:Nat} {w w':World} {v:Value} {nds:List Nd} (h:Gr B w v nds) (hb:Below C w w') (hC:B≤C):Gr B w' v nds:=h.same fun b hbl=>hb.block b (by have:b<B:=hbl;omega)
theorem Gr.isSl {B:Nat} {w:World} {v:Value} {nds:List Nd} (h:Gr B w v nds):∃ a cap,v=J a nds.length cap:=by
 obtain ⟨a,cap,hv,_⟩:=h;exact ⟨a,cap,hv⟩
theorem Gr.node {B:Nat} {w:World} {v:Value} {nds:List Nd} (h:Gr B w v nds) {i:Nat} (hi:i<nds.length):∃ b o cap ia ic pa pc,v=J (some ⟨b,o,.none⟩) nds.length cap∧b<B∧nds.length≤cap∧cap≤maxLen∧
  w.cell? ⟨b,o+i*3,.none⟩=some (Y X (nds.getD i Nd.none).op)∧
  w.cell? ⟨b,o+i*3+1,.none⟩=some (J ia (nds.getD i Nd.none).ins.length ic)∧
  w.cell? ⟨b,o+i*3+2,.none⟩=some (J pa (nds.getD i Nd.none).p.length pc)∧
  SlOf RInt 1 (·<B) w (J ia (nds.getD i Nd.none).ins.length ic) (nds.getD i Nd.none).ins∧
  SlOf RInt 1 (·<B) w (J pa (nds.getD i Nd.none).p.length pc) (nds.getD i Nd.none).p:=by
 obtain ⟨a,cap,rfl,h1,h2,h3⟩:=h
 rcases h3 with h3|⟨b,o,rfl,hF,h3⟩
 ·subst h3;simp at hi
 ·obtain ⟨cs,hl,hc,sa,sb,rfl,hin,s1,s2⟩:=h3 i nds[i] (V hi);have e:nds.getD i Nd.none=nds[i]:=by simp [hi]
  rw [e];have k0:=hc 0 _ rfl;have k1:=hc 1 _ rfl;have k2:=hc 2 _ rfl;obtain ⟨ia,ic,rfl,t⟩:=s1;obtain ⟨pa,pc,rfl,t'⟩:=s2;exact ⟨b,o,cap,ia,ic,pa,pc,rfl,hF,h1,h2,by simpa using k0,by simpa using k1,by simpa using k2,⟨ia,ic,rfl,t⟩,⟨pa,pc,rfl,t'⟩⟩
def SeenIs (w:World) (b n:Nat) (seen:List Nat):Prop:=
 ∃ D:DataW Unit,w.ownsMap Tryz.prog 3 (plainElem Tryz.prog 4) b seen.length D∧Go.Maps.IsMap D∧n≤9223372036854775807∧∀ k:Nat,k<n→D.atKey (.int .i64 k) (.lit (.bool false))=.lit (.bool (decide (k∈seen)))
theorem SeenIs.kept {w w':World} {b n:Nat} {seen:List Nat} {row:Option Nat} (h:SeenIs w b n seen) (hg:w.grownBy w' row) (hne:some b≠row):SeenIs w' b n seen:=by
 obtain ⟨D,h1,h2,h3,h4⟩:=h;exact ⟨D,h1.kept hg hne,h2,h3,h4⟩
theorem SeenIs.alloc {w:World} {b n:Nat} {seen:List Nat} (h:SeenIs w b n seen) (o:Obj):SeenIs (w.alloc o) b n seen:=h.kept (World.grownBy_alloc w o .none) (by simp)
theorem SeenIs.made (w:World) (n:Nat) (hn:n≤9223372036854775807):SeenIs (w.alloc (.map #[] 0)) w.heap.size n []:=
 ⟨.map [],World.ownsMap_made w _ _ _,Go.Maps.isMap_empty,hn,fun k _=>by simp [DataW.atKey]⟩
theorem keyInt:Maps.Keyed Tryz.prog 3:=Maps.int_keyed Tryz.underlying3
theorem wfNat {k:Nat} (h:k<9223372036854775807):(Lit.int .i64 k).wf=true:=by
 have e1:IntKind.i64.min = -9223372036854775808:=by decide
 have e2:IntKind.i64.max=9223372036854775807:=by decide
 simp [Lit.wf];omega
theorem zeroB (w:World):(zeroValue 4).run Tryz.prog w=.ok (.bool false) w:=by kernel_rfl
theorem plainElem_bool_inv {H:Type} {P:Program} {e:TypeId} (he:P.underlying e=some .bool) {v:Value} {z:DataW H×List MemPlace} (h:plainElem P e v=some z):∃ x,v=.bool x∧z=(.lit (.bool x),[]):=by
 unfold plainElem at h;rw [he] at h
 cases v<;>simp at h
 subst h;exact ⟨_,rfl,rfl⟩
theorem SeenIs.look {w:World} {b n:Nat} {seen:List Nat} (h:SeenIs w b n seen) {k:Nat} (hk:k<n):(Instr.lookup 149 (.map (some b)) (Y X k) false).run Tryz.prog w=.ok (.bool (decide (k∈seen))) w:=by
 obtain ⟨D,h1,h2,h3,h4⟩:=h;obtain ⟨v,ps,hrun,hv⟩:=h1.lookup keyInt Tryz.underlying149 (zeroB w) (plainElem_bool Tryz.underlying4 false) (Maps.keyOf_int_mk Tryz.underlying3 (wfNat (k:=k) (by omega)));rw [h4 k hk] at hv;obtain ⟨x,rfl,hx⟩:=plainElem_bool_inv Tryz.underlying4 hv;simp only [Prod.mk.injEq,DataW.lit.injEq,Lit.bool.injEq] at hx;rw [hrun,hx.1]
theorem SeenIs.put {w:World} {b n:Nat} {seen:List Nat} (h:SeenIs w b n seen) {k:Nat} (hk:k<n) (hs:seen.length≤1000):∃ w',(Instr.mapUpdate 149 (.map (some b)) (Y X k) (.bool true)).run Tryz.prog w=.ok () w'∧SeenIs w' b n (seen++[k])∧w.grownBy w' (some b):=by
 obtain ⟨D,h1,h2,h3,h4⟩:=h;obtain ⟨w',hrun,r1,r2⟩:=h1.update keyInt Tryz.underlying149 (by unfold maxLen;omega) (Maps.keyOf_int_mk Tryz.underlying3 (wfNat (k:=k) (by omega))) (plainElem_bool Tryz.underlying4 true);refine ⟨w',hrun,⟨_,by simpa using r1,h2.put _ _,h3,fun j hj=>?_⟩,r2⟩;by_cases e:j=k
 ·subst e;rw [Go.Maps.atKey_put_same h2 (by trivial)]
  simp
 ·rw [Go.Maps.atKey_put_other (by simp;omega),h4 j hj];simp [e]
theorem once_snoc (xs:List Int) (x:Int) (n:Nat):∀ seen,once (xs++[x]) n seen=if 0≤x∧x<n∧x.toNat∉once xs n seen then once xs n seen++[x.toNat] else once xs n seen:=by
 induction xs with
 |nil=>intro seen;rfl
 |cons y ys ih=>
  intro seen;rw [List.cons_append];unfold once;by_cases h:0≤y∧y<n∧y.toNat∉seen
  ·rw [if_pos h,if_pos h];exact ih _
  ·rw [if_neg h,if_neg h];exact ih _
theorem once_len (xs:List Int) (n:Nat):∀ seen,(once xs n seen).length≤seen.length+xs.length:=by
 induction xs with
 |nil=>intro seen;simp [once]
 |cons y ys ih=>
  intro seen;unfold once
  split
  ·have:=ih (seen++[y.toNat]);simp at this ⊢;omega
  ·have:=ih seen;simp;omega
theorem OwnP.mono {w:World} {B C:Nat} {v:Value} {xs:List Int} (h:OwnP w B v xs) (hC:C≤B):OwnP w C v xs:=by
 unfold OwnP at *;refine ⟨h.1,?_⟩
 rcases h.2 with hn|⟨g,cap,cur,hv,hB,rest⟩
 ·exact .inl hn
 ·exact .inr ⟨g,cap,cur,hv,O hC hB,rest⟩
def ofN (l:List Nat):List Int:=l.map fun k:Nat=>(k:Int)
theorem ofN_len (l:List Nat):(ofN l).length=l.length:=by simp [ofN]
theorem ofN_app (l:List Nat) (k:Nat):ofN (l++[k])=ofN l++[(k:Int)]:=by simp [ofN]
def InPost (w:World) (l:List Nat) (e:Ending) (w':World):Prop:=∃ a c,e=.returned (J a l.length c)∧OwnP w' w.heap.size (J a l.length c) (ofN l)∧Below w.heap.size w w'
structure IR (w:World) (nv:Value) (out:Int) (n:Nat) (s:List Nat) (v:Value) (wr:World):Prop where
 box:Box wr w.heap.size [nv,Y X out]
 seen:SeenIs wr (w.heap.size+1) n s
 own:OwnP wr (w.heap.size+2) v (ofN s)
 below:Below w.heap.size w wr
 size:w.heap.size+2≤wr.heap.size
theorem IR.sl {w:World} {nv:Value} {out:Int} {n:Nat} {s:List Nat} {v:Value} {wr:World} (h:IR w nv out n s v wr):∃ a c,v=J a s.length c:=by
 rcases h.own.form with ⟨rfl,h'⟩|⟨g,cap,rfl,_⟩
 ·have:s.length=0:=by rw [←ofN_len,h'];rfl
  exact ⟨none,0,by rw [this]⟩
 ·rw [ofN_len];exact ⟨_,cap,rfl⟩
theorem IR.put {w:World} {nv:Value} {out:Int} {n:Nat} {s:List Nat} {v:Value} {wr w1:World} {k:Nat} (h:IR w nv out n s v wr) (hs:SeenIs w1 (w.heap.size+1) n (s++[k])) (hg:wr.grownBy w1 (some (w.heap.size+1))):
  Box w1 w.heap.size [nv,Y X out]∧OwnP w1 (w.heap.size+2) v (ofN s)∧Below w.heap.size w w1∧w.heap.size+2≤w1.heap.size∧SeenIs w1 (w.heap.size+1) n (s++[k]):=
 ⟨h.box.grown' hg (by simp),World.ownsRow.kept h.own hg (.inr (by
  intro h2;have:=(World.ownsRow.lt h.own _ h2).1;omega)),h.below.grown hg (O (by omega) h.size) (fun k hk=>by simp at hk;omega),O h.size hg.size,hs⟩
theorem IR.app {w:World} {nv:Value} {out:Int} {n:Nat} {s:List Nat} {v:Value} {w1 w8:World} {z g8 c8:Nat} {o:Obj} (h:Box w1 w.heap.size [nv,Y X out]∧OwnP w1 (w.heap.size+2) v (ofN s)∧Below w.heap.size w w1∧w.heap.size+2≤w1.heap.size∧SeenIs w1 (w.heap.size+1) n (s++[z]))
  (hown:w8.ownsRow (w.heap.size+2) 3 1 (J (some ⟨g8,0,none⟩) (s.length+1) c8) (s.length+1) ((ofN s).map (Value.int .i64)++[Y X z])) (hg:(w1.alloc o).grownBy w8 v.ownBlock):
  IR w nv out n (s++[z]) (J (some ⟨g8,0,none⟩) (s.length+1) c8) w8:=by
 obtain ⟨h1,h2,h3,h4,h5⟩:=h;have hb:∀ k,v.ownBlock=some k→w.heap.size+2≤k:=fun k hk=>(World.ownsRow.lt h2 k hk).1;refine ⟨(h1.alloc o).grown' hg fun e=>by have:=hb _ e;omega,(h5.alloc o).kept hg fun e=>by have:=hb _ e.symm;omega,?_,(h3.alloc (by omega) o).grown hg (by rw [size_alloc];omega) fun k hk=>by have:=hb _ hk;omega,?_⟩
 ·unfold OwnP;rw [ofN_app,List.map_append,List.length_append,ofN_len];exact hown
 ·have:=hg.size;rw [size_alloc] at this;omega
theorem inputs_c (B:Nat) (nv:Value) (nds:List Nd) (out:Int) (i:Nat) (w:World) (hi:i<nds.length) (hm:nds.length≤1000) (hl:(nds.getD i Nd.none).ins.length≤1000) (hg:Gr B w nv nds) (hB:B≤w.heap.size):
  Calls Tryz.prog 108 #[.agg #[nv,Y X out],Y X i] w (InPost w (inp (insOf nds) i)):=by
 obtain ⟨b,o,cap,ia,ic,pa,pc,rfl,hbB,hcap,hcm,k0,k1,k2,s1,s2⟩:=hg.node hi;have hmm:=@run_makeMap Tryz.prog;have e1:=cell_alloc_lt k1 (.cells #[J (some ⟨b,o,none⟩) nds.length cap,Y X out] 33);have e2:=cell_alloc_lt e1 (.map #[] 0);have hi0:(0:Int)≤(i:Int):=by omega
 have hi1:(i:Int)<(nds.length:Int):=by omega
 obtain ⟨xs,hxs⟩:∃ xs,xs=(nds.getD i Nd.none).ins:=⟨_,rfl⟩;have hinp:inp (insOf nds) i=once xs nds.length []:=by unfold inp;rw [insOf_get,insOf_len,hxs]
 rw [hinp];rw [←hxs] at hl s1 e1 e2 k1;obtain ⟨ia',ic',hv,hic,hicm,hin,hcell⟩:=s1.ints;cases hv
 have HC:Hid (∀ j,j<xs.length→∃ b o,ia=some ⟨b,o,none⟩∧w.cell? ⟨b,o+j,none⟩=some (Y X (xs.getD j 0))):=fun j hj=>by
  obtain ⟨b',o',h1,h2,h3⟩:=hcell j hj;exact ⟨b',o',h1,h3 j hj⟩
 have H0:Hid (IR w (J (some ⟨b,o,none⟩) nds.length cap) out nds.length (once (xs.take 0) nds.length []) (J none 0 0) ((w.alloc (.cells #[J (some ⟨b,o,none⟩) nds.length cap,Y X out] 33)).alloc (.map #[] 0))):=by
  refine ⟨(Box.new w _ _).alloc _,?_,World.ownsRow_nil _ _ _ _,((Below.refl _ _).alloc (Z _) _).alloc (by rw [size_alloc];omega) _,by rw [size_alloc,size_alloc];omega⟩;have:=SeenIs.made (w.alloc (.cells #[J (some ⟨b,o,none⟩) nds.length cap,Y X out] 33)) nds.length (by omega);rw [size_alloc] at this;exact this
 have HN:Hid (∀ x∈xs,In64 x):=hin;unfold maxLen at hcm hicm;clear hin hcell s1 s2 hxs hinp hg;go_enter Tryz.func108,Tryz.ntmps108;go_wp2_with fail;go_loopw [5,17] (fun v iv wr=>∃ k:Nat,k≤xs.length∧iv=Y X k∧IR w (J (some ⟨b,o,none⟩) nds.length cap) out nds.length (once (xs.take k) nds.length []) v wr) (fun _ iv _=>xs.length-(intOf iv).toNat)
 case atStart=>exact ⟨0,Nat.zero_le _,rfl,H0.o⟩
 case round=>
  obtain ⟨k,hk,rfl,hr⟩:=hrel;obtain ⟨va,vc,rfl⟩:=hr.sl;by_cases hkl:k<xs.length
  ·obtain ⟨b',o',rfl,hcx⟩:=HC.o k hkl;have c1:=(hr.below.cell (lt_of_cell hcx)).trans hcx;obtain ⟨x,hx⟩:∃ x,x=xs.getD k 0:=⟨_,rfl⟩;rw [←hx] at c1;have hxi:In64 x:=by rw [hx];exact HN.o _ (by simp [hkl])
   have hx0:xs.getD k 0=x:=hx.symm;have HT:Hid (once (xs.take (k+1)) nds.length []=if 0≤x∧x<nds.length∧x.toNat∉once (xs.take k) nds.length [] then once (xs.take k) nds.length []++[x.toNat] else once (xs.take k) nds.length []):=by
    have e:xs.take (k+1)=xs.take k++[x]:=by rw [List.take_succ_eq_append_getElem hkl,hx];simp [hkl]
    rw [e];exact once_snoc _ _ _ _
   obtain ⟨s,hs⟩:∃ s,s=once (xs.take k) nds.length []:=⟨_,rfl⟩;have hsl:s.length≤1000:=by rw [hs];have:=once_len (xs.take k) nds.length [];simp at this;omega
   rw [←hs] at hr HT ⊢;clear hx hs hcx;have b0:=hr.box.cell 0 rfl;unfold In64 at hxi;have HR:Hid (IR w (J (some ⟨b,o,none⟩) nds.length cap) out nds.length s (J va s.length vc) wr):=hr;by_cases h1:0≤x∧x<nds.length
   ·obtain ⟨z,rfl⟩:∃ z:Nat,x=z:=⟨x.toNat,by omega⟩;have hzn:z<nds.length:=by omega
    rw [Int.toNat_natCast] at HT;have hlook:=hr.seen.look hzn;by_cases h2:z∈s
    ·have ht:decide (z∈s)=true:=decide_eq_true h2;rw [ht] at hlook;have HF:Hid (once (xs.take (k+1)) nds.length []=s):=HT.o.trans (if_neg fun h=>h.2.2 h2);clear hr HT;go_wp2_with fail;go_roundw
     case rel=>exact ⟨k+1,by omega,by go_num,by rw [HF.o];exact HR.o⟩
     case measure=>simp [intOf];omega
    ·have ht:decide (z∈s)=false:=decide_eq_false h2;rw [ht] at hlook;have HF:Hid (once (xs.take (k+1)) nds.length []=s++[z]):=HT.o.trans (if_pos ⟨h1.1,h1.2,h2⟩);obtain ⟨w1,hput,hs1,hg1⟩:=hr.seen.put hzn hsl;obtain ⟨q1,q2,q3,q4,q5⟩:=hr.put hs1 hg1;have HQ:Hid (Box w1 w.heap.size [J (some ⟨b,o,none⟩) nds.length cap,Y X out]∧OwnP w1 (w.heap.size+2) (J va s.length vc) (ofN s)∧Below w.heap.size w w1∧w.heap.size+2≤w1.heap.size∧SeenIs w1 (w.heap.size+1) nds.length (s++[z])):=⟨q1,q2,q3,q4,q5⟩;obtain ⟨i3,hi3,hz0,hz1,hz2⟩:=info_parts infoI;have HM:Hid (s.length+1≤maxLen∧(s.length+1)*8≤140737488355328):=by constructor<;>(try unfold maxLen)<;>omega
     clear hr HT hs1 hg1 q1 q2 q3 q5
     go_wp2_with (at_builtin;refine wpList_append_lies _ rfl _ _ 50 rfl (w.heap.size+2) 3 i3 (Y X 0) 1 8 Tryz.underlying50 hi3 hz0 hz1 hz2 rfl (by decide) (J va s.length vc) s.length ((ofN s).map (Value.int .i64)) rfl (OwnP.row (ofN_len s) (HQ.o.2.1.alloc (.cells #[Y X z] 3))) _ 1 1 [Y X z] rfl rfl (news_one (by simp)) (by simp [Value.oneCell']) (by decide) HM.o.1 HM.o.2 (by first|omega|(simp;omega)) _ rfl ?_;intro g8 c8 w8 hown8 hgrow8 hat8 hlt8;have HA:Hid (IR w (J (some ⟨b,o,none⟩) nds.length cap) out nds.length (s++[z]) (J (some ⟨g8,0,none⟩) (s.length+1) c8) w8):=IR.app HQ.o hown8 hgrow8;clear hown8 hgrow8 hat8)
     go_roundw
     case rel=>exact ⟨k+1,by omega,by go_num,by rw [HF.o];exact HA.o⟩
     case measure=>simp [intOf];omega
   ·have HF:Hid (once (xs.take (k+1)) nds.length []=s):=HT.o.trans (if_neg fun h=>h1 ⟨h.1,h.2.1⟩);clear hr HT;by_cases h3:0≤x
    ·have h4:¬x<nds.length:=fun h=>h1 ⟨h3,h⟩;clear h1;go_wp2_with fail;go_roundw
     case rel=>exact ⟨k+1,by omega,by go_num,by rw [HF.o];exact HR.o⟩
     case measure=>simp [intOf];omega
    ·clear h1;go_wp2_with fail;go_roundw
     case rel=>exact ⟨k+1,by omega,by go_num,by rw [HF.o];exact HR.o⟩
     case measure=>simp [intOf];omega
  ·have ek:k=xs.length:=by omega
   subst ek;rw [List.take_length] at hr ⊢;have HE:Hid (InPost w (once xs nds.length []) (.returned (J va (once xs nds.length []).length vc)) wr):=⟨va,vc,rfl,OwnP.mono hr.own (by omega),hr.below⟩;clear hr;go_wp2_with fail;go_ret;exact HE.o
structure US (w:World) (U n:Nat) (av:Option Nat) (f:Nat→List Nat) (vs:List Value):Prop where
 len:vs.length=n
 box:Box w U vs
 own:∀ r,r<n→OwnP w (U+1) (vs.getD r undef) (ofN (f r))
 apart:∀ r s k,r<n→s<n→r≠s→(vs.getD r undef).ownBlock=some k→(vs.getD s undef).ownBlock≠some k
 away:∀ r k,r<n→(vs.getD r undef).ownBlock=some k→av≠some k
 avl:∀ k,av=some k→k<w.heap.size∧k≠U
theorem own_sl {w:World} {B:Nat} {v:Value} {s:List Nat} (h:OwnP w B v (ofN s)):∃ a c,v=J a s.length c:=by
 rcases h.form with ⟨rfl,h'⟩|⟨g,cap,rfl,_⟩
 ·have:s.length=0:=by rw [←ofN_len,h'];rfl
  exact ⟨none,0,by rw [this]⟩
 ·rw [ofN_len];exact ⟨_,cap,rfl⟩
theorem US.grow {w w':World} {U n:Nat} {av:Option Nat} {f:Nat→List Nat} {vs:List Value} (h:US w U n av f vs) (hb:Below w.heap.size w w'):US w' U n av f vs:=
 ⟨h.len,h.box.call hb,fun r hr=>(h.own r hr).below hb,h.apart,h.away,fun k hk=>⟨Nat.lt_of_lt_of_le (h.avl k hk).1 hb.size,(h.avl k hk).2⟩⟩
theorem below_alloc (w:World) (o:Obj):Below w.heap.size w (w.alloc o):=(Below.refl _ _).alloc (Z _) o
theorem US.alloc {w:World} {U n:Nat} {av:Option Nat} {f:Nat→List Nat} {vs:List Value} (h:US w U n av f vs) (o:Obj):US (w.alloc o) U n av f vs:=h.grow (below_alloc w o)
theorem US.congr {w:World} {U n:Nat} {av:Option Nat} {f g:Nat→List Nat} {vs:List Value} (h:US w U n av f vs) (e:∀ r,r<n→f r=g r):US w U n av g vs:=
 ⟨h.len,h.box,fun r hr=>by rw [←e r hr];exact h.own r hr,h.apart,h.away,h.avl⟩
theorem US.avoid {w w':World} {U n:Nat} {av av':Option Nat} {f:Nat→List Nat} {vs:List Value} (h:US w U n av f vs) (hb:Below w.heap.size w w') (h1:∀ k,av'=some k→w.heap.size≤k∧k<w'.heap.size):US w' U n av' f vs:=
 ⟨h.len,h.box.call hb,fun r hr=>(h.own r hr).below hb,h.apart,fun r k hr hk e=>by
  have a:=(World.ownsRow.lt (h.own r hr) k hk).2;have b:=(h1 k e).1;omega,fun k hk=>⟨(h1 k hk).2,fun e=>by have:=(h1 k hk).1;have:=h.box.lt;omega⟩⟩
theorem getD_setV (vs:List Value) (k r:Nat) (v:Value) (hk:k<vs.length):(vs.set k v).getD r undef=if r=k then v else vs.getD r undef:=by
 by_cases e:r=k
 ·subst e;simp [hk]
 ·rw [if_neg e];simp only [I];rw [List.getElem?_set_ne (fun h=>e h.symm)]
theorem US.put {w w8:World} {U n:Nat} {av:Option Nat} {f:Nat→List Nat} {vs:List Value} {k g8 c8 i:Nat} {v:Value} (h:US w U n av f vs) (hk:k<n) (hv:vs.getD k undef=v)
  (hown:w8.ownsRow (U+1) 3 1 (J (some ⟨g8,0,none⟩) ((f k).length+1) c8) ((f k).length+1) ((ofN (f k)).map (Value.int .i64)++[Y X i])) (hg:w.grownBy w8 v.ownBlock) (hat:v.ownBlock=some g8∨g8=w.heap.size):
  Box w8 U vs∧US (w8.setCell ⟨U,k,none⟩ (J (some ⟨g8,0,none⟩) ((f k).length+1) c8)) U n av (fun r=>if r=k then f k++[i] else f r) (vs.set k (J (some ⟨g8,0,none⟩) ((f k).length+1) c8)):=by
 subst hv;have hkv:k<vs.length:=by rw [h.len];exact hk
 have hU:=h.box.lt;have hgU:U+1≤g8:=by
  rcases hat with e|e
  ·exact (World.ownsRow.lt (h.own k hk) g8 e).1
  ·omega
 have hneU:(vs.getD k undef).ownBlock≠some U:=fun e=>by have:=(World.ownsRow.lt (h.own k hk) U e).1;omega
 have hbx:=h.box.grown' hg hneU;have hlt8:g8<w8.heap.size:=(World.ownsRow.lt hown g8 rfl).2;refine ⟨hbx,by rw [List.length_set];exact h.len,hbx.self k _,fun r hr=>?_,fun r s j hr hs hne=>?_,fun r j hr=>?_,fun j hj=>⟨?_,(h.avl j hj).2⟩⟩
 ·rw [getD_setV _ _ _ _ hkv];by_cases e:r=k
  ·subst e;rw [if_pos rfl,if_pos rfl];have:OwnP w8 (U+1) (J (some ⟨g8,0,none⟩) ((f r).length+1) c8) (ofN (f r++[i])):=by
    unfold OwnP;rw [ofN_app,List.map_append,List.length_append,ofN_len];exact hown
   exact ownsRow_setCell_below this (by show U<U+1;omega) _
  ·rw [if_neg e,if_neg e];have:OwnP w8 (U+1) (vs.getD r undef) (ofN (f r)):=World.ownsRow.kept (h.own r hr) hg (by
    cases e':(vs.getD r undef).ownBlock with
    |none=>exact .inl rfl
    |some j=>exact .inr (h.apart r k j hr hk e e').symm)
   exact ownsRow_setCell_below this (by show U<U+1;omega) _
 ·rw [getD_setV _ _ _ _ hkv,getD_setV _ _ _ _ hkv];by_cases e:r=k
  ·subst e;rw [if_pos rfl,if_neg (fun e=>hne e.symm)];intro hj e';simp [Value.ownBlock] at hj;subst hj
   rcases hat with q|q
   ·exact h.apart r s g8 hr hs hne q e'
   ·have:=(World.ownsRow.lt (h.own s hs) g8 e').2;omega
  ·rw [if_neg e];intro hj;by_cases e2:s=k
   ·subst e2;rw [if_pos rfl];intro e';simp [Value.ownBlock] at e';subst e'
    rcases hat with q|q
    ·exact h.apart r s g8 hr hs hne hj q
    ·have:=(World.ownsRow.lt (h.own r hr) g8 hj).2;omega
   ·rw [if_neg e2];exact h.apart r s j hr hs hne hj
 ·rw [getD_setV _ _ _ _ hkv];by_cases e:r=k
  ·subst e;rw [if_pos rfl];intro hj e';simp [Value.ownBlock] at hj;subst hj
   rcases hat with q|q
   ·exact h.away r g8 hr q e'
   ·have:=(h.avl g8 e').1;omega
  ·rw [if_neg e];exact h.away r j hr
 ·rw [size_set];exact Nat.lt_of_lt_of_le (h.avl j hj).1 hg.size
def uAt (ins:List (List Int)) (i:Nat) (l:List Nat) (r:Nat):List Nat:=((M i).filter fun q=>decide (r∈inp ins q))++if r∈l then [i] else []
def users (ins:List (List Int)) (r:Nat):List Nat:=(M ins.length).filter fun q=>decide (r∈inp ins q)
theorem uAt_next (ins:List (List Int)) (i r:Nat):uAt ins i (inp ins i) r=uAt ins (i+1) [] r:=by
 unfold uAt;rw [List.range_succ,List.filter_append]
 simp
 by_cases h:r∈inp ins i<;>simp [h]
theorem uAt_end (ins:List (List Int)) (r:Nat):uAt ins ins.length [] r=users ins r:=by simp [uAt,users]
theorem uAt_step (ins:List (List Int)) (i k r:Nat) (l:List Nat) (hk:k∉l):(if r=k then uAt ins i l k++[i] else uAt ins i l r)=uAt ins i (l++[k]) r:=by
 unfold uAt;by_cases e:r=k
 ·subst e;simp [hk]
 ·rw [if_neg e];simp [e]
theorem uAt_len (ins:List (List Int)) (i r:Nat) (l:List Nat):(uAt ins i l r).length≤i+1:=by
 unfold uAt;rw [List.length_append];have:=List.length_filter_le (fun q=>decide (r∈inp ins q)) (M i);simp at this;by_cases h:r∈l<;>simp [h]<;>omega
theorem box_own {w:World} {B n b:Nat} {e:TypeId} {xs:List Value} (h:w.ownsRow B e 1 (J (some ⟨b,0,none⟩) n n) n xs):Box w b xs:=by
 rcases h.2 with ⟨h,_⟩|⟨g,cap,cur,h1,_,hb,_,_,hs,ht⟩
 ·cases h
 ·cases h1
  refine ⟨e,?_⟩;rw [hb];have:cur.toList=xs:=by rw [←ht,List.take_of_length_le (by simp;omega)]
  subst this
  simp
theorem own_nil (w:World) (B:Nat):OwnP w B (J none 0 0) []:=World.ownsRow_nil _ _ _ _
theorem US.made {w:World} {U n:Nat} (hb:Box w U (G n (J none 0 0))) (ins:List (List Int)):US w U n none (uAt ins 0 []) (G n (J none 0 0)):=by
 have e:∀ r,r<n→(G n (Value.slice none 0 0)).getD r undef=J none 0 0:=fun r hr=>by simp [hr]
 refine ⟨by simp,hb,fun r hr=>?_,fun r s k hr hs _ hk=>?_,fun r k hr hk=>?_,fun k hk=>by cases hk⟩
 ·rw [e r hr];exact own_nil _ _
 ·rw [e r hr] at hk;cases hk
 ·rw [e r hr] at hk;cases hk
theorem infoS:(Tryz.prog.info? 50).map (fun i=>(i.zero,i.size,i.bytes))=some (some (J none 0 0),1,24):=by kernel_rfl
def UsPost (w:World) (n:Nat) (f:Nat→List Nat) (e:Ending) (w':World):Prop:=∃ U vs,w.heap.size≤U∧e=.returned (J (some ⟨U,0,none⟩) n n)∧US w' U n none f vs∧Below w.heap.size w w'
def UR (w:World) (nv:Value) (out:Int) (n:Nat) (av:Option Nat) (f:Nat→List Nat) (wr:World):Prop:=Box wr w.heap.size [nv,Y X out]∧(∃ vs,US wr (w.heap.size+1) n av f vs)∧Below w.heap.size w wr
theorem UR.made {w w2:World} {nv:Value} {out:Int} {n U:Nat} (ins:List (List Int)) (hU:U=w.heap.size+1) (hown:w2.ownsRow (w.heap.size+1) 50 1 (J (some ⟨U,0,none⟩) n n) n (madeCells (Value.slice none 0 0).cells (n*1)).toList)
  (hg:(w.alloc (.cells #[nv,Y X out] 33)).grownBy w2 none):UR w nv out n none (uAt ins 0 []) w2:=by
 subst hU;have hb:=box_own hown;have e:(madeCells (Value.slice none 0 0).cells (n*1)).toList=G n (J none 0 0):=by
  rw [Nat.mul_one];exact toList_madeCells_one _ _
 rw [e] at hb;exact ⟨(Box.new w _ _).grown' hg (by simp),⟨_,US.made hb ins⟩,(below_alloc w _).grown hg (by rw [size_alloc];omega) (fun k hk=>by cases hk)⟩
theorem own_set {w:World} {B:Nat} {v:Value} {xs:List Int} (h:OwnP w B v xs) {p:Addr} (hp:p.block<B) (u:Value):OwnP (w.setCell p u) B v xs:=ownsRow_setCell_below h hp u
theorem UR.put {w wr w8:World} {nv lv:Value} {out:Int} {n:Nat} {av:Option Nat} {f:Nat→List Nat} {vs:List Value} {l:List Nat} {k g8 c8 i:Nat} {v:Value} {o:Obj} (h1:Box wr w.heap.size [nv,Y X out]) (h2:US wr (w.heap.size+1) n av f vs) (h3:Below w.heap.size w wr)
  (h4:OwnP wr (w.heap.size+2) lv (ofN l)) (hav:av=lv.ownBlock) (hk:k<n) (hv:vs.getD k undef=v)
  (hown:w8.ownsRow (w.heap.size+2) 3 1 (J (some ⟨g8,0,none⟩) ((f k).length+1) c8) ((f k).length+1) ((ofN (f k)).map (Value.int .i64)++[Y X i])) (hg:(wr.alloc o).grownBy w8 v.ownBlock) (hat:v.ownBlock=some g8∨g8=wr.heap.size+1):
  Box w8 (w.heap.size+1) vs∧Box w8 w.heap.size [nv,Y X out]∧UR w nv out n av (fun r=>if r=k then f k++[i] else f r) (w8.setCell ⟨w.heap.size+1,k,none⟩ (J (some ⟨g8,0,none⟩) ((f k).length+1) c8))∧
   OwnP (w8.setCell ⟨w.heap.size+1,k,none⟩ (J (some ⟨g8,0,none⟩) ((f k).length+1) c8)) (w.heap.size+2) lv (ofN l):=by
 have hbl:∀ j,v.ownBlock=some j→w.heap.size+2≤j:=fun j hj=>by subst hv;exact (World.ownsRow.lt (h2.own k hk) j hj).1
 obtain ⟨q1,q2⟩:=(h2.alloc o).put hk hv hown hg (by rw [size_alloc];exact hat);have b8:=(h1.alloc o).grown' hg fun e=>by have:=hbl _ e;omega
 have B8:=(h3.alloc (Nat.le_of_lt h1.lt) o).grown hg (by rw [size_alloc];have:=h1.lt;omega) fun j hj=>by have:=hbl _ hj;omega
 refine ⟨q1,b8,⟨b8.set (by simp) _,⟨_,q2⟩,B8.setCell (by simp) _⟩,own_set ?_ (by simp) _⟩;refine World.ownsRow.kept (h4.alloc o) hg ?_
 cases e:lv.ownBlock with
 |none=>exact .inl rfl
 |some j=>
  refine .inr fun e2=>?_;subst hv;exact h2.away k j hk e2.symm (hav.trans e)
theorem uses_c (B:Nat) (nv:Value) (nds:List Nd) (out:Int) (w:World) (hm:nds.length≤999) (hl:∀ i,i<nds.length→(nds.getD i Nd.none).ins.length≤1000) (hg:Gr B w nv nds) (hB:B≤w.heap.size):
  Calls Tryz.prog 110 #[.agg #[nv,Y X out]] w (UsPost w nds.length (users (insOf nds))):=by
 obtain ⟨ga,gc,rfl⟩:=hg.isSl;have hgl:=hg.len_le;obtain ⟨iS,hiS,sz0,sz1,sz2⟩:=info_parts infoS;have HG:Hid (Gr B w (J ga nds.length gc) nds∧∀ i,i<nds.length→(nds.getD i Nd.none).ins.length≤1000):=⟨hg,hl⟩;clear hg hl;go_enter Tryz.func110,Tryz.ntmps110
 go_wp2_with (at_make;refine wpList_make_full _ rfl _ _ 136 rfl (w.heap.size+1) 50 iS (J none 0 0) 1 Tryz.underlying136 hiS sz0 sz1 .i64 .i64 _ _ nds.length rfl rfl rfl rfl (by rw [sz2];omega) (by unfold maxLen;omega) (by simp) ?_;intro w2 hown2 hgrow2;have HU:Hid (UR w (J ga nds.length gc) out nds.length none (uAt (insOf nds) 0 []) w2):=UR.made _ (by simp) hown2 hgrow2;have c0:=HU.o.1.cell 0 rfl;clear hown2 hgrow2)
 clear c0;go_loopw [14] (fun iv wr=>∃ i:Nat,i≤nds.length∧iv=Y X i∧UR w (J ga nds.length gc) out nds.length none (uAt (insOf nds) i []) wr) (fun iv _=>nds.length-(intOf iv).toNat)
 case atStart=>exact ⟨0,Nat.zero_le _,rfl,HU.o⟩
 case round=>
  obtain ⟨i,hi,rfl,hr⟩:=hrel;clear HU;by_cases hil:i<nds.length
  ·have b0:=hr.1.cell 0 rfl;have b1:=hr.1.cell 1 rfl;have HR:Hid (UR w (J ga nds.length gc) out nds.length none (uAt (insOf nds) i []) wr):=hr;clear hr;go_wp2_with fail;refine (inputs_c B _ nds out i wr hil (by omega) (HG.o.2 i hil) (HG.o.1.below HR.o.2.2 hB) (O hB HR.o.2.2.size)).mono ?_;rintro e w5 ⟨a5,c5,rfl,hown5,hb5⟩;obtain ⟨l,hl⟩:∃ l,l=inp (insOf nds) i:=⟨_,rfl⟩;have HL:Hid (l=inp (insOf nds) i):=hl;rw [←hl] at hown5 ⊢;have hll:l.length≤1000:=by
    have h1:=once_len (nds.getD i Nd.none).ins nds.length [];have h2:=HG.o.2 i hil;have e:inp (insOf nds) i=once (nds.getD i Nd.none).ins nds.length []:=by unfold inp;rw [insOf_get,insOf_len]
    rw [←e,←hl] at h1;simp only [List.length_nil,Nat.zero_add] at h1;omega
   clear hl;have H5:Hid (UR w (J ga nds.length gc) out nds.length (Value.slice a5 l.length c5).ownBlock (uAt (insOf nds) i (l.take 0)) w5∧OwnP w5 (w.heap.size+2) (J a5 l.length c5) (ofN l)):=by
    obtain ⟨r1,⟨vs,r2⟩,r3⟩:=HR.o;refine ⟨⟨r1.call hb5,⟨vs,r2.avoid hb5 fun k hk=>World.ownsRow.lt hown5 k hk⟩,r3.trans (hb5.mono r3.size)⟩,OwnP.mono hown5 ?_⟩;have:=r2.box.lt;omega
   clear hown5 hb5 b0 b1 HR;go_wp2_with fail;go_loopw [21] (fun jv wr=>∃ j:Nat,j≤l.length∧jv=Y X j∧UR w (J ga nds.length gc) out nds.length (Value.slice a5 l.length c5).ownBlock (uAt (insOf nds) i (l.take j)) wr∧OwnP wr (w.heap.size+2) (J a5 l.length c5) (ofN l)) (fun jv _=>l.length-(intOf jv).toNat)
   case atStart=>exact ⟨0,Nat.zero_le _,rfl,H5.o⟩
   case round=>
    obtain ⟨j,hj,rfl,hr,ho⟩:=hrel;clear H5;by_cases hjl:j<l.length
    ·obtain ⟨r1,⟨vs,r2⟩,r3⟩:=hr;obtain ⟨k,hk⟩:∃ k,k=l.getD j 0:=⟨_,rfl⟩;have hkl:l[j]?=some k:=by rw [hk];simp [hjl]
     have hkm:k∈inp (insOf nds) i:=by rw [←HL.o];exact Q hkl
     have hkn:k<nds.length:=by have:=((inp_mem _ _ _).1 hkm).1;rwa [insOf_len] at this
     have hlc:(ofN l).getD j 0=(k:Int):=by unfold ofN;simp [hkl]
     obtain ⟨g5,rfl,hc5⟩:∃ g5,a5=some ⟨g5,0,none⟩∧wr.cell? ⟨g5,j,none⟩=some (Y X k):=by
      rcases ho.form with ⟨h,h'⟩|⟨g,cap,h,_,_,_,_,_,_,hc⟩
      ·have:l.length=0:=by rw [←ofN_len,h'];rfl
       omega
      ·simp only [K] at h;obtain ⟨rfl,_,_⟩:=h;exact ⟨g,rfl,by rw [hc j (by rw [ofN_len];exact hjl),hlc]⟩
     obtain ⟨v,hv⟩:∃ v,vs.getD k undef=v:=⟨_,rfl⟩;have hvg:vs[k]?=some v:=by rw [←hv];have:=r2.len;simp [show k<vs.length by omega]
     obtain ⟨f,hf⟩:∃ f,f=uAt (insOf nds) i (l.take j):=⟨_,rfl⟩;have hfk:(f k).length≤999:=by rw [hf];have:=uAt_len (insOf nds) i k (l.take j);omega
     have HF:Hid (∀ r,r<nds.length→(if r=k then f k++[i] else f r)=uAt (insOf nds) i (l.take (j+1)) r):=by
      intro r hr;have e:l.take (j+1)=l.take j++[k]:=by rw [List.take_succ_eq_append_getElem hjl];congr 2;rw [hk];simp [hjl]
      rw [e,hf];refine uAt_step _ _ _ _ _ (not_take ?_ hkl);rw [HL.o];exact inp_nodup _ _
     rw [←hf] at r2;clear hf hk hkm hkl hlc;have hok:=r2.own k hkn;rw [hv] at hok;obtain ⟨a6,c6,rfl⟩:=own_sl hok;have d0:=r2.box.cell k hvg;have f0:=r2.box.frozen k;have b0:=r1.cell 0 rfl;have HR:Hid (Box wr w.heap.size [J ga nds.length gc,Y X out]∧US wr (w.heap.size+1) nds.length (Value.slice (some ⟨g5,0,none⟩) l.length c5).ownBlock f vs∧Below w.heap.size w wr∧OwnP wr (w.heap.size+2) (J (some ⟨g5,0,none⟩) l.length c5) (ofN l)∧vs.getD k undef=J a6 (f k).length c6∧OwnP wr (w.heap.size+2) (J a6 (f k).length c6) (ofN (f k))∧vs[k]?=some (J a6 (f k).length c6)):=⟨r1,r2,r3,ho,hv,hok,hvg⟩;obtain ⟨i3,hi3,hz0,hz1,hz2⟩:=info_parts infoI;have HM:Hid ((f k).length+1≤maxLen∧((f k).length+1)*8≤140737488355328):=by constructor<;>(try unfold maxLen)<;>omega
     have hsz:=r2.box.lt;clear r1 r2 r3 ho hv hok hvg
     go_wp2_with (at_builtin;refine wpList_append_lies _ rfl _ _ 50 rfl (w.heap.size+2) 3 i3 (Y X 0) 1 8 Tryz.underlying50 hi3 hz0 hz1 hz2 rfl (by decide) (J a6 (f k).length c6) (f k).length ((ofN (f k)).map (Value.int .i64)) rfl (OwnP.row (ofN_len (f k)) (HR.o.2.2.2.2.2.1.alloc (.cells #[Y X i] 3))) _ 1 1 [Y X i] rfl rfl (news_one (by simp)) (by simp [Value.oneCell']) (by decide) HM.o.1 HM.o.2 (by first|omega|(simp;omega)) (wr.heap.size+1) (by simp) ?_;intro g8 c8 w8 hown8 hgrow8 hat8 hlt8;have HA:Hid _:=UR.put HR.o.1 HR.o.2.1 HR.o.2.2.1 HR.o.2.2.2.1 rfl hkn HR.o.2.2.2.2.1 hown8 hgrow8 hat8;clear hown8 hgrow8 hat8;have d8:=HA.o.1.cell k HR.o.2.2.2.2.2.2;have f8:=HA.o.1.frozen k)
     go_roundw
     case rel=>
      obtain ⟨q1,q2,⟨q3,⟨vs',q4⟩,q5⟩,q6⟩:=HA.o;exact ⟨j+1,by omega,by go_num,⟨q3,⟨vs',q4.congr HF.o⟩,q5⟩,q6⟩
     case measure=>simp [intOf];omega
    ·have ej:j=l.length:=by omega
     subst ej;rw [List.take_length] at hr;have HE:Hid (UR w (J ga nds.length gc) out nds.length none (uAt (insOf nds) (i+1) []) wr):=by
      obtain ⟨r1,⟨vs,r2⟩,r3⟩:=hr;refine ⟨r1,⟨vs,(r2.avoid (Below.refl _ _) fun k hk=>by cases hk).congr fun r _=>?_⟩,r3⟩;rw [HL.o];exact uAt_next _ _ _
     clear hr ho;go_wp2_with fail;go_roundw
     case rel=>exact ⟨i+1,by omega,by go_num,HE.o⟩
     case measure=>simp [intOf];omega
  ·have ei:i=nds.length:=by omega
   subst ei;have HE:Hid (UsPost w nds.length (users (insOf nds)) (.returned (J (some ⟨w.heap.size+1,0,none⟩) nds.length nds.length)) wr):=by
    obtain ⟨r1,⟨vs,r2⟩,r3⟩:=hr;refine ⟨w.heap.size+1,vs,by omega,rfl,r2.congr fun r _=>?_,r3⟩;have:=uAt_end (insOf nds) r;rw [insOf_len] at this;exact this
   clear hr;go_wp2_with fail;go_ret;exact HE.o
end Go.Proofs.YtgodhpampaleeaaGreatDoor
namespace Go.Proofs.YtgodhpampaleeaaGreatDoor
open Go.RowKit Go.Bx Go.Od Go.Hp
attribute [local go_sem ↓] Go.wp_at_zero Go.wp_at_succ
def lc (n:Nat) (left:Nat→Int):List Value:=(M n).map fun r=>Y X (left r)
theorem lc_get {n r:Nat} (left:Nat→Int) (h:r<n):(lc n left)[r]?=some (Y X (left r)):=by simp [lc,h]
theorem lc_set (n u:Nat) (left:Nat→Int) (x:Int):(lc n left).set u (Y X x)=lc n (fun r=>if r=u then x else left r):=by
 unfold lc;apply List.ext_getElem?;intro j;by_cases e:j=u
 ·subst e;by_cases hj:j<n
  ·simp [hj]
  ·rw [List.getElem?_eq_none (by simp;omega),List.getElem?_eq_none (by simp;omega)]
 ·rw [List.getElem?_set_ne (fun h=>e h.symm)];by_cases hj:j<n
  ·simp [hj,e]
  ·rw [List.getElem?_eq_none (by simp;omega),List.getElem?_eq_none (by simp;omega)]
theorem lc_congr {n:Nat} {f g:Nat→Int} (h:∀ r,r<n→f r=g r):lc n f=lc n g:=by
 unfold lc;apply List.map_congr_left;intro r hr;rw [h r (List.mem_range.1 hr)]
theorem row_ge {w:World} {B:Nat} {v:Value} {xs:List Int} (h:OwnP w B v xs):∀ k,v.ownBlock=some k→B≤k∧k<w.heap.size:=fun k hk=>World.ownsRow.lt h k hk
structure A1 (w:World) (nb:Nat) (nv:Value) (out:Int) (n:Nat) (left:Nat→Int) (hv:Value) (hs:List Int) (wr:World):Prop where
 gb:Box wr w.heap.size [nv,Y X out]
 lb:Box wr (w.heap.size+1) (lc n left)
 hp:HpIs wr (nb) (w.heap.size+2) hv hs
 heap:IsHeap hs
 below:Below w.heap.size w wr
 nbl:w.heap.size+2≤nb
section
variable {w wr w':World} {nv hv hv':Value} {out:Int} {nb n:Nat} {left:Nat→Int} {hs hs':List Int}
theorem HpIs.nlt {nb B:Nat} (h:HpIs wr nb B hv hs):nb<wr.heap.size:=(Array.getElem?_eq_some_iff.1 h.2.1).1
theorem A1.call (h:A1 w nb nv out n left hv hs wr) (hb:Below wr.heap.size wr w'):A1 w nb nv out n left hv hs w':=
 ⟨h.gb.call hb,h.lb.call hb,h.hp.below hb,h.heap,h.below.trans (hb.mono h.below.size),h.nbl⟩
theorem A1.setL (h:A1 w nb nv out n left hv hs wr) (i:Nat) (x:Int):A1 w nb nv out n (fun r=>if r=i then x else left r) hv hs (wr.setCell ⟨w.heap.size+1,i,none⟩ (Y X x)):=by
 have hne:∀ k,hv.ownBlock=some k→k≠w.heap.size+1:=fun k hk=>by have:=(row_ge h.hp.1 k hk).1;omega
 have hnb:=h.nbl;refine ⟨h.gb.set (by simp) _,by rw [←lc_set];exact h.lb.self _ _,⟨own_set_ne h.hp.1 (fun e=>hne _ e rfl) _,?_,h.hp.2.2⟩,h.heap,h.below.setCell (by simp) _,hnb⟩;rw [Below.heap_setCell _ _ _ _ (by simp;omega)];exact h.hp.2.1
theorem A1.push (h:A1 w nb nv out n left hv hs wr) (hf:HFr (nb) hv wr w') (hp:HpIs w' (nb) (w.heap.size+2) hv' hs') (hh:IsHeap hs'):A1 w nb nv out n left hv' hs' w':=by
 have hk:∀ k,k<w.heap.size+2→w'.heap[k]?=wr.heap[k]?:=fun k hk=>hf.block k (by have:=h.hp.nlt;have:=h.nbl;omega) (by have:=h.nbl;omega) fun e=>by have:=(row_ge h.hp.1 k e).1;omega
 exact ⟨h.gb.of_block (hk _ (by omega)),h.lb.of_block (hk _ (by omega)),hp,hh,⟨hf.os.trans h.below.os,hf.tape.trans h.below.tape,hf.output.trans h.below.output,O h.below.size hf.size,fun b hb=>(hk b (by omega)).trans (h.below.block b hb)⟩,h.nbl⟩
end
structure AR (w wU:World) (nb U n:Nat) (left:Nat→Int) (hv:Value) (hs:List Int) (ov:Value) (o:List Nat) (wr:World):Prop where
 lb:Box wr (w.heap.size+1) (lc n left)
 hp:HpIs wr (nb) (w.heap.size+2) hv hs
 heap:IsHeap hs
 us:Bx.Same (fun k=>U≤k∧k<wU.heap.size) wU wr
 hrow:∀ k,hv.ownBlock=some k→k<U∨wU.heap.size≤k
 oo:OwnP wr wU.heap.size ov (ofN o)
 apart:∀ k,hv.ownBlock=some k→ov.ownBlock≠some k
 below:Below w.heap.size w wr
 size:wU.heap.size≤wr.heap.size
 nbl:w.heap.size+2≤nb
 ule:nb<U
section
variable {w wU wr w':World} {nv hv hv' ov:Value} {nb U n:Nat} {left:Nat→Int} {hs hs':List Int} {o:List Nat}
theorem AR.start {out:Int} (h:A1 w nb nv out n left hv hs wr) (hU:wr.heap.size≤U) (hb:Below wr.heap.size wr w') (hul:U<w'.heap.size):AR w w' nb U n left hv hs (J none 0 0) [] w':=by
 have h':=h.call hb;have:=h.hp.nlt;exact ⟨h'.lb,h'.hp,h'.heap,Bx.Same.refl _ _,fun k hk=>.inl (by have:=(row_ge h.hp.1 k hk).2;omega),own_nil _ _,(fun k _ e=>by cases e),h'.below,Z _,h.nbl,by omega⟩
theorem AR.call (h:AR w wU nb U n left hv hs ov o wr) (hb:Below wr.heap.size wr w'):AR w wU nb U n left hv hs ov o w':=
 ⟨h.lb.call hb,h.hp.below hb,h.heap,h.us.trans (Same.of_below hb fun b hb=>by have:=h.size;omega),h.hrow,h.oo.below hb,h.apart,h.below.trans (hb.mono h.below.size),O h.size hb.size,h.nbl,h.ule⟩
theorem AR.setL (h:AR w wU nb U n left hv hs ov o wr) (hU:U<wU.heap.size) (i:Nat) (x:Int):AR w wU nb U n (fun r=>if r=i then x else left r) hv hs ov o (wr.setCell ⟨w.heap.size+1,i,none⟩ (Y X x)):=by
 have hne:∀ k,hv.ownBlock=some k→k≠w.heap.size+1:=fun k hk=>by have:=(row_ge h.hp.1 k hk).1;omega
 have:=h.ule;have hnb:=h.nbl;refine ⟨by rw [←lc_set];exact h.lb.self _ _,⟨own_set_ne h.hp.1 (fun e=>hne _ e rfl) _,?_,h.hp.2.2⟩,h.heap,fun b hb=>?_,h.hrow,own_set h.oo (by simp;omega) _,h.apart,h.below.setCell (by simp) _,by rw [size_set];exact h.size,h.nbl,h.ule⟩
 ·rw [Below.heap_setCell _ _ _ _ (by simp;omega)];exact h.hp.2.1
 ·rw [Below.heap_setCell _ _ _ _ (by simp;omega)];exact h.us b hb
theorem AR.push (h:AR w wU nb U n left hv hs ov o wr) (hf:HFr (nb) hv wr w') (hp:HpIs w' (nb) (w.heap.size+2) hv' hs') (hh:IsHeap hs') (hU:U<wU.heap.size)
  (hk:∀ k,hv'.ownBlock=some k→hv.ownBlock=some k∨wr.heap.size≤k):AR w wU nb U n left hv' hs' ov o w':=by
 have hsz:=h.size;have hul:=h.ule;have hnb:=h.nbl;have hb:∀ k,k<wr.heap.size→k≠nb→hv.ownBlock≠some k→w'.heap[k]?=wr.heap[k]?:=hf.block;refine ⟨h.lb.of_block (hb _ (by omega) (by omega) fun e=>by have:=(row_ge h.hp.1 _ e).1;omega),hp,hh,h.us.trans fun b hb'=>hb b (by omega) (by omega) fun e=>?_,fun k e=>?_,?_,fun k e e2=>?_,⟨hf.os.trans h.below.os,hf.tape.trans h.below.tape,hf.output.trans h.below.output,O h.below.size hf.size,fun b hb'=>(hb b (by omega) (by omega) fun e=>by have:=(row_ge h.hp.1 _ e).1;omega).trans (h.below.block b hb')⟩,O h.size hf.size,h.nbl,h.ule⟩
 ·have:=h.hrow b e;omega
 ·rcases hk k e with e|e
  ·exact h.hrow k e
  ·exact .inr (by omega)
 ·refine ⟨h.oo.1,?_⟩
  rcases h.oo.2 with hn|⟨g,cap,cur,rfl,hB,hg,rest⟩
  ·exact .inl hn
  ·refine .inr ⟨g,cap,cur,rfl,hB,?_,rest⟩;rw [hb g (Array.getElem?_eq_some_iff.1 hg).1 (by omega) fun e=>h.apart g e rfl];exact hg
 ·rcases hk k e with e|e
  ·exact h.apart k e e2
  ·have:=(row_ge h.oo k e2).2;omega
theorem AR.app {w8:World} {x:Obj} {k g8 c8:Nat} (h:AR w wU nb U n left hv hs ov o wr) (hU:U<wU.heap.size) (hown:w8.ownsRow wU.heap.size 3 1 (J (some ⟨g8,0,none⟩) (o.length+1) c8) (o.length+1) ((ofN o).map (Value.int .i64)++[Y X k])) (hg:(wr.alloc x).grownBy w8 ov.ownBlock) (hat:ov.ownBlock=some g8∨g8=wr.heap.size+1):
  AR w wU nb U n left hv hs (J (some ⟨g8,0,none⟩) (o.length+1) c8) (o++[k]) w8:=by
 have h':=h.call (below_alloc wr x);have hsz:=h.size;have hul:=h.ule;have hnb:=h.nbl;have hge:=row_ge h.oo;have hb:∀ k,k<wr.heap.size+1→ov.ownBlock≠some k→w8.heap[k]?=(wr.alloc x).heap[k]?:=fun k hk e=>hg.block k (by rw [size_alloc];exact hk) fun h=>e h.symm;have hs8:wr.heap.size+1≤w8.heap.size:=by have:=hg.size;rwa [size_alloc] at this
 refine ⟨h'.lb.of_block (hb _ (by omega) fun e=>by have:=(hge _ e).1;omega),⟨?_,(hb _ (by omega) fun e=>by have:=(hge _ e).1;omega).trans h'.hp.2.1,h.hp.2.2⟩,h.heap,h'.us.trans fun b hb'=>hb b (by omega) fun e=>by have:=(hge _ e).1;omega,h.hrow,?_,fun j e e2=>?_,h'.below.grown hg h'.below.size fun j e=>by have:=(hge _ e).1;omega,by omega,h.nbl,h.ule⟩
 ·refine World.ownsRow.kept h'.hp.1 hg ?_
  cases e:hv.ownBlock with
  |none=>exact .inl rfl
  |some j=>exact .inr fun e2=>h.apart j e e2.symm
 ·unfold OwnP;rw [ofN_app,List.map_append,List.length_append,ofN_len];exact hown
 ·simp [Value.ownBlock] at e2;subst e2
  rcases hat with q|q
  ·exact h.apart g8 e q
  ·have:=(row_ge h.hp.1 g8 e).2;omega
end
def lenV:Value→Nat
 |J _ n _=>n
 |_=>0
theorem inp_len (ins:List (List Int)) (i:Nat):(inp ins i).length≤ins.length:=len_le (inp_nodup ins i) fun k hk=>((inp_mem ins i k).1 hk).1
theorem lf_le (ins:List (List Int)) (out:List Nat) (i:Nat):lf ins out i≤ins.length:=O (List.length_filter_le _ _) (inp_len ins i)
theorem users_nodup (ins:List (List Int)) (r:Nat):(users ins r).Nodup:=List.Nodup.sublist List.filter_sublist List.nodup_range
theorem users_mem (ins:List (List Int)) (r i:Nat):i∈users ins r↔i<ins.length∧r∈inp ins i:=by simp [users]
theorem heap_node {hs:List Int} {h:List Nat} (hp:hs.Perm (ofN h)) {x:Int} (hx:x∈hs):∃ k:Nat,x=k∧k∈h:=by
 have:=hp.mem_iff.1 hx;unfold ofN at this;obtain ⟨k,hk,rfl⟩:=List.mem_map.1 this;exact ⟨k,rfl,hk⟩
theorem ofN_perm {a b:List Nat} (h:(ofN a).Perm (ofN b)):a.Perm b:=by
 have:=h.map Int.toNat;unfold ofN at this
 simpa [List.map_map,Function.comp_def] using this
theorem ofN_of {hs:List Int} {h:List Nat} (hp:hs.Perm (ofN h)):∃ l:List Nat,hs=ofN l∧l.Perm h:=by
 refine ⟨hs.map Int.toNat,?_,?_⟩
 ·unfold ofN;rw [List.map_map];have:hs.map (fun x=>x)=hs.map ((fun k:Nat=>(k:Int))∘Int.toNat):=List.map_congr_left fun x hx=>by
   obtain ⟨k,rfl,_⟩:=heap_node hp hx;rfl
  rw [←this,List.map_id']
 ·have:=hp.map Int.toNat;unfold ofN at this
  simpa [List.map_map,Function.comp_def] using this
def l1 (ins:List (List Int)) (i r:Nat):Int:=if r<i then (inp ins r).length else 0
def z1 (ins:List (List Int)) (i:Nat):List Nat:=(M i).filter fun q=>decide ((inp ins q).length=0)
theorem l1_step (ins:List (List Int)) (i r:Nat):(if r=i then ((inp ins i).length:Int) else l1 ins i r)=l1 ins (i+1) r:=by
 unfold l1;by_cases e:r=i
 ·subst e;simp
 ·rw [if_neg e];by_cases h:r<i
  ·rw [if_pos h,if_pos (by omega)]
  ·rw [if_neg h,if_neg (by omega)]
theorem z1_step (ins:List (List Int)) (i:Nat):z1 ins (i+1)=if (inp ins i).length=0 then z1 ins i++[i] else z1 ins i:=by
 unfold z1;rw [List.range_succ,List.filter_append];by_cases h:(inp ins i).length=0
 ·rw [if_pos h,List.filter_cons_of_pos (by simpa using h)];rfl
 ·rw [if_neg h,List.filter_cons_of_neg (by simpa using h)];simp
theorem z1_len (ins:List (List Int)) (i:Nat):(z1 ins i).length≤i:=by
 have:=List.length_filter_le (fun q=>decide ((inp ins q).length=0)) (M i)
 simpa [z1] using this
theorem z1_start (ins:List (List Int)):KInv ins 0 [] (z1 ins ins.length) (l1 ins ins.length):=
 KInv.start (fun i hi=>by unfold l1;rw [if_pos hi]) (List.Nodup.sublist List.filter_sublist List.nodup_range) fun i=>by simp [z1]
theorem A1.congr {w:World} {nb:Nat} {nv hv:Value} {out:Int} {n:Nat} {f g:Nat→Int} {hs:List Int} {wr:World} (h:A1 w nb nv out n f hv hs wr) (e:∀ r,r<n→f r=g r):A1 w nb nv out n g hv hs wr:=⟨h.gb,by rw [←lc_congr e];exact h.lb,h.hp,h.heap,h.below,h.nbl⟩
theorem hv_form {w:World} {nb B:Nat} {hv:Value} {hs:List Int} (h:HpIs w nb B hv hs):∃ a c,hv=J a hs.length c:=by
 rcases h.1.form with ⟨rfl,h'⟩|⟨g,cap,rfl,_⟩
 ·exact ⟨none,0,by rw [h'];rfl⟩
 ·exact ⟨_,cap,rfl⟩
theorem pop_perm {k:Nat} {hs hs2:List Int} {h:List Nat} (hp:hs.Perm (ofN h)) (h2:((k:Int)::hs2).Perm hs):∃ h2:List Nat,hs2.Perm (ofN h2)∧h.Perm (k::h2):=by
 have hall:=h2.trans hp;obtain ⟨l,hl,hl2⟩:=ofN_of hall
 cases l with
 |nil=>cases hl
 |cons x l=>
  unfold ofN at hl;simp only [List.map_cons,List.cons.injEq] at hl;obtain ⟨h1,h3⟩:=hl;have:x=k:=by omega
  subst this;exact ⟨l,by rw [h3];exact List.Perm.refl _,hl2.symm⟩
theorem makeL {w w2:World} {nv:Value} {out:Int} {n L:Nat} (hL:L=w.heap.size+1) (hown:w2.ownsRow (w.heap.size+1) 3 1 (J (some ⟨L,0,none⟩) n n) n (madeCells (Y X 0).cells (n*1)).toList)
  (hg:(w.alloc (.cells #[nv,Y X out] 33)).grownBy w2 none) (ins:List (List Int)):Box w2 (w.heap.size+1) (lc n (l1 ins 0))∧Box w2 w.heap.size [nv,Y X out]∧Below w.heap.size w w2:=by
 subst hL;have hb:=box_own hown;have e:(madeCells (Y X 0).cells (n*1)).toList=G n (Y X 0):=by
  rw [Nat.mul_one];exact toList_madeCells_one _ _
 have e2:G n (Y X 0)=lc n (l1 ins 0):=by
  unfold lc l1;apply List.ext_getElem?;intro j;by_cases hj:j<n
  ·simp [hj]
  ·rw [List.getElem?_eq_none (by simp;omega),List.getElem?_eq_none (by simp;omega)]
 rw [e,e2] at hb;exact ⟨hb,(Box.new w _ _).grown' hg (by simp),(below_alloc w _).grown hg (by rw [size_alloc];omega) (fun k hk=>by cases hk)⟩
theorem alloc_at (w:World) (o:Obj):(w.alloc o).heap[w.heap.size]?=some o:=by
 show (w.heap.push o)[w.heap.size]?=_
 simp
theorem A1.made {w w2:World} {nv:Value} {out:Int} {n:Nat} {left:Nat→Int} (h:Box w2 (w.heap.size+1) (lc n left)∧Box w2 w.heap.size [nv,Y X out]∧Below w.heap.size w w2):
  A1 w (w2.heap.size+1) nv out n left (J (some ⟨w2.heap.size,0,none⟩) 0 0) [] ((w2.alloc (.cells #[] 3)).alloc (.cells #[J (some ⟨w2.heap.size,0,none⟩) 0 0] 133)):=by
 obtain ⟨h1,h2,h3⟩:=h;have hlt:=h1.lt;refine ⟨(h2.alloc _).alloc _,(h1.alloc _).alloc _,⟨OwnP.alloc ?_ _,?_,by simp [Value.ownBlock]⟩,fun i _ hi=>by simp at hi,(h3.alloc (by omega) _).alloc (by rw [size_alloc];omega) _,by omega⟩
 ·refine ⟨rfl,.inr ⟨w2.heap.size,0,#[],rfl,by omega,?_,Z _,by decide,rfl,rfl⟩⟩;show (w2.heap.push _)[w2.heap.size]?=_
  simp
 ·have:=alloc_at (w2.alloc (.cells #[] 3)) (.cells #[J (some ⟨w2.heap.size,0,none⟩) 0 0] 133);rw [size_alloc] at this;exact this
theorem use_row {w wU wr:World} {nb U n:Nat} {left:Nat→Int} {hv ov:Value} {hs:List Int} {o:List Nat} {f:Nat→List Nat} {vs:List Value} (h:AR w wU nb U n left hv hs ov o wr) (hu:US wU U n none f vs) {k:Nat} (hk:k<n):
  ∃ a c,vs[k]?=some (J a (f k).length c)∧wr.cell? ⟨U,k,none⟩=some (J a (f k).length c)∧∀ wr',Bx.Same (fun k=>U≤k∧k<wU.heap.size) wU wr'→∀ (j u:Nat),(f k)[j]?=some u→∃ g,a=some ⟨g,0,none⟩∧wr'.cell? ⟨g,j,none⟩=some (Y X u):=by
 obtain ⟨v,hv⟩:∃ v,vs.getD k undef=v:=⟨_,rfl⟩;have hvg:vs[k]?=some v:=by rw [←hv];have:=hu.len;simp [show k<vs.length by omega]
 have ho:=hu.own k hk;rw [hv] at ho;obtain ⟨a,c,rfl⟩:=own_sl ho;refine ⟨a,c,hvg,?_,fun wr' hs' j u hj=>?_⟩
 ·rw [h.us.cell ⟨Z _,hu.box.lt⟩];exact hu.box.cell k hvg
 ·have hjl:j<(f k).length:=(List.getElem?_eq_some_iff.1 hj).1
  rcases ho.form with ⟨h1,h'⟩|⟨g,cap,h1,h2,h3,_,_,_,_,hc⟩
  ·have:(f k).length=0:=by rw [←ofN_len,h'];rfl
   omega
  ·simp only [K] at h1;obtain ⟨rfl,_,_⟩:=h1;refine ⟨g,rfl,?_⟩;rw [hs'.cell ⟨by omega,h3⟩,hc j (by rw [ofN_len];exact hjl)];unfold ofN;simp [hj]
def R2 (ins:List (List Int)) (w wU:World) (nb U n:Nat) (ov:Value) (wr:World):Prop:=
 ∃ (m:Nat) (o h:List Nat) (left:Nat→Int) (hv:Value) (hs:List Int),KInv ins m o h left∧AR w wU nb U n left hv hs ov o wr∧hs.Perm (ofN h)
def R3 (ins:List (List Int)) (w wU:World) (nb U n m k:Nat) (o:List Nat) (ov:Value) (j:Nat) (wr:World):Prop:=
 ∃ (h:List Nat) (left:Nat→Int) (hv:Value) (hs:List Int),KMid ins m o k (users ins k) j h left∧AR w wU nb U n left hv hs ov (o++[k]) wr∧hs.Perm (ofN h)
theorem all_c (B:Nat) (nv:Value) (nds:List Nd) (out:Int) (w:World) (hm:nds.length≤999) (hl:∀ i,i<nds.length→(nds.getD i Nd.none).ins.length≤1000) (hg:Gr B w nv nds) (hB:B≤w.heap.size):
  Calls Tryz.prog 71 #[.agg #[nv,Y X out]] w (InPost w (ord (insOf nds))):=by
 obtain ⟨ga,gc,rfl⟩:=hg.isSl;have hgl:=hg.len_le;obtain ⟨i3,hi3,hz0,hz1,hz2⟩:=info_parts infoI;obtain ⟨ins,hins⟩:∃ ins,ins=insOf nds:=⟨_,rfl⟩;have HI:Hid (ins=insOf nds∧ins.length=nds.length):=⟨hins,by rw [hins,insOf_len]⟩;have HG:Hid (Gr B w (J ga nds.length gc) nds∧∀ i,i<nds.length→(nds.getD i Nd.none).ins.length≤1000):=⟨hg,hl⟩;have ta:=ta_int;rw [←hins];clear hg hl hins;go_enter Tryz.func71,Tryz.ntmps71
 go_wp2_with (at_make;refine wpList_make_full _ rfl _ _ 50 rfl (w.heap.size+1) 3 i3 (Y X 0) 1 Tryz.underlying50 hi3 hz0 hz1 .i64 .i64 _ _ nds.length rfl rfl rfl rfl (by rw [hz2];omega) (by unfold maxLen;omega) (by simp) ?_;intro w2 hown2 hgrow2;have HU:Hid (Box w2 (w.heap.size+1) (lc nds.length (l1 ins 0))∧Box w2 w.heap.size [J ga nds.length gc,Y X out]∧Below w.heap.size w w2):=makeL (by simp) hown2 hgrow2 _;have H0:=A1.made HU.o;have c0:=H0.gb.cell 0 rfl;clear hown2 hgrow2)
 have HA0:Hid (∃ hv hs,A1 w (w2.heap.size+1) (J ga nds.length gc) out nds.length (l1 ins 0) hv hs ((w2.alloc (.cells #[] 3)).alloc (.cells #[J (some ⟨w2.heap.size,0,none⟩) 0 0] 133))∧hs.Perm (ofN (z1 ins 0))):=⟨_,_,H0,List.Perm.refl _⟩;clear c0 H0 HU;go_loopw [20] (fun iv wr=>∃ i:Nat,i≤nds.length∧iv=Y X i∧∃ hv hs,A1 w (w2.heap.size+1) (J ga nds.length gc) out nds.length (l1 ins i) hv hs wr∧hs.Perm (ofN (z1 ins i))) (fun iv _=>nds.length-(intOf iv).toNat)
 case atStart=>exact ⟨0,Nat.zero_le _,rfl,HA0.o⟩
 case round=>
  obtain ⟨i,hi,rfl,hv,hs,hr,hp⟩:=hrel;clear HA0;have b0:=hr.gb.cell 0 rfl;have b1:=hr.gb.cell 1 rfl;by_cases hil:i<nds.length
  ·have HR:Hid (A1 w (w2.heap.size+1) (J ga nds.length gc) out nds.length (l1 ins i) hv hs wr∧hs.Perm (ofN (z1 ins i))):=⟨hr,hp⟩;clear hr hp;go_wp2_with fail;refine (inputs_c B _ nds out i wr hil (by omega) (HG.o.2 i hil) (HG.o.1.below HR.o.1.below hB) (O hB HR.o.1.below.size)).mono ?_;rintro e w5 ⟨a5,c5,rfl,hown5,hb5⟩;rw [←HI.o.1] at hown5 ⊢;obtain ⟨q,hq⟩:∃ q,q=(inp ins i).length:=⟨_,rfl⟩;have hqn:q≤999:=by rw [hq];have:=inp_len ins i;have:=HI.o.2;omega
   have H5:=HR.o.1.call hb5;have d0:=H5.lb.cell i (lc_get _ hil);have f0:=H5.lb.frozen i;have g0:=H5.gb.cell 0 rfl;have H6:Hid (A1 w (w2.heap.size+1) (J ga nds.length gc) out nds.length (l1 ins (i+1)) hv hs (w5.setCell ⟨w.heap.size+1,i,none⟩ (Y X q))):=(H5.setL i q).congr fun r _=>by rw [hq];exact l1_step ins i r
   have HZ:Hid (z1 ins (i+1)=if q=0 then z1 ins i++[i] else z1 ins i):=by rw [hq];exact z1_step ins i
   rw [←hq];clear hown5 hb5 b0 b1 H5 hq;obtain ⟨a,c,rfl⟩:=hv_form H6.o.hp;by_cases h0:q=0
   ·have HZ1:Hid (z1 ins (i+1)=z1 ins i++[i]):=HZ.o.trans (if_pos h0);clear HZ;subst h0;go_wp2_with fail;refine (hpush_c (w2.heap.size+1) (w.heap.size+2) hs.length c a hs i _ rfl (by have:=HR.o.2.length_eq;rw [ofN_len] at this;have:=z1_len ins i;omega) H6.o.hp (by have:=H6.o.lb.lt;omega) H6.o.heap).mono ?_;rintro e w7 ⟨rfl,a7,c7,hs7,q1,q2,q3,q4,q5⟩;have H7:Hid (∃ hv hs,A1 w (w2.heap.size+1) (J ga nds.length gc) out nds.length (l1 ins (i+1)) hv hs w7∧hs.Perm (ofN (z1 ins (i+1)))):=⟨_,_,H6.o.push q4 q3 q1,by
     rw [HZ1.o,ofN_app];exact q2.trans (List.Perm.append_right _ HR.o.2)⟩
    clear q1 q2 q3 q4 q5;go_wp2_with fail;go_roundw
    case rel=>exact ⟨i+1,by omega,by go_num,H7.o⟩
    case measure=>simp [intOf];omega
   ·have e0:((q:Int)==0)=false:=by simp;omega
    have H7:Hid (∃ hv hs,A1 w (w2.heap.size+1) (J ga nds.length gc) out nds.length (l1 ins (i+1)) hv hs (w5.setCell ⟨w.heap.size+1,i,none⟩ (Y X q))∧hs.Perm (ofN (z1 ins (i+1)))):=⟨_,_,H6.o,by
     rw [HZ.o,if_neg h0];exact HR.o.2⟩
    go_wp2_with fail;go_roundw
    case rel=>exact ⟨i+1,by omega,by go_num,H7.o⟩
    case measure=>simp [intOf];omega
  ·have ei:i=nds.length:=by omega
   subst ei;have HR:Hid (A1 w (w2.heap.size+1) (J ga nds.length gc) out nds.length (l1 ins nds.length) hv hs wr∧hs.Perm (ofN (z1 ins nds.length))):=⟨hr,hp⟩;clear hr hp;go_wp2_with fail;refine (uses_c B _ nds out wr hm HG.o.2 (HG.o.1.below HR.o.1.below hB) (O hB HR.o.1.below.size)).mono ?_;rintro e wU ⟨U,vs,hU,rfl,hus,hbU⟩;rw [←HI.o.1] at hus;have HUS:Hid (US wU U nds.length none (users ins) vs∧U<wU.heap.size):=⟨hus,hus.box.lt⟩;have H0:Hid (R2 ins w wU (w2.heap.size+1) U nds.length (J none 0 0) wU):=by
    have hk:=z1_start ins;rw [HI.o.2] at hk;exact ⟨0,[],_,_,_,_,hk,AR.start HR.o.1 hU hbU hus.box.lt,HR.o.2⟩
   clear hus hbU b0 b1 HR;go_wp2_with fail;go_loopw [7] (fun ov wr=>R2 ins w wU (w2.heap.size+1) U nds.length ov wr) (fun ov _=>nds.length-lenV ov)
   case atStart=>exact H0.o
   case round=>
    obtain ⟨m,o,h,left,hv,hs,hk,hr,hp⟩:=hrel;clear H0;obtain ⟨a,c,rfl⟩:=hv_form hr.hp;have bx:Box wr (w2.heap.size+1) [J a hs.length c]:=⟨_,hr.hp.2.1⟩;have c0:=bx.cell 0 rfl;obtain ⟨oa,oc,hov⟩:=own_sl hr.oo;subst hov;have HR:Hid (KInv ins m o h left∧AR w wU (w2.heap.size+1) U nds.length left (J a hs.length c) hs (J oa o.length oc) o wr∧hs.Perm (ofN h)):=⟨hk,hr,hp⟩;have hhl:hs.length=h.length:=by have:=hp.length_eq;rwa [ofN_len] at this
    have hhn:hs.length≤999:=by
     have h1:=len_le hk.hnd fun i hi=>((hk.heap i).1 hi).1;have h2:=HI.o.2;omega
    clear bx hk hr hp;obtain ⟨N,hN⟩:∃ N,N=hs.length:=⟨_,rfl⟩;rw [←hN] at c0 hhl hhn;have HHL:Hid (N=hs.length∧N=h.length):=⟨hN,hhl⟩;clear hN hhl;go_wp2_with fail;refine (len_c a N c wr).mono ?_;rintro e w3 ⟨rfl,hb3⟩;have H3:=HR.o.2.1.call hb3;rw [←HHL.o.1] at H3;by_cases h0:N=0
    ·have he:((N:Int)>0)=False:=by simp;omega
     have HE:Hid (InPost w (ord ins) (.returned (J oa o.length oc)) w3):=by
      have hh:h=[]:=List.eq_nil_of_length_eq_zero (by have:=HHL.o.2;omega);have hk:=HR.o.1;rw [hh] at hk;rw [hk.done];exact ⟨oa,oc,rfl,OwnP.mono H3.oo (by have:=H3.ule;have:=H3.nbl;have:=HUS.o.2;omega),H3.below⟩
     subst h0;clear H3 hb3 c0;go_wp2_with fail;go_ret;exact HE.o
    ·obtain ⟨n,hn⟩:∃ n,N=n+1:=⟨N-1,by omega⟩;obtain ⟨g,rfl⟩:∃ g,a=some ⟨g,0,none⟩:=by
      rcases H3.hp.1.form with ⟨h1,h'⟩|⟨g,cap,h1,_⟩
      ·have h2:=HHL.o.1;rw [h'] at h2;simp at h2;omega
      ·simp only [K] at h1;exact ⟨g,h1.1⟩
     have hN0:(0:Int)<(N:Int):=by omega
     have H3':Hid (AR w wU (w2.heap.size+1) U nds.length left (J (some ⟨g,0,none⟩) N c) hs (J oa o.length oc) o w3):=H3;clear H3 hb3 c0;go_wp2_with fail;refine (hpop_c (w2.heap.size+1) (w.heap.size+2) g c N n hs w3 HHL.o.1.symm hn (by omega) H3'.o.hp H3'.o.heap).mono ?_;rintro e w4 ⟨rfl,hs2,p1,p2,p3,p4⟩;obtain ⟨k,hk0,hkh⟩:=heap_node HR.o.2.2 (x:=hs.getD 0 0) (by simp [show 0<hs.length by have:=HHL.o.1;omega]);rw [hk0] at p2 ⊢;obtain ⟨h2,p5,p6⟩:=pop_perm HR.o.2.2 p2;have hmin:∀ i∈h,k≤i:=fun i hi=>by
      have h1:(i:Int)∈hs:=HR.o.2.2.mem_iff.2 (by unfold ofN;exact List.mem_map.2 ⟨i,hi,rfl⟩);obtain ⟨j,hj,e⟩:=List.mem_iff_getElem.1 h1;have:=heap_min H3'.o.heap j hj;simp [hj,e] at this;rw [I] at hk0;omega
     have hkn:k<nds.length:=by have:=(HR.o.1.heap k).1 hkh |>.1;have:=HI.o.2;omega
     have HK4:Hid (AR w wU (w2.heap.size+1) U nds.length left (J (some ⟨g,0,none⟩) n c) hs2 (J oa o.length oc) o w4∧KMid ins m o k (users ins k) 0 h2 left∧hs2.Perm (ofN h2)):=⟨H3'.o.push p4 p3 p1 HUS.o.2 fun j hj=>.inl hj,HR.o.1.pop hkh hmin p6 (users_mem ins k) (users_nodup ins k),p5⟩;have hon2:o.length<nds.length:=by
      have h1:=len_le HK4.o.2.1.nodup HK4.o.2.1.bound;have h2:=HI.o.2;simp at h1;omega
     have hon:o.length≤998:=by omega
     have HM:Hid (o.length+1≤maxLen∧(o.length+1)*8≤140737488355328):=by constructor<;>(try unfold maxLen)<;>omega
     clear p1 p2 p3 p4 p5 p6 hmin hk0 hkh H3'
     go_wp2_with (at_builtin;refine wpList_append_lies _ rfl _ _ 50 rfl wU.heap.size 3 i3 (Y X 0) 1 8 Tryz.underlying50 hi3 hz0 hz1 hz2 rfl (by decide) (J oa o.length oc) o.length ((ofN o).map (Value.int .i64)) rfl (OwnP.row (ofN_len o) (HK4.o.1.oo.alloc (.cells #[Y X k] 3))) _ 1 1 [Y X k] rfl rfl (news_one (by simp)) (by simp [Value.oneCell']) (by decide) HM.o.1 HM.o.2 (by have:=HK4.o.1.size;first|omega|(simp;omega)) (w4.heap.size+1) (by simp) ?_;intro g8 c8 w8 hown8 hgrow8 hat8 hlt8;have HA:Hid (AR w wU (w2.heap.size+1) U nds.length left (J (some ⟨g,0,none⟩) n c) hs2 (J (some ⟨g8,0,none⟩) (o.length+1) c8) (o++[k]) w8):=HK4.o.1.app HUS.o.2 hown8 hgrow8 hat8;clear hown8 hgrow8 hat8 hlt8;obtain ⟨ua,uc,hvk,hck,hrk⟩:=use_row HA.o HUS.o.1 hkn;have HRK:Hid (∀ wr',Bx.Same (fun k=>U≤k∧k<wU.heap.size) wU wr'→∀ j u:Nat,(users ins k)[j]?=some u→∃ g,ua=some ⟨g,0,none⟩∧wr'.cell? ⟨g,j,none⟩=some (Y X u)):=hrk;clear hvk hrk;have hul:(users ins k).length≤999:=by (have h1:=len_le (users_nodup ins k) (fun i hi=>((users_mem ins k i).1 hi).1);have h2:=HI.o.2;omega))
     have H0:Hid (R3 ins w wU (w2.heap.size+1) U nds.length m k o (J (some ⟨g8,0,none⟩) (o.length+1) c8) 0 w8):=⟨_,_,_,_,HK4.o.2.1,HA.o,HK4.o.2.2⟩;clear hck HA HK4;go_loopw [61] (fun jv wr=>∃ j:Nat,j≤(users ins k).length∧jv=Y X j∧R3 ins w wU (w2.heap.size+1) U nds.length m k o (J (some ⟨g8,0,none⟩) (o.length+1) c8) j wr) (fun jv _=>(users ins k).length-(intOf jv).toNat)
     case atStart=>exact ⟨0,Nat.zero_le _,rfl,H0.o⟩
     case round=>
      obtain ⟨j,hj,rfl,h3,left3,hv3,hs3,hk3,hr3,hp3⟩:=hrel;clear H0;by_cases hjl:j<(users ins k).length
      ·obtain ⟨u,hu⟩:∃ u,u=(users ins k)[j]:=⟨_,rfl⟩;have huj:(users ins k)[j]?=some u:=by rw [hu];exact V hjl
       obtain ⟨g7,rfl,hc7⟩:=HRK.o _ hr3.us j u huj;have hun:u<nds.length:=by have:=((users_mem ins k u).1 (Q huj)).1;have:=HI.o.2;omega
       have d0:=hr3.lb.cell u (lc_get _ hun);have f0:=hr3.lb.frozen u;obtain ⟨x,hx⟩:∃ x,x=left3 u:=⟨_,rfl⟩;have hxb:1≤x∧x≤999:=by
        have h1:=hk3.lft u (by rw [HI.o.2];exact hun);rw [if_neg (not_take (users_nodup ins k) huj)] at h1;have h2:=lf_le ins o u;have h4:=HI.o.2;have h5:=(hk3.step (left':=fun i=>if i=u then left3 u-1 else left3 i) (h':=if left3 u-1=0 then u::h3 else h3) huj (fun i _=>rfl) (by split<;>simp)).1;omega
       have H6:Hid (AR w wU (w2.heap.size+1) U nds.length (fun i=>if i=u then x-1 else left3 i) hv3 hs3 (J (some ⟨g8,0,none⟩) (o.length+1) c8) (o++[k]) (wr.setCell ⟨w.heap.size+1,u,none⟩ (Y X (x-1)))):=hr3.setL HUS.o.2 u (x-1);have HK3:Hid (KMid ins m o k (users ins k) j h3 left3∧hs3.Perm (ofN h3)∧x=left3 u∧(users ins k)[j]?=some u):=⟨hk3,hp3,hx,huj⟩;rw [←hx] at d0;obtain ⟨a3,c3,rfl⟩:=hv_form hr3.hp;clear hk3 hr3 hp3 hx huj hu;obtain ⟨hx1,hx2⟩:=hxb;obtain ⟨y,rfl⟩:∃ y:Nat,x=y+1:=⟨(x-1).toNat,by omega⟩;rw [show ((y:Int)+1)-1=y by omega] at H6;by_cases h0:y=0
       ·have HS:Hid (∀ hs4:List Int,hs4.Perm (hs3++[(u:Int)])→∃ h4,KMid ins m o k (users ins k) (j+1) h4 (fun i=>if i=u then (y:Int) else left3 i)∧hs4.Perm (ofN h4)):=by
         intro hs4 hp4;refine ⟨u::h3,(HK3.o.1.step HK3.o.2.2.2 (fun i _=>?_) (by rw [←HK3.o.2.2.1,if_pos (by omega)])).2.2,?_⟩
         ·show (if i=u then (y:Int) else left3 i)=_;rw [←HK3.o.2.2.1];by_cases e:i=u
          ·rw [if_pos e,if_pos e];omega
          ·rw [if_neg e,if_neg e]
         ·refine hp4.trans ?_;have h1:(hs3++[(u:Int)]).Perm ((u:Int)::hs3):=List.perm_append_singleton _ _;exact h1.trans (List.Perm.cons _ HK3.o.2.1)
        have hsl:hs3.length<999:=by
         have h1:=HK3.o.1;have h2:=len_le (l:=u::h3) (n:=nds.length) ?_ ?_
         ·have h4:=HK3.o.2.1.length_eq;rw [ofN_len] at h4;simp at h2;omega
         ·obtain ⟨h4,e1,e2⟩:=HS.o (hs3++[(u:Int)]) (List.Perm.refl _);have h5:h4.Perm (u::h3):=ofN_perm (e2.symm.trans ((List.perm_append_singleton _ _).trans (List.Perm.cons _ HK3.o.2.1)));exact h5.nodup_iff.1 e1.hnd
         ·intro i hi
          rcases List.mem_cons.1 hi with rfl|hi
          ·exact hun
          ·have:=((h1.heap i).1 hi).1;have:=HI.o.2;omega
        subst h0;go_wp2_with fail;refine (hpush_c (w2.heap.size+1) (w.heap.size+2) hs3.length c3 a3 hs3 u _ rfl (by omega) H6.o.hp (by have:=H6.o.lb.lt;omega) H6.o.heap).mono ?_;rintro e w7 ⟨rfl,a7,c7,hs7,q1,q2,q3,q4,q5⟩;have H7:Hid (R3 ins w wU (w2.heap.size+1) U nds.length m k o (J (some ⟨g8,0,none⟩) (o.length+1) c8) (j+1) w7):=by
         obtain ⟨h4,e1,e2⟩:=HS.o hs7 q2;exact ⟨h4,_,_,_,e1,H6.o.push q4 q3 q1 HUS.o.2 q5,e2⟩
        clear q1 q2 q3 q4 q5 HS;go_wp2_with fail;go_roundw
        case rel=>exact ⟨j+1,by omega,by go_num,H7.o⟩
        case measure=>simp [intOf];omega
       ·have e0:((y:Int)==0)=false:=by simp;omega
        have H7:Hid (R3 ins w wU (w2.heap.size+1) U nds.length m k o (J (some ⟨g8,0,none⟩) (o.length+1) c8) (j+1) (wr.setCell ⟨w.heap.size+1,u,none⟩ (Y X y))):=by
         refine ⟨h3,_,_,_,(HK3.o.1.step HK3.o.2.2.2 (fun i _=>?_) (by rw [←HK3.o.2.2.1,if_neg (by omega)])).2.2,H6.o,HK3.o.2.1⟩;show (if i=u then (y:Int) else left3 i)=_;rw [←HK3.o.2.2.1];by_cases e:i=u
         ·rw [if_pos e,if_pos e];omega
         ·rw [if_neg e,if_neg e]
        go_wp2_with fail;go_roundw
        case rel=>exact ⟨j+1,by omega,by go_num,H7.o⟩
        case measure=>simp [intOf];omega
      ·have ej:j=(users ins k).length:=by omega
       subst ej;have HE:Hid (R2 ins w wU (w2.heap.size+1) U nds.length (J (some ⟨g8,0,none⟩) (o.length+1) c8) wr):=⟨_,_,_,_,_,_,hk3.fin,hr3,hp3⟩;clear hk3 hr3 hp3;go_wp2_with fail;go_roundw
       case rel=>exact HE.o
       case measure=>simp [lenV];omega
end Go.Proofs.YtgodhpampaleeaaGreatDoor
namespace Go.Od
structure Fine (ins:List (List Int)) (out:List Nat):Prop where
 nodup:out.Nodup
 bound:∀ i∈out,i<ins.length
 behind:∀ m i,out[m]?=some i→∀ k∈inp ins i,k∈out.take m
theorem Fine.nil (ins:List (List Int)):Fine ins []:=⟨List.nodup_nil,(fun i hi=>by cases hi),fun m i h=>by simp at h⟩
theorem least_is {ins:List (List Int)} {out:List Nat} {b:Nat} (h:least ins out=some b):b<ins.length∧rdy ins out b=true∧∀ j,j<b→rdy ins out j=false:=by
 unfold least at h;rw [List.find?_eq_some_iff_getElem] at h;obtain ⟨h1,i,hi,e,h2⟩:=h;simp at e hi;subst e;refine ⟨hi,h1,fun j hj=>?_⟩;have:=h2 j hj
 simpa using this
theorem Fine.snoc {ins:List (List Int)} {out:List Nat} {b:Nat} (h:Fine ins out) (hb:least ins out=some b):Fine ins (out++[b]):=by
 obtain ⟨h1,h2,_⟩:=least_is hb;obtain ⟨h3,h4⟩:=(rdy_iff ins out b).1 h2;refine ⟨?_,fun i hi=>?_,fun m i hm k hk=>?_⟩
 ·rw [List.nodup_append];exact ⟨h.nodup,by simp,fun a ha c hc=>by simp at hc;subst hc;intro e;subst e;exact h3 ha⟩
 ·rcases List.mem_append.1 hi with hi|hi
  ·exact h.bound i hi
  ·simp at hi;subst hi;exact h1
 ·by_cases hlt:m<out.length
  ·rw [List.getElem?_append_left hlt] at hm;rw [List.take_append_of_le_length (by omega)];exact h.behind m i hm k hk
  ·have:=(List.getElem?_eq_some_iff.1 hm).1;simp at this;have e:m=out.length:=by omega
   subst e;rw [List.getElem?_append_right (Z _)] at hm;simp at hm;subst hm;rw [List.take_append_of_le_length (Z _),List.take_length];exact h4 k hk
theorem ordN_fine {ins:List (List Int)}:∀ (f:Nat) {out:List Nat},Fine ins out→Fine ins (ordN ins f out)
 |0,_,h=>h
 |f+1,out,h=>by
  unfold ordN
  cases e:least ins out with
  |none=>exact h
  |some b=>exact ordN_fine f (h.snoc e)
theorem ord_fine (ins:List (List Int)):Fine ins (ord ins):=ordN_fine _ (Fine.nil ins)
theorem full_mem {n:Nat} {out:List Nat} (hn:out.Nodup) (hb:∀ i∈out,i<n) (hl:n≤out.length) {i:Nat} (hi:i<n):i∈out:=by
 refine Classical.byContradiction fun h=>?_;have:=len_le (n:=n) (l:=i::out) (List.nodup_cons.2 ⟨h,hn⟩) (fun j hj=>by
  rcases List.mem_cons.1 hj with rfl|hj
  ·exact hi
  ·exact hb j hj)
 simp at this;omega
theorem ordN_max {ins:List (List Int)}:∀ (f:Nat) {out:List Nat},Fine ins out→ins.length≤out.length+f→least ins (ordN ins f out)=none
 |0,out,h,hl=>least_none fun j hj=>by
  cases e:rdy ins (ordN ins 0 out) j with
  |false=>rfl
  |true=>
   have:=((rdy_iff _ _ _).1 e).1;exact absurd (full_mem h.nodup h.bound (by omega) hj) this
 |f+1,out,h,hl=>by
  unfold ordN
  cases e:least ins out with
  |none=>exact e
  |some b=>exact ordN_max f (h.snoc e) (by simp;omega)
theorem ord_max (ins:List (List Int)):least ins (ord ins)=none:=ordN_max _ (Fine.nil ins) (by simp)
theorem least_none_iff {ins:List (List Int)} {out:List Nat} (h:least ins out=none) {i:Nat} (hi:i<ins.length):rdy ins out i=false:=by
 unfold least at h;rw [List.find?_eq_none] at h;have:=h i (List.mem_range.2 hi)
 simpa using this
theorem ord_closed (ins:List (List Int)) {i:Nat} (hi:i<ins.length) (h:∀ k∈inp ins i,k∈ord ins):i∈ord ins:=by
 refine Classical.byContradiction fun hn=>?_;have:=least_none_iff (ord_max ins) hi;rw [(rdy_iff _ _ _).2 ⟨hn,h⟩] at this
 cases this
theorem ord_len (ins:List (List Int)):(ord ins).length≤ins.length:=len_le (ord_fine ins).nodup (ord_fine ins).bound
theorem ord_sub {ins:List (List Int)} {S:Nat→Prop} (h:∀ i,i<ins.length→(∀ k∈inp ins i,S k)→S i):∀ i∈ord ins,S i:=by
 have hf:=ord_fine ins;have:∀ m i:Nat,(ord ins)[m]?=some i→S i:=by
  intro m
  induction m using Nat.strongRecOn with
  |ind m ih=>
   intro i hi;refine h i (hf.bound i (Q hi)) fun k hk=>?_;have h1:=hf.behind m i hi k hk;obtain ⟨j,hj,e⟩:=List.mem_iff_getElem.1 h1;rw [List.length_take] at hj;rw [List.getElem_take] at e;exact ih j (by omega) k (by rw [←e];exact V _)
 intro i hi;obtain ⟨m,hm,e⟩:=List.mem_iff_getElem.1 hi;exact this m i (by rw [←e];exact V _)
theorem ord_full (ins:List (List Int)):(ord ins).length=ins.length↔∀ i,i<ins.length→i∈ord ins:=by
 constructor
 ·intro h i hi;exact full_mem (ord_fine ins).nodup (ord_fine ins).bound (by omega) hi
 ·intro h;have h1:=ord_len ins;have h2:=List.Nodup.length_le_of_subset (l₁:=M ins.length) List.nodup_range (fun i hi=>h i (List.mem_range.1 hi));simp at h2;omega
end Go.Od
namespace Go.Proofs.YtgodhpampaleeaaGreatDoor
open Go.RowKit Go.Bx Go.Od Go.Hp
attribute [local go_sem ↓] Go.wp_at_zero Go.wp_at_succ
def cntF (n:Nat) (S:Nat→Bool):Nat:=((M n).filter fun i=>!S i).length
theorem cntF_set {n:Nat} {S:Nat→Bool} {x:Nat} (hx:x<n) (h:S x=false):cntF n (fun i=>if i=x then true else S i)+1=cntF n S:=by
 unfold cntF
 induction n with
 |zero=>omega
 |succ n ih=>
  rw [List.range_succ,List.filter_append,List.filter_append,List.length_append,List.length_append];by_cases e:x=n
  ·subst e;have e1:(M x).filter (fun i=>!(if i=x then true else S i))=(M x).filter fun i=>!S i:=List.filter_congr fun i hi=>by
    have:i≠x:=by have:=List.mem_range.1 hi;omega
    simp [this]
   rw [e1];simp [h]
  ·have:=ih (by omega);have e1:n≠x:=fun h=>e h.symm;have e2:[n].filter (fun i=>!(if i=x then true else S i))=[n].filter fun i=>!S i:=List.filter_congr fun i hi=>by
    simp at hi;subst hi;simp [e1]
   rw [e2];omega
def bc (n:Nat) (S:Nat→Bool):List Value:=(M n).map fun r=>Value.bool (S r)
theorem bc_get {n r:Nat} (S:Nat→Bool) (h:r<n):(bc n S)[r]?=some (.bool (S r)):=by simp [bc,h]
theorem bc_set (n u:Nat) (S:Nat→Bool) (x:Bool):(bc n S).set u (.bool x)=bc n (fun r=>if r=u then x else S r):=by
 unfold bc;apply List.ext_getElem?;intro j;by_cases e:j=u
 ·subst e;by_cases hj:j<n
  ·simp [hj]
  ·rw [List.getElem?_eq_none (by simp;omega),List.getElem?_eq_none (by simp;omega)]
 ·rw [List.getElem?_set_ne (fun h=>e h.symm)];by_cases hj:j<n
  ·simp [hj,e]
  ·rw [List.getElem?_eq_none (by simp;omega),List.getElem?_eq_none (by simp;omega)]
theorem bc_congr {n:Nat} {f g:Nat→Bool} (h:∀ r,r<n→f r=g r):bc n f=bc n g:=by
 unfold bc;apply List.map_congr_left;intro r hr;rw [h r (List.mem_range.1 hr)]
theorem bc_false (n:Nat):G n (Value.bool false)=bc n (fun _=>false):=by
 unfold bc;apply List.ext_getElem?;intro j;by_cases hj:j<n
 ·simp [hj]
 ·rw [List.getElem?_eq_none (by simp;omega),List.getElem?_eq_none (by simp;omega)]
theorem infoB:(Tryz.prog.info? 4).map (fun i=>(i.zero,i.size,i.bytes))=some (some (.bool false),1,1):=by kernel_rfl
theorem makeB {w w2:World} {nv:Value} {out:Int} {n L:Nat} (hL:L=w.heap.size+1) (hown:w2.ownsRow (w.heap.size+1) 4 1 (J (some ⟨L,0,none⟩) n n) n (madeCells (Value.bool false).cells (n*1)).toList)
  (hg:(w.alloc (.cells #[nv,Y X out] 33)).grownBy w2 none):Box w2 (w.heap.size+1) (bc n fun _=>false)∧Box w2 w.heap.size [nv,Y X out]∧Below w.heap.size w w2:=by
 subst hL;have hb:=box_own hown;have e:(madeCells (Value.bool false).cells (n*1)).toList=G n (.bool false):=by
  rw [Nat.mul_one];exact toList_madeCells_one _ _
 rw [e,bc_false] at hb;exact ⟨hb,(Box.new w _ _).grown' hg (by simp),(below_alloc w _).grown hg (by rw [size_alloc];omega) (fun k hk=>by cases hk)⟩
structure NR (w:World) (nv:Value) (out:Int) (n:Nat) (S:Nat→Bool) (tv:Value) (T:List Nat) (wr:World):Prop where
 gb:Box wr w.heap.size [nv,Y X out]
 ob:Box wr (w.heap.size+1) (bc n S)
 to:OwnP wr (w.heap.size+2) tv (ofN T)
 below:Below w.heap.size w wr
section
variable {w wr w':World} {nv tv lv:Value} {out:Int} {n:Nat} {S:Nat→Bool} {T l:List Nat}
theorem NR.call (h:NR w nv out n S tv T wr) (hb:Below wr.heap.size wr w'):NR w nv out n S tv T w':=⟨h.gb.call hb,h.ob.call hb,h.to.below hb,h.below.trans (hb.mono h.below.size)⟩
theorem NR.mark (h:NR w nv out n S tv T wr) (x:Nat) (b:Bool):NR w nv out n (fun i=>if i=x then b else S i) tv T (wr.setCell ⟨w.heap.size+1,x,none⟩ (.bool b)):=
 ⟨h.gb.set (by simp) _,by rw [←bc_set];exact h.ob.self _ _,own_set h.to (by simp) _,h.below.setCell (by simp) _⟩
theorem NR.app {w8:World} {o:Obj} {x g8 c8:Nat} (h:NR w nv out n S tv T wr) (hown:w8.ownsRow (w.heap.size+2) 3 1 (J (some ⟨g8,0,none⟩) (T.length+1) c8) (T.length+1) ((ofN T).map (Value.int .i64)++[Y X x])) (hg:(wr.alloc o).grownBy w8 tv.ownBlock):
  NR w nv out n S (J (some ⟨g8,0,none⟩) (T.length+1) c8) (T++[x]) w8:=by
 have hge:=row_ge h.to;have h':=h.call (below_alloc wr o);refine ⟨h'.gb.grown' hg fun e=>by have:=(hge _ e).1;omega,h'.ob.grown' hg fun e=>by have:=(hge _ e).1;omega,?_,h'.below.grown hg h'.below.size fun k hk=>by have:=(hge _ hk).1;omega⟩;unfold OwnP;rw [ofN_app,List.map_append,List.length_append,ofN_len];exact hown
theorem NR.row {w8:World} {o:Obj} {g8 c8:Nat} (hl:OwnP wr (w.heap.size+2) lv (ofN l)) (hg:(wr.alloc o).grownBy w8 tv.ownBlock) (hat:tv.ownBlock=some g8∨g8=wr.heap.size+1) (hap:∀ k,lv.ownBlock=some k→tv.ownBlock≠some k):
  OwnP w8 (w.heap.size+2) lv (ofN l)∧∀ k,lv.ownBlock=some k→(Value.slice (some ⟨g8,0,none⟩) (T.length+1) c8).ownBlock≠some k:=by
 refine ⟨World.ownsRow.kept (hl.alloc o) hg ?_,fun k hk e=>?_⟩
 ·cases e:lv.ownBlock with
  |none=>exact .inl rfl
  |some j=>exact .inr fun e2=>hap j e e2.symm
 ·simp [Value.ownBlock] at e;subst e
  rcases hat with q|q
  ·exact hap g8 hk q
  ·have:=(row_ge hl g8 hk).2;omega
theorem NR.app2 {w8:World} {o:Obj} {x g8 c8 q:Nat} (hq:q=T.length) (h:NR w nv out n S tv T wr) (hl:OwnP wr (w.heap.size+2) lv (ofN l)) (hap:∀ k,lv.ownBlock=some k→tv.ownBlock≠some k)
  (hown:w8.ownsRow (w.heap.size+2) 3 1 (J (some ⟨g8,0,none⟩) (q+1) c8) (q+1) ((ofN T).map (Value.int .i64)++[Y X x])) (hg:(wr.alloc o).grownBy w8 tv.ownBlock) (hat:tv.ownBlock=some g8∨g8=wr.heap.size+1):
  NR w nv out n S (J (some ⟨g8,0,none⟩) (q+1) c8) (T++[x]) w8∧OwnP w8 (w.heap.size+2) lv (ofN l)∧∀ k,lv.ownBlock=some k→(Value.slice (some ⟨g8,0,none⟩) (q+1) c8).ownBlock≠some k:=by
 subst hq;exact ⟨h.app hown hg,NR.row (T:=T) (c8:=c8) hl hg hat hap⟩
end
theorem dec_any_end {xs:List Int} {x:Int} (h:∀ j,j<xs.length→xs.getD j 0≠x):decide (x∈xs)=false:=by
 rw [decide_eq_false_iff_not];intro hm;obtain ⟨j,hj,e⟩:=List.mem_iff_getElem.1 hm;exact h j hj (by simp [hj,e])
theorem has_c (B:Nat) (nv:Value) (nds:List Nd) (out x:Int) (i:Nat) (w:World) (hi:i<nds.length) (hm:nds.length≤1000) (hl:(nds.getD i Nd.none).ins.length≤1000) (hg:Gr B w nv nds):
  Calls Tryz.prog 80 #[.agg #[nv,Y X out],Y X i,Y X x] w (PPost w (.bool (decide (x∈(nds.getD i Nd.none).ins)))):=by
 obtain ⟨b,o,cap,ia,ic,pa,pc,rfl,hbB,hcap,hcm,k0,k1,k2,s1,s2⟩:=hg.node hi;have e1:=cell_alloc_lt k1 (.cells #[J (some ⟨b,o,none⟩) nds.length cap,Y X out] 33);have hi0:(0:Int)≤(i:Int):=by omega
 have hi1:(i:Int)<(nds.length:Int):=by omega
 obtain ⟨xs,hxs⟩:∃ xs,xs=(nds.getD i Nd.none).ins:=⟨_,rfl⟩;rw [←hxs] at hl s1 e1 k1 ⊢;obtain ⟨ia',ic',hv,hic,hicm,hin,hcell⟩:=s1.ints;cases hv
 have HC:Hid (∀ j,j<xs.length→∃ b2 o2,ia=some ⟨b2,o2,none⟩∧(w.alloc (.cells #[J (some ⟨b,o,none⟩) nds.length cap,Y X out] 33)).cell? ⟨b2,o2+j,none⟩=some (Y X (xs.getD j 0))):=fun j hj=>by
  obtain ⟨b',o',h1,h2,h3⟩:=hcell j hj;exact ⟨b',o',h1,cell_alloc_lt (h3 j hj) _⟩
 unfold maxLen at hcm hicm;clear hin hcell s1 s2 hxs hg;go_enter Tryz.func80,Tryz.ntmps80;go_wp2_with fail
 go_loop [7] (fun jv=>∃ j:Nat,j≤xs.length∧jv=Y X j∧Hid (∀ q,q<j→xs.getD q 0≠x)) (fun jv=>xs.length-(intOf jv).toNat)
 case atStart=>exact ⟨0,by omega,rfl,fun j hj=>by omega⟩
 case round=>
  obtain ⟨j,hj,rfl,hall⟩:=hrel;by_cases h1:j<xs.length
  ·obtain ⟨b',o',rfl,hc⟩:=HC.o j h1;obtain ⟨z,hz⟩:∃ z,z=xs.getD j 0:=⟨_,rfl⟩;rw [←hz] at hc;have HZ:Hid (z=xs.getD j 0):=hz;clear hz;by_cases h2:z=x
   ·have h3:(z==x)=true:=by simp [h2]
    have HE:Hid (decide (x∈xs)=true):=decide_eq_true (by rw [←h2,HZ.o];simp [h1]);have h4:decide (z=x)=true:=decide_eq_true h2;clear h2;go_wp2_with fail;go_ret;exact ⟨ret_b HE.o.symm,below_alloc _ _⟩
   ·have h3:(z==x)=false:=by simp [h2]
    have h4:decide (z=x)=false:=decide_eq_false h2;have H5:Hid (∀ q,q<j+1→xs.getD q 0≠x):=fun q hq=>by
     by_cases e:q=j
     ·subst e;rw [←HZ.o];exact h2
     ·exact hall.out q (by omega)
    go_wp2_with fail
    go_round
    case rel=>exact ⟨j+1,by omega,by go_num,H5⟩
    case measure=>simp [intOf];omega
  ·have:j=xs.length:=by omega
   subst this;have HE:Hid (decide (x∈xs)=false):=dec_any_end hall.out;go_wp2_with fail;go_ret;exact ⟨ret_b HE.o.symm,below_alloc _ _⟩
def okv (ins:List (List Int)) (o:List Nat) (p k:Nat):Bool:=decide (p∉o)&&(M k).all fun x=>decide (x∈o)||!decide ((x:Int)∈ins.getD p [])
theorem okv_zero (ins:List (List Int)) (o:List Nat) (p:Nat):okv ins o p 0=!decide (p∈o):=by simp [okv]
theorem okv_succ (ins:List (List Int)) (o:List Nat) (p k:Nat):okv ins o p (k+1)=(okv ins o p k&&(decide (k∈o)||!decide ((k:Int)∈ins.getD p []))):=by
 unfold okv;rw [List.range_succ,List.all_append,Bool.and_assoc]
 simp
theorem okv_rdy (ins:List (List Int)) (o:List Nat) (p:Nat):okv ins o p ins.length=rdy ins o p:=by
 rw [Bool.eq_iff_iff,rdy_iff];unfold okv;simp only [Bool.and_eq_true,decide_eq_true_eq,List.all_eq_true,List.mem_range,Bool.or_eq_true,Bool.not_eq_true',decide_eq_false_iff_not];constructor
 ·rintro ⟨h1,h2⟩;refine ⟨h1,fun k hk=>?_⟩;obtain ⟨h3,h4⟩:=(inp_mem _ _ _).1 hk
  rcases h2 k h3 with h|h
  ·exact h
  ·exact absurd h4 h
 ·rintro ⟨h1,h2⟩;refine ⟨h1,fun k hk=>?_⟩;by_cases h:(k:Int)∈ins.getD p []
  ·exact .inl (h2 k ((inp_mem _ _ _).2 ⟨hk,h⟩))
  ·exact .inr h
def BestAt (ins:List (List Int)) (o:List Nat) (i:Nat) (v:Int):Prop:=
 (v = -1∧∀ j,i≤j→j<ins.length→rdy ins o j=false)∨∃ b:Nat,v=b∧i≤b∧b<ins.length∧rdy ins o b=true∧∀ j,i≤j→j<b→rdy ins o j=false
theorem BestAt.start (ins:List (List Int)) (o:List Nat):BestAt ins o ins.length (-1):=.inl ⟨rfl,fun j h1 h2=>by omega⟩
theorem BestAt.yes {ins:List (List Int)} {o:List Nat} {i:Nat} {v:Int} (h:BestAt ins o (i+1) v) (hi:i<ins.length) (hr:rdy ins o i=true):BestAt ins o i i:=.inr ⟨i,rfl,Z _,hi,hr,fun j h1 h2=>by omega⟩
theorem BestAt.no {ins:List (List Int)} {o:List Nat} {i:Nat} {v:Int} (h:BestAt ins o (i+1) v) (hr:rdy ins o i=false):BestAt ins o i v:=by
 have h0:∀ j,i≤j→j=i∨i+1≤j:=fun j hj=>by omega
 rcases h with ⟨h1,h2⟩|⟨b,h1,h2,h3,h4,h5⟩
 ·exact .inl ⟨h1,fun j hj hn=>by
   rcases h0 j hj with rfl|h
   ·exact hr
   ·exact h2 j h hn⟩
 ·exact .inr ⟨b,h1,by omega,h3,h4,fun j hj hn=>by
   rcases h0 j hj with rfl|h
   ·exact hr
   ·exact h5 j h hn⟩
theorem BestAt.least {ins:List (List Int)} {o:List Nat} {v:Int} (h:BestAt ins o 0 v):(v = -1∧least ins o=none)∨∃ b:Nat,v=b∧b<ins.length∧least ins o=some b:=by
 rcases h with ⟨h1,h2⟩|⟨b,h1,h2,h3,h4,h5⟩
 ·exact .inl ⟨h1,least_none fun j hj=>h2 j (by omega) hj⟩
 ·exact .inr ⟨b,h1,h3,least_some h3 h4 fun j hj=>h5 j (by omega) hj⟩
def mkd (o:List Nat) (r:Nat):Bool:=decide (r∈o)
theorem mk_snoc (o:List Nat) (b r:Nat):(if r=b then true else mkd o r)=mkd (o++[b]) r:=by
 unfold mkd;by_cases e:r=b
 ·subst e;simp
 ·rw [if_neg e];simp [e]
theorem NR.congr {w wr:World} {nv tv:Value} {out:Int} {n:Nat} {S S':Nat→Bool} {T:List Nat} (h:NR w nv out n S tv T wr) (e:∀ r,r<n→S r=S' r):NR w nv out n S' tv T wr:=⟨h.gb,by rw [←bc_congr e];exact h.ob,h.to,h.below⟩
structure QInv (ins:List (List Int)) (t:Nat) (o:List Nat):Prop where
 len:o.length=t
 told:ord ins=ordN ins (ins.length-t) o
 fine:Fine ins o
theorem QInv.start (ins:List (List Int)):QInv ins 0 []:=⟨rfl,rfl,Fine.nil ins⟩
theorem QInv.stop {ins:List (List Int)} {t:Nat} {o:List Nat} (h:QInv ins t o) (hl:least ins o=none):ord ins=o:=h.told.trans (ordN_none hl _)
theorem QInv.more {ins:List (List Int)} {t b:Nat} {o:List Nat} (h:QInv ins t o) (ht:t<ins.length) (hl:least ins o=some b):QInv ins (t+1) (o++[b]):=
 ⟨by simp [h.len],h.told.trans (by rw [show ins.length-t=(ins.length-(t+1))+1 by omega];exact ordN_some hl _),h.fine.snoc hl⟩
theorem QInv.end_ {ins:List (List Int)} {o:List Nat} (h:QInv ins ins.length o):ord ins=o:=by
 have:=h.told;rw [Nat.sub_self] at this;exact this
theorem rall_c (B:Nat) (nv:Value) (nds:List Nd) (out:Int) (w:World) (hm:nds.length≤999) (hl:∀ i,i<nds.length→(nds.getD i Nd.none).ins.length≤1000) (hg:Gr B w nv nds) (hB:B≤w.heap.size):
  Calls Tryz.prog 49 #[.agg #[nv,Y X out]] w (InPost w (ord (insOf nds))):=by
 obtain ⟨ga,gc,rfl⟩:=hg.isSl;have hgl:=hg.len_le;obtain ⟨i3,hi3,hz0,hz1,hz2⟩:=info_parts infoI;obtain ⟨i4,hi4,hy0,hy1,hy2⟩:=info_parts infoB;obtain ⟨ins,hins⟩:∃ ins,ins=insOf nds:=⟨_,rfl⟩;have HI:Hid (ins=insOf nds∧ins.length=nds.length):=⟨hins,by rw [hins,insOf_len]⟩;have HG:Hid (Gr B w (J ga nds.length gc) nds∧∀ i,i<nds.length→(nds.getD i Nd.none).ins.length≤1000):=⟨hg,hl⟩;rw [←hins];clear hg hl hins;go_enter Tryz.func49,Tryz.ntmps49
 go_wp2_with (at_make;refine wpList_make_full _ rfl _ _ 112 rfl (w.heap.size+1) 4 i4 (.bool false) 1 Tryz.underlying112 hi4 hy0 hy1 .i64 .i64 _ _ nds.length rfl rfl rfl rfl (by rw [hy2];omega) (by unfold maxLen;omega) (by simp) ?_;intro w2 hown2 hgrow2;have HU:Hid (Box w2 (w.heap.size+1) (bc nds.length fun _=>false)∧Box w2 w.heap.size [J ga nds.length gc,Y X out]∧Below w.heap.size w w2):=makeB (by simp) hown2 hgrow2;clear hown2 hgrow2)
 have H0:Hid (NR w (J ga nds.length gc) out nds.length (mkd []) (J none 0 0) [] w2):=by
  obtain ⟨h1,h2,h3⟩:=HU.o;exact ⟨h2,h1,own_nil _ _,h3⟩
 clear HU;go_loopw [3,5] (fun ov tv wr=>∃ t o,t≤nds.length∧tv=Y X t∧QInv ins t o∧NR w (J ga nds.length gc) out nds.length (mkd o) ov o wr) (fun _ tv _=>nds.length-(intOf tv).toNat)
 case atStart=>exact ⟨0,[],Nat.zero_le _,rfl,QInv.start _,H0.o⟩
 case round=>
  obtain ⟨t,o,ht,rfl,hq,hr⟩:=hrel;clear H0;obtain ⟨oa,oc,hov⟩:=own_sl hr.to;have hol:o.length=t:=hq.len;rw [hol] at hov;subst hov;have b0:=hr.gb.cell 0 rfl;have HR:Hid (QInv ins t o∧NR w (J ga nds.length gc) out nds.length (mkd o) (J oa t oc) o wr∧o.length=t):=⟨hq,hr,hol⟩;clear hq hr hol;by_cases htl:t<nds.length
  ·have hn1:(1:Int)≤(nds.length:Int):=by omega
   go_wp2_with fail;have H1:Hid (NR w (J ga nds.length gc) out nds.length (mkd o) (J oa t oc) o wr∧BestAt ins o nds.length (-1)):=⟨HR.o.2.1,by rw [←HI.o.2];exact BestAt.start _ _⟩;go_loopw [6,7] (fun bv iv wr=>∃ (i:Nat) (v z:Int),i≤nds.length∧iv=Y X z∧bv=Y X v∧z=(i:Int)-1∧BestAt ins o i v∧NR w (J ga nds.length gc) out nds.length (mkd o) (J oa t oc) o wr) (fun _ iv _=>((intOf iv)+1).toNat)
   case atStart=>exact ⟨nds.length,-1,_,Z _,rfl,rfl,rfl,H1.o.2,H1.o.1⟩
   case round=>
    obtain ⟨i,v,z,hi,rfl,rfl,hz,hbest,hr⟩:=hrel;clear H1 b0
    cases i with
    |zero=>
     obtain rfl:z = -1:=by omega
     clear hz hi
     rcases hbest.least with ⟨rfl,hle⟩|⟨b,rfl,hbn,hle⟩
     ·have HE:Hid (InPost w (ord ins) (.returned (J oa t oc)) wr):=by
       have e:=HR.o.1.stop hle;have h1:=hr.to;rw [e];refine ⟨oa,oc,by rw [HR.o.2.2],?_,hr.below⟩;rw [HR.o.2.2];exact OwnP.mono h1 (by omega)
      clear hr hbest hle;go_wp2_with fail;go_ret;exact HE.o
     ·have hbn':b<nds.length:=by rw [←HI.o.2];exact hbn
      have hb0:¬((b:Int)<0):=by omega
      have d0:=hr.ob.cell b (bc_get _ hbn');have f0:=hr.ob.frozen b;have H7:Hid (QInv ins (t+1) (o++[b])∧NR w (J ga nds.length gc) out nds.length (mkd (o++[b])) (J oa t oc) o (wr.setCell ⟨w.heap.size+1,b,none⟩ (.bool true))∧w.heap.size+2≤wr.heap.size):=⟨HR.o.1.more (by rw [HI.o.2];exact htl) hle,(hr.mark b true).congr fun r _=>mk_snoc o b r,by have:=hr.ob.lt;omega⟩;have n0:((wr.setCell ⟨w.heap.size+1,b,none⟩ (.bool true)).alloc (.cells #[Y X b] 3)).cell? ⟨wr.heap.size,0,none⟩=some (Y X b):=by
       have:=cell_newP (wr.setCell ⟨w.heap.size+1,b,none⟩ (.bool true)) (Y X b) 3;rwa [size_set] at this
      have HM:Hid (t+1≤maxLen∧(t+1)*8≤140737488355328):=by constructor<;>(try unfold maxLen)<;>omega
      have hsz:=H7.o.2.2;clear hr hbest hle hbn
      go_wp2_with (at_builtin;refine wpList_append_lies _ rfl _ _ 50 rfl (w.heap.size+2) 3 i3 (Y X 0) 1 8 Tryz.underlying50 hi3 hz0 hz1 hz2 rfl (by decide) (J oa t oc) t ((ofN o).map (Value.int .i64)) rfl (OwnP.row ((ofN_len o).trans HR.o.2.2) (H7.o.2.1.to.alloc (.cells #[Y X b] 3))) _ 1 1 [Y X b] rfl rfl (news_one n0) (by simp [Value.oneCell']) (by decide) HM.o.1 HM.o.2 (by first|omega|(simp;omega)) ((wr.setCell ⟨w.heap.size+1,b,none⟩ (.bool true)).heap.size+1) (by simp) ?_;intro g8 c8 w8 hown8 hgrow8 hat8 hlt8;have HA:Hid (NR w (J ga nds.length gc) out nds.length (mkd (o++[b])) (J (some ⟨g8,0,none⟩) (t+1) c8) (o++[b]) w8∧OwnP w8 (w.heap.size+2) (J none 0 0) (ofN [])∧∀ k,(Value.slice none 0 0).ownBlock=some k→(Value.slice (some ⟨g8,0,none⟩) (t+1) c8).ownBlock≠some k):=NR.app2 HR.o.2.2.symm H7.o.2.1 (own_nil _ _) (fun k hk=>by cases hk) hown8 hgrow8 (by simpa using hat8);clear hown8 hgrow8 hat8 hlt8)
      go_roundw
      case rel=>exact ⟨t+1,o++[b],by omega,by go_num,H7.o.1,HA.o.1⟩
      case measure=>simp [intOf];omega
    |succ p=>
     obtain rfl:z=(p:Int):=by omega
     have hpn:p<nds.length:=by omega
     have d0:=hr.ob.cell p (bc_get _ hpn);have b0:=hr.gb.cell 0 rfl;have H2:Hid (NR w (J ga nds.length gc) out nds.length (mkd o) (J oa t oc) o wr∧okv ins o p 0=!mkd o p∧BestAt ins o (p+1) v):=⟨hr,okv_zero ins o p,hbest⟩;have hp0:(0:Int)≤(p:Int):=by omega
     clear hr hbest hz;go_wp2_with fail;go_loopw [8,9] (fun okb kv wr=>∃ k:Nat,k≤nds.length∧kv=Y X k∧okb=.bool (okv ins o p k)∧NR w (J ga nds.length gc) out nds.length (mkd o) (J oa t oc) o wr) (fun _ kv _=>nds.length-(intOf kv).toNat)
     case atStart=>exact ⟨0,Nat.zero_le _,rfl,by rw [H2.o.2.1],H2.o.1⟩
     case round=>
      obtain ⟨k,hk,rfl,rfl,hr⟩:=hrel;clear d0 b0;have b0:=hr.gb.cell 0 rfl;have b1:=hr.gb.cell 1 rfl;by_cases hkn:k<nds.length
      ·have HOK:Hid (okv ins o p (k+1)=(okv ins o p k&&(mkd o k||!decide ((k:Int)∈(nds.getD p Nd.none).ins)))):=by
        rw [okv_succ,HI.o.1,insOf_get];rfl
       have d1:=hr.ob.cell k (bc_get _ hkn);have HR2:Hid (NR w (J ga nds.length gc) out nds.length (mkd o) (J oa t oc) o wr):=hr;clear hr;obtain ⟨q,hq⟩:∃ q,q=okv ins o p k:=⟨_,rfl⟩;obtain ⟨m,hm'⟩:∃ m,m=mkd o k:=⟨_,rfl⟩;rw [←hq,←hm'] at HOK;rw [←hm'] at d1;rw [←hq];clear hq hm'
       cases q with
       |false=>
        have HF:Hid (okv ins o p (k+1)=false):=HOK.o;clear HOK;go_wp2_with fail;go_roundw
        case rel=>exact ⟨k+1,by omega,by go_num,by rw [HF.o],HR2.o⟩
        case measure=>simp [intOf];omega
       |true=>
        cases m with
        |true=>
         have HF:Hid (okv ins o p (k+1)=true):=HOK.o;clear HOK;go_wp2_with fail;go_roundw
         case rel=>exact ⟨k+1,by omega,by go_num,by rw [HF.o],HR2.o⟩
         case measure=>simp [intOf];omega
        |false=>
         go_wp2_with fail;refine (has_c B _ nds out k p wr hpn (by omega) (HG.o.2 p hpn) (HG.o.1.below HR2.o.below hB)).mono ?_;rintro e w5 ⟨rfl,hb5⟩;have HF:Hid (okv ins o p (k+1)=!decide ((k:Int)∈(nds.getD p Nd.none).ins)):=HOK.o;have HR3:=Lib.hid (HR2.o.call hb5);clear HOK hb5;obtain ⟨u,hu⟩:∃ u,u=decide ((k:Int)∈(nds.getD p Nd.none).ins):=⟨_,rfl⟩;rw [←hu] at HF;rw [←hu];clear hu;go_wp2_with fail;go_roundw
         case rel=>exact ⟨k+1,by omega,by go_num,by rw [HF.o],HR3.o⟩
         case measure=>simp [intOf];omega
      ·have ek:k=nds.length:=by omega
       subst ek;have HK:Hid (okv ins o p nds.length=rdy ins o p):=by rw [←HI.o.2];exact okv_rdy ins o p
       obtain ⟨q,hq⟩:∃ q,q=okv ins o p nds.length:=⟨_,rfl⟩;have HB:Hid (BestAt ins o p (if q then (p:Int) else v)):=by
        rw [HK.o] at hq
        cases q with
        |true=>exact H2.o.2.2.yes (by rw [HI.o.2];exact hpn) hq.symm
        |false=>exact H2.o.2.2.no hq.symm
       rw [←hq];clear hq
       cases q with
       |true=>
        have HB':Hid (BestAt ins o p p):=HB.o;clear HB;go_wp2_with fail;go_roundw
        case rel=>exact ⟨p,p,_,by omega,rfl,rfl,rfl,HB'.o,hr⟩
        case measure=>simp [intOf]
       |false=>
        have HB':Hid (BestAt ins o p v):=HB.o;clear HB;go_wp2_with fail;go_roundw
        case rel=>exact ⟨p,v,_,by omega,rfl,rfl,rfl,HB'.o,hr⟩
        case measure=>simp [intOf]
  ·have et:t=nds.length:=by omega
   subst et;have HE:Hid (InPost w (ord ins) (.returned (J oa nds.length oc)) wr):=by
    have e:=HR.o.1;rw [←HI.o.2] at e;rw [e.end_];refine ⟨oa,oc,by rw [HR.o.2.2],?_,HR.o.2.1.below⟩;rw [HR.o.2.2];exact OwnP.mono HR.o.2.1.to (by omega)
   go_wp2_with fail;go_ret;exact HE.o
theorem lies3 {W:World} {b:Nat} {cs:List Value} (h:Box W b cs) (o:Nat) {x y z:Value} (h0:cs[o]?=some x) (h1:cs[o+1]?=some y) (h2:cs[o+2]?=some z):LiesAt W b o [x,y,z]:=by
 intro j u hu
 match j,hu with
 |0,hu=>simp at hu;subst hu;exact h.cell _ h0
 |1,hu=>simp at hu;subst hu;exact h.cell _ h1
 |2,hu=>simp at hu;subst hu;exact h.cell _ h2
 |j+3,hu=>simp at hu
def fewB (nds:List Nd) (most:Nat):Bool:=decide (nds.length≤most)&&nds.all fun x=>decide (x.ins.length≤20)&&decide (x.p.length≤40)
theorem fewB_iff (nds:List Nd) (most:Nat):fewB nds most=true↔nds.length≤most∧∀ i,i<nds.length→(nds.getD i Nd.none).ins.length≤20∧(nds.getD i Nd.none).p.length≤40:=by
 unfold fewB;simp only [Bool.and_eq_true,decide_eq_true_eq,List.all_eq_true];constructor
 ·rintro ⟨h1,h2⟩;refine ⟨h1,fun i hi=>?_⟩;have:=h2 nds[i] (List.getElem_mem hi)
  simpa [hi] using this
 ·rintro ⟨h1,h2⟩;refine ⟨h1,fun x hx=>?_⟩;obtain ⟨i,hi,rfl⟩:=List.mem_iff_getElem.1 hx
  simpa [hi] using h2 i hi
theorem rfew_c (B:Nat) (nv:Value) (nds:List Nd) (out:Int) (most:Nat) (w:World) (hmost:most≤1000) (hg:Gr B w nv nds):
  Calls Tryz.prog 39 #[.agg #[nv,Y X out],Y X most] w (PPost w (.bool (fewB nds most))):=by
 have hlen:=hg.len_le;have HG:Hid (Gr B w nv nds):=hg;obtain ⟨ga,gc,rfl⟩:=hg.isSl;clear hg;by_cases hm:nds.length≤most
 ·go_enter Tryz.func39,Tryz.ntmps39;have hm':¬((nds.length:Int)>(most:Int)):=by omega
  go_wp2_with fail
  go_loop [5] (fun jv=>∃ j:Nat,j≤nds.length∧jv=Y X j∧Hid (∀ q,q<j→(nds.getD q Nd.none).ins.length≤20∧(nds.getD q Nd.none).p.length≤40)) (fun jv=>nds.length-(intOf jv).toNat)
  case atStart=>exact ⟨0,by omega,rfl,fun j hj=>by omega⟩
  case round=>
   obtain ⟨j,hj,rfl,hall⟩:=hrel;by_cases hjl:j<nds.length
   ·obtain ⟨b,o,cap,ia,ic,pa,pc,hv,hbB,hcap,hcm,k0,k1,k2,s1,s2⟩:=HG.o.node hjl;simp only [K] at hv;obtain ⟨rfl,_,rfl⟩:=hv;obtain ⟨p,hp⟩:∃ p,p=(nds.getD j Nd.none).ins.length:=⟨_,rfl⟩;obtain ⟨q,hq⟩:∃ q,q=(nds.getD j Nd.none).p.length:=⟨_,rfl⟩;rw [←hp] at k1;rw [←hq] at k2;have HPQ:Hid (p=(nds.getD j Nd.none).ins.length∧q=(nds.getD j Nd.none).p.length):=⟨hp,hq⟩;have hpl:p≤9223372036854775807:=by rw [hp];exact s1.len_le
    have hql:q≤9223372036854775807:=by rw [hq];exact s2.len_le
    have d1:=cell_alloc_lt k1 (.cells #[J (some ⟨b,o,none⟩) nds.length gc,Y X out] 33);have d2:=cell_alloc_lt k2 (.cells #[J (some ⟨b,o,none⟩) nds.length gc,Y X out] 33);have hj0:(0:Int)≤(j:Int):=by omega
    have hj1:(j:Int)<(nds.length:Int):=by omega
    unfold maxLen at hcm;clear k0 k1 k2 s1 s2 hp hq;by_cases h20:p≤20
    ·have h20':¬((p:Int)>20):=by omega
     by_cases h40:q≤40
     ·have h40':¬((q:Int)>40):=by omega
      have H5:Hid (∀ q,q<j+1→(nds.getD q Nd.none).ins.length≤20∧(nds.getD q Nd.none).p.length≤40):=fun r hr=>by
       by_cases e:r=j
       ·subst e;exact ⟨by rw [←HPQ.o.1];exact h20,by rw [←HPQ.o.2];exact h40⟩
       ·exact hall.out r (by omega)
      go_wp2_with fail
      go_round
      case rel=>exact ⟨j+1,by omega,by go_num,H5⟩
      case measure=>simp [intOf];omega
     ·have h40':(q:Int)>40:=by omega
      have HE:Hid (fewB nds most=false):=by
       cases e:fewB nds most with
       |false=>rfl
       |true=>have:=((fewB_iff _ _).1 e).2 j hjl;rw [←HPQ.o.2] at this;omega
      go_wp2_with fail;go_ret;exact ⟨ret_b HE.o.symm,below_alloc _ _⟩
    ·have h20':(p:Int)>20:=by omega
     have HE:Hid (fewB nds most=false):=by
      cases e:fewB nds most with
      |false=>rfl
      |true=>have:=((fewB_iff _ _).1 e).2 j hjl;rw [←HPQ.o.1] at this;omega
     go_wp2_with fail;go_ret;exact ⟨ret_b HE.o.symm,below_alloc _ _⟩
   ·have ej:j=nds.length:=by omega
    subst ej;have HE:Hid (fewB nds most=true):=(fewB_iff _ _).2 ⟨hm,hall.out⟩;go_wp2_with fail;go_ret;exact ⟨ret_b HE.o.symm,below_alloc _ _⟩
 ·have HE:Hid (fewB nds most=false):=by
   cases e:fewB nds most with
   |false=>rfl
   |true=>have:=((fewB_iff _ _).1 e).1;omega
  have hm':(nds.length:Int)>(most:Int):=by omega
  go_enter Tryz.func39,Tryz.ntmps39;go_wp2_with fail;go_ret;exact ⟨ret_b HE.o.symm,below_alloc _ _⟩
end Go.Proofs.YtgodhpampaleeaaGreatDoor
namespace Go.Proofs.YtgodhpampaleeaaGreatDoor
open Go.RowKit Go.Bx Go.Od Go.Hp Go.ChangeShapes Go.WideShapes Go.ChangeAt
attribute [local go_sem ↓] Go.wp_at_zero Go.wp_at_succ
section
variable {H:Type} {enc:TypeId×Value→H} {W:World} {base:Nat}
theorem cells_int:Tryz.prog.cellsOf 3=1:=by kernel_rfl
theorem cells_ints:Tryz.prog.cellsOf 50=1:=by kernel_rfl
theorem cells_nodes:Tryz.prog.cellsOf 31=1:=by kernel_rfl
theorem cells_node:Tryz.prog.cellsOf 52=3:=by kernel_rfl
theorem cells_graph:Tryz.prog.cellsOf 33=2:=by kernel_rfl
theorem ri:Reads enc Tryz.prog W 3 RInt:=reads_int Tryz.underlying3
theorem ris:Reads enc Tryz.prog W 50 (RSl RInt 1):=reads_slice Tryz.underlying50 cells_int (by decide) ri
theorem three_of {cs:List Value} (hl:cs.length=3):∃ a b c,cs=[a,b,c]:=by
 match cs,hl with
 |[a,b,c],_=>exact ⟨a,b,c,rfl⟩
theorem reads_node:Reads enc Tryz.prog W 52 RNode:=fun fuel cs x h=>by
 obtain ⟨op,h0⟩:=reads_field Tryz.underlying52 h 0 (ft:=3) (off:=0) (n:=1) rfl cells_int (E:=RInt) ri;obtain ⟨xs,h1⟩:=reads_field Tryz.underlying52 h 1 (ft:=50) (off:=1) (n:=1) rfl cells_ints (E:=RSl RInt 1) ris;obtain ⟨ps,h2⟩:=reads_field Tryz.underlying52 h 2 (ft:=50) (off:=2) (n:=1) rfl cells_ints (E:=RSl RInt 1) ris;have hl:=struct_len Tryz.underlying52 h;rw [cells_node] at hl;obtain ⟨a,b,c,rfl⟩:=three_of hl;obtain ⟨e0,i0⟩:=h0;obtain ⟨v1,e1,i1⟩:=h1;obtain ⟨v2,e2,i2⟩:=h2;simp at e0 e1 e2;subst e0 e1 e2;exact ⟨⟨op,xs,ps⟩,_,_,rfl,i0,i1,i2⟩
end
theorem few_of {nds:List Nd} {most:Nat} (h:fewB nds most=true) (hm:most≤100):nds.length≤100∧∀ i,i<nds.length→(nds.getD i Nd.none).ins.length≤1000:=by
 obtain ⟨h1,h2⟩:=(fewB_iff _ _).1 h;exact ⟨by omega,fun i hi=>by have:=(h2 i hi).1;omega⟩
end Go.Proofs.YtgodhpampaleeaaGreatDoor
