/- Texts joined: Uj Uk Ul Um. -/
import Derived.Test.YtgodhpampaleeaaGreatDoorM18
import Derived.Great.BuildSlice
import Derived.Great.FillDense
import Derived.Test.YtgodhpampaleeaaGreatDoorM02
import Derived.Test.YtgodhpampaleeaaGreatDoorM07
import Derived.Test.YtgodhpampaleeaaGreatDoorM06
import Derived.Test.YtgodhpampaleeaaGreatDoorM08
open Go.Value renaming int→Y,slice→O
open Go.IntKind renaming i64→X,u8→J
open List renaming setIfInBounds_toArray→U,set_cons_succ→E,set_cons_zero→I,drop_succ_cons→G,getElem?_eq_getElem→d
open Nat renaming le_refl→M,le_trans→H,lt_of_lt_of_le→A
set_option maxRecDepth 8000
set_option maxHeartbeats 51200000
set_option linter.unusedVariables false
namespace Go.Proofs.YtgodhpampaleeaaGreatDoor
open Go.RowKit Go.Bx Go.Od Go.Hp Go.Great
attribute [local go_sem ↓] Go.wp_at_zero Go.wp_at_succ
theorem gives_one2 {P:Program} {o:Oper} {ev:Operand→Value} {w:World} (t e:TypeId) (x:Operand) (ho:o.op=.buildSlice t 1 #[(0,x)]) (cs:List Value) (hx:ev x=.agg cs.toArray) (ie:TypeInfo) (z:Value) (sz:Nat)
  (hu:P.underlying t=some (.slice e)) (hie:P.info? e=some ie) (hz:ie.zero=some z) (hsz:ie.size=sz) (h0:0<sz) (h1:sz≤1000) (hl:cs.length=sz):gives P o ev w (fun v w'=>v=O (some ⟨w.heap.size,0,none⟩) 1 1∧w'=w.alloc (.cells cs.toArray e)):=by
 have hf:=fill_whole (s:=sz) h0 [.agg cs.toArray] ((Array.range (1*sz)).map (z.cells[·%z.cells.size]!)) (by intro v hv;rw [List.mem_singleton.1 hv];simpa [Value.cells] using hl) (by simp);have hr:=run_buildSlice (P:=P) w t e 1 #[(0,.agg cs.toArray)] cs.toArray ie z hu hie hz (by omega) (by omega) (by
  rw [hsz]
  simpa [Value.cells] using hf)
 unfold gives execOp;simp [ho,hx,hr,Result.andThen]
theorem info_parts5 {t:TypeId} {z:Value} {n b:Nat} (h:(Tryz.prog.info? t).map (fun i=>(i.zero,i.size,i.bytes))=some (some z,n,b)):∃ i,Tryz.prog.info? t=some i∧i.zero=some z∧i.size=n∧i.bytes=b:=by
 cases e:Tryz.prog.info? t with
 |none=>rw [e] at h;cases h
 |some i=>
  rw [e] at h;simp only [Option.map_some,Option.some.injEq,Prod.mk.injEq] at h;exact ⟨i,rfl,h.1,h.2.1,h.2.2⟩
def ImgP (g:Fg) (S:Rc) (p:Int) (r:Rc) (o:Bf):Prop:=o.box=boxR r∧Sup o (rin S (knR g S) p)
def ImgC (f:Nat):Prop:=∀ (D:Nat) (nv:Value) (g:Fg) (p:Int) (b:Bf) (a:Option Addr) (n c:Nat) (S r:Rc) (w:World),GoodR g→Gr D w nv g.nds→D≤w.heap.size → -1≤p→p<g.nds.length→BfV w b (O a n c)→Sup b S→LtP g.nds f p r→
 Calls Tryz.prog 22 #[.agg #[nv,Y X g.out],Y X p,bfv b.box (O a n c),rv r] w (BPost w (ImgP g S p r))
def InL (g:Fg) (S:Rc) (ins:List Int) (l:List (Bf×Value)):Prop:=∀ j p,l[j]?=some p→Sup p.1 (rin S (knR g S) (ins.getD j 0))
theorem InL.add {g:Fg} {S:Rc} {ins:List Int} {l:List (Bf×Value)} (h:InL g S ins l) {b:Bf} {v:Value} {x:Int} (hx:x=ins.getD l.length 0) (hb:Sup b (rin S (knR g S) x)):InL g S ins (l++[(b,v)]):=by
 intro j p hj;by_cases hlt:j<l.length
 ·rw [List.getElem?_append_left hlt] at hj;exact h j p hj
 ·rw [List.getElem?_append_right (by omega)] at hj;have h0:j-l.length=0:=by
   have:=(List.getElem?_eq_some_iff.1 hj).1;simp at this;omega
  rw [h0] at hj;cases hj
  have e:j=l.length:=by omega
  rw [e,←hx];exact hb
theorem InL.supl {g:Fg} {S:Rc} {ins:List Int} {l:List (Bf×Value)} (h:InL g S ins l) (hl:l.length=ins.length):SupL (l.map (·.1)) (ins.map (rin S (knR g S))):=by
 refine ⟨by simpa using hl,fun i=>?_⟩;by_cases hi:i<l.length
 ·have h1:=h i l[i] (d hi);rw [List.getD_eq_getElem?_getD,List.getElem?_map,d hi];rw [List.getD_eq_getElem?_getD,List.getElem?_map,d (by omega)];rw [List.getD_eq_getElem?_getD,d (by omega)] at h1;exact h1
 ·intro x y hne;rw [List.getD_eq_getElem?_getD,List.getElem?_eq_none (by simp;omega)] at hne;exact absurd (atB_out (b:=bf0) (has_zero x y)) hne
theorem img_step (f:Nat) (IH:ImgC f):ImgC (f+1):=by
 intro D nv g p b sa sn sc S want w hg hgr hD hp0 hp1 hsv hsS hlt;obtain ⟨nds,out⟩:=g;obtain ⟨tx0,ty0,tx1,ty1⟩:=want;obtain ⟨⟨sx0,sy0,sx1,sy1⟩,sp⟩:=b;obtain ⟨ga,gc,rfl⟩:=hgr.isSl;obtain ⟨n,hn⟩:∃ n,n=nds.length:=⟨_,rfl⟩;have HN:=Lib.hid hn;have HG:Hid (∀ W,Below w.heap.size w W→Gr D W (O ga n gc) nds∧D≤W.heap.size):=fun W h=>⟨by rw [hn];exact hgr.below h hD,H hD h.size⟩;have HGR:Hid (GoodR ⟨nds,out⟩∧ImgC f∧LtP nds (f+1) p ⟨tx0,ty0,tx1,ty1⟩):=⟨hg,IH,hlt⟩;have HSV:Hid (∀ W,Below w.heap.size w W→BfV W ⟨⟨sx0,sy0,sx1,sy1⟩,sp⟩ (O sa sn sc)):=fun W h=>hsv.below h;have HSS:Hid (Sup ⟨⟨sx0,sy0,sx1,sy1⟩,sp⟩ S):=hsS;have hn100:n≤100:=by rw [hn];exact hg.gn.few
 obtain ⟨Q,hQ⟩:∃ Q:Bf→Prop,Q=ImgP ⟨nds,out⟩ S p ⟨tx0,ty0,tx1,ty1⟩:=⟨_,rfl⟩;have HQ:=Lib.hid hQ;rw [←hQ];dsimp only at hp1 ⊢;rw [←hn] at hp1 ⊢;have H0:Hid (Bag w ((((w.alloc (.cells #[O ga n gc,Y X out] 33)).alloc (.cells #[Y X sx0,Y X sy0,Y X sx1,Y X sy1,O sa sn sc] 43)).alloc (.cells #[Y X tx0,Y X ty0,Y X tx1,Y X ty1] 25)).alloc (.cells #[Y X 0,Y X 0,Y X 0,Y X 0,O none 0 0] 43)) [(w.heap.size,[O ga n gc,Y X out]),(w.heap.size+1,(qS sx0 sy0 sx1 sy1 (O sa sn sc))),(w.heap.size+1+1,(qI tx0 ty0 tx1 ty1)),(w.heap.size+1+1+1,zS)]):=bag4 w [O ga n gc,Y X out] (qS sx0 sy0 sx1 sy1 (O sa sn sc)) (qI tx0 ty0 tx1 ty1) zS _ _ _ _;clear hn hgr hg hlt IH hsv hsS hQ hD;go_enter Tryz.func22,Tryz.ntmps22;by_cases hneg:p<0
 ·have d0:decide (p<0)=true:=decide_eq_true hneg;obtain rfl:p = -1:=by omega
  have HWN:Hid (∀ W,Below w.heap.size w W→Calls Tryz.prog 51 #[bfv ⟨sx0,sy0,sx1,sy1⟩ (O sa sn sc),rv ⟨tx0,ty0,tx1,ty1⟩] W (BPost W (PutB ⟨tx0,ty0,tx1,ty1⟩ ⟨⟨sx0,sy0,sx1,sy1⟩,sp⟩ ⟨tx0,ty0,tx1,ty1⟩ 0 0))):=fun W h=>window05_c ⟨⟨sx0,sy0,sx1,sy1⟩,sp⟩ ⟨tx0,ty0,tx1,ty1⟩ sa sn sc W (HSV.o W h) (hf_pl HGR.o.2.2.1) (by have:=HGR.o.2.2.2.1;omega);go_wp2_with fail;refine (HWN.o _ H0.o.below).mono ?_;rintro e' W1 ⟨⟨⟨vx0,vy0,vx1,vy1⟩,vp⟩,va,vn,vc,rfl,hb1,hbv,hz⟩;have H1:=Lib.hid (H0.o.call hb1);have HZ:Hid (BfV W1 ⟨⟨vx0,vy0,vx1,vy1⟩,vp⟩ (O va vn vc)∧Q ⟨⟨vx0,vy0,vx1,vy1⟩,vp⟩):=⟨hbv,by
   rw [HQ.o];refine ⟨hz.1,fun x y hne=>?_⟩;have h1:=hz.2 x y;rw [h1] at hne
   split at hne
   ·rw [Int.sub_zero,Int.sub_zero] at hne;exact HSS.o x y hne
   ·exact absurd rfl hne⟩
  clear hb1 hbv hz H0 HWN;obtain ⟨r0,r1,r2,r3,r4⟩:=(H1.o.box 3 rfl).c5;obtain ⟨f0,f1,f2,f3,f4⟩:=(H1.o.box 3 rfl).f5;go_wp2_with fail;have H2:=bag_set5 H1.o 3 rfl (Y X vx0) (Y X vy0) (Y X vx1) (Y X vy1) (O va vn vc);exact ret_bf (r:=⟨vx0,vy0,vx1,vy1⟩) (s:=O va vn vc) rfl rfl (H2.box 3 rfl) rfl ⟨⟨⟨vx0,vy0,vx1,vy1⟩,vp⟩,va,vn,vc,rfl,H2.below,HZ.o.1.set5 (H1.o.box 3 rfl) _ _ _ _ _,HZ.o.2⟩
 ·have d0:decide (p<0)=false:=decide_eq_false hneg;obtain ⟨k,rfl⟩:∃ k:Nat,p=(k:Int):=⟨p.toNat,by omega⟩;have hk:k<nds.length:=by rw [←HN.o];omega
  go_upto_region 3 with fail;generalize ((((w.alloc (.cells #[O ga n gc,Y X out] 33)).alloc (.cells #[Y X sx0,Y X sy0,Y X sx1,Y X sy1,O sa sn sc] 43)).alloc (.cells #[Y X tx0,Y X ty0,Y X tx1,Y X ty1] 25)).alloc (.cells #[Y X 0,Y X 0,Y X 0,Y X 0,O none 0 0] 43))=W2 at *;have H2:Hid (Bag w W2 [(w.heap.size,[O ga n gc,Y X out]),(w.heap.size+1,(qS sx0 sy0 sx1 sy1 (O sa sn sc))),(w.heap.size+1+1,(qI tx0 ty0 tx1 ty1)),(w.heap.size+1+1+1,zS)]):=H0.o;clear H0;obtain ⟨gb,go,gcap,ia,ic,pa,pc,hv,hbD,hcap,hcm,k0,k1,k2,s1,s2⟩:=(HG.o W2 H2.o.below).1.node (i:=k) hk;simp only [Value.slice.injEq] at hv;obtain ⟨rfl,hnn,rfl⟩:=hv;clear hnn;obtain ⟨op,hop⟩:∃ z,z=(nds.getD k Nd.none).op:=⟨_,rfl⟩;obtain ⟨ins,hins⟩:∃ z,z=(nds.getD k Nd.none).ins:=⟨_,rfl⟩;obtain ⟨P,hP⟩:∃ z,z=(nds.getD k Nd.none).p:=⟨_,rfl⟩;have HND:Hid (nds.getD k Nd.none=⟨op,ins,P⟩):=by
   have:nds.getD k Nd.none=⟨op,ins,P⟩:=by rw [hop,hins,hP]
   exact this
  rw [←hop] at k0;rw [←hins] at k1 s1;rw [←hP] at k2 s2;have HRA:Hid (RaOk ⟨op,ins,P⟩):=by
   have h1:=HGR.o.1.ra k hk;dsimp only at h1;rw [HND.o] at h1;exact h1
  have HLT:Hid (HfB ⟨tx0,ty0,tx1,ty1⟩∧DoW ⟨op,ins,P⟩ ⟨tx0,ty0,tx1,ty1⟩∧∀ x∈ins,LtP nds f x (rofR ⟨op,ins,P⟩ ⟨tx0,ty0,tx1,ty1⟩)):=by
   have h1:=HGR.o.2.2;have h2:=h1.2.2 (by omega);rw [Int.toNat_natCast,HND.o] at h2;exact ⟨h1.1,⟨h1.1,h1.2.1,h2.1,h2.2.1⟩,h2.2.2⟩
  obtain ⟨m,hm⟩:∃ m,m=ins.length:=⟨_,rfl⟩;obtain ⟨pl,hpl⟩:∃ m,m=P.length:=⟨_,rfl⟩;have HM:Hid (m=ins.length∧pl=P.length):=⟨hm,hpl⟩;have hm8:m≤8:=by rw [hm];exact HRA.o.few
  rw [←hm] at k1;rw [←hpl] at k2;have HS:Hid (∀ W,Below W2.heap.size W2 W→SlOf RInt 1 (·<W.heap.size) W (O ia m ic) ins∧SlOf RInt 1 (·<W.heap.size) W (O pa pl pc) P):=fun W h=>by
   have hDw:∀ b,b<D→b<W.heap.size:=fun b hb=>A hb (H (HG.o W2 H2.o.below).2 h.size);have hsm:Same (·<D) W2 W:=Same.of_below h fun b hb=>A hb (HG.o W2 H2.o.below).2;rw [hm,hpl];exact ⟨(s1.same RInt.ok hsm).mono RInt.ok hDw,(s2.same RInt.ok hsm).mono RInt.ok hDw⟩
  obtain ⟨Z,hZ⟩:∃ Z,Z=rofR ⟨op,ins,P⟩ ⟨tx0,ty0,tx1,ty1⟩:=⟨_,rfl⟩;have HZ:Hid (Z=rofR ⟨op,ins,P⟩ ⟨tx0,ty0,tx1,ty1⟩∧RcP Z):=⟨hZ,by rw [hZ];exact rofR_pl HRA.o (hf_pl HLT.o.1)⟩;have HOF:Hid (∀ W,Below W2.heap.size W2 W→Calls Tryz.prog 52 #[.agg #[Y X op,O ia m ic,O pa pl pc],rv ⟨tx0,ty0,tx1,ty1⟩] W (Of3Post W m Z)):=fun W h=>by
   have hr:=of14r_c op (O ia m ic) (O pa pl pc) ins P ⟨tx0,ty0,tx1,ty1⟩ W HRA.o (HS.o W h).1 (HS.o W h).2 (hf_pl HLT.o.1);rw [hZ,HM.o.1];rw [HM.o.1] at hr;exact hr
  have hk0:(0:Int)≤(k:Int):=by omega
  have hgc:n≤gc:=by rw [HN.o];exact hcap
  unfold maxLen at hcm;have g0:=H2.o.cell 0 rfl 0 rfl;have H3:Hid (Bag w (W2.alloc (.cells #[Y X op,O ia m ic,O pa pl pc] 52)) [(w.heap.size,[O (some ⟨gb,go,none⟩) n gc,Y X out]),(w.heap.size+1,(qS sx0 sy0 sx1 sy1 (O sa sn sc))),(w.heap.size+1+1,(qI tx0 ty0 tx1 ty1)),(w.heap.size+1+1+1,zS),(W2.heap.size,[Y X op,O ia m ic,O pa pl pc])]):=H2.o.alloc [Y X op,O ia m ic,O pa pl pc] _;have HB3:Hid (Below W2.heap.size W2 (W2.alloc (.cells #[Y X op,O ia m ic,O pa pl pc] 52))):=below_alloc W2 _;clear hop hins hP hm hpl hZ;go_upto_region 4 with fail;generalize (W2.alloc (.cells #[Y X op,O ia m ic,O pa pl pc] 52))=W3 at *;clear k0 k1 k2 g0 s1 s2 H2;obtain ⟨n0,n1,n2⟩:=(H3.o.box 4 rfl).c3;obtain ⟨e0,e1,e2,e3⟩:=(H3.o.box 2 rfl).c4;go_wp2_with fail
  (with_reducible refine (HOF.o _ HB3.o).mono ?_);rintro e' W4 ⟨la,lc,rfl,hb4,ho4⟩
  have H4:=Lib.hid (H3.o.call hb4);have HO4:=Lib.hid ho4;have HB4:Hid (Below W2.heap.size W2 W4):=HB3.o.trans (hb4.mono HB3.o.size);obtain ⟨B,hB⟩:∃ B,B=W4.heap.size:=⟨_,rfl⟩;have HB:Hid (w.heap.size≤B∧(∀ p∈([(w.heap.size,[O (some ⟨gb,go,none⟩) n gc,Y X out]),(w.heap.size+1,(qS sx0 sy0 sx1 sy1 (O sa sn sc))),(w.heap.size+1+1,(qI tx0 ty0 tx1 ty1)),(w.heap.size+1+1+1,zS),(W2.heap.size,[Y X op,O ia m ic,O pa pl pc])]:List (Nat×List Value)),p.1<B)∧(∀ q,(Value.slice la m lc).ownBlock=some q→q<B)∧W2.heap.size≤B):=by rw [hB];exact ⟨H4.o.below.size,H4.o.lt,fun q hq=>(World.ownsRow.lt HO4.o q hq).2,HB4.o.size⟩
  have HR0:Hid (RowB W4 B (O none 0 0) []∧B≤W4.heap.size):=⟨RowB.nil _ _,by rw [hB];exact M _⟩;clear hb4 ho4 HOF H3 n0 n1 n2 e0 e1 e2 e3 hB;go_wp2_with fail;go_loopw [11,12] (fun lv iv wr=>∃ (i:Nat) (l:List (Bf×Value)) (a:Option Addr) (c:Nat),i≤m∧iv=Y X i∧lv=O a i c∧l.length=i∧Bag w wr [(w.heap.size,[O (some ⟨gb,go,none⟩) n gc,Y X out]),(w.heap.size+1,(qS sx0 sy0 sx1 sy1 (O sa sn sc))),(w.heap.size+1+1,(qI tx0 ty0 tx1 ty1)),(w.heap.size+1+1+1,zS),(W2.heap.size,[Y X op,O ia m ic,O pa pl pc])]∧wr.ownsRow W3.heap.size 25 4 (O la m lc) m (rcs (List.replicate m Z))∧Below W2.heap.size W2 wr∧RowB wr B (O a i c) l∧B≤wr.heap.size∧InL ⟨nds,out⟩ S ins l) (fun _ iv _=>m-(intOf iv).toNat)
  case atStart=>exact ⟨0,[],none,0,by omega,rfl,rfl,rfl,H4.o,HO4.o,HB4.o,HR0.o.1,HR0.o.2,fun j p hj=>by simp at hj⟩
  case round=>
   clear HB4 H4 HO4 HR0;obtain ⟨i,l,ra,rc,hi,rfl,rfl,hll,hb,ho,hbw,hrow,hBw,hin⟩:=hrel;have H4:=Lib.hid hb;have HO:=Lib.hid ho;have HBW:Hid (Below W2.heap.size W2 wr∧B≤wr.heap.size):=⟨hbw,hBw⟩;have HR:Hid (RowB wr B (O ra i rc) l∧l.length=i∧InL ⟨nds,out⟩ S ins l):=⟨hrow,hll,hin⟩;clear hll hb ho hbw hBw hrow hin;by_cases hil:i<m
   ·have x0:decide ((i:Int)<(m:Int))=true:=decide_eq_true (by omega);obtain ⟨ja,jc,hj0,hicap,hicm,_,hjc⟩:=((HS.o wr HBW.o.1).1).ints;simp only [Value.slice.injEq] at hj0;obtain ⟨rfl,hj3,rfl⟩:=hj0;obtain ⟨ib,io,hia,_,hix⟩:=hjc i (by omega);subst hia;have hix:=hix i (by omega);obtain ⟨x,hx⟩:∃ x,x=ins.getD i 0:=⟨_,rfl⟩;rw [←hx] at hix;have him:x∈ins:=by
     have h2:i<ins.length:=by omega
     rw [hx,List.getD_eq_getElem?_getD,d h2];exact List.getElem_mem h2
    have HX:Hid (x=ins.getD i 0∧x∈ins):=⟨hx,him⟩;have hicap':m≤ic:=by omega
    clear hjc hj3 hx him hicap;obtain ⟨lb,lo,lcap,hlv,hlcap,hlcm,hlc⟩:=rcs_at (own_rc (rs:=List.replicate m Z) (by rw [List.length_replicate];exact HO.o) (fun r hr=>by rw [(List.mem_replicate.1 hr).2];exact HZ.o.2)) (i:=i) (r:=Z) (by rw [List.getElem?_replicate,if_pos hil]);simp only [Value.slice.injEq] at hlv;obtain ⟨rfl,hln,rfl⟩:=hlv;clear hln;rw [List.length_replicate] at hlcap;unfold maxLen at hlcm;obtain ⟨T,hT⟩:∃ T:Bf→Prop,T=ImgP ⟨nds,out⟩ S x Z:=⟨_,rfl⟩;have HT:=Lib.hid hT;have HCH:Hid (∀ W,Below wr.heap.size wr W→Calls Tryz.prog 22 #[.agg #[O (some ⟨gb,go,none⟩) n gc,Y X out],Y X x,bfv ⟨sx0,sy0,sx1,sy1⟩ (O sa sn sc),rv Z] W (BPost W T)):=fun W h=>by
     have hbw:=H4.o.below.trans (h.mono H4.o.below.size);have hxi:x∈(nds.getD k Nd.none).ins:=by rw [HND.o];exact HX.o.2
     have hrg:=HGR.o.1.gn.rng k hk x hxi;rw [HT.o];exact HGR.o.2.1 D _ ⟨nds,out⟩ x ⟨⟨sx0,sy0,sx1,sy1⟩,sp⟩ sa sn sc S Z W HGR.o.1 (HG.o W hbw).1 (HG.o W hbw).2 hrg.1 hrg.2 (HSV.o W hbw) HSS.o (by rw [HZ.o.1];exact HLT.o.2.2 x HX.o.2)
    clear hT;obtain ⟨z0,z1,z2,z3⟩:=Z;have c0:wr.cell? ⟨lb,lo+i*4,none⟩=some (Y X z0):=hlc 0 _ rfl;have c1:wr.cell? ⟨lb,lo+i*4+1,none⟩=some (Y X z1):=hlc 1 _ rfl;have c2:wr.cell? ⟨lb,lo+i*4+2,none⟩=some (Y X z2):=hlc 2 _ rfl;have c3:wr.cell? ⟨lb,lo+i*4+3,none⟩=some (Y X z3):=hlc 3 _ rfl;obtain ⟨g0,g1⟩:=(H4.o.box 0 rfl).c2;have n1:=H4.o.cell 4 rfl 1 rfl;obtain ⟨s0,s1,s2,s3,s4⟩:=(H4.o.box 1 rfl).c5;clear hlc;have hi0:(0:Int)≤(i:Int):=by omega
    have hi1:(i:Int)<(m:Int):=by omega
    go_wp2_with fail;refine wp_region_mix2 wr.heap.size [false,false,false,false,false,false,false,false,false,false,false,false,true,true] [12,13] _ rfl (M _) (by kernel_rfl) (by kernel_rfl) ?_;apply Exists.intro;apply And.intro
    ·intro GG hGG hne Rr hR;simp only [skip];have kc0:=fun s:InG wr.heap.size wr GG=>s.at c0;have kc1:=fun s:InG wr.heap.size wr GG=>s.at c1;have kc2:=fun s:InG wr.heap.size wr GG=>s.at c2;have kc3:=fun s:InG wr.heap.size wr GG=>s.at c3;have kg0:=fun s:InG wr.heap.size wr GG=>s.at g0;have kg1:=fun s:InG wr.heap.size wr GG=>s.at g1;have kn1:=fun s:InG wr.heap.size wr GG=>s.at n1;have khix:=fun s:InG wr.heap.size wr GG=>s.at hix;have ks0:=fun s:InG wr.heap.size wr GG=>s.at s0;have ks1:=fun s:InG wr.heap.size wr GG=>s.at s1;have ks2:=fun s:InG wr.heap.size wr GG=>s.at s2;have ks3:=fun s:InG wr.heap.size wr GG=>s.at s3;have ks4:=fun s:InG wr.heap.size wr GG=>s.at s4
     repeat (go_big_quiet_step (fail))
     refine wpQuiet_nil ?_;exact hR
    ·refine wpChain_cons _ rfl rfl (fun (y:Bf×(Option Addr×Nat×Nat))=>bfv y.1.box (O y.2.1 y.2.2.1 y.2.2.2)) (fun y W=>BfV W y.1 (O y.2.1 y.2.2.1 y.2.2.2)∧T y.1) (fun _ _ _ h hb=>⟨h.1.below hb,h.2⟩) ?_ ?_
     ·rintro W ⟨hW,hWs⟩;have hc:=HCH.o W hW;refine gives_enter (f:=22) (args:=#[.agg #[O (some ⟨gb,go,none⟩) n gc,Y X out],Y X x,bfv ⟨sx0,sy0,sx1,sy1⟩ (O sa sn sc),rv ⟨z0,z1,z2,z3⟩]) ?_ ?_
      ·first
       |rfl
       |simp [execOp,resolve,invoke,go_sem]
      ·exact hc.mono fun e w' ⟨b',a',n',c',h1,h2,h3,h4⟩=>⟨_,h1,h2,⟨b',a',n',c'⟩,rfl,h3,h4⟩
     ·rintro ⟨⟨⟨y0,y1,y2,y3⟩,yp⟩,ya,yn,yc⟩;refine wpChain_cons _ rfl rfl (fun (g8:Nat)=>O (some ⟨g8,0,none⟩) 1 1) (fun g8 W=>Box W g8 (bfc ⟨y0,y1,y2,y3⟩ (O ya yn yc))) (fun _ _ _ h hb=>h.call hb) ?_ ?_
      ·rintro W ⟨⟨hW,hWs⟩,hv,ht⟩;obtain ⟨iBf,hiB,hbz0,hbz1,hbz2⟩:=info_parts5 infoBf;refine gives_mono (gives_one2 (P:=Tryz.prog) _ 43 _ rfl (bfc ⟨y0,y1,y2,y3⟩ (O ya yn yc)) rfl iBf _ 5 Tryz.underlying89 hiB hbz0 hbz1 (by decide) (by decide) rfl) ?_;rintro v w' ⟨rfl,rfl⟩;exact ⟨below_alloc W _,W.heap.size,rfl,Box.new W _ _⟩
      ·intro g8;refine wpChain_nil ?_;rintro W ⟨⟨⟨hW,hWs⟩,hv,ht⟩,hg8⟩;simp only [G,List.drop_zero,List.length_cons,List.length_nil];obtain ⟨iBf,hiB,hbz0,hbz1,hbz2⟩:=info_parts5 infoBf;have HV:Hid (BfV W (⟨⟨y0,y1,y2,y3⟩,yp⟩:Bf) (O ya yn yc)∧Sup (⟨⟨y0,y1,y2,y3⟩,yp⟩:Bf) (rin S (knR ⟨nds,out⟩ S) x)):=⟨hv,by
        have h1:=ht;rw [HT.o] at h1;exact h1.2⟩
       have HRW:Hid (RowB W B (O ra i rc) l∧W.ownsRow B 43 5 (O ra i rc) i (bcs l)∧B≤W.heap.size):=⟨HR.o.1.call hW,by have h1:=(HR.o.1.call hW).own;rw [HR.o.2.1] at h1;exact h1,H HBW.o.2 hW.size⟩;have HW:Hid (Bag w W [(w.heap.size,[O (some ⟨gb,go,none⟩) n gc,Y X out]),(w.heap.size+1,(qS sx0 sy0 sx1 sy1 (O sa sn sc))),(w.heap.size+1+1,(qI tx0 ty0 tx1 ty1)),(w.heap.size+1+1+1,zS),(W2.heap.size,[Y X op,O (some ⟨ib,io,none⟩) m ic,O pa pl pc])]∧W.ownsRow W3.heap.size 25 4 (O (some ⟨lb,lo,none⟩) m lc) m (rcs (List.replicate m ⟨z0,z1,z2,z3⟩))∧Below W2.heap.size W2 W):=⟨H4.o.call hW,owns_below HO.o hW (M _),HBW.o.1.trans (hW.mono HBW.o.1.size)⟩;have HG8:Hid (Box W g8 (bfc ⟨y0,y1,y2,y3⟩ (O ya yn yc))):=hg8;have HM1:Hid (i+1≤maxLen∧(i+1)*56≤140737488355328):=by constructor<;>(try unfold maxLen)<;>omega
       clear hv ht hW hg8 HCH;refine wpList_append_kin _ NoU8 rfl _ _ 89 rfl B 43 iBf (.agg #[Y X 0,Y X 0,Y X 0,Y X 0,O none 0 0]) 5 56 Tryz.underlying89 hiB hbz0 hbz1 hbz2 rfl (by decide) (O ra i rc) i (bcs l) rfl HRW.o.2.1 _ 1 1 (bfc ⟨y0,y1,y2,y3⟩ (O ya yn yc)) rfl rfl (news_at' HG8.o) (by simp [Value.oneCell']) (by decide) HM1.o.1 HM1.o.2 HRW.o.2.2 HRW.o.1.kin HRW.o.1.cells (bfc_no _ _ _ _) (by intro u hu q e;subst e;simp [Value.cells] at hu) ?_;intro g9 c9 w9 hown9 hgrow9 hkin9;have HF:Hid (Bag w w9 [(w.heap.size,[O (some ⟨gb,go,none⟩) n gc,Y X out]),(w.heap.size+1,(qS sx0 sy0 sx1 sy1 (O sa sn sc))),(w.heap.size+1+1,(qI tx0 ty0 tx1 ty1)),(w.heap.size+1+1+1,zS),(W2.heap.size,[Y X op,O (some ⟨ib,io,none⟩) m ic,O pa pl pc])]∧w9.ownsRow W3.heap.size 25 4 (O (some ⟨lb,lo,none⟩) m lc) m (rcs (List.replicate m ⟨z0,z1,z2,z3⟩))∧Below W2.heap.size W2 w9∧RowB w9 B (O (some ⟨g9,0,none⟩) (i+1) c9) (l++[((⟨⟨y0,y1,y2,y3⟩,yp⟩:Bf),O ya yn yc)])∧B≤w9.heap.size∧InL ⟨nds,out⟩ S ins (l++[((⟨⟨y0,y1,y2,y3⟩,yp⟩:Bf),O ya yn yc)])∧(l++[((⟨⟨y0,y1,y2,y3⟩,yp⟩:Bf),Value.slice ya yn yc)]).length=i+1):=⟨HW.o.1.grown hgrow9 HRW.o.2.1 HB.o.2.1 HB.o.1,World.ownsRow.kept HW.o.2.1 hgrow9 (.inr fun e=>by have h1:=(HRW.o.2.1.lt lb e.symm).1;have h2:=HB.o.2.2.1 lb rfl;omega),below_grown HW.o.2.2 hgrow9 HRW.o.2.1 HB.o.2.2.2 HW.o.2.2.size,HRW.o.1.add HV.o.1 hgrow9 (by rw [HR.o.2.1];exact hown9) hkin9,H HRW.o.2.2 hgrow9.size,HR.o.2.2.add (by rw [HR.o.2.1];exact HX.o.1) HV.o.2,by rw [List.length_append,HR.o.2.1];rfl⟩;clear hown9 hgrow9 hkin9;go_wp2_with fail;go_roundw
       case rel=>exact ⟨i+1,_,_,_,by omega,by go_num,rfl,HF.o.2.2.2.2.2.2,HF.o.1,HF.o.2.1,HF.o.2.2.1,HF.o.2.2.2.1,HF.o.2.2.2.2.1,HF.o.2.2.2.2.2.1⟩
       case measure=>simp [intOf];omega
   ·obtain rfl:i=m:=by omega
    have x0:decide ((i:Int)<(i:Int))=false:=decide_eq_false (by omega);have HDO:Hid (Calls Tryz.prog 53 #[.agg #[Y X op,O ia i ic,O pa pl pc],O ra i rc,rv ⟨tx0,ty0,tx1,ty1⟩] wr (BPost wr Q)):=by
     have hs:=HS.o wr HBW.o.1;have hll:l.length=ins.length:=by rw [HR.o.2.1,HM.o.1]
     have h1:=do15_c op ins (O ia i ic) (O pa pl pc) (O ra i rc) P (l.map (·.1)) (ins.map (rin S (knR ⟨nds,out⟩ S))) ⟨tx0,ty0,tx1,ty1⟩ wr HRA.o ⟨_,_,_,rfl⟩ hs.2 HR.o.1.sl (by simpa using hll) (HR.o.2.2.supl hll) HLT.o.2.1;refine h1.mono fun e w' ⟨b',a',n',c',h2,h3,h4,h5⟩=>⟨b',a',n',c',h2,h3,h4,?_⟩;rw [HQ.o];refine ⟨h5.1,?_⟩;have h6:=reach_fix HGR.o.1 S (p:=k) hk;dsimp only at h6;rw [HND.o] at h6;show Sup b' (rin S (knR ⟨nds,out⟩ S) (k:Int));unfold rin;rw [if_neg (by omega),Int.toNat_natCast,h6];exact h5.2
    obtain ⟨n0,n1,n2⟩:=(H4.o.box 4 rfl).c3;obtain ⟨e0,e1,e2,e3⟩:=(H4.o.box 2 rfl).c4;go_wp2_with fail
    (with_reducible refine HDO.o.mono ?_);rintro e' W6 ⟨⟨⟨vx0,vy0,vx1,vy1⟩,vp⟩,va,vn,vc,rfl,hb6,hbv,hz⟩
    have H6:=Lib.hid (H4.o.call hb6);have HZ6:Hid (BfV W6 ⟨⟨vx0,vy0,vx1,vy1⟩,vp⟩ (O va vn vc)∧Q ⟨⟨vx0,vy0,vx1,vy1⟩,vp⟩):=⟨hbv,hz⟩;clear hb6 hbv hz H4 HDO n0 n1 n2 e0 e1 e2 e3;obtain ⟨r0,r1,r2,r3,r4⟩:=(H6.o.box 3 rfl).c5;obtain ⟨f0,f1,f2,f3,f4⟩:=(H6.o.box 3 rfl).f5;go_wp2_with fail;have H7:=bag_set5 H6.o 3 rfl (Y X vx0) (Y X vy0) (Y X vx1) (Y X vy1) (O va vn vc);exact ret_bf (r:=⟨vx0,vy0,vx1,vy1⟩) (s:=O va vn vc) rfl rfl (H7.box 3 rfl) rfl ⟨⟨⟨vx0,vy0,vx1,vy1⟩,vp⟩,va,vn,vc,rfl,H7.below,HZ6.o.1.set5 (H6.o.box 3 rfl) _ _ _ _ _,HZ6.o.2⟩
theorem img_c:∀ f,ImgC f
 |0=>fun D nv g p b a n c S r w _ _ _ _ _ _ _ h=>h.elim
 |f+1=>img_step f (img_c f)
end Go.Proofs.YtgodhpampaleeaaGreatDoor
namespace Go.Proofs.YtgodhpampaleeaaGreatDoor
open Go.RowKit Go.Bx Go.Od Go.Hp
attribute [local go_sem ↓] Go.wp_at_zero Go.wp_at_succ
def area3L (k:Lk):Rc:=if k.hasC=true then move3R k.clip k.dx k.dy else ⟨-4398046511104,-4398046511104,4398046511104,4398046511104⟩
theorem area3L_pl {k:Lk} (h:LkOk k):RcP (area3L k):=by
 unfold area3L
 split
 ·exact move3R_pl (h.clip (by assumption)).pl _ _
 ·refine ⟨?_,?_,?_,?_⟩<;>(unfold Pl;dsimp only;omega)
theorem has_move3 {r:Rc} {dx dy x y:Int} (hr:RcN r) (hd:Nc dx∧Nc dy) (h:hasR (move3R r dx dy) x y=true):hasR r (x-dx) (y-dy)=true:=by
 unfold move3R at h;cases he:r.emp with
 |true=>
  rw [he,if_pos rfl,has_zero] at h;cases h
 |false=>
  rw [he,if_neg (by decide),has_box] at h;obtain ⟨h0,h1,h2,h3⟩:=hr;unfold Nc at h0 h1 h2 h3 hd;have e:∀ n b:Int,(-1048576≤n∧n≤1048576)→(-1048576≤b∧b≤1048576)→edgeP n b=n+b:=fun n b h1 h2=>by
   unfold edgeP cutP
   split<;>omega
  rw [hasR_iff] at h ⊢;dsimp only at h;rw [e _ _ h0 hd.1,e _ _ h1 hd.2,e _ _ h2 hd.1,e _ _ h3 hd.2] at h;omega
theorem has_area3 {k:Lk} (hk:LkOk k) {x y:Int} (hn:Nr27 x y) (h:hasR (area3L k) x y=true):hasR (areaL k) x y=true:=by
 unfold area3L at h;unfold areaL
 split
 ·rename_i hc;rw [if_pos hc] at h;have h1:=has_move3 (hk.clip hc) ⟨hk.dx,hk.dy⟩ h;have hx:=hk.dx;have hy:=hk.dy;unfold Nc at hx hy;exact has_move hn ⟨by omega,by omega⟩ h1
 ·exact has_plane hn
theorem rarea24_c (k:Lk) (pv fv bv:Value) (w:World) (hk:LkOk k):Calls Tryz.prog 27 #[lkv k pv fv bv] w (PPost w (rv (area3L k))):=by
 obtain ⟨T,hT⟩:∃ R,R=area3L k:=⟨_,rfl⟩;have HT:=Lib.hid hT;rw [←hT];have H0:Hid (Bag w ((w.alloc (.cells #[Y X k.dx,Y X k.dy,.bool k.hasC,Y X k.clip.x0,Y X k.clip.y0,Y X k.clip.x1,Y X k.clip.y1,Y X k.opa,Y X k.mode,Y X k.ct.kind,Y X k.ct.box.x0,Y X k.ct.box.y0,Y X k.ct.box.x1,Y X k.ct.box.y1,Y J k.ct.px.r,Y J k.ct.px.g,Y J k.ct.px.b,Y J k.ct.px.a,Y X k.ct.w,Y X k.ct.h,Y X k.ct.turn,pv,.bool k.hasF,fv,Y X k.fil.out,.bool k.hasB,bv,Y X k.bak.out] 35)).alloc (.cells #[Y X 0,Y X 0,Y X 0,Y X 0] 25)) [(w.heap.size,(lkq k k.hasC k.hasF k.hasB pv fv bv)),(w.heap.size+1,zI)]):=bag2 w (lkq k k.hasC k.hasF k.hasB pv fv bv) zI _ _;have HK:Hid (LkOk k):=hk;clear hk hT;cases hC:k.hasC with
 |false=>
  obtain rfl:T=⟨-4398046511104,-4398046511104,4398046511104,4398046511104⟩:=by rw [HT.o];unfold area3L;rw [hC];rfl
  clear HT;go_enter Tryz.func27,Tryz.ntmps27;go_wp2_with fail;have HF:=bag2 w (lkq k false k.hasF k.hasB pv fv bv) (qI (-4398046511104) (-4398046511104) 4398046511104 4398046511104) 35 25;exact ret_rect (g:=w.heap.size+1) (r:=⟨-4398046511104,-4398046511104,4398046511104,4398046511104⟩) rfl rfl (HF.box 1 rfl) rfl ⟨rfl,HF.below⟩
 |true=>
  have hcl:=HK.o.clip hC;have hdx:=HK.o.dx;have hdy:=HK.o.dy;unfold Nc at hdx hdy;have HM:Hid (∀ W,Calls Tryz.prog 55 #[rv ⟨k.clip.x0,k.clip.y0,k.clip.x1,k.clip.y1⟩,Y X k.dx,Y X k.dy] W (PPost W (rv T))):=fun W=>by
   have:T=move3R k.clip k.dx k.dy:=by rw [HT.o];unfold area3L;rw [hC];rfl
   rw [this];exact rmove_c k.clip k.dx k.dy W hcl.pl (by omega) (by omega)
  clear HT hcl hdx hdy;go_enter Tryz.func27,Tryz.ntmps27;go_wp2_with fail;rw [hC] at H0;refine (HM.o _).mono ?_;rintro e W2 ⟨rfl,hb2⟩;have H2:=Lib.hid (H0.o.call hb2);clear hb2 H0 HM;obtain ⟨r0,r1,r2,r3⟩:=box4 (H2.o.box 1 rfl);obtain ⟨f0,f1,f2,f3⟩:=(H2.o.box 1 rfl).f4;obtain ⟨t0,t1,t2,t3⟩:=T;go_wp2_with fail;have HF:=H2.o.set4 1 rfl (Y X t0) (Y X t1) (Y X t2) (Y X t3);exact ret_rect (g:=w.heap.size+1) (r:=⟨t0,t1,t2,t3⟩) rfl rfl (HF.box 1 rfl) rfl ⟨rfl,HF.below⟩
end Go.Proofs.YtgodhpampaleeaaGreatDoor
namespace Go.Proofs.YtgodhpampaleeaaGreatDoor
open Go.RowKit Go.Bx Go.Od Go.Hp
theorem sup_pix {c:Ct} {x y:Int} (h:pixR c x y≠Px.zero):hasR (ctR c) x y=true:=by
 unfold pixR at h;unfold ctR
 split
 ·rename_i h1;rw [if_pos h1] at h
  split at h
  ·rename_i h2;cases hp:pxEq c.px Px.zero with
   |true=>exact absurd ((pxEq_iff _ _).1 hp) h
   |false=>
    rw [if_neg (by decide),has_some];exact h2
  ·exact absurd rfl h
 ·rename_i h1;rw [if_neg h1] at h
  split
  ·rename_i h2;rw [if_pos h2] at h;dsimp only at h
   split at h
   ·exact absurd rfl h
   ·rename_i h3;rw [hasR_iff];dsimp only;generalize Vc.qn c.turn=q at *
    match q with
    |0=>simp only [Vc.fx,Vc.fy,Vc.sx,Vc.sy] at *;omega
    |1=>simp only [Vc.fx,Vc.fy,Vc.sx,Vc.sy] at *;omega
    |2=>simp only [Vc.fx,Vc.fy,Vc.sx,Vc.sy] at *;omega
    |q+3=>simp only [Vc.fx,Vc.fy,Vc.sx,Vc.sy] at *;omega
  ·rename_i h2;rw [if_neg h2] at h;exact absurd rfl h
theorem in_box {o:Bf} {r:Rc} (ho:o.box=boxR r) {x y:Int} (hne:atB o x y≠Px.zero):hasR r x y=true:=by
 cases hc:hasR r x y with
 |true=>rfl
 |false=>exact absurd (atB_out (by rw [ho,has_box];exact hc)) hne
def foldK (N:Nat) (l:Ly) (n:Nat):Rc:=(l.kids.take n).foldl (stepR (resN N)) (ctR l.look.ct)
theorem foldK_zero (N:Nat) (l:Ly):foldK N l 0=ctR l.look.ct:=rfl
theorem foldK_all (N:Nat) (l:Ly):foldK N l l.kids.length=grpN N l:=by unfold foldK grpN;rw [List.take_length]
theorem foldK_succ (N:Nat) (l:Ly) {n:Nat} {k:Ly} (h:l.kids[n]?=some k):foldK N l (n+1)=stepR (resN N) (foldK N l n) k:=by
 unfold foldK;rw [List.take_add_one,h,List.foldl_append];rfl
def KidP (N:Nat) (l:Ly) (n:Nat) (r:Rc) (o:Bf):Prop:=o.box=boxR r∧Sup o (foldK N l n)
def ShnP (N:Nat) (k:Ly) (r:Rc) (o:Bf):Prop:=o.box=boxR r∧(k.look.opa≠0→Sup o (resN N k))
theorem kid_show {N:Nat} {l:Ly} {r:Rc} {o:Bf} (h:MadeB r (fun x y p=>p=pixR l.look.ct x y) o):KidP N l 0 r o:=by
 refine ⟨h.1,fun x y hne=>?_⟩;have h1:=h.2 x y (in_box h.1 hne);rw [h1] at hne;rw [foldK_zero];exact sup_pix hne
theorem kid_none {N:Nat} {l:Ly} {n:Nat} {r:Rc} {o:Bf} (h:o.box=boxR r) (he:r.emp=true):KidP N l n r o:=by
 refine ⟨h,fun x y hne=>?_⟩;have h1:=in_box h hne;rw [emp_iff] at he;rw [hasR_iff] at h1;omega
theorem kid_back {k:Lk} {F r:Rc} {b0 b o:Bf} (hk:LkOk k) (hB:k.hasB=true) (hr:HfB r) (h0:b0.box=boxR r) (hs:Sup b0 F) (hb:Sup b (reachG k.bak F)) (ho:CopyB b0 b (meetR r (area3L k)) 0 0 o):o.box=boxR r∧Sup o (belowR F k):=by
 have hbx:o.box=boxR r:=ho.1.trans h0;refine ⟨hbx,fun x y hne=>?_⟩;have hin:=in_box hbx hne;have h1:=ho.2 x y (by rw [h0,has_box];exact hin);unfold belowR;rw [if_pos hB];rw [h1] at hne
 split at hne
 ·rename_i h2;rw [Int.sub_zero,Int.sub_zero] at hne;exact has_jr (has_meet (hb _ _ hne) (has_area3 hk (hf_nr hr hin) (has_meet2 h2).2))
 ·exact has_jl (hs _ _ hne)
theorem kid_top {N:Nat} {k:Ly} {F r:Rc} {b t o:Bf} (hb:b.box=boxR r∧Sup b (belowR F k.look)) (ht:ShnP N k r t) (ho:MadeB r (fun x y p=>p=ontoP k.look.mode k.look.opa (atB t x y) (atB b x y)) o):o.box=boxR r∧Sup o (stepR (resN N) F k):=by
 refine ⟨ho.1,fun x y hne=>?_⟩;have h1:=ho.2 x y (in_box ho.1 hne);unfold stepR;by_cases e1:atB b x y=Px.zero
 ·rw [h1,e1] at hne;by_cases e2:atB t x y=Px.zero
  ·rw [e2,ontoP_zero] at hne;exact absurd rfl hne
  ·by_cases e3:k.look.opa=0
   ·rw [e3,ontoP_none] at hne;exact absurd rfl hne
   ·exact has_jr (ht.2 e3 x y e2)
 ·exact has_jl (hb.2 x y e1)
def thR (k:Lk) (r:Rc):Rc:=⟨r.x0-k.dx,r.y0-k.dy,r.x1-k.dx,r.y1-k.dy⟩
def clR (k:Lk) (r:Rc):Rc:=if k.hasC=true then meetR (thR k r) k.clip else thR k r
theorem shn_top {N:Nat} {k:Ly} {r:Rc} {z g o:Bf} (hk:LkOk k.look) (hr:HfB r) (hz:ZeroB r z) (hg:g.box=boxR (clR k.look r)) (hs:Sup g (filR k.look (grpN N k))) (ho:CopyB z g r k.look.dx k.look.dy o):ShnP (N+1) k r o:=by
 have hbx:o.box=boxR r:=ho.1.trans hz.1;refine ⟨hbx,fun hop x y hne=>?_⟩;have hin:=in_box hbx hne;have h1:=ho.2 x y (by rw [hz.1,has_box];exact hin);rw [if_pos hin] at h1;rw [h1] at hne;have h2:=hs _ _ hne;have h3:=in_box hg hne;have hdx:=hk.dx;have hdy:=hk.dy;unfold Nc at hdx hdy;rw [resN_succ];unfold resK;rw [if_neg hop];refine has_move (hf_nr hr hin) ⟨by omega,by omega⟩ ?_;unfold clpR;unfold clR at h3
 split
 ·rename_i hc;rw [if_pos hc] at h3;exact has_meet h2 (has_meet2 h3).2
 ·exact h2
def LtS (K:Ly→Nat→Rc→Prop) (k:Ly) (r:Rc):Prop:=
 HfB (thR k.look r)∧areaR (thR k.look r)≤20000∧(k.look.hasF=true→LtP k.look.fil.nds 101 k.look.fil.out (clR k.look r)∧K k k.kids.length (srcN k.look.fil (clR k.look r)))∧(k.look.hasF=false→K k k.kids.length (clR k.look r))
def LtK:Nat→Ly→Nat→Rc→Prop
 |0,_,_,_=>False
 |f+1,l,n,r=>HfB r∧areaR r≤20000∧∀ j k,n=j+1→l.kids[j]?=some k→LtK f l j r∧
   (k.look.hasB=true→LtP k.look.bak.nds 101 k.look.bak.out (meetR r (area3L k.look))∧LtK f l j (srcN k.look.bak (meetR r (area3L k.look))))∧LtS (LtK f) k r
theorem LtP.hf {nds:List Nd} {f:Nat} {p:Int} {r:Rc} (h:LtP nds f p r):HfB r∧areaR r≤20000:=by
 cases f with
 |zero=>exact h.elim
 |succ f=>exact ⟨h.1,h.2.1⟩
theorem HfB.ok {r:Rc} (h:HfB r) (ha:areaR r≤20000):BoxOk (boxR r):=boxOk_of (hf_pl h) (by omega)
end Go.Proofs.YtgodhpampaleeaaGreatDoor
namespace Go.Proofs.YtgodhpampaleeaaGreatDoor
open Go.RowKit Go.Bx Go.Od Go.Hp
attribute [local go_sem ↓] Go.wp_at_zero Go.wp_at_succ
def KidC (f:Nat):Prop:=∀ (N B:Nat) (l:Ly) (cs:List Value) (n:Nat) (r:Rc) (w:World),RLy (N+1) (·<B) w cs l→B≤w.heap.size→LyOk (N+1) l→n≤l.kids.length→LtK f l n r→
 Calls Tryz.prog 13 #[.agg cs.toArray,Y X (n:Int),rv r] w (BPost w (KidP N l n r))
def ShnC (f:Nat):Prop:=∀ (N B:Nat) (l:Ly) (cs:List Value) (r:Rc) (w:World),RLy (N+1) (·<B) w cs l→B≤w.heap.size→LyOk (N+1) l→HfB r→areaR r≤20000→LtS (LtK f) l r→
 Calls Tryz.prog 8 #[.agg cs.toArray,rv r] w (BPost w (ShnP (N+1) l r))
theorem shn_step (f:Nat) (HK:KidC f):ShnC f:=by
 intro N B l cs want w hl hB hok hhf har hls;obtain ⟨tx0,ty0,tx1,ty1⟩:=want;have HKC:Hid (∀ W,Below w.heap.size w W→∀ r,LtK f l l.kids.length r→Calls Tryz.prog 13 #[.agg cs.toArray,Y X (l.kids.length:Int),rv r] W (BPost W (KidP N l l.kids.length r))):=fun W hb r hr=>
  HK N B l cs _ r W ((RLy.ok (N+1)).same (Same.of_below hb fun b (hbl:b<B)=>A hbl hB) hl) (H hB hb.size) hok (M _) hr
 obtain ⟨pv,fv,bv,kv,rfl,_,_,hA,hK⟩:=hl;obtain ⟨QS,hQS⟩:∃ Q:Bf→Prop,Q=ShnP (N+1) l ⟨tx0,ty0,tx1,ty1⟩:=⟨_,rfl⟩;rw [←hQS];obtain ⟨g,hg⟩:∃ g,g=grpN N l:=⟨_,rfl⟩;obtain ⟨QK,hQK⟩:∃ Q:Rc→Bf→Prop,Q=fun r=>KidP N l l.kids.length r:=⟨_,rfl⟩;have HQK:Hid (∀ r o,QK r o→o.box=boxR r∧Sup o g):=fun r o h=>by rw [hQK] at h;rw [hg,←foldK_all];exact h
 obtain ⟨k,hk⟩:∃ k,k=l.look:=⟨_,rfl⟩;obtain ⟨i0,hi0⟩:∃ k,k=l.i0:=⟨_,rfl⟩;obtain ⟨i1,hi1⟩:∃ k,k=l.i1:=⟨_,rfl⟩;have HOK:Hid (LkOk k):=by
  have:LkOk k:=by rw [hk];exact hok.1
  exact this
 have HQS:Hid (∀ z gb o,ZeroB ⟨tx0,ty0,tx1,ty1⟩ z→gb.box=boxR (clR k ⟨tx0,ty0,tx1,ty1⟩)→Sup gb (filR k g)→CopyB z gb ⟨tx0,ty0,tx1,ty1⟩ k.dx k.dy o→QS o):=fun z gb o h1 h2 h3 h4=>by
  rw [hQS];rw [hk] at h2 h3 h4;exact shn_top hok.1 hhf h1 h2 (by rw [←hg];exact h3) h4
 have HQE:Hid (Rc.emp ⟨tx0,ty0,tx1,ty1⟩=true→QS ⟨Rc.zero,[]⟩):=by
  have:Rc.emp ⟨tx0,ty0,tx1,ty1⟩=true→QS ⟨Rc.zero,[]⟩:=fun h=>by
   rw [hQS];refine ⟨by unfold boxR;rw [h];rfl,fun _ x y hne=>?_⟩;exact absurd (atB_out (has_zero x y)) hne
  exact this
 have HLS:Hid (HfB (thR k ⟨tx0,ty0,tx1,ty1⟩)∧areaR (thR k ⟨tx0,ty0,tx1,ty1⟩)≤20000∧(k.hasF=true→LtP k.fil.nds 101 k.fil.out (clR k ⟨tx0,ty0,tx1,ty1⟩)∧LtK f l l.kids.length (srcN k.fil (clR k ⟨tx0,ty0,tx1,ty1⟩)))∧(k.hasF=false→LtK f l l.kids.length (clR k ⟨tx0,ty0,tx1,ty1⟩))):=by rw [hk];exact hls
 have HKC2:Hid (∀ W,Below w.heap.size w W→∀ r,LtK f l l.kids.length r→Calls Tryz.prog 13 #[.agg (lyc l.i0 l.i1 l.look pv fv bv kv).toArray,Y X (l.kids.length:Int),rv r] W (BPost W (QK r))):=fun W hb r hr=>by rw [hQK];exact HKC.o W hb r hr
 obtain ⟨LK,hLK⟩:∃ L:Rc→Prop,L=fun r=>LtK f l l.kids.length r:=⟨_,rfl⟩;obtain ⟨kn,hkn⟩:∃ n,n=l.kids.length:=⟨_,rfl⟩;have HLS2:Hid (HfB (thR k ⟨tx0,ty0,tx1,ty1⟩)∧areaR (thR k ⟨tx0,ty0,tx1,ty1⟩)≤20000∧(k.hasF=true→LtP k.fil.nds 101 k.fil.out (clR k ⟨tx0,ty0,tx1,ty1⟩)∧LK (srcN k.fil (clR k ⟨tx0,ty0,tx1,ty1⟩)))∧(k.hasF=false→LK (clR k ⟨tx0,ty0,tx1,ty1⟩))):=by rw [hLK];exact HLS.o
 have HKC3:Hid (∀ W,Below w.heap.size w W→∀ r,LK r→Calls Tryz.prog 13 #[.agg (lyc i0 i1 k pv fv bv kv).toArray,Y X (kn:Int),rv r] W (BPost W (QK r))):=by rw [hLK,hkn,hi0,hi1,hk];exact HKC2.o
 rw [←hk] at hA;rw [←hk,←hi0,←hi1];obtain ⟨pa,pn,pc,rfl⟩:=sl_form hA.2.1;obtain ⟨fa,fn,fc,rfl⟩:=sl_form hA.2.2.1;obtain ⟨ba,bn,bc,rfl⟩:=sl_form hA.2.2.2;obtain ⟨ka,kc,rfl⟩:∃ a c,kv=O a kn c:=by
  obtain ⟨a,c,h,_⟩:=hK;exact ⟨a,c,by rw [hkn];exact h⟩
 have HA:Hid (SlOf RNode 3 (·<B) w (O fa fn fc) k.fil.nds∧B≤w.heap.size):=⟨hA.2.2.1,hB⟩;have HH:Hid (HfB ⟨tx0,ty0,tx1,ty1⟩∧areaR ⟨tx0,ty0,tx1,ty1⟩≤20000):=⟨hhf,har⟩;have HKD:Hid (∀ W,Below w.heap.size w W→∀ r,LK r→Calls Tryz.prog 13 #[.agg #[Y X i0,Y X i1,Y X k.dx,Y X k.dy,.bool k.hasC,Y X k.clip.x0,Y X k.clip.y0,Y X k.clip.x1,Y X k.clip.y1,Y X k.opa,Y X k.mode,Y X k.ct.kind,Y X k.ct.box.x0,Y X k.ct.box.y0,Y X k.ct.box.x1,Y X k.ct.box.y1,Y J k.ct.px.r,Y J k.ct.px.g,Y J k.ct.px.b,Y J k.ct.px.a,Y X k.ct.w,Y X k.ct.h,Y X k.ct.turn,O pa pn pc,.bool k.hasF,O fa fn fc,Y X k.fil.out,.bool k.hasB,O ba bn bc,Y X k.bak.out,O ka kn kc],Y X (kn:Int),rv r] W (BPost W (QK r))):=HKC3.o;obtain ⟨⟨q0,q1⟩,⟨q2,q3⟩,⟨q4,q5⟩,q6,q7⟩:=hhf;dsimp only at q0 q1 q2 q3 q4 q5 q6 q7;have hdx:=HOK.o.dx;have hdy:=HOK.o.dy;unfold Nc at hdx hdy;obtain ⟨em,hem⟩:∃ e,e=Rc.emp ⟨tx0,ty0,tx1,ty1⟩:=⟨_,rfl⟩;have HEM:Hid (∀ W,Calls Tryz.prog 19 #[rv ⟨tx0,ty0,tx1,ty1⟩] W (PPost W (.bool em))):=fun W=>by rw [hem];exact rempty_c _ W
 have HE:=Lib.hid hem;clear hQS hg hQK hk hi0 hi1 hLK hkn hA hK hB hok hls har hem HKC HKC2 HKC3 HLS HK;show Calls Tryz.prog 8 #[.agg #[Y X i0,Y X i1,Y X k.dx,Y X k.dy,.bool k.hasC,Y X k.clip.x0,Y X k.clip.y0,Y X k.clip.x1,Y X k.clip.y1,Y X k.opa,Y X k.mode,Y X k.ct.kind,Y X k.ct.box.x0,Y X k.ct.box.y0,Y X k.ct.box.x1,Y X k.ct.box.y1,Y J k.ct.px.r,Y J k.ct.px.g,Y J k.ct.px.b,Y J k.ct.px.a,Y X k.ct.w,Y X k.ct.h,Y X k.ct.turn,O pa pn pc,.bool k.hasF,O fa fn fc,Y X k.fil.out,.bool k.hasB,O ba bn bc,Y X k.bak.out,O ka kn kc],rv ⟨tx0,ty0,tx1,ty1⟩] w (BPost w QS);generalize hbC:k.hasC=bC at *;generalize hbF:k.hasF=bF at *;have HBC:=Lib.hid hbC;have HBF:=Lib.hid hbF;have H0:Hid (Bag w (((w.alloc (.cells #[Y X i0,Y X i1,Y X k.dx,Y X k.dy,.bool bC,Y X k.clip.x0,Y X k.clip.y0,Y X k.clip.x1,Y X k.clip.y1,Y X k.opa,Y X k.mode,Y X k.ct.kind,Y X k.ct.box.x0,Y X k.ct.box.y0,Y X k.ct.box.x1,Y X k.ct.box.y1,Y J k.ct.px.r,Y J k.ct.px.g,Y J k.ct.px.b,Y J k.ct.px.a,Y X k.ct.w,Y X k.ct.h,Y X k.ct.turn,O pa pn pc,.bool bF,O fa fn fc,Y X k.fil.out,.bool k.hasB,O ba bn bc,Y X k.bak.out,O ka kn kc] 38)).alloc (.cells #[Y X tx0,Y X ty0,Y X tx1,Y X ty1] 25)).alloc (.cells #[Y X 0,Y X 0,Y X 0,Y X 0,O none 0 0] 43)) [(w.heap.size,(lyq i0 i1 k bC bF k.hasB (O pa pn pc) (O fa fn fc) (O ba bn bc) (O ka kn kc))),(w.heap.size+1,(qI tx0 ty0 tx1 ty1)),(w.heap.size+1+1,zS)]):=bag3 w (lyq i0 i1 k bC bF k.hasB (O pa pn pc) (O fa fn fc) (O ba bn bc) (O ka kn kc)) (qI tx0 ty0 tx1 ty1) zS _ _ _;clear hbC hbF;go_enter Tryz.func8,Tryz.ntmps8;go_wp2_with fail;refine (HEM.o _).mono ?_;rintro e' W1 ⟨rfl,hb1⟩;have H1:=Lib.hid (H0.o.call hb1);clear hb1 H0 HEM
 cases em with
 |true=>
  obtain ⟨r0,r1,r2,r3,r4⟩:=(H1.o.box 2 rfl).c5;obtain ⟨f0,f1,f2,f3,f4⟩:=(H1.o.box 2 rfl).f5;go_wp2_with fail;have H2:=bag_set5 H1.o 2 rfl (Y X 0) (Y X 0) (Y X 0) (Y X 0) (O none 0 0);exact ret_bf (r:=Rc.zero) (s:=O none 0 0) rfl rfl (H2.box 2 rfl) rfl ⟨⟨Rc.zero,[]⟩,none,0,0,rfl,H2.below,BfV.nil _,HQE.o HE.o.symm⟩
 |false=>
  have HR0:Hid (W1.rangeAt w.heap.size 2 (lkq k bC bF k.hasB (O pa pn pc) (O fa fn fc) (O ba bn bc))):=H1.o.range 0 rfl 2 28;have H2:Hid (Bag w (W1.alloc (.cells #[Y X k.dx,Y X k.dy,.bool bC,Y X k.clip.x0,Y X k.clip.y0,Y X k.clip.x1,Y X k.clip.y1,Y X k.opa,Y X k.mode,Y X k.ct.kind,Y X k.ct.box.x0,Y X k.ct.box.y0,Y X k.ct.box.x1,Y X k.ct.box.y1,Y J k.ct.px.r,Y J k.ct.px.g,Y J k.ct.px.b,Y J k.ct.px.a,Y X k.ct.w,Y X k.ct.h,Y X k.ct.turn,O pa pn pc,.bool bF,O fa fn fc,Y X k.fil.out,.bool k.hasB,O ba bn bc,Y X k.bak.out] 35)) [(w.heap.size,(lyq i0 i1 k bC bF k.hasB (O pa pn pc) (O fa fn fc) (O ba bn bc) (O ka kn kc))),(w.heap.size+1,(qI tx0 ty0 tx1 ty1)),(w.heap.size+1+1,zS),(W1.heap.size,(lkq k bC bF k.hasB (O pa pn pc) (O fa fn fc) (O ba bn bc)))]):=H1.o.alloc (lkq k bC bF k.hasB (O pa pn pc) (O fa fn fc) (O ba bn bc)) _;go_upto_region 4 with (first|(with_reducible refine wpList_load_mid rfl 35 _ rfl w.heap.size 2 rfl (lkq k bC bF k.hasB (O pa pn pc) (O fa fn fc) (O ba bn bc)) _ HR0.o Tryz.underlying35 rfl (by kernel_rfl) ?_;simp only [Act.put,U,E,I])|(with_reducible refine wpList_alloc_store rfl rfl 35 rfl _ _ rfl _ #[Y X k.dx,Y X k.dy,.bool bC,Y X k.clip.x0,Y X k.clip.y0,Y X k.clip.x1,Y X k.clip.y1,Y X k.opa,Y X k.mode,Y X k.ct.kind,Y X k.ct.box.x0,Y X k.ct.box.y0,Y X k.ct.box.x1,Y X k.ct.box.y1,Y J k.ct.px.r,Y J k.ct.px.g,Y J k.ct.px.b,Y J k.ct.px.a,Y X k.ct.w,Y X k.ct.h,Y X k.ct.turn,O pa pn pc,.bool bF,O fa fn fc,Y X k.fil.out,.bool k.hasB,O ba bn bc,Y X k.bak.out] alLook (by simp [size_alloc,Act.eval,Act.put]) rfl (by kernel_rfl) (by kernel_rfl) (by simp [Value.oneCell']) ?_;simp only [Act.put,U,E,I,size_alloc]));generalize (W1.alloc (.cells #[Y X k.dx,Y X k.dy,.bool bC,Y X k.clip.x0,Y X k.clip.y0,Y X k.clip.x1,Y X k.clip.y1,Y X k.opa,Y X k.mode,Y X k.ct.kind,Y X k.ct.box.x0,Y X k.ct.box.y0,Y X k.ct.box.x1,Y X k.ct.box.y1,Y J k.ct.px.r,Y J k.ct.px.g,Y J k.ct.px.b,Y J k.ct.px.a,Y X k.ct.w,Y X k.ct.h,Y X k.ct.turn,O pa pn pc,.bool bF,O fa fn fc,Y X k.fil.out,.bool k.hasB,O ba bn bc,Y X k.bak.out] 35))=W2 at *;clear HR0 H1 HE HQE;have e0:=H2.o.cell 1 rfl 0 rfl;have e1:=H2.o.cell 1 rfl 1 rfl;have e2:=H2.o.cell 1 rfl 2 rfl;have e3:=H2.o.cell 1 rfl 3 rfl;have d0:=H2.o.cell 3 rfl 0 rfl;have d1:=H2.o.cell 3 rfl 1 rfl;have H3:Hid (Bag w (W2.alloc (.cells #[Y X (tx0-k.dx),Y X (ty0-k.dy),Y X (tx1-k.dx),Y X (ty1-k.dy)] 25)) [(w.heap.size,(lyq i0 i1 k bC bF k.hasB (O pa pn pc) (O fa fn fc) (O ba bn bc) (O ka kn kc))),(w.heap.size+1,(qI tx0 ty0 tx1 ty1)),(w.heap.size+1+1,zS),(W1.heap.size,(lkq k bC bF k.hasB (O pa pn pc) (O fa fn fc) (O ba bn bc))),(W2.heap.size,(qI (tx0-k.dx) (ty0-k.dy) (tx1-k.dx) (ty1-k.dy)))]):=H2.o.alloc (qI (tx0-k.dx) (ty0-k.dy) (tx1-k.dx) (ty1-k.dy)) _;go_upto_region 5 with fail;generalize (W2.alloc (.cells #[Y X (tx0-k.dx),Y X (ty0-k.dy),Y X (tx1-k.dx),Y X (ty1-k.dy)] 25))=W3 at *;clear H2 e0 e1 e2 e3 d0 d1;have e0:=H3.o.cell 4 rfl 0 rfl;have e1:=H3.o.cell 4 rfl 1 rfl;have e2:=H3.o.cell 4 rfl 2 rfl;have e3:=H3.o.cell 4 rfl 3 rfl;have H4:Hid (Bag w (W3.alloc (.cells #[Y X (tx0-k.dx),Y X (ty0-k.dy),Y X (tx1-k.dx),Y X (ty1-k.dy)] 25)) [(w.heap.size,(lyq i0 i1 k bC bF k.hasB (O pa pn pc) (O fa fn fc) (O ba bn bc) (O ka kn kc))),(w.heap.size+1,(qI tx0 ty0 tx1 ty1)),(w.heap.size+1+1,zS),(W1.heap.size,(lkq k bC bF k.hasB (O pa pn pc) (O fa fn fc) (O ba bn bc))),(W2.heap.size,(qI (tx0-k.dx) (ty0-k.dy) (tx1-k.dx) (ty1-k.dy))),(W3.heap.size,(qI (tx0-k.dx) (ty0-k.dy) (tx1-k.dx) (ty1-k.dy)))]):=H3.o.alloc (qI (tx0-k.dx) (ty0-k.dy) (tx1-k.dx) (ty1-k.dy)) _;go_upto_region 6 with fail;generalize (W3.alloc (.cells #[Y X (tx0-k.dx),Y X (ty0-k.dy),Y X (tx1-k.dx),Y X (ty1-k.dy)] 25))=W4 at *;clear H3 e0 e1 e2 e3;obtain ⟨C,hC⟩:∃ C,C=clR k ⟨tx0,ty0,tx1,ty1⟩:=⟨_,rfl⟩;have HC:=Lib.hid hC;clear hC;obtain ⟨c0,c1,c2,c3⟩:=C;have d2:=H4.o.cell 3 rfl 2 rfl
  go_upto_if 39 with fail
  go_cut [7] from 38 (fun v wx=>v=.pointer (some ⟨W3.heap.size,0,none⟩)∧Bag w wx [(w.heap.size,(lyq i0 i1 k bC bF k.hasB (O pa pn pc) (O fa fn fc) (O ba bn bc) (O ka kn kc))),(w.heap.size+1,(qI tx0 ty0 tx1 ty1)),(w.heap.size+1+1,zS),(W1.heap.size,(lkq k bC bF k.hasB (O pa pn pc) (O fa fn fc) (O ba bn bc))),(W2.heap.size,(qI (tx0-k.dx) (ty0-k.dy) (tx1-k.dx) (ty1-k.dy))),(W3.heap.size,(qI c0 c1 c2 c3))])
  case first=>
   clear d2
   cases bC with
   |false=>
    have hx:(⟨c0,c1,c2,c3⟩:Rc)=⟨tx0-k.dx,ty0-k.dy,tx1-k.dx,ty1-k.dy⟩:=by rw [HC.o];unfold clR;rw [HBC.o];rfl
    have HX:=Lib.hid hx;clear hx;go_wp2_with fail;go_meet;have hx:=HX.o;simp only [Rc.mk.injEq] at hx;obtain ⟨rfl,rfl,rfl,rfl⟩:=hx;exact ⟨rfl,H4.o⟩
   |true=>
    have HME:Hid (∀ W,Calls Tryz.prog 20 #[rv ⟨tx0-k.dx,ty0-k.dy,tx1-k.dx,ty1-k.dy⟩,rv ⟨k.clip.x0,k.clip.y0,k.clip.x1,k.clip.y1⟩] W (PPost W (rv ⟨c0,c1,c2,c3⟩))):=fun W=>by
     have:(⟨c0,c1,c2,c3⟩:Rc)=meetR ⟨tx0-k.dx,ty0-k.dy,tx1-k.dx,ty1-k.dy⟩ k.clip:=by rw [HC.o];unfold clR;rw [HBC.o];rfl
     rw [this];exact rmeet_c _ _ W
    obtain ⟨e0,e1,e2,e3⟩:=(H4.o.box 5 rfl).c4;have d3:=H4.o.cell 3 rfl 3 rfl;have d4:=H4.o.cell 3 rfl 4 rfl;have d5:=H4.o.cell 3 rfl 5 rfl;have d6:=H4.o.cell 3 rfl 6 rfl;go_wp2_with fail;refine (HME.o _).mono ?_;rintro e' W5 ⟨rfl,hb5⟩;have H5:=Lib.hid (H4.o.call hb5);clear hb5 H4 HME e0 e1 e2 e3 d3 d4 d5 d6;obtain ⟨e0,e1,e2,e3⟩:=(H5.o.box 5 rfl).c4;obtain ⟨f0,f1,f2,f3⟩:=(H5.o.box 5 rfl).f4;have H6:=H5.o.set4 5 rfl (Y X c0) (Y X c1) (Y X c2) (Y X c3);have H6:=Lib.hid H6;go_wp2_with fail;go_meet;exact ⟨rfl,H6.o⟩
  case rest=>
   obtain ⟨rfl,hb⟩:=hcut;obtain ⟨V5,rfl⟩:∃ V,V=wc:=⟨_,rfl⟩;have H5:=Lib.hid hb;clear hb H4 d2;have H6:Hid (Bag w (V5.alloc (.cells #[Y X 0,Y X 0,Y X 0,Y X 0,O none 0 0] 43)) [(w.heap.size,(lyq i0 i1 k bC bF k.hasB (O pa pn pc) (O fa fn fc) (O ba bn bc) (O ka kn kc))),(w.heap.size+1,(qI tx0 ty0 tx1 ty1)),(w.heap.size+1+1,zS),(W1.heap.size,(lkq k bC bF k.hasB (O pa pn pc) (O fa fn fc) (O ba bn bc))),(W2.heap.size,(qI (tx0-k.dx) (ty0-k.dy) (tx1-k.dx) (ty1-k.dy))),(W3.heap.size,(qI c0 c1 c2 c3)),(V5.heap.size,zS)]):=H5.o.alloc zS _;go_upto_region 9 with fail;generalize (V5.alloc (.cells #[Y X 0,Y X 0,Y X 0,Y X 0,O none 0 0] 43))=W6 at *;clear H5;have d22:=H6.o.cell 3 rfl 22 rfl
   go_upto_if 46 with fail
   go_cut [8] from 9 (fun v wx=>∃ (gb:Bf) (a:Option Addr) (n c:Nat),v=.pointer (some ⟨V5.heap.size,0,none⟩)∧Bag w wx [(w.heap.size,(lyq i0 i1 k bC bF k.hasB (O pa pn pc) (O fa fn fc) (O ba bn bc) (O ka kn kc))),(w.heap.size+1,(qI tx0 ty0 tx1 ty1)),(w.heap.size+1+1,zS),(W1.heap.size,(lkq k bC bF k.hasB (O pa pn pc) (O fa fn fc) (O ba bn bc))),(W2.heap.size,(qI (tx0-k.dx) (ty0-k.dy) (tx1-k.dx) (ty1-k.dy))),(W3.heap.size,(qI c0 c1 c2 c3)),(V5.heap.size,bfc gb.box (O a n c))]∧BfV wx gb (O a n c)∧gb.box=boxR ⟨c0,c1,c2,c3⟩∧Sup gb (filR k g))
   case first=>
    clear d22
    cases bF with
    |false=>
     have HKI:Hid (∀ W,Below w.heap.size w W→Calls Tryz.prog 13 #[.agg #[Y X i0,Y X i1,Y X k.dx,Y X k.dy,.bool bC,Y X k.clip.x0,Y X k.clip.y0,Y X k.clip.x1,Y X k.clip.y1,Y X k.opa,Y X k.mode,Y X k.ct.kind,Y X k.ct.box.x0,Y X k.ct.box.y0,Y X k.ct.box.x1,Y X k.ct.box.y1,Y J k.ct.px.r,Y J k.ct.px.g,Y J k.ct.px.b,Y J k.ct.px.a,Y X k.ct.w,Y X k.ct.h,Y X k.ct.turn,O pa pn pc,.bool false,O fa fn fc,Y X k.fil.out,.bool k.hasB,O ba bn bc,Y X k.bak.out,O ka kn kc],Y X (kn:Int),rv ⟨c0,c1,c2,c3⟩] W (BPost W (QK ⟨c0,c1,c2,c3⟩))):=fun W hb=>HKD.o W hb ⟨c0,c1,c2,c3⟩ (by rw [HC.o];exact HLS2.o.2.2.2 rfl);have HFR:Hid (filR k g=g):=Lib.hid (by unfold filR;rw [HBF.o];rfl);have HRL:Hid (W6.rangeAt w.heap.size 0 (lyq i0 i1 k bC false k.hasB (O pa pn pc) (O fa fn fc) (O ba bn bc) (O ka kn kc))):=H6.o.range 0 rfl 0 31;obtain ⟨e0,e1,e2,e3⟩:=(H6.o.box 5 rfl).c4;have l30:=H6.o.cell 0 rfl 30 rfl
     go_wp2_with (with_reducible refine wpList_load_mid rfl 38 _ rfl w.heap.size 0 rfl (lyq i0 i1 k bC false k.hasB (O pa pn pc) (O fa fn fc) (O ba bn bc) (O ka kn kc)) _ HRL.o Tryz.underlying38 rfl (by kernel_rfl) ?_;simp only [Act.put,U,E,I])
     (with_reducible refine (HKI.o _ H6.o.below).mono ?_);rintro e' W8 ⟨⟨⟨y0,y1,y2,y3⟩,yp⟩,ya,yn,yc,rfl,hb8,hbv,hq⟩
     have H8:=Lib.hid (H6.o.call hb8);have HZ:Hid (BfV W8 ⟨⟨y0,y1,y2,y3⟩,yp⟩ (O ya yn yc)∧(⟨y0,y1,y2,y3⟩:Rc)=boxR ⟨c0,c1,c2,c3⟩∧Sup ⟨⟨y0,y1,y2,y3⟩,yp⟩ g):=⟨hbv,(HQK.o _ _ hq).1,(HQK.o _ _ hq).2⟩;clear hb8 hbv hq H6 HKI HRL e0 e1 e2 e3 l30;obtain ⟨r0,r1,r2,r3,r4⟩:=(H8.o.box 6 rfl).c5;obtain ⟨f0,f1,f2,f3,f4⟩:=(H8.o.box 6 rfl).f5;have H9:=Lib.hid (bag_set5 H8.o 6 rfl (Y X y0) (Y X y1) (Y X y2) (Y X y3) (O ya yn yc));have HZ9:=Lib.hid (HZ.o.1.set5 (H8.o.box 6 rfl) (Y X y0) (Y X y1) (Y X y2) (Y X y3) (O ya yn yc));go_wp2_with fail;go_meet;exact ⟨⟨⟨y0,y1,y2,y3⟩,yp⟩,ya,yn,yc,rfl,H9.o,HZ9.o,HZ.o.2.1,by rw [HFR.o];exact HZ.o.2.2⟩
    |true=>
     obtain ⟨S,hS⟩:∃ S,S=srcN k.fil ⟨c0,c1,c2,c3⟩:=⟨_,rfl⟩;have HLP:Hid (LtP k.fil.nds 101 k.fil.out ⟨c0,c1,c2,c3⟩∧LK S):=by
      have h:=HLS2.o.2.2.1 rfl;rw [←HC.o,←hS] at h;exact h
     have HGD:Hid (GoodR k.fil):=HOK.o.fil HBF.o;have HFR:Hid (filR k g=reachG k.fil g):=Lib.hid (by unfold filR;rw [HBF.o];rfl);have HGR:Hid (∀ W,Below w.heap.size w W→Gr B W (O fa fn fc) k.fil.nds∧B≤W.heap.size):=fun W hb=>⟨SlOf.same RNode.ok (Same.of_below hb fun b (hbl:b<B)=>A hbl HA.o.2) HA.o.1,H HA.o.2 hb.size⟩;have HAL:Hid (∀ W,Below w.heap.size w W→Calls Tryz.prog 21 #[.agg #[O fa fn fc,Y X k.fil.out],rv ⟨c0,c1,c2,c3⟩] W (AlPost3 W S)):=fun W hb=>by rw [hS];exact all14r_c B _ k.fil ⟨c0,c1,c2,c3⟩ W HGD.o (HGR.o W hb).1 (HGR.o W hb).2 (hf_pl HLP.o.1.hf.1)
     have HKI:Hid (∀ W,Below w.heap.size w W→Calls Tryz.prog 13 #[.agg #[Y X i0,Y X i1,Y X k.dx,Y X k.dy,.bool bC,Y X k.clip.x0,Y X k.clip.y0,Y X k.clip.x1,Y X k.clip.y1,Y X k.opa,Y X k.mode,Y X k.ct.kind,Y X k.ct.box.x0,Y X k.ct.box.y0,Y X k.ct.box.x1,Y X k.ct.box.y1,Y J k.ct.px.r,Y J k.ct.px.g,Y J k.ct.px.b,Y J k.ct.px.a,Y X k.ct.w,Y X k.ct.h,Y X k.ct.turn,O pa pn pc,.bool true,O fa fn fc,Y X k.fil.out,.bool k.hasB,O ba bn bc,Y X k.bak.out,O ka kn kc],Y X (kn:Int),rv S] W (BPost W (QK S))):=fun W hb=>HKD.o W hb S HLP.o.2;clear hS;obtain ⟨s0,s1,s2,s3⟩:=S;obtain ⟨e0,e1,e2,e3⟩:=(H6.o.box 5 rfl).c4;have d23:=H6.o.cell 3 rfl 23 rfl;have d24:=H6.o.cell 3 rfl 24 rfl;go_wp2_with fail
     (with_reducible refine (HAL.o _ H6.o.below).mono ?_);rintro e' W7 ⟨va,rfl,hb7⟩
     have H7:Hid (Bag w (W7.alloc (.cells #[Y X s0,Y X s1,Y X s2,Y X s3] 25)) [(w.heap.size,(lyq i0 i1 k bC true k.hasB (O pa pn pc) (O fa fn fc) (O ba bn bc) (O ka kn kc))),(w.heap.size+1,(qI tx0 ty0 tx1 ty1)),(w.heap.size+1+1,zS),(W1.heap.size,(lkq k bC true k.hasB (O pa pn pc) (O fa fn fc) (O ba bn bc))),(W2.heap.size,(qI (tx0-k.dx) (ty0-k.dy) (tx1-k.dx) (ty1-k.dy))),(W3.heap.size,(qI c0 c1 c2 c3)),(V5.heap.size,zS)]):=bag_alloc_old (H6.o.call hb7) _;have X7:Hid (Box (W7.alloc (.cells #[Y X s0,Y X s1,Y X s2,Y X s3] 25)) W7.heap.size (qI s0 s1 s2 s3)):=Box.new W7 (qI s0 s1 s2 s3) _;clear hb7 H6 HAL e0 e1 e2 e3 d23 d24;go_upto_region 11 with fail;generalize (W7.alloc (.cells #[Y X s0,Y X s1,Y X s2,Y X s3] 25))=W8 at *;obtain ⟨e0,e1,e2,e3⟩:=(H7.o.box 5 rfl).c4;have d23:=H7.o.cell 3 rfl 23 rfl;have d24:=H7.o.cell 3 rfl 24 rfl;have l30:=H7.o.cell 0 rfl 30 rfl;have x0:=X7.o.cell 0 rfl;have x1:=X7.o.cell 1 rfl;have x2:=X7.o.cell 2 rfl;have x3:=X7.o.cell 3 rfl;refine wp_region_mix2 W8.heap.size [false,false,false,false,false,false,false,false,false,false,true,false,true] [10,12] _ rfl (M _) (by kernel_rfl) (by kernel_rfl) ?_;apply Exists.intro;apply And.intro
     ·intro GG hGG hne Rr hR;simp only [skip];have ke0:=fun s:InG W8.heap.size W8 GG=>s.at e0;have ke1:=fun s:InG W8.heap.size W8 GG=>s.at e1;have ke2:=fun s:InG W8.heap.size W8 GG=>s.at e2;have ke3:=fun s:InG W8.heap.size W8 GG=>s.at e3;have kd23:=fun s:InG W8.heap.size W8 GG=>s.at d23;have kd24:=fun s:InG W8.heap.size W8 GG=>s.at d24;have kl30:=fun s:InG W8.heap.size W8 GG=>s.at l30;have kx0:=fun s:InG W8.heap.size W8 GG=>s.at x0;have kx1:=fun s:InG W8.heap.size W8 GG=>s.at x1;have kx2:=fun s:InG W8.heap.size W8 GG=>s.at x2;have kx3:=fun s:InG W8.heap.size W8 GG=>s.at x3;have HLD:Hid (∀ w',(∃ s:InG W8.heap.size W8 GG,w'=s.w)→w'.rangeAt w.heap.size 0 (lyq i0 i1 k bC true k.hasB (O pa pn pc) (O fa fn fc) (O ba bn bc) (O ka kn kc))):=fun w' ⟨s,hs⟩=>by rw [hs];exact (H7.o.call s.below).range 0 rfl 0 31
      iterate 5 (go_big_quiet_step (fail))
      refine wpQuiet_load rfl 38 _ rfl w.heap.size 0 rfl _ _ HLD.o Tryz.underlying38 rfl (by kernel_rfl) ?_;simp only [Act.put,U,E,I]
      repeat (go_big_quiet_step (fail))
      refine wpQuiet_nil ?_;exact hR
     ·refine wpChain_cons _ rfl rfl (fun (y:Bf×(Option Addr×Nat×Nat))=>bfv y.1.box (O y.2.1 y.2.2.1 y.2.2.2)) (fun y W=>BfV W y.1 (O y.2.1 y.2.2.1 y.2.2.2)∧QK ⟨s0,s1,s2,s3⟩ y.1) (fun _ _ _ h hb=>⟨h.1.below hb,h.2⟩) ?_ ?_
      ·rintro W ⟨hW,hWs⟩;have hc:=HKI.o W (H7.o.below.trans (hW.mono H7.o.below.size));refine gives_enter (f:=13) (args:=#[.agg #[Y X i0,Y X i1,Y X k.dx,Y X k.dy,.bool bC,Y X k.clip.x0,Y X k.clip.y0,Y X k.clip.x1,Y X k.clip.y1,Y X k.opa,Y X k.mode,Y X k.ct.kind,Y X k.ct.box.x0,Y X k.ct.box.y0,Y X k.ct.box.x1,Y X k.ct.box.y1,Y J k.ct.px.r,Y J k.ct.px.g,Y J k.ct.px.b,Y J k.ct.px.a,Y X k.ct.w,Y X k.ct.h,Y X k.ct.turn,O pa pn pc,.bool true,O fa fn fc,Y X k.fil.out,.bool k.hasB,O ba bn bc,Y X k.bak.out,O ka kn kc],Y X (kn:Int),rv ⟨s0,s1,s2,s3⟩]) ?_ ?_
       ·first
        |rfl
        |simp [execOp,resolve,invoke,go_sem]
       ·exact hc.mono fun e w' ⟨b',a',n',c',h1,h2,h3,h4⟩=>⟨_,h1,h2,⟨b',a',n',c'⟩,rfl,h3,h4⟩
      ·rintro ⟨⟨⟨y0,y1,y2,y3⟩,yp⟩,ya,yn,yc⟩;refine wpChain_cons _ rfl rfl (fun (y:Bf×(Option Addr×Nat×Nat))=>bfv y.1.box (O y.2.1 y.2.2.1 y.2.2.2)) (fun y W=>BfV W y.1 (O y.2.1 y.2.2.1 y.2.2.2)∧ImgP k.fil g k.fil.out ⟨c0,c1,c2,c3⟩ y.1) (fun _ _ _ h hb=>⟨h.1.below hb,h.2⟩) ?_ ?_
       ·rintro W ⟨⟨hW,hWs⟩,hv,ht⟩;have hbw:=H7.o.below.trans (hW.mono H7.o.below.size);have hou:=HGD.o.gn.outs;have hc:=img_c 101 B _ k.fil k.fil.out ⟨⟨y0,y1,y2,y3⟩,yp⟩ ya yn yc g ⟨c0,c1,c2,c3⟩ W HGD.o (HGR.o W hbw).1 (HGR.o W hbw).2 (by omega) hou.2 hv (HQK.o _ _ ht).2 HLP.o.1;refine gives_enter (f:=22) (args:=#[.agg #[O fa fn fc,Y X k.fil.out],Y X k.fil.out,bfv ⟨y0,y1,y2,y3⟩ (O ya yn yc),rv ⟨c0,c1,c2,c3⟩]) ?_ ?_
        ·first
         |rfl
         |simp [execOp,resolve,invoke,go_sem]
        ·exact hc.mono fun e w' ⟨b',a',n',c',h1,h2,h3,h4⟩=>⟨_,h1,h2,⟨b',a',n',c'⟩,rfl,h3,h4⟩
       ·rintro ⟨⟨⟨z0,z1,z2,z3⟩,zp⟩,za,zn,zc⟩;refine wpChain_nil ?_;rintro W ⟨⟨⟨hW,hWs⟩,hv,ht⟩,hv2,ht2⟩;have H8:=Lib.hid (H7.o.call hW);have HZ:Hid (BfV W ⟨⟨z0,z1,z2,z3⟩,zp⟩ (O za zn zc)∧(⟨z0,z1,z2,z3⟩:Rc)=boxR ⟨c0,c1,c2,c3⟩∧Sup ⟨⟨z0,z1,z2,z3⟩,zp⟩ (reachG k.fil g)):=⟨hv2,ht2.1,by
         have h1:=ht2.2;have hou:=HGD.o.gn.outs;unfold rin at h1;rw [if_neg (by omega)] at h1;exact h1⟩
        clear hv ht hv2 ht2 hW HKI;simp only [G,List.drop_zero,List.length_cons,List.length_nil];obtain ⟨r0,r1,r2,r3,r4⟩:=(H8.o.box 6 rfl).c5;obtain ⟨f0,f1,f2,f3,f4⟩:=(H8.o.box 6 rfl).f5;have H9:=Lib.hid (bag_set5 H8.o 6 rfl (Y X z0) (Y X z1) (Y X z2) (Y X z3) (O za zn zc));have HZ9:=Lib.hid (HZ.o.1.set5 (H8.o.box 6 rfl) (Y X z0) (Y X z1) (Y X z2) (Y X z3) (O za zn zc));go_wp2_with fail;go_meet;exact ⟨⟨⟨z0,z1,z2,z3⟩,zp⟩,za,zn,zc,rfl,H9.o,HZ9.o,HZ.o.2.1,by rw [HFR.o];exact HZ.o.2.2⟩
   case rest=>
    obtain ⟨⟨⟨g0,g1,g2,g3⟩,gp⟩,gra,grn,grc,rfl,hb,hgv,hgb,hgs⟩:=hcut;have H9:=Lib.hid hb;have HGB:Hid (BfV wc ⟨⟨g0,g1,g2,g3⟩,gp⟩ (O gra grn grc)∧(⟨g0,g1,g2,g3⟩:Rc)=boxR ⟨c0,c1,c2,c3⟩∧Sup ⟨⟨g0,g1,g2,g3⟩,gp⟩ (filR k g)):=⟨hgv,hgb,hgs⟩;have HNW:Hid (∀ W,Calls Tryz.prog 24 #[rv ⟨tx0,ty0,tx1,ty1⟩] W (BPost W (ZeroB ⟨tx0,ty0,tx1,ty1⟩))):=fun W=>new05_c ⟨tx0,ty0,tx1,ty1⟩ W (hf_pl HH.o.1) (by have:=HH.o.2;omega);clear hb hgv hgb hgs H6 d22;obtain ⟨e0,e1,e2,e3⟩:=(H9.o.box 1 rfl).c4;obtain ⟨gg0,gg1,gg2,gg3,gg4⟩:=(H9.o.box 6 rfl).c5;have d0:=H9.o.cell 3 rfl 0 rfl;have d1:=H9.o.cell 3 rfl 1 rfl;go_wp2_with fail;refine wp_region_mix2 wc.heap.size [false,true,false,false,false,false,false,false,true] [1,8] _ rfl (M _) (by kernel_rfl) (by kernel_rfl) ?_;apply Exists.intro;apply And.intro
    ·intro GG hGG hne Rr hR;simp only [skip];have ke0:=fun s:InG wc.heap.size wc GG=>s.at e0;have ke1:=fun s:InG wc.heap.size wc GG=>s.at e1;have ke2:=fun s:InG wc.heap.size wc GG=>s.at e2;have ke3:=fun s:InG wc.heap.size wc GG=>s.at e3;have kgg0:=fun s:InG wc.heap.size wc GG=>s.at gg0;have kgg1:=fun s:InG wc.heap.size wc GG=>s.at gg1;have kgg2:=fun s:InG wc.heap.size wc GG=>s.at gg2;have kgg3:=fun s:InG wc.heap.size wc GG=>s.at gg3;have kgg4:=fun s:InG wc.heap.size wc GG=>s.at gg4;have kd0:=fun s:InG wc.heap.size wc GG=>s.at d0;have kd1:=fun s:InG wc.heap.size wc GG=>s.at d1
     repeat (go_big_quiet_step (fail))
     refine wpQuiet_nil ?_;exact hR
    ·refine wpChain_cons _ rfl rfl (fun (y:Bf×(Option Addr×Nat×Nat))=>bfv y.1.box (O y.2.1 y.2.2.1 y.2.2.2)) (fun y W=>BfV W y.1 (O y.2.1 y.2.2.1 y.2.2.2)∧ZeroB ⟨tx0,ty0,tx1,ty1⟩ y.1) (fun _ _ _ h hb=>⟨h.1.below hb,h.2⟩) ?_ ?_
     ·rintro W ⟨hW,hWs⟩;have hc:=HNW.o W;refine gives_enter (f:=24) (args:=#[rv ⟨tx0,ty0,tx1,ty1⟩]) ?_ ?_
      ·first
       |rfl
       |simp [execOp,resolve,invoke,go_sem]
      ·exact hc.mono fun e w' ⟨b',a',n',c',h1,h2,h3,h4⟩=>⟨_,h1,h2,⟨b',a',n',c'⟩,rfl,h3,h4⟩
     ·rintro ⟨⟨⟨y0,y1,y2,y3⟩,yp⟩,ya,yn,yc⟩;refine wpChain_cons _ rfl rfl (fun (y:Bf×(Option Addr×Nat×Nat))=>bfv y.1.box (O y.2.1 y.2.2.1 y.2.2.2)) (fun y W=>BfV W y.1 (O y.2.1 y.2.2.1 y.2.2.2)∧QS y.1) (fun _ _ _ h hb=>⟨h.1.below hb,h.2⟩) ?_ ?_
      ·rintro W ⟨⟨hW,hWs⟩,hv,ht⟩;have hbo:BoxOk (⟨y0,y1,y2,y3⟩:Rc):=by
        have h1:=HH.o.1.ok HH.o.2;rw [←ht.1] at h1;exact h1
       have hc:=copy05_c ⟨⟨y0,y1,y2,y3⟩,yp⟩ ⟨⟨g0,g1,g2,g3⟩,gp⟩ ⟨tx0,ty0,tx1,ty1⟩ k.dx k.dy ya gra yn yc grn grc W hv (HGB.o.1.below hW) hbo (by omega) (by omega);refine gives_enter (f:=23) (args:=#[bfv ⟨y0,y1,y2,y3⟩ (O ya yn yc),bfv ⟨g0,g1,g2,g3⟩ (O gra grn grc),rv ⟨tx0,ty0,tx1,ty1⟩,Y X k.dx,Y X k.dy]) ?_ ?_
       ·first
        |rfl
        |simp [execOp,resolve,invoke,go_sem]
       ·exact hc.mono fun e w' ⟨b',a',n',c',h1,h2,h3,h4⟩=>⟨_,h1,h2,⟨b',a',n',c'⟩,rfl,h3,HQS.o _ _ _ ht (by rw [←HC.o];exact HGB.o.2.1) HGB.o.2.2 h4⟩
      ·rintro ⟨⟨⟨z0,z1,z2,z3⟩,zp⟩,za,zn,zc⟩;refine wpChain_nil ?_;rintro W ⟨⟨⟨hW,hWs⟩,hv,ht⟩,hv2,ht2⟩;have H10:=Lib.hid (H9.o.call hW);have HZ:Hid (BfV W ⟨⟨z0,z1,z2,z3⟩,zp⟩ (O za zn zc)∧QS ⟨⟨z0,z1,z2,z3⟩,zp⟩):=⟨hv2,ht2⟩;clear hv ht hv2 ht2 hW HNW;simp only [G,List.drop_zero,List.length_cons,List.length_nil];have r0:=H10.o.cell 2 rfl 0 rfl;have r1:=H10.o.cell 2 rfl 1 rfl;have r2:=H10.o.cell 2 rfl 2 rfl;have r3:=H10.o.cell 2 rfl 3 rfl;have r4:=H10.o.cell 2 rfl 4 rfl;have f0:=H10.o.frozen 2 rfl 0;have f1:=H10.o.frozen 2 rfl 1;have f2:=H10.o.frozen 2 rfl 2;have f3:=H10.o.frozen 2 rfl 3;have f4:=H10.o.frozen 2 rfl 4;have HF:=Lib.hid (bag_set5 H10.o 2 rfl (Y X z0) (Y X z1) (Y X z2) (Y X z3) (O za zn zc));have HZF:=Lib.hid (HZ.o.1.set5 (H10.o.box 2 rfl) (Y X z0) (Y X z1) (Y X z2) (Y X z3) (O za zn zc));go_wp2_with fail;exact ret_bf (r:=⟨z0,z1,z2,z3⟩) (s:=O za zn zc) rfl rfl (HF.o.box 2 rfl) rfl ⟨⟨⟨z0,z1,z2,z3⟩,zp⟩,za,zn,zc,rfl,HF.o.below,HZF.o,HZ.o.2⟩
end Go.Proofs.YtgodhpampaleeaaGreatDoor
