/- Texts joined: Ei Ej Ek El. -/
import Derived.Test.YtgodhpampaleeaaGreatDoorM07
import Derived.Test.YtgodhpampaleeaaGreatDoorM06
import Derived.Test.YtgodhpampaleeaaGreatDoorM02
import Derived.Deep.Cut
import Derived.Test.YtgodhpampaleeaaGreatDoorM05
import Derived.Test.YtgodhpampaleeaaGreatDoorM04
open Go.Value renaming int→Y,slice→Z
open Go.IntKind renaming i64→X,u8→J
open List renaming setIfInBounds_toArray→O,set_cons_succ→U,set_cons_zero→V,getElem?_eq_getElem→T
open Nat renaming le_refl→E,le_trans→I,lt_of_lt_of_le→Q
open Go.Lib renaming hid→N
set_option maxRecDepth 8000
set_option maxHeartbeats 25600000
set_option linter.unusedVariables false
namespace Go.Proofs.YtgodhpampaleeaaGreatDoor
open Go.RowKit Go.Bx Go.Od Go.Hp
attribute [local go_sem ↓] Go.wp_at_zero Go.wp_at_succ
theorem below_c (B:Nat) (r:Rc) (k:Lk) (pv fv bv:Value) (w:World) (hA:LkAt (·<B) w k pv fv bv) (hB:B≤w.heap.size) (hk:LkOk k) (hr:RcP r):Calls Tryz.prog 32 #[rv r,lkv k pv fv bv] w (PPost w (rv (belowR r k))):=by
 obtain ⟨R,hR⟩:∃ R,R=belowR r k:=⟨_,rfl⟩;have HR:=N hR;rw [←hR];obtain ⟨x0,y0,x1,y1⟩:=r;have HK:Hid (LkOk k∧RcP ⟨x0,y0,x1,y1⟩∧LkAt (·<B) w k pv fv bv∧B≤w.heap.size):=⟨hk,hr,hA,hB⟩;clear hk hR hr hA hB;cases hC:k.hasB with
 |false=>
  obtain rfl:R=⟨x0,y0,x1,y1⟩:=by rw [HR.o];unfold belowR;rw [hC];rfl
  clear HR;go_enter Tryz.func32,Tryz.ntmps32;go_wp2_with fail;have HF:Bag w (((w.alloc (.cells (cs4 x0 y0 x1 y1) 25)).alloc (.cells #[Y X k.dx,Y X k.dy,.bool k.hasC,Y X k.clip.x0,Y X k.clip.y0,Y X k.clip.x1,Y X k.clip.y1,Y X k.opa,Y X k.mode,Y X k.ct.kind,Y X k.ct.box.x0,Y X k.ct.box.y0,Y X k.ct.box.x1,Y X k.ct.box.y1,Y J k.ct.px.r,Y J k.ct.px.g,Y J k.ct.px.b,Y J k.ct.px.a,Y X k.ct.w,Y X k.ct.h,Y X k.ct.turn,pv,.bool k.hasF,fv,Y X k.fil.out,.bool false,bv,Y X k.bak.out] 35)).alloc (.cells (cs4 x0 y0 x1 y1) 25)) [(w.heap.size,cl4 ⟨x0,y0,x1,y1⟩),(w.heap.size+1,(lkq k k.hasC k.hasF false pv fv bv)),(w.heap.size+1+1,cl4 ⟨x0,y0,x1,y1⟩)]:=bag3 w (cl4 ⟨x0,y0,x1,y1⟩) (lkq k k.hasC k.hasF false pv fv bv) (cl4 ⟨x0,y0,x1,y1⟩) _ _ _;exact ret_rect (g:=w.heap.size+1+1) (r:=⟨x0,y0,x1,y1⟩) rfl rfl (HF.box 2 rfl) rfl ⟨rfl,HF.below⟩
 |true=>
  have H0:Hid (Bag w (((w.alloc (.cells (cs4 x0 y0 x1 y1) 25)).alloc (.cells #[Y X k.dx,Y X k.dy,.bool k.hasC,Y X k.clip.x0,Y X k.clip.y0,Y X k.clip.x1,Y X k.clip.y1,Y X k.opa,Y X k.mode,Y X k.ct.kind,Y X k.ct.box.x0,Y X k.ct.box.y0,Y X k.ct.box.x1,Y X k.ct.box.y1,Y J k.ct.px.r,Y J k.ct.px.g,Y J k.ct.px.b,Y J k.ct.px.a,Y X k.ct.w,Y X k.ct.h,Y X k.ct.turn,pv,.bool k.hasF,fv,Y X k.fil.out,.bool true,bv,Y X k.bak.out] 35)).alloc (.cells (cs4 0 0 0 0) 25)) [(w.heap.size,cl4 ⟨x0,y0,x1,y1⟩),(w.heap.size+1,(lkq k k.hasC k.hasF true pv fv bv)),(w.heap.size+1+1,cl4 ⟨0,0,0,0⟩)]):=bag3 w (cl4 ⟨x0,y0,x1,y1⟩) (lkq k k.hasC k.hasF true pv fv bv) (cl4 ⟨0,0,0,0⟩) _ _ _;obtain ⟨a,ha⟩:∃ a,a=reachG k.bak ⟨x0,y0,x1,y1⟩:=⟨_,rfl⟩;obtain ⟨b,hb⟩:∃ b,b=areaL k:=⟨_,rfl⟩;obtain ⟨m,hm⟩:∃ m,m=meetR a b:=⟨_,rfl⟩;have HRR:Hid (R=joinR ⟨x0,y0,x1,y1⟩ m∧a=reachG k.bak ⟨x0,y0,x1,y1⟩∧b=areaL k∧m=meetR a b):=by
   refine ⟨?_,ha,hb,hm⟩;rw [HR.o,hm,ha,hb];unfold belowR;rw [hC];rfl
  have HG:Hid (GoodR k.bak):=HK.o.1.bak hC;have HAR:Hid (∀ W,Calls Tryz.prog 58 #[.agg #[Y X k.dx,Y X k.dy,.bool k.hasC,Y X k.clip.x0,Y X k.clip.y0,Y X k.clip.x1,Y X k.clip.y1,Y X k.opa,Y X k.mode,Y X k.ct.kind,Y X k.ct.box.x0,Y X k.ct.box.y0,Y X k.ct.box.x1,Y X k.ct.box.y1,Y J k.ct.px.r,Y J k.ct.px.g,Y J k.ct.px.b,Y J k.ct.px.a,Y X k.ct.w,Y X k.ct.h,Y X k.ct.turn,pv,.bool k.hasF,fv,Y X k.fil.out,.bool true,bv,Y X k.bak.out]] W (PPost W (.agg #[Y X b.x0,Y X b.y0,Y X b.x1,Y X b.y1]))):=fun W=>by
   rw [HRR.o.2.2.1];have h:Calls Tryz.prog 58 #[.agg #[Y X k.dx,Y X k.dy,.bool k.hasC,Y X k.clip.x0,Y X k.clip.y0,Y X k.clip.x1,Y X k.clip.y1,Y X k.opa,Y X k.mode,Y X k.ct.kind,Y X k.ct.box.x0,Y X k.ct.box.y0,Y X k.ct.box.x1,Y X k.ct.box.y1,Y J k.ct.px.r,Y J k.ct.px.g,Y J k.ct.px.b,Y J k.ct.px.a,Y X k.ct.w,Y X k.ct.h,Y X k.ct.turn,pv,.bool k.hasF,fv,Y X k.fil.out,.bool k.hasB,bv,Y X k.bak.out]] W (PPost W (rv (areaL k))):=area24_c k pv fv bv W HK.o.1;rw [hC] at h;exact h
  clear HR ha hb hm;go_enter Tryz.func32,Tryz.ntmps32;go_wp2_with fail;clear hC;generalize (((w.alloc (.cells (cs4 x0 y0 x1 y1) 25)).alloc (.cells #[Y X k.dx,Y X k.dy,.bool k.hasC,Y X k.clip.x0,Y X k.clip.y0,Y X k.clip.x1,Y X k.clip.y1,Y X k.opa,Y X k.mode,Y X k.ct.kind,Y X k.ct.box.x0,Y X k.ct.box.y0,Y X k.ct.box.x1,Y X k.ct.box.y1,Y J k.ct.px.r,Y J k.ct.px.g,Y J k.ct.px.b,Y J k.ct.px.a,Y X k.ct.w,Y X k.ct.h,Y X k.ct.turn,pv,.bool k.hasF,fv,Y X k.fil.out,.bool true,bv,Y X k.bak.out] 35)).alloc (.cells (cs4 0 0 0 0) 25))=W1 at *;have M0:Hid (∀ s:Kept W1.heap.size W1,Calls Tryz.prog 16 #[.agg #[bv,Y X k.bak.out],.agg #[Y X x0,Y X y0,Y X x1,Y X y1]] s.w (PPost s.w (.agg #[Y X a.x0,Y X a.y0,Y X a.x1,Y X a.y1]))):=fun s=>by
   rw [HRR.o.2.1];have hbl:=H0.o.below.trans (s.below.mono H0.o.below.size);exact reachAll_c B bv k.bak ⟨x0,y0,x1,y1⟩ s.w HG.o (SlOf.same RNode.ok (Same.of_below hbl fun b hb=>Q hb HK.o.2.2.2) HK.o.2.2.1.2.2.2) (I HK.o.2.2.2 hbl.size) HK.o.2.1
  have M2:Hid (∀ s:Kept W1.heap.size W1,Calls Tryz.prog 17 #[.agg #[Y X a.x0,Y X a.y0,Y X a.x1,Y X a.y1],.agg #[Y X b.x0,Y X b.y0,Y X b.x1,Y X b.y1]] s.w (PPost s.w (.agg #[Y X m.x0,Y X m.y0,Y X m.x1,Y X m.y1]))):=fun s=>by rw [HRR.o.2.2.2];exact meet_c a b s.w
  have M3:Hid (∀ s:Kept W1.heap.size W1,Calls Tryz.prog 31 #[.agg #[Y X x0,Y X y0,Y X x1,Y X y1],.agg #[Y X m.x0,Y X m.y0,Y X m.x1,Y X m.y1]] s.w (PPost s.w (.agg #[Y X R.x0,Y X R.y0,Y X R.x1,Y X R.y1]))):=fun s=>by rw [HRR.o.1];exact join_c ⟨x0,y0,x1,y1⟩ m s.w
  have HLD:Hid (∀ w',(∃ s:Kept W1.heap.size W1,w'=s.w)→w'.rangeAt (w.heap.size+1) 0 (lkq k k.hasC k.hasF true pv fv bv)):=fun w' ⟨s,hs⟩=>by rw [hs];exact (H0.o.call s.below).range 1 rfl 0 28
  have l26:=fun s:Kept W1.heap.size W1=>s.at (H0.o.cell 1 rfl 26 rfl);have l27:=fun s:Kept W1.heap.size W1=>s.at (H0.o.cell 1 rfl 27 rfl);have q0:=fun s:Kept W1.heap.size W1=>s.at (H0.o.cell 0 rfl 0 rfl);have q1:=fun s:Kept W1.heap.size W1=>s.at (H0.o.cell 0 rfl 1 rfl);have q2:=fun s:Kept W1.heap.size W1=>s.at (H0.o.cell 0 rfl 2 rfl);have q3:=fun s:Kept W1.heap.size W1=>s.at (H0.o.cell 0 rfl 3 rfl);refine wp_region_kept_last W1.heap.size 9 _ rfl rfl (by kernel_rfl) (by kernel_rfl) ?_;simp only [List.take_succ_cons,List.take_zero]
  iterate 5 (go_big_quiet_step (first
   |(go_at_call 16;with_reducible exact Calls.kept _ (E _) (M0.o _))
   |(go_at_call 58;with_reducible exact Calls.kept _ (E _) (HAR.o _))
   |(go_at_call 17;with_reducible exact Calls.kept _ (E _) (M2.o _))
   |(go_at_call 31;with_reducible exact Calls.kept _ (E _) (M3.o _))))
  refine wpQuiet_load rfl 35 _ rfl (w.heap.size+1) 0 rfl _ _ HLD.o Tryz.underlying35 rfl (by kernel_rfl) ?_;simp only [Act.put,O,U,V]
  repeat (go_big_quiet_step (first
   |(go_at_call 16;with_reducible exact Calls.kept _ (E _) (M0.o _))
   |(go_at_call 58;with_reducible exact Calls.kept _ (E _) (HAR.o _))
   |(go_at_call 17;with_reducible exact Calls.kept _ (E _) (M2.o _))
   |(go_at_call 31;with_reducible exact Calls.kept _ (E _) (M3.o _))))
  refine wpQuiet_nil ?_;intro s;have H2:=N (H0.o.call s.below);clear l26 l27 q0 q1 q2 q3;obtain ⟨r0,r1,r2,r3⟩:=box4 (H2.o.box 2 rfl);obtain ⟨f0,f1,f2,f3⟩:=(H2.o.box 2 rfl).f4;refine ⟨steps_plain rfl (gives_mono (R:=fun v w'=>v=undef∧w'=(((s.w.setCell ⟨w.heap.size+1+1,0,none⟩ (Y X R.x0)).setCell ⟨w.heap.size+1+1,1,none⟩ (Y X R.y0)).setCell ⟨w.heap.size+1+1,2,none⟩ (Y X R.x1)).setCell ⟨w.heap.size+1+1,3,none⟩ (Y X R.y1)) (by simp [gives,go_sem,r0,r1,r2,r3,f0,f1,f2,f3]) ?_)⟩;rintro _ _ ⟨rfl,rfl⟩;go_wp2_with fail;have HF:=H2.o.set4 2 rfl (Y X R.x0) (Y X R.y0) (Y X R.x1) (Y X R.y1);exact ret_rect (g:=w.heap.size+1+1) (r:=R) rfl rfl (HF.box 2 rfl) rfl ⟨rfl,HF.below⟩
theorem alLayer (w:World):(Instr.alloc 38 true (.tuple #[])).run Tryz.prog w=.ok (.pointer (some ⟨w.heap.size,0,none⟩)) (w.alloc (.cells #[Y X 0,Y X 0,Y X 0,Y X 0,.bool false,Y X 0,Y X 0,Y X 0,Y X 0,Y X 0,Y X 0,Y X 0,Y X 0,Y X 0,Y X 0,Y X 0,Y J 0,Y J 0,Y J 0,Y J 0,Y X 0,Y X 0,Y X 0,Z none 0 0,.bool false,Z none 0 0,Y X 0,.bool false,Z none 0 0,Y X 0,Z none 0 0] 38)):=by kernel_rfl
theorem alLook (w:World):(Instr.alloc 35 true (.tuple #[])).run Tryz.prog w=.ok (.pointer (some ⟨w.heap.size,0,none⟩)) (w.alloc (.cells #[Y X 0,Y X 0,.bool false,Y X 0,Y X 0,Y X 0,Y X 0,Y X 0,Y X 0,Y X 0,Y X 0,Y X 0,Y X 0,Y X 0,Y J 0,Y J 0,Y J 0,Y J 0,Y X 0,Y X 0,Y X 0,Z none 0 0,.bool false,Z none 0 0,Y X 0,.bool false,Z none 0 0,Y X 0] 35)):=by kernel_rfl
def ResC (n:Nat):Prop:=∀ (B:Nat) (l:Ly) (cs:List Value) (w:World),RLy n (·<B) w cs l→B≤w.heap.size→LyOk n l→Calls Tryz.prog 7 #[.agg cs.toArray] w (PPost w (rv (resN n l)))
def GrpC (n:Nat):Prop:=∀ (B:Nat) (l:Ly) (cs:List Value) (w:World),RLy (n+1) (·<B) w cs l→B≤w.heap.size→LyOk (n+1) l→Calls Tryz.prog 12 #[.agg cs.toArray] w (PPost w (rv (grpN n l)))
theorem group_step (n:Nat) (IH:ResC n):GrpC n:=by
 intro B l cs w hl hB hok;obtain ⟨pv,fv,bv,kv,rfl,_,_,hA,hK⟩:=hl;obtain ⟨R,hR⟩:∃ R,R=grpN n l:=⟨_,rfl⟩;have HR:Hid (R=l.kids.foldl (stepR (resN n)) (ctR l.look.ct)):=by
  have:R=l.kids.foldl (stepR (resN n)) (ctR l.look.ct):=hR;exact this
 rw [←hR];have HOK:Hid (LkOk l.look∧∀ k∈l.kids,LyOk n k):=hok;obtain ⟨k,hk⟩:∃ k,k=l.look:=⟨_,rfl⟩;obtain ⟨i0,hi0⟩:∃ k,k=l.i0:=⟨_,rfl⟩;obtain ⟨i1,hi1⟩:∃ k,k=l.i1:=⟨_,rfl⟩;obtain ⟨ks,hks⟩:∃ k,k=l.kids:=⟨_,rfl⟩;rw [←hk,←hks] at HOK HR;rw [←hk] at hA;rw [←hks] at hK;rw [←hk,←hi0,←hi1];clear hk hi0 hi1 hks hR hok;obtain ⟨pa,pn,pc,rfl⟩:=sl_form hA.2.1;have H0:Hid (Bag w ((w.alloc (.cells #[Y X i0,Y X i1,Y X k.dx,Y X k.dy,.bool k.hasC,Y X k.clip.x0,Y X k.clip.y0,Y X k.clip.x1,Y X k.clip.y1,Y X k.opa,Y X k.mode,Y X k.ct.kind,Y X k.ct.box.x0,Y X k.ct.box.y0,Y X k.ct.box.x1,Y X k.ct.box.y1,Y J k.ct.px.r,Y J k.ct.px.g,Y J k.ct.px.b,Y J k.ct.px.a,Y X k.ct.w,Y X k.ct.h,Y X k.ct.turn,Z pa pn pc,.bool k.hasF,fv,Y X k.fil.out,.bool k.hasB,bv,Y X k.bak.out,kv] 38)).alloc (.cells (cs4 0 0 0 0) 25)) [(w.heap.size,lyc i0 i1 k (Z pa pn pc) fv bv kv),(w.heap.size+1,cl4 ⟨0,0,0,0⟩)]):=bag2 w (lyc i0 i1 k (Z pa pn pc) fv bv kv) (cl4 ⟨0,0,0,0⟩) _ _;obtain ⟨ka,kc,hkv,hkcap,hkcm,hkel⟩:=hK;subst hkv;obtain ⟨m,hm⟩:∃ m,m=ks.length:=⟨_,rfl⟩;have HM:=N hm;rw [←hm] at hkcap H0 ⊢;have HKE:Hid (∀ (W:World),Below w.heap.size w W→∀ (j:Nat) (x:Ly),ks[j]?=some x→∃ b o cs,ka=some ⟨b,o,none⟩∧LiesAt W b (o+j*31) cs∧RLy n (·<B) W cs x):=fun W hb j x hx=>by
  rcases hkel with h|⟨b,o,h1,h2,h3⟩
  ·subst h;simp at hx
  ·obtain ⟨cs,_,h4,h5⟩:=h3 j x hx;have hsm:Same (·<B) w W:=Same.of_below hb fun b (hb:b<B)=>Q hb hB;exact ⟨b,o,cs,h1,h4.same hsm h2,(RLy.ok n).same hsm h5⟩
 have HBW:Hid (B≤w.heap.size):=hB;unfold maxLen at hkcm;have HCT:Hid (∀ W,Calls Tryz.prog 30 #[ctv k.ct (Z pa pn pc)] W (PPost W (rv (ctR k.ct)))):=fun W=>content_c k.ct _ W HOK.o.1.ct ⟨_,_,_,rfl⟩;obtain ⟨c0,hc0⟩:∃ c0,c0=ctR k.ct:=⟨_,rfl⟩;have HC0:Hid (RcP c0):=by
  have:RcP c0:=by rw [hc0];exact ctR_pl HOK.o.1.ct
  exact this
 rw [←hc0] at HCT HR;clear hA hkel hB hm hc0;go_enter Tryz.func12,Tryz.ntmps12;go_wp2_with fail;generalize ((w.alloc (.cells #[Y X i0,Y X i1,Y X k.dx,Y X k.dy,.bool k.hasC,Y X k.clip.x0,Y X k.clip.y0,Y X k.clip.x1,Y X k.clip.y1,Y X k.opa,Y X k.mode,Y X k.ct.kind,Y X k.ct.box.x0,Y X k.ct.box.y0,Y X k.ct.box.x1,Y X k.ct.box.y1,Y J k.ct.px.r,Y J k.ct.px.g,Y J k.ct.px.b,Y J k.ct.px.a,Y X k.ct.w,Y X k.ct.h,Y X k.ct.turn,Z pa pn pc,.bool k.hasF,fv,Y X k.fil.out,.bool k.hasB,bv,Y X k.bak.out,Z ka m kc] 38)).alloc (.cells (cs4 0 0 0 0) 25))=W0 at *;have HL0:Hid (W0.rangeAt w.heap.size 11 (ctc k.ct (Z pa pn pc))):=H0.o.range 0 rfl 11 13
 go_wp2_with (with_reducible refine wpList_load_mid rfl 30 _ rfl w.heap.size 11 rfl (ctc k.ct (Z pa pn pc)) _ HL0.o Tryz.underlying30 rfl (by kernel_rfl) ?_;simp only [Act.put,O,U,V])
 refine (HCT.o W0).mono ?_;rintro e W1 ⟨rfl,hb1⟩;have H1:=N (H0.o.call hb1);have H2:Hid (Bag w (W1.alloc (.cells #[Y X c0.x0,Y X c0.y0,Y X c0.x1,Y X c0.y1] 25)) [(w.heap.size,lyc i0 i1 k (Z pa pn pc) fv bv (Z ka m kc)),(w.heap.size+1,cl4 ⟨0,0,0,0⟩),(W1.heap.size,cl4 ((ks.take 0).foldl (stepR (resN n)) c0))]):=H1.o.alloc (cl4 c0) _;have l30:=H2.o.cell 0 rfl 30 rfl;clear hb1 H0 H1 HCT;go_wp2_with fail;go_loopw [13] (fun jv wr=>∃ j:Nat,j≤m∧jv=Y X j∧Bag w wr [(w.heap.size,lyc i0 i1 k (Z pa pn pc) fv bv (Z ka m kc)),(w.heap.size+1,cl4 ⟨0,0,0,0⟩),(W1.heap.size,cl4 ((ks.take j).foldl (stepR (resN n)) c0))]) (fun jv _=>m-(intOf jv).toNat)
 case atStart=>exact ⟨0,by omega,rfl,H2.o⟩
 case round=>
  obtain ⟨j,hj,rfl,hr⟩:=hrel;obtain ⟨q,hq⟩:∃ q,q=(ks.take j).foldl (stepR (resN n)) c0:=⟨_,rfl⟩;have HQ:Hid (q=(ks.take j).foldl (stepR (resN n)) c0∧RcP q):=⟨hq,by rw [hq];exact foldS_pl _ _ HC0.o fun x hx=>HOK.o.2 x (List.mem_of_mem_take hx)⟩;rw [←hq] at hr;have H3:=N hr;clear hr hq H2 l30;by_cases hjl:j<m
  ·obtain ⟨x,hx⟩:∃ x,ks[j]?=some x:=⟨_,T (by rw [←HM.o];exact hjl)⟩;obtain ⟨b,kof,cs,hka,hlies,hrl⟩:=HKE.o wr H3.o.below j x hx;subst hka;have hxok:LyOk n x:=HOK.o.2 x (List.mem_of_getElem? hx);have HRX:Hid (∀ W,Below w.heap.size w W→RLy n (·<B) W cs x):=by
    obtain ⟨b2,o2,cs2,e2,hl2,hr2⟩:=HKE.o w (Below.refl _ _) j x hx;intro W hb;obtain ⟨b3,o3,cs3,e3,hl3,hr3⟩:=HKE.o W hb j x hx;have hsm:Same (·<B) wr w:=fun b0 (hb0:b0<B)=>(H3.o.below.block b0 (Q hb0 HBW.o)).symm;exact (RLy.ok n).same (Same.of_below hb fun b (hb:b<B)=>Q hb HBW.o) ((RLy.ok n).same hsm hrl)
   match n,IH,hrl,hxok,HRX with
   |n+1,IH,hrl,hxok,HRX=>
    have hrl':=hrl;obtain ⟨pk,fk,bk,kk,hcs,_,_,hAk,hKk⟩:=hrl';subst hcs;obtain ⟨pk0,pk1,pk2,rfl⟩:=sl_form hAk.2.1;obtain ⟨fk0,fk1,fk2,rfl⟩:=sl_form hAk.2.2.1;obtain ⟨bk0,bk1,bk2,rfl⟩:=sl_form hAk.2.2.2;obtain ⟨kk0,kk1,kk2,rfl⟩:=sl_form hKk;obtain ⟨kl,hkl⟩:∃ k,k=x.look:=⟨_,rfl⟩;obtain ⟨a0,ha0⟩:∃ k,k=x.i0:=⟨_,rfl⟩;obtain ⟨a1,ha1⟩:∃ k,k=x.i1:=⟨_,rfl⟩;rw [←hkl] at hAk hlies HRX;rw [←ha0,←ha1] at hlies HRX;obtain ⟨be,hbe⟩:∃ r,r=belowR q kl:=⟨_,rfl⟩;obtain ⟨rx,hrx⟩:∃ r,r=resN (n+1) x:=⟨_,rfl⟩;obtain ⟨z,hz⟩:∃ z,z=joinR be rx:=⟨_,rfl⟩;have HZ:Hid (z=(ks.take (j+1)).foldl (stepR (resN (n+1))) c0):=by
     have:z=(ks.take (j+1)).foldl (stepR (resN (n+1))) c0:=by
      rw [hz,hbe,hrx,List.take_add_one,hx,HQ.o.1,hkl];simp [stepR]
     exact this
    have H4:Hid (Bag w (wr.alloc (.cells #[Y X a0,Y X a1,Y X kl.dx,Y X kl.dy,.bool kl.hasC,Y X kl.clip.x0,Y X kl.clip.y0,Y X kl.clip.x1,Y X kl.clip.y1,Y X kl.opa,Y X kl.mode,Y X kl.ct.kind,Y X kl.ct.box.x0,Y X kl.ct.box.y0,Y X kl.ct.box.x1,Y X kl.ct.box.y1,Y J kl.ct.px.r,Y J kl.ct.px.g,Y J kl.ct.px.b,Y J kl.ct.px.a,Y X kl.ct.w,Y X kl.ct.h,Y X kl.ct.turn,Z pk0 pk1 pk2,.bool kl.hasF,Z fk0 fk1 fk2,Y X kl.fil.out,.bool kl.hasB,Z bk0 bk1 bk2,Y X kl.bak.out,Z kk0 kk1 kk2] 38)) [(w.heap.size,lyc i0 i1 k (Z pa pn pc) fv bv (Z (some ⟨b,kof,none⟩) m kc)),(w.heap.size+1,cl4 ⟨0,0,0,0⟩),(W1.heap.size,cl4 q),(wr.heap.size,lyc a0 a1 kl (Z pk0 pk1 pk2) (Z fk0 fk1 fk2) (Z bk0 bk1 bk2) (Z kk0 kk1 kk2))]):=H3.o.alloc (lyc a0 a1 kl (Z pk0 pk1 pk2) (Z fk0 fk1 fk2) (Z bk0 bk1 bk2) (Z kk0 kk1 kk2)) _;have hj0:(0:Int)≤(j:Int):=by omega
    have hj1:(j:Int)<(m:Int):=by omega
    have HAK:Hid (LkAt (·<B) wr kl (Z pk0 pk1 pk2) (Z fk0 fk1 fk2) (Z bk0 bk1 bk2)∧LkOk kl):=⟨hAk,by rw [hkl];exact hxok.1⟩;have HBE:Hid (be=belowR q kl∧rx=resN (n+1) x∧z=joinR be rx∧LyOk (n+1) x):=⟨hbe,hrx,hz,hxok⟩;have HWR:Hid (Below w.heap.size w wr):=H3.o.below;have hlies2:wr.rangeAt b (kof+j*31) (lyq a0 a1 kl kl.hasC kl.hasF kl.hasB (Z pk0 pk1 pk2) (Z fk0 fk1 fk2) (Z bk0 bk1 bk2) (Z kk0 kk1 kk2)):=hlies;clear hrl hxok hAk hKk hlies hx hkl ha0 ha1 hbe hrx hz H3;have HLK:Hid (wr.rangeAt b (kof+j*31) (lyq a0 a1 kl kl.hasC kl.hasF kl.hasB (Z pk0 pk1 pk2) (Z fk0 fk1 fk2) (Z bk0 bk1 bk2) (Z kk0 kk1 kk2))):=hlies2;clear hlies2
    go_wp2_with (first|(with_reducible refine wpList_load_mid rfl 38 _ rfl b (kof+j*31) rfl (lyq a0 a1 kl kl.hasC kl.hasF kl.hasB (Z pk0 pk1 pk2) (Z fk0 fk1 fk2) (Z bk0 bk1 bk2) (Z kk0 kk1 kk2)) _ HLK.o Tryz.underlying38 rfl (by kernel_rfl) ?_;simp only [Act.put,O,U,V])|(with_reducible refine wpList_alloc_store rfl rfl 38 rfl _ _ rfl _ #[Y X a0,Y X a1,Y X kl.dx,Y X kl.dy,.bool kl.hasC,Y X kl.clip.x0,Y X kl.clip.y0,Y X kl.clip.x1,Y X kl.clip.y1,Y X kl.opa,Y X kl.mode,Y X kl.ct.kind,Y X kl.ct.box.x0,Y X kl.ct.box.y0,Y X kl.ct.box.x1,Y X kl.ct.box.y1,Y J kl.ct.px.r,Y J kl.ct.px.g,Y J kl.ct.px.b,Y J kl.ct.px.a,Y X kl.ct.w,Y X kl.ct.h,Y X kl.ct.turn,Z pk0 pk1 pk2,.bool kl.hasF,Z fk0 fk1 fk2,Y X kl.fil.out,.bool kl.hasB,Z bk0 bk1 bk2,Y X kl.bak.out,Z kk0 kk1 kk2] alLayer rfl rfl (by kernel_rfl) (by kernel_rfl) (by simp [Value.oneCell']) ?_;simp only [Act.put,O,U,V]))
    generalize hW4:wr.alloc (.cells #[Y X a0,Y X a1,Y X kl.dx,Y X kl.dy,.bool kl.hasC,Y X kl.clip.x0,Y X kl.clip.y0,Y X kl.clip.x1,Y X kl.clip.y1,Y X kl.opa,Y X kl.mode,Y X kl.ct.kind,Y X kl.ct.box.x0,Y X kl.ct.box.y0,Y X kl.ct.box.x1,Y X kl.ct.box.y1,Y J kl.ct.px.r,Y J kl.ct.px.g,Y J kl.ct.px.b,Y J kl.ct.px.a,Y X kl.ct.w,Y X kl.ct.h,Y X kl.ct.turn,Z pk0 pk1 pk2,.bool kl.hasF,Z fk0 fk1 fk2,Y X kl.fil.out,.bool kl.hasB,Z bk0 bk1 bk2,Y X kl.bak.out,Z kk0 kk1 kk2] 38)=W4 at *;have HB4:Hid (Below wr.heap.size wr W4):=by
     have:Below wr.heap.size wr W4:=by rw [←hW4];exact below_new _ _
     exact this
    clear hW4;have M0:Hid (∀ s:Kept W4.heap.size W4,Calls Tryz.prog 32 #[.agg #[Y X q.x0,Y X q.y0,Y X q.x1,Y X q.y1],.agg #[Y X kl.dx,Y X kl.dy,.bool kl.hasC,Y X kl.clip.x0,Y X kl.clip.y0,Y X kl.clip.x1,Y X kl.clip.y1,Y X kl.opa,Y X kl.mode,Y X kl.ct.kind,Y X kl.ct.box.x0,Y X kl.ct.box.y0,Y X kl.ct.box.x1,Y X kl.ct.box.y1,Y J kl.ct.px.r,Y J kl.ct.px.g,Y J kl.ct.px.b,Y J kl.ct.px.a,Y X kl.ct.w,Y X kl.ct.h,Y X kl.ct.turn,Z pk0 pk1 pk2,.bool kl.hasF,Z fk0 fk1 fk2,Y X kl.fil.out,.bool kl.hasB,Z bk0 bk1 bk2,Y X kl.bak.out]] s.w (PPost s.w (.agg #[Y X be.x0,Y X be.y0,Y X be.x1,Y X be.y1]))):=fun s=>by
     rw [HBE.o.1];have hbl:=HB4.o.trans (s.below.mono HB4.o.size);exact below_c B q kl (Z pk0 pk1 pk2) (Z fk0 fk1 fk2) (Z bk0 bk1 bk2) s.w (HAK.o.1.same (Same.of_below hbl fun b (hb:b<B)=>Q hb (I HBW.o HWR.o.size))) (I HBW.o (I HWR.o.size hbl.size)) HAK.o.2 HQ.o.2
    have M1:Hid (∀ s:Kept W4.heap.size W4,Calls Tryz.prog 7 #[.agg #[Y X a0,Y X a1,Y X kl.dx,Y X kl.dy,.bool kl.hasC,Y X kl.clip.x0,Y X kl.clip.y0,Y X kl.clip.x1,Y X kl.clip.y1,Y X kl.opa,Y X kl.mode,Y X kl.ct.kind,Y X kl.ct.box.x0,Y X kl.ct.box.y0,Y X kl.ct.box.x1,Y X kl.ct.box.y1,Y J kl.ct.px.r,Y J kl.ct.px.g,Y J kl.ct.px.b,Y J kl.ct.px.a,Y X kl.ct.w,Y X kl.ct.h,Y X kl.ct.turn,Z pk0 pk1 pk2,.bool kl.hasF,Z fk0 fk1 fk2,Y X kl.fil.out,.bool kl.hasB,Z bk0 bk1 bk2,Y X kl.bak.out,Z kk0 kk1 kk2]] s.w (PPost s.w (.agg #[Y X rx.x0,Y X rx.y0,Y X rx.x1,Y X rx.y1]))):=fun s=>by
     rw [HBE.o.2.1];have hbl:=H4.o.below.trans (s.below.mono H4.o.below.size);exact IH B x _ s.w (HRX.o s.w hbl) (I HBW.o hbl.size) HBE.o.2.2.2
    have M2:Hid (∀ s:Kept W4.heap.size W4,Calls Tryz.prog 31 #[.agg #[Y X be.x0,Y X be.y0,Y X be.x1,Y X be.y1],.agg #[Y X rx.x0,Y X rx.y0,Y X rx.x1,Y X rx.y1]] s.w (PPost s.w (.agg #[Y X z.x0,Y X z.y0,Y X z.x1,Y X z.y1]))):=fun s=>by rw [HBE.o.2.2.1];exact join_c be rx s.w
    have q0:=fun s:Kept W4.heap.size W4=>s.at (H4.o.cell 2 rfl 0 rfl);have q1:=fun s:Kept W4.heap.size W4=>s.at (H4.o.cell 2 rfl 1 rfl);have q2:=fun s:Kept W4.heap.size W4=>s.at (H4.o.cell 2 rfl 2 rfl);have q3:=fun s:Kept W4.heap.size W4=>s.at (H4.o.cell 2 rfl 3 rfl);have HLD0:Hid (∀ w',(∃ s:Kept W4.heap.size W4,w'=s.w)→w'.rangeAt wr.heap.size 2 (lkq kl kl.hasC kl.hasF kl.hasB (Z pk0 pk1 pk2) (Z fk0 fk1 fk2) (Z bk0 bk1 bk2))):=fun w' ⟨s,hs⟩=>by rw [hs];exact (H4.o.call s.below).range 3 rfl 2 28
    have HLD1:Hid (∀ w',(∃ s:Kept W4.heap.size W4,w'=s.w)→w'.rangeAt wr.heap.size 0 (lyq a0 a1 kl kl.hasC kl.hasF kl.hasB (Z pk0 pk1 pk2) (Z fk0 fk1 fk2) (Z bk0 bk1 bk2) (Z kk0 kk1 kk2))):=fun w' ⟨s,hs⟩=>by rw [hs];exact (H4.o.call s.below).range 3 rfl 0 31
    refine wp_region_kept_last W4.heap.size 7 _ rfl rfl (by kernel_rfl) (by kernel_rfl) ?_;simp only [List.take_succ_cons,List.take_zero]
    iterate 2 (go_big_quiet_step (first
     |(go_at_call 32;with_reducible exact Calls.kept _ (E _) (M0.o _))
     |(go_at_call 7;with_reducible exact Calls.kept _ (E _) (M1.o _))
     |(go_at_call 31;with_reducible exact Calls.kept _ (E _) (M2.o _))))
    refine wpQuiet_load rfl 35 _ rfl wr.heap.size 2 rfl _ _ HLD0.o Tryz.underlying35 rfl (by kernel_rfl) ?_;simp only [Act.put,O,U,V]
    (go_big_quiet_step (first
     |(go_at_call 32;with_reducible exact Calls.kept _ (E _) (M0.o _))
     |(go_at_call 7;with_reducible exact Calls.kept _ (E _) (M1.o _))
     |(go_at_call 31;with_reducible exact Calls.kept _ (E _) (M2.o _))))
    refine wpQuiet_load rfl 38 _ rfl wr.heap.size 0 rfl _ _ HLD1.o Tryz.underlying38 rfl (by kernel_rfl) ?_;simp only [Act.put,O,U,V]
    repeat (go_big_quiet_step (first
     |(go_at_call 32;with_reducible exact Calls.kept _ (E _) (M0.o _))
     |(go_at_call 7;with_reducible exact Calls.kept _ (E _) (M1.o _))
     |(go_at_call 31;with_reducible exact Calls.kept _ (E _) (M2.o _))))
    refine wpQuiet_nil ?_;intro s;have H5:Hid (Bag w s.w [(w.heap.size,lyc i0 i1 k (Z pa pn pc) fv bv (Z (some ⟨b,kof,none⟩) m kc)),(w.heap.size+1,cl4 ⟨0,0,0,0⟩),(W1.heap.size,cl4 q)]):=(H4.o.call s.below).take (List.Sublist.cons_cons _ (List.Sublist.cons_cons _ (List.Sublist.cons_cons _ (List.nil_sublist _))));clear q0 q1 q2 q3 H4;obtain ⟨r0,r1,r2,r3⟩:=box4 (H5.o.box 2 rfl);obtain ⟨f0,f1,f2,f3⟩:=(H5.o.box 2 rfl).f4;have H6:Hid (Bag w ((((s.w.setCell ⟨W1.heap.size,0,none⟩ (Y X z.x0)).setCell ⟨W1.heap.size,1,none⟩ (Y X z.y0)).setCell ⟨W1.heap.size,2,none⟩ (Y X z.x1)).setCell ⟨W1.heap.size,3,none⟩ (Y X z.y1)) [(w.heap.size,lyc i0 i1 k (Z pa pn pc) fv bv (Z (some ⟨b,kof,none⟩) m kc)),(w.heap.size+1,cl4 ⟨0,0,0,0⟩),(W1.heap.size,cl4 ((ks.take (j+1)).foldl (stepR (resN (n+1))) c0))]):=by
     rw [←HZ.o];exact H5.o.set4 2 rfl _ _ _ _
    refine ⟨steps_plain rfl (gives_mono (R:=fun v w'=>v=undef∧w'=(((s.w.setCell ⟨W1.heap.size,0,none⟩ (Y X z.x0)).setCell ⟨W1.heap.size,1,none⟩ (Y X z.y0)).setCell ⟨W1.heap.size,2,none⟩ (Y X z.x1)).setCell ⟨W1.heap.size,3,none⟩ (Y X z.y1)) (by simp [gives,go_sem,r0,r1,r2,r3,f0,f1,f2,f3]) ?_)⟩;rintro _ _ ⟨rfl,rfl⟩;clear r0 r1 r2 r3 f0 f1 f2 f3 M0 M1 M2 H5 HZ HBE HAK;go_wp2_with fail;go_roundw
    case rel=>exact ⟨j+1,by omega,by go_num,H6.o⟩
    case measure=>simp [intOf];omega
  ·have ej:j=m:=by omega
   subst ej;have eR:R=q:=by rw [HR.o,HQ.o.1,HM.o,List.take_length]
   have HER:=N eR;obtain ⟨q0,q1,q2,q3⟩:=box4 (H3.o.box 2 rfl);obtain ⟨r0,r1,r2,r3⟩:=box4 (H3.o.box 1 rfl);obtain ⟨f0,f1,f2,f3⟩:=(H3.o.box 1 rfl).f4;clear eR;go_wp2_with fail;have HF:=H3.o.set4 1 rfl (Y X q.x0) (Y X q.y0) (Y X q.x1) (Y X q.y1);exact ret_rect (g:=w.heap.size+1) (r:=q) rfl rfl (HF.box 1 rfl) rfl ⟨by rw [HER.o],HF.below⟩
theorem result_step (n:Nat) (HG:GrpC n):ResC (n+1):=by
 intro B l cs w hl hB hok;have HGR:Hid (∀ W,Below w.heap.size w W→Calls Tryz.prog 12 #[.agg cs.toArray] W (PPost W (rv (grpN n l)))):=fun W hb=>
  HG B l cs W ((RLy.ok (n+1)).same (Same.of_below hb fun b (hbl:b<B)=>Q hbl hB) hl) (I hB hb.size) hok
 obtain ⟨pv,fv,bv,kv,rfl,_,_,hA,hK⟩:=hl;obtain ⟨R,hR⟩:∃ R,R=resN (n+1) l:=⟨_,rfl⟩;obtain ⟨g,hg⟩:∃ g,g=grpN n l:=⟨_,rfl⟩;have HGP:Hid (RcP g):=by
  have:RcP g:=by rw [hg];exact grpN_pl hok
  exact this
 have HR:Hid (R=resK l.look g):=by
  have:R=resK l.look g:=by rw [hR,hg];rfl
  exact this
 rw [←hR];rw [←hg] at HGR;obtain ⟨k,hk⟩:∃ k,k=l.look:=⟨_,rfl⟩;obtain ⟨i0,hi0⟩:∃ k,k=l.i0:=⟨_,rfl⟩;obtain ⟨i1,hi1⟩:∃ k,k=l.i1:=⟨_,rfl⟩;have HOK:Hid (LkOk k):=by
  have:LkOk k:=by rw [hk];exact hok.1
  exact this
 rw [←hk] at HR HGR hA;rw [←hi0,←hi1] at HGR;rw [←hk,←hi0,←hi1];obtain ⟨pa,pn,pc,rfl⟩:=sl_form hA.2.1;obtain ⟨fa,fn,fc,rfl⟩:=sl_form hA.2.2.1;obtain ⟨ba,bn,bc,rfl⟩:=sl_form hA.2.2.2;obtain ⟨ka,kn,kc,rfl⟩:=sl_form hK;have HA:Hid (SlOf RNode 3 (·<B) w (Z fa fn fc) k.fil.nds∧B≤w.heap.size):=⟨hA.2.2.1,hB⟩;have HGR2:Hid (∀ W,Below w.heap.size w W→Calls Tryz.prog 12 #[.agg #[Y X i0,Y X i1,Y X k.dx,Y X k.dy,.bool k.hasC,Y X k.clip.x0,Y X k.clip.y0,Y X k.clip.x1,Y X k.clip.y1,Y X k.opa,Y X k.mode,Y X k.ct.kind,Y X k.ct.box.x0,Y X k.ct.box.y0,Y X k.ct.box.x1,Y X k.ct.box.y1,Y J k.ct.px.r,Y J k.ct.px.g,Y J k.ct.px.b,Y J k.ct.px.a,Y X k.ct.w,Y X k.ct.h,Y X k.ct.turn,Z pa pn pc,.bool k.hasF,Z fa fn fc,Y X k.fil.out,.bool k.hasB,Z ba bn bc,Y X k.bak.out,Z ka kn kc]] W (PPost W (rv g))):=HGR.o;clear hk hi0 hi1 hR hg hA hK hB hok HGR HG;have HR0:Hid (((w.alloc (.cells #[Y X i0,Y X i1,Y X k.dx,Y X k.dy,.bool k.hasC,Y X k.clip.x0,Y X k.clip.y0,Y X k.clip.x1,Y X k.clip.y1,Y X k.opa,Y X k.mode,Y X k.ct.kind,Y X k.ct.box.x0,Y X k.ct.box.y0,Y X k.ct.box.x1,Y X k.ct.box.y1,Y J k.ct.px.r,Y J k.ct.px.g,Y J k.ct.px.b,Y J k.ct.px.a,Y X k.ct.w,Y X k.ct.h,Y X k.ct.turn,Z pa pn pc,.bool k.hasF,Z fa fn fc,Y X k.fil.out,.bool k.hasB,Z ba bn bc,Y X k.bak.out,Z ka kn kc] 38)).alloc (.cells (cs4 0 0 0 0) 25)).rangeAt w.heap.size 2 (lkq k k.hasC k.hasF k.hasB (Z pa pn pc) (Z fa fn fc) (Z ba bn bc))):=(bag2 w (lyq i0 i1 k k.hasC k.hasF k.hasB (Z pa pn pc) (Z fa fn fc) (Z ba bn bc) (Z ka kn kc)) (cl4 ⟨0,0,0,0⟩) 38 25).range 0 rfl 2 28;have H1:Hid (Bag w (((w.alloc (.cells #[Y X i0,Y X i1,Y X k.dx,Y X k.dy,.bool k.hasC,Y X k.clip.x0,Y X k.clip.y0,Y X k.clip.x1,Y X k.clip.y1,Y X k.opa,Y X k.mode,Y X k.ct.kind,Y X k.ct.box.x0,Y X k.ct.box.y0,Y X k.ct.box.x1,Y X k.ct.box.y1,Y J k.ct.px.r,Y J k.ct.px.g,Y J k.ct.px.b,Y J k.ct.px.a,Y X k.ct.w,Y X k.ct.h,Y X k.ct.turn,Z pa pn pc,.bool k.hasF,Z fa fn fc,Y X k.fil.out,.bool k.hasB,Z ba bn bc,Y X k.bak.out,Z ka kn kc] 38)).alloc (.cells (cs4 0 0 0 0) 25)).alloc (.cells #[Y X k.dx,Y X k.dy,.bool k.hasC,Y X k.clip.x0,Y X k.clip.y0,Y X k.clip.x1,Y X k.clip.y1,Y X k.opa,Y X k.mode,Y X k.ct.kind,Y X k.ct.box.x0,Y X k.ct.box.y0,Y X k.ct.box.x1,Y X k.ct.box.y1,Y J k.ct.px.r,Y J k.ct.px.g,Y J k.ct.px.b,Y J k.ct.px.a,Y X k.ct.w,Y X k.ct.h,Y X k.ct.turn,Z pa pn pc,.bool k.hasF,Z fa fn fc,Y X k.fil.out,.bool k.hasB,Z ba bn bc,Y X k.bak.out] 35)) [(w.heap.size,(lyq i0 i1 k k.hasC k.hasF k.hasB (Z pa pn pc) (Z fa fn fc) (Z ba bn bc) (Z ka kn kc))),(w.heap.size+1,cl4 ⟨0,0,0,0⟩),(w.heap.size+1+1,(lkq k k.hasC k.hasF k.hasB (Z pa pn pc) (Z fa fn fc) (Z ba bn bc)))]):=bag3 w (lyq i0 i1 k k.hasC k.hasF k.hasB (Z pa pn pc) (Z fa fn fc) (Z ba bn bc) (Z ka kn kc)) (cl4 ⟨0,0,0,0⟩) (lkq k k.hasC k.hasF k.hasB (Z pa pn pc) (Z fa fn fc) (Z ba bn bc)) _ _ _;have HR1:Hid ((((w.alloc (.cells #[Y X i0,Y X i1,Y X k.dx,Y X k.dy,.bool k.hasC,Y X k.clip.x0,Y X k.clip.y0,Y X k.clip.x1,Y X k.clip.y1,Y X k.opa,Y X k.mode,Y X k.ct.kind,Y X k.ct.box.x0,Y X k.ct.box.y0,Y X k.ct.box.x1,Y X k.ct.box.y1,Y J k.ct.px.r,Y J k.ct.px.g,Y J k.ct.px.b,Y J k.ct.px.a,Y X k.ct.w,Y X k.ct.h,Y X k.ct.turn,Z pa pn pc,.bool k.hasF,Z fa fn fc,Y X k.fil.out,.bool k.hasB,Z ba bn bc,Y X k.bak.out,Z ka kn kc] 38)).alloc (.cells (cs4 0 0 0 0) 25)).alloc (.cells #[Y X k.dx,Y X k.dy,.bool k.hasC,Y X k.clip.x0,Y X k.clip.y0,Y X k.clip.x1,Y X k.clip.y1,Y X k.opa,Y X k.mode,Y X k.ct.kind,Y X k.ct.box.x0,Y X k.ct.box.y0,Y X k.ct.box.x1,Y X k.ct.box.y1,Y J k.ct.px.r,Y J k.ct.px.g,Y J k.ct.px.b,Y J k.ct.px.a,Y X k.ct.w,Y X k.ct.h,Y X k.ct.turn,Z pa pn pc,.bool k.hasF,Z fa fn fc,Y X k.fil.out,.bool k.hasB,Z ba bn bc,Y X k.bak.out] 35)).rangeAt w.heap.size 0 (lyq i0 i1 k k.hasC k.hasF k.hasB (Z pa pn pc) (Z fa fn fc) (Z ba bn bc) (Z ka kn kc))):=H1.o.range 0 rfl 0 31;by_cases h0:k.opa=0
 ·have d0:(k.opa==0)=true:=by simp [h0]
  obtain rfl:R=Rc.zero:=HR.o.trans (if_pos h0);have HF:Hid (Bag w (((w.alloc (.cells #[Y X i0,Y X i1,Y X k.dx,Y X k.dy,.bool k.hasC,Y X k.clip.x0,Y X k.clip.y0,Y X k.clip.x1,Y X k.clip.y1,Y X k.opa,Y X k.mode,Y X k.ct.kind,Y X k.ct.box.x0,Y X k.ct.box.y0,Y X k.ct.box.x1,Y X k.ct.box.y1,Y J k.ct.px.r,Y J k.ct.px.g,Y J k.ct.px.b,Y J k.ct.px.a,Y X k.ct.w,Y X k.ct.h,Y X k.ct.turn,Z pa pn pc,.bool k.hasF,Z fa fn fc,Y X k.fil.out,.bool k.hasB,Z ba bn bc,Y X k.bak.out,Z ka kn kc] 38)).alloc (.cells (cs4 0 0 0 0) 25)).alloc (.cells #[Y X k.dx,Y X k.dy,.bool k.hasC,Y X k.clip.x0,Y X k.clip.y0,Y X k.clip.x1,Y X k.clip.y1,Y X k.opa,Y X k.mode,Y X k.ct.kind,Y X k.ct.box.x0,Y X k.ct.box.y0,Y X k.ct.box.x1,Y X k.ct.box.y1,Y J k.ct.px.r,Y J k.ct.px.g,Y J k.ct.px.b,Y J k.ct.px.a,Y X k.ct.w,Y X k.ct.h,Y X k.ct.turn,Z pa pn pc,.bool k.hasF,Z fa fn fc,Y X k.fil.out,.bool k.hasB,Z ba bn bc,Y X k.bak.out] 35)) [(w.heap.size,(lyq i0 i1 k k.hasC k.hasF k.hasB (Z pa pn pc) (Z fa fn fc) (Z ba bn bc) (Z ka kn kc))),(w.heap.size+1,cl4 ⟨0,0,0,0⟩),(w.heap.size+1+1,(lkq k k.hasC k.hasF k.hasB (Z pa pn pc) (Z fa fn fc) (Z ba bn bc)))]):=H1.o;clear h0 HR HGR2 HR1 H1;go_enter Tryz.func7,Tryz.ntmps7
  go_wp2_with (first|(with_reducible refine wpList_load_mid rfl 35 _ rfl w.heap.size 2 rfl (lkq k k.hasC k.hasF k.hasB (Z pa pn pc) (Z fa fn fc) (Z ba bn bc)) _ HR0.o Tryz.underlying35 rfl (by kernel_rfl) ?_;simp only [Act.put,O,U,V])|(with_reducible refine wpList_alloc_store rfl rfl 35 rfl _ _ rfl _ #[Y X k.dx,Y X k.dy,.bool k.hasC,Y X k.clip.x0,Y X k.clip.y0,Y X k.clip.x1,Y X k.clip.y1,Y X k.opa,Y X k.mode,Y X k.ct.kind,Y X k.ct.box.x0,Y X k.ct.box.y0,Y X k.ct.box.x1,Y X k.ct.box.y1,Y J k.ct.px.r,Y J k.ct.px.g,Y J k.ct.px.b,Y J k.ct.px.a,Y X k.ct.w,Y X k.ct.h,Y X k.ct.turn,Z pa pn pc,.bool k.hasF,Z fa fn fc,Y X k.fil.out,.bool k.hasB,Z ba bn bc,Y X k.bak.out] alLook (by simp [size_alloc,Act.eval,Act.put]) rfl (by kernel_rfl) (by kernel_rfl) (by simp [Value.oneCell']) ?_;simp only [Act.put,O,U,V,size_alloc]))
  exact ret_rect (g:=w.heap.size+1) (r:=Rc.zero) rfl rfl (HF.o.box 1 rfl) rfl ⟨rfl,HF.o.below⟩
 ·have d0:(k.opa==0)=false:=by simp [h0]
  have HRN:Hid (R=moveR (clpR k (filR k g)) k.dx k.dy):=by
   have:R=moveR (clpR k (filR k g)) k.dx k.dy:=HR.o.trans (if_neg h0);exact this
  clear h0 HR;go_enter Tryz.func7,Tryz.ntmps7
  go_wp2_with (first|(with_reducible refine wpList_load_mid rfl 35 _ rfl w.heap.size 2 rfl (lkq k k.hasC k.hasF k.hasB (Z pa pn pc) (Z fa fn fc) (Z ba bn bc)) _ HR0.o Tryz.underlying35 rfl (by kernel_rfl) ?_;simp only [Act.put,O,U,V])|(with_reducible refine wpList_alloc_store rfl rfl 35 rfl _ _ rfl _ #[Y X k.dx,Y X k.dy,.bool k.hasC,Y X k.clip.x0,Y X k.clip.y0,Y X k.clip.x1,Y X k.clip.y1,Y X k.opa,Y X k.mode,Y X k.ct.kind,Y X k.ct.box.x0,Y X k.ct.box.y0,Y X k.ct.box.x1,Y X k.ct.box.y1,Y J k.ct.px.r,Y J k.ct.px.g,Y J k.ct.px.b,Y J k.ct.px.a,Y X k.ct.w,Y X k.ct.h,Y X k.ct.turn,Z pa pn pc,.bool k.hasF,Z fa fn fc,Y X k.fil.out,.bool k.hasB,Z ba bn bc,Y X k.bak.out] alLook (by simp [Act.eval,Act.put]) rfl (by kernel_rfl) (by kernel_rfl) (by simp [Value.oneCell']) ?_;simp only [Act.put,O,U,V,size_alloc])|(with_reducible refine wpList_load_mid rfl 38 _ rfl w.heap.size 0 rfl (lyq i0 i1 k k.hasC k.hasF k.hasB (Z pa pn pc) (Z fa fn fc) (Z ba bn bc) (Z ka kn kc)) _ HR1.o Tryz.underlying38 rfl (by kernel_rfl) ?_;simp only [Act.put,O,U,V]))
  refine (HGR2.o _ H1.o.below).mono ?_;rintro e W2 ⟨rfl,hb2⟩;have H2:Hid (Bag w (W2.alloc (.cells #[Y X g.x0,Y X g.y0,Y X g.x1,Y X g.y1] 25)) [(w.heap.size,(lyq i0 i1 k k.hasC k.hasF k.hasB (Z pa pn pc) (Z fa fn fc) (Z ba bn bc) (Z ka kn kc))),(w.heap.size+1,cl4 ⟨0,0,0,0⟩),(w.heap.size+1+1,(lkq k k.hasC k.hasF k.hasB (Z pa pn pc) (Z fa fn fc) (Z ba bn bc))),(W2.heap.size,cl4 g)]):=(H1.o.call hb2).alloc (cl4 g) _;have HDX:Hid (Nc k.dx∧Nc k.dy):=⟨HOK.o.dx,HOK.o.dy⟩;clear hb2 H1 HR0 HR1 HGR2 d0;cases hF:k.hasF with
  |false=>
   cases hC:k.hasC with
   |false=>
    have HAP:Hid (filR k g=g∧RcP g):=⟨by unfold filR;rw [hF];rfl,HGP.o⟩;have HBP:Hid (clpR k g=g∧RcP g):=⟨by unfold clpR;rw [hC];rfl,HAP.o.2⟩;have HMV:Hid (∀ W,Calls Tryz.prog 18 #[.agg #[Y X g.x0,Y X g.y0,Y X g.x1,Y X g.y1],Y X k.dx,Y X k.dy] W (PPost W (.agg #[Y X R.x0,Y X R.y0,Y X R.x1,Y X R.y1]))):=fun W=>by
     rw [HRN.o,HAP.o.1,HBP.o.1];have h:=HDX.o;unfold Nc at h;exact move_c g k.dx k.dy W HBP.o.2 (by omega) (by omega)
    have e22:=H2.o.cell 2 rfl 22 rfl;rw [hF] at e22;have e2:=H2.o.cell 2 rfl 2 rfl;rw [hC] at e2;have e3:=H2.o.cell 2 rfl 3 rfl;have e4:=H2.o.cell 2 rfl 4 rfl;have e5:=H2.o.cell 2 rfl 5 rfl;have e6:=H2.o.cell 2 rfl 6 rfl;have e0:=H2.o.cell 2 rfl 0 rfl;have e1:=H2.o.cell 2 rfl 1 rfl;obtain ⟨q0,q1,q2,q3⟩:=box4 (H2.o.box 3 rfl);have qf0:=H2.o.frozen 3 rfl 0;have qf1:=H2.o.frozen 3 rfl 1;have qf2:=H2.o.frozen 3 rfl 2;have qf3:=H2.o.frozen 3 rfl 3;have HHF:Hid (k.hasF=false∧k.hasC=false):=⟨hF,hC⟩;clear hF hC;go_wp2_with fail;refine (HMV.o _).mono ?_;rintro e W7 ⟨rfl,hb7⟩;have H7:=N (H2.o.call hb7);clear hb7 H2 e22 e2 e3 e4 e5 e6 e0 e1 q0 q1 q2 q3 qf0 qf1 qf2 qf3;obtain ⟨r0,r1,r2,r3⟩:=box4 (H7.o.box 1 rfl);have f0:=H7.o.frozen 1 rfl 0;have f1:=H7.o.frozen 1 rfl 1;have f2:=H7.o.frozen 1 rfl 2;have f3:=H7.o.frozen 1 rfl 3;go_wp2_with fail;have HF:=H7.o.set4 1 rfl (Y X R.x0) (Y X R.y0) (Y X R.x1) (Y X R.y1);exact ret_rect (g:=w.heap.size+1) (r:=R) rfl rfl (HF.box 1 rfl) rfl ⟨rfl,HF.below⟩
   |true=>
    have HAP:Hid (filR k g=g∧RcP g):=⟨by unfold filR;rw [hF];rfl,HGP.o⟩;obtain ⟨b,hb⟩:∃ b,b=meetR g k.clip:=⟨_,rfl⟩;have HME:Hid (∀ W,Calls Tryz.prog 17 #[.agg #[Y X g.x0,Y X g.y0,Y X g.x1,Y X g.y1],.agg #[Y X k.clip.x0,Y X k.clip.y0,Y X k.clip.x1,Y X k.clip.y1]] W (PPost W (.agg #[Y X b.x0,Y X b.y0,Y X b.x1,Y X b.y1]))):=fun W=>by rw [hb];exact meet_c g k.clip W
    have HBP:Hid (clpR k g=b∧RcP b):=⟨by rw [hb];unfold clpR;rw [hC];rfl,by rw [hb];exact meetR_pl HAP.o.2 (HOK.o.clip hC).pl⟩;clear hb;have HMV:Hid (∀ W,Calls Tryz.prog 18 #[.agg #[Y X b.x0,Y X b.y0,Y X b.x1,Y X b.y1],Y X k.dx,Y X k.dy] W (PPost W (.agg #[Y X R.x0,Y X R.y0,Y X R.x1,Y X R.y1]))):=fun W=>by
     rw [HRN.o,HAP.o.1,HBP.o.1];have h:=HDX.o;unfold Nc at h;exact move_c b k.dx k.dy W HBP.o.2 (by omega) (by omega)
    have e22:=H2.o.cell 2 rfl 22 rfl;rw [hF] at e22;have e2:=H2.o.cell 2 rfl 2 rfl;rw [hC] at e2;have e3:=H2.o.cell 2 rfl 3 rfl;have e4:=H2.o.cell 2 rfl 4 rfl;have e5:=H2.o.cell 2 rfl 5 rfl;have e6:=H2.o.cell 2 rfl 6 rfl;have e0:=H2.o.cell 2 rfl 0 rfl;have e1:=H2.o.cell 2 rfl 1 rfl;obtain ⟨q0,q1,q2,q3⟩:=box4 (H2.o.box 3 rfl);have qf0:=H2.o.frozen 3 rfl 0;have qf1:=H2.o.frozen 3 rfl 1;have qf2:=H2.o.frozen 3 rfl 2;have qf3:=H2.o.frozen 3 rfl 3;have HHF:Hid (k.hasF=false∧k.hasC=true):=⟨hF,hC⟩;clear hF hC;go_wp2_with fail;refine (HME.o _).mono ?_;rintro e W5 ⟨rfl,hb5⟩;have H5:=N (H2.o.call hb5);clear hb5 H2 e22 e2 e3 e4 e5 e6 e0 e1 q0 q1 q2 q3 qf0 qf1 qf2 qf3;have hF:=HHF.o.1;have hC:=HHF.o.2;have e22:=H5.o.cell 2 rfl 22 rfl;rw [hF] at e22;have e2:=H5.o.cell 2 rfl 2 rfl;rw [hC] at e2;have e3:=H5.o.cell 2 rfl 3 rfl;have e4:=H5.o.cell 2 rfl 4 rfl;have e5:=H5.o.cell 2 rfl 5 rfl;have e6:=H5.o.cell 2 rfl 6 rfl;have e0:=H5.o.cell 2 rfl 0 rfl;have e1:=H5.o.cell 2 rfl 1 rfl;obtain ⟨q0,q1,q2,q3⟩:=box4 (H5.o.box 3 rfl);have qf0:=H5.o.frozen 3 rfl 0;have qf1:=H5.o.frozen 3 rfl 1;have qf2:=H5.o.frozen 3 rfl 2;have qf3:=H5.o.frozen 3 rfl 3;clear hF hC;have H6:Hid (Bag w ((((W5.setCell ⟨W2.heap.size,0,none⟩ (Y X b.x0)).setCell ⟨W2.heap.size,1,none⟩ (Y X b.y0)).setCell ⟨W2.heap.size,2,none⟩ (Y X b.x1)).setCell ⟨W2.heap.size,3,none⟩ (Y X b.y1)) [(w.heap.size,(lyq i0 i1 k k.hasC k.hasF k.hasB (Z pa pn pc) (Z fa fn fc) (Z ba bn bc) (Z ka kn kc))),(w.heap.size+1,cl4 ⟨0,0,0,0⟩),(w.heap.size+1+1,(lkq k k.hasC k.hasF k.hasB (Z pa pn pc) (Z fa fn fc) (Z ba bn bc))),(W2.heap.size,cl4 b)]):=H5.o.set4 3 rfl _ _ _ _;go_upto_region 9 with (fail);generalize ((((W5.setCell ⟨W2.heap.size,0,none⟩ (Y X b.x0)).setCell ⟨W2.heap.size,1,none⟩ (Y X b.y0)).setCell ⟨W2.heap.size,2,none⟩ (Y X b.x1)).setCell ⟨W2.heap.size,3,none⟩ (Y X b.y1))=W6 at *;clear H5 e22 e2 e3 e4 e5 e6 e0 e1 q0 q1 q2 q3 qf0 qf1 qf2 qf3;have hF:=HHF.o.1;have hC:=HHF.o.2;have e22:=H6.o.cell 2 rfl 22 rfl;rw [hF] at e22;have e2:=H6.o.cell 2 rfl 2 rfl;rw [hC] at e2;have e3:=H6.o.cell 2 rfl 3 rfl;have e4:=H6.o.cell 2 rfl 4 rfl;have e5:=H6.o.cell 2 rfl 5 rfl;have e6:=H6.o.cell 2 rfl 6 rfl;have e0:=H6.o.cell 2 rfl 0 rfl;have e1:=H6.o.cell 2 rfl 1 rfl;obtain ⟨q0,q1,q2,q3⟩:=box4 (H6.o.box 3 rfl);have qf0:=H6.o.frozen 3 rfl 0;have qf1:=H6.o.frozen 3 rfl 1;have qf2:=H6.o.frozen 3 rfl 2;have qf3:=H6.o.frozen 3 rfl 3;clear hF hC;go_wp2_with fail;refine (HMV.o _).mono ?_;rintro e W7 ⟨rfl,hb7⟩;have H7:=N (H6.o.call hb7);clear hb7 H6 e22 e2 e3 e4 e5 e6 e0 e1 q0 q1 q2 q3 qf0 qf1 qf2 qf3;obtain ⟨r0,r1,r2,r3⟩:=box4 (H7.o.box 1 rfl);have f0:=H7.o.frozen 1 rfl 0;have f1:=H7.o.frozen 1 rfl 1;have f2:=H7.o.frozen 1 rfl 2;have f3:=H7.o.frozen 1 rfl 3;go_wp2_with fail;have HF:=H7.o.set4 1 rfl (Y X R.x0) (Y X R.y0) (Y X R.x1) (Y X R.y1);exact ret_rect (g:=w.heap.size+1) (r:=R) rfl rfl (HF.box 1 rfl) rfl ⟨rfl,HF.below⟩
  |true=>
   cases hC:k.hasC with
   |false=>
    obtain ⟨a,ha⟩:∃ a,a=reachG k.fil g:=⟨_,rfl⟩;have HRA:Hid (∀ W,Below w.heap.size w W→Calls Tryz.prog 16 #[.agg #[Z fa fn fc,Y X k.fil.out],.agg #[Y X g.x0,Y X g.y0,Y X g.x1,Y X g.y1]] W (PPost W (.agg #[Y X a.x0,Y X a.y0,Y X a.x1,Y X a.y1]))):=fun W hb=>by
     rw [ha];exact reachAll_c B _ k.fil g W (HOK.o.fil hF) (SlOf.same RNode.ok (Same.of_below hb fun b hbl=>Q hbl HA.o.2) HA.o.1) (I HA.o.2 hb.size) HGP.o
    have HAP:Hid (filR k g=a∧RcP a):=⟨by rw [ha];unfold filR;rw [hF];rfl,by rw [ha];exact reachG_pl' (HOK.o.fil hF) HGP.o⟩;clear ha;have HBP:Hid (clpR k a=a∧RcP a):=⟨by unfold clpR;rw [hC];rfl,HAP.o.2⟩;have HMV:Hid (∀ W,Calls Tryz.prog 18 #[.agg #[Y X a.x0,Y X a.y0,Y X a.x1,Y X a.y1],Y X k.dx,Y X k.dy] W (PPost W (.agg #[Y X R.x0,Y X R.y0,Y X R.x1,Y X R.y1]))):=fun W=>by
     rw [HRN.o,HAP.o.1,HBP.o.1];have h:=HDX.o;unfold Nc at h;exact move_c a k.dx k.dy W HBP.o.2 (by omega) (by omega)
    have e22:=H2.o.cell 2 rfl 22 rfl;rw [hF] at e22;have e2:=H2.o.cell 2 rfl 2 rfl;rw [hC] at e2;have e3:=H2.o.cell 2 rfl 3 rfl;have e4:=H2.o.cell 2 rfl 4 rfl;have e5:=H2.o.cell 2 rfl 5 rfl;have e6:=H2.o.cell 2 rfl 6 rfl;have e0:=H2.o.cell 2 rfl 0 rfl;have e1:=H2.o.cell 2 rfl 1 rfl;have e23:=H2.o.cell 2 rfl 23 rfl;have e24:=H2.o.cell 2 rfl 24 rfl;obtain ⟨q0,q1,q2,q3⟩:=box4 (H2.o.box 3 rfl);have qf0:=H2.o.frozen 3 rfl 0;have qf1:=H2.o.frozen 3 rfl 1;have qf2:=H2.o.frozen 3 rfl 2;have qf3:=H2.o.frozen 3 rfl 3;have HHF:Hid (k.hasF=true∧k.hasC=false):=⟨hF,hC⟩;clear hF hC;go_wp2_with fail;refine (HRA.o _ H2.o.below).mono ?_;rintro e W3 ⟨rfl,hb3⟩;have H3:=N (H2.o.call hb3);clear hb3 H2 e22 e2 e3 e4 e5 e6 e0 e1 e23 e24 q0 q1 q2 q3 qf0 qf1 qf2 qf3;have hF:=HHF.o.1;have hC:=HHF.o.2;have e22:=H3.o.cell 2 rfl 22 rfl;rw [hF] at e22;have e2:=H3.o.cell 2 rfl 2 rfl;rw [hC] at e2;have e3:=H3.o.cell 2 rfl 3 rfl;have e4:=H3.o.cell 2 rfl 4 rfl;have e5:=H3.o.cell 2 rfl 5 rfl;have e6:=H3.o.cell 2 rfl 6 rfl;have e0:=H3.o.cell 2 rfl 0 rfl;have e1:=H3.o.cell 2 rfl 1 rfl;have e23:=H3.o.cell 2 rfl 23 rfl;have e24:=H3.o.cell 2 rfl 24 rfl;obtain ⟨q0,q1,q2,q3⟩:=box4 (H3.o.box 3 rfl);have qf0:=H3.o.frozen 3 rfl 0;have qf1:=H3.o.frozen 3 rfl 1;have qf2:=H3.o.frozen 3 rfl 2;have qf3:=H3.o.frozen 3 rfl 3;clear hF hC;have H4:Hid (Bag w ((((W3.setCell ⟨W2.heap.size,0,none⟩ (Y X a.x0)).setCell ⟨W2.heap.size,1,none⟩ (Y X a.y0)).setCell ⟨W2.heap.size,2,none⟩ (Y X a.x1)).setCell ⟨W2.heap.size,3,none⟩ (Y X a.y1)) [(w.heap.size,(lyq i0 i1 k k.hasC k.hasF k.hasB (Z pa pn pc) (Z fa fn fc) (Z ba bn bc) (Z ka kn kc))),(w.heap.size+1,cl4 ⟨0,0,0,0⟩),(w.heap.size+1+1,(lkq k k.hasC k.hasF k.hasB (Z pa pn pc) (Z fa fn fc) (Z ba bn bc))),(W2.heap.size,cl4 a)]):=H3.o.set4 3 rfl _ _ _ _;go_upto_region 7 with (fail);generalize ((((W3.setCell ⟨W2.heap.size,0,none⟩ (Y X a.x0)).setCell ⟨W2.heap.size,1,none⟩ (Y X a.y0)).setCell ⟨W2.heap.size,2,none⟩ (Y X a.x1)).setCell ⟨W2.heap.size,3,none⟩ (Y X a.y1))=W4 at *;clear H3 e22 e2 e3 e4 e5 e6 e0 e1 e23 e24 q0 q1 q2 q3 qf0 qf1 qf2 qf3;have hF:=HHF.o.1;have hC:=HHF.o.2;have e22:=H4.o.cell 2 rfl 22 rfl;rw [hF] at e22;have e2:=H4.o.cell 2 rfl 2 rfl;rw [hC] at e2;have e3:=H4.o.cell 2 rfl 3 rfl;have e4:=H4.o.cell 2 rfl 4 rfl;have e5:=H4.o.cell 2 rfl 5 rfl;have e6:=H4.o.cell 2 rfl 6 rfl;have e0:=H4.o.cell 2 rfl 0 rfl;have e1:=H4.o.cell 2 rfl 1 rfl;have e23:=H4.o.cell 2 rfl 23 rfl;have e24:=H4.o.cell 2 rfl 24 rfl;obtain ⟨q0,q1,q2,q3⟩:=box4 (H4.o.box 3 rfl);have qf0:=H4.o.frozen 3 rfl 0;have qf1:=H4.o.frozen 3 rfl 1;have qf2:=H4.o.frozen 3 rfl 2;have qf3:=H4.o.frozen 3 rfl 3;clear hF hC;go_wp2_with fail;refine (HMV.o _).mono ?_;rintro e W7 ⟨rfl,hb7⟩;have H7:=N (H4.o.call hb7);clear hb7 H4 e22 e2 e3 e4 e5 e6 e0 e1 e23 e24 q0 q1 q2 q3 qf0 qf1 qf2 qf3;obtain ⟨r0,r1,r2,r3⟩:=box4 (H7.o.box 1 rfl);have f0:=H7.o.frozen 1 rfl 0;have f1:=H7.o.frozen 1 rfl 1;have f2:=H7.o.frozen 1 rfl 2;have f3:=H7.o.frozen 1 rfl 3;go_wp2_with fail;have HF:=H7.o.set4 1 rfl (Y X R.x0) (Y X R.y0) (Y X R.x1) (Y X R.y1);exact ret_rect (g:=w.heap.size+1) (r:=R) rfl rfl (HF.box 1 rfl) rfl ⟨rfl,HF.below⟩
   |true=>
    obtain ⟨a,ha⟩:∃ a,a=reachG k.fil g:=⟨_,rfl⟩;have HRA:Hid (∀ W,Below w.heap.size w W→Calls Tryz.prog 16 #[.agg #[Z fa fn fc,Y X k.fil.out],.agg #[Y X g.x0,Y X g.y0,Y X g.x1,Y X g.y1]] W (PPost W (.agg #[Y X a.x0,Y X a.y0,Y X a.x1,Y X a.y1]))):=fun W hb=>by
     rw [ha];exact reachAll_c B _ k.fil g W (HOK.o.fil hF) (SlOf.same RNode.ok (Same.of_below hb fun b hbl=>Q hbl HA.o.2) HA.o.1) (I HA.o.2 hb.size) HGP.o
    have HAP:Hid (filR k g=a∧RcP a):=⟨by rw [ha];unfold filR;rw [hF];rfl,by rw [ha];exact reachG_pl' (HOK.o.fil hF) HGP.o⟩;clear ha;obtain ⟨b,hb⟩:∃ b,b=meetR a k.clip:=⟨_,rfl⟩;have HME:Hid (∀ W,Calls Tryz.prog 17 #[.agg #[Y X a.x0,Y X a.y0,Y X a.x1,Y X a.y1],.agg #[Y X k.clip.x0,Y X k.clip.y0,Y X k.clip.x1,Y X k.clip.y1]] W (PPost W (.agg #[Y X b.x0,Y X b.y0,Y X b.x1,Y X b.y1]))):=fun W=>by rw [hb];exact meet_c a k.clip W
    have HBP:Hid (clpR k a=b∧RcP b):=⟨by rw [hb];unfold clpR;rw [hC];rfl,by rw [hb];exact meetR_pl HAP.o.2 (HOK.o.clip hC).pl⟩;clear hb;have HMV:Hid (∀ W,Calls Tryz.prog 18 #[.agg #[Y X b.x0,Y X b.y0,Y X b.x1,Y X b.y1],Y X k.dx,Y X k.dy] W (PPost W (.agg #[Y X R.x0,Y X R.y0,Y X R.x1,Y X R.y1]))):=fun W=>by
     rw [HRN.o,HAP.o.1,HBP.o.1];have h:=HDX.o;unfold Nc at h;exact move_c b k.dx k.dy W HBP.o.2 (by omega) (by omega)
    have e22:=H2.o.cell 2 rfl 22 rfl;rw [hF] at e22;have e2:=H2.o.cell 2 rfl 2 rfl;rw [hC] at e2;have e3:=H2.o.cell 2 rfl 3 rfl;have e4:=H2.o.cell 2 rfl 4 rfl;have e5:=H2.o.cell 2 rfl 5 rfl;have e6:=H2.o.cell 2 rfl 6 rfl;have e0:=H2.o.cell 2 rfl 0 rfl;have e1:=H2.o.cell 2 rfl 1 rfl;have e23:=H2.o.cell 2 rfl 23 rfl;have e24:=H2.o.cell 2 rfl 24 rfl;obtain ⟨q0,q1,q2,q3⟩:=box4 (H2.o.box 3 rfl);have qf0:=H2.o.frozen 3 rfl 0;have qf1:=H2.o.frozen 3 rfl 1;have qf2:=H2.o.frozen 3 rfl 2;have qf3:=H2.o.frozen 3 rfl 3;have HHF:Hid (k.hasF=true∧k.hasC=true):=⟨hF,hC⟩;clear hF hC;go_wp2_with fail;refine (HRA.o _ H2.o.below).mono ?_;rintro e W3 ⟨rfl,hb3⟩;have H3:=N (H2.o.call hb3);clear hb3 H2 e22 e2 e3 e4 e5 e6 e0 e1 e23 e24 q0 q1 q2 q3 qf0 qf1 qf2 qf3;have hF:=HHF.o.1;have hC:=HHF.o.2;have e22:=H3.o.cell 2 rfl 22 rfl;rw [hF] at e22;have e2:=H3.o.cell 2 rfl 2 rfl;rw [hC] at e2;have e3:=H3.o.cell 2 rfl 3 rfl;have e4:=H3.o.cell 2 rfl 4 rfl;have e5:=H3.o.cell 2 rfl 5 rfl;have e6:=H3.o.cell 2 rfl 6 rfl;have e0:=H3.o.cell 2 rfl 0 rfl;have e1:=H3.o.cell 2 rfl 1 rfl;have e23:=H3.o.cell 2 rfl 23 rfl;have e24:=H3.o.cell 2 rfl 24 rfl;obtain ⟨q0,q1,q2,q3⟩:=box4 (H3.o.box 3 rfl);have qf0:=H3.o.frozen 3 rfl 0;have qf1:=H3.o.frozen 3 rfl 1;have qf2:=H3.o.frozen 3 rfl 2;have qf3:=H3.o.frozen 3 rfl 3;clear hF hC;have H4:Hid (Bag w ((((W3.setCell ⟨W2.heap.size,0,none⟩ (Y X a.x0)).setCell ⟨W2.heap.size,1,none⟩ (Y X a.y0)).setCell ⟨W2.heap.size,2,none⟩ (Y X a.x1)).setCell ⟨W2.heap.size,3,none⟩ (Y X a.y1)) [(w.heap.size,(lyq i0 i1 k k.hasC k.hasF k.hasB (Z pa pn pc) (Z fa fn fc) (Z ba bn bc) (Z ka kn kc))),(w.heap.size+1,cl4 ⟨0,0,0,0⟩),(w.heap.size+1+1,(lkq k k.hasC k.hasF k.hasB (Z pa pn pc) (Z fa fn fc) (Z ba bn bc))),(W2.heap.size,cl4 a)]):=H3.o.set4 3 rfl _ _ _ _;go_upto_region 7 with (fail);generalize ((((W3.setCell ⟨W2.heap.size,0,none⟩ (Y X a.x0)).setCell ⟨W2.heap.size,1,none⟩ (Y X a.y0)).setCell ⟨W2.heap.size,2,none⟩ (Y X a.x1)).setCell ⟨W2.heap.size,3,none⟩ (Y X a.y1))=W4 at *;clear H3 e22 e2 e3 e4 e5 e6 e0 e1 e23 e24 q0 q1 q2 q3 qf0 qf1 qf2 qf3;have hF:=HHF.o.1;have hC:=HHF.o.2;have e22:=H4.o.cell 2 rfl 22 rfl;rw [hF] at e22;have e2:=H4.o.cell 2 rfl 2 rfl;rw [hC] at e2;have e3:=H4.o.cell 2 rfl 3 rfl;have e4:=H4.o.cell 2 rfl 4 rfl;have e5:=H4.o.cell 2 rfl 5 rfl;have e6:=H4.o.cell 2 rfl 6 rfl;have e0:=H4.o.cell 2 rfl 0 rfl;have e1:=H4.o.cell 2 rfl 1 rfl;have e23:=H4.o.cell 2 rfl 23 rfl;have e24:=H4.o.cell 2 rfl 24 rfl;obtain ⟨q0,q1,q2,q3⟩:=box4 (H4.o.box 3 rfl);have qf0:=H4.o.frozen 3 rfl 0;have qf1:=H4.o.frozen 3 rfl 1;have qf2:=H4.o.frozen 3 rfl 2;have qf3:=H4.o.frozen 3 rfl 3;clear hF hC;go_wp2_with fail;refine (HME.o _).mono ?_;rintro e W5 ⟨rfl,hb5⟩;have H5:=N (H4.o.call hb5);clear hb5 H4 e22 e2 e3 e4 e5 e6 e0 e1 e23 e24 q0 q1 q2 q3 qf0 qf1 qf2 qf3;have hF:=HHF.o.1;have hC:=HHF.o.2;have e22:=H5.o.cell 2 rfl 22 rfl;rw [hF] at e22;have e2:=H5.o.cell 2 rfl 2 rfl;rw [hC] at e2;have e3:=H5.o.cell 2 rfl 3 rfl;have e4:=H5.o.cell 2 rfl 4 rfl;have e5:=H5.o.cell 2 rfl 5 rfl;have e6:=H5.o.cell 2 rfl 6 rfl;have e0:=H5.o.cell 2 rfl 0 rfl;have e1:=H5.o.cell 2 rfl 1 rfl;have e23:=H5.o.cell 2 rfl 23 rfl;have e24:=H5.o.cell 2 rfl 24 rfl;obtain ⟨q0,q1,q2,q3⟩:=box4 (H5.o.box 3 rfl);have qf0:=H5.o.frozen 3 rfl 0;have qf1:=H5.o.frozen 3 rfl 1;have qf2:=H5.o.frozen 3 rfl 2;have qf3:=H5.o.frozen 3 rfl 3;clear hF hC;have H6:Hid (Bag w ((((W5.setCell ⟨W2.heap.size,0,none⟩ (Y X b.x0)).setCell ⟨W2.heap.size,1,none⟩ (Y X b.y0)).setCell ⟨W2.heap.size,2,none⟩ (Y X b.x1)).setCell ⟨W2.heap.size,3,none⟩ (Y X b.y1)) [(w.heap.size,(lyq i0 i1 k k.hasC k.hasF k.hasB (Z pa pn pc) (Z fa fn fc) (Z ba bn bc) (Z ka kn kc))),(w.heap.size+1,cl4 ⟨0,0,0,0⟩),(w.heap.size+1+1,(lkq k k.hasC k.hasF k.hasB (Z pa pn pc) (Z fa fn fc) (Z ba bn bc))),(W2.heap.size,cl4 b)]):=H5.o.set4 3 rfl _ _ _ _;go_upto_region 9 with (fail);generalize ((((W5.setCell ⟨W2.heap.size,0,none⟩ (Y X b.x0)).setCell ⟨W2.heap.size,1,none⟩ (Y X b.y0)).setCell ⟨W2.heap.size,2,none⟩ (Y X b.x1)).setCell ⟨W2.heap.size,3,none⟩ (Y X b.y1))=W6 at *;clear H5 e22 e2 e3 e4 e5 e6 e0 e1 e23 e24 q0 q1 q2 q3 qf0 qf1 qf2 qf3;have hF:=HHF.o.1;have hC:=HHF.o.2;have e22:=H6.o.cell 2 rfl 22 rfl;rw [hF] at e22;have e2:=H6.o.cell 2 rfl 2 rfl;rw [hC] at e2;have e3:=H6.o.cell 2 rfl 3 rfl;have e4:=H6.o.cell 2 rfl 4 rfl;have e5:=H6.o.cell 2 rfl 5 rfl;have e6:=H6.o.cell 2 rfl 6 rfl;have e0:=H6.o.cell 2 rfl 0 rfl;have e1:=H6.o.cell 2 rfl 1 rfl;have e23:=H6.o.cell 2 rfl 23 rfl;have e24:=H6.o.cell 2 rfl 24 rfl;obtain ⟨q0,q1,q2,q3⟩:=box4 (H6.o.box 3 rfl);have qf0:=H6.o.frozen 3 rfl 0;have qf1:=H6.o.frozen 3 rfl 1;have qf2:=H6.o.frozen 3 rfl 2;have qf3:=H6.o.frozen 3 rfl 3;clear hF hC;go_wp2_with fail;refine (HMV.o _).mono ?_;rintro e W7 ⟨rfl,hb7⟩;have H7:=N (H6.o.call hb7);clear hb7 H6 e22 e2 e3 e4 e5 e6 e0 e1 e23 e24 q0 q1 q2 q3 qf0 qf1 qf2 qf3;obtain ⟨r0,r1,r2,r3⟩:=box4 (H7.o.box 1 rfl);have f0:=H7.o.frozen 1 rfl 0;have f1:=H7.o.frozen 1 rfl 1;have f2:=H7.o.frozen 1 rfl 2;have f3:=H7.o.frozen 1 rfl 3;go_wp2_with fail;have HF:=H7.o.set4 1 rfl (Y X R.x0) (Y X R.y0) (Y X R.x1) (Y X R.y1);exact ret_rect (g:=w.heap.size+1) (r:=R) rfl rfl (HF.box 1 rfl) rfl ⟨rfl,HF.below⟩
theorem result_c:∀ n,ResC n
 |0=>fun B l cs w h=>h.elim
 |n+1=>result_step n (group_step n (result_c n))
theorem group_c (n:Nat):GrpC n:=group_step n (result_c n)
def ncB (x:Int):Bool:=decide (-1048576≤x)&&decide (x≤1048576)
theorem ncB_iff (x:Int):ncB x=true↔Nc x:=by simp [ncB,Nc]
theorem near23_c (x:Int) (w:World):Calls Tryz.prog 68 #[Y X x] w (PPost w (.bool (ncB x))):=by
 obtain ⟨d0,h0⟩:∃ d,decide (-1048576≤x)=d:=⟨_,rfl⟩;obtain ⟨d1,h1⟩:∃ d,decide (x≤1048576)=d:=⟨_,rfl⟩;have HE:Hid (ncB x=(d0&&d1)):=by
  have:ncB x=(d0&&d1):=by unfold ncB;rw [h0,h1]
  exact this
 cases d0 with
 |false=>
  go_enter Tryz.func68,Tryz.ntmps68;go_wp2_with fail;go_ret;exact ⟨ret_b HE.o.symm,Below.refl _ _⟩
 |true=>
  cases d1 with
  |false=>
   go_enter Tryz.func68,Tryz.ntmps68;go_wp2_with fail;go_ret;exact ⟨ret_b HE.o.symm,Below.refl _ _⟩
  |true=>
   go_enter Tryz.func68,Tryz.ntmps68;go_wp2_with fail;go_ret;exact ⟨ret_b HE.o.symm,Below.refl _ _⟩
def rcNB (r:Rc):Bool:=ncB r.x0&&(ncB r.y0&&(ncB r.x1&&ncB r.y1))
theorem rcNB_iff (r:Rc):rcNB r=true↔RcN r:=by
 unfold rcNB RcN;simp only [Bool.and_eq_true,ncB_iff]
theorem rect23_c (r:Rc) (w:World):Calls Tryz.prog 66 #[rv r] w (PPost w (.bool (rcNB r))):=by
 obtain ⟨x0,y0,x1,y1⟩:=r;have HX:Hid (Box (w.alloc (.cells (cs4 x0 y0 x1 y1) 25)) w.heap.size (cl4 ⟨x0,y0,x1,y1⟩)∧Below w.heap.size w (w.alloc (.cells (cs4 x0 y0 x1 y1) 25))):=⟨Box.new w _ _,below_new _ _⟩;obtain ⟨d0,h0⟩:∃ d,ncB x0=d:=⟨_,rfl⟩;obtain ⟨d1,h1⟩:∃ d,ncB y0=d:=⟨_,rfl⟩;obtain ⟨d2,h2⟩:∃ d,ncB x1=d:=⟨_,rfl⟩;obtain ⟨d3,h3⟩:∃ d,ncB y1=d:=⟨_,rfl⟩;have HE:Hid (rcNB ⟨x0,y0,x1,y1⟩=(d0&&(d1&&(d2&&d3)))):=by
  have:rcNB ⟨x0,y0,x1,y1⟩=(d0&&(d1&&(d2&&d3))):=by unfold rcNB;rw [h0,h1,h2,h3]
  exact this
 have HN:Hid (∀ (W:World),Calls Tryz.prog 68 #[Y X x0] W (PPost W (.bool d0))∧Calls Tryz.prog 68 #[Y X y0] W (PPost W (.bool d1))∧Calls Tryz.prog 68 #[Y X x1] W (PPost W (.bool d2))∧Calls Tryz.prog 68 #[Y X y1] W (PPost W (.bool d3))):=fun W=>by
  rw [←h0,←h1,←h2,←h3];exact ⟨near23_c _ W,near23_c _ W,near23_c _ W,near23_c _ W⟩
 clear h0 h1 h2 h3;have g0:=HX.o.1.cell 0 rfl;go_enter Tryz.func66,Tryz.ntmps66;go_wp2_with fail;refine ((HN.o _).1).mono ?_;rintro e W1 ⟨rfl,hb1⟩;have H1:Hid (Box W1 w.heap.size (cl4 ⟨x0,y0,x1,y1⟩)∧Below w.heap.size w W1):=⟨HX.o.1.call hb1,HX.o.2.trans (hb1.mono HX.o.2.size)⟩;clear hb1 HX g0;have g1:=H1.o.1.cell 1 rfl
 cases d0 with
 |false=>
  go_wp2_with fail;go_ret;exact ⟨ret_b HE.o.symm,H1.o.2⟩
 |true=>
  go_wp2_with fail;refine ((HN.o _).2.1).mono ?_;rintro e W2 ⟨rfl,hb2⟩;have H2:Hid (Box W2 w.heap.size (cl4 ⟨x0,y0,x1,y1⟩)∧Below w.heap.size w W2):=⟨H1.o.1.call hb2,H1.o.2.trans (hb2.mono H1.o.2.size)⟩;clear hb2 H1 g1;have g2:=H2.o.1.cell 2 rfl
  cases d1 with
  |false=>
   go_wp2_with fail;go_ret;exact ⟨ret_b HE.o.symm,H2.o.2⟩
  |true=>
   go_wp2_with fail;refine ((HN.o _).2.2.1).mono ?_;rintro e W3 ⟨rfl,hb3⟩;have H3:Hid (Box W3 w.heap.size (cl4 ⟨x0,y0,x1,y1⟩)∧Below w.heap.size w W3):=⟨H2.o.1.call hb3,H2.o.2.trans (hb3.mono H2.o.2.size)⟩;clear hb3 H2 g2;have g3:=H3.o.1.cell 3 rfl
   cases d2 with
   |false=>
    go_wp2_with fail;go_ret;exact ⟨ret_b HE.o.symm,H3.o.2⟩
   |true=>
    go_wp2_with fail;refine ((HN.o _).2.2.2).mono ?_;rintro e W4 ⟨rfl,hb4⟩;have H4:Hid (Box W4 w.heap.size (cl4 ⟨x0,y0,x1,y1⟩)∧Below w.heap.size w W4):=⟨H3.o.1.call hb4,H3.o.2.trans (hb4.mono H3.o.2.size)⟩;clear hb4 H3 g3;go_wp2_with fail;go_ret;exact ⟨ret_b HE.o.symm,H4.o.2⟩
def pxRP (p:Px):Bool:=pxR p.r p.g p.b p.a
def picB (c:Ct):Bool:=!(decide (c.w<1)||(decide (c.h<1)||(decide (4096<c.w)||(decide (4096<c.h)||(decide (65536<c.w*c.h)||((c.pix.length:Int) != c.w*c.h||(decide (c.turn<0)||(decide (3<c.turn)||(!ncB c.box.x0||!ncB c.box.y0)))))))))
def contB (c:Ct):Bool:=if c.kind=1 then rcNB c.box&&pxRP c.px else if c.kind=2 then picB c&&c.pix.all pxRP else c.kind==0
theorem ctOk_of {c:Ct} (hp:c.px.Ok) (h:contB c=true):CtOk c:=by
 unfold contB at h;refine ⟨?_,hp,fun e=>?_,fun e=>?_⟩
 ·split at h
  ·rename_i e;exact .inr (.inl e)
  ·split at h
   ·rename_i e;exact .inr (.inr e)
   ·exact .inl (eq_of_beq h)
 ·rw [if_pos e,Bool.and_eq_true] at h;exact (rcNB_iff _).1 h.1
 ·rw [if_neg (by omega),if_pos e,Bool.and_eq_true] at h;have h1:=h.1;unfold picB at h1;simp only [Bool.not_eq_true',Bool.or_eq_false_iff,decide_eq_false_iff_not,Bool.not_eq_false',ncB_iff,bne_eq_false_iff_eq] at h1;obtain ⟨a,b,c',d,e',f,g,i,j,k⟩:=h1;exact ⟨⟨by omega,by omega⟩,⟨by omega,by omega⟩,f,by omega,⟨by omega,by omega⟩,j,k⟩
theorem pix_at {F:Nat→Prop} {w:World} {v:Value} {xs:List Px} (h:SlOf RPx 4 F w v xs) {i:Nat} (hi:i<xs.length):∃ b o c p,v=Z (some ⟨b,o,none⟩) xs.length c∧F b∧xs.length≤c∧c≤maxLen∧xs[i]?=some p∧p.Ok∧
  w.cell? ⟨b,o+i*4,none⟩=some (Y J p.r)∧w.cell? ⟨b,o+i*4+1,none⟩=some (Y J p.g)∧w.cell? ⟨b,o+i*4+2,none⟩=some (Y J p.b)∧w.cell? ⟨b,o+i*4+3,none⟩=some (Y J p.a):=by
 obtain ⟨a,cap,rfl,h1,h2,h3⟩:=h
 rcases h3 with h3|⟨b,o,rfl,hF,h3⟩
 ·subst h3;simp at hi
 ·obtain ⟨cs,hl,hc,rfl,hok⟩:=h3 i xs[i] (T hi);have k0:=hc 0 _ rfl;have k1:=hc 1 _ rfl;have k2:=hc 2 _ rfl;have k3:=hc 3 _ rfl;exact ⟨b,o,cap,xs[i],rfl,hF,h1,h2,T hi,hok,by simpa using k0,k1,k2,k3⟩
theorem mul_bd {a b m:Int} (ha:1≤a∧a≤m) (hb:1≤b∧b≤m):1≤a*b∧a*b≤m*m:=by
 refine ⟨?_,Int.mul_le_mul ha.2 hb.2 (by omega) (by omega)⟩;have:=Int.mul_le_mul (a:=1) (b:=1) (c:=a) (d:=b) ha.1 hb.1 (by omega) (by omega);omega
theorem content23_c (B:Nat) (c:Ct) (v:Value) (w:World) (hp:c.px.Ok) (hv:SlOf RPx 4 (·<B) w v c.pix) (hB:B≤w.heap.size):Calls Tryz.prog 38 #[ctv c v] w (PPost w (.bool (contB c))):=by
 have HV0:=hv;obtain ⟨va,vn,vm,hvf⟩:=sl_form hv;subst hvf;have hvn:vn=c.pix.length∧vn≤vm∧vm≤maxLen:=by
  obtain ⟨a,cc,h1,h2,h3,_⟩:=hv;simp only [Value.slice.injEq] at h1;obtain ⟨_,h4,h5⟩:=h1;subst h5;exact ⟨h4,by omega,h3⟩
 obtain ⟨R,hR⟩:∃ R,R=contB c:=⟨_,rfl⟩;have HR:=N hR;rw [←hR];obtain ⟨kind,⟨x0,y0,x1,y1⟩,⟨p0,p1,p2,p3⟩,cw,ch,turn,pix⟩:=c;have HV:Hid (∀ W,Below w.heap.size w W→SlOf RPx 4 (·<B) W (Z va vn vm) pix):=fun W hb=>HV0.same RPx.ok (Same.of_below hb fun b (hbl:b<B)=>Q hbl hB);have HP:Hid (vn=pix.length):=hvn.1;obtain ⟨hvq,hvm,hvmx⟩:=hvn;clear hvq;unfold maxLen at hvmx;have HW:Hid (Bag w (w.alloc (.cells #[Y X kind,Y X x0,Y X y0,Y X x1,Y X y1,Y J p0,Y J p1,Y J p2,Y J p3,Y X cw,Y X ch,Y X turn,Z va vn vm] 30)) [(w.heap.size,[Y X kind,Y X x0,Y X y0,Y X x1,Y X y1,Y J p0,Y J p1,Y J p2,Y J p3,Y X cw,Y X ch,Y X turn,Z va vn vm])]):=bag1 w [Y X kind,Y X x0,Y X y0,Y X x1,Y X y1,Y J p0,Y J p1,Y J p2,Y J p3,Y X cw,Y X ch,Y X turn,Z va vn vm] _;clear hp HV0 hv hR hB;by_cases hk1:kind=1
 ·subst hk1;obtain ⟨d1,hd1⟩:∃ d,d=rcNB ⟨x0,y0,x1,y1⟩:=⟨_,rfl⟩;obtain ⟨d2,hd2⟩:∃ d,d=pxRP ⟨p0,p1,p2,p3⟩:=⟨_,rfl⟩;have HE:Hid (R=(d1&&d2)):=by
   have:R=(d1&&d2):=by rw [HR.o,hd1,hd2];rfl
   exact this
  have HC:Hid (∀ W,Calls Tryz.prog 66 #[.agg #[Y X x0,Y X y0,Y X x1,Y X y1]] W (PPost W (.bool d1))):=fun W=>by rw [hd1];exact rect23_c ⟨x0,y0,x1,y1⟩ W
  have HD:Hid (∀ W,Calls Tryz.prog 67 #[.agg #[Y J p0,Y J p1,Y J p2,Y J p3]] W (PPost W (.bool d2))):=fun W=>by rw [hd2];exact right01_c p0 p1 p2 p3 W
  clear hd1 hd2 HR;go_enter Tryz.func38,Tryz.ntmps38;go_wp2_with fail;generalize (w.alloc (.cells #[Y X 1,Y X x0,Y X y0,Y X x1,Y X y1,Y J p0,Y J p1,Y J p2,Y J p3,Y X cw,Y X ch,Y X turn,Z va vn vm] 30))=W1 at *;refine (HC.o _).mono ?_;rintro e W2 ⟨rfl,hb2⟩;have H2:=N (HW.o.call hb2);have e5:=H2.o.cell 0 rfl 5 rfl;have e6:=H2.o.cell 0 rfl 6 rfl;have e7:=H2.o.cell 0 rfl 7 rfl;have e8:=H2.o.cell 0 rfl 8 rfl;clear hb2 HW HC
  cases d1 with
  |false=>
   go_wp2_with fail;go_ret;exact ⟨ret_b HE.o.symm,H2.o.below⟩
  |true=>
   go_wp2_with fail;refine (HD.o _).mono ?_;rintro e W3 ⟨rfl,hb3⟩;have H3:=N (H2.o.call hb3);clear e5 e6 e7 e8 hb3 H2;go_wp2_with fail;go_ret;exact ⟨ret_b HE.o.symm,H3.o.below⟩
 ·by_cases hk2:kind=2
  ·subst hk2;have HE0:Hid (R=(picB ⟨2,⟨x0,y0,x1,y1⟩,⟨p0,p1,p2,p3⟩,cw,ch,turn,pix⟩&&pix.all pxRP)):=by
    have:R=(picB ⟨2,⟨x0,y0,x1,y1⟩,⟨p0,p1,p2,p3⟩,cw,ch,turn,pix⟩&&pix.all pxRP):=HR.o;exact this
   clear HR hk1;by_cases t0:cw<1
   ·have d0:decide (cw<1)=true:=decide_eq_true t0;have HF:Hid (R=false):=by
     have:R=false:=by rw [HE0.o];unfold picB;simp [t0]
     exact this
    clear HE0;clear t0;go_enter Tryz.func38,Tryz.ntmps38;go_wp2_with fail;go_ret;exact ⟨ret_b HF.o.symm,HW.o.below⟩
   have d0:decide (cw<1)=false:=decide_eq_false t0;by_cases t1:ch<1
   ·have d1:decide (ch<1)=true:=decide_eq_true t1;have HF:Hid (R=false):=by
     have:R=false:=by rw [HE0.o];unfold picB;simp [t1]
     exact this
    clear HE0;clear t1;go_enter Tryz.func38,Tryz.ntmps38;go_wp2_with fail;go_ret;exact ⟨ret_b HF.o.symm,HW.o.below⟩
   have d1:decide (ch<1)=false:=decide_eq_false t1;by_cases t2:4096<cw
   ·have d2:decide (4096<cw)=true:=decide_eq_true t2;have HF:Hid (R=false):=by
     have:R=false:=by rw [HE0.o];unfold picB;simp [t2]
     exact this
    clear HE0;clear t2;go_enter Tryz.func38,Tryz.ntmps38;go_wp2_with fail;go_ret;exact ⟨ret_b HF.o.symm,HW.o.below⟩
   have d2:decide (4096<cw)=false:=decide_eq_false t2;by_cases t3:4096<ch
   ·have d3:decide (4096<ch)=true:=decide_eq_true t3;have HF:Hid (R=false):=by
     have:R=false:=by rw [HE0.o];unfold picB;simp [t3]
     exact this
    clear HE0;clear t3;go_enter Tryz.func38,Tryz.ntmps38;go_wp2_with fail;go_ret;exact ⟨ret_b HF.o.symm,HW.o.below⟩
   have d3:decide (4096<ch)=false:=decide_eq_false t3;have hmul:=mul_bd (a:=cw) (b:=ch) (m:=4096) ⟨by omega,by omega⟩ ⟨by omega,by omega⟩;obtain ⟨hm1,hm2⟩:=hmul;obtain ⟨ar,har⟩:∃ a,a=cw*ch:=⟨_,rfl⟩;have hwm:IntKind.i64.wrap (cw*ch)=cw*ch:=wrap_in (by omega) (by omega);clear t0 t1 t2 t3;by_cases t4:65536<cw*ch
   ·have d4:decide (65536<cw*ch)=true:=decide_eq_true t4;have HF:Hid (R=false):=by
     have:R=false:=by rw [HE0.o];unfold picB;simp [t4]
     exact this
    clear HE0 t4 har hm1 hm2;go_enter Tryz.func38,Tryz.ntmps38;go_wp2_with fail;go_ret;exact ⟨ret_b HF.o.symm,HW.o.below⟩
   have d4:decide (65536<cw*ch)=false:=decide_eq_false t4;by_cases t5:(vn:Int)=cw*ch
   rotate_left
   ·have d5:((vn:Int)==cw*ch)=false:=beq_eq_false_iff_ne.2 t5;have d5':((vn:Int) != cw*ch)=true:=by rw [bne,d5];rfl
    have t5':¬(pix.length:Int)=cw*ch:=by rw [←HP.o];exact t5
    have HF:Hid (R=false):=by
     have:R=false:=by rw [HE0.o];unfold picB;simp [t5']
     exact this
    clear HE0 t5 t5' har hm1 hm2 t4;go_enter Tryz.func38,Tryz.ntmps38;go_wp2_with fail;go_ret;exact ⟨ret_b HF.o.symm,HW.o.below⟩
   have d5:((vn:Int)==cw*ch)=true:=by rw [t5];simp
   have d5':((vn:Int) != cw*ch)=false:=by rw [bne,d5];rfl
   have HT5:Hid ((pix.length:Int)=cw*ch):=by
    have:(pix.length:Int)=cw*ch:=by rw [←HP.o];exact t5
    exact this
   clear t5 har hm1 hm2;have HT4:Hid (¬65536<cw*ch):=t4;clear t4;by_cases t6:turn<0
   ·have d6:decide (turn<0)=true:=decide_eq_true t6;have HF:Hid (R=false):=by
     have:R=false:=by rw [HE0.o];unfold picB;simp [t6]
     exact this
    clear HE0 t6;go_enter Tryz.func38,Tryz.ntmps38;go_wp2_with fail;go_ret;exact ⟨ret_b HF.o.symm,HW.o.below⟩
   have d6:decide (turn<0)=false:=decide_eq_false t6;by_cases t7:3<turn
   ·have d7:decide (3<turn)=true:=decide_eq_true t7;have HF:Hid (R=false):=by
     have:R=false:=by rw [HE0.o];unfold picB;simp [t7]
     exact this
    clear HE0 t7 t6;go_enter Tryz.func38,Tryz.ntmps38;go_wp2_with fail;go_ret;exact ⟨ret_b HF.o.symm,HW.o.below⟩
   have d7:decide (3<turn)=false:=decide_eq_false t7;have HPI:Hid (picB ⟨2,⟨x0,y0,x1,y1⟩,⟨p0,p1,p2,p3⟩,cw,ch,turn,pix⟩=!(!ncB x0||!ncB y0)):=by
    have:picB ⟨2,⟨x0,y0,x1,y1⟩,⟨p0,p1,p2,p3⟩,cw,ch,turn,pix⟩=!(!ncB x0||!ncB y0):=by
     unfold picB;have h4:=HT4.o;have h5:=HT5.o;dsimp only;rw [d0,d1,d2,d3,d4,d6,d7,bne,beq_iff_eq.2 h5];rfl
    exact this
   clear t6 t7 HT4 HT5;obtain ⟨n0,hn0⟩:∃ d,d=ncB x0:=⟨_,rfl⟩;obtain ⟨n1,hn1⟩:∃ d,d=ncB y0:=⟨_,rfl⟩;have HN0:Hid (∀ W,Calls Tryz.prog 68 #[Y X x0] W (PPost W (.bool n0))):=fun W=>by rw [hn0];exact near23_c x0 W
   have HN1:Hid (∀ W,Calls Tryz.prog 68 #[Y X y0] W (PPost W (.bool n1))):=fun W=>by rw [hn1];exact near23_c y0 W
   have HE1:Hid (R=((n0&&n1)&&pix.all pxRP)):=by
    have:R=((n0&&n1)&&pix.all pxRP):=by rw [HE0.o,HPI.o,hn0,hn1];cases ncB x0<;>cases ncB y0<;>rfl
    exact this
   clear hn0 hn1 HE0 HPI;go_enter Tryz.func38,Tryz.ntmps38;go_wp2_with fail;generalize (w.alloc (.cells #[Y X 2,Y X x0,Y X y0,Y X x1,Y X y1,Y J p0,Y J p1,Y J p2,Y J p3,Y X cw,Y X ch,Y X turn,Z va vn vm] 30))=W1 at *;refine (HN0.o _).mono ?_;rintro e W2 ⟨rfl,hb2⟩;have H2:=N (HW.o.call hb2);have e2:=H2.o.cell 0 rfl 2 rfl;clear hb2 HW hwm d0 d1 d2 d3 d4 d5 d5' d6 d7
   cases n0 with
   |false=>
    go_wp2_with fail;go_ret;exact ⟨ret_b HE1.o.symm,H2.o.below⟩
   |true=>
   go_wp2_with fail;refine (HN1.o _).mono ?_;rintro e W3 ⟨rfl,hb3⟩;have H3:=N (H2.o.call hb3);clear hb3 H2 e2
   cases n1 with
   |false=>
    go_wp2_with fail;go_ret;exact ⟨ret_b HE1.o.symm,H3.o.below⟩
   |true=>
   have HE2:Hid (R=pix.all pxRP):=HE1.o;clear HE1;go_wp2_with fail;go_loopw [3] (fun jv wr=>∃ j:Nat,j≤vn∧jv=Y X j∧Bag w wr [(w.heap.size,[Y X 2,Y X x0,Y X y0,Y X x1,Y X y1,Y J p0,Y J p1,Y J p2,Y J p3,Y X cw,Y X ch,Y X turn,Z va vn vm])]∧Hid (∀ q,q<j→∀ p,pix[q]?=some p→pxRP p=true)) (fun jv _=>vn-(intOf jv).toNat)
   case atStart=>exact ⟨0,by omega,rfl,H3.o,fun q hq=>by omega⟩
   case round=>
    obtain ⟨j,hj,rfl,hr,hall⟩:=hrel;have H4:=N hr;have e12:=H4.o.cell 0 rfl 12 rfl;clear hr H3;by_cases hjl:j<vn
    ·obtain ⟨b,of,cc,p,hsv,_,_,_,hpj,_,m0,m1,m2,m3⟩:=pix_at (HV.o wr H4.o.below) (i:=j) (by rw [←HP.o];exact hjl);simp only [Value.slice.injEq] at hsv;obtain ⟨rfl,hnn,rfl⟩:=hsv;clear hnn;obtain ⟨z0,z1,z2,z3⟩:=p;dsimp only at m0 m1 m2 m3;obtain ⟨d,hd⟩:∃ d,d=pxRP ⟨z0,z1,z2,z3⟩:=⟨_,rfl⟩;have HC:Hid (∀ W,Calls Tryz.prog 67 #[.agg #[Y J z0,Y J z1,Y J z2,Y J z3]] W (PPost W (.bool d))):=fun W=>by rw [hd];exact right01_c z0 z1 z2 z3 W
     have HD:Hid (d=pxRP ⟨z0,z1,z2,z3⟩∧pix[j]?=some ⟨z0,z1,z2,z3⟩):=⟨hd,hpj⟩;have hj0:(0:Int)≤(j:Int):=by omega
     have hj1:(j:Int)<(vn:Int):=by omega
     clear hd hpj;go_wp2_with fail;refine (HC.o _).mono ?_;rintro e W5 ⟨rfl,hb5⟩;have H5:=N (H4.o.call hb5);clear hb5 H4 m0 m1 m2 m3 e12 HC
     cases d with
     |false=>
      have HF:Hid (R=false):=by
       have:R=false:=by
        rw [HE2.o,List.all_eq_false];exact ⟨_,List.mem_of_getElem? HD.o.2,by rw [←HD.o.1];simp⟩
       exact this
      go_wp2_with fail;go_ret;exact ⟨ret_b HF.o.symm,H5.o.below⟩
     |true=>
      have HA:Hid (∀ q,q<j+1→∀ p,pix[q]?=some p→pxRP p=true):=fun q hq p hp=>by
       by_cases e:q=j
       ·subst e;rw [HD.o.2] at hp;cases hp
        exact HD.o.1.symm
       ·exact hall.out q (by omega) p hp
      go_wp2_with fail;go_roundw
      case rel=>exact ⟨j+1,by omega,by go_num,H5.o,HA⟩
      case measure=>simp [intOf];omega
    ·have ej:j=vn:=by omega
     subst ej;have HT:Hid (R=true):=by
      have:R=true:=by
       rw [HE2.o,List.all_eq_true];intro p hp;obtain ⟨q,hq⟩:=List.getElem?_of_mem hp;exact hall.out q (by rw [HP.o];exact (List.getElem?_eq_some_iff.1 hq).1) p hq
      exact this
     go_wp2_with fail;go_ret;exact ⟨ret_b HT.o.symm,H4.o.below⟩
  ·have e1:(kind==1)=false:=beq_eq_false_iff_ne.2 hk1;have e2:(kind==2)=false:=beq_eq_false_iff_ne.2 hk2;have HE:Hid (R=(kind==0)):=by
    have:R=(kind==0):=by
     rw [HR.o];unfold contB;dsimp only;rw [if_neg hk1,if_neg hk2]
    exact this
   clear HR hk1 hk2;go_enter Tryz.func38,Tryz.ntmps38;go_wp2_with fail;go_ret;exact ⟨ret_b HE.o.symm,HW.o.below⟩
end Go.Proofs.YtgodhpampaleeaaGreatDoor
