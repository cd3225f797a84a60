/- Texts joined: Ec Ee Ef Eg Eh. -/
import Derived.Test.YtgodhpampaleeaaGreatDoorM06
import Derived.Test.YtgodhpampaleeaaGreatDoorM02
open Go.Value renaming int→Y,slice→Z
open Go.IntKind renaming i64→X,u8→J
open List renaming take_succ_cons→O,take_zero→U,getElem?_eq_getElem→I,mem_of_getElem?→Q,replicate→L
open Nat renaming le_refl→V,lt_of_lt_of_le→E
open Go.Lib renaming hid→T
open Go.Value.slice renaming injEq→N
set_option maxRecDepth 8000
set_option maxHeartbeats 6400000
set_option linter.unusedVariables false
namespace Go.Proofs.YtgodhpampaleeaaGreatDoor
open Go.RowKit Go.Bx Go.Od Go.Hp
attribute [local go_sem ↓] Go.wp_at_zero Go.wp_at_succ
theorem rcl_first {F:Nat→Prop} {w:World} {v:Value} {rs:List Rc} (h:SlOf RRc 4 F w v rs) (h0:0<rs.length):∃ b o c,v=Z (some ⟨b,o,none⟩) rs.length c∧F b∧rs.length≤c∧c≤maxLen∧
  ∀ i,i<rs.length→∃ q,rs[i]?=some q∧w.cell? ⟨b,o+i*4,none⟩=some (Y X q.x0)∧w.cell? ⟨b,o+i*4+1,none⟩=some (Y X q.y0)∧w.cell? ⟨b,o+i*4+2,none⟩=some (Y X q.x1)∧w.cell? ⟨b,o+i*4+3,none⟩=some (Y X q.y1):=by
 obtain ⟨a,cap,rfl,h1,h2,h3⟩:=h
 rcases h3 with h3|⟨b,o,rfl,hF,h3⟩
 ·subst h3;simp at h0
 ·refine ⟨b,o,cap,rfl,hF,h1,h2,fun i hi=>?_⟩;obtain ⟨cs,hl,hc,rfl,_⟩:=h3 i rs[i] (I hi);have k0:=hc 0 _ rfl;have k1:=hc 1 _ rfl;have k2:=hc 2 _ rfl;have k3:=hc 3 _ rfl;exact ⟨rs[i],I hi,by simpa using k0,k1,k2,k3⟩
theorem sl_drop {F:Nat→Prop} {w:World} {b o n c k:Nat} {xs:List Int} (h:SlOf RInt 1 F w (Z (some ⟨b,o,none⟩) n c) xs) (hk:k<n):SlOf RInt 1 F w (Z (some ⟨b,o+k,none⟩) (n-k) (c-k)) (xs.drop k):=by
 obtain ⟨a,cap,hv,h1,h2,h3⟩:=h;simp only [N] at hv;obtain ⟨rfl,rfl,rfl⟩:=hv;refine ⟨some ⟨b,o+k,none⟩,c-k,by simp,by simp;omega,by omega,?_⟩
 rcases h3 with h3|⟨b',o',e,hF,h3⟩
 ·subst h3;simp at hk
 ·cases e
  refine .inr ⟨b,o+k,rfl,hF,fun i x hi=>?_⟩;obtain ⟨cs,hl,hc,he⟩:=h3 (k+i) x (by rwa [List.getElem?_drop] at hi);refine ⟨cs,hl,fun j u hu=>?_,he⟩;have:=hc j u hu;rw [show o+(k+i)*1+j=o+k+i*1+j by omega] at this;exact this
theorem wrap_in {x:Int} (h1 : -9223372036854775808≤x) (h2:x≤9223372036854775807):IntKind.i64.wrap x=x:=IntWalk.i64_in _ ⟨h1,h2⟩
theorem flooded_c (iv pv:Value) (ins p:List Int) (w:World) {F:Nat→Prop} (hF:∀ b,F b→b<w.heap.size) (hp:SlOf RInt 1 F w pv p) (hiv:∃ a n c,iv=Z a n c) (hok:RaOk ⟨6,ins,p⟩):
  Calls Tryz.prog 76 #[.agg #[Y X 6,iv,pv]] w (PPost w (rv (if floodB ⟨6,ins,p⟩=true then Rc.zero else someR (pbox (p.drop 4))))):=by
 obtain ⟨ia,im,ic,rfl⟩:=hiv;obtain ⟨l8,hby,hpl⟩:=hok.fl rfl;dsimp only at l8 hpl;obtain ⟨b,o,c,rfl,hFb,hc,hcap,hcm⟩:=sl_cells hp (by omega);have c0':=hc 0 (by omega);rw [Nat.add_zero] at c0';have c1':=hc 1 (by omega);have c2':=hc 2 (by omega);have c3':=hc 3 (by omega);obtain ⟨b00,b01⟩:=hby 0 (by omega);obtain ⟨b10,b11⟩:=hby 1 (by omega);obtain ⟨b20,b21⟩:=hby 2 (by omega);obtain ⟨b30,b31⟩:=hby 3 (by omega);obtain ⟨q0,hq0⟩:∃ q,q=p.getD 0 0:=⟨_,rfl⟩;obtain ⟨q1,hq1⟩:∃ q,q=p.getD 1 0:=⟨_,rfl⟩;obtain ⟨q2,hq2⟩:∃ q,q=p.getD 2 0:=⟨_,rfl⟩;obtain ⟨q3,hq3⟩:∃ q,q=p.getD 3 0:=⟨_,rfl⟩;unfold par at b00 b01 b10 b11 b20 b21 b30 b31;dsimp only at b00 b01 b10 b11 b20 b21 b30 b31;rw [←hq0] at b00 b01 c0';rw [←hq1] at b10 b11 c1';rw [←hq2] at b20 b21 c2';rw [←hq3] at b30 b31 c3';obtain ⟨fb,hfb⟩:∃ f,f=floodB ⟨6,ins,p⟩:=⟨_,rfl⟩;have HD:Hid (fb=(q0+q1+q2+q3==0)):=by
  have:fb=(q0+q1+q2+q3==0):=by rw [hfb,hq0,hq1,hq2,hq3];rfl
  exact this
 rw [←hfb];obtain ⟨R,hR⟩:∃ R,R=(if fb=true then Rc.zero else someR (pbox (p.drop 4))):=⟨_,rfl⟩;have HR:=T hR;rw [←hR];clear hR;have hlt:=hF b hFb;have H0:Hid (Bag w ((w.alloc (.cells #[Y X 6,Z ia im ic,Z (some ⟨b,o,none⟩) p.length c] 52)).alloc (.cells (cs4 0 0 0 0) 25)) [(w.heap.size,[Y X 6,Z ia im ic,Z (some ⟨b,o,none⟩) p.length c]),(w.heap.size+1,cl4 ⟨0,0,0,0⟩)]):=bag2 w [Y X 6,Z ia im ic,Z (some ⟨b,o,none⟩) p.length c] (cl4 ⟨0,0,0,0⟩) _ _;have HP:Hid (SlOf RInt 1 F w (Z (some ⟨b,o,none⟩) p.length c) p∧(∀ b,F b→b<w.heap.size)∧p.length=8∧RcP (pbox (p.drop 4))):=⟨hp,hF,l8,hpl⟩;clear hp hF hby hc hok hpl hfb hq0 hq1 hq2 hq3;rw [l8] at H0 ⊢;rw [l8] at hcap;clear l8;go_enter Tryz.func76,Tryz.ntmps76;go_wp2_with fail;generalize ((w.alloc (.cells #[Y X 6,Z ia im ic,Z (some ⟨b,o,none⟩) 8 c] 52)).alloc (.cells (cs4 0 0 0 0) 25))=W0 at *;obtain ⟨g0,g1,g2⟩:=(H0.o.box 0 rfl).c3;have c0:=(H0.o.below.cell (p:=⟨b,o,none⟩) hlt).trans c0';have c1:=(H0.o.below.cell (p:=⟨b,o+1,none⟩) hlt).trans c1';have c2:=(H0.o.below.cell (p:=⟨b,o+2,none⟩) hlt).trans c2';have c3:=(H0.o.below.cell (p:=⟨b,o+3,none⟩) hlt).trans c3';obtain ⟨k0,k1,k2,k3,k4,k5,k6⟩:=kept7 g0 g1 g2 c0 c1 c2 c3;unfold maxLen at hcm;have s1:IntKind.i64.wrap (q0+q1)=q0+q1:=wrap_in (by omega) (by omega);have s2:IntKind.i64.wrap (q0+q1+q2)=q0+q1+q2:=wrap_in (by clear s1;omega) (by clear s1;omega);have s3:IntKind.i64.wrap (q0+q1+q2+q3)=q0+q1+q2+q3:=wrap_in (by clear s1 s2;omega) (by clear s1 s2;omega);clear c0' c1' c2' c3' g0 g1 g2 c0 c1 c2 c3;refine wp_region_kept W0.heap.size (by kernel_rfl) (by kernel_rfl) ?_
 repeat (go_big_quiet_step (fail))
 refine wpQuiet_nil ?_;rintro _ ⟨s,rfl⟩;clear s1 s2 s3 k0 k1 k2 k3 k4 k5 k6;have H1:=T (H0.o.call s.below);clear H0;generalize s.w=W1 at *;clear s;obtain ⟨g0,g1,g2⟩:=(H1.o.box 0 rfl).c3;obtain ⟨r0,r1,r2,r3⟩:=box4 (H1.o.box 1 rfl);obtain ⟨f0,f1,f2,f3⟩:=(H1.o.box 1 rfl).f4
 cases fb with
 |true=>
  have hd:(q0+q1+q2+q3==0)=true:=HD.o.symm;obtain rfl:R=Rc.zero:=HR.o.trans (if_pos rfl);clear HD HR;go_wp2_with fail;have H2:=H1.o.set4 1 rfl (Y X 0) (Y X 0) (Y X 0) (Y X 0);exact ret_rect (g:=w.heap.size+1) (r:=Rc.zero) rfl rfl (H2.box 1 rfl) rfl ⟨rfl,H2.below⟩
 |false=>
  have hd:(q0+q1+q2+q3==0)=false:=HD.o.symm;have hcne:¬c=4:=by omega
  clear HD;obtain ⟨q,hq⟩:∃ q,q=pbox (p.drop 4):=⟨_,rfl⟩;have HB:Hid (∀ W,Below W1.heap.size W1 W→Calls Tryz.prog 77 #[Z (some ⟨b,o+4,none⟩) 4 (c-4)] W (PPost W (rv q))):=fun W hb=>by
   have hsl:=sl_drop HP.o.1 (k:=4) (by rw [HP.o.2.2.1];omega);rw [HP.o.2.2.1] at hsl;rw [hq];exact fbox_c _ _ W (hsl.same RInt.ok (Same.of_below (H1.o.below.trans (hb.mono H1.o.below.size)) HP.o.2.1)) (by simp [HP.o.2.2.1])
  have HS:Hid (∀ W,Calls Tryz.prog 73 #[rv q] W (PPost W (rv (someR q)))):=fun W=>fsome_c q W;have hz:R=someR q:=by rw [HR.o,hq];exact if_neg (by decide)
  rw [←hz] at HS;clear HR hq hz r0 r1 r2 r3 f0 f1 f2 f3;have hc4:4≤c:=by omega
  go_wp2_with fail;refine (HB.o _ (Below.refl _ _)).mono ?_;rintro e W2 ⟨rfl,hb2⟩;clear g0 g1 g2;go_wp2_with fail;refine (HS.o _).mono ?_;rintro e W3 ⟨rfl,hb3⟩;have H3:=T ((H1.o.call hb2).call hb3);obtain ⟨r0,r1,r2,r3⟩:=box4 (H3.o.box 1 rfl);obtain ⟨f0,f1,f2,f3⟩:=(H3.o.box 1 rfl).f4;clear hb2 hb3 H1 HB HS;go_wp2_with fail;have H4:=H3.o.set4 1 rfl (Y X R.x0) (Y X R.y0) (Y X R.x1) (Y X R.y1);exact ret_rect (g:=w.heap.size+1) (r:=R) rfl rfl (H4.box 1 rfl) rfl ⟨rfl,H4.below⟩
theorem reach1_c (iv pv lv:Value) (ins p:List Int) (rs:List Rc) (w:World) {F:Nat→Prop} (hF:∀ b,F b→b<w.heap.size) (hp:SlOf RInt 1 F w pv p) (hiv:∃ a n c,iv=Z a n c) (hl:SlOf RRc 4 F w lv rs) (hok:RaOk ⟨1,ins,p⟩) (hlen:rs.length=ins.length) (hpl:∀ r∈rs,RcP r):
  Calls Tryz.prog 42 #[.agg #[Y X 1,iv,pv],lv] w (PPost w (rv (reachN ⟨1,ins,p⟩ rs))):=by
 obtain ⟨ia,im,ic,rfl⟩:=hiv;obtain ⟨R,hR⟩:∃ R,R=reachN ⟨1,ins,p⟩ rs:=⟨_,rfl⟩;rw [←hR];have hone:ins.length=1:=hok.sin (by simp);obtain ⟨lb,lo,lc,rfl,hFl,hlcap,hlcm,hrc⟩:=rcl_first hl (by omega);obtain ⟨q,hq,e0',e1',e2',e3'⟩:=hrc 0 (by omega);simp only [Nat.zero_mul,Nat.add_zero] at e0' e1' e2' e3';have hz:rs.getD 0 Rc.zero=q:=by simp [hq]
 have hqp:RcP q:=hpl q (Q hq);obtain ⟨x0,y0,x1,y1⟩:=q;dsimp only at e0' e1' e2' e3';rw [hlen,hone] at hlcap ⊢;have hll:=hF lb hFl;obtain ⟨l2,⟨b00,b01⟩,b10,b11⟩:=hok.pa.mv (.inl rfl);dsimp only at l2 b00 b01 b10 b11;obtain ⟨b,o,c,rfl,hFb,hc,hcap,hcm⟩:=sl_cells hp (by omega);have hlt:=hF b hFb;have c0':=hc 0 (by omega);rw [Nat.add_zero] at c0';obtain ⟨q0,hq0⟩:∃ q,q=p.getD 0 0:=⟨_,rfl⟩;rw [←hq0] at c0';have c1':=hc 1 (by omega);obtain ⟨q1,hq1⟩:∃ q,q=p.getD 1 0:=⟨_,rfl⟩;rw [←hq1] at c1';rw [←hq0] at b00 b01;rw [←hq1] at b10 b11;obtain ⟨m,hm⟩:∃ m,m=p.length:=⟨_,rfl⟩;rw [←hm] at hcap l2 ⊢;have HRR:Hid (R=moveR ⟨x0,y0,x1,y1⟩ q0 q1):=by
  have:R=moveR ⟨x0,y0,x1,y1⟩ q0 q1:=by rw [hR,←hz,hq0,hq1];rfl
  exact this
 have H0:Hid (Bag w ((w.alloc (.cells #[Y X 1,Z ia im ic,Z (some ⟨b,o,none⟩) m c] 52)).alloc (.cells (cs4 0 0 0 0) 25)) [(w.heap.size,[Y X 1,Z ia im ic,Z (some ⟨b,o,none⟩) m c]),(w.heap.size+1,cl4 ⟨0,0,0,0⟩)]):=bag2 w [Y X 1,Z ia im ic,Z (some ⟨b,o,none⟩) m c] (cl4 ⟨0,0,0,0⟩) _ _;have HQ:Hid (RcP ⟨x0,y0,x1,y1⟩):=hqp;unfold maxLen at hcm hlcm;clear hp hF hl hok hpl hR hc hm hq0 hq1 hrc hz hqp hq hlen hone;go_enter Tryz.func42,Tryz.ntmps42;go_wp2_with fail;generalize ((w.alloc (.cells #[Y X 1,Z ia im ic,Z (some ⟨b,o,none⟩) m c] 52)).alloc (.cells (cs4 0 0 0 0) 25))=W1 at *;have e0:=(H0.o.below.cell (p:=⟨lb,lo,none⟩) hll).trans e0';have e1:=(H0.o.below.cell (p:=⟨lb,lo+1,none⟩) hll).trans e1';have e2:=(H0.o.below.cell (p:=⟨lb,lo+2,none⟩) hll).trans e2';have e3:=(H0.o.below.cell (p:=⟨lb,lo+3,none⟩) hll).trans e3';have c0:=(H0.o.below.cell (p:=⟨b,o,none⟩) hlt).trans c0';have c1:=(H0.o.below.cell (p:=⟨b,o+1,none⟩) hlt).trans c1';have M0:Hid (∀ s:Kept W1.heap.size W1,Calls Tryz.prog 18 #[.agg #[Y X x0,Y X y0,Y X x1,Y X y1],Y X q0,Y X q1] s.w (PPost s.w (.agg #[Y X R.x0,Y X R.y0,Y X R.x1,Y X R.y1]))):=fun s=>by
  rw [HRR.o];exact move_c ⟨x0,y0,x1,y1⟩ q0 q1 s.w HQ.o (by omega) (by omega)
 clear e0' e1' e2' e3' c0' c1';obtain ⟨g0,g1,g2⟩:=(H0.o.box 0 rfl).c3;obtain ⟨k0,k1,k2,k3,k4,k5,k6,k7⟩:=kept8 g0 g1 g2 e0 e1 e2 e3 c0;have k8:=fun s:Kept W1.heap.size W1=>s.at c1;clear g0 g1 g2 e0 e1 e2 e3 c0 c1;go_wp2_with fail;refine wp_region_kept_last W1.heap.size 12 _ rfl rfl (by kernel_rfl) (by kernel_rfl) ?_;simp only [O,U]
 repeat (go_big_quiet_step (first|(go_at_call 18;with_reducible exact Calls.kept _ (V _) (M0.o _))))
 refine wpQuiet_nil ?_;intro s;have H2:=T (H0.o.call s.below);obtain ⟨r0,r1,r2,r3⟩:=box4 (H2.o.box 1 rfl);obtain ⟨f0,f1,f2,f3⟩:=(H2.o.box 1 rfl).f4;refine ⟨steps_plain rfl (gives_mono (R:=fun v w'=>v=undef∧w'=(((s.w.setCell ⟨w.heap.size+1,0,none⟩ (Y X R.x0)).setCell ⟨w.heap.size+1,1,none⟩ (Y X R.y0)).setCell ⟨w.heap.size+1,2,none⟩ (Y X R.x1)).setCell ⟨w.heap.size+1,3,none⟩ (Y X R.y1)) (by simp [gives,go_sem,r0,r1,r2,r3,f0,f1,f2,f3]) ?_)⟩;rintro _ _ ⟨rfl,rfl⟩;clear k0 k1 k2 k3 k4 k5 k6 k7 k8;go_wp2_with fail;have H3:=H2.o.set4 1 rfl (Y X R.x0) (Y X R.y0) (Y X R.x1) (Y X R.y1);exact ret_rect (g:=w.heap.size+1) (r:=R) rfl rfl (H3.box 1 rfl) rfl ⟨rfl,H3.below⟩
theorem reach2_c (iv pv lv:Value) (ins p:List Int) (rs:List Rc) (w:World) {F:Nat→Prop} (hF:∀ b,F b→b<w.heap.size) (hp:SlOf RInt 1 F w pv p) (hiv:∃ a n c,iv=Z a n c) (hl:SlOf RRc 4 F w lv rs) (hok:RaOk ⟨2,ins,p⟩) (hlen:rs.length=ins.length) (hpl:∀ r∈rs,RcP r):
  Calls Tryz.prog 42 #[.agg #[Y X 2,iv,pv],lv] w (PPost w (rv (reachN ⟨2,ins,p⟩ rs))):=by
 obtain ⟨ia,im,ic,rfl⟩:=hiv;obtain ⟨R,hR⟩:∃ R,R=reachN ⟨2,ins,p⟩ rs:=⟨_,rfl⟩;rw [←hR];have hone:ins.length=1:=hok.sin (by simp);obtain ⟨lb,lo,lc,rfl,hFl,hlcap,hlcm,hrc⟩:=rcl_first hl (by omega);obtain ⟨q,hq,e0',e1',e2',e3'⟩:=hrc 0 (by omega);simp only [Nat.zero_mul,Nat.add_zero] at e0' e1' e2' e3';have hz:rs.getD 0 Rc.zero=q:=by simp [hq]
 have hqp:RcP q:=hpl q (Q hq);obtain ⟨x0,y0,x1,y1⟩:=q;dsimp only at e0' e1' e2' e3';rw [hlen,hone] at hlcap ⊢;have hll:=hF lb hFl;obtain ⟨l2,⟨b00,b01⟩,b10,b11⟩:=hok.pa.gr (.inl rfl);dsimp only at l2 b00 b01 b10 b11;obtain ⟨b,o,c,rfl,hFb,hc,hcap,hcm⟩:=sl_cells hp (by omega);have hlt:=hF b hFb;have c0':=hc 0 (by omega);rw [Nat.add_zero] at c0';obtain ⟨q0,hq0⟩:∃ q,q=p.getD 0 0:=⟨_,rfl⟩;rw [←hq0] at c0';have c1':=hc 1 (by omega);obtain ⟨q1,hq1⟩:∃ q,q=p.getD 1 0:=⟨_,rfl⟩;rw [←hq1] at c1';rw [←hq0] at b00 b01;rw [←hq1] at b10 b11;obtain ⟨m,hm⟩:∃ m,m=p.length:=⟨_,rfl⟩;rw [←hm] at hcap l2 ⊢;have HRR:Hid (R=growR ⟨x0,y0,x1,y1⟩ q0 q1 q0 q1):=by
  have:R=growR ⟨x0,y0,x1,y1⟩ q0 q1 q0 q1:=by rw [hR,←hz,hq0,hq1];rfl
  exact this
 have H0:Hid (Bag w ((w.alloc (.cells #[Y X 2,Z ia im ic,Z (some ⟨b,o,none⟩) m c] 52)).alloc (.cells (cs4 0 0 0 0) 25)) [(w.heap.size,[Y X 2,Z ia im ic,Z (some ⟨b,o,none⟩) m c]),(w.heap.size+1,cl4 ⟨0,0,0,0⟩)]):=bag2 w [Y X 2,Z ia im ic,Z (some ⟨b,o,none⟩) m c] (cl4 ⟨0,0,0,0⟩) _ _;have HQ:Hid (RcP ⟨x0,y0,x1,y1⟩):=hqp;unfold maxLen at hcm hlcm;clear hp hF hl hok hpl hR hc hm hq0 hq1 hrc hz hqp hq hlen hone;go_enter Tryz.func42,Tryz.ntmps42;go_wp2_with fail;generalize ((w.alloc (.cells #[Y X 2,Z ia im ic,Z (some ⟨b,o,none⟩) m c] 52)).alloc (.cells (cs4 0 0 0 0) 25))=W1 at *;have e0:=(H0.o.below.cell (p:=⟨lb,lo,none⟩) hll).trans e0';have e1:=(H0.o.below.cell (p:=⟨lb,lo+1,none⟩) hll).trans e1';have e2:=(H0.o.below.cell (p:=⟨lb,lo+2,none⟩) hll).trans e2';have e3:=(H0.o.below.cell (p:=⟨lb,lo+3,none⟩) hll).trans e3';have c0:=(H0.o.below.cell (p:=⟨b,o,none⟩) hlt).trans c0';have c1:=(H0.o.below.cell (p:=⟨b,o+1,none⟩) hlt).trans c1';have M0:Hid (∀ s:Kept W1.heap.size W1,Calls Tryz.prog 72 #[.agg #[Y X x0,Y X y0,Y X x1,Y X y1],Y X q0,Y X q1,Y X q0,Y X q1] s.w (PPost s.w (.agg #[Y X R.x0,Y X R.y0,Y X R.x1,Y X R.y1]))):=fun s=>by
  rw [HRR.o];exact grow_c ⟨x0,y0,x1,y1⟩ q0 q1 q0 q1 s.w HQ.o (by omega) (by omega) (by omega) (by omega)
 clear e0' e1' e2' e3' c0' c1';obtain ⟨g0,g1,g2⟩:=(H0.o.box 0 rfl).c3;obtain ⟨k0,k1,k2,k3,k4,k5,k6,k7⟩:=kept8 g0 g1 g2 e0 e1 e2 e3 c0;have k8:=fun s:Kept W1.heap.size W1=>s.at c1;clear g0 g1 g2 e0 e1 e2 e3 c0 c1;go_wp2_with fail;refine wp_region_kept_last W1.heap.size 20 _ rfl rfl (by kernel_rfl) (by kernel_rfl) ?_;simp only [O,U]
 repeat (go_big_quiet_step (first|(go_at_call 72;with_reducible exact Calls.kept _ (V _) (M0.o _))))
 refine wpQuiet_nil ?_;intro s;have H2:=T (H0.o.call s.below);obtain ⟨r0,r1,r2,r3⟩:=box4 (H2.o.box 1 rfl);obtain ⟨f0,f1,f2,f3⟩:=(H2.o.box 1 rfl).f4;refine ⟨steps_plain rfl (gives_mono (R:=fun v w'=>v=undef∧w'=(((s.w.setCell ⟨w.heap.size+1,0,none⟩ (Y X R.x0)).setCell ⟨w.heap.size+1,1,none⟩ (Y X R.y0)).setCell ⟨w.heap.size+1,2,none⟩ (Y X R.x1)).setCell ⟨w.heap.size+1,3,none⟩ (Y X R.y1)) (by simp [gives,go_sem,r0,r1,r2,r3,f0,f1,f2,f3]) ?_)⟩;rintro _ _ ⟨rfl,rfl⟩;clear k0 k1 k2 k3 k4 k5 k6 k7 k8;go_wp2_with fail;have H3:=H2.o.set4 1 rfl (Y X R.x0) (Y X R.y0) (Y X R.x1) (Y X R.y1);exact ret_rect (g:=w.heap.size+1) (r:=R) rfl rfl (H3.box 1 rfl) rfl ⟨rfl,H3.below⟩
theorem reach4_c (iv pv lv:Value) (ins p:List Int) (rs:List Rc) (w:World) {F:Nat→Prop} (hF:∀ b,F b→b<w.heap.size) (hp:SlOf RInt 1 F w pv p) (hiv:∃ a n c,iv=Z a n c) (hl:SlOf RRc 4 F w lv rs) (hok:RaOk ⟨4,ins,p⟩) (hlen:rs.length=ins.length) (hpl:∀ r∈rs,RcP r):
  Calls Tryz.prog 42 #[.agg #[Y X 4,iv,pv],lv] w (PPost w (rv (reachN ⟨4,ins,p⟩ rs))):=by
 obtain ⟨ia,im,ic,rfl⟩:=hiv;obtain ⟨R,hR⟩:∃ R,R=reachN ⟨4,ins,p⟩ rs:=⟨_,rfl⟩;rw [←hR];have hone:ins.length=1:=hok.sin (by simp);obtain ⟨lb,lo,lc,rfl,hFl,hlcap,hlcm,hrc⟩:=rcl_first hl (by omega);obtain ⟨q,hq,e0',e1',e2',e3'⟩:=hrc 0 (by omega);simp only [Nat.zero_mul,Nat.add_zero] at e0' e1' e2' e3';have hz:rs.getD 0 Rc.zero=q:=by simp [hq]
 have hqp:RcP q:=hpl q (Q hq);obtain ⟨x0,y0,x1,y1⟩:=q;dsimp only at e0' e1' e2' e3';rw [hlen,hone] at hlcap ⊢;have hll:=hF lb hFl;obtain ⟨l2,⟨b00,b01⟩,b10,b11⟩:=hok.pa.gr (.inr (.inr rfl));dsimp only at l2 b00 b01 b10 b11;obtain ⟨b,o,c,rfl,hFb,hc,hcap,hcm⟩:=sl_cells hp (by omega);have hlt:=hF b hFb;have c0':=hc 0 (by omega);rw [Nat.add_zero] at c0';obtain ⟨q0,hq0⟩:∃ q,q=p.getD 0 0:=⟨_,rfl⟩;rw [←hq0] at c0';have c1':=hc 1 (by omega);obtain ⟨q1,hq1⟩:∃ q,q=p.getD 1 0:=⟨_,rfl⟩;rw [←hq1] at c1';rw [←hq0] at b00 b01;rw [←hq1] at b10 b11;obtain ⟨m,hm⟩:∃ m,m=p.length:=⟨_,rfl⟩;rw [←hm] at hcap l2 ⊢;have HRR:Hid (R=growR ⟨x0,y0,x1,y1⟩ q0 q1 q0 q1):=by
  have:R=growR ⟨x0,y0,x1,y1⟩ q0 q1 q0 q1:=by rw [hR,←hz,hq0,hq1];rfl
  exact this
 have H0:Hid (Bag w ((w.alloc (.cells #[Y X 4,Z ia im ic,Z (some ⟨b,o,none⟩) m c] 52)).alloc (.cells (cs4 0 0 0 0) 25)) [(w.heap.size,[Y X 4,Z ia im ic,Z (some ⟨b,o,none⟩) m c]),(w.heap.size+1,cl4 ⟨0,0,0,0⟩)]):=bag2 w [Y X 4,Z ia im ic,Z (some ⟨b,o,none⟩) m c] (cl4 ⟨0,0,0,0⟩) _ _;have HQ:Hid (RcP ⟨x0,y0,x1,y1⟩):=hqp;unfold maxLen at hcm hlcm;clear hp hF hl hok hpl hR hc hm hq0 hq1 hrc hz hqp hq hlen hone;go_enter Tryz.func42,Tryz.ntmps42;go_wp2_with fail;generalize ((w.alloc (.cells #[Y X 4,Z ia im ic,Z (some ⟨b,o,none⟩) m c] 52)).alloc (.cells (cs4 0 0 0 0) 25))=W1 at *;have e0:=(H0.o.below.cell (p:=⟨lb,lo,none⟩) hll).trans e0';have e1:=(H0.o.below.cell (p:=⟨lb,lo+1,none⟩) hll).trans e1';have e2:=(H0.o.below.cell (p:=⟨lb,lo+2,none⟩) hll).trans e2';have e3:=(H0.o.below.cell (p:=⟨lb,lo+3,none⟩) hll).trans e3';have c0:=(H0.o.below.cell (p:=⟨b,o,none⟩) hlt).trans c0';have c1:=(H0.o.below.cell (p:=⟨b,o+1,none⟩) hlt).trans c1';have M0:Hid (∀ s:Kept W1.heap.size W1,Calls Tryz.prog 72 #[.agg #[Y X x0,Y X y0,Y X x1,Y X y1],Y X q0,Y X q1,Y X q0,Y X q1] s.w (PPost s.w (.agg #[Y X R.x0,Y X R.y0,Y X R.x1,Y X R.y1]))):=fun s=>by
  rw [HRR.o];exact grow_c ⟨x0,y0,x1,y1⟩ q0 q1 q0 q1 s.w HQ.o (by omega) (by omega) (by omega) (by omega)
 clear e0' e1' e2' e3' c0' c1';obtain ⟨g0,g1,g2⟩:=(H0.o.box 0 rfl).c3;obtain ⟨k0,k1,k2,k3,k4,k5,k6,k7⟩:=kept8 g0 g1 g2 e0 e1 e2 e3 c0;have k8:=fun s:Kept W1.heap.size W1=>s.at c1;clear g0 g1 g2 e0 e1 e2 e3 c0 c1;go_wp2_with fail;refine wp_region_kept_last W1.heap.size 20 _ rfl rfl (by kernel_rfl) (by kernel_rfl) ?_;simp only [O,U]
 repeat (go_big_quiet_step (first|(go_at_call 72;with_reducible exact Calls.kept _ (V _) (M0.o _))))
 refine wpQuiet_nil ?_;intro s;have H2:=T (H0.o.call s.below);obtain ⟨r0,r1,r2,r3⟩:=box4 (H2.o.box 1 rfl);obtain ⟨f0,f1,f2,f3⟩:=(H2.o.box 1 rfl).f4;refine ⟨steps_plain rfl (gives_mono (R:=fun v w'=>v=undef∧w'=(((s.w.setCell ⟨w.heap.size+1,0,none⟩ (Y X R.x0)).setCell ⟨w.heap.size+1,1,none⟩ (Y X R.y0)).setCell ⟨w.heap.size+1,2,none⟩ (Y X R.x1)).setCell ⟨w.heap.size+1,3,none⟩ (Y X R.y1)) (by simp [gives,go_sem,r0,r1,r2,r3,f0,f1,f2,f3]) ?_)⟩;rintro _ _ ⟨rfl,rfl⟩;clear k0 k1 k2 k3 k4 k5 k6 k7 k8;go_wp2_with fail;have H3:=H2.o.set4 1 rfl (Y X R.x0) (Y X R.y0) (Y X R.x1) (Y X R.y1);exact ret_rect (g:=w.heap.size+1) (r:=R) rfl rfl (H3.box 1 rfl) rfl ⟨rfl,H3.below⟩
theorem reach11_c (iv pv lv:Value) (ins p:List Int) (rs:List Rc) (w:World) {F:Nat→Prop} (hF:∀ b,F b→b<w.heap.size) (hp:SlOf RInt 1 F w pv p) (hiv:∃ a n c,iv=Z a n c) (hl:SlOf RRc 4 F w lv rs) (hok:RaOk ⟨11,ins,p⟩) (hlen:rs.length=ins.length) (hpl:∀ r∈rs,RcP r):
  Calls Tryz.prog 42 #[.agg #[Y X 11,iv,pv],lv] w (PPost w (rv (reachN ⟨11,ins,p⟩ rs))):=by
 obtain ⟨ia,im,ic,rfl⟩:=hiv;obtain ⟨R,hR⟩:∃ R,R=reachN ⟨11,ins,p⟩ rs:=⟨_,rfl⟩;rw [←hR];have hone:ins.length=1:=hok.sin (by simp);obtain ⟨lb,lo,lc,rfl,hFl,hlcap,hlcm,hrc⟩:=rcl_first hl (by omega);obtain ⟨q,hq,e0',e1',e2',e3'⟩:=hrc 0 (by omega);simp only [Nat.zero_mul,Nat.add_zero] at e0' e1' e2' e3';have hz:rs.getD 0 Rc.zero=q:=by simp [hq]
 have hqp:RcP q:=hpl q (Q hq);obtain ⟨x0,y0,x1,y1⟩:=q;dsimp only at e0' e1' e2' e3';rw [hlen,hone] at hlcap ⊢;have hll:=hF lb hFl;obtain ⟨_,⟨b00,b01⟩,b10,b11⟩:=hok.pa.mv (.inr rfl);obtain ⟨l2,⟨b20,b21⟩,b30,b31⟩:=hok.pa.sh rfl;dsimp only at l2 b00 b01 b10 b11 b20 b21 b30 b31;obtain ⟨b,o,c,rfl,hFb,hc,hcap,hcm⟩:=sl_cells hp (by omega);have hlt:=hF b hFb;have c0':=hc 0 (by omega);rw [Nat.add_zero] at c0';obtain ⟨q0,hq0⟩:∃ q,q=p.getD 0 0:=⟨_,rfl⟩;rw [←hq0] at c0';have c1':=hc 1 (by omega);obtain ⟨q1,hq1⟩:∃ q,q=p.getD 1 0:=⟨_,rfl⟩;rw [←hq1] at c1';have c2':=hc 2 (by omega);obtain ⟨q2,hq2⟩:∃ q,q=p.getD 2 0:=⟨_,rfl⟩;rw [←hq2] at c2';have c3':=hc 3 (by omega);obtain ⟨q3,hq3⟩:∃ q,q=p.getD 3 0:=⟨_,rfl⟩;rw [←hq3] at c3';rw [←hq0] at b00 b01;rw [←hq1] at b10 b11;rw [←hq2] at b20 b21;rw [←hq3] at b30 b31;obtain ⟨m,hm⟩:∃ m,m=p.length:=⟨_,rfl⟩;rw [←hm] at hcap l2 ⊢;obtain ⟨mv,hmv⟩:∃ r,r=moveR ⟨x0,y0,x1,y1⟩ q0 q1:=⟨_,rfl⟩;obtain ⟨gv,hgv⟩:∃ r,r=growR mv q2 q3 q2 q3:=⟨_,rfl⟩;have HRR:Hid (R=joinR ⟨x0,y0,x1,y1⟩ gv∧mv=moveR ⟨x0,y0,x1,y1⟩ q0 q1∧gv=growR mv q2 q3 q2 q3):=by
  have:R=joinR ⟨x0,y0,x1,y1⟩ gv:=by rw [hR,hgv,hmv,←hz,hq0,hq1,hq2,hq3];rfl
  exact ⟨this,hmv,hgv⟩
 clear hmv hgv;have H0:Hid (Bag w ((w.alloc (.cells #[Y X 11,Z ia im ic,Z (some ⟨b,o,none⟩) m c] 52)).alloc (.cells (cs4 0 0 0 0) 25)) [(w.heap.size,[Y X 11,Z ia im ic,Z (some ⟨b,o,none⟩) m c]),(w.heap.size+1,cl4 ⟨0,0,0,0⟩)]):=bag2 w [Y X 11,Z ia im ic,Z (some ⟨b,o,none⟩) m c] (cl4 ⟨0,0,0,0⟩) _ _;have HQ:Hid (RcP ⟨x0,y0,x1,y1⟩):=hqp;unfold maxLen at hcm hlcm;clear hp hF hl hok hpl hR hc hm hq0 hq1 hq2 hq3 hrc hz hqp hq hlen hone;go_enter Tryz.func42,Tryz.ntmps42;go_wp2_with fail;generalize ((w.alloc (.cells #[Y X 11,Z ia im ic,Z (some ⟨b,o,none⟩) m c] 52)).alloc (.cells (cs4 0 0 0 0) 25))=W1 at *;have e0:=(H0.o.below.cell (p:=⟨lb,lo,none⟩) hll).trans e0';have e1:=(H0.o.below.cell (p:=⟨lb,lo+1,none⟩) hll).trans e1';have e2:=(H0.o.below.cell (p:=⟨lb,lo+2,none⟩) hll).trans e2';have e3:=(H0.o.below.cell (p:=⟨lb,lo+3,none⟩) hll).trans e3';have c0:=(H0.o.below.cell (p:=⟨b,o,none⟩) hlt).trans c0';have c1:=(H0.o.below.cell (p:=⟨b,o+1,none⟩) hlt).trans c1';have c2:=(H0.o.below.cell (p:=⟨b,o+2,none⟩) hlt).trans c2';have c3:=(H0.o.below.cell (p:=⟨b,o+3,none⟩) hlt).trans c3';have M0:Hid (∀ s:Kept W1.heap.size W1,Calls Tryz.prog 18 #[.agg #[Y X x0,Y X y0,Y X x1,Y X y1],Y X q0,Y X q1] s.w (PPost s.w (.agg #[Y X mv.x0,Y X mv.y0,Y X mv.x1,Y X mv.y1]))):=fun s=>by
  rw [HRR.o.2.1];exact move_c ⟨x0,y0,x1,y1⟩ q0 q1 s.w HQ.o (by omega) (by omega)
 have M1:Hid (∀ s:Kept W1.heap.size W1,Calls Tryz.prog 72 #[.agg #[Y X mv.x0,Y X mv.y0,Y X mv.x1,Y X mv.y1],Y X q2,Y X q3,Y X q2,Y X q3] s.w (PPost s.w (.agg #[Y X gv.x0,Y X gv.y0,Y X gv.x1,Y X gv.y1]))):=fun s=>by
  rw [HRR.o.2.2];exact grow_c mv q2 q3 q2 q3 s.w (by rw [HRR.o.2.1];exact moveR_pl _ _ _) (by omega) (by omega) (by omega) (by omega)
 have M2:Hid (∀ s:Kept W1.heap.size W1,Calls Tryz.prog 31 #[.agg #[Y X x0,Y X y0,Y X x1,Y X y1],.agg #[Y X gv.x0,Y X gv.y0,Y X gv.x1,Y X gv.y1]] s.w (PPost s.w (.agg #[Y X R.x0,Y X R.y0,Y X R.x1,Y X R.y1]))):=fun s=>by
  rw [HRR.o.1];exact join_c ⟨x0,y0,x1,y1⟩ gv s.w
 clear e0' e1' e2' e3' c0' c1' c2' c3';obtain ⟨g0,g1,g2⟩:=(H0.o.box 0 rfl).c3;obtain ⟨k0,k1,k2,k3,k4,k5,k6,k7⟩:=kept8 g0 g1 g2 e0 e1 e2 e3 c0;obtain ⟨k8,k9,k10⟩:=kept3 c1 c2 c3;clear g0 g1 g2 e0 e1 e2 e3 c0 c1 c2 c3;go_wp2_with fail;refine wp_region_kept_last W1.heap.size 33 _ rfl rfl (by kernel_rfl) (by kernel_rfl) ?_;simp only [O,U]
 repeat (go_big_quiet_step (first|(go_at_call 18;with_reducible exact Calls.kept _ (V _) (M0.o _))|(go_at_call 72;with_reducible exact Calls.kept _ (V _) (M1.o _))|(go_at_call 31;with_reducible exact Calls.kept _ (V _) (M2.o _))))
 refine wpQuiet_nil ?_;intro s;have H2:=T (H0.o.call s.below);obtain ⟨r0,r1,r2,r3⟩:=box4 (H2.o.box 1 rfl);obtain ⟨f0,f1,f2,f3⟩:=(H2.o.box 1 rfl).f4;refine ⟨steps_plain rfl (gives_mono (R:=fun v w'=>v=undef∧w'=(((s.w.setCell ⟨w.heap.size+1,0,none⟩ (Y X R.x0)).setCell ⟨w.heap.size+1,1,none⟩ (Y X R.y0)).setCell ⟨w.heap.size+1,2,none⟩ (Y X R.x1)).setCell ⟨w.heap.size+1,3,none⟩ (Y X R.y1)) (by simp [gives,go_sem,r0,r1,r2,r3,f0,f1,f2,f3]) ?_)⟩;rintro _ _ ⟨rfl,rfl⟩;clear k0 k1 k2 k3 k4 k5 k6 k7 k8 k9 k10;go_wp2_with fail;have H3:=H2.o.set4 1 rfl (Y X R.x0) (Y X R.y0) (Y X R.x1) (Y X R.y1);exact ret_rect (g:=w.heap.size+1) (r:=R) rfl rfl (H3.box 1 rfl) rfl ⟨rfl,H3.below⟩
theorem reach12_c (iv pv lv:Value) (ins p:List Int) (rs:List Rc) (w:World) {F:Nat→Prop} (hF:∀ b,F b→b<w.heap.size) (hp:SlOf RInt 1 F w pv p) (hiv:∃ a n c,iv=Z a n c) (hl:SlOf RRc 4 F w lv rs) (hok:RaOk ⟨12,ins,p⟩) (hlen:rs.length=ins.length) (hpl:∀ r∈rs,RcP r):
  Calls Tryz.prog 42 #[.agg #[Y X 12,iv,pv],lv] w (PPost w (rv (reachN ⟨12,ins,p⟩ rs))):=by
 obtain ⟨ia,im,ic,rfl⟩:=hiv;obtain ⟨R,hR⟩:∃ R,R=reachN ⟨12,ins,p⟩ rs:=⟨_,rfl⟩;rw [←hR];have hone:ins.length=1:=hok.sin (by simp);obtain ⟨lb,lo,lc,rfl,hFl,hlcap,hlcm,hrc⟩:=rcl_first hl (by omega);obtain ⟨q,hq,e0',e1',e2',e3'⟩:=hrc 0 (by omega);simp only [Nat.zero_mul,Nat.add_zero] at e0' e1' e2' e3';have hz:rs.getD 0 Rc.zero=q:=by simp [hq]
 have hqp:RcP q:=hpl q (Q hq);obtain ⟨x0,y0,x1,y1⟩:=q;dsimp only at e0' e1' e2' e3';rw [hlen,hone] at hlcap ⊢;have hll:=hF lb hFl;obtain ⟨l2,hbp⟩:=hok.pa.bx (.inl rfl);dsimp only at l2 hbp;obtain ⟨pa,m,c,hpv⟩:∃ a n c,pv=Z a n c:=by obtain ⟨a,c,h,_⟩:=hp;exact ⟨a,_,c,h⟩
 obtain ⟨bx,hbx⟩:∃ r,r=pbox p:=⟨_,rfl⟩;have HRR:Hid (R=meetR ⟨x0,y0,x1,y1⟩ bx):=by
  have:R=meetR ⟨x0,y0,x1,y1⟩ bx:=by rw [hR,←hz,hbx];rfl
  exact this
 have HPV:Hid (SlOf RInt 1 F w (Z pa m c) p∧(∀ b,F b→b<w.heap.size)∧4≤p.length∧bx=pbox p):=⟨by rw [←hpv];exact hp,hF,l2,hbx⟩;rw [hpv];have H0:Hid (Bag w ((w.alloc (.cells #[Y X 12,Z ia im ic,Z pa m c] 52)).alloc (.cells (cs4 0 0 0 0) 25)) [(w.heap.size,[Y X 12,Z ia im ic,Z pa m c]),(w.heap.size+1,cl4 ⟨0,0,0,0⟩)]):=bag2 w [Y X 12,Z ia im ic,Z pa m c] (cl4 ⟨0,0,0,0⟩) _ _;unfold maxLen at hlcm;clear hp hpv hF hl hok hpl hR hbx hbp l2 hrc hz hqp hq hlen hone;go_enter Tryz.func42,Tryz.ntmps42;go_wp2_with fail;generalize ((w.alloc (.cells #[Y X 12,Z ia im ic,Z pa m c] 52)).alloc (.cells (cs4 0 0 0 0) 25))=W1 at *;have e0:=(H0.o.below.cell (p:=⟨lb,lo,none⟩) hll).trans e0';have e1:=(H0.o.below.cell (p:=⟨lb,lo+1,none⟩) hll).trans e1';have e2:=(H0.o.below.cell (p:=⟨lb,lo+2,none⟩) hll).trans e2';have e3:=(H0.o.below.cell (p:=⟨lb,lo+3,none⟩) hll).trans e3';have M0:Hid (∀ s:Kept W1.heap.size W1,Calls Tryz.prog 77 #[Z pa m c] s.w (PPost s.w (.agg #[Y X bx.x0,Y X bx.y0,Y X bx.x1,Y X bx.y1]))):=fun s=>by
  rw [HPV.o.2.2.2];exact fbox_c _ p s.w (HPV.o.1.same RInt.ok (Same.of_below (H0.o.below.trans (s.below.mono H0.o.below.size)) HPV.o.2.1)) HPV.o.2.2.1
 have M1:Hid (∀ s:Kept W1.heap.size W1,Calls Tryz.prog 17 #[.agg #[Y X x0,Y X y0,Y X x1,Y X y1],.agg #[Y X bx.x0,Y X bx.y0,Y X bx.x1,Y X bx.y1]] s.w (PPost s.w (.agg #[Y X R.x0,Y X R.y0,Y X R.x1,Y X R.y1]))):=fun s=>by
  rw [HRR.o];exact meet_c ⟨x0,y0,x1,y1⟩ bx s.w
 clear e0' e1' e2' e3';obtain ⟨g0,g1,g2⟩:=(H0.o.box 0 rfl).c3;obtain ⟨k0,k1,k2,k3,k4,k5,k6⟩:=kept7 g0 g1 g2 e0 e1 e2 e3;clear g0 g1 g2 e0 e1 e2 e3;go_wp2_with fail;refine wp_region_kept_last W1.heap.size 7 _ rfl rfl (by kernel_rfl) (by kernel_rfl) ?_;simp only [O,U]
 repeat (go_big_quiet_step (first|(go_at_call 77;with_reducible exact Calls.kept _ (V _) (M0.o _))|(go_at_call 17;with_reducible exact Calls.kept _ (V _) (M1.o _))))
 refine wpQuiet_nil ?_;intro s;have H2:=T (H0.o.call s.below);obtain ⟨r0,r1,r2,r3⟩:=box4 (H2.o.box 1 rfl);obtain ⟨f0,f1,f2,f3⟩:=(H2.o.box 1 rfl).f4;refine ⟨steps_plain rfl (gives_mono (R:=fun v w'=>v=undef∧w'=(((s.w.setCell ⟨w.heap.size+1,0,none⟩ (Y X R.x0)).setCell ⟨w.heap.size+1,1,none⟩ (Y X R.y0)).setCell ⟨w.heap.size+1,2,none⟩ (Y X R.x1)).setCell ⟨w.heap.size+1,3,none⟩ (Y X R.y1)) (by simp [gives,go_sem,r0,r1,r2,r3,f0,f1,f2,f3]) ?_)⟩;rintro _ _ ⟨rfl,rfl⟩;clear k0 k1 k2 k3 k4 k5 k6;go_wp2_with fail;have H3:=H2.o.set4 1 rfl (Y X R.x0) (Y X R.y0) (Y X R.x1) (Y X R.y1);exact ret_rect (g:=w.heap.size+1) (r:=R) rfl rfl (H3.box 1 rfl) rfl ⟨rfl,H3.below⟩
theorem reach10_c (iv pv lv:Value) (ins p:List Int) (rs:List Rc) (w:World) {F:Nat→Prop} (hF:∀ b,F b→b<w.heap.size) (hp:SlOf RInt 1 F w pv p) (hiv:∃ a n c,iv=Z a n c) (hl:SlOf RRc 4 F w lv rs) (hok:RaOk ⟨10,ins,p⟩) (hlen:rs.length=ins.length) (hpl:∀ r∈rs,RcP r):
  Calls Tryz.prog 42 #[.agg #[Y X 10,iv,pv],lv] w (PPost w (rv (reachN ⟨10,ins,p⟩ rs))):=by
 obtain ⟨ia,im,ic,rfl⟩:=hiv;obtain ⟨R,hR⟩:∃ R,R=reachN ⟨10,ins,p⟩ rs:=⟨_,rfl⟩;rw [←hR];have hone:ins.length=1:=hok.sin (by simp);obtain ⟨lb,lo,lc,rfl,hFl,hlcap,hlcm,hrc⟩:=rcl_first hl (by omega);obtain ⟨q,hq,e0',e1',e2',e3'⟩:=hrc 0 (by omega);simp only [Nat.zero_mul,Nat.add_zero] at e0' e1' e2' e3';have hz:rs.getD 0 Rc.zero=q:=by simp [hq]
 have hqp:RcP q:=hpl q (Q hq);obtain ⟨x0,y0,x1,y1⟩:=q;dsimp only at e0' e1' e2' e3';rw [hlen,hone] at hlcap ⊢;have hll:=hF lb hFl;obtain ⟨l2,hbp⟩:=hok.pa.bx (.inr rfl);dsimp only at l2 hbp;obtain ⟨pa,m,c,hpv⟩:∃ a n c,pv=Z a n c:=by obtain ⟨a,c,h,_⟩:=hp;exact ⟨a,_,c,h⟩
 obtain ⟨bx,hbx⟩:∃ r,r=pbox p:=⟨_,rfl⟩;obtain ⟨mt,hmt⟩:∃ r,r=meetR ⟨x0,y0,x1,y1⟩ bx:=⟨_,rfl⟩;obtain ⟨em,hem⟩:∃ r,r=mt.emp:=⟨_,rfl⟩;have HRR:Hid (R=(if (!em)=true then planeR else Rc.zero)∧mt=meetR ⟨x0,y0,x1,y1⟩ bx∧em=mt.emp):=by
  have:R=(if em=true then Rc.zero else planeR):=by rw [hR,hem,hmt,←hz,hbx];rfl
  refine ⟨?_,hmt,hem⟩;rw [this]
  cases em<;>rfl
 clear hmt hem;have HPV:Hid (SlOf RInt 1 F w (Z pa m c) p∧(∀ b,F b→b<w.heap.size)∧4≤p.length∧bx=pbox p):=⟨by rw [←hpv];exact hp,hF,l2,hbx⟩;rw [hpv];have H0:Hid (Bag w ((w.alloc (.cells #[Y X 10,Z ia im ic,Z pa m c] 52)).alloc (.cells (cs4 0 0 0 0) 25)) [(w.heap.size,[Y X 10,Z ia im ic,Z pa m c]),(w.heap.size+1,cl4 ⟨0,0,0,0⟩)]):=bag2 w [Y X 10,Z ia im ic,Z pa m c] (cl4 ⟨0,0,0,0⟩) _ _;unfold maxLen at hlcm;clear hp hpv hF hl hok hpl hR hbx hbp l2 hrc hz hqp hq hlen hone;go_enter Tryz.func42,Tryz.ntmps42;go_wp2_with fail;generalize ((w.alloc (.cells #[Y X 10,Z ia im ic,Z pa m c] 52)).alloc (.cells (cs4 0 0 0 0) 25))=W1 at *;have e0:=(H0.o.below.cell (p:=⟨lb,lo,none⟩) hll).trans e0';have e1:=(H0.o.below.cell (p:=⟨lb,lo+1,none⟩) hll).trans e1';have e2:=(H0.o.below.cell (p:=⟨lb,lo+2,none⟩) hll).trans e2';have e3:=(H0.o.below.cell (p:=⟨lb,lo+3,none⟩) hll).trans e3';have M0:Hid (∀ s:Kept W1.heap.size W1,Calls Tryz.prog 77 #[Z pa m c] s.w (PPost s.w (.agg #[Y X bx.x0,Y X bx.y0,Y X bx.x1,Y X bx.y1]))):=fun s=>by
  rw [HPV.o.2.2.2];exact fbox_c _ p s.w (HPV.o.1.same RInt.ok (Same.of_below (H0.o.below.trans (s.below.mono H0.o.below.size)) HPV.o.2.1)) HPV.o.2.2.1
 have M1:Hid (∀ s:Kept W1.heap.size W1,Calls Tryz.prog 17 #[.agg #[Y X x0,Y X y0,Y X x1,Y X y1],.agg #[Y X bx.x0,Y X bx.y0,Y X bx.x1,Y X bx.y1]] s.w (PPost s.w (.agg #[Y X mt.x0,Y X mt.y0,Y X mt.x1,Y X mt.y1]))):=fun s=>by
  rw [HRR.o.2.1];exact meet_c ⟨x0,y0,x1,y1⟩ bx s.w
 have M2:Hid (∀ s:Kept W1.heap.size W1,Calls Tryz.prog 43 #[.agg #[Y X mt.x0,Y X mt.y0,Y X mt.x1,Y X mt.y1]] s.w (PPost s.w (.bool em))):=fun s=>by
  rw [HRR.o.2.2];exact empty_c mt.x0 mt.y0 mt.x1 mt.y1 s.w
 have M3:Hid (∀ s:Kept W1.heap.size W1,Calls Tryz.prog 78 #[.bool (!em)] s.w (PPost s.w (.agg #[Y X R.x0,Y X R.y0,Y X R.x1,Y X R.y1]))):=fun s=>by
  rw [HRR.o.1];exact fwhole_c (!em) s.w
 clear e0' e1' e2' e3';obtain ⟨g0,g1,g2⟩:=(H0.o.box 0 rfl).c3;obtain ⟨k0,k1,k2,k3,k4,k5,k6⟩:=kept7 g0 g1 g2 e0 e1 e2 e3;clear g0 g1 g2 e0 e1 e2 e3;go_wp2_with fail;refine wp_region_kept_last W1.heap.size 10 _ rfl rfl (by kernel_rfl) (by kernel_rfl) ?_;simp only [O,U]
 repeat (go_big_quiet_step (first|(go_at_call 77;with_reducible exact Calls.kept _ (V _) (M0.o _))|(go_at_call 17;with_reducible exact Calls.kept _ (V _) (M1.o _))|(go_at_call 43;with_reducible exact Calls.kept _ (V _) (M2.o _))|(go_at_call 78;with_reducible exact Calls.kept _ (V _) (M3.o _))))
 refine wpQuiet_nil ?_;intro s;have H2:=T (H0.o.call s.below);obtain ⟨r0,r1,r2,r3⟩:=box4 (H2.o.box 1 rfl);obtain ⟨f0,f1,f2,f3⟩:=(H2.o.box 1 rfl).f4;refine ⟨steps_plain rfl (gives_mono (R:=fun v w'=>v=undef∧w'=(((s.w.setCell ⟨w.heap.size+1,0,none⟩ (Y X R.x0)).setCell ⟨w.heap.size+1,1,none⟩ (Y X R.y0)).setCell ⟨w.heap.size+1,2,none⟩ (Y X R.x1)).setCell ⟨w.heap.size+1,3,none⟩ (Y X R.y1)) (by simp [gives,go_sem,r0,r1,r2,r3,f0,f1,f2,f3]) ?_)⟩;rintro _ _ ⟨rfl,rfl⟩;clear k0 k1 k2 k3 k4 k5 k6;go_wp2_with fail;have H3:=H2.o.set4 1 rfl (Y X R.x0) (Y X R.y0) (Y X R.x1) (Y X R.y1);exact ret_rect (g:=w.heap.size+1) (r:=R) rfl rfl (H3.box 1 rfl) rfl ⟨rfl,H3.below⟩
theorem reach3_c (iv pv lv:Value) (ins p:List Int) (rs:List Rc) (w:World) {F:Nat→Prop} (hF:∀ b,F b→b<w.heap.size) (hp:SlOf RInt 1 F w pv p) (hiv:∃ a n c,iv=Z a n c) (hl:SlOf RRc 4 F w lv rs) (hok:RaOk ⟨3,ins,p⟩) (hlen:rs.length=ins.length) (hpl:∀ r∈rs,RcP r):
  Calls Tryz.prog 42 #[.agg #[Y X 3,iv,pv],lv] w (PPost w (rv (reachN ⟨3,ins,p⟩ rs))):=by
 obtain ⟨ia,im,ic,rfl⟩:=hiv;obtain ⟨R,hR⟩:∃ R,R=reachN ⟨3,ins,p⟩ rs:=⟨_,rfl⟩;rw [←hR];have hone:ins.length=1:=hok.sin (by simp);obtain ⟨lb,lo,lc,rfl,hFl,hlcap,hlcm,hrc⟩:=rcl_first hl (by omega);obtain ⟨q,hq,e0',e1',e2',e3'⟩:=hrc 0 (by omega);simp only [Nat.zero_mul,Nat.add_zero] at e0' e1' e2' e3';have hz:rs.getD 0 Rc.zero=q:=by simp [hq]
 have hqp:RcP q:=hpl q (Q hq);obtain ⟨x0,y0,x1,y1⟩:=q;dsimp only at e0' e1' e2' e3';rw [hlen,hone] at hlcap ⊢;have hll:=hF lb hFl;obtain ⟨pa,m,c,hpv⟩:∃ a n c,pv=Z a n c:=by obtain ⟨a,c,h,_⟩:=hp;exact ⟨a,_,c,h⟩
 have HRR:Hid (∀ W,Calls Tryz.prog 73 #[rv ⟨x0,y0,x1,y1⟩] W (PPost W (rv R))):=fun W=>by
  have:R=someR ⟨x0,y0,x1,y1⟩:=by rw [hR,←hz];rfl
  rw [this];exact fsome_c _ W
 rw [hpv];have H0:Hid (Bag w ((w.alloc (.cells #[Y X 3,Z ia im ic,Z pa m c] 52)).alloc (.cells (cs4 0 0 0 0) 25)) [(w.heap.size,[Y X 3,Z ia im ic,Z pa m c]),(w.heap.size+1,cl4 ⟨0,0,0,0⟩)]):=bag2 w [Y X 3,Z ia im ic,Z pa m c] (cl4 ⟨0,0,0,0⟩) _ _;unfold maxLen at hlcm;clear hp hpv hF hl hok hpl hR hrc hz hqp hq hlen hone;have e0:=cell_alloc_lt (cell_alloc_lt e0' (.cells #[Y X 3,Z ia im ic,Z pa m c] 52)) (.cells (cs4 0 0 0 0) 25);have e1:=cell_alloc_lt (cell_alloc_lt e1' (.cells #[Y X 3,Z ia im ic,Z pa m c] 52)) (.cells (cs4 0 0 0 0) 25);have e2:=cell_alloc_lt (cell_alloc_lt e2' (.cells #[Y X 3,Z ia im ic,Z pa m c] 52)) (.cells (cs4 0 0 0 0) 25);have e3:=cell_alloc_lt (cell_alloc_lt e3' (.cells #[Y X 3,Z ia im ic,Z pa m c] 52)) (.cells (cs4 0 0 0 0) 25);clear e0' e1' e2' e3';go_enter Tryz.func42,Tryz.ntmps42;go_wp2_with fail;generalize ((w.alloc (.cells #[Y X 3,Z ia im ic,Z pa m c] 52)).alloc (.cells (cs4 0 0 0 0) 25))=W1 at *;refine (HRR.o W1).mono ?_;rintro e W2 ⟨rfl,hb2⟩;have H2:=T (H0.o.call hb2);clear e0 e1 e2 e3 hb2 H0;obtain ⟨r0,r1,r2,r3⟩:=box4 (H2.o.box 1 rfl);obtain ⟨f0,f1,f2,f3⟩:=(H2.o.box 1 rfl).f4;go_wp2_with fail;have H3:=H2.o.set4 1 rfl (Y X R.x0) (Y X R.y0) (Y X R.x1) (Y X R.y1);exact ret_rect (g:=w.heap.size+1) (r:=R) rfl rfl (H3.box 1 rfl) rfl ⟨rfl,H3.below⟩
theorem reach5_c (iv pv lv:Value) (ins p:List Int) (rs:List Rc) (w:World) {F:Nat→Prop} (hF:∀ b,F b→b<w.heap.size) (hp:SlOf RInt 1 F w pv p) (hiv:∃ a n c,iv=Z a n c) (hl:SlOf RRc 4 F w lv rs) (hok:RaOk ⟨5,ins,p⟩) (hlen:rs.length=ins.length) (hpl:∀ r∈rs,RcP r):
  Calls Tryz.prog 42 #[.agg #[Y X 5,iv,pv],lv] w (PPost w (rv (reachN ⟨5,ins,p⟩ rs))):=by
 obtain ⟨ia,im,ic,rfl⟩:=hiv;obtain ⟨R,hR⟩:∃ R,R=reachN ⟨5,ins,p⟩ rs:=⟨_,rfl⟩;rw [←hR];have hone:ins.length=1:=hok.sin (by simp);obtain ⟨lb,lo,lc,rfl,hFl,hlcap,hlcm,hrc⟩:=rcl_first hl (by omega);obtain ⟨q,hq,e0',e1',e2',e3'⟩:=hrc 0 (by omega);simp only [Nat.zero_mul,Nat.add_zero] at e0' e1' e2' e3';have hz:rs.getD 0 Rc.zero=q:=by simp [hq]
 have hqp:RcP q:=hpl q (Q hq);obtain ⟨x0,y0,x1,y1⟩:=q;dsimp only at e0' e1' e2' e3';rw [hlen,hone] at hlcap ⊢;have hll:=hF lb hFl;obtain ⟨hl20,hx20⟩:=hok.mt rfl;dsimp only at hl20 hx20;obtain ⟨b,o,c,hpv,hFb,hc,hcap,hcm⟩:=sl_cells hp (by omega);rw [hl20] at hpv;obtain ⟨cb,hcb⟩:∃ x,x=calmB p:=⟨_,rfl⟩;have HC:Hid (∀ W,Below w.heap.size w W→Calls Tryz.prog 74 #[Z (some ⟨b,o,none⟩) 20 c] W (PPost W (.bool cb))):=fun W hb=>by
  rw [hcb];have h:=hp.same RInt.ok (Same.of_below hb hF);rw [hpv] at h;exact calm_c _ p W h hl20 hx20
 have HRR:Hid (R=if cb=true then someR ⟨x0,y0,x1,y1⟩ else planeR):=by
  have:R=if cb=true then someR ⟨x0,y0,x1,y1⟩ else planeR:=by rw [hR,←hz,hcb];rfl
  exact this
 rw [hpv];have H0:Hid (Bag w ((w.alloc (.cells #[Y X 5,Z ia im ic,Z (some ⟨b,o,none⟩) 20 c] 52)).alloc (.cells (cs4 0 0 0 0) 25)) [(w.heap.size,[Y X 5,Z ia im ic,Z (some ⟨b,o,none⟩) 20 c]),(w.heap.size+1,cl4 ⟨0,0,0,0⟩)]):=bag2 w [Y X 5,Z ia im ic,Z (some ⟨b,o,none⟩) 20 c] (cl4 ⟨0,0,0,0⟩) _ _;unfold maxLen at hlcm hcm;clear hp hpv hF hl hok hpl hR hrc hz hqp hq hlen hone hcb hc hl20 hx20;have e0:=cell_alloc_lt (cell_alloc_lt e0' (.cells #[Y X 5,Z ia im ic,Z (some ⟨b,o,none⟩) 20 c] 52)) (.cells (cs4 0 0 0 0) 25);have e1:=cell_alloc_lt (cell_alloc_lt e1' (.cells #[Y X 5,Z ia im ic,Z (some ⟨b,o,none⟩) 20 c] 52)) (.cells (cs4 0 0 0 0) 25);have e2:=cell_alloc_lt (cell_alloc_lt e2' (.cells #[Y X 5,Z ia im ic,Z (some ⟨b,o,none⟩) 20 c] 52)) (.cells (cs4 0 0 0 0) 25);have e3:=cell_alloc_lt (cell_alloc_lt e3' (.cells #[Y X 5,Z ia im ic,Z (some ⟨b,o,none⟩) 20 c] 52)) (.cells (cs4 0 0 0 0) 25);clear e0' e1' e2' e3'
 cases cb with
 |true=>
  obtain rfl:R=someR ⟨x0,y0,x1,y1⟩:=HRR.o.trans (if_pos rfl);obtain ⟨R,hR⟩:∃ R,R=someR ⟨x0,y0,x1,y1⟩:=⟨_,rfl⟩;have HS:Hid (∀ W,Calls Tryz.prog 73 #[rv ⟨x0,y0,x1,y1⟩] W (PPost W (rv R))):=fun W=>by rw [hR];exact fsome_c _ W
  rw [←hR];clear HRR hR;go_enter Tryz.func42,Tryz.ntmps42;go_wp2_with fail;generalize ((w.alloc (.cells #[Y X 5,Z ia im ic,Z (some ⟨b,o,none⟩) 20 c] 52)).alloc (.cells (cs4 0 0 0 0) 25))=W1 at *;refine (HC.o W1 H0.o.below).mono ?_;rintro e W3 ⟨rfl,hb3⟩;have H1:=T (H0.o.call hb3);have e0:=(hb3.cell (lt_of_cell e0)).trans e0;have e1:=(hb3.cell (lt_of_cell e1)).trans e1;have e2:=(hb3.cell (lt_of_cell e2)).trans e2;have e3:=(hb3.cell (lt_of_cell e3)).trans e3;clear hb3 H0 HC;go_wp2_with fail;refine (HS.o W3).mono ?_;rintro e W2 ⟨rfl,hb2⟩;have H2:=T (H1.o.call hb2);clear e0 e1 e2 e3 hb2 H1;obtain ⟨r0,r1,r2,r3⟩:=box4 (H2.o.box 1 rfl);obtain ⟨f0,f1,f2,f3⟩:=(H2.o.box 1 rfl).f4;go_wp2_with fail;have H3:=H2.o.set4 1 rfl (Y X R.x0) (Y X R.y0) (Y X R.x1) (Y X R.y1);exact ret_rect (g:=w.heap.size+1) (r:=R) rfl rfl (H3.box 1 rfl) rfl ⟨rfl,H3.below⟩
 |false=>
  obtain rfl:R=planeR:=HRR.o.trans (if_neg (by decide));clear HRR;go_enter Tryz.func42,Tryz.ntmps42;go_wp2_with fail;generalize ((w.alloc (.cells #[Y X 5,Z ia im ic,Z (some ⟨b,o,none⟩) 20 c] 52)).alloc (.cells (cs4 0 0 0 0) 25))=W1 at *;refine (HC.o W1 H0.o.below).mono ?_;rintro e W3 ⟨rfl,hb3⟩;have H1:=T (H0.o.call hb3);clear hb3 H0 HC e0 e1 e2 e3;go_wp2_with fail;refine (planeAll_c W3).mono ?_;rintro e W2 ⟨rfl,hb2⟩;have H2:=T (H1.o.call hb2);clear hb2 H1;obtain ⟨r0,r1,r2,r3⟩:=box4 (H2.o.box 1 rfl);obtain ⟨f0,f1,f2,f3⟩:=(H2.o.box 1 rfl).f4;go_wp2_with fail;have H3:=H2.o.set4 1 rfl (Y X planeR.x0) (Y X planeR.y0) (Y X planeR.x1) (Y X planeR.y1);exact ret_rect (g:=w.heap.size+1) (r:=planeR) rfl rfl (H3.box 1 rfl) rfl ⟨rfl,H3.below⟩
theorem reach6_c (iv pv lv:Value) (ins p:List Int) (rs:List Rc) (w:World) {F:Nat→Prop} (hF:∀ b,F b→b<w.heap.size) (hp:SlOf RInt 1 F w pv p) (hiv:∃ a n c,iv=Z a n c) (hl:SlOf RRc 4 F w lv rs) (hok:RaOk ⟨6,ins,p⟩) (hlen:rs.length=ins.length) (hpl:∀ r∈rs,RcP r):
  Calls Tryz.prog 42 #[.agg #[Y X 6,iv,pv],lv] w (PPost w (rv (reachN ⟨6,ins,p⟩ rs))):=by
 obtain ⟨ia,im,ic,rfl⟩:=hiv;obtain ⟨R,hR⟩:∃ R,R=reachN ⟨6,ins,p⟩ rs:=⟨_,rfl⟩;rw [←hR];have HFL:Hid (∀ W,Below w.heap.size w W→Calls Tryz.prog 76 #[.agg #[Y X 6,Z ia im ic,pv]] W (PPost W (rv R))):=fun W hb=>by
  have:R=if floodB ⟨6,ins,p⟩=true then Rc.zero else someR (pbox (p.drop 4)):=by rw [hR];rfl
  rw [this];exact flooded_c _ pv ins p W (fun b h=>E (hF b h) hb.size) (hp.same RInt.ok (Same.of_below hb hF)) ⟨_,_,_,rfl⟩ hok
 obtain ⟨pa,m,c,hpv⟩:∃ a n c,pv=Z a n c:=by obtain ⟨a,c,h,_⟩:=hp;exact ⟨a,_,c,h⟩
 rw [hpv] at HFL ⊢;have H0:Hid (Bag w ((w.alloc (.cells #[Y X 6,Z ia im ic,Z pa m c] 52)).alloc (.cells (cs4 0 0 0 0) 25)) [(w.heap.size,[Y X 6,Z ia im ic,Z pa m c]),(w.heap.size+1,cl4 ⟨0,0,0,0⟩)]):=bag2 w [Y X 6,Z ia im ic,Z pa m c] (cl4 ⟨0,0,0,0⟩) _ _;obtain ⟨la,ln,lc,hlv⟩:∃ a n c,lv=Z a n c:=by obtain ⟨a,c,h,_⟩:=hl;exact ⟨a,_,c,h⟩
 rw [hlv];clear hp hpv hlv hF hl hok hpl hR hlen;go_enter Tryz.func42,Tryz.ntmps42;go_wp2_with fail;generalize ((w.alloc (.cells #[Y X 6,Z ia im ic,Z pa m c] 52)).alloc (.cells (cs4 0 0 0 0) 25))=W1 at *;refine (HFL.o W1 H0.o.below).mono ?_;rintro e W2 ⟨rfl,hb2⟩;have H2:=T (H0.o.call hb2);clear hb2 H0 HFL;obtain ⟨r0,r1,r2,r3⟩:=box4 (H2.o.box 1 rfl);obtain ⟨f0,f1,f2,f3⟩:=(H2.o.box 1 rfl).f4;go_wp2_with fail;have H3:=H2.o.set4 1 rfl (Y X R.x0) (Y X R.y0) (Y X R.x1) (Y X R.y1);exact ret_rect (g:=w.heap.size+1) (r:=R) rfl rfl (H3.box 1 rfl) rfl ⟨rfl,H3.below⟩
theorem reach7_c (iv pv lv:Value) (ins p:List Int) (rs:List Rc) (w:World) {F:Nat→Prop} (hF:∀ b,F b→b<w.heap.size) (hp:SlOf RInt 1 F w pv p) (hiv:∃ a n c,iv=Z a n c) (hl:SlOf RRc 4 F w lv rs) (hok:RaOk ⟨7,ins,p⟩) (hlen:rs.length=ins.length) (hpl:∀ r∈rs,RcP r):
  Calls Tryz.prog 42 #[.agg #[Y X 7,iv,pv],lv] w (PPost w (rv (reachN ⟨7,ins,p⟩ rs))):=by
 obtain ⟨ia,im,ic,rfl⟩:=hiv;obtain ⟨R,hR⟩:∃ R,R=reachN ⟨7,ins,p⟩ rs:=⟨_,rfl⟩;rw [←hR];obtain ⟨pa,m,c,hpv⟩:∃ a n c,pv=Z a n c:=by obtain ⟨a,c,h,_⟩:=hp;exact ⟨a,_,c,h⟩
 rw [hpv];obtain ⟨la,lc,hlv,hlcap,hlcm,hlr⟩:=hl;subst hlv;have HRR:Hid (R=rs.foldl joinR Rc.zero):=by
  have:R=rs.foldl joinR Rc.zero:=by rw [hR];rfl
  exact this
 have HL:Hid (∀ W,Below w.heap.size w W→∀ i,i<rs.length→∃ lb lo q,la=some ⟨lb,lo,none⟩∧rs[i]?=some q∧W.cell? ⟨lb,lo+i*4,none⟩=some (Y X q.x0)∧W.cell? ⟨lb,lo+i*4+1,none⟩=some (Y X q.y0)∧W.cell? ⟨lb,lo+i*4+2,none⟩=some (Y X q.x1)∧W.cell? ⟨lb,lo+i*4+3,none⟩=some (Y X q.y1)):=fun W hb i hi=>by
  obtain ⟨lb,lo,lc',hv,hFl,_,_,hrc⟩:=rcl_first ⟨la,lc,rfl,hlcap,hlcm,hlr⟩ (Nat.lt_of_le_of_lt (Nat.zero_le _) hi);simp only [N] at hv;obtain ⟨q,hq,e0,e1,e2,e3⟩:=hrc i hi;refine ⟨lb,lo,q,hv.1,hq,?_,?_,?_,?_⟩
  ·rw [hb.cell (lt_of_cell e0)];exact e0
  ·rw [hb.cell (lt_of_cell e1)];exact e1
  ·rw [hb.cell (lt_of_cell e2)];exact e2
  ·rw [hb.cell (lt_of_cell e3)];exact e3
 have H0:Hid (Bag w (((w.alloc (.cells #[Y X 7,Z ia im ic,Z pa m c] 52)).alloc (.cells (cs4 0 0 0 0) 25)).alloc (.cells (cs4 0 0 0 0) 25)) [(w.heap.size,[Y X 7,Z ia im ic,Z pa m c]),(w.heap.size+1,cl4 ⟨0,0,0,0⟩),(w.heap.size+1+1,cl4 ((rs.take 0).foldl joinR Rc.zero))]):=bag3 w [Y X 7,Z ia im ic,Z pa m c] (cl4 ⟨0,0,0,0⟩) (cl4 Rc.zero) _ _ _;unfold maxLen at hlcm;obtain ⟨n,hn⟩:∃ n,n=rs.length:=⟨_,rfl⟩;have HN:=T hn;rw [←hn] at hlcap ⊢;clear hp hpv hF hok hpl hR hlr hn hlen;go_enter Tryz.func42,Tryz.ntmps42;go_wp2_with fail;generalize (((w.alloc (.cells #[Y X 7,Z ia im ic,Z pa m c] 52)).alloc (.cells (cs4 0 0 0 0) 25)).alloc (.cells (cs4 0 0 0 0) 25))=W0 at *;go_loopw [127] (fun jv wr=>∃ j:Nat,j≤n∧jv=Y X j∧Bag w wr [(w.heap.size,[Y X 7,Z ia im ic,Z pa m c]),(w.heap.size+1,cl4 ⟨0,0,0,0⟩),(w.heap.size+1+1,cl4 ((rs.take j).foldl joinR Rc.zero))]) (fun jv _=>n-(intOf jv).toNat)
 case atStart=>exact ⟨0,by omega,rfl,H0.o⟩
 case round=>
  obtain ⟨j,hj,rfl,hr⟩:=hrel;have H1:=T hr;clear hr H0;by_cases hjl:j<n
  ·obtain ⟨lb,lo,q,hla,hq,e0,e1,e2,e3⟩:=HL.o wr H1.o.below j (by rw [←HN.o];exact hjl);subst hla;obtain ⟨a,ha⟩:∃ a,a=(rs.take j).foldl joinR Rc.zero:=⟨_,rfl⟩;obtain ⟨z,hz⟩:∃ z,z=joinR a q:=⟨_,rfl⟩;have HZ:Hid ((rs.take (j+1)).foldl joinR Rc.zero=z):=by
    have:(rs.take (j+1)).foldl joinR Rc.zero=z:=by
     rw [hz,ha,List.take_add_one,hq]
     simp
    exact this
   have HJ:Hid (∀ W,Calls Tryz.prog 31 #[rv a,rv q] W (PPost W (rv z))):=fun W=>by rw [hz];exact join_c a q W
   have H2:Hid (Bag w (wr.alloc (.cells #[Y X q.x0,Y X q.y0,Y X q.x1,Y X q.y1] 25)) [(w.heap.size,[Y X 7,Z ia im ic,Z pa m c]),(w.heap.size+1,cl4 ⟨0,0,0,0⟩),(w.heap.size+1+1,cl4 a)]):=by
    rw [ha];exact H1.o.allocO _
   obtain ⟨a0,a1,a2,a3⟩:=(H2.o.box 2 rfl).c4;have hj0:(0:Int)≤(j:Int):=by omega
   have hj1:(j:Int)<(n:Int):=by omega
   clear hq ha hz H1;go_wp2_with fail;refine (HJ.o _).mono ?_;rintro e W3 ⟨rfl,hb3⟩;have H3:=T (H2.o.call hb3);clear a0 a1 a2 a3 e0 e1 e2 e3 hb3 H2;obtain ⟨a0,a1,a2,a3⟩:=(H3.o.box 2 rfl).c4;obtain ⟨f0,f1,f2,f3⟩:=(H3.o.box 2 rfl).f4;have H4:Hid (Bag w ((((W3.setCell ⟨w.heap.size+1+1,0,none⟩ (Y X z.x0)).setCell ⟨w.heap.size+1+1,1,none⟩ (Y X z.y0)).setCell ⟨w.heap.size+1+1,2,none⟩ (Y X z.x1)).setCell ⟨w.heap.size+1+1,3,none⟩ (Y X z.y1)) [(w.heap.size,[Y X 7,Z ia im ic,Z pa m c]),(w.heap.size+1,cl4 ⟨0,0,0,0⟩),(w.heap.size+1+1,cl4 ((rs.take (j+1)).foldl joinR Rc.zero))]):=by
    rw [HZ.o];exact H3.o.set4 2 rfl _ _ _ _
   clear H3 HZ HJ;go_wp2_with fail;go_roundw
   case rel=>exact ⟨j+1,by omega,by go_num,H4.o⟩
   case measure=>simp [intOf];omega
  ·have ej:j=n:=by omega
   subst ej;have H2:Hid (Bag w wr [(w.heap.size,[Y X 7,Z ia im ic,Z pa m c]),(w.heap.size+1,cl4 ⟨0,0,0,0⟩),(w.heap.size+1+1,cl4 R)]):=by
    have h:=H1.o;rw [HN.o,List.take_length,←HRR.o] at h;exact h
   obtain ⟨a0,a1,a2,a3⟩:=(H2.o.box 2 rfl).c4;obtain ⟨r0,r1,r2,r3⟩:=box4 (H2.o.box 1 rfl);obtain ⟨f0,f1,f2,f3⟩:=(H2.o.box 1 rfl).f4;go_wp2_with fail;have H3:=H2.o.set4 1 rfl (Y X R.x0) (Y X R.y0) (Y X R.x1) (Y X R.y1);exact ret_rect (g:=w.heap.size+1) (r:=R) rfl rfl (H3.box 1 rfl) rfl ⟨rfl,H3.below⟩
theorem reach8_c (iv pv lv:Value) (ins p:List Int) (rs:List Rc) (w:World) {F:Nat→Prop} (hF:∀ b,F b→b<w.heap.size) (hp:SlOf RInt 1 F w pv p) (hiv:∃ a n c,iv=Z a n c) (hl:SlOf RRc 4 F w lv rs) (hok:RaOk ⟨8,ins,p⟩) (hlen:rs.length=ins.length) (hpl:∀ r∈rs,RcP r):
  Calls Tryz.prog 42 #[.agg #[Y X 8,iv,pv],lv] w (PPost w (rv (reachN ⟨8,ins,p⟩ rs))):=by
 obtain ⟨ia,im,ic,rfl⟩:=hiv;obtain ⟨R,hR⟩:∃ R,R=reachN ⟨8,ins,p⟩ rs:=⟨_,rfl⟩;rw [←hR];obtain ⟨pa,m,c,hpv⟩:∃ a n c,pv=Z a n c:=by obtain ⟨a,c,h,_⟩:=hp;exact ⟨a,_,c,h⟩
 rw [hpv];obtain ⟨la,lc,hlv,hlcap,hlcm,hlr⟩:=hl;subst hlv;have HRR:Hid (R=rs.foldl joinR Rc.zero):=by
  have:R=rs.foldl joinR Rc.zero:=by rw [hR];rfl
  exact this
 have HL:Hid (∀ W,Below w.heap.size w W→∀ i,i<rs.length→∃ lb lo q,la=some ⟨lb,lo,none⟩∧rs[i]?=some q∧W.cell? ⟨lb,lo+i*4,none⟩=some (Y X q.x0)∧W.cell? ⟨lb,lo+i*4+1,none⟩=some (Y X q.y0)∧W.cell? ⟨lb,lo+i*4+2,none⟩=some (Y X q.x1)∧W.cell? ⟨lb,lo+i*4+3,none⟩=some (Y X q.y1)):=fun W hb i hi=>by
  obtain ⟨lb,lo,lc',hv,hFl,_,_,hrc⟩:=rcl_first ⟨la,lc,rfl,hlcap,hlcm,hlr⟩ (Nat.lt_of_le_of_lt (Nat.zero_le _) hi);simp only [N] at hv;obtain ⟨q,hq,e0,e1,e2,e3⟩:=hrc i hi;refine ⟨lb,lo,q,hv.1,hq,?_,?_,?_,?_⟩
  ·rw [hb.cell (lt_of_cell e0)];exact e0
  ·rw [hb.cell (lt_of_cell e1)];exact e1
  ·rw [hb.cell (lt_of_cell e2)];exact e2
  ·rw [hb.cell (lt_of_cell e3)];exact e3
 have H0:Hid (Bag w (((w.alloc (.cells #[Y X 8,Z ia im ic,Z pa m c] 52)).alloc (.cells (cs4 0 0 0 0) 25)).alloc (.cells (cs4 0 0 0 0) 25)) [(w.heap.size,[Y X 8,Z ia im ic,Z pa m c]),(w.heap.size+1,cl4 ⟨0,0,0,0⟩),(w.heap.size+1+1,cl4 ((rs.take 0).foldl joinR Rc.zero))]):=bag3 w [Y X 8,Z ia im ic,Z pa m c] (cl4 ⟨0,0,0,0⟩) (cl4 Rc.zero) _ _ _;unfold maxLen at hlcm;obtain ⟨n,hn⟩:∃ n,n=rs.length:=⟨_,rfl⟩;have HN:=T hn;rw [←hn] at hlcap ⊢;clear hp hpv hF hok hpl hR hlr hn hlen;go_enter Tryz.func42,Tryz.ntmps42;go_wp2_with fail;generalize (((w.alloc (.cells #[Y X 8,Z ia im ic,Z pa m c] 52)).alloc (.cells (cs4 0 0 0 0) 25)).alloc (.cells (cs4 0 0 0 0) 25))=W0 at *;go_loopw [127] (fun jv wr=>∃ j:Nat,j≤n∧jv=Y X j∧Bag w wr [(w.heap.size,[Y X 8,Z ia im ic,Z pa m c]),(w.heap.size+1,cl4 ⟨0,0,0,0⟩),(w.heap.size+1+1,cl4 ((rs.take j).foldl joinR Rc.zero))]) (fun jv _=>n-(intOf jv).toNat)
 case atStart=>exact ⟨0,by omega,rfl,H0.o⟩
 case round=>
  obtain ⟨j,hj,rfl,hr⟩:=hrel;have H1:=T hr;clear hr H0;by_cases hjl:j<n
  ·obtain ⟨lb,lo,q,hla,hq,e0,e1,e2,e3⟩:=HL.o wr H1.o.below j (by rw [←HN.o];exact hjl);subst hla;obtain ⟨a,ha⟩:∃ a,a=(rs.take j).foldl joinR Rc.zero:=⟨_,rfl⟩;obtain ⟨z,hz⟩:∃ z,z=joinR a q:=⟨_,rfl⟩;have HZ:Hid ((rs.take (j+1)).foldl joinR Rc.zero=z):=by
    have:(rs.take (j+1)).foldl joinR Rc.zero=z:=by
     rw [hz,ha,List.take_add_one,hq]
     simp
    exact this
   have HJ:Hid (∀ W,Calls Tryz.prog 31 #[rv a,rv q] W (PPost W (rv z))):=fun W=>by rw [hz];exact join_c a q W
   have H2:Hid (Bag w (wr.alloc (.cells #[Y X q.x0,Y X q.y0,Y X q.x1,Y X q.y1] 25)) [(w.heap.size,[Y X 8,Z ia im ic,Z pa m c]),(w.heap.size+1,cl4 ⟨0,0,0,0⟩),(w.heap.size+1+1,cl4 a)]):=by
    rw [ha];exact H1.o.allocO _
   obtain ⟨a0,a1,a2,a3⟩:=(H2.o.box 2 rfl).c4;have hj0:(0:Int)≤(j:Int):=by omega
   have hj1:(j:Int)<(n:Int):=by omega
   clear hq ha hz H1;go_wp2_with fail;refine (HJ.o _).mono ?_;rintro e W3 ⟨rfl,hb3⟩;have H3:=T (H2.o.call hb3);clear a0 a1 a2 a3 e0 e1 e2 e3 hb3 H2;obtain ⟨a0,a1,a2,a3⟩:=(H3.o.box 2 rfl).c4;obtain ⟨f0,f1,f2,f3⟩:=(H3.o.box 2 rfl).f4;have H4:Hid (Bag w ((((W3.setCell ⟨w.heap.size+1+1,0,none⟩ (Y X z.x0)).setCell ⟨w.heap.size+1+1,1,none⟩ (Y X z.y0)).setCell ⟨w.heap.size+1+1,2,none⟩ (Y X z.x1)).setCell ⟨w.heap.size+1+1,3,none⟩ (Y X z.y1)) [(w.heap.size,[Y X 8,Z ia im ic,Z pa m c]),(w.heap.size+1,cl4 ⟨0,0,0,0⟩),(w.heap.size+1+1,cl4 ((rs.take (j+1)).foldl joinR Rc.zero))]):=by
    rw [HZ.o];exact H3.o.set4 2 rfl _ _ _ _
   clear H3 HZ HJ;go_wp2_with fail;go_roundw
   case rel=>exact ⟨j+1,by omega,by go_num,H4.o⟩
   case measure=>simp [intOf];omega
  ·have ej:j=n:=by omega
   subst ej;have H2:Hid (Bag w wr [(w.heap.size,[Y X 8,Z ia im ic,Z pa m c]),(w.heap.size+1,cl4 ⟨0,0,0,0⟩),(w.heap.size+1+1,cl4 R)]):=by
    have h:=H1.o;rw [HN.o,List.take_length,←HRR.o] at h;exact h
   obtain ⟨a0,a1,a2,a3⟩:=(H2.o.box 2 rfl).c4;obtain ⟨r0,r1,r2,r3⟩:=box4 (H2.o.box 1 rfl);obtain ⟨f0,f1,f2,f3⟩:=(H2.o.box 1 rfl).f4;go_wp2_with fail;have H3:=H2.o.set4 1 rfl (Y X R.x0) (Y X R.y0) (Y X R.x1) (Y X R.y1);exact ret_rect (g:=w.heap.size+1) (r:=R) rfl rfl (H3.box 1 rfl) rfl ⟨rfl,H3.below⟩
theorem reach9_c (iv pv lv:Value) (ins p:List Int) (rs:List Rc) (w:World) {F:Nat→Prop} (hF:∀ b,F b→b<w.heap.size) (hp:SlOf RInt 1 F w pv p) (hiv:∃ a n c,iv=Z a n c) (hl:SlOf RRc 4 F w lv rs) (hok:RaOk ⟨9,ins,p⟩) (hlen:rs.length=ins.length) (hpl:∀ r∈rs,RcP r):
  Calls Tryz.prog 42 #[.agg #[Y X 9,iv,pv],lv] w (PPost w (rv (reachN ⟨9,ins,p⟩ rs))):=by
 obtain ⟨ia,im,ic,rfl⟩:=hiv;obtain ⟨R,hR⟩:∃ R,R=reachN ⟨9,ins,p⟩ rs:=⟨_,rfl⟩;rw [←hR];obtain ⟨pa,m,c,hpv⟩:∃ a n c,pv=Z a n c:=by obtain ⟨a,c,h,_⟩:=hp;exact ⟨a,_,c,h⟩
 rw [hpv];obtain ⟨la,lc,hlv,hlcap,hlcm,hlr⟩:=hl;subst hlv;have HRR:Hid (R=rs.foldl joinR Rc.zero):=by
  have:R=rs.foldl joinR Rc.zero:=by rw [hR];rfl
  exact this
 have HL:Hid (∀ W,Below w.heap.size w W→∀ i,i<rs.length→∃ lb lo q,la=some ⟨lb,lo,none⟩∧rs[i]?=some q∧W.cell? ⟨lb,lo+i*4,none⟩=some (Y X q.x0)∧W.cell? ⟨lb,lo+i*4+1,none⟩=some (Y X q.y0)∧W.cell? ⟨lb,lo+i*4+2,none⟩=some (Y X q.x1)∧W.cell? ⟨lb,lo+i*4+3,none⟩=some (Y X q.y1)):=fun W hb i hi=>by
  obtain ⟨lb,lo,lc',hv,hFl,_,_,hrc⟩:=rcl_first ⟨la,lc,rfl,hlcap,hlcm,hlr⟩ (Nat.lt_of_le_of_lt (Nat.zero_le _) hi);simp only [N] at hv;obtain ⟨q,hq,e0,e1,e2,e3⟩:=hrc i hi;refine ⟨lb,lo,q,hv.1,hq,?_,?_,?_,?_⟩
  ·rw [hb.cell (lt_of_cell e0)];exact e0
  ·rw [hb.cell (lt_of_cell e1)];exact e1
  ·rw [hb.cell (lt_of_cell e2)];exact e2
  ·rw [hb.cell (lt_of_cell e3)];exact e3
 have H0:Hid (Bag w (((w.alloc (.cells #[Y X 9,Z ia im ic,Z pa m c] 52)).alloc (.cells (cs4 0 0 0 0) 25)).alloc (.cells (cs4 0 0 0 0) 25)) [(w.heap.size,[Y X 9,Z ia im ic,Z pa m c]),(w.heap.size+1,cl4 ⟨0,0,0,0⟩),(w.heap.size+1+1,cl4 ((rs.take 0).foldl joinR Rc.zero))]):=bag3 w [Y X 9,Z ia im ic,Z pa m c] (cl4 ⟨0,0,0,0⟩) (cl4 Rc.zero) _ _ _;unfold maxLen at hlcm;obtain ⟨n,hn⟩:∃ n,n=rs.length:=⟨_,rfl⟩;have HN:=T hn;rw [←hn] at hlcap ⊢;clear hp hpv hF hok hpl hR hlr hn hlen;go_enter Tryz.func42,Tryz.ntmps42;go_wp2_with fail;generalize (((w.alloc (.cells #[Y X 9,Z ia im ic,Z pa m c] 52)).alloc (.cells (cs4 0 0 0 0) 25)).alloc (.cells (cs4 0 0 0 0) 25))=W0 at *;go_loopw [127] (fun jv wr=>∃ j:Nat,j≤n∧jv=Y X j∧Bag w wr [(w.heap.size,[Y X 9,Z ia im ic,Z pa m c]),(w.heap.size+1,cl4 ⟨0,0,0,0⟩),(w.heap.size+1+1,cl4 ((rs.take j).foldl joinR Rc.zero))]) (fun jv _=>n-(intOf jv).toNat)
 case atStart=>exact ⟨0,by omega,rfl,H0.o⟩
 case round=>
  obtain ⟨j,hj,rfl,hr⟩:=hrel;have H1:=T hr;clear hr H0;by_cases hjl:j<n
  ·obtain ⟨lb,lo,q,hla,hq,e0,e1,e2,e3⟩:=HL.o wr H1.o.below j (by rw [←HN.o];exact hjl);subst hla;obtain ⟨a,ha⟩:∃ a,a=(rs.take j).foldl joinR Rc.zero:=⟨_,rfl⟩;obtain ⟨z,hz⟩:∃ z,z=joinR a q:=⟨_,rfl⟩;have HZ:Hid ((rs.take (j+1)).foldl joinR Rc.zero=z):=by
    have:(rs.take (j+1)).foldl joinR Rc.zero=z:=by
     rw [hz,ha,List.take_add_one,hq]
     simp
    exact this
   have HJ:Hid (∀ W,Calls Tryz.prog 31 #[rv a,rv q] W (PPost W (rv z))):=fun W=>by rw [hz];exact join_c a q W
   have H2:Hid (Bag w (wr.alloc (.cells #[Y X q.x0,Y X q.y0,Y X q.x1,Y X q.y1] 25)) [(w.heap.size,[Y X 9,Z ia im ic,Z pa m c]),(w.heap.size+1,cl4 ⟨0,0,0,0⟩),(w.heap.size+1+1,cl4 a)]):=by
    rw [ha];exact H1.o.allocO _
   obtain ⟨a0,a1,a2,a3⟩:=(H2.o.box 2 rfl).c4;have hj0:(0:Int)≤(j:Int):=by omega
   have hj1:(j:Int)<(n:Int):=by omega
   clear hq ha hz H1;go_wp2_with fail;refine (HJ.o _).mono ?_;rintro e W3 ⟨rfl,hb3⟩;have H3:=T (H2.o.call hb3);clear a0 a1 a2 a3 e0 e1 e2 e3 hb3 H2;obtain ⟨a0,a1,a2,a3⟩:=(H3.o.box 2 rfl).c4;obtain ⟨f0,f1,f2,f3⟩:=(H3.o.box 2 rfl).f4;have H4:Hid (Bag w ((((W3.setCell ⟨w.heap.size+1+1,0,none⟩ (Y X z.x0)).setCell ⟨w.heap.size+1+1,1,none⟩ (Y X z.y0)).setCell ⟨w.heap.size+1+1,2,none⟩ (Y X z.x1)).setCell ⟨w.heap.size+1+1,3,none⟩ (Y X z.y1)) [(w.heap.size,[Y X 9,Z ia im ic,Z pa m c]),(w.heap.size+1,cl4 ⟨0,0,0,0⟩),(w.heap.size+1+1,cl4 ((rs.take (j+1)).foldl joinR Rc.zero))]):=by
    rw [HZ.o];exact H3.o.set4 2 rfl _ _ _ _
   clear H3 HZ HJ;go_wp2_with fail;go_roundw
   case rel=>exact ⟨j+1,by omega,by go_num,H4.o⟩
   case measure=>simp [intOf];omega
  ·have ej:j=n:=by omega
   subst ej;have H2:Hid (Bag w wr [(w.heap.size,[Y X 9,Z ia im ic,Z pa m c]),(w.heap.size+1,cl4 ⟨0,0,0,0⟩),(w.heap.size+1+1,cl4 R)]):=by
    have h:=H1.o;rw [HN.o,List.take_length,←HRR.o] at h;exact h
   obtain ⟨a0,a1,a2,a3⟩:=(H2.o.box 2 rfl).c4;obtain ⟨r0,r1,r2,r3⟩:=box4 (H2.o.box 1 rfl);obtain ⟨f0,f1,f2,f3⟩:=(H2.o.box 1 rfl).f4;go_wp2_with fail;have H3:=H2.o.set4 1 rfl (Y X R.x0) (Y X R.y0) (Y X R.x1) (Y X R.y1);exact ret_rect (g:=w.heap.size+1) (r:=R) rfl rfl (H3.box 1 rfl) rfl ⟨rfl,H3.below⟩
theorem reach_c (op:Int) (iv pv lv:Value) (ins p:List Int) (rs:List Rc) (w:World) {F:Nat→Prop} (hF:∀ b,F b→b<w.heap.size) (hp:SlOf RInt 1 F w pv p) (hiv:∃ a n c,iv=Z a n c) (hl:SlOf RRc 4 F w lv rs) (hok:RaOk ⟨op,ins,p⟩) (hlen:rs.length=ins.length) (hpl:∀ r∈rs,RcP r):
  Calls Tryz.prog 42 #[.agg #[Y X op,iv,pv],lv] w (PPost w (rv (reachN ⟨op,ins,p⟩ rs))):=by
 have hop:=hok.op;dsimp only at hop;have hcase:op=1∨op=2∨op=3∨op=4∨op=5∨op=6∨op=7∨op=8∨op=9∨op=10∨op=11∨op=12:=by omega
 rcases hcase with rfl|rfl|rfl|rfl|rfl|rfl|rfl|rfl|rfl|rfl|rfl|rfl
 ·exact reach1_c iv pv lv ins p rs w hF hp hiv hl hok hlen hpl
 ·exact reach2_c iv pv lv ins p rs w hF hp hiv hl hok hlen hpl
 ·exact reach3_c iv pv lv ins p rs w hF hp hiv hl hok hlen hpl
 ·exact reach4_c iv pv lv ins p rs w hF hp hiv hl hok hlen hpl
 ·exact reach5_c iv pv lv ins p rs w hF hp hiv hl hok hlen hpl
 ·exact reach6_c iv pv lv ins p rs w hF hp hiv hl hok hlen hpl
 ·exact reach7_c iv pv lv ins p rs w hF hp hiv hl hok hlen hpl
 ·exact reach8_c iv pv lv ins p rs w hF hp hiv hl hok hlen hpl
 ·exact reach9_c iv pv lv ins p rs w hF hp hiv hl hok hlen hpl
 ·exact reach10_c iv pv lv ins p rs w hF hp hiv hl hok hlen hpl
 ·exact reach11_c iv pv lv ins p rs w hF hp hiv hl hok hlen hpl
 ·exact reach12_c iv pv lv ins p rs w hF hp hiv hl hok hlen hpl
theorem rcs_app:∀ (a b:List Rc),rcs (a++b)=rcs a++rcs b
 |[],b=>rfl
 |r::a,b=>by simp [rcs,rcs_app a b]
theorem in_pl {x:Int} (h:Pl x):In64 x:=by unfold Pl at h;unfold In64;omega
theorem own_rc {w:World} {B:Nat} {e:TypeId} {v:Value} {rs:List Rc} (h:w.ownsRow B e 4 v rs.length (rcs rs)) (hp:∀ r∈rs,RcP r):SlOf RRc 4 (·<w.heap.size) w v rs:=by
 rcases h.2 with ⟨rfl,h0⟩|⟨g,cap,cur,rfl,h2,h3,h4,h5,h6,h7⟩
 ·exact ⟨none,0,by rw [h0],by omega,by decide,.inl (List.eq_nil_of_length_eq_zero h0)⟩
 ·refine ⟨_,cap,rfl,h4,h5,.inr ⟨g,0,rfl,(Array.getElem?_eq_some_iff.1 h3).1,fun i r hi=>?_⟩⟩;have hr:=hp r (Q hi);obtain ⟨k0,k1,k2,k3⟩:=rcs_get rs i r hi;have hil:i<rs.length:=(List.getElem?_eq_some_iff.1 hi).1;have hx:Box w g cur.toList:=⟨e,by simpa using h3⟩;have get:∀ k (u:Value),(rcs rs)[k]?=some u→cur.toList[k]?=some u:=fun k u hk=>by
   rw [←h7,List.getElem?_take] at hk
   split at hk
   ·exact hk
   ·cases hk
  refine ⟨_,rfl,fun j u hu=>?_,rfl,in_pl hr.1,in_pl hr.2.1,in_pl hr.2.2.1,in_pl hr.2.2.2⟩;rw [Nat.zero_add]
  match j,hu with
  |0,hu=>simp at hu;subst hu;exact hx.cell _ (get _ _ k0)
  |1,hu=>simp at hu;subst hu;exact hx.cell _ (get _ _ k1)
  |2,hu=>simp at hu;subst hu;exact hx.cell _ (get _ _ k2)
  |3,hu=>simp at hu;subst hu;exact hx.cell _ (get _ _ k3)
  |j+4,hu=>simp at hu
theorem news_at' {W:World} {g:Nat} {news:List Value} (h:Box W g news) (j:Nat) (u:Value) (hj:news[j]?=some u):W.cell? ((⟨g,0,none⟩:Addr).add j)=some u:=by
 rw [Go.WideShapes.add_plain,Nat.zero_add];exact h.cell j hj
theorem bag_setR {w W:World} {l:List (Nat×List Value)} (h:Bag w W l) (i:Nat) {a:Nat} {rs:List Rc} (hi:l[i]?=some (a,rcs rs)) (k:Nat) (r:Rc):
  Bag w ((((W.setCell ⟨a,k*4,none⟩ (Y X r.x0)).setCell ⟨a,k*4+1,none⟩ (Y X r.y0)).setCell ⟨a,k*4+2,none⟩ (Y X r.x1)).setCell ⟨a,k*4+3,none⟩ (Y X r.y1)) (l.set i (a,rcs (rs.set k r))):=by
 have hil:=(List.getElem?_eq_some_iff.1 hi).1;have h0:=h.set i hi (k*4) (Y X r.x0);have h1:=h0.set i (List.getElem?_set_self hil) (k*4+1) (Y X r.y0);have h2:=h1.set i (List.getElem?_set_self (by simpa using hil)) (k*4+2) (Y X r.x1);have h3:=h2.set i (List.getElem?_set_self (by simpa using hil)) (k*4+3) (Y X r.y1);rw [←rcs_set]
 simpa using h3
abbrev cbag (s:Nat) (nv:Value) (out:Int) (r:Rc) (vs:List Rc) (ob:Nat) (cur:List Value):List (Nat×List Value):=[(s,[nv,Y X out]),(s+1,cl4 r),(s+1+1,cl4 ⟨0,0,0,0⟩),(s+1+1+1,rcs vs),(ob,cur)]
theorem carried_c (B:Nat) (nv:Value) (g:Fg) (r:Rc) (w:World) (hg:GoodR g) (hgr:Gr B w nv g.nds) (hB:B≤w.heap.size) (hr:RcP r):
  Calls Tryz.prog 41 #[.agg #[nv,Y X g.out],rv r,.func (.func 42) #[] #[]] w (PPost w (rv (reachG g r))):=by
 obtain ⟨nds,out⟩:=g;obtain ⟨ga,gc,rfl⟩:=hgr.isSl;obtain ⟨x0,y0,x1,y1⟩:=r;obtain ⟨iR,hiR,hz0,hz1,hz2⟩:=info_parts infoRc;have HGR:Hid (GoodR ⟨nds,out⟩∧RcP ⟨x0,y0,x1,y1⟩∧∀ k∈ord (insOf nds),k<nds.length):=⟨hg,hr,fun k hk=>by have:=(ord_fine (insOf nds)).bound k hk;rwa [insOf_len] at this⟩;have HG:Hid (∀ W,Below w.heap.size w W→Gr B W (Z ga nds.length gc) nds∧B≤W.heap.size):=fun W hb=>⟨hgr.below hb hB,Nat.le_trans hB hb.size⟩;obtain ⟨o,ho⟩:∃ o,o=ord (insOf nds):=⟨_,rfl⟩;have HO:Hid (o=ord (insOf nds)∧0<o.length∧∀ k∈o,k<nds.length):=by
  refine ⟨ho,?_,by rw [ho];exact HGR.o.2.2⟩;have:=hg.acy;have:=hg.gn.pos;rw [ho];dsimp only at *;omega
 obtain ⟨R,hR⟩:∃ R,R=reachG ⟨nds,out⟩ ⟨x0,y0,x1,y1⟩:=⟨_,rfl⟩;have HRR:Hid (R=(reachL nds ⟨x0,y0,x1,y1⟩ o).getD out.toNat Rc.zero):=by
  have:R=(reachL nds ⟨x0,y0,x1,y1⟩ o).getD out.toNat Rc.zero:=by rw [hR,ho];rfl
  exact this
 rw [←hR];obtain ⟨ho0,ho1⟩:=hg.gn.outs;dsimp only at ho0 ho1;obtain ⟨u,rfl⟩:∃ u:Nat,out=u:=⟨out.toNat,by omega⟩;have hnl:nds.length≤100:=hg.gn.few;obtain ⟨n,hn⟩:∃ n,n=nds.length:=⟨_,rfl⟩;have HN:=T hn;have H0:Hid (Bag w (((w.alloc (.cells #[Z ga n gc,Y X u] 33)).alloc (.cells (cs4 x0 y0 x1 y1) 25)).alloc (.cells (cs4 0 0 0 0) 25)) [(w.heap.size,[Z ga n gc,Y X u]),(w.heap.size+1,cl4 ⟨x0,y0,x1,y1⟩),(w.heap.size+1+1,cl4 ⟨0,0,0,0⟩)]):=bag3 w [Z ga n gc,Y X u] (cl4 ⟨x0,y0,x1,y1⟩) (cl4 ⟨0,0,0,0⟩) _ _ _;have HL:Hid (∀ W,Bag w W [(w.heap.size,[Z ga n gc,Y X u]),(w.heap.size+1,cl4 ⟨x0,y0,x1,y1⟩),(w.heap.size+1+1,cl4 ⟨0,0,0,0⟩)]→w.heap.size+3≤W.heap.size):=fun W h=>by
  have:=h.lt (w.heap.size+1+1,cl4 ⟨0,0,0,0⟩) (by simp);dsimp only at this;omega
 rw [←hn] at HG hnl ho1 ⊢;dsimp only at hg hgr hr;clear hg hgr hr ho hR hn;go_enter Tryz.func41,Tryz.ntmps41
 go_wp2_with (at_make;(refine wpList_make_full _ rfl _ _ 59 rfl (w.heap.size+3) 25 iR (.agg #[Y X 0,Y X 0,Y X 0,Y X 0]) 4 Tryz.underlying59 hiR hz0 hz1 .i64 .i64 _ _ n rfl rfl rfl rfl (by rw [hz2];omega) (by unfold maxLen;omega) (by simp) ?_;intro w2 hown2 hgrow2;have H2:Hid (Bag w w2 [(w.heap.size,[Z ga n gc,Y X u]),(w.heap.size+1,cl4 ⟨x0,y0,x1,y1⟩),(w.heap.size+1+1,cl4 ⟨0,0,0,0⟩),(w.heap.size+1+1+1,rcs (L n Rc.zero))]):=(H0.o.made hgrow2).add (b:=w.heap.size+1+1+1) (cs:=rcs (L n Rc.zero)) (by rw [←rcs_zero];exact box_own4 (by simpa using hown2)) (by omega) (by simp;omega);clear hown2 hgrow2 H0;have a0:=H2.o.cell 0 rfl 0 rfl;have a1:=H2.o.cell 0 rfl 1 rfl))
 have H2':Hid (w.heap.size+4≤w2.heap.size):=by
  have:=H2.o.lt (w.heap.size+1+1+1,rcs (L n Rc.zero)) (by simp);dsimp only at this;have h:w.heap.size+4≤w2.heap.size:=by omega
  exact h
 refine (all_c B _ nds u w2 (by rw [←HN.o];omega) HGR.o.1.gn.short (by have:=(HG.o w2 H2.o.below).1;exact this) (HG.o w2 H2.o.below).2).mono ?_;rintro e W3 ⟨oa,oc,rfl,hown3,hb3⟩;rw [←HO.o.1] at hown3 ⊢;obtain ⟨ob,rfl⟩:∃ ob,oa=some ⟨ob,0,none⟩:=by
  rcases hown3.form with ⟨_,h⟩|⟨g,cap,h1,_⟩
  ·have:o.length=0:=by rw [←ofN_len,h];rfl
   have:=HO.o.2.1;omega
  ·simp only [N] at h1;exact ⟨g,h1.1⟩
 obtain ⟨cur,hcur,htk,hob,hoc,hocm⟩:=own_box (OwnP.row (ofN_len o) hown3);have HCU:Hid (∀ (i k:Nat),o[i]?=some k→cur[i]?=some (Y X (k:Int))):=fun i k hi=>by
  have h1:((ofN o).map (Value.int .i64))[i]?=some (Y X (k:Int)):=by unfold ofN;simp [hi]
  rw [←htk,List.getElem?_take] at h1
  split at h1
  ·exact h1
  ·cases h1
 have H3:Hid (Bag w W3 (cbag w.heap.size (Z ga n gc) u ⟨x0,y0,x1,y1⟩ (reachL nds ⟨x0,y0,x1,y1⟩ (o.take 0)) ob cur)):=by
  have hx:=(H2.o.call hb3).add hcur (by have:=H2'.o;omega) (fun p hp=>by have:=H2.o.lt p hp;omega);have e:reachL nds ⟨x0,y0,x1,y1⟩ (o.take 0)=L n Rc.zero:=by rw [HN.o];rfl
  rw [e];exact hx
 obtain ⟨no,hno⟩:∃ no,no=o.length:=⟨_,rfl⟩;have HNO:=T hno;rw [←hno] at hoc ⊢;unfold maxLen at hocm;clear a0 a1 hown3 hb3 hcur htk hob H2 H2' hno HL;go_wp2_with fail;go_loopw [20] (fun jv wr=>∃ i:Nat,i≤no∧jv=Y X i∧Bag w wr (cbag w.heap.size (Z ga n gc) u ⟨x0,y0,x1,y1⟩ (reachL nds ⟨x0,y0,x1,y1⟩ (o.take i)) ob cur)) (fun jv _=>no-(intOf jv).toNat)
 case atStart=>exact ⟨0,by omega,rfl,H3.o⟩
 case round=>
  obtain ⟨i,hi,rfl,hr⟩:=hrel;obtain ⟨vs,hvs⟩:∃ vs,vs=reachL nds ⟨x0,y0,x1,y1⟩ (o.take i):=⟨_,rfl⟩;have HVS:Hid (vs=reachL nds ⟨x0,y0,x1,y1⟩ (o.take i)∧vs.length=n∧∀ q∈vs,RcP q):=by
   refine ⟨hvs,by rw [hvs,reachL_len,HN.o],?_⟩;rw [hvs];exact reachL_pl HGR.o.2.1 fun k hk=>HGR.o.1.ra k (HO.o.2.2 k (List.mem_of_mem_take hk))
  rw [←hvs] at hr;have H4:=T hr;clear hr hvs H3;obtain ⟨wo,hwo⟩:∃ wo,wo=wr:=⟨_,rfl⟩;subst hwo;by_cases hil:i<no
  ·obtain ⟨k,hk⟩:∃ k,o[i]?=some k:=⟨_,I (by rw [←HNO.o];exact hil)⟩;have hkn:k<n:=by rw [HN.o];exact HO.o.2.2 k (Q hk)
   have HK:Hid (o[i]?=some k∧k<nds.length):=⟨hk,by rw [←HN.o];exact hkn⟩;have d0:=H4.o.cell 4 rfl i (HCU.o i k hk);have a0:=H4.o.cell 0 rfl 0 rfl;obtain ⟨gb,go,gcap,ia,ic,pa,pc,hv,hbB,hcap,hcm,k0,k1,k2,s1,s2⟩:=(HG.o wo H4.o.below).1.node (i:=k) HK.o.2;simp only [N] at hv;obtain ⟨rfl,hnn,rfl⟩:=hv;clear hnn;obtain ⟨op,hop⟩:∃ z,z=(nds.getD k Nd.none).op:=⟨_,rfl⟩;obtain ⟨ins,hins⟩:∃ z,z=(nds.getD k Nd.none).ins:=⟨_,rfl⟩;obtain ⟨p,hp⟩:∃ z,z=(nds.getD k Nd.none).p:=⟨_,rfl⟩;have HND:Hid (nds.getD k Nd.none=⟨op,ins,p⟩):=by
    have:nds.getD k Nd.none=⟨op,ins,p⟩:=by rw [hop,hins,hp]
    exact this
   rw [←hop] at k0;rw [←hins] at k1 s1;rw [←hp] at k2 s2;have HRA:Hid (RaOk ⟨op,ins,p⟩∧ins.length≤8∧∀ x∈ins,-1≤x∧x<n):=by
    have h1:=HGR.o.1.ra k HK.o.2;have h2:=HGR.o.1.gn.rng k HK.o.2;dsimp only at h1 h2;rw [HND.o] at h1 h2;exact ⟨h1,h1.few,by rw [HN.o];exact h2⟩
   obtain ⟨ia',ic',hv2,hicap,hicm,hin,hcell⟩:=s1.ints;cases hv2
   have HB:Hid (B≤wo.heap.size):=(HG.o wo H4.o.below).2;have HC:Hid (∀ (W:World),Below wo.heap.size wo W→∀ j:Nat,j<ins.length→∃ b o,ia=some ⟨b,o,none⟩∧W.cell? ⟨b,o+j,none⟩=some (Y X (ins.getD j 0))):=fun W hb j hj=>by
    obtain ⟨b',o',h1,h2,h3⟩:=hcell j hj;refine ⟨b',o',h1,?_⟩;rw [hb.cell (lt_of_cell (h3 j hj))];exact h3 j hj
   have HS2:Hid (SlOf RInt 1 (·<B) wo (Z pa p.length pc) p∧w.heap.size≤wo.heap.size∧B≤w.heap.size):=⟨s2,H4.o.below.size,hB⟩;have HNC:Hid (∀ (W:World),Below wo.heap.size wo W→W.cell? ⟨gb,go+k*3,none⟩=some (Y X op)∧W.cell? ⟨gb,go+k*3+1,none⟩=some (Z ia ins.length ic)∧W.cell? ⟨gb,go+k*3+2,none⟩=some (Z pa p.length pc)):=fun W hb=>⟨(hb.cell (lt_of_cell k0)).trans k0,(hb.cell (lt_of_cell k1)).trans k1,(hb.cell (lt_of_cell k2)).trans k2⟩;have HLW:Hid (Below w.heap.size w wo):=H4.o.below;obtain ⟨m,hm⟩:∃ m,m=ins.length:=⟨_,rfl⟩;obtain ⟨pl,hpl⟩:∃ m,m=p.length:=⟨_,rfl⟩;have HM:Hid (m=ins.length∧pl=p.length):=⟨hm,hpl⟩;have hm8:m≤8:=by rw [hm];exact HRA.o.2.1
   rw [←hm] at k1 hicap HNC;rw [←hpl] at k2 HNC;have hk0:(0:Int)≤(k:Int):=by omega
   have hk1:(k:Int)<(n:Int):=by omega
   have hi0:(0:Int)≤(i:Int):=by omega
   have hi1:(i:Int)<(no:Int):=by omega
   unfold maxLen at hcm hicm;clear s1 s2 hcell hin hop hins hp hm hpl hk;go_wp2_with fail;go_loopw [10,31] (fun lv jv wq=>∃ j:Nat,j≤m∧jv=Y X j∧Below wo.heap.size wo wq∧wq.ownsRow wo.heap.size 25 4 lv j (rcs ((ins.map (rin ⟨x0,y0,x1,y1⟩ vs)).take j))) (fun _ jv _=>m-(intOf jv).toNat)
   case atStart=>exact ⟨0,by omega,rfl,Below.refl _ _,World.ownsRow_nil _ _ _ _⟩
   case round=>
    obtain ⟨j,hj,rfl,hq1,hq2⟩:=hrel;have H5:=T hq1;have HOW:=T hq2;have HBQ:=T (H4.o.call hq1);clear hq1 hq2 a0 d0 k0 k1 k2;by_cases hjl:j<m
    ·obtain ⟨b',o',hia,hcx⟩:=HC.o wr H5.o j (by rw [←HM.o.1];exact hjl);subst hia;obtain ⟨x,hx⟩:∃ x,x=ins.getD j 0:=⟨_,rfl⟩;have hjx:ins[j]?=some x:=by
      have h:j<ins.length:=by rw [←HM.o.1];exact hjl
      rw [hx];simp [h]
     have hxr:=HRA.o.2.2 x (Q hjx);rw [←hx] at hcx;obtain ⟨l,hl⟩:∃ l,l=(ins.map (rin ⟨x0,y0,x1,y1⟩ vs)).take j:=⟨_,rfl⟩;obtain ⟨q,hq⟩:∃ q,q=rin ⟨x0,y0,x1,y1⟩ vs x:=⟨_,rfl⟩;have HSN:Hid (rcs ((ins.map (rin ⟨x0,y0,x1,y1⟩ vs)).take (j+1))=rcs l++cl4 q):=by
      have:rcs ((ins.map (rin ⟨x0,y0,x1,y1⟩ vs)).take (j+1))=rcs l++cl4 q:=by
       rw [List.take_add_one,List.getElem?_map,hjx,rcs_app,hl,hq];rfl
      exact this
     rw [←hl] at HOW;have HM1:Hid (j+1≤maxLen∧(j+1)*32≤140737488355328):=by constructor<;>(try unfold maxLen)<;>omega
     have HAL:Hid (∀ (t:TypeId),(wr.alloc (.cells #[Y X q.x0,Y X q.y0,Y X q.x1,Y X q.y1] t)).ownsRow wo.heap.size 25 4 u10 j (rcs l)):=fun t=>owns_below HOW.o (below_new wr _) (V _);have HBX:Hid (∀ (t:TypeId),Box (wr.alloc (.cells #[Y X q.x0,Y X q.y0,Y X q.x1,Y X q.y1] t)) wr.heap.size (cl4 q)):=fun t=>Box.new wr (cl4 q) t;have HEN:Hid (∀ (t:TypeId) (w8:World) (u10':Value),(wr.alloc (.cells #[Y X q.x0,Y X q.y0,Y X q.x1,Y X q.y1] t)).grownBy w8 u10.ownBlock→Below wo.heap.size wo w8):=fun t w8 _ hg=>
      below_grown (H5.o.alloc H5.o.size _) hg (HAL.o t) (V _) (by rw [size_alloc];have:=H5.o.size;omega)
     have hj0:(0:Int)≤(j:Int):=by omega
     have hj1:(j:Int)<(m:Int):=by omega
     have HBS:Hid (wo.heap.size≤wr.heap.size):=H5.o.size;by_cases hx1:x = -1
     ·subst hx1;obtain rfl:q=⟨x0,y0,x1,y1⟩:=by rw [hq];exact if_pos rfl
      obtain ⟨a0,a1,a2,a3⟩:=(HBQ.o.box 1 rfl).c4;clear hx hjx hxr hl hq
      go_wp2_with (at_builtin;(refine wpList_append_lies _ rfl _ _ 59 rfl wo.heap.size 25 iR (.agg #[Y X 0,Y X 0,Y X 0,Y X 0]) 4 32 Tryz.underlying59 hiR hz0 hz1 hz2 rfl (by decide) u10 j (rcs l) rfl (HAL.o _) _ 1 1 (cl4 ⟨x0,y0,x1,y1⟩) rfl rfl (news_at' (HBX.o _)) (by simp [Value.oneCell']) (by decide) HM1.o.1 HM1.o.2 (by simp;have:=HBS.o;omega) _ rfl ?_;intro g8 c8 w8 hown8 hgrow8 hat8 hlt8;have H6:Hid (Below wo.heap.size wo w8∧w8.ownsRow wo.heap.size 25 4 (Z (some ⟨g8,0,none⟩) (j+1) c8) (j+1) (rcs ((ins.map (rin ⟨x0,y0,x1,y1⟩ vs)).take (j+1)))):=⟨HEN.o _ w8 u10 hgrow8,by rw [HSN.o];exact hown8⟩;clear hown8 hgrow8 hat8))
      go_roundw
      case rel=>exact ⟨j+1,by omega,by go_num,H6.o.1,H6.o.2⟩
      case measure=>simp [intOf];omega
     ·obtain ⟨y,rfl⟩:∃ y:Nat,x=y:=⟨x.toNat,by omega⟩;have hyn:y<n:=by omega
      have hqy:vs[y]?=some q:=by
       have h:y<vs.length:=by rw [HVS.o.2.1];exact hyn
       rw [hq];unfold rin;rw [if_neg hx1,Int.toNat_natCast];simp [h]
      obtain ⟨a0,a1,a2,a3⟩:=rbox_get (HBQ.o.box 3 rfl) hqy;have d1:((y:Int) == -1)=false:=by simp
      have hy0:(0:Int)≤(y:Int):=by omega
      have hy1:(y:Int)<(n:Int):=by omega
      clear hx hjx hxr hl hq hx1 hqy
      go_wp2_with (at_builtin;(refine wpList_append_lies _ rfl _ _ 59 rfl wo.heap.size 25 iR (.agg #[Y X 0,Y X 0,Y X 0,Y X 0]) 4 32 Tryz.underlying59 hiR hz0 hz1 hz2 rfl (by decide) u10 j (rcs l) rfl (HAL.o _) _ 1 1 (cl4 q) rfl rfl (news_at' (HBX.o _)) (by simp [Value.oneCell']) (by decide) HM1.o.1 HM1.o.2 (by simp;have:=HBS.o;omega) _ rfl ?_;intro g8 c8 w8 hown8 hgrow8 hat8 hlt8;have H6:Hid (Below wo.heap.size wo w8∧w8.ownsRow wo.heap.size 25 4 (Z (some ⟨g8,0,none⟩) (j+1) c8) (j+1) (rcs ((ins.map (rin ⟨x0,y0,x1,y1⟩ vs)).take (j+1)))):=⟨HEN.o _ w8 u10 hgrow8,by rw [HSN.o];exact hown8⟩;clear hown8 hgrow8 hat8))
      go_roundw
      case rel=>exact ⟨j+1,by omega,by go_num,H6.o.1,H6.o.2⟩
      case measure=>simp [intOf];omega
    ·have ej:j=m:=by omega
     subst ej;have HLS:Hid (SlOf RRc 4 (·<wr.heap.size) wr u10 (ins.map (rin ⟨x0,y0,x1,y1⟩ vs))∧∀ q∈ins.map (rin ⟨x0,y0,x1,y1⟩ vs),RcP q):=by
      have h:=HOW.o;rw [HM.o.1,List.take_of_length_le (by simp)] at h;have hp:∀ q∈ins.map (rin ⟨x0,y0,x1,y1⟩ vs),RcP q:=fun q hq=>by
       obtain ⟨x,_,rfl⟩:=List.mem_map.1 hq;exact rin_pl HGR.o.2.1 HVS.o.2.2 x
      exact ⟨own_rc (by simpa using h) hp,hp⟩
     obtain ⟨z,hz⟩:∃ z,z=reachN ⟨op,ins,p⟩ (ins.map (rin ⟨x0,y0,x1,y1⟩ vs)):=⟨_,rfl⟩;have HZ:=T hz;have HRE:Hid (Calls Tryz.prog 42 #[.agg #[Y X op,Z ia j ic,Z pa pl pc],u10] wr (PPost wr (rv z))):=by
      have h:=reach_c op (Z ia j ic) (Z pa pl pc) u10 ins p (ins.map (rin ⟨x0,y0,x1,y1⟩ vs)) wr (F:=(·<wr.heap.size)) (fun b hb=>hb) (by rw [HM.o.2];exact (HS2.o.1.same RInt.ok (Same.of_below H5.o fun b (hb:b<B)=>E hb HB.o)).mono RInt.ok fun b (hb:b<B)=>E hb (Nat.le_trans HB.o H5.o.size)) ⟨_,_,_,rfl⟩ HLS.o.1 HRA.o.1 (by simp) HLS.o.2;rw [hz];exact h
     obtain ⟨n0,n1,n2⟩:=HNC.o wr H5.o;have a0:=HBQ.o.cell 0 rfl 0 rfl;clear hz;go_wp2_with fail;refine HRE.o.mono ?_;rintro e W6 ⟨rfl,hb6⟩;have H6:=T (HBQ.o.call hb6);obtain ⟨v,hv⟩:∃ v,vs[k]?=some v:=⟨_,I (by rw [HVS.o.2.1];exact hkn)⟩;obtain ⟨a0',a1',a2',a3'⟩:=rbox_get (H6.o.box 3 rfl) hv;have f0:=H6.o.frozen 3 rfl (k*4);have f1:=H6.o.frozen 3 rfl (k*4+1);have f2:=H6.o.frozen 3 rfl (k*4+2);have f3:=H6.o.frozen 3 rfl (k*4+3);have H7:Hid (Bag w ((((W6.setCell ⟨w.heap.size+1+1+1,k*4,none⟩ (Y X z.x0)).setCell ⟨w.heap.size+1+1+1,k*4+1,none⟩ (Y X z.y0)).setCell ⟨w.heap.size+1+1+1,k*4+2,none⟩ (Y X z.x1)).setCell ⟨w.heap.size+1+1+1,k*4+3,none⟩ (Y X z.y1)) (cbag w.heap.size (Z (some ⟨gb,go,none⟩) n gc) u ⟨x0,y0,x1,y1⟩ (reachL nds ⟨x0,y0,x1,y1⟩ (o.take (i+1))) ob cur)):=by
      have e:reachL nds ⟨x0,y0,x1,y1⟩ (o.take (i+1))=vs.set k z:=by
       rw [List.take_add_one,HK.o.1];show reachL nds ⟨x0,y0,x1,y1⟩ (o.take i++[k])=_;rw [reachL_snoc,←HVS.o.1];unfold reachS;rw [HND.o,HZ.o]
      rw [e];exact bag_setR H6.o 3 rfl k z
     clear hv n0 n1 n2 a0 hb6 H6 HRE;go_wp2_with fail;go_roundw
     case rel=>
      exact ⟨i+1,by omega,by go_num,H7.o⟩
     case measure=>simp [intOf];omega
  ·have ei:i=no:=by omega
   subst ei;have hRv:vs[u]?=some R:=by
    have h1:=HRR.o;have h2:=HVS.o.1;rw [HNO.o,List.take_length] at h2;rw [←h2,Int.toNat_natCast] at h1;have h:u<vs.length:=by rw [HVS.o.2.1];omega
    rw [h1];simp [h]
   obtain ⟨a0,a1,a2,a3⟩:=rbox_get (H4.o.box 3 rfl) hRv;have g1:=H4.o.cell 0 rfl 1 rfl;have hu0:(0:Int)≤(u:Int):=by omega
   obtain ⟨r0,r1,r2,r3⟩:=box4 (H4.o.box 2 rfl);obtain ⟨f0,f1,f2,f3⟩:=(H4.o.box 2 rfl).f4;clear hRv;go_wp2_with fail;have H5:=H4.o.set4 2 rfl (Y X R.x0) (Y X R.y0) (Y X R.x1) (Y X R.y1);exact ret_rect (g:=w.heap.size+1+1) (r:=R) rfl rfl (H5.box 2 rfl) rfl ⟨rfl,H5.below⟩
theorem reachAll_c (B:Nat) (nv:Value) (g:Fg) (r:Rc) (w:World) (hg:GoodR g) (hgr:Gr B w nv g.nds) (hB:B≤w.heap.size) (hr:RcP r):
  Calls Tryz.prog 16 #[.agg #[nv,Y X g.out],rv r] w (PPost w (rv (reachG g r))):=by
 obtain ⟨R,hR⟩:∃ R,R=reachG g r:=⟨_,rfl⟩;have HC:Hid (∀ W,Below w.heap.size w W→Calls Tryz.prog 41 #[.agg #[nv,Y X g.out],rv r,.func (.func 42) #[] #[]] W (PPost W (rv R))):=fun W hb=>by
  rw [hR];exact carried_c B nv g r W hg (hgr.below hb hB) (Nat.le_trans hB hb.size) hr
 rw [←hR];obtain ⟨x0,y0,x1,y1⟩:=r;obtain ⟨nds,out⟩:=g;obtain ⟨ga,gc,rfl⟩:=hgr.isSl;dsimp only at HC ⊢;obtain ⟨n,hn⟩:∃ n,n=nds.length:=⟨_,rfl⟩;rw [←hn] at HC ⊢;have H0:Hid (Bag w (((w.alloc (.cells #[Z ga n gc,Y X out] 33)).alloc (.cells (cs4 x0 y0 x1 y1) 25)).alloc (.cells (cs4 0 0 0 0) 25)) [(w.heap.size,[Z ga n gc,Y X out]),(w.heap.size+1,cl4 ⟨x0,y0,x1,y1⟩),(w.heap.size+1+1,cl4 ⟨0,0,0,0⟩)]):=bag3 w [Z ga n gc,Y X out] (cl4 ⟨x0,y0,x1,y1⟩) (cl4 ⟨0,0,0,0⟩) _ _ _;clear hg hgr hr hR hn;go_enter Tryz.func16,Tryz.ntmps16;go_wp2_with fail;refine (HC.o _ H0.o.below).mono ?_;rintro e W1 ⟨rfl,hb1⟩;have H1:=T (H0.o.call hb1);clear hb1 H0 HC;obtain ⟨r0,r1,r2,r3⟩:=box4 (H1.o.box 2 rfl);obtain ⟨f0,f1,f2,f3⟩:=(H1.o.box 2 rfl).f4;go_wp2_with fail;have H2:=H1.o.set4 2 rfl (Y X R.x0) (Y X R.y0) (Y X R.x1) (Y X R.y1);exact ret_rect (g:=w.heap.size+1+1) (r:=R) rfl rfl (H2.box 2 rfl) rfl ⟨rfl,H2.below⟩
end Go.Proofs.YtgodhpampaleeaaGreatDoor
namespace Go.Proofs.YtgodhpampaleeaaGreatDoor
open Go.RowKit Go.Bx Go.Od Go.Hp
def Nc (x:Int):Prop := -1048576≤x∧x≤1048576
def RcN (r:Rc):Prop:=Nc r.x0∧Nc r.y0∧Nc r.x1∧Nc r.y1
theorem RcN.pl {r:Rc} (h:RcN r):RcP r:=by
 obtain ⟨h0,h1,h2,h3⟩:=h;unfold Nc at h0 h1 h2 h3;refine ⟨?_,?_,?_,?_⟩<;>(unfold Pl;omega)
structure CtOk (c:Ct):Prop where
 kind:c.kind=0∨c.kind=1∨c.kind=2
 px:c.px.Ok
 box:c.kind=1→RcN c.box
 pic:c.kind=2→(1≤c.w∧c.w≤4096)∧(1≤c.h∧c.h≤4096)∧(c.pix.length:Int)=c.w*c.h∧c.w*c.h≤65536∧(0≤c.turn∧c.turn≤3)∧Nc c.box.x0∧Nc c.box.y0
def ctR (c:Ct):Rc:=
 if c.kind=1 then (if pxEq c.px Px.zero=true then Rc.zero else someR c.box)
 else if c.kind=2 then ⟨c.box.x0,c.box.y0,c.box.x0+Vc.sx (Vc.qn c.turn) c.w c.h,c.box.y0+Vc.sy (Vc.qn c.turn) c.w c.h⟩
 else Rc.zero
theorem sx_bd (q:Nat) {a b m:Int} (ha:1≤a∧a≤m) (hb:1≤b∧b≤m):(1≤Vc.sx q a b∧Vc.sx q a b≤m)∧(1≤Vc.sy q a b∧Vc.sy q a b≤m):=by
 unfold Vc.sx Vc.sy
 match q with
 |0=>exact ⟨ha,hb⟩
 |1=>exact ⟨hb,ha⟩
 |2=>exact ⟨ha,hb⟩
 |q+3=>exact ⟨hb,ha⟩
theorem ctR_pl {c:Ct} (h:CtOk c):RcP (ctR c):=by
 unfold ctR
 split
 ·rename_i h1
  split
  ·exact zero_pl
  ·exact someR_pl (h.box h1).pl
 ·split
  ·rename_i h2;obtain ⟨hw,hh,_,_,_,h3,h4⟩:=h.pic h2;obtain ⟨h5,h6⟩:=sx_bd (Vc.qn c.turn) hw hh;unfold Nc at h3 h4;refine ⟨?_,?_,?_,?_⟩<;>(unfold Pl;dsimp only;omega)
  ·exact zero_pl
structure LkOk (k:Lk):Prop where
 ct:CtOk k.ct
 dx:Nc k.dx
 dy:Nc k.dy
 opa:0≤k.opa∧k.opa≤255
 mode:0≤k.mode∧k.mode≤6
 clip:k.hasC=true→RcN k.clip
 fil:k.hasF=true→GoodR k.fil
 bak:k.hasB=true→GoodR k.bak
def areaL (k:Lk):Rc:=if k.hasC=true then moveR k.clip k.dx k.dy else planeR
theorem areaL_pl (k:Lk):RcP (areaL k):=by
 unfold areaL
 split
 ·exact moveR_pl _ _ _
 ·exact plane_pl
def belowR (r:Rc) (k:Lk):Rc:=if k.hasB=true then joinR r (meetR (reachG k.bak r) (areaL k)) else r
theorem ord_lt (nds:List Nd):∀ k∈ord (insOf nds),k<nds.length:=fun k hk=>by
 have:=(ord_fine (insOf nds)).bound k hk;rwa [insOf_len] at this
theorem reachG_pl' {g:Fg} {r:Rc} (hg:GoodR g) (hr:RcP r):RcP (reachG g r):=reachG_pl hg hr (ord_lt g.nds)
theorem belowR_pl {r:Rc} {k:Lk} (hr:RcP r) (hk:LkOk k):RcP (belowR r k):=by
 unfold belowR
 split
 ·exact joinR_pl hr (meetR_pl (reachG_pl' (hk.bak (by assumption)) hr) (areaL_pl k))
 ·exact hr
def filR (k:Lk) (r:Rc):Rc:=if k.hasF=true then reachG k.fil r else r
def clpR (k:Lk) (r:Rc):Rc:=if k.hasC=true then meetR r k.clip else r
def resK (k:Lk) (r:Rc):Rc:=if k.opa=0 then Rc.zero else moveR (clpR k (filR k r)) k.dx k.dy
theorem resK_pl (k:Lk) (r:Rc):RcP (resK k r):=by
 unfold resK
 split
 ·exact zero_pl
 ·exact moveR_pl _ _ _
def stepR (f:Ly→Rc) (r:Rc) (k:Ly):Rc:=joinR (belowR r k.look) (f k)
def resN:Nat→Ly→Rc
 |0,_=>Rc.zero
 |n+1,l=>resK l.look (l.kids.foldl (stepR (resN n)) (ctR l.look.ct))
def grpN (n:Nat) (l:Ly):Rc:=l.kids.foldl (stepR (resN n)) (ctR l.look.ct)
theorem resN_succ (n:Nat) (l:Ly):resN (n+1) l=resK l.look (grpN n l):=rfl
theorem resN_pl (n:Nat) (l:Ly):RcP (resN n l):=by
 cases n with
 |zero=>exact zero_pl
 |succ n=>exact resK_pl _ _
def LyOk:Nat→Ly→Prop
 |0,_=>False
 |n+1,l=>LkOk l.look∧∀ k∈l.kids,LyOk n k
theorem stepR_pl {n:Nat} {r:Rc} {k:Ly} (hr:RcP r) (hk:LyOk n k):RcP (stepR (resN n) r k):=by
 cases n with
 |zero=>exact hk.elim
 |succ n=>exact joinR_pl (belowR_pl hr hk.1) (resN_pl _ _)
theorem foldS_pl {n:Nat}:∀ (l:List Ly) (r:Rc),RcP r→(∀ k∈l,LyOk n k)→RcP (l.foldl (stepR (resN n)) r)
 |[],r,hr,_=>hr
 |k::ks,r,hr,h=>foldS_pl ks _ (stepR_pl hr (h k (by simp))) fun q hq=>h q (by simp [hq])
theorem grpN_pl {n:Nat} {l:Ly} (h:LyOk (n+1) l):RcP (grpN n l):=foldS_pl _ _ (ctR_pl h.1.ct) h.2
end Go.Proofs.YtgodhpampaleeaaGreatDoor
namespace Go.Proofs.YtgodhpampaleeaaGreatDoor
open Go.RowKit Go.Bx Go.Od Go.Hp
attribute [local go_sem ↓] Go.wp_at_zero Go.wp_at_succ
abbrev ctv (c:Ct) (v:Value):Value:=.agg #[Y X c.kind,Y X c.box.x0,Y X c.box.y0,Y X c.box.x1,Y X c.box.y1,Y J c.px.r,Y J c.px.g,Y J c.px.b,Y J c.px.a,Y X c.w,Y X c.h,Y X c.turn,v]
abbrev lkv (k:Lk) (pv fv bv:Value):Value:=.agg #[Y X k.dx,Y X k.dy,.bool k.hasC,Y X k.clip.x0,Y X k.clip.y0,Y X k.clip.x1,Y X k.clip.y1,Y X k.opa,Y X k.mode,Y X k.ct.kind,Y X k.ct.box.x0,Y X k.ct.box.y0,Y X k.ct.box.x1,Y X k.ct.box.y1,Y J k.ct.px.r,Y J k.ct.px.g,Y J k.ct.px.b,Y J k.ct.px.a,Y X k.ct.w,Y X k.ct.h,Y X k.ct.turn,pv,.bool k.hasF,fv,Y X k.fil.out,.bool k.hasB,bv,Y X k.bak.out]
theorem content_c (c:Ct) (v:Value) (w:World) (hc:CtOk c) (hv:∃ a n m,v=Z a n m):Calls Tryz.prog 30 #[ctv c v] w (PPost w (rv (ctR c))):=by
 obtain ⟨va,vn,vm,rfl⟩:=hv;obtain ⟨R,hR⟩:∃ R,R=ctR c:=⟨_,rfl⟩;rw [←hR];have HC:Hid (CtOk c∧R=ctR c):=⟨hc,hR⟩;have hk:=hc.kind;obtain ⟨kind,⟨x0,y0,x1,y1⟩,⟨p0,p1,p2,p3⟩,cw,ch,turn,pix⟩:=c;dsimp only at hk;have H0:Hid (Bag w ((w.alloc (.cells #[Y X kind,Y X x0,Y X y0,Y X x1,Y X y1,Y J p0,Y J p1,Y J p2,Y J p3,Y X cw,Y X ch,Y X turn,Z va vn vm] 30)).alloc (.cells (cs4 0 0 0 0) 25)) [(w.heap.size,ctc ⟨kind,⟨x0,y0,x1,y1⟩,⟨p0,p1,p2,p3⟩,cw,ch,turn,pix⟩ (Z va vn vm)),(w.heap.size+1,cl4 ⟨0,0,0,0⟩)]):=bag2 w (ctc ⟨kind,⟨x0,y0,x1,y1⟩,⟨p0,p1,p2,p3⟩,cw,ch,turn,pix⟩ (Z va vn vm)) (cl4 ⟨0,0,0,0⟩) _ _;clear hc hR;have hW:Hid True:=trivial
 rcases hk with rfl|rfl|rfl
 ·obtain rfl:R=Rc.zero:=HC.o.2;go_enter Tryz.func30,Tryz.ntmps30;go_wp2_with fail;exact ret_rect (g:=w.heap.size+1) (r:=Rc.zero) rfl rfl (H0.o.box 1 rfl) rfl ⟨rfl,H0.o.below⟩
 ·have hq:=fun W=>neqPx ⟨p0,p1,p2,p3⟩ Px.zero W;have hR1:R=if pxEq ⟨p0,p1,p2,p3⟩ Px.zero=true then Rc.zero else someR ⟨x0,y0,x1,y1⟩:=HC.o.2
  have HR1:=T hR1;clear hR1;obtain ⟨pe,hpe⟩:∃ e,e=pxEq ⟨p0,p1,p2,p3⟩ Px.zero:=⟨_,rfl⟩;rw [←hpe] at HR1 hq;have HPE:=T hpe;clear hpe
  cases pe with
  |true=>
   obtain rfl:R=Rc.zero:=HR1.o;clear HR1;have hq':∀ W:World,(binOp .neq 27 (.agg #[Y J p0,Y J p1,Y J p2,Y J p3]) (.agg #[Y J 0,Y J 0,Y J 0,Y J 0])).run Tryz.prog W=.ok (.bool false) W:=hq;clear hq;go_enter Tryz.func30,Tryz.ntmps30;go_wp2_with fail;exact ret_rect (g:=w.heap.size+1) (r:=Rc.zero) rfl rfl (H0.o.box 1 rfl) rfl ⟨rfl,H0.o.below⟩
  |false=>
   have hq':∀ W:World,(binOp .neq 27 (.agg #[Y J p0,Y J p1,Y J p2,Y J p3]) (.agg #[Y J 0,Y J 0,Y J 0,Y J 0])).run Tryz.prog W=.ok (.bool true) W:=hq;clear hq;have HJ:Hid (∀ W,Calls Tryz.prog 31 #[rv ⟨x0,y0,x1,y1⟩,rv ⟨0,0,0,0⟩] W (PPost W (rv R))):=fun W=>by rw [HR1.o];exact join_c _ _ W
   clear HR1;go_enter Tryz.func30,Tryz.ntmps30;go_wp2_with fail;generalize ((w.alloc (.cells #[Y X 1,Y X x0,Y X y0,Y X x1,Y X y1,Y J p0,Y J p1,Y J p2,Y J p3,Y X cw,Y X ch,Y X turn,Z va vn vm] 30)).alloc (.cells (cs4 0 0 0 0) 25))=W1 at *;refine (HJ.o W1).mono ?_;rintro e W2 ⟨rfl,hb2⟩;have H2:=T (H0.o.call hb2);clear hb2 H0 hq';obtain ⟨r0,r1,r2,r3⟩:=box4 (H2.o.box 1 rfl);obtain ⟨f0,f1,f2,f3⟩:=(H2.o.box 1 rfl).f4;go_wp2_with fail;have HF:=H2.o.set4 1 rfl (Y X R.x0) (Y X R.y0) (Y X R.x1) (Y X R.y1);exact ret_rect (g:=w.heap.size+1) (r:=R) rfl rfl (HF.box 1 rfl) rfl ⟨rfl,HF.below⟩
 ·obtain ⟨hw,hh,_,_,ht,h3,h4⟩:=HC.o.1.pic rfl;dsimp only at hw hh ht h3 h4;have hR1:R=⟨x0,y0,x0+Vc.sx (Vc.qn turn) cw ch,y0+Vc.sy (Vc.qn turn) cw ch⟩:=HC.o.2;obtain ⟨h5,h6⟩:=sx_bd (Vc.qn turn) hw hh;have HS:Hid (∀ W,Calls Tryz.prog 57 #[Y X cw,Y X ch,Y X turn] W (Vc.IPost W (Vc.sx (Vc.qn turn) cw ch) (Vc.sy (Vc.qn turn) cw ch))):=fun W=>Vc.size_c cw ch turn W (by omega) (by omega) (by omega) (by omega);generalize Vc.sx (Vc.qn turn) cw ch=sw at *;generalize Vc.sy (Vc.qn turn) cw ch=sh at *;obtain ⟨a,ha⟩:∃ a,a=x0+sw:=⟨_,rfl⟩;unfold Nc at h3 h4;have HR1:=T hR1;clear hR1 ha HC;go_enter Tryz.func30,Tryz.ntmps30;go_wp2_with fail;refine (HS.o _).mono ?_;rintro e W2 ⟨rfl,rfl⟩;clear HS;generalize ((w.alloc (.cells #[Y X 2,Y X x0,Y X y0,Y X x1,Y X y1,Y J p0,Y J p1,Y J p2,Y J p3,Y X cw,Y X ch,Y X turn,Z va vn vm] 30)).alloc (.cells (cs4 0 0 0 0) 25))=W1 at *;have e0:=H0.o.cell 0 rfl 1 rfl;have e1:=H0.o.cell 0 rfl 2 rfl;obtain ⟨r0,r1,r2,r3⟩:=box4 (H0.o.box 1 rfl);obtain ⟨f0,f1,f2,f3⟩:=(H0.o.box 1 rfl).f4;go_wp2_with fail;have HF:=H0.o.set4 1 rfl (Y X x0) (Y X y0) (Y X (x0+sw)) (Y X (y0+sh));exact ret_rect (g:=w.heap.size+1) (r:=⟨x0,y0,x0+sw,y0+sh⟩) rfl rfl (HF.box 1 rfl) rfl ⟨by rw [HR1.o],HF.below⟩
theorem area24_c (k:Lk) (pv fv bv:Value) (w:World) (hk:LkOk k):Calls Tryz.prog 58 #[lkv k pv fv bv] w (PPost w (rv (areaL k))):=by
 obtain ⟨R,hR⟩:∃ R,R=areaL k:=⟨_,rfl⟩;have HR:=T hR;rw [←hR];have H0:Hid (Bag w ((w.alloc (.cells #[Y X k.dx,Y X k.dy,.bool k.hasC,Y X k.clip.x0,Y X k.clip.y0,Y X k.clip.x1,Y X k.clip.y1,Y X k.opa,Y X k.mode,Y X k.ct.kind,Y X k.ct.box.x0,Y X k.ct.box.y0,Y X k.ct.box.x1,Y X k.ct.box.y1,Y J k.ct.px.r,Y J k.ct.px.g,Y J k.ct.px.b,Y J k.ct.px.a,Y X k.ct.w,Y X k.ct.h,Y X k.ct.turn,pv,.bool k.hasF,fv,Y X k.fil.out,.bool k.hasB,bv,Y X k.bak.out] 35)).alloc (.cells (cs4 0 0 0 0) 25)) [(w.heap.size,lkc k pv fv bv),(w.heap.size+1,cl4 ⟨0,0,0,0⟩)]):=bag2 w (lkc k pv fv bv) (cl4 ⟨0,0,0,0⟩) _ _;have HK:Hid (LkOk k):=hk;clear hk hR;cases hC:k.hasC with
 |false=>
  obtain rfl:R=planeR:=by rw [HR.o];unfold areaL;rw [hC];rfl
  clear HR;go_enter Tryz.func58,Tryz.ntmps58;go_wp2_with fail;rw [hC] at H0;refine (planeAll_c _).mono ?_;rintro e W2 ⟨rfl,hb2⟩;have H2:=T (H0.o.call hb2);clear hb2 H0;obtain ⟨r0,r1,r2,r3⟩:=box4 (H2.o.box 1 rfl);obtain ⟨f0,f1,f2,f3⟩:=(H2.o.box 1 rfl).f4;go_wp2_with fail;have HF:=H2.o.set4 1 rfl (Y X planeR.x0) (Y X planeR.y0) (Y X planeR.x1) (Y X planeR.y1);exact ret_rect (g:=w.heap.size+1) (r:=planeR) rfl rfl (HF.box 1 rfl) rfl ⟨rfl,HF.below⟩
 |true=>
  have hcl:=HK.o.clip hC;have hdx:=HK.o.dx;have hdy:=HK.o.dy;unfold Nc at hdx hdy;have HM:Hid (∀ W,Calls Tryz.prog 18 #[.agg #[Y X k.clip.x0,Y X k.clip.y0,Y X k.clip.x1,Y X k.clip.y1],Y X k.dx,Y X k.dy] W (PPost W (rv R))):=fun W=>by
   have:R=moveR k.clip k.dx k.dy:=by rw [HR.o];unfold areaL;rw [hC];rfl
   rw [this];exact move_c k.clip k.dx k.dy W hcl.pl (by omega) (by omega)
  clear HR hcl hdx hdy;go_enter Tryz.func58,Tryz.ntmps58;go_wp2_with fail;rw [hC] at H0;refine (HM.o _).mono ?_;rintro e W2 ⟨rfl,hb2⟩;have H2:=T (H0.o.call hb2);clear hb2 H0 HM;obtain ⟨r0,r1,r2,r3⟩:=box4 (H2.o.box 1 rfl);obtain ⟨f0,f1,f2,f3⟩:=(H2.o.box 1 rfl).f4;go_wp2_with fail;have HF:=H2.o.set4 1 rfl (Y X R.x0) (Y X R.y0) (Y X R.x1) (Y X R.y1);exact ret_rect (g:=w.heap.size+1) (r:=R) rfl rfl (HF.box 1 rfl) rfl ⟨rfl,HF.below⟩
end Go.Proofs.YtgodhpampaleeaaGreatDoor
