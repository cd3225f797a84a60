/- Texts joined: En Eo Es Ep Qa Qb Qc Qd Qe Qf. -/
import Derived.Test.YtgodhpampaleeaaGreatDoorM08
import Derived.Test.YtgodhpampaleeaaGreatDoorM02
import Derived.Test.YtgodhpampaleeaaGreatDoorM05
import Derived.Test.YtgodhpampaleeaaGreatDoorM09
import Derived.Great.BuildSlice
import Derived.Great.FillDense
import Derived.Test.YtgodhpampaleeaaGreatDoorM07
import Derived.Test.YtgodhpampaleeaaGreatDoorM06
open Go.Value renaming int→Y,slice→O
open Go.IntKind renaming i64→J,u8→Z
open List renaming take_succ_cons→U,take_zero→V
open Nat renaming le_refl→E
open Go.Lib renaming hid→I
open Go.Value.slice renaming injEq→Q
set_option maxRecDepth 8000
set_option maxHeartbeats 12800000
set_option linter.unusedVariables false
namespace Go.Proofs.YtgodhpampaleeaaGreatDoor
open Go.RowKit Go.Bx Go.Od Go.Hp
attribute [local go_sem ↓] Go.wp_at_zero Go.wp_at_succ
theorem fhas_c (r:Rc) (x y:Int) (w:World):Calls Tryz.prog 36 #[rv r,Y J x,Y J y] w (PPost w (.bool (hasR r x y))):=by
 obtain ⟨x0,y0,x1,y1⟩:=r;have HX:Hid (Box (w.alloc (.cells (cs4 x0 y0 x1 y1) 25)) w.heap.size (cl4 ⟨x0,y0,x1,y1⟩)∧Below w.heap.size w (w.alloc (.cells (cs4 x0 y0 x1 y1) 25))):=⟨Box.new w _ _,below_new _ _⟩;obtain ⟨d0,h0⟩:∃ d,decide (x0≤x)=d:=⟨_,rfl⟩;obtain ⟨d1,h1⟩:∃ d,decide (x<x1)=d:=⟨_,rfl⟩;obtain ⟨d2,h2⟩:∃ d,decide (y0≤y)=d:=⟨_,rfl⟩;obtain ⟨d3,h3⟩:∃ d,decide (y<y1)=d:=⟨_,rfl⟩;have HE:Hid (hasR ⟨x0,y0,x1,y1⟩ x y=(d0&&(d1&&(d2&&d3)))):=by
  have:hasR ⟨x0,y0,x1,y1⟩ x y=(d0&&(d1&&(d2&&d3))):=by unfold hasR;rw [h0,h1,h2,h3]
  exact this
 cases d0 with
 |false=>
  go_enter Tryz.func36,Tryz.ntmps36;go_wp2_with fail;go_ret;exact ⟨ret_b HE.o.symm,HX.o.2⟩
 |true=>
  cases d1 with
  |false=>
   go_enter Tryz.func36,Tryz.ntmps36;go_wp2_with fail;go_ret;exact ⟨ret_b HE.o.symm,HX.o.2⟩
  |true=>
   cases d2 with
   |false=>
    go_enter Tryz.func36,Tryz.ntmps36;go_wp2_with fail;go_ret;exact ⟨ret_b HE.o.symm,HX.o.2⟩
   |true=>
    cases d3 with
    |false=>
     go_enter Tryz.func36,Tryz.ntmps36;go_wp2_with fail;go_ret;exact ⟨ret_b HE.o.symm,HX.o.2⟩
    |true=>
     go_enter Tryz.func36,Tryz.ntmps36;go_wp2_with fail;go_ret;exact ⟨ret_b HE.o.symm,HX.o.2⟩
def pixR (c:Ct) (x y:Int):Px:=
 if c.kind=1 then (if hasR c.box x y=true then c.px else Px.zero)
 else if c.kind=2 then
  (let u:=Vc.fx (Vc.qn c.turn) c.w c.h (x-c.box.x0) (y-c.box.y0)
   let v:=Vc.fy (Vc.qn c.turn) c.w c.h (x-c.box.x0) (y-c.box.y0)
   if u<0∨v<0∨c.w≤u∨c.h≤v then Px.zero else c.pix.getD (v*c.w+u).toNat Px.zero)
 else Px.zero
theorem has_some (r:Rc) (x y:Int):hasR (someR r) x y=hasR r x y:=by
 obtain ⟨x0,y0,x1,y1⟩:=r;unfold someR joinR;rw [if_pos (show Rc.zero.emp=true from rfl)]
 split
 ·rename_i h;rw [emp_iff] at h;dsimp only at h;rw [Bool.eq_iff_iff];unfold hasR;simp only [Bool.and_eq_true,decide_eq_true_eq];dsimp only [Rc.zero];omega
 ·rfl
theorem has_zero (x y:Int):hasR Rc.zero x y=false:=by
 rw [←Bool.not_eq_true];unfold hasR;simp only [Bool.and_eq_true,decide_eq_true_eq];dsimp only [Rc.zero];omega
theorem in_turned (q:Nat) (w h x y:Int):(0≤x∧x<Vc.sx q w h∧0≤y∧y<Vc.sy q w h)↔¬(Vc.fx q w h x y<0∨Vc.fy q w h x y<0∨w≤Vc.fx q w h x y∨h≤Vc.fy q w h x y):=by
 match q with
 |0=>show (0≤x∧x<w∧0≤y∧y<h)↔¬(x<0∨y<0∨w≤x∨h≤y);omega
 |1=>show (0≤x∧x<h∧0≤y∧y<w)↔¬(y<0∨h-1-x<0∨w≤y∨h≤h-1-x);omega
 |2=>show (0≤x∧x<w∧0≤y∧y<h)↔¬(w-1-x<0∨h-1-y<0∨w≤w-1-x∨h≤h-1-y);omega
 |q+3=>show (0≤x∧x<h∧0≤y∧y<w)↔¬(w-1-y<0∨x<0∨w≤w-1-y∨h≤x);omega
theorem idx_lt {u v w h:Int} (hu:0≤u∧u<w) (hv:0≤v∧v<h):0≤v*w+u∧v*w+u<w*h∧0≤v*w:=by
 have h1:0≤v*w:=Int.mul_nonneg hv.1 (by omega);have h2:(v+1)*w≤h*w:=Int.mul_le_mul_of_nonneg_right (by omega) (by omega);rw [Int.add_mul,Int.one_mul] at h2;rw [Int.mul_comm w h];omega
theorem pixel24_c (B:Nat) (c:Ct) (v:Value) (x y:Int) (w:World) (hc:CtOk c) (hv:SlOf RPx 4 (·<B) w v c.pix) (hB:B≤w.heap.size) (hx : -1000000000≤x∧x≤1000000000) (hy : -1000000000≤y∧y≤1000000000):
  Calls Tryz.prog 14 #[ctv c v,Y J x,Y J y] w (PPost w (pxv (pixR c x y))):=by
 have HV0:=hv;obtain ⟨va,vn,vm,hvf⟩:=sl_form hv;subst hvf;have hvn:vn=c.pix.length∧vn≤vm∧vm≤maxLen:=by
  obtain ⟨a,cc,h1,h2,h3,_⟩:=hv;simp only [Q] at h1;obtain ⟨_,h4,h5⟩:=h1;subst h5;exact ⟨h4,by omega,h3⟩
 obtain ⟨R,hR⟩:∃ R,R=pixR c x y:=⟨_,rfl⟩;have HR:Hid (R=pixR c x y∧CtOk c):=⟨hR,hc⟩;have HCt:Hid (∀ W,Calls Tryz.prog 30 #[ctv c (O va vn vm)] W (PPost W (rv (ctR c)))):=fun W=>content_c c _ W hc ⟨_,_,_,rfl⟩;rw [←hR];have hk:=hc.kind;obtain ⟨kind,⟨x0,y0,x1,y1⟩,⟨p0,p1,p2,p3⟩,cw,ch,turn,pix⟩:=c;dsimp only at hk;have HV:Hid (∀ W,Below w.heap.size w W→SlOf RPx 4 (·<B) W (O va vn vm) pix):=fun W hb=>HV0.same RPx.ok (Same.of_below hb fun b (hbl:b<B)=>Nat.lt_of_lt_of_le hbl hB);have HP:Hid (vn=pix.length):=hvn.1;obtain ⟨hvq,hvm,hvmx⟩:=hvn;clear hvq;unfold maxLen at hvmx;have HW:Hid (Bag w ((w.alloc (.cells #[Y J kind,Y J x0,Y J y0,Y J x1,Y J y1,Y Z p0,Y Z p1,Y Z p2,Y Z p3,Y J cw,Y J ch,Y J turn,O va vn vm] 30)).alloc (.cells #[Y Z 0,Y Z 0,Y Z 0,Y Z 0] 27)) [(w.heap.size,[Y J kind,Y J x0,Y J y0,Y J x1,Y J y1,Y Z p0,Y Z p1,Y Z p2,Y Z p3,Y J cw,Y J ch,Y J turn,O va vn vm]),(w.heap.size+1,zU)]):=bag2 w [Y J kind,Y J x0,Y J y0,Y J x1,Y J y1,Y Z p0,Y Z p1,Y Z p2,Y Z p3,Y J cw,Y J ch,Y J turn,O va vn vm] zU _ _;obtain ⟨hx1,hx2⟩:=hx;obtain ⟨hy1,hy2⟩:=hy;clear hc HV0 hv hR hB
 rcases hk with rfl|rfl|rfl
 ·obtain rfl:R=Px.zero:=HR.o.1;have HH:Hid (∀ W,Calls Tryz.prog 36 #[rv Rc.zero,Y J x,Y J y] W (PPost W (.bool false))):=fun W=>by have h:=fhas_c Rc.zero x y W;rw [has_zero] at h;exact h
  have HC0:Hid (∀ W,Calls Tryz.prog 30 #[.agg #[Y J 0,Y J x0,Y J y0,Y J x1,Y J y1,Y Z p0,Y Z p1,Y Z p2,Y Z p3,Y J cw,Y J ch,Y J turn,O va vn vm]] W (PPost W (rv Rc.zero))):=HCt.o;clear HCt;go_enter Tryz.func14,Tryz.ntmps14;go_wp2_with fail;refine (HC0.o _).mono ?_;rintro e W2 ⟨rfl,hb2⟩;have H2:=I (HW.o.call hb2);clear hb2 HW HC0;go_wp2_with fail;refine (HH.o _).mono ?_;rintro e W3 ⟨rfl,hb3⟩;have H3:=I (H2.o.call hb3);clear hb3 H2 HH;obtain ⟨r0,r1,r2,r3⟩:=(H3.o.box 1 rfl).c4;obtain ⟨f0,f1,f2,f3⟩:=(H3.o.box 1 rfl).f4;go_wp2_with fail;have HF:=H3.o.set4 1 rfl (Y Z 0) (Y Z 0) (Y Z 0) (Y Z 0);exact ret_px (g:=w.heap.size+1) (p:=⟨0,0,0,0⟩) rfl rfl (HF.box 1 rfl) rfl ⟨rfl,HF.below⟩
 ·obtain ⟨h,hh⟩:∃ h,h=hasR (ctR ⟨1,⟨x0,y0,x1,y1⟩,⟨p0,p1,p2,p3⟩,cw,ch,turn,pix⟩) x y:=⟨_,rfl⟩;have HH:Hid (∀ W,Calls Tryz.prog 36 #[rv (ctR ⟨1,⟨x0,y0,x1,y1⟩,⟨p0,p1,p2,p3⟩,cw,ch,turn,pix⟩),Y J x,Y J y] W (PPost W (.bool h))):=fun W=>by rw [hh];exact fhas_c _ x y W
  have hE0:(h=true→R=⟨p0,p1,p2,p3⟩)∧(h=false→R=Px.zero):=by
   have hR:R=if hasR ⟨x0,y0,x1,y1⟩ x y=true then ⟨p0,p1,p2,p3⟩ else Px.zero:=HR.o.1
   have hC:ctR ⟨1,⟨x0,y0,x1,y1⟩,⟨p0,p1,p2,p3⟩,cw,ch,turn,pix⟩=if pxEq ⟨p0,p1,p2,p3⟩ Px.zero=true then Rc.zero else someR ⟨x0,y0,x1,y1⟩:=rfl
   rw [hC] at hh;by_cases hp:pxEq ⟨p0,p1,p2,p3⟩ Px.zero=true
   ·rw [if_pos hp,has_zero] at hh;refine ⟨(fun e=>by rw [hh] at e;cases e),fun _=>?_⟩;rw [hR,(pxEq_iff _ _).1 hp]
    split<;>rfl
   ·rw [if_neg hp,has_some] at hh;exact ⟨fun e=>by rw [hR,←hh,e];rfl,fun e=>by rw [hR,←hh,e];rfl⟩
  have HE:=I hE0;clear hE0;generalize ctR ⟨1,⟨x0,y0,x1,y1⟩,⟨p0,p1,p2,p3⟩,cw,ch,turn,pix⟩=cr at *;have HC0:Hid (∀ W,Calls Tryz.prog 30 #[.agg #[Y J 1,Y J x0,Y J y0,Y J x1,Y J y1,Y Z p0,Y Z p1,Y Z p2,Y Z p3,Y J cw,Y J ch,Y J turn,O va vn vm]] W (PPost W (rv cr))):=HCt.o;clear HCt hh HR;go_enter Tryz.func14,Tryz.ntmps14;go_wp2_with fail;refine (HC0.o _).mono ?_;rintro e W2 ⟨rfl,hb2⟩;have H2:=I (HW.o.call hb2);clear hb2 HW HC0;go_wp2_with fail;refine (HH.o _).mono ?_;rintro e W3 ⟨rfl,hb3⟩;have H3:=I (H2.o.call hb3);clear hb3 H2 HH;obtain ⟨r0,r1,r2,r3⟩:=(H3.o.box 1 rfl).c4;obtain ⟨f0,f1,f2,f3⟩:=(H3.o.box 1 rfl).f4;cases h with
  |false=>
   obtain rfl:R=Px.zero:=HE.o.2 rfl;go_wp2_with fail;have HF:=H3.o.set4 1 rfl (Y Z 0) (Y Z 0) (Y Z 0) (Y Z 0);exact ret_px (g:=w.heap.size+1) (p:=⟨0,0,0,0⟩) rfl rfl (HF.box 1 rfl) rfl ⟨rfl,HF.below⟩
  |true=>
   obtain rfl:R=⟨p0,p1,p2,p3⟩:=HE.o.1 rfl;have e0:=H3.o.cell 0 rfl 0 rfl;have e5:=H3.o.cell 0 rfl 5 rfl;have e6:=H3.o.cell 0 rfl 6 rfl;have e7:=H3.o.cell 0 rfl 7 rfl;have e8:=H3.o.cell 0 rfl 8 rfl;go_wp2_with fail;have HF:=H3.o.set4 1 rfl (Y Z p0) (Y Z p1) (Y Z p2) (Y Z p3);exact ret_px (g:=w.heap.size+1) (p:=⟨p0,p1,p2,p3⟩) rfl rfl (HF.box 1 rfl) rfl ⟨rfl,HF.below⟩
 ·
  obtain ⟨⟨hw1,hw2⟩,⟨hh1,hh2⟩,hpl,hpm,⟨ht1,ht2⟩,hb0,hb1⟩:=HR.o.2.pic rfl;dsimp only at hw1 hw2 hh1 hh2 hpl hpm ht1 ht2 hb0 hb1;unfold Nc at hb0 hb1;obtain ⟨hb0a,hb0b⟩:=hb0;obtain ⟨hb1a,hb1b⟩:=hb1;obtain ⟨q,hq⟩:∃ q,q=Vc.qn turn:=⟨_,rfl⟩;obtain ⟨u,hu⟩:∃ u,u=Vc.fx q cw ch (x-x0) (y-y0):=⟨_,rfl⟩;obtain ⟨z,hz⟩:∃ u,u=Vc.fy q cw ch (x-x0) (y-y0):=⟨_,rfl⟩;have HIN:Hid ((0≤x-x0∧x-x0<Vc.sx q cw ch∧0≤y-y0∧y-y0<Vc.sy q cw ch)↔¬(u<0∨z<0∨cw≤u∨ch≤z)):=by rw [hu,hz];exact in_turned q cw ch (x-x0) (y-y0)
  have HFR:Hid (∀ W,Calls Tryz.prog 37 #[Y J cw,Y J ch,Y J turn,Y J (x-x0),Y J (y-y0)] W (Vc.IPost W u z)):=fun W=>by
   rw [hu,hz,hq];exact Vc.from_c cw ch turn (x-x0) (y-y0) W (by omega) (by omega) (by omega) (by omega) (by omega) (by omega) (by unfold Vc.Nr;omega) (by unfold Vc.Nr;omega)
  have HR2:Hid (R=if u<0∨z<0∨cw≤u∨ch≤z then Px.zero else pix.getD (z*cw+u).toNat Px.zero):=by
   have:R=if u<0∨z<0∨cw≤u∨ch≤z then Px.zero else pix.getD (z*cw+u).toNat Px.zero:=by rw [HR.o.1,hu,hz,hq];rfl
   exact this
  obtain ⟨h,hh⟩:∃ h,h=hasR ⟨x0,y0,x0+Vc.sx q cw ch,y0+Vc.sy q cw ch⟩ x y:=⟨_,rfl⟩;obtain ⟨sw,hsw⟩:∃ s,s=Vc.sx q cw ch:=⟨_,rfl⟩;obtain ⟨sh,hsh⟩:∃ s,s=Vc.sy q cw ch:=⟨_,rfl⟩;rw [←hsw,←hsh] at hh;have HC0:Hid (∀ W,Calls Tryz.prog 30 #[.agg #[Y J 2,Y J x0,Y J y0,Y J x1,Y J y1,Y Z p0,Y Z p1,Y Z p2,Y Z p3,Y J cw,Y J ch,Y J turn,O va vn vm]] W (PPost W (rv ⟨x0,y0,x0+sw,y0+sh⟩))):=by
   have h:=HCt.o;intro W;rw [hsw,hsh,hq];exact h W
  have HH:Hid (∀ W,Calls Tryz.prog 36 #[rv ⟨x0,y0,x0+sw,y0+sh⟩,Y J x,Y J y] W (PPost W (.bool h))):=fun W=>by rw [hh];exact fhas_c _ x y W
  have HE:Hid (h=true↔¬(u<0∨z<0∨cw≤u∨ch≤z)):=by
   have:h=true↔¬(u<0∨z<0∨cw≤u∨ch≤z):=by
    rw [←HIN.o,hh,←hsw,←hsh];simp [hasR];omega
   exact this
  clear hu hz hq hh hsw hsh HCt HIN HR;obtain ⟨cr,hcr⟩:∃ c:Rc,c=⟨x0,y0,x0+sw,y0+sh⟩:=⟨_,rfl⟩;rw [←hcr] at HC0 HH;clear hcr;go_enter Tryz.func14,Tryz.ntmps14;go_wp2_with fail;refine (HC0.o _).mono ?_;rintro e W2 ⟨rfl,hb2⟩;have H2:=I (HW.o.call hb2);clear hb2 HW HC0;go_wp2_with fail;refine (HH.o _).mono ?_;rintro e W3 ⟨rfl,hb3⟩;have H3:=I (H2.o.call hb3);clear hb3 H2 HH;obtain ⟨r0,r1,r2,r3⟩:=(H3.o.box 1 rfl).c4;obtain ⟨f0,f1,f2,f3⟩:=(H3.o.box 1 rfl).f4;cases h with
  |false=>
   have hn:u<0∨z<0∨cw≤u∨ch≤z:=by
    have h:=HE.o;simp only [Bool.false_eq_true,false_iff,Decidable.not_not] at h;exact h
   obtain rfl:R=Px.zero:=HR2.o.trans (if_pos hn);clear hn;go_wp2_with fail;have HF:=H3.o.set4 1 rfl (Y Z 0) (Y Z 0) (Y Z 0) (Y Z 0);exact ret_px (g:=w.heap.size+1) (p:=⟨0,0,0,0⟩) rfl rfl (HF.box 1 rfl) rfl ⟨rfl,HF.below⟩
  |true=>
   have hn:¬(u<0∨z<0∨cw≤u∨ch≤z):=HE.o.1 rfl;obtain ⟨g1,g2,g3,g4⟩:0≤u∧0≤z∧u<cw∧z<ch:=by omega
   obtain ⟨ix1,ix2,ix3⟩:=idx_lt (u:=u) (v:=z) (w:=cw) (h:=ch) ⟨g1,g3⟩ ⟨g2,g4⟩;have hwm:IntKind.i64.wrap (z*cw)=z*cw:=wrap_in (by omega) (by omega);obtain ⟨ix,hix⟩:∃ i:Nat,(i:Int)=z*cw+u:=⟨(z*cw+u).toNat,by omega⟩;have hws:IntKind.i64.wrap (z*cw+u)=(ix:Int):=by rw [hix];exact wrap_in (by clear hwm;omega) (by clear hwm;omega)
   have hixl:ix<pix.length:=by clear hwm hws;omega
   obtain ⟨b,of,cc,p,hsv,_,_,_,hpj,_,m0,m1,m2,m3⟩:=pix_at (HV.o _ H3.o.below) hixl;simp only [Q] at hsv;obtain ⟨rfl,hnn,rfl⟩:=hsv;clear hnn;have hRp:R=p:=by
    rw [HR2.o,if_neg (by clear hwm hws;omega),←hix,Int.toNat_natCast];simp [hpj]
   subst hRp;obtain ⟨q0,q1,q2,q3⟩:=R;dsimp only at m0 m1 m2 m3;have hi0:(0:Int)≤(ix:Int):=by clear hwm hws;omega
   have hi1:(ix:Int)<(vn:Int):=by clear hwm hws;rw [HP.o];omega
   have hi1':ix<vn:=by clear hwm hws;omega
   have e0:=H3.o.cell 0 rfl 0 rfl;have e1:=H3.o.cell 0 rfl 1 rfl;have e2:=H3.o.cell 0 rfl 2 rfl;have e9:=H3.o.cell 0 rfl 9 rfl;have e10:=H3.o.cell 0 rfl 10 rfl;have e11:=H3.o.cell 0 rfl 11 rfl;have e12:=H3.o.cell 0 rfl 12 rfl;clear hn hix hixl hpj ix1 ix2 ix3 HE HR2 hpl hpm;go_wp2_with fail;refine (HFR.o _).mono ?_;rintro e W4 ⟨rfl,rfl⟩;go_wp2_with fail;have HF:=H3.o.set4 1 rfl (Y Z q0) (Y Z q1) (Y Z q2) (Y Z q3);exact ret_px (g:=w.heap.size+1) (p:=⟨q0,q1,q2,q3⟩) rfl rfl (HF.box 1 rfl) rfl ⟨rfl,HF.below⟩
theorem rpixel_c (B:Nat) (c:Ct) (v:Value) (x y:Int) (w:World) (hc:CtOk c) (hv:SlOf RPx 4 (·<B) w v c.pix) (hB:B≤w.heap.size) (hx : -1000000000≤x∧x≤1000000000) (hy : -1000000000≤y∧y≤1000000000):
  Calls Tryz.prog 59 #[ctv c v,Y J x,Y J y] w (PPost w (pxv (pixR c x y))):=by
 have HV0:=hv;obtain ⟨va,vn,vm,hvf⟩:=sl_form hv;subst hvf;have hvn:vn=c.pix.length∧vn≤vm∧vm≤maxLen:=by
  obtain ⟨a,cc,h1,h2,h3,_⟩:=hv;simp only [Q] at h1;obtain ⟨_,h4,h5⟩:=h1;subst h5;exact ⟨h4,by omega,h3⟩
 obtain ⟨R,hR⟩:∃ R,R=pixR c x y:=⟨_,rfl⟩;have HR:Hid (R=pixR c x y∧CtOk c):=⟨hR,hc⟩;have HCt:Hid (∀ W,Calls Tryz.prog 30 #[ctv c (O va vn vm)] W (PPost W (rv (ctR c)))):=fun W=>content_c c _ W hc ⟨_,_,_,rfl⟩;rw [←hR];have hk:=hc.kind;obtain ⟨kind,⟨x0,y0,x1,y1⟩,⟨p0,p1,p2,p3⟩,cw,ch,turn,pix⟩:=c;dsimp only at hk;have HV:Hid (∀ W,Below w.heap.size w W→SlOf RPx 4 (·<B) W (O va vn vm) pix):=fun W hb=>HV0.same RPx.ok (Same.of_below hb fun b (hbl:b<B)=>Nat.lt_of_lt_of_le hbl hB);have HP:Hid (vn=pix.length):=hvn.1;obtain ⟨hvq,hvm,hvmx⟩:=hvn;clear hvq;unfold maxLen at hvmx;have HW:Hid (Bag w ((w.alloc (.cells #[Y J kind,Y J x0,Y J y0,Y J x1,Y J y1,Y Z p0,Y Z p1,Y Z p2,Y Z p3,Y J cw,Y J ch,Y J turn,O va vn vm] 30)).alloc (.cells #[Y Z 0,Y Z 0,Y Z 0,Y Z 0] 27)) [(w.heap.size,[Y J kind,Y J x0,Y J y0,Y J x1,Y J y1,Y Z p0,Y Z p1,Y Z p2,Y Z p3,Y J cw,Y J ch,Y J turn,O va vn vm]),(w.heap.size+1,zU)]):=bag2 w [Y J kind,Y J x0,Y J y0,Y J x1,Y J y1,Y Z p0,Y Z p1,Y Z p2,Y Z p3,Y J cw,Y J ch,Y J turn,O va vn vm] zU _ _;obtain ⟨hx1,hx2⟩:=hx;obtain ⟨hy1,hy2⟩:=hy;clear hc HV0 hv hR hB;clear HCt
 rcases hk with rfl|rfl|rfl
 ·obtain rfl:R=Px.zero:=HR.o.1;go_enter Tryz.func59,Tryz.ntmps59;go_wp2_with fail;exact ret_px (g:=w.heap.size+1) (p:=⟨0,0,0,0⟩) rfl rfl (HW.o.box 1 rfl) rfl ⟨rfl,HW.o.below⟩
 ·obtain ⟨h,hh⟩:∃ h,h=hasR ⟨x0,y0,x1,y1⟩ x y:=⟨_,rfl⟩;have HH:Hid (∀ W,Calls Tryz.prog 10 #[.agg #[Y J x0,Y J y0,Y J x1,Y J y1],Y J x,Y J y] W (PPost W (.bool h))):=fun W=>by rw [hh];exact has03_c ⟨x0,y0,x1,y1⟩ x y W
  have HE:Hid (R=if h=true then ⟨p0,p1,p2,p3⟩ else Px.zero):=by
   have:R=if h=true then ⟨p0,p1,p2,p3⟩ else Px.zero:=by rw [hh];exact HR.o.1
   exact this
  clear HR hh;go_enter Tryz.func59,Tryz.ntmps59;go_wp2_with fail;refine (HH.o _).mono ?_;rintro e W3 ⟨rfl,hb3⟩;have H3:=I (HW.o.call hb3);clear hb3 HW HH;have r0:=H3.o.cell 1 rfl 0 rfl;have r1:=H3.o.cell 1 rfl 1 rfl;have r2:=H3.o.cell 1 rfl 2 rfl;have r3:=H3.o.cell 1 rfl 3 rfl;obtain ⟨f0,f1,f2,f3⟩:=(H3.o.box 1 rfl).f4;have e0:=H3.o.cell 0 rfl 0 rfl;have e5:=H3.o.cell 0 rfl 5 rfl;have e6:=H3.o.cell 0 rfl 6 rfl;have e7:=H3.o.cell 0 rfl 7 rfl;have e8:=H3.o.cell 0 rfl 8 rfl;cases h with
  |false=>
   obtain rfl:R=Px.zero:=HE.o;go_wp2_with fail;have HF:=H3.o.set4 1 rfl (Y Z 0) (Y Z 0) (Y Z 0) (Y Z 0);exact ret_px (g:=w.heap.size+1) (p:=⟨0,0,0,0⟩) rfl rfl (HF.box 1 rfl) rfl ⟨rfl,HF.below⟩
  |true=>
   obtain rfl:R=⟨p0,p1,p2,p3⟩:=HE.o;go_wp2_with fail;have HF:=H3.o.set4 1 rfl (Y Z p0) (Y Z p1) (Y Z p2) (Y Z p3);exact ret_px (g:=w.heap.size+1) (p:=⟨p0,p1,p2,p3⟩) rfl rfl (HF.box 1 rfl) rfl ⟨rfl,HF.below⟩
 ·
  obtain ⟨⟨hw1,hw2⟩,⟨hh1,hh2⟩,hpl,hpm,⟨ht1,ht2⟩,hb0,hb1⟩:=HR.o.2.pic rfl;dsimp only at hw1 hw2 hh1 hh2 hpl hpm ht1 ht2 hb0 hb1;unfold Nc at hb0 hb1;obtain ⟨hb0a,hb0b⟩:=hb0;obtain ⟨hb1a,hb1b⟩:=hb1;obtain ⟨q,hq⟩:∃ q,q=Vc.qn turn:=⟨_,rfl⟩;obtain ⟨u,hu⟩:∃ u,u=Vc.fx q cw ch (x-x0) (y-y0):=⟨_,rfl⟩;obtain ⟨z,hz⟩:∃ u,u=Vc.fy q cw ch (x-x0) (y-y0):=⟨_,rfl⟩;have HIN:Hid ((0≤x-x0∧x-x0<Vc.sx q cw ch∧0≤y-y0∧y-y0<Vc.sy q cw ch)↔¬(u<0∨z<0∨cw≤u∨ch≤z)):=by rw [hu,hz];exact in_turned q cw ch (x-x0) (y-y0)
  have HFR:Hid (∀ W,Calls Tryz.prog 98 #[Y J cw,Y J ch,Y J turn,Y J (x-x0),Y J (y-y0)] W (Vc.IPost W u z)):=fun W=>by
   rw [hu,hz,hq];exact Vc.rfrom_c cw ch turn (x-x0) (y-y0) W (by omega) (by omega) (by omega) (by omega) (by unfold Vc.Nr;omega) (by unfold Vc.Nr;omega)
  have HR2:Hid (R=if u<0∨z<0∨cw≤u∨ch≤z then Px.zero else pix.getD (z*cw+u).toNat Px.zero):=by
   have:R=if u<0∨z<0∨cw≤u∨ch≤z then Px.zero else pix.getD (z*cw+u).toNat Px.zero:=by rw [HR.o.1,hu,hz,hq];rfl
   exact this
  clear hu hz hq HIN HR;have BZ:Hid (∀ (P:Prop),P=P):=fun _=>rfl;by_cases t0:u<0
  ·have d0:decide (u<0)=true:=decide_eq_true t0;obtain rfl:R=Px.zero:=HR2.o.trans (if_pos (.inl t0));clear t0 hpl hpm;go_enter Tryz.func59,Tryz.ntmps59;go_wp2_with fail;refine (HFR.o _).mono ?_;rintro e W4 ⟨rfl,rfl⟩;go_wp2_with fail;exact ret_px (g:=w.heap.size+1) (p:=⟨0,0,0,0⟩) rfl rfl (HW.o.box 1 rfl) rfl ⟨rfl,HW.o.below⟩
  by_cases t1:z<0
  ·have d0:decide (u<0)=false:=decide_eq_false t0;have d1:decide (z<0)=true:=decide_eq_true t1;obtain rfl:R=Px.zero:=HR2.o.trans (if_pos (.inr (.inl t1)));clear t0 t1 hpl hpm;go_enter Tryz.func59,Tryz.ntmps59;go_wp2_with fail;refine (HFR.o _).mono ?_;rintro e W4 ⟨rfl,rfl⟩;go_wp2_with fail;exact ret_px (g:=w.heap.size+1) (p:=⟨0,0,0,0⟩) rfl rfl (HW.o.box 1 rfl) rfl ⟨rfl,HW.o.below⟩
  by_cases t2:cw≤u
  ·have d0:decide (u<0)=false:=decide_eq_false t0;have d1:decide (z<0)=false:=decide_eq_false t1;have d2:decide (cw≤u)=true:=decide_eq_true t2;obtain rfl:R=Px.zero:=HR2.o.trans (if_pos (.inr (.inr (.inl t2))));clear t0 t1 t2 hpl hpm;go_enter Tryz.func59,Tryz.ntmps59;go_wp2_with fail;refine (HFR.o _).mono ?_;rintro e W4 ⟨rfl,rfl⟩;go_wp2_with fail;exact ret_px (g:=w.heap.size+1) (p:=⟨0,0,0,0⟩) rfl rfl (HW.o.box 1 rfl) rfl ⟨rfl,HW.o.below⟩
  by_cases t3:ch≤z
  ·have d0:decide (u<0)=false:=decide_eq_false t0;have d1:decide (z<0)=false:=decide_eq_false t1;have d2:decide (cw≤u)=false:=decide_eq_false t2;have d3:decide (ch≤z)=true:=decide_eq_true t3;obtain rfl:R=Px.zero:=HR2.o.trans (if_pos (.inr (.inr (.inr t3))));clear t0 t1 t2 t3 hpl hpm;go_enter Tryz.func59,Tryz.ntmps59;go_wp2_with fail;refine (HFR.o _).mono ?_;rintro e W4 ⟨rfl,rfl⟩;go_wp2_with fail;exact ret_px (g:=w.heap.size+1) (p:=⟨0,0,0,0⟩) rfl rfl (HW.o.box 1 rfl) rfl ⟨rfl,HW.o.below⟩
  have d0:decide (u<0)=false:=decide_eq_false t0;have d1:decide (z<0)=false:=decide_eq_false t1;have d2:decide (cw≤u)=false:=decide_eq_false t2;have d3:decide (ch≤z)=false:=decide_eq_false t3;have hn:¬(u<0∨z<0∨cw≤u∨ch≤z):=by omega
  clear BZ;obtain ⟨g1,g2,g3,g4⟩:0≤u∧0≤z∧u<cw∧z<ch:=by omega
  obtain ⟨ix1,ix2,ix3⟩:=idx_lt (u:=u) (v:=z) (w:=cw) (h:=ch) ⟨g1,g3⟩ ⟨g2,g4⟩;have hwm:IntKind.i64.wrap (z*cw)=z*cw:=wrap_in (by omega) (by omega);obtain ⟨ix,hix⟩:∃ i:Nat,(i:Int)=z*cw+u:=⟨(z*cw+u).toNat,by omega⟩;have hws:IntKind.i64.wrap (z*cw+u)=(ix:Int):=by rw [hix];exact wrap_in (by clear hwm;omega) (by clear hwm;omega)
  have hixl:ix<pix.length:=by clear hwm hws;omega
  obtain ⟨b,of,cc,p,hsv,_,_,_,hpj,_,m0,m1,m2,m3⟩:=pix_at (HV.o _ HW.o.below) hixl;simp only [Q] at hsv;obtain ⟨rfl,hnn,rfl⟩:=hsv;clear hnn;have hRp:R=p:=by
   rw [HR2.o,if_neg (by clear hwm hws;omega),←hix,Int.toNat_natCast];simp [hpj]
  subst hRp;obtain ⟨q0,q1,q2,q3⟩:=R;dsimp only at m0 m1 m2 m3;have hi0:(0:Int)≤(ix:Int):=by clear hwm hws;omega
  have hi1:(ix:Int)<(vn:Int):=by clear hwm hws;rw [HP.o];omega
  have hi1':ix<vn:=by clear hwm hws;omega
  clear hn hix hixl hpj ix1 ix2 ix3 HR2 t0 t1 t2 t3 hpl hpm;go_enter Tryz.func59,Tryz.ntmps59;go_wp2_with fail;refine (HFR.o _).mono ?_;rintro e W4 ⟨rfl,rfl⟩;generalize ((w.alloc (.cells #[Y J 2,Y J x0,Y J y0,Y J x1,Y J y1,Y Z p0,Y Z p1,Y Z p2,Y Z p3,Y J cw,Y J ch,Y J turn,O (some ⟨b,of,none⟩) vn vm] 30)).alloc (.cells #[Y Z 0,Y Z 0,Y Z 0,Y Z 0] 27))=W1 at *;have e9:=HW.o.cell 0 rfl 9 rfl;have e10:=HW.o.cell 0 rfl 10 rfl;have e12:=HW.o.cell 0 rfl 12 rfl;obtain ⟨r0,r1,r2,r3⟩:=(HW.o.box 1 rfl).c4;obtain ⟨f0,f1,f2,f3⟩:=(HW.o.box 1 rfl).f4;go_wp2_with fail;have HF:=HW.o.set4 1 rfl (Y Z q0) (Y Z q1) (Y Z q2) (Y Z q3);exact ret_px (g:=w.heap.size+1) (p:=⟨q0,q1,q2,q3⟩) rfl rfl (HF.box 1 rfl) rfl ⟨rfl,HF.below⟩
def ctA:Ct:=⟨1,⟨0,0,1,1⟩,⟨0,0,0,9⟩,0,0,0,[]⟩
def fgA:Fg:=⟨[⟨2,[-1],[1,1]⟩],0⟩
def lkA:Lk:=⟨5,0,false,⟨0,0,0,0⟩,255,0,ctA,true,fgA,false,⟨[],0⟩⟩
def lyA:Ly:=.mk 0 0 lkA []
theorem fgA_good:GoodR fgA:=goodR_of (m:=7) (by decide) (by omega) (by decide)
theorem ctA_ok:CtOk ctA:=⟨.inr (.inl rfl),by refine ⟨?_,?_,?_,?_⟩<;>(unfold Byte ctA;dsimp only;omega),fun _=>by refine ⟨?_,?_,?_,?_⟩<;>(unfold Nc ctA;dsimp only;omega),fun h=>by cases h⟩
theorem lkA_ok:LkOk lkA:=⟨ctA_ok,by unfold Nc lkA;dsimp only;omega,by unfold Nc lkA;dsimp only;omega,by unfold lkA;dsimp only;omega,by unfold lkA;dsimp only;omega,(fun h=>by cases h),(fun _=>fgA_good),(fun h=>by cases h)⟩
theorem lyA_ok:LyOk 1 lyA:=⟨lkA_ok,fun k hk=>by cases hk⟩
theorem resA:resN 1 lyA=⟨4,-1,7,2⟩:=by kernel_rfl
theorem pixA0:pixR ctA 0 0=⟨0,0,0,9⟩:=by kernel_rfl
theorem pixA1:pixR ctA 1 0=⟨0,0,0,0⟩:=by kernel_rfl
theorem bag4e (w:World) (cs ds es gs:List Value) (t u v x:TypeId):Bag w ((((w.alloc (.cells cs.toArray t)).alloc (.cells ds.toArray u)).alloc (.cells es.toArray v)).alloc (.cells gs.toArray x)) [(w.heap.size,cs),(w.heap.size+1,ds),(w.heap.size+1+1,es),(w.heap.size+1+1+1,gs)]:=by
 have h:=(bag3 w cs ds es t u v).alloc gs x;simp only [size_alloc,List.cons_append,List.nil_append] at h;exact h
theorem rlyA {w W:World} (h:Bag w W [(w.heap.size,[Y J (-1)]),(w.heap.size+1,[Y J 1,Y J 1]),(w.heap.size+1+1,[Y J 2,O (some ⟨w.heap.size,0,none⟩) 1 1,O (some ⟨w.heap.size+1,0,none⟩) 2 2]),(w.heap.size+1+1+1,[Y J 5,Y J 0,.bool false,Y J 0,Y J 0,Y J 0,Y J 0,Y J 255,Y J 0,Y J 1,Y J 0,Y J 0,Y J 1,Y J 1,Y Z 0,Y Z 0,Y Z 0,Y Z 9,Y J 0,Y J 0,Y J 0,O none 0 0,.bool true,O (some ⟨w.heap.size+1+1,0,none⟩) 1 1,Y J 0,.bool false,O none 0 0,Y J 0])]):RLy 1 (·<W.heap.size) W [Y J 0,Y J 0,Y J 5,Y J 0,.bool false,Y J 0,Y J 0,Y J 0,Y J 0,Y J 255,Y J 0,Y J 1,Y J 0,Y J 0,Y J 1,Y J 1,Y Z 0,Y Z 0,Y Z 0,Y Z 9,Y J 0,Y J 0,Y J 0,O none 0 0,.bool true,O (some ⟨w.heap.size+1+1,0,none⟩) 1 1,Y J 0,.bool false,O none 0 0,Y J 0,O none 0 0] lyA:=by
 have hp:=h.box 0 rfl;have hq:=h.box 1 rfl;have hg:=h.box 2 rfl;have s1:SlOf RInt 1 (·<W.heap.size) W (O (some ⟨w.heap.size,0,none⟩) 1 1) [-1]:=sl_box (xs:=[-1]) hp rfl (fun z hz=>in_small (by simp at hz;omega)) hp.lt (by decide);have s2:SlOf RInt 1 (·<W.heap.size) W (O (some ⟨w.heap.size+1,0,none⟩) 2 2) [1,1]:=sl_box (xs:=[1,1]) hq rfl (fun z hz=>in_small (by simp at hz;omega)) hq.lt (by decide);have s3:SlOf RNode 3 (·<W.heap.size) W (O (some ⟨w.heap.size+1+1,0,none⟩) 1 1) fgA.nds:=by
  refine ⟨_,1,rfl,E _,by decide,.inr ⟨_,0,rfl,hg.lt,fun i x hi=>?_⟩⟩
  match i,hi with
  |0,hi=>
   simp [fgA] at hi;subst hi;exact ⟨_,rfl,lies3 hg 0 rfl rfl rfl,_,_,rfl,in_small (x:=2) (by decide),s1,s2⟩
  |i+1,hi=>simp [fgA] at hi
 have z64:In64 0:=in_small (by decide);have o64:In64 1:=in_small (by decide);refine ⟨O none 0 0,O (some ⟨w.heap.size+1+1,0,none⟩) 1 1,O none 0 0,O none 0 0,rfl,z64,z64,⟨⟨in_small (x:=5) (by decide),z64,⟨z64,z64,z64,z64⟩,in_small (x:=255) (by decide),z64,⟨o64,⟨z64,z64,o64,o64⟩,ctA_ok.px,z64,z64,z64⟩,z64,z64⟩,?_,s3,?_⟩,?_⟩
 ·exact ⟨none,0,rfl,E _,by decide,.inl rfl⟩
 ·exact ⟨none,0,rfl,E _,by decide,.inl rfl⟩
 ·exact ⟨none,0,rfl,E _,by decide,.inl rfl⟩
theorem awake24_c (w:World):Calls Tryz.prog 5 #[] w (PPost w (.bool true)):=by
 have H0:Hid (Bag w ((((w.alloc (.cells #[Y J (-1)] 3)).alloc (.cells #[Y J 1,Y J 1] 3)).alloc (.cells #[Y J 2,O (some ⟨w.heap.size,0,none⟩) 1 1,O (some ⟨w.heap.size+1,0,none⟩) 2 2] 52)).alloc (.cells #[Y J 5,Y J 0,.bool false,Y J 0,Y J 0,Y J 0,Y J 0,Y J 255,Y J 0,Y J 1,Y J 0,Y J 0,Y J 1,Y J 1,Y Z 0,Y Z 0,Y Z 0,Y Z 9,Y J 0,Y J 0,Y J 0,O none 0 0,.bool true,O (some ⟨w.heap.size+1+1,0,none⟩) 1 1,Y J 0,.bool false,O none 0 0,Y J 0] 35)) [(w.heap.size,[Y J (-1)]),(w.heap.size+1,[Y J 1,Y J 1]),(w.heap.size+1+1,[Y J 2,O (some ⟨w.heap.size,0,none⟩) 1 1,O (some ⟨w.heap.size+1,0,none⟩) 2 2]),(w.heap.size+1+1+1,[Y J 5,Y J 0,.bool false,Y J 0,Y J 0,Y J 0,Y J 0,Y J 255,Y J 0,Y J 1,Y J 0,Y J 0,Y J 1,Y J 1,Y Z 0,Y Z 0,Y Z 0,Y Z 9,Y J 0,Y J 0,Y J 0,O none 0 0,.bool true,O (some ⟨w.heap.size+1+1,0,none⟩) 1 1,Y J 0,.bool false,O none 0 0,Y J 0])]):=bag4e w [Y J (-1)] [Y J 1,Y J 1] [Y J 2,O (some ⟨w.heap.size,0,none⟩) 1 1,O (some ⟨w.heap.size+1,0,none⟩) 2 2] [Y J 5,Y J 0,.bool false,Y J 0,Y J 0,Y J 0,Y J 0,Y J 255,Y J 0,Y J 1,Y J 0,Y J 0,Y J 1,Y J 1,Y Z 0,Y Z 0,Y Z 0,Y Z 9,Y J 0,Y J 0,Y J 0,O none 0 0,.bool true,O (some ⟨w.heap.size+1+1,0,none⟩) 1 1,Y J 0,.bool false,O none 0 0,Y J 0] _ _ _ _;have hq0:∀ W,(binOp .eql 25 (.agg #[Y J 4,Y J (-1),Y J 7,Y J 2]) (.agg #[Y J 4,Y J (-1),Y J 7,Y J 2])).run Tryz.prog W=.ok (.bool true) W:=fun W=>eqlR _ _ _ _ W;have hq1:∀ W,(binOp .eql 27 (.agg #[Y Z 0,Y Z 0,Y Z 0,Y Z 9]) (.agg #[Y Z 0,Y Z 0,Y Z 0,Y Z 9])).run Tryz.prog W=.ok (.bool true) W:=fun W=>eqlPx ⟨0,0,0,9⟩ ⟨0,0,0,9⟩ W;have hq2:∀ W,(binOp .eql 27 (.agg #[Y Z 0,Y Z 0,Y Z 0,Y Z 0]) (.agg #[Y Z 0,Y Z 0,Y Z 0,Y Z 0])).run Tryz.prog W=.ok (.bool true) W:=fun W=>eqlPx ⟨0,0,0,0⟩ ⟨0,0,0,0⟩ W;go_enter Tryz.func5,Tryz.ntmps5
 go_wp2_with (with_reducible refine wpList_alloc_store rfl rfl 35 rfl _ _ rfl _ #[Y J 5,Y J 0,.bool false,Y J 0,Y J 0,Y J 0,Y J 0,Y J 255,Y J 0,Y J 1,Y J 0,Y J 0,Y J 1,Y J 1,Y Z 0,Y Z 0,Y Z 0,Y Z 9,Y J 0,Y J 0,Y J 0,O none 0 0,.bool true,O (some ⟨w.heap.size+1+1,0,none⟩) 1 1,Y J 0,.bool false,O none 0 0,Y J 0] alLook (by simp [Act.eval,Act.put]) rfl (by kernel_rfl) (by kernel_rfl) (by simp [Value.oneCell']) ?_;simp only [Act.put,List.setIfInBounds_toArray,List.set_cons_succ,List.set_cons_zero,size_alloc])
 generalize ((((w.alloc (.cells #[Y J (-1)] 3)).alloc (.cells #[Y J 1,Y J 1] 3)).alloc (.cells #[Y J 2,O (some ⟨w.heap.size,0,none⟩) 1 1,O (some ⟨w.heap.size+1,0,none⟩) 2 2] 52)).alloc (.cells #[Y J 5,Y J 0,.bool false,Y J 0,Y J 0,Y J 0,Y J 0,Y J 255,Y J 0,Y J 1,Y J 0,Y J 0,Y J 1,Y J 1,Y Z 0,Y Z 0,Y Z 0,Y Z 9,Y J 0,Y J 0,Y J 0,O none 0 0,.bool true,O (some ⟨w.heap.size+1+1,0,none⟩) 1 1,Y J 0,.bool false,O none 0 0,Y J 0] 35))=W4 at *;have HRE:Hid (∀ s:Kept W4.heap.size W4,Calls Tryz.prog 7 #[.agg #[Y J 0,Y J 0,Y J 5,Y J 0,.bool false,Y J 0,Y J 0,Y J 0,Y J 0,Y J 255,Y J 0,Y J 1,Y J 0,Y J 0,Y J 1,Y J 1,Y Z 0,Y Z 0,Y Z 0,Y Z 9,Y J 0,Y J 0,Y J 0,O none 0 0,.bool true,O (some ⟨w.heap.size+1+1,0,none⟩) 1 1,Y J 0,.bool false,O none 0 0,Y J 0,O none 0 0]] s.w (PPost s.w (.agg #[Y J 4,Y J (-1),Y J 7,Y J 2]))):=fun s=>by
  have h:=result_c 1 s.w.heap.size lyA [Y J 0,Y J 0,Y J 5,Y J 0,.bool false,Y J 0,Y J 0,Y J 0,Y J 0,Y J 255,Y J 0,Y J 1,Y J 0,Y J 0,Y J 1,Y J 1,Y Z 0,Y Z 0,Y Z 0,Y Z 9,Y J 0,Y J 0,Y J 0,O none 0 0,.bool true,O (some ⟨w.heap.size+1+1,0,none⟩) 1 1,Y J 0,.bool false,O none 0 0,Y J 0,O none 0 0] s.w (rlyA (H0.o.call s.below)) (E _) lyA_ok;rw [resA] at h;exact h
 have HP0:Hid (∀ s:Kept W4.heap.size W4,Calls Tryz.prog 14 #[.agg #[Y J 1,Y J 0,Y J 0,Y J 1,Y J 1,Y Z 0,Y Z 0,Y Z 0,Y Z 9,Y J 0,Y J 0,Y J 0,O none 0 0],Y J 0,Y J 0] s.w (PPost s.w (.agg #[Y Z 0,Y Z 0,Y Z 0,Y Z 9]))):=fun s=>by
  have h:=pixel24_c 0 ctA (O none 0 0) 0 0 s.w ctA_ok ⟨none,0,rfl,E _,by decide,.inl rfl⟩ (Nat.zero_le _) (by omega) (by omega);rw [pixA0] at h;exact h
 have HP1:Hid (∀ s:Kept W4.heap.size W4,Calls Tryz.prog 14 #[.agg #[Y J 1,Y J 0,Y J 0,Y J 1,Y J 1,Y Z 0,Y Z 0,Y Z 0,Y Z 9,Y J 0,Y J 0,Y J 0,O none 0 0],Y J 1,Y J 0] s.w (PPost s.w (.agg #[Y Z 0,Y Z 0,Y Z 0,Y Z 0]))):=fun s=>by
  have h:=pixel24_c 0 ctA (O none 0 0) 1 0 s.w ctA_ok ⟨none,0,rfl,E _,by decide,.inl rfl⟩ (Nat.zero_le _) (by omega) (by omega);rw [pixA1] at h;exact h
 have HL:Hid (∀ w',(∃ s:Kept W4.heap.size W4,w'=s.w)→w'.rangeAt (w.heap.size+1+1+1) 0 [Y J 5,Y J 0,.bool false,Y J 0,Y J 0,Y J 0,Y J 0,Y J 255,Y J 0,Y J 1,Y J 0,Y J 0,Y J 1,Y J 1,Y Z 0,Y Z 0,Y Z 0,Y Z 9,Y J 0,Y J 0,Y J 0,O none 0 0,.bool true,O (some ⟨w.heap.size+1+1,0,none⟩) 1 1,Y J 0,.bool false,O none 0 0,Y J 0]):=fun w' ⟨s,hs⟩=>by rw [hs];exact (H0.o.call s.below).range 3 rfl 0 28
 have k9:=fun s:Kept W4.heap.size W4=>s.at (H0.o.cell 3 rfl 9 rfl);have k10:=fun s:Kept W4.heap.size W4=>s.at (H0.o.cell 3 rfl 10 rfl);have k11:=fun s:Kept W4.heap.size W4=>s.at (H0.o.cell 3 rfl 11 rfl);have k12:=fun s:Kept W4.heap.size W4=>s.at (H0.o.cell 3 rfl 12 rfl);have k13:=fun s:Kept W4.heap.size W4=>s.at (H0.o.cell 3 rfl 13 rfl);have k14:=fun s:Kept W4.heap.size W4=>s.at (H0.o.cell 3 rfl 14 rfl);have k15:=fun s:Kept W4.heap.size W4=>s.at (H0.o.cell 3 rfl 15 rfl);have k16:=fun s:Kept W4.heap.size W4=>s.at (H0.o.cell 3 rfl 16 rfl);have k17:=fun s:Kept W4.heap.size W4=>s.at (H0.o.cell 3 rfl 17 rfl);have k18:=fun s:Kept W4.heap.size W4=>s.at (H0.o.cell 3 rfl 18 rfl);have k19:=fun s:Kept W4.heap.size W4=>s.at (H0.o.cell 3 rfl 19 rfl);have k20:=fun s:Kept W4.heap.size W4=>s.at (H0.o.cell 3 rfl 20 rfl);have k21:=fun s:Kept W4.heap.size W4=>s.at (H0.o.cell 3 rfl 21 rfl);refine wp_region_kept W4.heap.size (by kernel_rfl) (by kernel_rfl) ?_;refine wpQuiet_load rfl 35 _ rfl (w.heap.size+1+1+1) 0 rfl _ _ HL.o Tryz.underlying35 rfl (by kernel_rfl) ?_;simp only [Act.put,List.setIfInBounds_toArray,List.set_cons_succ,List.set_cons_zero]
 repeat (go_big_quiet_step (first
  |(go_at_call 7;with_reducible exact Calls.kept _ (E _) (HRE.o _))
  |(go_at_call 14;with_reducible exact Calls.kept _ (E _) (HP0.o _))
  |(go_at_call 14;with_reducible exact Calls.kept _ (E _) (HP1.o _))))
 refine wpQuiet_nil ?_;rintro _ ⟨s,rfl⟩;have HE:Hid (Below w.heap.size w s.w):=H0.o.below.trans (s.below.mono H0.o.below.size);clear k9 k10 k11 k12 k13 k14 k15 k16 k17 k18 k19 k20 k21;go_wp2_with fail;go_ret;exact ⟨rfl,HE.o⟩
end Go.Proofs.YtgodhpampaleeaaGreatDoor
namespace Go.Proofs.YtgodhpampaleeaaGreatDoor
open Go.RowKit Go.Bx Go.Od Go.Hp Go.Great
attribute [local go_sem ↓] Go.wp_at_zero Go.wp_at_succ
theorem infoLy:((Tryz.prog.info? 38).map fun i=>(i.size,decide (i.bytes≤1000)))=some (31,true):=by kernel_rfl
theorem zeroLy:((Tryz.prog.info? 38).bind (·.zero)).map (·.cells.size)=some 31:=by kernel_rfl
theorem infoLy':∃ i z,Tryz.prog.info? 38=some i∧i.zero=some z∧i.size=31∧i.bytes≤1000∧z.cells.size=31:=by
 have h:=infoLy;have hz:=zeroLy
 cases e:Tryz.prog.info? 38 with
 |none=>rw [e] at h;cases h
 |some i=>
  rw [e] at h hz;simp only [Option.map_some,Option.some.injEq,Prod.mk.injEq,decide_eq_true_eq,Option.bind_some] at h hz
  cases e2:i.zero with
  |none=>rw [e2] at hz;cases hz
  |some z=>
   rw [e2] at hz;exact ⟨i,z,rfl,e2,h.1,h.2,by simpa using hz⟩
section
variable {B lb M:Nat} {ka:Option Addr} {kn kc:Nat} {kcs Lc Xc:List Value}
end
end Go.Proofs.YtgodhpampaleeaaGreatDoor
namespace Go.Proofs.YtgodhpampaleeaaGreatDoor
open Go.RowKit Go.Bx Go.Od Go.Hp Go.ChangeShapes Go.WideShapes Go.ChangeAt
attribute [local go_sem ↓] Go.wp_at_zero Go.wp_at_succ
section
variable {H:Type} {enc:TypeId×Value→H} {W:World} {base:Nat}
theorem layer24_arg {v:Value} {d:DataW H} {p:List MemPlace} (h:DataW.Trod enc Tryz.prog W 0 (fun _=>true) true 38 v d p) (hv:Value.okWide Tryz.prog W .any base 38 v):∃ (l:Ly) (n:Nat) (cs:List Value),v=.agg cs.toArray∧RLy (n+1) (·<W.heap.size) W cs l:=by
 obtain ⟨l,n,pv,fv,bv,kv,h1,h2,h3,h4,h5⟩:=layer_arg h hv;exact ⟨l,n,_,h1,pv,fv,bv,kv,rfl,h2,h3,h4,h5⟩
end
end Go.Proofs.YtgodhpampaleeaaGreatDoor
namespace Go.Proofs.YtgodhpampaleeaaGreatDoor
open Go.RowKit Go.Bx Go.Od Go.Hp
structure Bf where
 box:Rc
 pix:List Px
def areaN (r:Rc):Nat:=if r.emp=true then 0 else ((r.x1-r.x0)*(r.y1-r.y0)).toNat
def ixB (r:Rc) (x y:Int):Int:=(y-r.y0)*(r.x1-r.x0)+(x-r.x0)
def atB (b:Bf) (x y:Int):Px:=if hasR b.box x y=true then b.pix.getD (ixB b.box x y).toNat Px.zero else Px.zero
theorem hasR_iff (r:Rc) (x y:Int):hasR r x y=true↔(r.x0≤x∧x<r.x1)∧(r.y0≤y∧y<r.y1):=by
 unfold hasR;simp only [Bool.and_eq_true,decide_eq_true_eq];omega
theorem ix_bd {w i j h:Int} (hw:0≤i∧i<w) (hh:0≤j∧j<h):0≤j*w+i∧j*w+i<w*h:=by
 have h1:0≤j*w:=Int.mul_nonneg hh.1 (by omega);have h2:(j+1)*w≤h*w:=Int.mul_le_mul_of_nonneg_right (by omega) (by omega);rw [Int.add_mul,Int.one_mul] at h2;rw [Int.mul_comm w h];omega
theorem ixB_bd {r:Rc} {x y:Int} (h:hasR r x y=true):0≤ixB r x y∧(ixB r x y).toNat<areaN r:=by
 rw [hasR_iff] at h;have hb:=ix_bd (w:=r.x1-r.x0) (i:=x-r.x0) (j:=y-r.y0) (h:=r.y1-r.y0) (by omega) (by omega);unfold ixB areaN;rw [if_neg (by rw [emp_iff];omega)];refine ⟨hb.1,?_⟩;omega
theorem ix_inj {w i j i' j':Int} (hi:0≤i∧i<w) (hi':0≤i'∧i'<w) (h:j*w+i=j'*w+i'):i=i'∧j=j':=by
 have hj:j=j':=by
  rcases Int.lt_trichotomy j j' with h1|h1|h1
  ·have h2:(j+1)*w≤j'*w:=Int.mul_le_mul_of_nonneg_right (by omega) (by omega);rw [Int.add_mul,Int.one_mul] at h2;omega
  ·exact h1
  ·have h2:(j'+1)*w≤j*w:=Int.mul_le_mul_of_nonneg_right (by omega) (by omega);rw [Int.add_mul,Int.one_mul] at h2;omega
 subst hj;omega
def RowP (r:Rc) (Pf:Int→Int→Px→Prop) (n:Nat) (l:List Px):Prop:=l.length=n∧(∀ p∈l,p.Ok)∧∀ x y,hasR r x y=true→(ixB r x y).toNat<n→Pf x y (l.getD (ixB r x y).toNat Px.zero)
theorem RowP.nil (r:Rc) (Pf:Int→Int→Px→Prop):RowP r Pf 0 []:=⟨rfl,fun _ h=>(List.not_mem_nil h).elim,fun _ _ _ h=>absurd h (Nat.not_lt_zero _)⟩
theorem RowP.all {r:Rc} {Pf:Int→Int→Px→Prop} {l:List Px} (h:RowP r Pf (areaN r) l) {x y:Int} (hxy:hasR r x y=true):Pf x y (atB ⟨r,l⟩ x y):=by
 unfold atB;rw [if_pos hxy];exact h.2.2 x y hxy (ixB_bd hxy).2
structure BfOk (b:Bf):Prop where
 len:b.pix.length=areaN b.box
 px:∀ p∈b.pix,p.Ok
theorem atB_ok {b:Bf} (h:BfOk b) (x y:Int):(atB b x y).Ok:=by
 unfold atB
 split
 ·rename_i e;have:=(ixB_bd e).2;rw [←h.len] at this;rw [List.getD_eq_getElem?_getD,List.getElem?_eq_getElem this];exact h.px _ (List.getElem_mem _)
 ·refine ⟨?_,?_,?_,?_⟩<;>(unfold Byte Px.zero;dsimp only;omega)
def Sup (b:Bf) (R:Rc):Prop:=∀ x y,atB b x y≠Px.zero→hasR R x y=true
theorem RowP.ok {r:Rc} {Pf:Int→Int→Px→Prop} {l:List Px} (h:RowP r Pf (areaN r) l):BfOk ⟨r,l⟩:=⟨h.1,h.2.1⟩
def cnt (r:Rc) (x y:Int):Nat:=(ixB r x y).toNat
theorem cnt_start (r:Rc):cnt r r.x0 r.y0=0:=by unfold cnt ixB;simp
theorem cnt_row (r:Rc) (y:Int) (h:r.x0<r.x1):cnt r r.x1 y=cnt r r.x0 (y+1):=by
 unfold cnt ixB;rw [show y+1-r.y0=(y-r.y0)+1 by omega,Int.add_mul,Int.one_mul];omega
theorem cnt_next {r:Rc} {x y:Int} (h:hasR r x y=true):cnt r (x+1) y=cnt r x y+1:=by
 have:=(ixB_bd h).1;unfold cnt;have e:ixB r (x+1) y=ixB r x y+1:=by unfold ixB;omega
 rw [e];omega
theorem cnt_end {r:Rc} (h:r.emp=false):cnt r r.x0 r.y1=areaN r:=by
 unfold cnt ixB areaN;rw [h,if_neg (by decide),Int.mul_comm (r.x1-r.x0)]
 simp
end Go.Proofs.YtgodhpampaleeaaGreatDoor
namespace Go.Proofs.YtgodhpampaleeaaGreatDoor
open Go.RowKit Go.Bx Go.Od Go.Hp
attribute [local go_sem ↓] Go.wp_at_zero Go.wp_at_succ
def cutP (n:Int):Int:=max (-4398046511104) (min n 4398046511104)
theorem cutP_pl (n:Int):Pl (cutP n):=by unfold Pl cutP;omega
theorem cut03_c (n:Int) (w:World):Calls Tryz.prog 94 #[Y J n] w (PPost w (Y J (cutP n))):=by
 obtain ⟨m,hm⟩:∃ m,m=min n 4398046511104:=⟨_,rfl⟩;obtain ⟨q,hq⟩:∃ q,q=cutP n:=⟨_,rfl⟩;have H1:Hid (∀ W,Calls Tryz.prog 48 #[Y J n,Y J 4398046511104] W (PPost W (Y J m))):=fun W=>by rw [hm];exact less03_c _ _ W
 have H2:Hid (∀ W,Calls Tryz.prog 47 #[Y J (-4398046511104),Y J m] W (PPost W (Y J q))):=fun W=>by rw [hq];unfold cutP;rw [hm];exact more03_c _ _ W
 rw [←hq];clear hm hq;go_enter Tryz.func94,Tryz.ntmps94;go_wp2_with fail;refine (H1.o _).mono ?_;rintro e W1 ⟨rfl,hb1⟩;go_wp2_with fail;refine (H2.o _).mono ?_;rintro e W2 ⟨rfl,hb2⟩;have HB:Hid (Below w.heap.size w W2):=hb1.trans (hb2.mono hb1.size);clear hb1 hb2;go_wp2_with fail;go_ret;exact ⟨rfl,HB.o⟩
def edgeP (n b:Int):Int:=if n=4398046511104∨n = -4398046511104 then n else cutP (n+b)
theorem edge03_c (n b:Int) (w:World) (hn:Pl n) (hb : -4398046511104≤b∧b≤4398046511104):Calls Tryz.prog 95 #[Y J n,Y J b] w (PPost w (Y J (edgeP n b))):=by
 unfold Pl at hn;by_cases h1:n=4398046511104
 ·subst h1;have HE:Hid (edgeP 4398046511104 b=4398046511104):=if_pos (.inl rfl);clear hn;go_enter Tryz.func95,Tryz.ntmps95;go_wp2_with fail;go_ret;exact ⟨ret_i HE.o.symm,Below.refl _ _⟩
 by_cases h2:n = -4398046511104
 ·subst h2;have HE:Hid (edgeP (-4398046511104) b = -4398046511104):=if_pos (.inr rfl);clear hn h1;go_enter Tryz.func95,Tryz.ntmps95;go_wp2_with fail;go_ret;exact ⟨ret_i HE.o.symm,Below.refl _ _⟩
 have HE:Hid (edgeP n b=cutP (n+b)):=if_neg (by omega);have g1:(n==4398046511104)=false:=by simpa using h1
 have g2:(n == -4398046511104)=false:=by simpa using h2
 have gw:IntKind.i64.wrap (n+b)=n+b:=by unfold IntKind.wrap;simp [IntKind.signed,IntKind.bits];omega
 obtain ⟨s,hs⟩:∃ s,s=n+b:=⟨_,rfl⟩;rw [←hs] at gw HE;obtain ⟨q,hq⟩:∃ q,q=cutP s:=⟨_,rfl⟩;have HC:Hid (∀ W,Calls Tryz.prog 94 #[Y J s] W (PPost W (Y J q))):=fun W=>by rw [hq];exact cut03_c _ W
 rw [←hq] at HE;have gs:n+b=s:=hs.symm;clear hq hs hn hb;go_enter Tryz.func95,Tryz.ntmps95;go_wp2_with fail;refine (HC.o _).mono ?_;rintro e W1 ⟨rfl,hb1⟩;go_wp2_with fail;go_ret;exact ⟨ret_i HE.o.symm,hb1⟩
theorem rmeet_c (a b:Rc) (w:World):Calls Tryz.prog 20 #[rv a,rv b] w (PPost w (rv (meetR a b))):=by
 obtain ⟨x0,y0,x1,y1⟩:=a;obtain ⟨x2,y2,x3,y3⟩:=b;have J0:Hid (J3 w (((w.alloc (.cells (cs4 x0 y0 x1 y1) 25)).alloc (.cells (cs4 x2 y2 x3 y3) 25)).alloc (.cells (cs4 0 0 0 0) 25)) ⟨x0,y0,x1,y1⟩ ⟨x2,y2,x3,y3⟩ ⟨0,0,0,0⟩):=J3.new w ⟨x0,y0,x1,y1⟩ ⟨x2,y2,x3,y3⟩ ⟨0,0,0,0⟩ 25;obtain ⟨q0,e0⟩:∃ q,q=max x0 x2:=⟨_,rfl⟩;obtain ⟨q1,e1⟩:∃ q,q=max y0 y2:=⟨_,rfl⟩;obtain ⟨q2,e2⟩:∃ q,q=min x1 x3:=⟨_,rfl⟩;obtain ⟨q3,e3⟩:∃ q,q=min y1 y3:=⟨_,rfl⟩;obtain ⟨R,hR⟩:∃ R,R=boxR ⟨q0,q1,q2,q3⟩:=⟨_,rfl⟩;have HJ:Hid (meetR ⟨x0,y0,x1,y1⟩ ⟨x2,y2,x3,y3⟩=R):=by
  have:meetR ⟨x0,y0,x1,y1⟩ ⟨x2,y2,x3,y3⟩=R:=by rw [hR,e0,e1,e2,e3];rfl
  exact this
 have HN:Hid (∀ W:World,Calls Tryz.prog 47 #[Y J x0,Y J x2] W (PPost W (Y J q0))∧Calls Tryz.prog 47 #[Y J y0,Y J y2] W (PPost W (Y J q1))∧Calls Tryz.prog 48 #[Y J x1,Y J x3] W (PPost W (Y J q2))∧Calls Tryz.prog 48 #[Y J y1,Y J y3] W (PPost W (Y J q3))∧Calls Tryz.prog 46 #[Y J q0,Y J q1,Y J q2,Y J q3] W (PPost W (rv R))):=fun W=>by
  refine ⟨by rw [e0];exact more03_c _ _ _,by rw [e1];exact more03_c _ _ _,by rw [e2];exact less03_c _ _ _,by rw [e3];exact less03_c _ _ _,?_⟩;rw [hR];exact some03_c q0 q1 q2 q3 W
 clear e0 e1 e2 e3 hR;obtain ⟨r0',r1',r2',r3'⟩:=R;go_enter Tryz.func20,Tryz.ntmps20;go_wp2_with fail;generalize (((w.alloc (.cells (cs4 x0 y0 x1 y1) 25)).alloc (.cells (cs4 x2 y2 x3 y3) 25)).alloc (.cells (cs4 0 0 0 0) 25))=W2 at *;obtain ⟨a0,a1,a2,a3,b0,b1,b2,b3,r0,r1,r2,r3,f0,f1,f2,f3⟩:=J0.out.cells;obtain ⟨k0,k1,k2,k3,k4,k5,k6,k7⟩:=kept8 a0 a1 a2 a3 b0 b1 b2 b3;clear a0 a1 a2 a3 b0 b1 b2 b3 r0 r1 r2 r3 f0 f1 f2 f3;refine wp_region_kept_last W2.heap.size 21 _ rfl rfl (by kernel_rfl) (by kernel_rfl) ?_;simp only [U,V]
 repeat (go_big_quiet_step (first
  |(go_at_call 47;with_reducible exact Calls.kept _ (E _) (HN.o _).1)
  |(go_at_call 47;with_reducible exact Calls.kept _ (E _) (HN.o _).2.1)
  |(go_at_call 48;with_reducible exact Calls.kept _ (E _) (HN.o _).2.2.1)
  |(go_at_call 48;with_reducible exact Calls.kept _ (E _) (HN.o _).2.2.2.1)
  |(go_at_call 46;with_reducible exact Calls.kept _ (E _) (HN.o _).2.2.2.2)))
 refine wpQuiet_nil ?_;intro s;have J5:=I (J0.out.call s.below);obtain ⟨_,_,_,_,_,_,_,_,r0,r1,r2,r3,f0,f1,f2,f3⟩:=J5.out.cells;refine ⟨steps_plain rfl (gives_mono (R:=fun v w'=>v=undef∧w'=(((s.w.setCell ⟨w.heap.size+1+1,0,none⟩ (Y J r0')).setCell ⟨w.heap.size+1+1,1,none⟩ (Y J r1')).setCell ⟨w.heap.size+1+1,2,none⟩ (Y J r2')).setCell ⟨w.heap.size+1+1,3,none⟩ (Y J r3')) ?_ ?_)⟩
 ·simp [gives,go_sem,r0,r1,r2,r3,f0,f1,f2,f3]
 ·rintro _ _ ⟨rfl,rfl⟩;clear k0 k1 k2 k3 k4 k5 k6 k7;go_wp2_with fail;exact ret_rect rfl rfl (set4_box J5.out.2.2.1 _ _ _ _) rfl ⟨by rw [HJ.o],J5.out.set4 _ _ _ _⟩
def move3R (r:Rc) (dx dy:Int):Rc:=if r.emp then Rc.zero else boxR ⟨edgeP r.x0 dx,edgeP r.y0 dy,edgeP r.x1 dx,edgeP r.y1 dy⟩
def grow3R (r:Rc) (a b c d:Int):Rc:=if r.emp then Rc.zero else boxR ⟨cutP (r.x0-a),cutP (r.y0-b),cutP (r.x1+c),cutP (r.y1+d)⟩
theorem wrap_pl {s:Int} (h : -8796093022208≤s∧s≤8796093022208):IntKind.i64.wrap s=s:=by unfold IntKind.wrap;simp [IntKind.signed,IntKind.bits];omega
theorem rmove_c (r:Rc) (dx dy:Int) (w:World) (hr:RcP r) (hx : -4398046511104≤dx∧dx≤4398046511104) (hy : -4398046511104≤dy∧dy≤4398046511104):Calls Tryz.prog 55 #[rv r,Y J dx,Y J dy] w (PPost w (rv (move3R r dx dy))):=by
 obtain ⟨x0,y0,x1,y1⟩:=r;have J0:Hid (J2 w ((w.alloc (.cells (cs4 x0 y0 x1 y1) 25)).alloc (.cells (cs4 0 0 0 0) 25)) ⟨x0,y0,x1,y1⟩):=J2new w ⟨x0,y0,x1,y1⟩ ⟨0,0,0,0⟩ 25;have HR:Hid (Pl x0∧Pl y0∧Pl x1∧Pl y1∧(-4398046511104≤dx∧dx≤4398046511104)∧(-4398046511104≤dy∧dy≤4398046511104)):=⟨hr.1,hr.2.1,hr.2.2.1,hr.2.2.2,hx,hy⟩;clear hr hx hy;go_enter Tryz.func55,Tryz.ntmps55;go_wp2_with fail;generalize ((w.alloc (.cells (cs4 x0 y0 x1 y1) 25)).alloc (.cells (cs4 0 0 0 0) 25))=W0 at *;refine (rempty_c ⟨x0,y0,x1,y1⟩ W0).mono ?_;rintro e W1 ⟨rfl,hb1⟩;have J1:=I (J0.out.call hb1);clear hb1 J0;obtain ⟨a0,a1,a2,a3,r0,r1,r2,r3,f0,f1,f2,f3⟩:=J1.out.cells;cases he:Rc.emp ⟨x0,y0,x1,y1⟩ with
 |true=>
  have HJ:Hid (move3R ⟨x0,y0,x1,y1⟩ dx dy=⟨0,0,0,0⟩):=by
   have:move3R ⟨x0,y0,x1,y1⟩ dx dy=⟨0,0,0,0⟩:=by unfold move3R;rw [he];rfl
   exact this
  clear he;go_wp2_with fail;exact ret_rect rfl rfl (set4_box J1.out.2.1 _ _ _ _) rfl ⟨by rw [HJ.o],J1.out.set4 _ _ _ _⟩
 |false=>
  obtain ⟨m0,e0⟩:∃ q,q=edgeP x0 dx:=⟨_,rfl⟩;obtain ⟨m1,e1⟩:∃ q,q=edgeP y0 dy:=⟨_,rfl⟩;obtain ⟨m2,e2⟩:∃ q,q=edgeP x1 dx:=⟨_,rfl⟩;obtain ⟨m3,e3⟩:∃ q,q=edgeP y1 dy:=⟨_,rfl⟩;obtain ⟨R,hR⟩:∃ R,R=boxR ⟨m0,m1,m2,m3⟩:=⟨_,rfl⟩;have HJ:Hid (move3R ⟨x0,y0,x1,y1⟩ dx dy=R):=by
   have:move3R ⟨x0,y0,x1,y1⟩ dx dy=R:=by
    unfold move3R;rw [he,hR,e0,e1,e2,e3];rfl
   exact this
  have HN:Hid (∀ W:World,Calls Tryz.prog 95 #[Y J x0,Y J dx] W (PPost W (Y J m0))∧Calls Tryz.prog 95 #[Y J y0,Y J dy] W (PPost W (Y J m1))∧Calls Tryz.prog 95 #[Y J x1,Y J dx] W (PPost W (Y J m2))∧Calls Tryz.prog 95 #[Y J y1,Y J dy] W (PPost W (Y J m3))∧Calls Tryz.prog 46 #[Y J m0,Y J m1,Y J m2,Y J m3] W (PPost W (rv R))):=fun W=>by
   refine ⟨by rw [e0];exact edge03_c _ _ W HR.o.1 HR.o.2.2.2.2.1,by rw [e1];exact edge03_c _ _ W HR.o.2.1 HR.o.2.2.2.2.2,by rw [e2];exact edge03_c _ _ W HR.o.2.2.1 HR.o.2.2.2.2.1,by rw [e3];exact edge03_c _ _ W HR.o.2.2.2.1 HR.o.2.2.2.2.2,?_⟩;rw [hR];exact some03_c m0 m1 m2 m3 W
  clear e0 e1 e2 e3 hR he;obtain ⟨q0,q1,q2,q3⟩:=R;obtain ⟨k0,k1,k2,k3⟩:=kept4 a0 a1 a2 a3;clear r0 r1 r2 r3 f0 f1 f2 f3;go_wp2_with fail;clear a0 a1 a2 a3;refine wp_region_kept_last W1.heap.size 17 _ rfl rfl (by kernel_rfl) (by kernel_rfl) ?_;simp only [U,V]
  repeat (go_big_quiet_step (first
   |(go_at_call 95;with_reducible exact Calls.kept _ (E _) (HN.o _).1)
   |(go_at_call 95;with_reducible exact Calls.kept _ (E _) (HN.o _).2.1)
   |(go_at_call 95;with_reducible exact Calls.kept _ (E _) (HN.o _).2.2.1)
   |(go_at_call 95;with_reducible exact Calls.kept _ (E _) (HN.o _).2.2.2.1)
   |(go_at_call 46;with_reducible exact Calls.kept _ (E _) (HN.o _).2.2.2.2)))
  refine wpQuiet_nil ?_;intro s;have J5:=I (J1.out.call s.below);obtain ⟨a0,a1,a2,a3,r0,r1,r2,r3,f0,f1,f2,f3⟩:=J5.out.cells;refine ⟨steps_plain rfl (gives_mono (R:=fun v w'=>v=undef∧w'=(((s.w.setCell ⟨w.heap.size+1,0,none⟩ (Y J q0)).setCell ⟨w.heap.size+1,1,none⟩ (Y J q1)).setCell ⟨w.heap.size+1,2,none⟩ (Y J q2)).setCell ⟨w.heap.size+1,3,none⟩ (Y J q3)) ?_ ?_)⟩
  ·simp [gives,go_sem,r0,r1,r2,r3,f0,f1,f2,f3]
  ·rintro _ _ ⟨rfl,rfl⟩;clear k0 k1 k2 k3;go_wp2_with fail;exact ret_rect rfl rfl (set4_box J5.out.2.1 _ _ _ _) rfl ⟨by rw [HJ.o],J5.out.set4 _ _ _ _⟩
theorem rgrow_c (r:Rc) (a b c d:Int) (w:World) (hr:RcP r) (ha : -4398046511104≤a∧a≤4398046511104) (hb : -4398046511104≤b∧b≤4398046511104) (hc : -4398046511104≤c∧c≤4398046511104) (hd : -4398046511104≤d∧d≤4398046511104):Calls Tryz.prog 54 #[rv r,Y J a,Y J b,Y J c,Y J d] w (PPost w (rv (grow3R r a b c d))):=by
 obtain ⟨x0,y0,x1,y1⟩:=r;have J0:Hid (J2 w ((w.alloc (.cells (cs4 x0 y0 x1 y1) 25)).alloc (.cells (cs4 0 0 0 0) 25)) ⟨x0,y0,x1,y1⟩):=J2new w ⟨x0,y0,x1,y1⟩ ⟨0,0,0,0⟩ 25;obtain ⟨h0,h1,h2,h3⟩:=hr;unfold Pl at h0 h1 h2 h3;dsimp only at h0 h1 h2 h3;have HG0:Hid (IntKind.i64.wrap (x0-a)=x0-a):=wrap_pl (by omega);have HG1:Hid (IntKind.i64.wrap (y0-b)=y0-b):=wrap_pl (by omega);have HG2:Hid (IntKind.i64.wrap (x1+c)=x1+c):=wrap_pl (by omega);have HG3:Hid (IntKind.i64.wrap (y1+d)=y1+d):=wrap_pl (by omega);clear h0 h1 h2 h3 ha hb hc hd;go_enter Tryz.func54,Tryz.ntmps54;go_wp2_with fail;generalize ((w.alloc (.cells (cs4 x0 y0 x1 y1) 25)).alloc (.cells (cs4 0 0 0 0) 25))=W0 at *;refine (rempty_c ⟨x0,y0,x1,y1⟩ W0).mono ?_;rintro e W1 ⟨rfl,hb1⟩;have J1:=I (J0.out.call hb1);clear hb1 J0;obtain ⟨a0,a1,a2,a3,r0,r1,r2,r3,f0,f1,f2,f3⟩:=J1.out.cells;cases he:Rc.emp ⟨x0,y0,x1,y1⟩ with
 |true=>
  have HJ:Hid (grow3R ⟨x0,y0,x1,y1⟩ a b c d=⟨0,0,0,0⟩):=by
   have:grow3R ⟨x0,y0,x1,y1⟩ a b c d=⟨0,0,0,0⟩:=by unfold grow3R;rw [he];rfl
   exact this
  clear he;go_wp2_with fail;exact ret_rect rfl rfl (set4_box J1.out.2.1 _ _ _ _) rfl ⟨by rw [HJ.o],J1.out.set4 _ _ _ _⟩
 |false=>
  obtain ⟨n0,hn0⟩:∃ n,n=x0-a:=⟨_,rfl⟩;have g0:IntKind.i64.wrap (x0-a)=n0:=HG0.o.trans hn0.symm;obtain ⟨n1,hn1⟩:∃ n,n=y0-b:=⟨_,rfl⟩;have g1:IntKind.i64.wrap (y0-b)=n1:=HG1.o.trans hn1.symm;obtain ⟨n2,hn2⟩:∃ n,n=x1+c:=⟨_,rfl⟩;have g2:IntKind.i64.wrap (x1+c)=n2:=HG2.o.trans hn2.symm;obtain ⟨n3,hn3⟩:∃ n,n=y1+d:=⟨_,rfl⟩;have g3:IntKind.i64.wrap (y1+d)=n3:=HG3.o.trans hn3.symm;obtain ⟨m0,e0⟩:∃ q,q=cutP n0:=⟨_,rfl⟩;obtain ⟨m1,e1⟩:∃ q,q=cutP n1:=⟨_,rfl⟩;obtain ⟨m2,e2⟩:∃ q,q=cutP n2:=⟨_,rfl⟩;obtain ⟨m3,e3⟩:∃ q,q=cutP n3:=⟨_,rfl⟩;obtain ⟨R,hR⟩:∃ R,R=boxR ⟨m0,m1,m2,m3⟩:=⟨_,rfl⟩;have HJ:Hid (grow3R ⟨x0,y0,x1,y1⟩ a b c d=R):=by
   have:grow3R ⟨x0,y0,x1,y1⟩ a b c d=R:=by
    unfold grow3R;rw [he,hR,e0,e1,e2,e3,hn0,hn1,hn2,hn3];rfl
   exact this
  have HN:Hid (∀ W:World,Calls Tryz.prog 94 #[Y J n0] W (PPost W (Y J m0))∧Calls Tryz.prog 94 #[Y J n1] W (PPost W (Y J m1))∧Calls Tryz.prog 94 #[Y J n2] W (PPost W (Y J m2))∧Calls Tryz.prog 94 #[Y J n3] W (PPost W (Y J m3))∧Calls Tryz.prog 46 #[Y J m0,Y J m1,Y J m2,Y J m3] W (PPost W (rv R))):=fun W=>by
   refine ⟨by rw [e0];exact cut03_c _ W,by rw [e1];exact cut03_c _ W,by rw [e2];exact cut03_c _ W,by rw [e3];exact cut03_c _ W,?_⟩;rw [hR];exact some03_c m0 m1 m2 m3 W
  clear e0 e1 e2 e3 hR he hn0 hn1 hn2 hn3 HG0 HG1 HG2 HG3;obtain ⟨q0,q1,q2,q3⟩:=R;obtain ⟨k0,k1,k2,k3⟩:=kept4 a0 a1 a2 a3;clear r0 r1 r2 r3 f0 f1 f2 f3;go_wp2_with fail;clear a0 a1 a2 a3;refine wp_region_kept_last W1.heap.size 21 _ rfl rfl (by kernel_rfl) (by kernel_rfl) ?_;simp only [U,V]
  repeat (go_big_quiet_step (first
   |(go_at_call 94;with_reducible exact Calls.kept _ (E _) (HN.o _).1)
   |(go_at_call 94;with_reducible exact Calls.kept _ (E _) (HN.o _).2.1)
   |(go_at_call 94;with_reducible exact Calls.kept _ (E _) (HN.o _).2.2.1)
   |(go_at_call 94;with_reducible exact Calls.kept _ (E _) (HN.o _).2.2.2.1)
   |(go_at_call 46;with_reducible exact Calls.kept _ (E _) (HN.o _).2.2.2.2)))
  refine wpQuiet_nil ?_;intro s;have J5:=I (J1.out.call s.below);obtain ⟨a0,a1,a2,a3,r0,r1,r2,r3,f0,f1,f2,f3⟩:=J5.out.cells;refine ⟨steps_plain rfl (gives_mono (R:=fun v w'=>v=undef∧w'=(((s.w.setCell ⟨w.heap.size+1,0,none⟩ (Y J q0)).setCell ⟨w.heap.size+1,1,none⟩ (Y J q1)).setCell ⟨w.heap.size+1,2,none⟩ (Y J q2)).setCell ⟨w.heap.size+1,3,none⟩ (Y J q3)) ?_ ?_)⟩
  ·simp [gives,go_sem,r0,r1,r2,r3,f0,f1,f2,f3]
  ·rintro _ _ ⟨rfl,rfl⟩;clear k0 k1 k2 k3;go_wp2_with fail;exact ret_rect rfl rfl (set4_box J5.out.2.1 _ _ _ _) rfl ⟨by rw [HJ.o],J5.out.set4 _ _ _ _⟩
def areaR (r:Rc):Int:=if r.emp then 0 else if (2305843009213693952:Int)/(r.y1-r.y0)<r.x1-r.x0 then 2305843009213693952 else (r.x1-r.x0)*(r.y1-r.y0)
theorem emp_ff (r:Rc):r.emp=false↔r.x0<r.x1∧r.y0<r.y1:=by simp [Rc.emp]
theorem area03_c (r:Rc) (w:World) (hr:RcP r):Calls Tryz.prog 26 #[rv r] w (PPost w (Y J (areaR r))):=by
 obtain ⟨x0,y0,x1,y1⟩:=r;have HR:Hid (RcP ⟨x0,y0,x1,y1⟩):=hr;go_enter Tryz.func26,Tryz.ntmps26;have X:=Box.new w (cl4 ⟨x0,y0,x1,y1⟩) 25;have hb1:=below_new w (.cells (cs4 x0 y0 x1 y1) 25);go_wp2_with fail;refine (rempty_c ⟨x0,y0,x1,y1⟩ _).mono ?_;rintro e w2 ⟨rfl,hb2⟩;have H2:Hid (Box w2 w.heap.size (cl4 ⟨x0,y0,x1,y1⟩)∧Below w.heap.size w w2):=⟨X.call hb2,hb1.trans (hb2.mono hb1.size)⟩;clear X hb1 hb2 hr;obtain ⟨e,he⟩:∃ e,e=Rc.emp ⟨x0,y0,x1,y1⟩:=⟨_,rfl⟩;have HEM:Hid (e=Rc.emp ⟨x0,y0,x1,y1⟩):=he;rw [←he];clear he
 cases e with
 |true=>
  have HE:Hid (areaR ⟨x0,y0,x1,y1⟩=0):=by
   have:areaR ⟨x0,y0,x1,y1⟩=0:=by unfold areaR;rw [←HEM.o];rfl
   exact this
  go_wp2_with fail;go_ret;exact ⟨by rw [HE.o];rfl,H2.o.2⟩
 |false=>
  obtain ⟨c0,c1,c2,c3⟩:=box4 H2.o.1;have hem:(Rc.emp ⟨x0,y0,x1,y1⟩)=false:=HEM.o.symm;rw [emp_ff] at hem;obtain ⟨r0,r1,r2,r3⟩:=HR.o;unfold Pl at r0 r1 r2 r3;obtain ⟨k0,k1,k2,k3⟩:=kept4 c0 c1 c2 c3;dsimp only at hem r0 r1 r2 r3;have hw0:0<x1-x0:=by omega
  have hh0:0<y1-y0:=by omega
  have HE0:Hid (areaR ⟨x0,y0,x1,y1⟩=if (2305843009213693952:Int)/(y1-y0)<x1-x0 then 2305843009213693952 else (x1-x0)*(y1-y0)):=by
   have:areaR ⟨x0,y0,x1,y1⟩=if (2305843009213693952:Int)/(y1-y0)<x1-x0 then 2305843009213693952 else (x1-x0)*(y1-y0):=by unfold areaR;rw [←HEM.o];rfl
   exact this
  clear c0 c1 c2 c3;go_wp2_with fail;refine wp_region_kept w2.heap.size (by kernel_rfl) (by kernel_rfl) ?_
  repeat (go_big_quiet_step (fail))
  refine wpQuiet_nil ?_;rintro _ ⟨s,rfl⟩;have HB:Hid (Below w.heap.size w s.w):=H2.o.2.trans (s.below.mono H2.o.2.size);have s0:=k0 s;have s1:=k1 s;have s2:=k2 s;have s3:=k3 s;clear k0 k1 k2 k3;by_cases hc:(2305843009213693952:Int)/(y1-y0)<x1-x0
  ·have HE:Hid (areaR ⟨x0,y0,x1,y1⟩=2305843009213693952):=HE0.o.trans (if_pos hc);go_wp2_with fail;go_ret;exact ⟨by rw [HE.o];rfl,HB.o⟩
  ·have hm:(x1-x0)*(y1-y0)≤2305843009213693952:=Int.mul_le_of_le_ediv hh0 (by omega);have hp:0<(x1-x0)*(y1-y0):=Int.mul_pos hw0 hh0;have HE:Hid (wrap64 ((x1-x0)*(y1-y0))=areaR ⟨x0,y0,x1,y1⟩):=by
    have:wrap64 ((x1-x0)*(y1-y0))=areaR ⟨x0,y0,x1,y1⟩:=by
     rw [HE0.o,if_neg hc];generalize (x1-x0)*(y1-y0)=q at *;unfold wrap64;omega
    exact this
   clear hm hp;go_wp2_with fail;go_ret;exact ⟨by rw [←HE.o];rfl,HB.o⟩
theorem grow3R_pl (r:Rc) (a b c d:Int):RcP (grow3R r a b c d):=by
 unfold grow3R
 split
 ·refine ⟨?_,?_,?_,?_⟩<;>(unfold Pl Rc.zero;dsimp only;omega)
 ·exact boxR_pl ⟨cutP_pl _,cutP_pl _,cutP_pl _,cutP_pl _⟩
def HfB (r:Rc):Prop:=(-33554432≤r.x0∧r.x0≤33554432)∧(-33554432≤r.y0∧r.y0≤33554432)∧(-33554432≤r.x1∧r.x1≤33554432)∧(-33554432≤r.y1∧r.y1≤33554432)
instance (r:Rc):Decidable (HfB r):=by unfold HfB;infer_instance
def fineB (r:Rc) (m:Int):Bool:=if HfB r then decide (areaR (grow3R r 0 0 0 0)≤m) else false
theorem fine08_c (r:Rc) (m:Int) (w:World):Calls Tryz.prog 25 #[rv r,Y J 0,Y J 0,Y J m] w (PPost w (.bool (fineB r m))):=by
 obtain ⟨x0,y0,x1,y1⟩:=r;obtain ⟨F,hF⟩:∃ F,F=fineB ⟨x0,y0,x1,y1⟩ m:=⟨_,rfl⟩;have HNF:Hid (¬HfB ⟨x0,y0,x1,y1⟩→F=false):=by
  have:¬HfB ⟨x0,y0,x1,y1⟩→F=false:=fun h=>by rw [hF];unfold fineB;rw [if_neg h]
  exact this
 have HYF:Hid (HfB ⟨x0,y0,x1,y1⟩→F=decide (areaR (grow3R ⟨x0,y0,x1,y1⟩ 0 0 0 0)≤m)):=by
  have:HfB ⟨x0,y0,x1,y1⟩→F=decide (areaR (grow3R ⟨x0,y0,x1,y1⟩ 0 0 0 0)≤m):=fun h=>by rw [hF];unfold fineB;rw [if_pos h]
  exact this
 rw [←hF];clear hF;have X:Hid (Box (w.alloc (.cells (cs4 x0 y0 x1 y1) 25)) w.heap.size (cl4 ⟨x0,y0,x1,y1⟩)∧Below w.heap.size w (w.alloc (.cells (cs4 x0 y0 x1 y1) 25))):=⟨Box.new w _ _,below_new w _⟩;by_cases t0:x0 < -33554432
 ·have HE:Hid (F=false):=HNF.o (by unfold HfB;dsimp only;omega);have d0:decide (x0 < -33554432)=true:=decide_eq_true t0;clear t0;go_enter Tryz.func25,Tryz.ntmps25;go_wp2_with fail;go_ret;exact ⟨ret_b HE.o.symm,X.out.2⟩
 have d0:decide (x0 < -33554432)=false:=decide_eq_false t0;by_cases t1:y0 < -33554432
 ·have HE:Hid (F=false):=HNF.o (by unfold HfB;dsimp only;omega);have d1:decide (y0 < -33554432)=true:=decide_eq_true t1;clear t0 t1;go_enter Tryz.func25,Tryz.ntmps25;go_wp2_with fail;go_ret;exact ⟨ret_b HE.o.symm,X.out.2⟩
 have d1:decide (y0 < -33554432)=false:=decide_eq_false t1;by_cases t2:33554432<x1
 ·have HE:Hid (F=false):=HNF.o (by unfold HfB;dsimp only;omega);have d2:decide (33554432<x1)=true:=decide_eq_true t2;clear t0 t1 t2;go_enter Tryz.func25,Tryz.ntmps25;go_wp2_with fail;go_ret;exact ⟨ret_b HE.o.symm,X.out.2⟩
 have d2:decide (33554432<x1)=false:=decide_eq_false t2;by_cases t3:33554432<y1
 ·have HE:Hid (F=false):=HNF.o (by unfold HfB;dsimp only;omega);have d3:decide (33554432<y1)=true:=decide_eq_true t3;clear t0 t1 t2 t3;go_enter Tryz.func25,Tryz.ntmps25;go_wp2_with fail;go_ret;exact ⟨ret_b HE.o.symm,X.out.2⟩
 have d3:decide (33554432<y1)=false:=decide_eq_false t3;by_cases t4:x1 < -33554432
 ·have HE:Hid (F=false):=HNF.o (by unfold HfB;dsimp only;omega);have d4:decide (x1 < -33554432)=true:=decide_eq_true t4;clear t0 t1 t2 t3 t4;go_enter Tryz.func25,Tryz.ntmps25;go_wp2_with fail;go_ret;exact ⟨ret_b HE.o.symm,X.out.2⟩
 have d4:decide (x1 < -33554432)=false:=decide_eq_false t4;by_cases t5:y1 < -33554432
 ·have HE:Hid (F=false):=HNF.o (by unfold HfB;dsimp only;omega);have d5:decide (y1 < -33554432)=true:=decide_eq_true t5;clear t0 t1 t2 t3 t4 t5;go_enter Tryz.func25,Tryz.ntmps25;go_wp2_with fail;go_ret;exact ⟨ret_b HE.o.symm,X.out.2⟩
 have d5:decide (y1 < -33554432)=false:=decide_eq_false t5;by_cases t6:33554432<x0
 ·have HE:Hid (F=false):=HNF.o (by unfold HfB;dsimp only;omega);have d6:decide (33554432<x0)=true:=decide_eq_true t6;clear t0 t1 t2 t3 t4 t5 t6;go_enter Tryz.func25,Tryz.ntmps25;go_wp2_with fail;go_ret;exact ⟨ret_b HE.o.symm,X.out.2⟩
 have d6:decide (33554432<x0)=false:=decide_eq_false t6;by_cases t7:33554432<y0
 ·have HE:Hid (F=false):=HNF.o (by unfold HfB;dsimp only;omega);have d7:decide (33554432<y0)=true:=decide_eq_true t7;clear t0 t1 t2 t3 t4 t5 t6 t7;go_enter Tryz.func25,Tryz.ntmps25;go_wp2_with fail;go_ret;exact ⟨ret_b HE.o.symm,X.out.2⟩
 have d7:decide (33554432<y0)=false:=decide_eq_false t7;have hH:HfB ⟨x0,y0,x1,y1⟩:=by unfold HfB;dsimp only;omega
 have hP:RcP ⟨x0,y0,x1,y1⟩:=by refine ⟨?_,?_,?_,?_⟩<;>(unfold Pl;dsimp only;omega)
 obtain ⟨R,hR⟩:∃ R,R=grow3R ⟨x0,y0,x1,y1⟩ 0 0 0 0:=⟨_,rfl⟩;obtain ⟨A,hA⟩:∃ A,A=areaR R:=⟨_,rfl⟩;have HE:Hid (F=decide (A≤m)):=by
  have:F=decide (A≤m):=by rw [HYF.o hH,hA,hR]
  exact this
 have HG:Hid (∀ W,Calls Tryz.prog 54 #[.agg #[Y J x0,Y J y0,Y J x1,Y J y1],Y J 0,Y J 0,Y J 0,Y J 0] W (PPost W (rv R))):=fun W=>by
  rw [hR];exact rgrow_c ⟨x0,y0,x1,y1⟩ 0 0 0 0 W hP (by omega) (by omega) (by omega) (by omega)
 have HA:Hid (∀ W,Calls Tryz.prog 26 #[rv R] W (PPost W (Y J A))):=fun W=>by
  rw [hA];exact area03_c R W (by rw [hR];exact grow3R_pl _ _ _ _ _)
 clear t0 t1 t2 t3 t4 t5 t6 t7 hH hP hR hA HNF HYF;go_enter Tryz.func25,Tryz.ntmps25;go_wp2_with fail;refine (HG.o _).mono ?_;rintro e W1 ⟨rfl,hb1⟩;go_wp2_with fail;refine (HA.o _).mono ?_;rintro e W2 ⟨rfl,hb2⟩;have HB:Hid (Below w.heap.size w W2):=X.out.2.trans ((hb1.trans (hb2.mono hb1.size)).mono X.out.2.size);clear hb1 hb2 HG HA;go_wp2_with fail;go_ret;exact ⟨ret_b HE.o.symm,HB.o⟩
theorem cut01_c (n:Int) (w:World):Calls Tryz.prog 101 #[Y J n] w (PPost w (Y Z (cutU n))):=by
 by_cases h0:n<0
 ·have HE:Hid (cutU n=0):=by
   have:cutU n=0:=by unfold cutU;omega
   exact this
  go_enter Tryz.func101,Tryz.ntmps101;go_wp2_with fail;go_ret;exact ⟨ret_u HE.o.symm,Below.refl _ _⟩
 by_cases h1:255<n
 ·have HE:Hid (cutU n=255):=by
   have:cutU n=255:=by unfold cutU;omega
   exact this
  go_enter Tryz.func101,Tryz.ntmps101;go_wp2_with fail;go_ret;exact ⟨ret_u HE.o.symm,Below.refl _ _⟩
 have HE:Hid (cutU n=n):=by
  have:cutU n=n:=by unfold cutU;omega
  exact this
 have h2:0≤n:=by omega
 have h3:n≤255:=by omega
 go_enter Tryz.func101,Tryz.ntmps101;go_wp2_with fail;go_ret;exact ⟨ret_u HE.o.symm,Below.refl _ _⟩
theorem mul01_c (a b:Int) (w:World) (ha:Byte a) (hb:Byte b):Calls Tryz.prog 103 #[Y Z a,Y Z b] w (PPost w (Y Z (mulU a b))):=by
 have hm:=mul_le ha hb;obtain ⟨n,hn⟩:∃ n,n=a*b:=⟨_,rfl⟩;have HA:Hid (mulU a b=(n+127)/255):=by
  have:mulU a b=(n+127)/255:=by rw [hn];rfl
  exact this
 have gn:a*b=n:=hn.symm;rw [gn] at hm;clear hn;obtain ⟨a0,a1⟩:=ha;obtain ⟨b0,b1⟩:=hb;obtain ⟨h1,h2⟩:=hm;by_cases h:255<2*(n-255*(n/255))
 ·have HE:Hid ((n+127)/255=n/255+1):=by
   have:(n+127)/255=n/255+1:=by omega
   exact this
  go_enter Tryz.func103,Tryz.ntmps103;go_wp2_with fail;go_ret;exact ⟨ret_u (HA.o.trans HE.o).symm,Below.refl _ _⟩
 ·have HE:Hid ((n+127)/255=n/255):=by
   have:(n+127)/255=n/255:=by omega
   exact this
  go_enter Tryz.func103,Tryz.ntmps103;go_wp2_with fail;go_ret;exact ⟨ret_u (HA.o.trans HE.o).symm,Below.refl _ _⟩
theorem by06_c (a b:Int) (w:World) (ha:Byte a) (hb:Byte b):Calls Tryz.prog 100 #[Y Z a,Y Z b] w (PPost w (Y J (mulU a b))):=by
 have HM:Hid (∀ W,Calls Tryz.prog 103 #[Y Z a,Y Z b] W (PPost W (Y Z (mulU a b)))):=fun W=>mul01_c a b W ha hb;have hy:=mulU_byte ha hb;generalize mulU a b=m at *;obtain ⟨m0,m1⟩:=hy;clear ha hb;go_enter Tryz.func100,Tryz.ntmps100;go_wp2_with fail;refine (HM.o _).mono ?_;rintro e W1 ⟨rfl,hb1⟩;have HB:Hid (Below w.heap.size w W1):=hb1;clear hb1;go_wp2_with fail;go_ret;exact ⟨rfl,HB.o⟩
theorem less06_c (a b:Int) (w:World):Calls Tryz.prog 102 #[Y J a,Y J b] w (PPost w (Y J (min a b))):=by
 by_cases h:a<b
 ·have HE:Hid (min a b=a):=by
   have:min a b=a:=by omega
   exact this
  go_enter Tryz.func102,Tryz.ntmps102;go_wp2_with fail;go_ret;exact ⟨ret_i HE.o.symm,Below.refl _ _⟩
 ·have HE:Hid (min a b=b):=by
   have:min a b=b:=by omega
   exact this
  go_enter Tryz.func102,Tryz.ntmps102;go_wp2_with fail;go_ret;exact ⟨ret_i HE.o.symm,Below.refl _ _⟩
theorem down07_c (n:Int) (w:World) (hn : -9000000000≤n∧n≤9000000000):Calls Tryz.prog 131 #[Y J n] w (PPost w (Y J (n/256))):=by
 obtain ⟨n0,n1⟩:=hn;obtain ⟨q,hq⟩:∃ q,q=n.tdiv 256:=⟨_,rfl⟩;have hb:(0≤n→q*256≤n∧n<q*256+256)∧(n<0→n≤q*256∧q*256<n+256):=by
  rw [hq];refine ⟨fun h=>?_,fun h=>?_⟩
  ·rw [Int.tdiv_eq_ediv_of_nonneg h];omega
  ·have e:n.tdiv 256 = -((-n)/256):=by
    rw [show n = -(-n) by omega,Int.neg_tdiv,Int.neg_neg,Int.tdiv_eq_ediv_of_nonneg (by omega)]
   rw [e];omega
 have gq:n.tdiv 256=q:=hq.symm;clear hq;by_cases h:n<q*256
 ·have HE:Hid (n/256=q-1):=by
   have:n/256=q-1:=by omega
   exact this
  have gw:IntKind.i64.wrap (q*256)=q*256:=by unfold IntKind.wrap;simp [IntKind.signed,IntKind.bits];omega
  have gv:IntKind.i64.wrap (q-1)=q-1:=by unfold IntKind.wrap;simp [IntKind.signed,IntKind.bits];omega
  go_enter Tryz.func131,Tryz.ntmps131;go_wp2_with fail;go_ret;exact ⟨ret_i HE.o.symm,Below.refl _ _⟩
 ·have HE:Hid (n/256=q):=by
   have:n/256=q:=by omega
   exact this
  have gw:IntKind.i64.wrap (q*256)=q*256:=by unfold IntKind.wrap;simp [IntKind.signed,IntKind.bits];omega
  go_enter Tryz.func131,Tryz.ntmps131;go_wp2_with fail;go_ret;exact ⟨ret_i HE.o.symm,Below.refl _ _⟩
def divU (c a:Int):Int:=if a=0 then 0 else min 255 (255*c/a+if a≤2*(255*c-a*(255*c/a)) then 1 else 0)
theorem div_parts {n a:Int} (hn:0≤n) (ha:0<a):0≤n/a∧n/a≤n∧0≤a*(n/a)∧a*(n/a)≤n∧n<a*(n/a)+a:=by
 have h1:=Int.mul_ediv_add_emod n a;have h2:=Int.emod_nonneg n (by omega:a≠0);have h3:=Int.emod_lt_of_pos n ha;have h4:=Int.ediv_nonneg hn (by omega:0≤a);have h5:n/a≤n:=Int.ediv_le_self a hn;have h6:=Int.mul_nonneg (by omega:0≤a) h4;omega
theorem divU_byte {c a:Int} (hc:Byte c) (ha:Byte a):Byte (divU c a):=by
 obtain ⟨c0,c1⟩:=hc;obtain ⟨a0,a1⟩:=ha;unfold divU
 split
 ·unfold Byte;omega
 ·have:=(div_parts (n:=255*c) (a:=a) (by omega) (by omega)).1;unfold Byte
  split<;>omega
theorem div01_c (c a:Int) (w:World) (hc:Byte c) (ha:Byte a):Calls Tryz.prog 136 #[Y Z c,Y Z a] w (PPost w (Y Z (divU c a))):=by
 obtain ⟨c0,c1⟩:=hc;obtain ⟨a0,a1⟩:=ha;by_cases hz:a=0
 ·subst hz;have HE:Hid (divU c 0=0):=if_pos rfl;go_enter Tryz.func136,Tryz.ntmps136;go_wp2_with fail;go_ret;exact ⟨ret_u HE.o.symm,Below.refl _ _⟩
 obtain ⟨n,hn⟩:∃ n,n=255*c:=⟨_,rfl⟩;have hp:=div_parts (n:=n) (a:=a) (by omega) (by omega);obtain ⟨q,hq⟩:∃ q,q=n/a:=⟨_,rfl⟩;obtain ⟨t,ht⟩:∃ t,t=a*q:=⟨_,rfl⟩;have HD:Hid (divU c a=min 255 (q+if a≤2*(n-t) then 1 else 0)):=by
  have:divU c a=min 255 (q+if a≤2*(n-t) then 1 else 0):=by unfold divU;rw [if_neg hz,←hn,←hq,←ht]
  exact this
 rw [←hq] at hp;rw [←ht] at hp;have gn:255*c=n:=hn.symm;have gq:n.tdiv a=q:=by rw [hq];exact Int.tdiv_eq_ediv_of_nonneg (by omega)
 have gq2:n/a=q:=hq.symm;have gt:a*q=t:=ht.symm;have gz:(a==0)=false:=by simpa using hz
 obtain ⟨p0,p1,p2,p3,p4⟩:=hp;have hnb:n≤65025:=by omega
 have h0n:0≤n:=by omega
 clear hn hq ht;by_cases h1:a≤2*(n-t)
 ·by_cases h2:255<q+1
  ·have HE:Hid (divU c a=255):=by
    have:divU c a=255:=by rw [HD.o];split<;>omega
    exact this
   go_enter Tryz.func136,Tryz.ntmps136;go_wp2_with fail;go_ret;exact ⟨ret_u HE.o.symm,Below.refl _ _⟩
  have h3:q+1≤255:=by omega
  have HE:Hid (divU c a=q+1):=by
   have:divU c a=q+1:=by rw [HD.o];split<;>omega
   exact this
  go_enter Tryz.func136,Tryz.ntmps136;go_wp2_with fail;go_ret;exact ⟨ret_u HE.o.symm,Below.refl _ _⟩
 ·by_cases h2:255<q
  ·have HE:Hid (divU c a=255):=by
    have:divU c a=255:=by rw [HD.o];split<;>omega
    exact this
   go_enter Tryz.func136,Tryz.ntmps136;go_wp2_with fail;go_ret;exact ⟨ret_u HE.o.symm,Below.refl _ _⟩
  have h3:q≤255:=by omega
  have HE:Hid (divU c a=q):=by
   have:divU c a=q:=by rw [HD.o];split<;>omega
   exact this
  go_enter Tryz.func136,Tryz.ntmps136;go_wp2_with fail;go_ret;exact ⟨ret_u HE.o.symm,Below.refl _ _⟩
def nearU (s n:Int):Int:=s/n+if n<2*(s-s/n*n) then 1 else 0
theorem nearU_byte {s n:Int} (hn:0<n) (hs:0≤s∧s≤255*n):Byte (nearU s n):=by
 obtain ⟨p0,p1,p2,p3,p4⟩:=div_parts (n:=s) (a:=n) hs.1 hn;have hq:s/n≤255:=by
  have:=Int.ediv_le_ediv hn hs.2;rwa [Int.mul_ediv_cancel _ (by omega)] at this
 unfold nearU Byte;rw [Int.mul_comm (s/n) n]
 split
 ·rename_i h;by_cases e:s/n=255
  ·rw [e] at h p3 p4;omega
  ·omega
 ·omega
theorem nearU_zero (n:Int) (hn:0<n):nearU 0 n=0:=by
 unfold nearU;rw [Int.zero_ediv,Int.zero_mul,if_neg (by omega)];rfl
theorem near08_c (s n:Int) (w:World) (hn:0<n∧n≤1000) (hs:0≤s∧s≤255*n):Calls Tryz.prog 129 #[Y J s,Y J n] w (PPost w (Y Z (nearU s n))):=by
 obtain ⟨y0,y1⟩:=nearU_byte hn.1 hs;have hp:=div_parts (n:=s) (a:=n) hs.1 hn.1;obtain ⟨q,hq⟩:∃ q,q=s/n:=⟨_,rfl⟩;obtain ⟨t,ht⟩:∃ t,t=q*n:=⟨_,rfl⟩;have HD:Hid (nearU s n=q+if n<2*(s-t) then 1 else 0):=by
  have:nearU s n=q+if n<2*(s-t) then 1 else 0:=by unfold nearU;rw [←hq,←ht]
  exact this
 rw [HD.o] at y0 y1;rw [←hq,Int.mul_comm n q,←ht] at hp;have gq:s.tdiv n=q:=by rw [hq];exact Int.tdiv_eq_ediv_of_nonneg hs.1
 have gq2:s/n=q:=hq.symm;have gt:q*n=t:=ht.symm;have gz:(n==0)=false:=by simp;omega
 obtain ⟨p0,p1,p2,p3,p4⟩:=hp;obtain ⟨n0,n1⟩:=hn;obtain ⟨s0,s1⟩:=hs;clear hq ht;by_cases h1:n<2*(s-t)
 ·have HE:Hid (nearU s n=q+1):=by
   have:nearU s n=q+1:=by rw [HD.o,if_pos h1]
   exact this
  rw [if_pos h1] at y0 y1;go_enter Tryz.func129,Tryz.ntmps129;go_wp2_with fail;go_ret;exact ⟨ret_u HE.o.symm,Below.refl _ _⟩
 ·have HE:Hid (nearU s n=q):=by
   have:nearU s n=q:=by rw [HD.o,if_neg h1];omega
   exact this
  rw [if_neg h1] at y0 y1;have y2:q≤255:=by omega
  go_enter Tryz.func129,Tryz.ntmps129;go_wp2_with fail;go_ret;exact ⟨ret_u HE.o.symm,Below.refl _ _⟩
def sclP (p:Px) (o:Int):Px:=⟨mulU p.r o,mulU p.g o,mulU p.b o,mulU p.a o⟩
theorem sclP_ok {p:Px} {o:Int} (hp:p.Ok) (ho:Byte o):(sclP p o).Ok:=⟨mulU_byte hp.1 ho,mulU_byte hp.2.1 ho,mulU_byte hp.2.2.1 ho,mulU_byte hp.2.2.2 ho⟩
theorem sclP_zero (o:Int):sclP Px.zero o=Px.zero:=by simp [sclP,Px.zero,mulU]
theorem sclP_none (p:Px):sclP p 0=Px.zero:=by simp [sclP,Px.zero,mulU]
theorem scale_c (p:Px) (o:Int) (w:World) (hp:p.Ok) (ho:Byte o):Calls Tryz.prog 61 #[pxv p,Y Z o] w (PPost w (pxv (sclP p o))):=by
 have H0:Hid (Bag w ((w.alloc (.cells #[Y Z p.r,Y Z p.g,Y Z p.b,Y Z p.a] 27)).alloc (.cells #[Y Z 0,Y Z 0,Y Z 0,Y Z 0] 27)) [(w.heap.size,(qU p.r p.g p.b p.a)),(w.heap.size+1,zU)]):=bag2 w (qU p.r p.g p.b p.a) zU _ _;obtain ⟨q,hq⟩:∃ q,q=sclP p o:=⟨_,rfl⟩;have HN:Hid (∀ W,Calls Tryz.prog 103 #[Y Z p.r,Y Z o] W (PPost W (Y Z q.r))∧Calls Tryz.prog 103 #[Y Z p.g,Y Z o] W (PPost W (Y Z q.g))∧Calls Tryz.prog 103 #[Y Z p.b,Y Z o] W (PPost W (Y Z q.b))∧Calls Tryz.prog 103 #[Y Z p.a,Y Z o] W (PPost W (Y Z q.a))):=fun W=>by
  rw [hq];exact ⟨mul01_c _ _ W hp.1 ho,mul01_c _ _ W hp.2.1 ho,mul01_c _ _ W hp.2.2.1 ho,mul01_c _ _ W hp.2.2.2 ho⟩
 rw [←hq];clear hq hp ho;go_enter Tryz.func61,Tryz.ntmps61;go_wp2_with fail;generalize ((w.alloc (.cells #[Y Z p.r,Y Z p.g,Y Z p.b,Y Z p.a] 27)).alloc (.cells #[Y Z 0,Y Z 0,Y Z 0,Y Z 0] 27))=W0 at *;obtain ⟨a0,a1,a2,a3⟩:=(H0.o.box 0 rfl).c4;obtain ⟨k0,k1,k2,k3⟩:=kept4 a0 a1 a2 a3;clear a0 a1 a2 a3;refine wp_region_kept_last W0.heap.size 17 _ rfl rfl (by kernel_rfl) (by kernel_rfl) ?_;simp only [U,V]
 repeat (go_big_quiet_step (first
  |(go_at_call 103;with_reducible exact Calls.kept _ (E _) (HN.o _).1)
  |(go_at_call 103;with_reducible exact Calls.kept _ (E _) (HN.o _).2.1)
  |(go_at_call 103;with_reducible exact Calls.kept _ (E _) (HN.o _).2.2.1)
  |(go_at_call 103;with_reducible exact Calls.kept _ (E _) (HN.o _).2.2.2)))
 refine wpQuiet_nil ?_;intro s;have H5:=I (H0.o.call s.below);obtain ⟨r0,r1,r2,r3⟩:=(H5.o.box 1 rfl).c4;obtain ⟨f0,f1,f2,f3⟩:=(H5.o.box 1 rfl).f4;refine ⟨steps_plain rfl (gives_mono (R:=fun v w'=>v=undef∧w'=(((s.w.setCell ⟨w.heap.size+1,0,none⟩ (Y Z q.r)).setCell ⟨w.heap.size+1,1,none⟩ (Y Z q.g)).setCell ⟨w.heap.size+1,2,none⟩ (Y Z q.b)).setCell ⟨w.heap.size+1,3,none⟩ (Y Z q.a)) ?_ ?_)⟩
 ·simp [gives,go_sem,r0,r1,r2,r3,f0,f1,f2,f3]
 ·rintro _ _ ⟨rfl,rfl⟩;have H7:=I (H5.o.set4 1 rfl (Y Z q.r) (Y Z q.g) (Y Z q.b) (Y Z q.a));clear k0 k1 k2 k3 r0 r1 r2 r3 f0 f1 f2 f3;go_wp2_with fail;exact ret_px rfl rfl (H7.o.box 1 rfl) rfl ⟨rfl,H7.o.below⟩
end Go.Proofs.YtgodhpampaleeaaGreatDoor
