/- Texts joined: Qq Qs Qt Qu Qv Qw. -/
import Derived.Test.YtgodhpampaleeaaGreatDoorM13
import Derived.Test.YtgodhpampaleeaaGreatDoorM10
import Derived.Test.YtgodhpampaleeaaGreatDoorM02
open Go.Value renaming int→Y,slice→Z
open Go.IntKind renaming i64→X,u8→J
open List renaming take_succ_cons→O,take_zero→U,drop_succ_cons→V,drop_zero→E
open Nat renaming le_refl→I
open Go.Lib renaming hid→Q
set_option maxRecDepth 8000
set_option maxHeartbeats 6400000
set_option linter.unusedVariables false
namespace Go.Proofs.YtgodhpampaleeaaGreatDoor
open Go.RowKit Go.Bx Go.Od Go.Hp
attribute [local go_sem ↓] Go.wp_at_zero Go.wp_at_succ
theorem pixR_ok {c:Ct} (h:CtOk c) (hp:∀ p∈c.pix,p.Ok) (x y:Int):(pixR c x y).Ok:=by
 have hz:Px.zero.Ok:=by refine ⟨?_,?_,?_,?_⟩<;>(unfold Byte Px.zero;dsimp only;omega)
 unfold pixR
 split
 ·split
  ·exact h.px
  ·exact hz
 ·split
  ·dsimp only
   split
   ·exact hz
   ·rw [List.getD_eq_getElem?_getD]
    cases e:c.pix[(Vc.fy (Vc.qn c.turn) c.w c.h (x-c.box.x0) (y-c.box.y0)*c.w+Vc.fx (Vc.qn c.turn) c.w c.h (x-c.box.x0) (y-c.box.y0)).toNat]? with
    |none=>exact hz
    |some p=>exact hp p (List.mem_of_getElem? e)
  ·exact hz
theorem show24_c (D:Nat) (ct:Ct) (v:Value) (r:Rc) (w:World) (hc:CtOk ct) (hv:SlOf RPx 4 (·<D) w v ct.pix) (hD:D≤w.heap.size) (hr:RcP r) (ha:areaR r≤2000000) (hr2:HfB r):Calls Tryz.prog 33 #[ctv ct v,rv r] w (BPost w (MadeB r (fun x y p=>p=pixR ct x y))):=by
 obtain ⟨tx0,ty0,tx1,ty1⟩:=r;obtain ⟨⟨f0,f1⟩,⟨f2,f3⟩,⟨f4,f5⟩,f6,f7⟩:=hr2;dsimp only at f0 f1 f2 f3 f4 f5 f6 f7;obtain ⟨va,vn,vm,rfl⟩:=sl_form hv;have hpx:∀ p∈ct.pix,p.Ok:=fun p hp=>by
  obtain ⟨i,hi⟩:=List.getElem?_of_mem hp;obtain ⟨_,_,_,_,_,h3⟩:=hv
  rcases h3 with h3|⟨_,_,_,_,h5⟩
  ·rw [h3] at hp;cases hp
  ·obtain ⟨_,_,_,he⟩:=h5 i p hi;exact he.2
 have HPO:Hid (∀ x y,(pixR ct x y).Ok):=fun x y=>pixR_ok hc hpx x y;have HV:Hid (∀ W,Below w.heap.size w W→∀ x y,(-1000000000≤x∧x≤1000000000)→(-1000000000≤y∧y≤1000000000)→Calls Tryz.prog 59 #[ctv ct (Z va vn vm),Y X x,Y X y] W (PPost W (pxv (pixR ct x y)))):=fun W h x y h1 h2=>rpixel_c D ct _ x y W hc (hv.same RPx.ok (Same.of_below h fun b (hb:b<D)=>Nat.lt_of_lt_of_le hb hD)) (Nat.le_trans hD h.size) h1 h2;obtain ⟨kind,hk1⟩:∃ q,q=ct.kind:=⟨_,rfl⟩;obtain ⟨bx0,hk2⟩:∃ q,q=ct.box.x0:=⟨_,rfl⟩;obtain ⟨by0,hk3⟩:∃ q,q=ct.box.y0:=⟨_,rfl⟩;obtain ⟨bx1,hk4⟩:∃ q,q=ct.box.x1:=⟨_,rfl⟩;obtain ⟨by1,hk5⟩:∃ q,q=ct.box.y1:=⟨_,rfl⟩;obtain ⟨p0,hk6⟩:∃ q,q=ct.px.r:=⟨_,rfl⟩;obtain ⟨p1,hk7⟩:∃ q,q=ct.px.g:=⟨_,rfl⟩;obtain ⟨p2,hk8⟩:∃ q,q=ct.px.b:=⟨_,rfl⟩;obtain ⟨p3,hk9⟩:∃ q,q=ct.px.a:=⟨_,rfl⟩;obtain ⟨cw,hk10⟩:∃ q,q=ct.w:=⟨_,rfl⟩;obtain ⟨ch,hk11⟩:∃ q,q=ct.h:=⟨_,rfl⟩;obtain ⟨turn,hk12⟩:∃ q,q=ct.turn:=⟨_,rfl⟩;unfold ctv at HV ⊢;rw [←hk1,←hk2,←hk3,←hk4,←hk5,←hk6,←hk7,←hk8,←hk9,←hk10,←hk11,←hk12] at HV;rw [←hk1,←hk2,←hk3,←hk4,←hk5,←hk6,←hk7,←hk8,←hk9,←hk10,←hk11,←hk12];clear hk1 hk2 hk3 hk4 hk5 hk6 hk7 hk8 hk9 hk10 hk11 hk12 hpx;obtain ⟨Pf,hPf⟩:∃ Pf:Int→Int→Px→Prop,Pf=(fun x y p=>p=pixR ct x y):=⟨_,rfl⟩;have HPF:=Q hPf;rw [←hPf];have H0:Hid (Bag w ((((w.alloc (.cells #[Y X kind,Y X bx0,Y X by0,Y X bx1,Y X by1,Y J p0,Y J p1,Y J p2,Y J p3,Y X cw,Y X ch,Y X turn,Z va vn vm] 30)).alloc (.cells #[Y X tx0,Y X ty0,Y X tx1,Y X ty1] 25)).alloc (.cells #[Y X 0,Y X 0,Y X 0,Y X 0,Z none 0 0] 43)).alloc (.cells #[Y X 0,Y X 0,Y X 0,Y X 0,Z none 0 0] 43)) [(w.heap.size,[Y X kind,Y X bx0,Y X by0,Y X bx1,Y X by1,Y J p0,Y J p1,Y J p2,Y J p3,Y X cw,Y X ch,Y X turn,Z va vn vm]),(w.heap.size+1,(qI tx0 ty0 tx1 ty1)),(w.heap.size+1+1,zS),(w.heap.size+1+1+1,zS)]):=bag4 w [Y X kind,Y X bx0,Y X by0,Y X bx1,Y X by1,Y J p0,Y J p1,Y J p2,Y J p3,Y X cw,Y X ch,Y X turn,Z va vn vm] (qI tx0 ty0 tx1 ty1) zS zS _ _ _ _;obtain ⟨em,hem⟩:∃ e,e=Rc.emp ⟨tx0,ty0,tx1,ty1⟩:=⟨_,rfl⟩;have HEM:Hid (∀ W,Calls Tryz.prog 19 #[rv ⟨tx0,ty0,tx1,ty1⟩] W (PPost W (.bool em))):=fun W=>by rw [hem];exact rempty_c _ W
 have HE:=Q hem;have HBX:Hid (RcP ⟨tx0,ty0,tx1,ty1⟩∧areaN ⟨tx0,ty0,tx1,ty1⟩≤2000000):=⟨hr,by have:=area_eq ha;omega⟩;obtain ⟨⟨q0,q1⟩,⟨q2,q3⟩,⟨q4,q5⟩,q6,q7⟩:=hr;dsimp only at q0 q1 q2 q3 q4 q5 q6 q7;clear hPf hem ha hc hv hD;go_enter Tryz.func33,Tryz.ntmps33;go_wp2_with fail;refine (HEM.o _).mono ?_;rintro e' W1 ⟨rfl,hb1⟩;have H1:=Q (H0.o.call hb1);clear hb1 H0 HEM;obtain ⟨m0,m1,m2,m3,m4⟩:=(H1.o.box 3 rfl).c5;obtain ⟨mf0,mf1,mf2,mf3⟩:=(H1.o.box 3 rfl).f4;obtain ⟨e0,e1,e2,e3⟩:=(H1.o.box 1 rfl).c4
 cases em with
 |true=>
  obtain ⟨r0,r1,r2,r3,r4⟩:=(H1.o.box 2 rfl).c5;obtain ⟨f0,f1,f2,f3,f4⟩:=(H1.o.box 2 rfl).f5;go_wp2_with fail;have H2:=bag_set5 H1.o 2 rfl (Y X 0) (Y X 0) (Y X 0) (Y X 0) (Z none 0 0);refine ret_bf (r:=Rc.zero) (s:=Z none 0 0) rfl rfl (H2.box 2 rfl) rfl ⟨⟨Rc.zero,[]⟩,none,0,0,rfl,H2.below,BfV.nil _,?_,fun x y hxy=>?_⟩
  ·unfold boxR;rw [←HE.o];rfl
  ·have h:=HE.o.symm;rw [emp_iff] at h;rw [hasR_iff] at hxy;omega
 |false=>
  have he:=(emp_ff _).1 HE.o.symm;dsimp only at he;obtain ⟨hbx,hby⟩:=he;have H2:Hid (Bag w ((((W1.setCell ⟨w.heap.size+1+1+1,0,none⟩ (Y X tx0)).setCell ⟨w.heap.size+1+1+1,1,none⟩ (Y X ty0)).setCell ⟨w.heap.size+1+1+1,2,none⟩ (Y X tx1)).setCell ⟨w.heap.size+1+1+1,3,none⟩ (Y X ty1)) [(w.heap.size,[Y X kind,Y X bx0,Y X by0,Y X bx1,Y X by1,Y J p0,Y J p1,Y J p2,Y J p3,Y X cw,Y X ch,Y X turn,Z va vn vm]),(w.heap.size+1,(qI tx0 ty0 tx1 ty1)),(w.heap.size+1+1,zS),(w.heap.size+1+1+1,(qS tx0 ty0 tx1 ty1 (Z none 0 0)))]):=((((H1.o.set 3 rfl 0 (Y X tx0)).set 3 rfl 1 (Y X ty0)).set 3 rfl 2 (Y X tx1)).set 3 rfl 3 (Y X ty1));clear H1;go_upto_region 5 with fail;clear m0 m1 m2 m3 m4 mf0 mf1 mf2 mf3 e0 e1 e2 e3;generalize ((((W1.setCell ⟨w.heap.size+1+1+1,0,none⟩ (Y X tx0)).setCell ⟨w.heap.size+1+1+1,1,none⟩ (Y X ty0)).setCell ⟨w.heap.size+1+1+1,2,none⟩ (Y X tx1)).setCell ⟨w.heap.size+1+1+1,3,none⟩ (Y X ty1))=W2 at *;obtain ⟨B,hB⟩:∃ B,B=W2.heap.size:=⟨_,rfl⟩;have HM0:Hid (Mkg w W2 [(w.heap.size,[Y X kind,Y X bx0,Y X by0,Y X bx1,Y X by1,Y J p0,Y J p1,Y J p2,Y J p3,Y X cw,Y X ch,Y X turn,Z va vn vm]),(w.heap.size+1,(qI tx0 ty0 tx1 ty1)),(w.heap.size+1+1,zS),(w.heap.size+1+1+1,(qS tx0 ty0 tx1 ty1 (Z none 0 0)))] B ⟨tx0,ty0,tx1,ty1⟩ Pf 0 (Z none 0 0) []):=by rw [hB];exact Mkg.start _ _ H2.o
  clear hB H2;obtain ⟨e0,e1,e2,e3⟩:=(HM0.o.bg.box 1 rfl).c4;go_wp2_with fail;clear e0 e1 e2 e3;go_loopw [6,7] (fun yv _ wr=>∃ (yy:Int) (k:Nat) (a:Option Addr) (c:Nat) (l:List Px),ty0≤yy∧yy≤ty1∧yv=Y X yy∧k=cnt ⟨tx0,ty0,tx1,ty1⟩ tx0 yy∧Mkg w wr [(w.heap.size,[Y X kind,Y X bx0,Y X by0,Y X bx1,Y X by1,Y J p0,Y J p1,Y J p2,Y J p3,Y X cw,Y X ch,Y X turn,Z va vn vm]),(w.heap.size+1,(qI tx0 ty0 tx1 ty1)),(w.heap.size+1+1,zS),(w.heap.size+1+1+1,(qS tx0 ty0 tx1 ty1 (Z a k c)))] B ⟨tx0,ty0,tx1,ty1⟩ Pf k (Z a k c) l) (fun yv _ _=>(ty1-intOf yv).toNat)
  case atStart=>exact ⟨ty0,0,none,0,[],by omega,by omega,rfl,(cnt_start _).symm,HM0.o⟩
  case round=>
   clear HM0;obtain ⟨yy,k,a,c,l,hy0,hy1,rfl,hk,hM⟩:=hrel;have HM:=Q hM;have HK:=Q hk;clear hM hk;obtain ⟨e0,e1,e2,e3⟩:=(HM.o.bg.box 1 rfl).c4;by_cases hyl:yy<ty1
   ·go_wp2_with fail;go_loopw [7] (fun xv wr=>∃ (xx:Int) (k:Nat) (a:Option Addr) (c:Nat) (l:List Px),tx0≤xx∧xx≤tx1∧xv=Y X xx∧k=cnt ⟨tx0,ty0,tx1,ty1⟩ xx yy∧Mkg w wr [(w.heap.size,[Y X kind,Y X bx0,Y X by0,Y X bx1,Y X by1,Y J p0,Y J p1,Y J p2,Y J p3,Y X cw,Y X ch,Y X turn,Z va vn vm]),(w.heap.size+1,(qI tx0 ty0 tx1 ty1)),(w.heap.size+1+1,zS),(w.heap.size+1+1+1,(qS tx0 ty0 tx1 ty1 (Z a k c)))] B ⟨tx0,ty0,tx1,ty1⟩ Pf k (Z a k c) l) (fun xv _=>(tx1-intOf xv).toNat)
    case atStart=>exact ⟨tx0,k,a,c,l,by omega,by omega,rfl,HK.o,HM.o⟩
    case round=>
     clear HM HK e0 e1 e2 e3;obtain ⟨xx,k,a,c,l,hx0,hx1,rfl,hk,hM⟩:=hrel;have HM:=Q hM;have HK:=Q hk;clear hM hk;obtain ⟨e0,e1,e2,e3⟩:=(HM.o.bg.box 1 rfl).c4;by_cases hxl:xx<tx1
     ·have hR:hasR ⟨tx0,ty0,tx1,ty1⟩ xx yy=true:=by rw [hasR_iff];dsimp only;omega
      have hkb:k<2000000:=HM.o.le hR HK.o HBX.o.2;have HR:=Q hR;clear hR;obtain ⟨z,hz⟩:∃ z,z=pixR ct xx yy:=⟨_,rfl⟩;have HPX:Hid (∀ W,Below w.heap.size w W→Calls Tryz.prog 59 #[.agg #[Y X kind,Y X bx0,Y X by0,Y X bx1,Y X by1,Y J p0,Y J p1,Y J p2,Y J p3,Y X cw,Y X ch,Y X turn,Z va vn vm],Y X xx,Y X yy] W (PPost W (pxv z))):=fun W h=>by rw [hz];exact HV.o W h xx yy (by omega) (by omega)
      have HZ:Hid (z=pixR ct xx yy∧z.Ok):=⟨hz,by rw [hz];exact HPO.o xx yy⟩;clear hz;obtain ⟨z0,z1,z2,z3⟩:=z;obtain ⟨o0,o1,o2,o3,o4⟩:=(HM.o.bg.box 3 rfl).c5;have HBL:Hid (Below w.heap.size w wr):=HM.o.bg.below;have HL:Hid (∀ w',(∃ s:Kept wr.heap.size wr,w'=s.w)→w'.rangeAt w.heap.size 0 [Y X kind,Y X bx0,Y X by0,Y X bx1,Y X by1,Y J p0,Y J p1,Y J p2,Y J p3,Y X cw,Y X ch,Y X turn,Z va vn vm]):=fun w' ⟨s,hs⟩=>by rw [hs];exact (HM.o.bg.call s.below).range 0 rfl 0 13
      go_wp2_with fail;obtain ⟨ko0,ko1,ko2,ko3,ko4⟩:=kept5 o0 o1 o2 o3 o4;clear o0 o1 o2 o3 o4;refine wp_region_kept_tail wr.heap.size 5 _ rfl (by kernel_rfl) (by kernel_rfl) ?_;simp only [O,U,V,E]
      go_big_quiet_step (fail)
      refine wpQuiet_load rfl 30 _ rfl w.heap.size 0 rfl _ _ HL.o Tryz.underlying30 rfl (by kernel_rfl) ?_;simp only [Act.put,List.setIfInBounds_toArray,List.set_cons_succ,List.set_cons_zero]
      repeat (go_big_quiet_step (first
       |(go_at_call 59;with_reducible exact Calls.kept _ (I _) (HPX.o _ (HBL.o.trans ((Kept.below _).mono HBL.o.size))))))
      refine wpQuiet_nil ?_;intro s;refine ⟨?_⟩;have M7:=Q (HM.o.call s.below);clear ko0 ko1 ko2 ko3 ko4 HPX HL;go_wp2_with fail
      (with_reducible refine (with05_c B ⟨tx0,ty0,tx1,ty1⟩ a k c l ⟨z0,z1,z2,z3⟩ _ M7.o.own M7.o.hi (mkg_wl M7.o hkb)).mono ?_);rintro e' W7 ⟨g8,c8,rfl,hown8,hg8⟩
      have M8:Hid (Mkg w W7 [(w.heap.size,[Y X kind,Y X bx0,Y X by0,Y X bx1,Y X by1,Y J p0,Y J p1,Y J p2,Y J p3,Y X cw,Y X ch,Y X turn,Z va vn vm]),(w.heap.size+1,(qI tx0 ty0 tx1 ty1)),(w.heap.size+1+1,zS),(w.heap.size+1+1+1,(qS tx0 ty0 tx1 ty1 (Z a k c)))] B ⟨tx0,ty0,tx1,ty1⟩ Pf (k+1) (Z (some ⟨g8,0,none⟩) (k+1) c8) (l++[⟨z0,z1,z2,z3⟩])):=M7.o.next hown8 hg8 HZ.o.2 HR.o HK.o (by rw [HPF.o];exact HZ.o.1);have M9:Hid (Mkg w (((((W7.setCell ⟨w.heap.size+1+1+1,0,none⟩ (Y X tx0)).setCell ⟨w.heap.size+1+1+1,1,none⟩ (Y X ty0)).setCell ⟨w.heap.size+1+1+1,2,none⟩ (Y X tx1)).setCell ⟨w.heap.size+1+1+1,3,none⟩ (Y X ty1)).setCell ⟨w.heap.size+1+1+1,4,none⟩ (Z (some ⟨g8,0,none⟩) (k+1) c8)) [(w.heap.size,[Y X kind,Y X bx0,Y X by0,Y X bx1,Y X by1,Y J p0,Y J p1,Y J p2,Y J p3,Y X cw,Y X ch,Y X turn,Z va vn vm]),(w.heap.size+1,(qI tx0 ty0 tx1 ty1)),(w.heap.size+1+1,zS),(w.heap.size+1+1+1,(qS tx0 ty0 tx1 ty1 (Z (some ⟨g8,0,none⟩) (k+1) c8)))] B ⟨tx0,ty0,tx1,ty1⟩ Pf (k+1) (Z (some ⟨g8,0,none⟩) (k+1) c8) (l++[⟨z0,z1,z2,z3⟩])):=M8.o.set5 3 rfl _ _ _ _ _;obtain ⟨s0,s1,s2,s3,s4⟩:=(M8.o.bg.box 3 rfl).c5;obtain ⟨sf0,sf1,sf2,sf3,sf4⟩:=(M8.o.bg.box 3 rfl).f5;clear hown8 hg8 M8 M7;go_wp2_with fail;go_roundw
      case rel=>exact ⟨xx+1,k+1,_,_,_,by omega,by omega,by go_num,by rw [HK.o,cnt_next HR.o],M9.o⟩
      case measure=>simp [intOf];omega
     ·obtain rfl:xx=tx1:=by omega
      have HC:Hid (k=cnt ⟨tx0,ty0,xx,ty1⟩ tx0 (yy+1)):=by rw [HK.o];exact cnt_row _ _ hbx
      go_wp2_with fail;go_roundw
      case rel=>exact ⟨yy+1,k,_,_,_,by omega,by omega,by go_num,HC.o,HM.o⟩
      case measure=>simp [intOf];omega
   ·obtain rfl:yy=ty1:=by omega
    have HD:Hid (k=areaN ⟨tx0,ty0,tx1,yy⟩):=by rw [HK.o];exact cnt_end (r:=⟨tx0,ty0,tx1,yy⟩) HE.o.symm
    have HM5:Hid (Mkg w wr [(w.heap.size,[Y X kind,Y X bx0,Y X by0,Y X bx1,Y X by1,Y J p0,Y J p1,Y J p2,Y J p3,Y X cw,Y X ch,Y X turn,Z va vn vm]),(w.heap.size+1,(qI tx0 ty0 tx1 yy)),(w.heap.size+1+1,zS),(w.heap.size+1+1+1,(qS tx0 ty0 tx1 yy (Z a k c)))] B ⟨tx0,ty0,tx1,yy⟩ Pf (areaN ⟨tx0,ty0,tx1,yy⟩) (Z a k c) l):=by rw [←HD.o];exact HM.o
    obtain ⟨m0,m1,m2,m3,m4⟩:=(HM.o.bg.box 3 rfl).c5;obtain ⟨r0,r1,r2,r3,r4⟩:=(HM.o.bg.box 2 rfl).c5;obtain ⟨f0,f1,f2,f3,f4⟩:=(HM.o.bg.box 2 rfl).f5;go_wp2_with fail;have M6:=HM5.o.set5 2 rfl (Y X tx0) (Y X ty0) (Y X tx1) (Y X yy) (Z a k c);refine ret_bf (r:=⟨tx0,ty0,tx1,yy⟩) (s:=Z a k c) rfl rfl (M6.bg.box 2 rfl) rfl ⟨⟨⟨tx0,ty0,tx1,yy⟩,l⟩,a,k,c,rfl,M6.bg.below,M6.done HBX.o.1,?_,fun x y hxy=>M6.row.all hxy⟩;unfold boxR;rw [←HE.o];rfl
def sc (S:Nat→Int):List Value:=(qI (S 0) (S 1) (S 2) (S 3))
theorem sc_get (S:Nat→Int) (i:Nat) (h:i<4):(sc S)[i]?=some (Y X (S i)):=by
 match i,h with
 |0,_=>rfl
 |1,_=>rfl
 |2,_=>rfl
 |3,_=>rfl
def scU (S:Nat→Int) (u:Px) (i:Nat):Nat→Int:=fun j=>if j<i then S j+ch u j else S j
theorem scU_set (S:Nat→Int) (u:Px) (i:Nat) (h:i<4):(sc (scU S u i)).set i (Y X (S i+ch u i))=sc (scU S u (i+1)):=by
 match i,h with
 |0,_=>rfl
 |1,_=>rfl
 |2,_=>rfl
 |3,_=>rfl
theorem scU_at (S:Nat→Int) (u:Px) (i:Nat):scU S u i i=S i:=by unfold scU;rw [if_neg (by omega)]
theorem scU_zero (S:Nat→Int) (u:Px):scU S u 0=S:=by funext j;unfold scU;rw [if_neg (by omega)]
def NearL (src:Bf) (r dx dy x y:Int):Prop:=∃ q,(-r≤q∧q≤r)∧atB src (x+q*dx) (y+q*dy)≠Px.zero
def SumP (src:Bf) (r x y dx dy kk:Int) (S:Nat→Int):Prop:=∀ j,j<4→(0≤S j∧S j≤255*(kk+r))∧(S j≠0→NearL src r dx dy x y)
theorem ch_zero (j:Nat):ch Px.zero j=0:=by
 unfold ch
 split<;>rfl
theorem SumP.step {src:Bf} {r x y dx dy kk:Int} {S:Nat→Int} {u:Px} (h:SumP src r x y dx dy kk S) (hu:u=atB src (x+kk*dx) (y+kk*dy)) (ho:u.Ok) (hk : -r≤kk∧kk≤r):SumP src r x y dx dy (kk+1) (scU S u 4):=fun j hj=>by
 have h1:=h j hj;have h2:=ch_byte ho j;unfold Byte at h2;unfold scU;rw [if_pos hj];refine ⟨by omega,fun hne=>?_⟩;by_cases e:S j=0
 ·refine ⟨kk,hk,fun e2=>?_⟩;rw [←hu] at e2;rw [e2,ch_zero] at hne;omega
 ·exact h1.2 e
theorem Mkg.var1 {w W:World} {bag:List (Nat×List Value)} {B:Nat} {r:Rc} {Pf:Int→Int→Px→Prop} {n:Nat} {s:Value} {l:List Px} (h:Mkg w W bag B r Pf n s l) {vb:Nat} (hv:B≤vb) (hne:s.ownBlock≠some vb) (j:Nat) (u:Value):Mkg w (W.setCell ⟨vb,j,none⟩ u) bag B r Pf n s l:=by
 have hb:∀ p∈bag,p.1≠vb:=fun p hp=>by have:=h.lt p hp;omega
 refine ⟨⟨fun p hp=>⟨(h.bg.1 p hp).1.set (by exact hb p hp) u,(h.bg.1 p hp).2⟩,h.bg.2.1,h.bg.2.2.setCell (by have:=h.lo;show w.heap.size≤vb;omega) _⟩,h.lt,?_,h.row,h.lo,by rw [size_set];exact h.hi⟩;refine ⟨h.own.1,?_⟩
 rcases h.own.2 with h1|⟨g,cap,cur,rfl,h2,h3,h4⟩
 ·exact .inl h1
 ·refine .inr ⟨g,cap,cur,rfl,h2,?_,h4⟩;rw [Below.heap_setCell _ _ _ _ (fun e=>hne (by rw [show vb=g from e.symm];rfl))];exact h3
theorem along08_c (b:Bf) (bx:Rc) (r dx dy:Int) (ba:Option Addr) (bn bc:Nat) (w:World) (hB:BfV w b (Z ba bn bc)) (hr:RcP bx) (ha:areaR bx≤2000000) (hr0:0≤r∧r≤255) (hdx:dx=0∨dx=1) (hdy:dy=0∨dy=1):Calls Tryz.prog 114 #[bfv b.box (Z ba bn bc),rv bx,Y X r,Y X dx,Y X dy] w (BPost w (MadeB bx (fun x y p=>p≠Px.zero→NearL b r dx dy x y))):=by
 obtain ⟨⟨bx0,by0,bx1,by1⟩,bp⟩:=b;obtain ⟨tx0,ty0,tx1,ty1⟩:=bx;obtain ⟨r0,r1⟩:=hr0;have HV:Hid (∀ W,Below w.heap.size w W→BfV W ⟨⟨bx0,by0,bx1,by1⟩,bp⟩ (Z ba bn bc)):=fun W h=>hB.below h;obtain ⟨Pf,hPf⟩:∃ Pf:Int→Int→Px→Prop,Pf=(fun x y p=>p≠Px.zero→NearL ⟨⟨bx0,by0,bx1,by1⟩,bp⟩ r dx dy x y):=⟨_,rfl⟩;have HPF:=Q hPf;rw [←hPf];have H0:Hid (Bag w ((((w.alloc (.cells #[Y X bx0,Y X by0,Y X bx1,Y X by1,Z ba bn bc] 43)).alloc (.cells #[Y X tx0,Y X ty0,Y X tx1,Y X ty1] 25)).alloc (.cells #[Y X 0,Y X 0,Y X 0,Y X 0,Z none 0 0] 43)).alloc (.cells #[Y X 0,Y X 0,Y X 0,Y X 0,Z none 0 0] 43)) [(w.heap.size,(qS bx0 by0 bx1 by1 (Z ba bn bc))),(w.heap.size+1,(qI tx0 ty0 tx1 ty1)),(w.heap.size+1+1,zS),(w.heap.size+1+1+1,zS)]):=bag4 w (qS bx0 by0 bx1 by1 (Z ba bn bc)) (qI tx0 ty0 tx1 ty1) zS zS _ _ _ _;obtain ⟨em,hem⟩:∃ e,e=Rc.emp ⟨tx0,ty0,tx1,ty1⟩:=⟨_,rfl⟩;have HEM:Hid (∀ W,Calls Tryz.prog 19 #[rv ⟨tx0,ty0,tx1,ty1⟩] W (PPost W (.bool em))):=fun W=>by rw [hem];exact rempty_c _ W
 have HE:=Q hem;have HBX:Hid (RcP ⟨tx0,ty0,tx1,ty1⟩∧areaN ⟨tx0,ty0,tx1,ty1⟩≤2000000):=⟨hr,by have:=area_eq ha;omega⟩;obtain ⟨⟨q0,q1⟩,⟨q2,q3⟩,⟨q4,q5⟩,q6,q7⟩:=hr;dsimp only at q0 q1 q2 q3 q4 q5 q6 q7;clear hPf hem ha hB;go_enter Tryz.func114,Tryz.ntmps114;go_wp2_with fail;refine (HEM.o _).mono ?_;rintro e' W1 ⟨rfl,hb1⟩;have H1:=Q (H0.o.call hb1);clear hb1 H0 HEM;obtain ⟨m0,m1,m2,m3,m4⟩:=(H1.o.box 3 rfl).c5;obtain ⟨mf0,mf1,mf2,mf3⟩:=(H1.o.box 3 rfl).f4;obtain ⟨e0,e1,e2,e3⟩:=(H1.o.box 1 rfl).c4
 cases em with
 |true=>
  obtain ⟨r0,r1,r2,r3,r4⟩:=(H1.o.box 2 rfl).c5;obtain ⟨f0,f1,f2,f3,f4⟩:=(H1.o.box 2 rfl).f5;go_wp2_with fail;have H2:=bag_set5 H1.o 2 rfl (Y X 0) (Y X 0) (Y X 0) (Y X 0) (Z none 0 0);refine ret_bf (r:=Rc.zero) (s:=Z none 0 0) rfl rfl (H2.box 2 rfl) rfl ⟨⟨Rc.zero,[]⟩,none,0,0,rfl,H2.below,BfV.nil _,?_,fun x y hxy=>?_⟩
  ·unfold boxR;rw [←HE.o];rfl
  ·have h:=HE.o.symm;rw [emp_iff] at h;rw [hasR_iff] at hxy;omega
 |false=>
  have he:=(emp_ff _).1 HE.o.symm;dsimp only at he;obtain ⟨hbx,hby⟩:=he;have H2:Hid (Bag w ((((W1.setCell ⟨w.heap.size+1+1+1,0,none⟩ (Y X tx0)).setCell ⟨w.heap.size+1+1+1,1,none⟩ (Y X ty0)).setCell ⟨w.heap.size+1+1+1,2,none⟩ (Y X tx1)).setCell ⟨w.heap.size+1+1+1,3,none⟩ (Y X ty1)) [(w.heap.size,(qS bx0 by0 bx1 by1 (Z ba bn bc))),(w.heap.size+1,(qI tx0 ty0 tx1 ty1)),(w.heap.size+1+1,zS),(w.heap.size+1+1+1,(qS tx0 ty0 tx1 ty1 (Z none 0 0)))]):=((((H1.o.set 3 rfl 0 (Y X tx0)).set 3 rfl 1 (Y X ty0)).set 3 rfl 2 (Y X tx1)).set 3 rfl 3 (Y X ty1));clear H1;go_upto_region 5 with fail;clear m0 m1 m2 m3 m4 mf0 mf1 mf2 mf3 e0 e1 e2 e3;generalize ((((W1.setCell ⟨w.heap.size+1+1+1,0,none⟩ (Y X tx0)).setCell ⟨w.heap.size+1+1+1,1,none⟩ (Y X ty0)).setCell ⟨w.heap.size+1+1+1,2,none⟩ (Y X tx1)).setCell ⟨w.heap.size+1+1+1,3,none⟩ (Y X ty1))=W2 at *;obtain ⟨B,hB⟩:∃ B,B=W2.heap.size:=⟨_,rfl⟩;have HM0:Hid (Mkg w W2 [(w.heap.size,(qS bx0 by0 bx1 by1 (Z ba bn bc))),(w.heap.size+1,(qI tx0 ty0 tx1 ty1)),(w.heap.size+1+1,zS),(w.heap.size+1+1+1,(qS tx0 ty0 tx1 ty1 (Z none 0 0)))] B ⟨tx0,ty0,tx1,ty1⟩ Pf 0 (Z none 0 0) []):=by rw [hB];exact Mkg.start _ _ H2.o
  clear hB H2;obtain ⟨e0,e1,e2,e3⟩:=(HM0.o.bg.box 1 rfl).c4;go_wp2_with fail;clear e0 e1 e2 e3;go_loopw [12,13,14,15,16,17] (fun yv _ _ _ _ _ wr=>∃ (yy:Int) (k:Nat) (a:Option Addr) (c:Nat) (l:List Px),ty0≤yy∧yy≤ty1∧yv=Y X yy∧k=cnt ⟨tx0,ty0,tx1,ty1⟩ tx0 yy∧Mkg w wr [(w.heap.size,(qS bx0 by0 bx1 by1 (Z ba bn bc))),(w.heap.size+1,(qI tx0 ty0 tx1 ty1)),(w.heap.size+1+1,zS),(w.heap.size+1+1+1,(qS tx0 ty0 tx1 ty1 (Z a k c)))] B ⟨tx0,ty0,tx1,ty1⟩ Pf k (Z a k c) l) (fun yv _ _ _ _ _ _=>(ty1-intOf yv).toNat)
  case atStart=>exact ⟨ty0,0,none,0,[],by omega,by omega,rfl,(cnt_start _).symm,HM0.o⟩
  case round=>
   clear HM0;obtain ⟨yy,k,a,c,l,hy0,hy1,rfl,hk,hM⟩:=hrel;have HM:=Q hM;have HK:=Q hk;clear hM hk;obtain ⟨e0,e1,e2,e3⟩:=(HM.o.bg.box 1 rfl).c4;by_cases hyl:yy<ty1
   ·go_wp2_with fail;go_loopw [13,14,15,16,17] (fun xv _ _ _ _ wr=>∃ (xx:Int) (k:Nat) (a:Option Addr) (c:Nat) (l:List Px),tx0≤xx∧xx≤tx1∧xv=Y X xx∧k=cnt ⟨tx0,ty0,tx1,ty1⟩ xx yy∧Mkg w wr [(w.heap.size,(qS bx0 by0 bx1 by1 (Z ba bn bc))),(w.heap.size+1,(qI tx0 ty0 tx1 ty1)),(w.heap.size+1+1,zS),(w.heap.size+1+1+1,(qS tx0 ty0 tx1 ty1 (Z a k c)))] B ⟨tx0,ty0,tx1,ty1⟩ Pf k (Z a k c) l) (fun xv _ _ _ _ _=>(tx1-intOf xv).toNat)
    case atStart=>exact ⟨tx0,k,a,c,l,by omega,by omega,rfl,HK.o,HM.o⟩
    case round=>
     clear HM HK e0 e1 e2 e3;obtain ⟨xx,k,a,c,l,hx0,hx1,rfl,hk,hM⟩:=hrel;have HM:=Q hM;have HK:=Q hk;clear hM hk;obtain ⟨e0,e1,e2,e3⟩:=(HM.o.bg.box 1 rfl).c4;by_cases hxl:xx<tx1
     ·have hR:hasR ⟨tx0,ty0,tx1,ty1⟩ xx yy=true:=by rw [hasR_iff];dsimp only;omega
      have hkb:k<2000000:=HM.o.le hR HK.o HBX.o.2;have HR:=Q hR;clear hR;obtain ⟨w5,hw5⟩:∃ w5,w5=wr:=⟨_,rfl⟩;subst hw5;have MA:Hid (Mkg w (w5.alloc (.cells #[Y X 0,Y X 0,Y X 0,Y X 0] 159)) [(w.heap.size,(qS bx0 by0 bx1 by1 (Z ba bn bc))),(w.heap.size+1,(qI tx0 ty0 tx1 ty1)),(w.heap.size+1+1,zS),(w.heap.size+1+1+1,(qS tx0 ty0 tx1 ty1 (Z a k c)))] B ⟨tx0,ty0,tx1,ty1⟩ Pf k (Z a k c) l):=HM.o.alloc _;have XA:Hid (Box (w5.alloc (.cells #[Y X 0,Y X 0,Y X 0,Y X 0] 159)) w5.heap.size (sc fun _=>0)):=Box.new w5 (sc fun _=>0) _;have HNV:Hid (B≤w5.heap.size∧(Value.slice a k c).ownBlock≠some w5.heap.size):=⟨HM.o.hi,fun e=>by have:=(World.ownsRow.lt HM.o.own _ e).2;omega⟩;have S0:Hid (SumP ⟨⟨bx0,by0,bx1,by1⟩,bp⟩ r xx yy dx dy (-r) (fun _=>0)):=fun j hj=>⟨by show (0:Int)≤0∧(0:Int)≤255*(-r+r);omega,fun h=>absurd rfl h⟩;clear HM;go_wp2_with fail;clear e0 e1 e2 e3;go_loopw [15,16,17] (fun kv _ _ wr=>∃ (kk:Int) (S:Nat→Int),-r≤kk∧kk≤r+1∧kv=Y X kk∧Mkg w wr [(w.heap.size,(qS bx0 by0 bx1 by1 (Z ba bn bc))),(w.heap.size+1,(qI tx0 ty0 tx1 ty1)),(w.heap.size+1+1,zS),(w.heap.size+1+1+1,(qS tx0 ty0 tx1 ty1 (Z a k c)))] B ⟨tx0,ty0,tx1,ty1⟩ Pf k (Z a k c) l∧Box wr w5.heap.size (sc S)∧SumP ⟨⟨bx0,by0,bx1,by1⟩,bp⟩ r xx yy dx dy kk S) (fun kv _ _ _=>(r+1-intOf kv).toNat)
      case atStart=>exact ⟨-r,fun _=>0,by omega,by omega,rfl,MA.out,XA.out,S0.out⟩
      case round=>
       clear MA XA S0;obtain ⟨kk,S,hk0,hk1,rfl,hM2,hX2,hS2⟩:=hrel;have MB:=Q hM2;have XB:=Q hX2;have HS:=Q hS2;clear hM2 hX2 hS2;by_cases hkl:kk≤r
       ·obtain ⟨mx,gx⟩:∃ m,kk*dx=m:=⟨_,rfl⟩;obtain ⟨my,gy⟩:∃ m,kk*dy=m:=⟨_,rfl⟩;have bx : -255≤mx∧mx≤255:=by rw [←gx];rcases hdx with h|h<;>(rw [h];omega)
        have bY : -255≤my∧my≤255:=by rw [←gy];rcases hdy with h|h<;>(rw [h];omega)
        obtain ⟨u,hu⟩:∃ u,u=atB ⟨⟨bx0,by0,bx1,by1⟩,bp⟩ (xx+mx) (yy+my):=⟨_,rfl⟩;have HAT:Hid (∀ W,Below w.heap.size w W→Calls Tryz.prog 9 #[.agg #[Y X bx0,Y X by0,Y X bx1,Y X by1,Z ba bn bc],Y X (xx+mx),Y X (yy+my)] W (PPost W (pxv u))):=fun W h=>by rw [hu];exact at05_c ⟨⟨bx0,by0,bx1,by1⟩,bp⟩ ba bn bc _ _ W (HV.o W h)
        have HU:Hid (u=atB ⟨⟨bx0,by0,bx1,by1⟩,bp⟩ (xx+kk*dx) (yy+kk*dy)∧u.Ok):=⟨by rw [hu,gx,gy],by rw [hu];exact atB_ok (HV.o w (Below.refl _ _)).ok _ _⟩;clear hu;obtain ⟨bx1',bx2'⟩:=bx;obtain ⟨by1',by2'⟩:=bY;obtain ⟨u0,u1,u2,u3⟩:=u;obtain ⟨e0,e1,e2,e3,e4⟩:=(MB.out.bg.box 0 rfl).c5;go_wp2_with fail
        (with_reducible refine (HAT.o _ MB.out.bg.below).mono ?_);rintro e' W1 ⟨rfl,hb1⟩
        have MC:Hid (Mkg w (W1.alloc (.cells #[Y J u0,Y J u1,Y J u2,Y J u3] 27)) [(w.heap.size,(qS bx0 by0 bx1 by1 (Z ba bn bc))),(w.heap.size+1,(qI tx0 ty0 tx1 ty1)),(w.heap.size+1+1,zS),(w.heap.size+1+1+1,(qS tx0 ty0 tx1 ty1 (Z a k c)))] B ⟨tx0,ty0,tx1,ty1⟩ Pf k (Z a k c) l):=(MB.out.call hb1).alloc _;have XC:Hid (Box (W1.alloc (.cells #[Y J u0,Y J u1,Y J u2,Y J u3] 27)) w5.heap.size (sc (scU S ⟨u0,u1,u2,u3⟩ 0))):=by rw [scU_zero];exact (XB.out.call hb1).alloc _
        have YC:Hid (Box (W1.alloc (.cells #[Y J u0,Y J u1,Y J u2,Y J u3] 27)) W1.heap.size (pxc ⟨u0,u1,u2,u3⟩)):=Box.new W1 (pxc ⟨u0,u1,u2,u3⟩) _;have HNE:Hid (W1.heap.size≠w5.heap.size):=fun e=>by have:=(XB.out.call hb1).lt;omega
        clear hb1 HAT e0 e1 e2 e3 e4 MB XB gx gy;go_wp2_with fail;go_loopw [17] (fun iv wr=>∃ i:Nat,i≤4∧iv=Y X i∧Mkg w wr [(w.heap.size,(qS bx0 by0 bx1 by1 (Z ba bn bc))),(w.heap.size+1,(qI tx0 ty0 tx1 ty1)),(w.heap.size+1+1,zS),(w.heap.size+1+1+1,(qS tx0 ty0 tx1 ty1 (Z a k c)))] B ⟨tx0,ty0,tx1,ty1⟩ Pf k (Z a k c) l∧Box wr w5.heap.size (sc (scU S ⟨u0,u1,u2,u3⟩ i))∧Box wr W1.heap.size (pxc ⟨u0,u1,u2,u3⟩)) (fun iv _=>4-(intOf iv).toNat)
        case atStart=>exact ⟨0,by omega,rfl,MC.out,XC.out,YC.out⟩
        case round=>
         clear MC XC YC;obtain ⟨i,hi,rfl,hM3,hX3,hY3⟩:=hrel;have MD:=Q hM3;have XD:=Q hX3;have YD:=Q hY3;clear hM3 hX3 hY3;by_cases hi4:i<4
         ·obtain ⟨sv,hsv⟩:∃ v,v=S i:=⟨_,rfl⟩;obtain ⟨cv,hcv⟩:∃ v,v=ch ⟨u0,u1,u2,u3⟩ i:=⟨_,rfl⟩;have hsb:=(HS.o i hi4).1;rw [←hsv] at hsb;have hcb:Byte cv:=by rw [hcv];exact ch_byte HU.o.2 i
          have HI:Hid (i<4∧sv=S i∧cv=ch ⟨u0,u1,u2,u3⟩ i):=⟨hi4,hsv,hcv⟩;clear hsv hcv;unfold Byte at hcb;obtain ⟨hs0,hs1⟩:=hsb;obtain ⟨hc0,hc1⟩:=hcb;have hi0:(0:Int)≤(i:Int):=by omega
          have hi1:(i:Int)<4:=by omega
          have cs:wr.cell? ⟨w5.heap.size,i,none⟩=some (Y X sv):=XD.out.cell i (by rw [sc_get _ _ HI.o.1,scU_at,HI.o.2.1]);have cp:wr.cell? ⟨W1.heap.size,i,none⟩=some (Y J cv):=YD.out.cell i (by rw [pxc_get _ _ HI.o.1,HI.o.2.2]);go_wp2_with fail;obtain ⟨kcs,kcp⟩:=kept2 cs cp;clear cs cp;refine wp_region_kept_tail wr.heap.size 10 _ rfl (by kernel_rfl) (by kernel_rfl) ?_;simp only [O,U,V,E]
          repeat (go_big_quiet_step (fail))
          refine wpQuiet_nil ?_;intro s;refine ⟨?_⟩;have XE:=Q (XD.out.call s.below);have cs:s.w.cell? ⟨w5.heap.size,i,none⟩=some (Y X sv):=XE.out.cell i (by rw [sc_get _ _ HI.o.1,scU_at,HI.o.2.1]);have fs:=XE.out.frozen i;have HN:Hid (Mkg w (s.w.setCell ⟨w5.heap.size,i,none⟩ (Y X (sv+cv))) [(w.heap.size,(qS bx0 by0 bx1 by1 (Z ba bn bc))),(w.heap.size+1,(qI tx0 ty0 tx1 ty1)),(w.heap.size+1+1,zS),(w.heap.size+1+1+1,(qS tx0 ty0 tx1 ty1 (Z a k c)))] B ⟨tx0,ty0,tx1,ty1⟩ Pf k (Z a k c) l∧Box (s.w.setCell ⟨w5.heap.size,i,none⟩ (Y X (sv+cv))) w5.heap.size (sc (scU S ⟨u0,u1,u2,u3⟩ (i+1)))∧Box (s.w.setCell ⟨w5.heap.size,i,none⟩ (Y X (sv+cv))) W1.heap.size (pxc ⟨u0,u1,u2,u3⟩)):=by
           refine ⟨(MD.out.call s.below).var1 HNV.o.1 HNV.o.2 _ _,?_,(YD.out.call s.below).set HNE.o _⟩;have h:=XE.out.self i (Y X (sv+cv));rw [HI.o.2.1,HI.o.2.2,scU_set _ _ _ HI.o.1] at h;rw [HI.o.2.1,HI.o.2.2];exact h
          clear kcs kcp MD XD YD XE;go_wp2_with fail;go_roundw
          case rel=>exact ⟨i+1,by omega,by go_num,HN.o.1,HN.o.2.1,HN.o.2.2⟩
          case measure=>simp [intOf];omega
         ·obtain rfl:i=4:=by omega
          have HT:Hid (SumP ⟨⟨bx0,by0,bx1,by1⟩,bp⟩ r xx yy dx dy (kk+1) (scU S ⟨u0,u1,u2,u3⟩ 4)):=HS.o.step HU.o.1 HU.o.2 ⟨hk0,hkl⟩;go_wp2_with fail;go_roundw
          case rel=>exact ⟨kk+1,_,by omega,by omega,by go_num,MD.out,XD.out,HT.o⟩
          case measure=>simp [intOf];omega
       ·obtain rfl:kk=r+1:=by omega
        obtain ⟨s0,hs0⟩:∃ v,v=S 0:=⟨_,rfl⟩;have sb0:=(HS.o 0 (by omega)).1;rw [←hs0] at sb0;obtain ⟨z0,hz0⟩:∃ z,z=nearU s0 (2*r+1):=⟨_,rfl⟩;have N0:Hid (∀ W,Calls Tryz.prog 129 #[Y X s0,Y X (2*r+1)] W (PPost W (Y J z0))):=fun W=>by rw [hz0];exact near08_c _ _ W (by omega) (by omega)
        obtain ⟨s1,hs1⟩:∃ v,v=S 1:=⟨_,rfl⟩;have sb1:=(HS.o 1 (by omega)).1;rw [←hs1] at sb1;obtain ⟨z1,hz1⟩:∃ z,z=nearU s1 (2*r+1):=⟨_,rfl⟩;have N1:Hid (∀ W,Calls Tryz.prog 129 #[Y X s1,Y X (2*r+1)] W (PPost W (Y J z1))):=fun W=>by rw [hz1];exact near08_c _ _ W (by omega) (by omega)
        obtain ⟨s2,hs2⟩:∃ v,v=S 2:=⟨_,rfl⟩;have sb2:=(HS.o 2 (by omega)).1;rw [←hs2] at sb2;obtain ⟨z2,hz2⟩:∃ z,z=nearU s2 (2*r+1):=⟨_,rfl⟩;have N2:Hid (∀ W,Calls Tryz.prog 129 #[Y X s2,Y X (2*r+1)] W (PPost W (Y J z2))):=fun W=>by rw [hz2];exact near08_c _ _ W (by omega) (by omega)
        obtain ⟨s3,hs3⟩:∃ v,v=S 3:=⟨_,rfl⟩;have sb3:=(HS.o 3 (by omega)).1;rw [←hs3] at sb3;obtain ⟨z3,hz3⟩:∃ z,z=nearU s3 (2*r+1):=⟨_,rfl⟩;have N3:Hid (∀ W,Calls Tryz.prog 129 #[Y X s3,Y X (2*r+1)] W (PPost W (Y J z3))):=fun W=>by rw [hz3];exact near08_c _ _ W (by omega) (by omega)
        have HZ:Hid (Px.Ok ⟨z0,z1,z2,z3⟩):=by
         refine ⟨?_,?_,?_,?_⟩
         ·show Byte z0;rw [hz0];exact nearU_byte (by omega) (by omega)
         ·show Byte z1;rw [hz1];exact nearU_byte (by omega) (by omega)
         ·show Byte z2;rw [hz2];exact nearU_byte (by omega) (by omega)
         ·show Byte z3;rw [hz3];exact nearU_byte (by omega) (by omega)
        have HLW:Hid ((⟨z0,z1,z2,z3⟩:Px)≠Px.zero→NearL ⟨⟨bx0,by0,bx1,by1⟩,bp⟩ r dx dy xx yy):=fun hne=>by
         by_cases g0:S 0=0
         ·by_cases g1:S 1=0
          ·by_cases g2:S 2=0
           ·by_cases g3:S 3=0
            ·refine absurd ?_ hne;rw [hz0,hz1,hz2,hz3,hs0,hs1,hs2,hs3,g0,g1,g2,g3,nearU_zero (2*r+1) (by omega)];rfl
            ·exact (HS.o 3 (by omega)).2 g3
           ·exact (HS.o 2 (by omega)).2 g2
          ·exact (HS.o 1 (by omega)).2 g1
         ·exact (HS.o 0 (by omega)).2 g0
        have c0:wr.cell? ⟨w5.heap.size,0,none⟩=some (Y X s0):=XB.out.cell 0 (by rw [hs0];rfl);have c1:wr.cell? ⟨w5.heap.size,1,none⟩=some (Y X s1):=XB.out.cell 1 (by rw [hs1];rfl);have c2:wr.cell? ⟨w5.heap.size,2,none⟩=some (Y X s2):=XB.out.cell 2 (by rw [hs2];rfl);have c3:wr.cell? ⟨w5.heap.size,3,none⟩=some (Y X s3):=XB.out.cell 3 (by rw [hs3];rfl);obtain ⟨o0,o1,o2,o3,o4⟩:=(MB.out.bg.box 3 rfl).c5;clear hs0 hs1 hs2 hs3 hz0 hz1 hz2 hz3 sb0 sb1 sb2 sb3;go_wp2_with fail;obtain ⟨kc0,kc1,kc2,kc3,ko0,ko1,ko2,ko3⟩:=kept8 c0 c1 c2 c3 o0 o1 o2 o3;have ko4:=fun s:Kept wr.heap.size wr=>s.at o4;clear c0 c1 c2 c3 o0 o1 o2 o3 o4;refine wp_region_kept_tail wr.heap.size 26 _ rfl (by kernel_rfl) (by kernel_rfl) ?_;simp only [O,U,V,E]
        repeat (go_big_quiet_step (first
         |(go_at_call 129;with_reducible exact Calls.kept _ (I _) (N0.out _))
         |(go_at_call 129;with_reducible exact Calls.kept _ (I _) (N1.out _))
         |(go_at_call 129;with_reducible exact Calls.kept _ (I _) (N2.out _))
         |(go_at_call 129;with_reducible exact Calls.kept _ (I _) (N3.out _))))
        refine wpQuiet_nil ?_;intro s;refine ⟨?_⟩;have M7:=Q (MB.out.call s.below);clear kc0 kc1 kc2 kc3 ko0 ko1 ko2 ko3 ko4 MB XB N0 N1 N2 N3;go_wp2_with fail
        (with_reducible refine (with05_c B ⟨tx0,ty0,tx1,ty1⟩ a k c l ⟨z0,z1,z2,z3⟩ _ M7.o.own M7.o.hi (mkg_wl M7.o hkb)).mono ?_);rintro e' W7 ⟨g8,c8,rfl,hown8,hg8⟩
        have M8:Hid (Mkg w W7 [(w.heap.size,(qS bx0 by0 bx1 by1 (Z ba bn bc))),(w.heap.size+1,(qI tx0 ty0 tx1 ty1)),(w.heap.size+1+1,zS),(w.heap.size+1+1+1,(qS tx0 ty0 tx1 ty1 (Z a k c)))] B ⟨tx0,ty0,tx1,ty1⟩ Pf (k+1) (Z (some ⟨g8,0,none⟩) (k+1) c8) (l++[⟨z0,z1,z2,z3⟩])):=M7.o.next hown8 hg8 HZ.o HR.o HK.o (by rw [HPF.o];exact HLW.o);have M9:Hid (Mkg w (((((W7.setCell ⟨w.heap.size+1+1+1,0,none⟩ (Y X tx0)).setCell ⟨w.heap.size+1+1+1,1,none⟩ (Y X ty0)).setCell ⟨w.heap.size+1+1+1,2,none⟩ (Y X tx1)).setCell ⟨w.heap.size+1+1+1,3,none⟩ (Y X ty1)).setCell ⟨w.heap.size+1+1+1,4,none⟩ (Z (some ⟨g8,0,none⟩) (k+1) c8)) [(w.heap.size,(qS bx0 by0 bx1 by1 (Z ba bn bc))),(w.heap.size+1,(qI tx0 ty0 tx1 ty1)),(w.heap.size+1+1,zS),(w.heap.size+1+1+1,(qS tx0 ty0 tx1 ty1 (Z (some ⟨g8,0,none⟩) (k+1) c8)))] B ⟨tx0,ty0,tx1,ty1⟩ Pf (k+1) (Z (some ⟨g8,0,none⟩) (k+1) c8) (l++[⟨z0,z1,z2,z3⟩])):=M8.o.set5 3 rfl _ _ _ _ _;obtain ⟨s0,s1,s2,s3,s4⟩:=(M8.o.bg.box 3 rfl).c5;obtain ⟨sf0,sf1,sf2,sf3,sf4⟩:=(M8.o.bg.box 3 rfl).f5;clear hown8 hg8 M8 M7;go_wp2_with fail;go_roundw
        case rel=>exact ⟨xx+1,k+1,_,_,_,by omega,by omega,by go_num,by rw [HK.o,cnt_next HR.o],M9.o⟩
        case measure=>simp [intOf];omega
     ·obtain rfl:xx=tx1:=by omega
      have HC:Hid (k=cnt ⟨tx0,ty0,xx,ty1⟩ tx0 (yy+1)):=by rw [HK.o];exact cnt_row _ _ hbx
      go_wp2_with fail;go_roundw
      case rel=>exact ⟨yy+1,k,_,_,_,by omega,by omega,by go_num,HC.o,HM.o⟩
      case measure=>simp [intOf];omega
   ·obtain rfl:yy=ty1:=by omega
    have HD:Hid (k=areaN ⟨tx0,ty0,tx1,yy⟩):=by rw [HK.o];exact cnt_end (r:=⟨tx0,ty0,tx1,yy⟩) HE.o.symm
    have HM5:Hid (Mkg w wr [(w.heap.size,(qS bx0 by0 bx1 by1 (Z ba bn bc))),(w.heap.size+1,(qI tx0 ty0 tx1 yy)),(w.heap.size+1+1,zS),(w.heap.size+1+1+1,(qS tx0 ty0 tx1 yy (Z a k c)))] B ⟨tx0,ty0,tx1,yy⟩ Pf (areaN ⟨tx0,ty0,tx1,yy⟩) (Z a k c) l):=by rw [←HD.o];exact HM.o
    obtain ⟨m0,m1,m2,m3,m4⟩:=(HM.o.bg.box 3 rfl).c5;obtain ⟨r0,r1,r2,r3,r4⟩:=(HM.o.bg.box 2 rfl).c5;obtain ⟨f0,f1,f2,f3,f4⟩:=(HM.o.bg.box 2 rfl).f5;go_wp2_with fail;have M6:=HM5.o.set5 2 rfl (Y X tx0) (Y X ty0) (Y X tx1) (Y X yy) (Z a k c);refine ret_bf (r:=⟨tx0,ty0,tx1,yy⟩) (s:=Z a k c) rfl rfl (M6.bg.box 2 rfl) rfl ⟨⟨⟨tx0,ty0,tx1,yy⟩,l⟩,a,k,c,rfl,M6.bg.below,M6.done HBX.o.1,?_,fun x y hxy=>M6.row.all hxy⟩;unfold boxR;rw [←HE.o];rfl
def NearB (b:Bf) (rx ry x y:Int):Prop:=∃ u v,(-rx≤u-x∧u-x≤rx)∧(-ry≤v-y∧v-y≤ry)∧atB b u v≠Px.zero
theorem near_of {b m:Bf} {G:Rc} {rx ry x y:Int} (hm:MadeB G (fun x y p=>p≠Px.zero→NearL b rx 1 0 x y) m) (h:NearL m ry 0 1 x y):NearB b rx ry x y:=by
 obtain ⟨q,hq,h1⟩:=h;have h2:hasR G (x+q*0) (y+q*1)=true:=by
  have:hasR m.box (x+q*0) (y+q*1)=true:=by
   cases h3:hasR m.box (x+q*0) (y+q*1) with
   |true=>rfl
   |false=>exact absurd (atB_out h3) h1
  rw [hm.1,has_box] at this;exact this
 obtain ⟨p,hp,h3⟩:=hm.2 _ _ h2 h1;refine ⟨_,_,?_,?_,h3⟩<;>omega
theorem box08_c (b:Bf) (bx:Rc) (rx ry:Int) (ba:Option Addr) (bn bc:Nat) (w:World) (hB:BfV w b (Z ba bn bc)) (hr:RcP bx) (ha:areaR bx≤2000000) (hg:areaR (grow3R bx 0 ry 0 ry)≤2000000) (hx:0≤rx∧rx≤255) (hy:0≤ry∧ry≤255):Calls Tryz.prog 85 #[bfv b.box (Z ba bn bc),rv bx,Y X rx,Y X ry] w (BPost w (MadeB bx fun x y p=>p≠Px.zero→NearB b rx ry x y)):=by
 obtain ⟨⟨bx0,by0,bx1,by1⟩,bp⟩:=b;obtain ⟨tx0,ty0,tx1,ty1⟩:=bx;obtain ⟨G,hG⟩:∃ G,G=grow3R ⟨tx0,ty0,tx1,ty1⟩ 0 ry 0 ry:=⟨_,rfl⟩;have HG:Hid (∀ W,Calls Tryz.prog 54 #[rv ⟨tx0,ty0,tx1,ty1⟩,Y X 0,Y X ry,Y X 0,Y X ry] W (PPost W (rv G))):=fun W=>by rw [hG];exact rgrow_c _ _ _ _ _ W hr (by omega) (by omega) (by omega) (by omega)
 have HGP:Hid (RcP G∧areaR G≤2000000):=by rw [hG];exact ⟨grow3R_pl _ _ _ _ _,hg⟩
 have HV:Hid (∀ W,Below w.heap.size w W→BfV W ⟨⟨bx0,by0,bx1,by1⟩,bp⟩ (Z ba bn bc)):=fun W h=>hB.below h;have HR:Hid (RcP ⟨tx0,ty0,tx1,ty1⟩∧areaR ⟨tx0,ty0,tx1,ty1⟩≤2000000∧(0≤rx∧rx≤255)∧(0≤ry∧ry≤255)):=⟨hr,ha,hx,hy⟩;have H0:Hid (Bag w (((w.alloc (.cells #[Y X bx0,Y X by0,Y X bx1,Y X by1,Z ba bn bc] 43)).alloc (.cells #[Y X tx0,Y X ty0,Y X tx1,Y X ty1] 25)).alloc (.cells #[Y X 0,Y X 0,Y X 0,Y X 0,Z none 0 0] 43)) [(w.heap.size,(qS bx0 by0 bx1 by1 (Z ba bn bc))),(w.heap.size+1,(qI tx0 ty0 tx1 ty1)),(w.heap.size+1+1,zS)]):=bag3 w (qS bx0 by0 bx1 by1 (Z ba bn bc)) (qI tx0 ty0 tx1 ty1) zS _ _ _;obtain ⟨gx0,gy0,gx1,gy1⟩:=G;clear hB hr ha hg hx hy hG;go_enter Tryz.func85,Tryz.ntmps85;go_wp2_with fail;generalize (((w.alloc (.cells #[Y X bx0,Y X by0,Y X bx1,Y X by1,Z ba bn bc] 43)).alloc (.cells #[Y X tx0,Y X ty0,Y X tx1,Y X ty1] 25)).alloc (.cells #[Y X 0,Y X 0,Y X 0,Y X 0,Z none 0 0] 43))=W0 at *;obtain ⟨c00,c01,c02,c03,c04⟩:=(H0.o.box 0 rfl).c5;obtain ⟨c10,c11,c12,c13⟩:=(H0.o.box 1 rfl).c4;refine wp_region_mix W0.heap.size [false,false,false,false,false,false,true,false,false] [6] _ rfl (I _) (by kernel_rfl) (by kernel_rfl) ?_;apply Exists.intro;refine ⟨fun G hG hne R hR=>?hq,?hc⟩
 case hq=>
  have kc00:=fun s:InG W0.heap.size W0 G=>s.at c00;have kc01:=fun s:InG W0.heap.size W0 G=>s.at c01;have kc02:=fun s:InG W0.heap.size W0 G=>s.at c02;have kc03:=fun s:InG W0.heap.size W0 G=>s.at c03;have kc04:=fun s:InG W0.heap.size W0 G=>s.at c04;have kc10:=fun s:InG W0.heap.size W0 G=>s.at c10;have kc11:=fun s:InG W0.heap.size W0 G=>s.at c11;have kc12:=fun s:InG W0.heap.size W0 G=>s.at c12;have kc13:=fun s:InG W0.heap.size W0 G=>s.at c13;simp only [skip]
  repeat (go_big_quiet_step (first
   |(go_at_call 54;with_reducible exact Calls.inG hG _ (HG.o _))))
  exact wpQuiet_nil hR
 case hc=>
  clear c00 c01 c02 c03 c04 c10 c11 c12 c13;refine wpChain_bf _ rfl rfl (MadeB ⟨gx0,gy0,gx1,gy1⟩ fun x y p=>p≠Px.zero→NearL ⟨⟨bx0,by0,bx1,by1⟩,bp⟩ rx 1 0 x y) 114 #[.agg #[Y X bx0,Y X by0,Y X bx1,Y X by1,Z ba bn bc],rv ⟨gx0,gy0,gx1,gy1⟩,Y X rx,Y X 1,Y X 0] (fun W=>by simp [execOp,resolve,invoke,go_sem]) (fun W hW=>along08_c ⟨⟨bx0,by0,bx1,by1⟩,bp⟩ ⟨gx0,gy0,gx1,gy1⟩ rx 1 0 ba bn bc W (HV.o W (H0.o.below.trans (hW.1.mono H0.o.below.size))) HGP.o.1 HGP.o.2 HR.o.2.2.1 (.inr rfl) (.inl rfl)) (fun x=>?_);obtain ⟨⟨⟨nx0,ny0,nx1,ny1⟩,np⟩,na,nn,nc⟩:=x;refine wpChain_nil (fun W hW=>?_);simp only [BX.v,Act.put,List.setIfInBounds_toArray,List.set_cons_succ,List.set_cons_zero,List.length_cons,List.length_nil,V,E];obtain ⟨⟨hb1,_⟩,hnv,hz⟩:=hW;have HZ:=Q hz;have H1:=Q (H0.o.call hb1);have HC:Hid (Calls Tryz.prog 114 #[.agg #[Y X nx0,Y X ny0,Y X nx1,Y X ny1,Z na nn nc],rv ⟨tx0,ty0,tx1,ty1⟩,Y X ry,Y X 0,Y X 1] W (BPost W (MadeB ⟨tx0,ty0,tx1,ty1⟩ fun x y p=>p≠Px.zero→NearL ⟨⟨nx0,ny0,nx1,ny1⟩,np⟩ ry 0 1 x y))):=along08_c ⟨⟨nx0,ny0,nx1,ny1⟩,np⟩ ⟨tx0,ty0,tx1,ty1⟩ ry 0 1 na nn nc W hnv HR.o.1 HR.o.2.1 HR.o.2.2.2 (.inl rfl) (.inr rfl);clear hb1 hnv hz;go_wp2_with fail
  (with_reducible refine HC.o.mono ?_);rintro e' W2 ⟨⟨⟨ox0,oy0,ox1,oy1⟩,op⟩,oa,on,oc,rfl,hb2,hov,hq2⟩
  have H2:=Q (H1.o.call hb2);have HO:Hid (BfV W2 ⟨⟨ox0,oy0,ox1,oy1⟩,op⟩ (Z oa on oc)∧MadeB ⟨tx0,ty0,tx1,ty1⟩ (fun x y p=>p≠Px.zero→NearL ⟨⟨nx0,ny0,nx1,ny1⟩,np⟩ ry 0 1 x y) ⟨⟨ox0,oy0,ox1,oy1⟩,op⟩):=⟨hov,hq2⟩;clear hb2 hov hq2 HC;obtain ⟨r0,r1,r2,r3,r4⟩:=(H2.o.box 2 rfl).c5;obtain ⟨f0,f1,f2,f3,f4⟩:=(H2.o.box 2 rfl).f5;go_wp2_with fail;have h3:=bag_set5 H2.o 2 rfl (Y X ox0) (Y X oy0) (Y X ox1) (Y X oy1) (Z oa on oc);refine ret_bf (r:=⟨ox0,oy0,ox1,oy1⟩) (s:=Z oa on oc) rfl rfl (h3.box 2 rfl) rfl ⟨⟨⟨ox0,oy0,ox1,oy1⟩,op⟩,oa,on,oc,rfl,h3.below,⟨?_,HO.o.1.ok,HO.o.1.pl⟩,HO.o.2.1,fun x y hxy hne=>near_of HZ.o (HO.o.2.2 x y hxy hne)⟩;exact sl_set5 HO.o.1.sl (H2.o.box 2 rfl) _ _ _ _ _
theorem ix_px (p:Px) (i:Nat) (h:i<4) (W:World):(Instr.index 27 (pxv p) (Y X (i:Int))).run Tryz.prog W=.ok (Y J (ch p i)) W:=by
 match i,h with
 |0,_=>rfl
 |1,_=>rfl
 |2,_=>rfl
 |3,_=>rfl
def ArLaw (b:Bf) (x y rx ry:Int) (most:Bool) (n:Int):Prop:=Byte n∧(n≠0→if most=true then NearB b rx ry x y else atB b x y≠Px.zero)
def ArPost (b:Bf) (x y rx ry:Int) (most:Bool) (w:World) (e:Ending) (w':World):Prop:=∃ n,e=.returned (Y J n)∧Below w.heap.size w w'∧ArLaw b x y rx ry most n
theorem ch_ne {p:Px} {i:Nat} (h:ch p i≠0):p≠Px.zero:=fun e=>h (by rw [e];exact ch_zero i)
theorem around09_c (b:Bf) (x y rx ry:Int) (i:Nat) (most:Bool) (ba:Option Addr) (bn bc:Nat) (w:World) (hB:BfV w b (Z ba bn bc)) (hx : -1000000000≤x∧x≤1000000000) (hy : -1000000000≤y∧y≤1000000000) (hrx:0≤rx∧rx≤255) (hry:0≤ry∧ry≤255) (hi:i<4):Calls Tryz.prog 115 #[bfv b.box (Z ba bn bc),Y X x,Y X y,Y X rx,Y X ry,Y X i,.bool most] w (ArPost b x y rx ry most w):=by
 obtain ⟨⟨bx0,by0,bx1,by1⟩,bp⟩:=b;obtain ⟨x1,x2⟩:=hx;obtain ⟨y1,y2⟩:=hy;obtain ⟨rx1,rx2⟩:=hrx;obtain ⟨ry1,ry2⟩:=hry;have HI:Hid (i<4):=hi;have HAT:Hid (∀ (u v:Int) (W:World),Below w.heap.size w W→Calls Tryz.prog 9 #[.agg #[Y X bx0,Y X by0,Y X bx1,Y X by1,Z ba bn bc],Y X u,Y X v] W (PPost W (pxv (atB ⟨⟨bx0,by0,bx1,by1⟩,bp⟩ u v)))):=fun u v W h=>at05_c ⟨⟨bx0,by0,bx1,by1⟩,bp⟩ ba bn bc u v W (hB.below h);have HOK:Hid (∀ u v,(atB ⟨⟨bx0,by0,bx1,by1⟩,bp⟩ u v).Ok):=fun u v=>atB_ok hB.ok u v;have H0:Hid (Bag w (w.alloc (.cells #[Y X bx0,Y X by0,Y X bx1,Y X by1,Z ba bn bc] 43)) [(w.heap.size,(qS bx0 by0 bx1 by1 (Z ba bn bc)))]):=bag1 w (qS bx0 by0 bx1 by1 (Z ba bn bc)) _;obtain ⟨c,hc⟩:∃ c,c=atB ⟨⟨bx0,by0,bx1,by1⟩,bp⟩ x y:=⟨_,rfl⟩;have HC:Hid (∀ W,Below w.heap.size w W→Calls Tryz.prog 9 #[.agg #[Y X bx0,Y X by0,Y X bx1,Y X by1,Z ba bn bc],Y X x,Y X y] W (PPost W (pxv c))):=fun W h=>by rw [hc];exact HAT.o x y W h
 obtain ⟨cv,hcv⟩:∃ v,v=ch c i:=⟨_,rfl⟩;have hix:∀ W,(Instr.index 27 (.agg #[Y J c.r,Y J c.g,Y J c.b,Y J c.a]) (Y X (i:Int))).run Tryz.prog W=.ok (Y J cv) W:=fun W=>by rw [hcv];exact ix_px c i hi W
 have HL0:Hid (ArLaw ⟨⟨bx0,by0,bx1,by1⟩,bp⟩ x y rx ry most cv):=by
  refine ⟨by rw [hcv,hc];exact ch_byte (HOK.o x y) i,fun hne=>?_⟩;have h1:atB ⟨⟨bx0,by0,bx1,by1⟩,bp⟩ x y≠Px.zero:=by rw [←hc];rw [hcv] at hne;exact ch_ne hne
  cases most with
  |true=>exact ⟨x,y,by omega,by omega,h1⟩
  |false=>exact h1
 clear hB hc hcv hi;go_enter Tryz.func115,Tryz.ntmps115;go_wp2_with fail
 (with_reducible refine (HC.o _ H0.o.below).mono ?_);rintro e' W1 ⟨rfl,hb1⟩
 have H1:=Q (H0.o.call hb1);clear hb1 H0 HC;go_wp2_with fail;clear hix;go_loopw [15,16,17,18] (fun ov vv _ _ wr=>∃ (vy n:Int),y-ry≤vy∧vy≤y+ry+1∧vv=Y X vy∧ov=Y J n∧ArLaw ⟨⟨bx0,by0,bx1,by1⟩,bp⟩ x y rx ry most n∧Bag w wr [(w.heap.size,(qS bx0 by0 bx1 by1 (Z ba bn bc)))]) (fun _ vv _ _ _=>(y+ry+1-intOf vv).toNat)
 case atStart=>exact ⟨y-ry,cv,by omega,by omega,rfl,rfl,HL0.o,H1.o⟩
 case round=>
  clear HL0 H1;obtain ⟨vy,n,hv0,hv1,rfl,rfl,hl,hb⟩:=hrel;have HL:=Q hl;have H1:=Q hb;clear hl hb;by_cases hvl:vy≤y+ry
  ·go_wp2_with fail;go_loopw [15,17,18] (fun ov uv _ wr=>∃ (ux n:Int),x-rx≤ux∧ux≤x+rx+1∧uv=Y X ux∧ov=Y J n∧ArLaw ⟨⟨bx0,by0,bx1,by1⟩,bp⟩ x y rx ry most n∧Bag w wr [(w.heap.size,(qS bx0 by0 bx1 by1 (Z ba bn bc)))]) (fun _ uv _ _=>(x+rx+1-intOf uv).toNat)
   case atStart=>exact ⟨x-rx,n,by omega,by omega,rfl,rfl,HL.o,H1.o⟩
   case round=>
    clear HL H1;obtain ⟨ux,n,hu0,hu1,rfl,rfl,hl,hb⟩:=hrel;have HL:=Q hl;have H1:=Q hb;clear hl hb;by_cases hul:ux≤x+rx
    ·obtain ⟨p,hp⟩:∃ p,p=atB ⟨⟨bx0,by0,bx1,by1⟩,bp⟩ ux vy:=⟨_,rfl⟩;have HP:Hid (∀ W,Below w.heap.size w W→Calls Tryz.prog 9 #[.agg #[Y X bx0,Y X by0,Y X bx1,Y X by1,Z ba bn bc],Y X ux,Y X vy] W (PPost W (pxv p))):=fun W h=>by rw [hp];exact HAT.o ux vy W h
     obtain ⟨m,hm⟩:∃ v,v=ch p i:=⟨_,rfl⟩;have hix:∀ W,(Instr.index 27 (.agg #[Y J p.r,Y J p.g,Y J p.b,Y J p.a]) (Y X (i:Int))).run Tryz.prog W=.ok (Y J m) W:=fun W=>by rw [hm];exact ix_px p i HI.o W
     have HM:Hid (Byte m∧(m≠0→NearB ⟨⟨bx0,by0,bx1,by1⟩,bp⟩ rx ry x y)):=by
      refine ⟨by rw [hm,hp];exact ch_byte (HOK.o _ _) i,fun hne=>?_⟩;have h1:atB ⟨⟨bx0,by0,bx1,by1⟩,bp⟩ ux vy≠Px.zero:=by rw [←hp];rw [hm] at hne;exact ch_ne hne
      exact ⟨ux,vy,by omega,by omega,h1⟩
     have hmb:0≤m∧m≤255:=HM.o.1;have hnb:0≤n∧n≤255:=HL.o.1;obtain ⟨m0,m1⟩:=hmb;obtain ⟨n0,n1⟩:=hnb;clear hp hm;obtain ⟨e0,e1,e2,e3,e4⟩:=(H1.o.box 0 rfl).c5;go_wp2_with fail
     (with_reducible refine (HP.o _ H1.o.below).mono ?_);rintro e' W2 ⟨rfl,hb2⟩
     have H2:=Q (H1.o.call hb2);clear hb2 H1 HP e0 e1 e2 e3 e4
     cases most with
     |true=>
      by_cases h:n<m
      ·have hd:decide (n<m)=true:=decide_eq_true h;have HL2:Hid (ArLaw ⟨⟨bx0,by0,bx1,by1⟩,bp⟩ x y rx ry true m):=⟨HM.o.1,HM.o.2⟩;go_wp2_with fail;go_roundw
       case rel=>exact ⟨ux+1,m,by omega,by omega,by go_num,rfl,HL2.o,H2.o⟩
       case measure=>simp [intOf];omega
      ·have hd:decide (n<m)=false:=decide_eq_false h;go_wp2_with fail;go_roundw
       case rel=>exact ⟨ux+1,n,by omega,by omega,by go_num,rfl,HL.o,H2.o⟩
       case measure=>simp [intOf];omega
     |false=>
      by_cases h:m<n
      ·have hd:decide (m<n)=true:=decide_eq_true h;have HL2:Hid (ArLaw ⟨⟨bx0,by0,bx1,by1⟩,bp⟩ x y rx ry false m):=⟨HM.o.1,fun _=>HL.o.2 (by omega)⟩;go_wp2_with fail;go_roundw
       case rel=>exact ⟨ux+1,m,by omega,by omega,by go_num,rfl,HL2.o,H2.o⟩
       case measure=>simp [intOf];omega
      ·have hd:decide (m<n)=false:=decide_eq_false h;go_wp2_with fail;go_roundw
       case rel=>exact ⟨ux+1,n,by omega,by omega,by go_num,rfl,HL.o,H2.o⟩
       case measure=>simp [intOf];omega
    ·obtain rfl:ux=x+rx+1:=by omega
     go_wp2_with fail;go_roundw
     case rel=>exact ⟨vy+1,n,by omega,by omega,by go_num,rfl,HL.o,H1.o⟩
     case measure=>simp [intOf];omega
  ·obtain rfl:vy=y+ry+1:=by omega
   go_wp2_with fail;go_ret;exact ⟨n,rfl,H1.o.below,HL.o⟩
def setC (p:Px) (i:Nat) (m:Int):Px:=match i with
 |0=>{p with r:=m}
 |1=>{p with g:=m}
 |2=>{p with b:=m}
 |_=>{p with a:=m}
theorem setC_set (p:Px) (i:Nat) (m:Int) (h:i<4):(pxc p).set i (Y J m)=pxc (setC p i m):=by
 match i,h with
 |0,_=>rfl
 |1,_=>rfl
 |2,_=>rfl
 |3,_=>rfl
theorem setC_ok {p:Px} {i:Nat} {m:Int} (hp:p.Ok) (h:i<4) (hm:Byte m):(setC p i m).Ok:=by
 match i,h with
 |0,_=>exact ⟨hm,hp.2⟩
 |1,_=>exact ⟨hp.1,hm,hp.2.2⟩
 |2,_=>exact ⟨hp.1,hp.2.1,hm,hp.2.2.2⟩
 |3,_=>exact ⟨hp.1,hp.2.1,hp.2.2.1,hm⟩
theorem setC_ch (p:Px) (i:Nat) (m:Int) (j:Nat) (h:i<4) (hj:j<4):ch (setC p i m) j=if j=i then m else ch p j:=by
 match i,h,j,hj with
 |0,_,0,_=>rfl
 |0,_,1,_=>rfl
 |0,_,2,_=>rfl
 |0,_,3,_=>rfl
 |1,_,0,_=>rfl
 |1,_,1,_=>rfl
 |1,_,2,_=>rfl
 |1,_,3,_=>rfl
 |2,_,0,_=>rfl
 |2,_,1,_=>rfl
 |2,_,2,_=>rfl
 |2,_,3,_=>rfl
 |3,_,0,_=>rfl
 |3,_,1,_=>rfl
 |3,_,2,_=>rfl
 |3,_,3,_=>rfl
theorem box09_c (b:Bf) (r:Rc) (rx ry:Int) (most:Bool) (ba:Option Addr) (bn bc:Nat) (w:World) (hB:BfV w b (Z ba bn bc)) (hr:RcP r) (ha:areaR r≤2000000) (hr2:HfB r) (hrx:0≤rx∧rx≤255) (hry:0≤ry∧ry≤255):Calls Tryz.prog 86 #[bfv b.box (Z ba bn bc),rv r,Y X rx,Y X ry,.bool most] w (BPost w (MadeB r (fun x y p=>p≠Px.zero→if most=true then NearB b rx ry x y else atB b x y≠Px.zero))):=by
 obtain ⟨⟨bx0,by0,bx1,by1⟩,bp⟩:=b;obtain ⟨tx0,ty0,tx1,ty1⟩:=r;obtain ⟨⟨f0,f1⟩,⟨f2,f3⟩,⟨f4,f5⟩,f6,f7⟩:=hr2;dsimp only at f0 f1 f2 f3 f4 f5 f6 f7;obtain ⟨rx1,rx2⟩:=hrx;obtain ⟨ry1,ry2⟩:=hry;have HV:Hid (∀ W,Below w.heap.size w W→BfV W ⟨⟨bx0,by0,bx1,by1⟩,bp⟩ (Z ba bn bc)):=fun W h=>hB.below h;obtain ⟨Pf,hPf⟩:∃ Pf:Int→Int→Px→Prop,Pf=(fun x y p=>p≠Px.zero→if most=true then NearB ⟨⟨bx0,by0,bx1,by1⟩,bp⟩ rx ry x y else atB ⟨⟨bx0,by0,bx1,by1⟩,bp⟩ x y≠Px.zero):=⟨_,rfl⟩;have HPF:=Q hPf;rw [←hPf];have H0:Hid (Bag w ((((w.alloc (.cells #[Y X bx0,Y X by0,Y X bx1,Y X by1,Z ba bn bc] 43)).alloc (.cells #[Y X tx0,Y X ty0,Y X tx1,Y X ty1] 25)).alloc (.cells #[Y X 0,Y X 0,Y X 0,Y X 0,Z none 0 0] 43)).alloc (.cells #[Y X 0,Y X 0,Y X 0,Y X 0,Z none 0 0] 43)) [(w.heap.size,(qS bx0 by0 bx1 by1 (Z ba bn bc))),(w.heap.size+1,(qI tx0 ty0 tx1 ty1)),(w.heap.size+1+1,zS),(w.heap.size+1+1+1,zS)]):=bag4 w (qS bx0 by0 bx1 by1 (Z ba bn bc)) (qI tx0 ty0 tx1 ty1) zS zS _ _ _ _;obtain ⟨em,hem⟩:∃ e,e=Rc.emp ⟨tx0,ty0,tx1,ty1⟩:=⟨_,rfl⟩;have HEM:Hid (∀ W,Calls Tryz.prog 19 #[rv ⟨tx0,ty0,tx1,ty1⟩] W (PPost W (.bool em))):=fun W=>by rw [hem];exact rempty_c _ W
 have HE:=Q hem;have HBX:Hid (RcP ⟨tx0,ty0,tx1,ty1⟩∧areaN ⟨tx0,ty0,tx1,ty1⟩≤2000000):=⟨hr,by have:=area_eq ha;omega⟩;obtain ⟨⟨q0,q1⟩,⟨q2,q3⟩,⟨q4,q5⟩,q6,q7⟩:=hr;dsimp only at q0 q1 q2 q3 q4 q5 q6 q7;clear hPf hem ha hB;go_enter Tryz.func86,Tryz.ntmps86;go_wp2_with fail;refine (HEM.o _).mono ?_;rintro e' W1 ⟨rfl,hb1⟩;have H1:=Q (H0.o.call hb1);clear hb1 H0 HEM;obtain ⟨m0,m1,m2,m3,m4⟩:=(H1.o.box 3 rfl).c5;obtain ⟨mf0,mf1,mf2,mf3⟩:=(H1.o.box 3 rfl).f4;obtain ⟨e0,e1,e2,e3⟩:=(H1.o.box 1 rfl).c4
 cases em with
 |true=>
  obtain ⟨r0,r1,r2,r3,r4⟩:=(H1.o.box 2 rfl).c5;obtain ⟨f0,f1,f2,f3,f4⟩:=(H1.o.box 2 rfl).f5;go_wp2_with fail;have H2:=bag_set5 H1.o 2 rfl (Y X 0) (Y X 0) (Y X 0) (Y X 0) (Z none 0 0);refine ret_bf (r:=Rc.zero) (s:=Z none 0 0) rfl rfl (H2.box 2 rfl) rfl ⟨⟨Rc.zero,[]⟩,none,0,0,rfl,H2.below,BfV.nil _,?_,fun x y hxy=>?_⟩
  ·unfold boxR;rw [←HE.o];rfl
  ·have h:=HE.o.symm;rw [emp_iff] at h;rw [hasR_iff] at hxy;omega
 |false=>
  have he:=(emp_ff _).1 HE.o.symm;dsimp only at he;obtain ⟨hbx,hby⟩:=he;have H2:Hid (Bag w ((((W1.setCell ⟨w.heap.size+1+1+1,0,none⟩ (Y X tx0)).setCell ⟨w.heap.size+1+1+1,1,none⟩ (Y X ty0)).setCell ⟨w.heap.size+1+1+1,2,none⟩ (Y X tx1)).setCell ⟨w.heap.size+1+1+1,3,none⟩ (Y X ty1)) [(w.heap.size,(qS bx0 by0 bx1 by1 (Z ba bn bc))),(w.heap.size+1,(qI tx0 ty0 tx1 ty1)),(w.heap.size+1+1,zS),(w.heap.size+1+1+1,(qS tx0 ty0 tx1 ty1 (Z none 0 0)))]):=((((H1.o.set 3 rfl 0 (Y X tx0)).set 3 rfl 1 (Y X ty0)).set 3 rfl 2 (Y X tx1)).set 3 rfl 3 (Y X ty1));clear H1;go_upto_region 5 with fail;clear m0 m1 m2 m3 m4 mf0 mf1 mf2 mf3 e0 e1 e2 e3;generalize ((((W1.setCell ⟨w.heap.size+1+1+1,0,none⟩ (Y X tx0)).setCell ⟨w.heap.size+1+1+1,1,none⟩ (Y X ty0)).setCell ⟨w.heap.size+1+1+1,2,none⟩ (Y X tx1)).setCell ⟨w.heap.size+1+1+1,3,none⟩ (Y X ty1))=W2 at *;obtain ⟨B,hB⟩:∃ B,B=W2.heap.size:=⟨_,rfl⟩;have HM0:Hid (Mkg w W2 [(w.heap.size,(qS bx0 by0 bx1 by1 (Z ba bn bc))),(w.heap.size+1,(qI tx0 ty0 tx1 ty1)),(w.heap.size+1+1,zS),(w.heap.size+1+1+1,(qS tx0 ty0 tx1 ty1 (Z none 0 0)))] B ⟨tx0,ty0,tx1,ty1⟩ Pf 0 (Z none 0 0) []):=by rw [hB];exact Mkg.start _ _ H2.o
  clear hB H2;obtain ⟨e0,e1,e2,e3⟩:=(HM0.o.bg.box 1 rfl).c4;go_wp2_with fail;clear e0 e1 e2 e3;go_loopw [12,13,14,15] (fun yv _ _ _ wr=>∃ (yy:Int) (k:Nat) (a:Option Addr) (c:Nat) (l:List Px),ty0≤yy∧yy≤ty1∧yv=Y X yy∧k=cnt ⟨tx0,ty0,tx1,ty1⟩ tx0 yy∧Mkg w wr [(w.heap.size,(qS bx0 by0 bx1 by1 (Z ba bn bc))),(w.heap.size+1,(qI tx0 ty0 tx1 ty1)),(w.heap.size+1+1,zS),(w.heap.size+1+1+1,(qS tx0 ty0 tx1 ty1 (Z a k c)))] B ⟨tx0,ty0,tx1,ty1⟩ Pf k (Z a k c) l) (fun yv _ _ _ _=>(ty1-intOf yv).toNat)
  case atStart=>exact ⟨ty0,0,none,0,[],by omega,by omega,rfl,(cnt_start _).symm,HM0.o⟩
  case round=>
   clear HM0;obtain ⟨yy,k,a,c,l,hy0,hy1,rfl,hk,hM⟩:=hrel;have HM:=Q hM;have HK:=Q hk;clear hM hk;obtain ⟨e0,e1,e2,e3⟩:=(HM.o.bg.box 1 rfl).c4;by_cases hyl:yy<ty1
   ·go_wp2_with fail;go_loopw [13,14,15] (fun xv _ _ wr=>∃ (xx:Int) (k:Nat) (a:Option Addr) (c:Nat) (l:List Px),tx0≤xx∧xx≤tx1∧xv=Y X xx∧k=cnt ⟨tx0,ty0,tx1,ty1⟩ xx yy∧Mkg w wr [(w.heap.size,(qS bx0 by0 bx1 by1 (Z ba bn bc))),(w.heap.size+1,(qI tx0 ty0 tx1 ty1)),(w.heap.size+1+1,zS),(w.heap.size+1+1+1,(qS tx0 ty0 tx1 ty1 (Z a k c)))] B ⟨tx0,ty0,tx1,ty1⟩ Pf k (Z a k c) l) (fun xv _ _ _=>(tx1-intOf xv).toNat)
    case atStart=>exact ⟨tx0,k,a,c,l,by omega,by omega,rfl,HK.o,HM.o⟩
    case round=>
     clear HM HK e0 e1 e2 e3;obtain ⟨xx,k,a,c,l,hx0,hx1,rfl,hk,hM⟩:=hrel;have HM:=Q hM;have HK:=Q hk;clear hM hk;obtain ⟨e0,e1,e2,e3⟩:=(HM.o.bg.box 1 rfl).c4;by_cases hxl:xx<tx1
     ·have hR:hasR ⟨tx0,ty0,tx1,ty1⟩ xx yy=true:=by rw [hasR_iff];dsimp only;omega
      have hkb:k<2000000:=HM.o.le hR HK.o HBX.o.2;have HR:=Q hR;clear hR;obtain ⟨w5,hw5⟩:∃ w5,w5=wr:=⟨_,rfl⟩;subst hw5;have XA:Hid (Box (w5.alloc (.cells #[Y J 0,Y J 0,Y J 0,Y J 0] 27)) w5.heap.size (pxc Px.zero)):=Box.new w5 (pxc Px.zero) _;have MA:Hid (Mkg w (w5.alloc (.cells #[Y J 0,Y J 0,Y J 0,Y J 0] 27)) [(w.heap.size,(qS bx0 by0 bx1 by1 (Z ba bn bc))),(w.heap.size+1,(qI tx0 ty0 tx1 ty1)),(w.heap.size+1+1,zS),(w.heap.size+1+1+1,(qS tx0 ty0 tx1 ty1 (Z a k c)))] B ⟨tx0,ty0,tx1,ty1⟩ Pf k (Z a k c) l):=HM.o.alloc _;have HNV:Hid (B≤w5.heap.size∧(Value.slice a k c).ownBlock≠some w5.heap.size):=⟨HM.o.hi,fun e=>by have:=(World.ownsRow.lt HM.o.own _ e).2;omega⟩;clear HM;go_wp2_with fail;clear e0 e1 e2 e3;go_loopw [15] (fun iv wr=>∃ (i:Nat) (p:Px),i≤4∧iv=Y X i∧Mkg w wr [(w.heap.size,(qS bx0 by0 bx1 by1 (Z ba bn bc))),(w.heap.size+1,(qI tx0 ty0 tx1 ty1)),(w.heap.size+1+1,zS),(w.heap.size+1+1+1,(qS tx0 ty0 tx1 ty1 (Z a k c)))] B ⟨tx0,ty0,tx1,ty1⟩ Pf k (Z a k c) l∧Box wr w5.heap.size (pxc p)∧p.Ok∧∀ j,j<4→ArLaw ⟨⟨bx0,by0,bx1,by1⟩,bp⟩ xx yy rx ry most (ch p j)) (fun iv _=>4-(intOf iv).toNat)
      case atStart=>exact ⟨0,Px.zero,by omega,rfl,MA.out,XA.out,by refine ⟨?_,?_,?_,?_⟩<;>(unfold Byte Px.zero;dsimp only;omega),fun j hj=>by rw [ch_zero];exact ⟨by unfold Byte;omega,fun h=>absurd rfl h⟩⟩
      case round=>
       clear MA XA;obtain ⟨i,p,hi,rfl,hM2,hX2,hp2,hl2⟩:=hrel;have MB:=Q hM2;have XB:=Q hX2;have HP:Hid (p.Ok∧∀ j,j<4→ArLaw ⟨⟨bx0,by0,bx1,by1⟩,bp⟩ xx yy rx ry most (ch p j)):=⟨hp2,hl2⟩;clear hM2 hX2 hp2 hl2;by_cases hi4:i<4
       ·have HI:=Q hi4;have hi0:(0:Int)≤(i:Int):=by omega
        have hi1:(i:Int)<4:=by omega
        have HAR:Hid (∀ W,Below w.heap.size w W→Calls Tryz.prog 115 #[.agg #[Y X bx0,Y X by0,Y X bx1,Y X by1,Z ba bn bc],Y X xx,Y X yy,Y X rx,Y X ry,Y X i,.bool most] W (ArPost ⟨⟨bx0,by0,bx1,by1⟩,bp⟩ xx yy rx ry most W)):=fun W h=>around09_c ⟨⟨bx0,by0,bx1,by1⟩,bp⟩ xx yy rx ry i most ba bn bc W (HV.o W h) (by omega) (by omega) (by omega) (by omega) hi4;obtain ⟨e0,e1,e2,e3,e4⟩:=(MB.out.bg.box 0 rfl).c5;go_wp2_with fail
        (with_reducible refine (HAR.o _ MB.out.bg.below).mono ?_);rintro e' W2 ⟨m,rfl,hb2,hlm⟩
        have MC:=Q (MB.out.call hb2);have XC:=Q (XB.out.call hb2);have HLM:=Q hlm;clear hb2 hlm HAR MB XB e0 e1 e2 e3 e4;have cp:W2.cell? ⟨w5.heap.size,i,none⟩=some (Y J (ch p i)):=XC.out.cell i (pxc_get _ _ HI.o);have fp:=XC.out.frozen i;have HN:Hid (Mkg w (W2.setCell ⟨w5.heap.size,i,none⟩ (Y J m)) [(w.heap.size,(qS bx0 by0 bx1 by1 (Z ba bn bc))),(w.heap.size+1,(qI tx0 ty0 tx1 ty1)),(w.heap.size+1+1,zS),(w.heap.size+1+1+1,(qS tx0 ty0 tx1 ty1 (Z a k c)))] B ⟨tx0,ty0,tx1,ty1⟩ Pf k (Z a k c) l∧Box (W2.setCell ⟨w5.heap.size,i,none⟩ (Y J m)) w5.heap.size (pxc (setC p i m))∧(setC p i m).Ok∧∀ j,j<4→ArLaw ⟨⟨bx0,by0,bx1,by1⟩,bp⟩ xx yy rx ry most (ch (setC p i m) j)):=by
         refine ⟨MC.out.var1 HNV.o.1 HNV.o.2 _ _,?_,setC_ok HP.o.1 HI.o HLM.o.1,fun j hj=>?_⟩
         ·have h:=XC.out.self i (Y J m);rw [setC_set _ _ _ HI.o] at h;exact h
         ·rw [setC_ch _ _ _ _ HI.o hj]
          split
          ·exact HLM.o
          ·exact HP.o.2 j hj
        clear MC XC HP HLM;go_wp2_with fail;go_roundw
        case rel=>exact ⟨i+1,_,by omega,by go_num,HN.o.1,HN.o.2.1,HN.o.2.2.1,HN.o.2.2.2⟩
        case measure=>simp [intOf];omega
       ·obtain rfl:i=4:=by omega
        have HLW:Hid (p≠Px.zero→if most=true then NearB ⟨⟨bx0,by0,bx1,by1⟩,bp⟩ rx ry xx yy else atB ⟨⟨bx0,by0,bx1,by1⟩,bp⟩ xx yy≠Px.zero):=fun hne=>by
         by_cases g0:ch p 0=0
         ·by_cases g1:ch p 1=0
          ·by_cases g2:ch p 2=0
           ·by_cases g3:ch p 3=0
            ·refine absurd ?_ hne;obtain ⟨p0,p1,p2,p3⟩:=p;have g0:p0=0:=g0;have g1:p1=0:=g1;have g2:p2=0:=g2;have g3:p3=0:=g3;rw [g0,g1,g2,g3];rfl
            ·exact (HP.o.2 3 (by omega)).2 g3
           ·exact (HP.o.2 2 (by omega)).2 g2
          ·exact (HP.o.2 1 (by omega)).2 g1
         ·exact (HP.o.2 0 (by omega)).2 g0
        have HPO:Hid (p.Ok):=HP.o.1;clear HP;obtain ⟨p0,p1,p2,p3⟩:=p;obtain ⟨o0,o1,o2,o3,o4⟩:=(MB.out.bg.box 3 rfl).c5;have c0:wr.cell? ⟨w5.heap.size,0,none⟩=some (Y J p0):=XB.out.cell 0 rfl;have c1:wr.cell? ⟨w5.heap.size,1,none⟩=some (Y J p1):=XB.out.cell 1 rfl;have c2:wr.cell? ⟨w5.heap.size,2,none⟩=some (Y J p2):=XB.out.cell 2 rfl;have c3:wr.cell? ⟨w5.heap.size,3,none⟩=some (Y J p3):=XB.out.cell 3 rfl;go_wp2_with fail
        (with_reducible refine (with05_c B ⟨tx0,ty0,tx1,ty1⟩ a k c l ⟨p0,p1,p2,p3⟩ _ MB.out.own MB.out.hi (mkg_wl MB.out hkb)).mono ?_);rintro e' W7 ⟨g8,c8,rfl,hown8,hg8⟩
        have M8:Hid (Mkg w W7 [(w.heap.size,(qS bx0 by0 bx1 by1 (Z ba bn bc))),(w.heap.size+1,(qI tx0 ty0 tx1 ty1)),(w.heap.size+1+1,zS),(w.heap.size+1+1+1,(qS tx0 ty0 tx1 ty1 (Z a k c)))] B ⟨tx0,ty0,tx1,ty1⟩ Pf (k+1) (Z (some ⟨g8,0,none⟩) (k+1) c8) (l++[⟨p0,p1,p2,p3⟩])):=MB.out.next hown8 hg8 HPO.o HR.o HK.o (by rw [HPF.o];exact HLW.o);have M9:Hid (Mkg w (((((W7.setCell ⟨w.heap.size+1+1+1,0,none⟩ (Y X tx0)).setCell ⟨w.heap.size+1+1+1,1,none⟩ (Y X ty0)).setCell ⟨w.heap.size+1+1+1,2,none⟩ (Y X tx1)).setCell ⟨w.heap.size+1+1+1,3,none⟩ (Y X ty1)).setCell ⟨w.heap.size+1+1+1,4,none⟩ (Z (some ⟨g8,0,none⟩) (k+1) c8)) [(w.heap.size,(qS bx0 by0 bx1 by1 (Z ba bn bc))),(w.heap.size+1,(qI tx0 ty0 tx1 ty1)),(w.heap.size+1+1,zS),(w.heap.size+1+1+1,(qS tx0 ty0 tx1 ty1 (Z (some ⟨g8,0,none⟩) (k+1) c8)))] B ⟨tx0,ty0,tx1,ty1⟩ Pf (k+1) (Z (some ⟨g8,0,none⟩) (k+1) c8) (l++[⟨p0,p1,p2,p3⟩])):=M8.o.set5 3 rfl _ _ _ _ _;obtain ⟨s0,s1,s2,s3,s4⟩:=(M8.o.bg.box 3 rfl).c5;obtain ⟨sf0,sf1,sf2,sf3,sf4⟩:=(M8.o.bg.box 3 rfl).f5;clear hown8 hg8 M8 o0 o1 o2 o3 o4 c0 c1 c2 c3;go_wp2_with fail;go_roundw
        case rel=>exact ⟨xx+1,k+1,_,_,_,by omega,by omega,by go_num,by rw [HK.o,cnt_next HR.o],M9.o⟩
        case measure=>simp [intOf];omega
     ·obtain rfl:xx=tx1:=by omega
      have HC:Hid (k=cnt ⟨tx0,ty0,xx,ty1⟩ tx0 (yy+1)):=by rw [HK.o];exact cnt_row _ _ hbx
      go_wp2_with fail;go_roundw
      case rel=>exact ⟨yy+1,k,_,_,_,by omega,by omega,by go_num,HC.o,HM.o⟩
      case measure=>simp [intOf];omega
   ·obtain rfl:yy=ty1:=by omega
    have HD:Hid (k=areaN ⟨tx0,ty0,tx1,yy⟩):=by rw [HK.o];exact cnt_end (r:=⟨tx0,ty0,tx1,yy⟩) HE.o.symm
    have HM5:Hid (Mkg w wr [(w.heap.size,(qS bx0 by0 bx1 by1 (Z ba bn bc))),(w.heap.size+1,(qI tx0 ty0 tx1 yy)),(w.heap.size+1+1,zS),(w.heap.size+1+1+1,(qS tx0 ty0 tx1 yy (Z a k c)))] B ⟨tx0,ty0,tx1,yy⟩ Pf (areaN ⟨tx0,ty0,tx1,yy⟩) (Z a k c) l):=by rw [←HD.o];exact HM.o
    obtain ⟨m0,m1,m2,m3,m4⟩:=(HM.o.bg.box 3 rfl).c5;obtain ⟨r0,r1,r2,r3,r4⟩:=(HM.o.bg.box 2 rfl).c5;obtain ⟨f0,f1,f2,f3,f4⟩:=(HM.o.bg.box 2 rfl).f5;go_wp2_with fail;have M6:=HM5.o.set5 2 rfl (Y X tx0) (Y X ty0) (Y X tx1) (Y X yy) (Z a k c);refine ret_bf (r:=⟨tx0,ty0,tx1,yy⟩) (s:=Z a k c) rfl rfl (M6.bg.box 2 rfl) rfl ⟨⟨⟨tx0,ty0,tx1,yy⟩,l⟩,a,k,c,rfl,M6.bg.below,M6.done HBX.o.1,?_,fun x y hxy=>M6.row.all hxy⟩;unfold boxR;rw [←HE.o];rfl
def ppx (p:List Int) (f:Nat):Px:=⟨p.getD f 0,p.getD (f+1) 0,p.getD (f+2) 0,p.getD (f+3) 0⟩
def pbx (p:List Int) (f:Nat):Rc:=⟨p.getD f 0,p.getD (f+1) 0,p.getD (f+2) 0,p.getD (f+3) 0⟩
theorem pbx_drop (p:List Int) (f:Nat):pbx p f=pbox (p.drop f):=by
 unfold pbx pbox;simp [List.getD_eq_getElem?_getD]
theorem box13_0_c {F:Nat→Prop} (v:Value) (p:List Int) (w:World) (hF:∀ b,F b→b<w.heap.size) (h:SlOf RInt 1 F w v p) (h4:4≤p.length):Calls Tryz.prog 82 #[v,Y X 0] w (PPost w (rv (pbx p 0))):=by
 obtain ⟨a,cap,rfl,hc1,hc2,_,hcell⟩:=h.ints;obtain ⟨b,off,rfl,hFb,hc⟩:=hcell 0 (by omega);have HB:Hid (Bag w (w.alloc (.cells #[Y X 0,Y X 0,Y X 0,Y X 0] 25)) [(w.heap.size,zI)]):=bag1 w zI _;obtain ⟨x0,e0⟩:∃ x,x=p.getD 0 0:=⟨_,rfl⟩;obtain ⟨x1,e1⟩:∃ x,x=p.getD 1 0:=⟨_,rfl⟩;obtain ⟨x2,e2⟩:∃ x,x=p.getD 2 0:=⟨_,rfl⟩;obtain ⟨x3,e3⟩:∃ x,x=p.getD 3 0:=⟨_,rfl⟩;have c0:w.cell? ⟨b,off,none⟩=some (Y X x0):=by rw [e0];exact hc 0 (by omega)
 have c1:w.cell? ⟨b,off+1,none⟩=some (Y X x1):=by rw [e1];exact hc 1 (by omega)
 have c2:w.cell? ⟨b,off+2,none⟩=some (Y X x2):=by rw [e2];exact hc 2 (by omega)
 have c3:w.cell? ⟨b,off+3,none⟩=some (Y X x3):=by rw [e3];exact hc 3 (by omega)
 have HE:Hid (pbx p 0=⟨x0,x1,x2,x3⟩):=by rw [e0,e1,e2,e3];rfl
 obtain ⟨n,hn⟩:∃ n,n=p.length:=⟨_,rfl⟩;rw [HE.o];rw [←hn] at hc1 h4 ⊢;unfold maxLen at hc2;clear h hcell hc hn e0 e1 e2 e3 hF hFb;go_enter Tryz.func82,Tryz.ntmps82;have hcl:∀ j u,w.cell? ⟨b,j,none⟩=some u→(w.alloc (.cells #[Y X 0,Y X 0,Y X 0,Y X 0] 25)).cell? ⟨b,j,none⟩=some u:=fun j u h=>cell_alloc_lt h _;have d0:=hcl _ _ c0;have d1:=hcl _ _ c1;have d2:=hcl _ _ c2;have d3:=hcl _ _ c3;clear hcl c0 c1 c2 c3;go_wp2_with fail;generalize (w.alloc (.cells #[Y X 0,Y X 0,Y X 0,Y X 0] 25))=W0 at *;obtain ⟨k0,k1,k2,k3⟩:=kept4 d0 d1 d2 d3;clear d0 d1 d2 d3;refine wp_region_kept_tail W0.heap.size 20 _ rfl (by kernel_rfl) (by kernel_rfl) ?_;simp only [O,U,V,E]
 repeat (go_big_quiet_step (fail))
 refine wpQuiet_nil ?_;intro s;refine ⟨?_⟩;have H1:=Q (HB.o.call s.below);clear k0 k1 k2 k3;have r0:=H1.o.cell 0 rfl 0 rfl;have f0:=H1.o.frozen 0 rfl 0;have r1:=H1.o.cell 0 rfl 1 rfl;have f1:=H1.o.frozen 0 rfl 1;have r2:=H1.o.cell 0 rfl 2 rfl;have f2:=H1.o.frozen 0 rfl 2;have r3:=H1.o.cell 0 rfl 3 rfl;have f3:=H1.o.frozen 0 rfl 3;go_wp2_with fail;have H2:=H1.o.set4 0 rfl (Y X x0) (Y X x1) (Y X x2) (Y X x3);exact ret_rect (r:=⟨x0,x1,x2,x3⟩) rfl rfl (H2.box 0 rfl) rfl ⟨rfl,H2.below⟩
theorem box13_4_c {F:Nat→Prop} (v:Value) (p:List Int) (w:World) (hF:∀ b,F b→b<w.heap.size) (h:SlOf RInt 1 F w v p) (h4:8≤p.length):Calls Tryz.prog 82 #[v,Y X 4] w (PPost w (rv (pbx p 4))):=by
 obtain ⟨a,cap,rfl,hc1,hc2,_,hcell⟩:=h.ints;obtain ⟨b,off,rfl,hFb,hc⟩:=hcell 0 (by omega);have HB:Hid (Bag w (w.alloc (.cells #[Y X 0,Y X 0,Y X 0,Y X 0] 25)) [(w.heap.size,zI)]):=bag1 w zI _;obtain ⟨x0,e0⟩:∃ x,x=p.getD 4 0:=⟨_,rfl⟩;obtain ⟨x1,e1⟩:∃ x,x=p.getD 5 0:=⟨_,rfl⟩;obtain ⟨x2,e2⟩:∃ x,x=p.getD 6 0:=⟨_,rfl⟩;obtain ⟨x3,e3⟩:∃ x,x=p.getD 7 0:=⟨_,rfl⟩;have c0:w.cell? ⟨b,off+4,none⟩=some (Y X x0):=by rw [e0];exact hc 4 (by omega)
 have c1:w.cell? ⟨b,off+5,none⟩=some (Y X x1):=by rw [e1];exact hc 5 (by omega)
 have c2:w.cell? ⟨b,off+6,none⟩=some (Y X x2):=by rw [e2];exact hc 6 (by omega)
 have c3:w.cell? ⟨b,off+7,none⟩=some (Y X x3):=by rw [e3];exact hc 7 (by omega)
 have HE:Hid (pbx p 4=⟨x0,x1,x2,x3⟩):=by rw [e0,e1,e2,e3];rfl
 obtain ⟨n,hn⟩:∃ n,n=p.length:=⟨_,rfl⟩;rw [HE.o];rw [←hn] at hc1 h4 ⊢;unfold maxLen at hc2;clear h hcell hc hn e0 e1 e2 e3 hF hFb;go_enter Tryz.func82,Tryz.ntmps82;have hcl:∀ j u,w.cell? ⟨b,j,none⟩=some u→(w.alloc (.cells #[Y X 0,Y X 0,Y X 0,Y X 0] 25)).cell? ⟨b,j,none⟩=some u:=fun j u h=>cell_alloc_lt h _;have d0:=hcl _ _ c0;have d1:=hcl _ _ c1;have d2:=hcl _ _ c2;have d3:=hcl _ _ c3;clear hcl c0 c1 c2 c3;go_wp2_with fail;generalize (w.alloc (.cells #[Y X 0,Y X 0,Y X 0,Y X 0] 25))=W0 at *;obtain ⟨k0,k1,k2,k3⟩:=kept4 d0 d1 d2 d3;clear d0 d1 d2 d3;refine wp_region_kept_tail W0.heap.size 20 _ rfl (by kernel_rfl) (by kernel_rfl) ?_;simp only [O,U,V,E]
 repeat (go_big_quiet_step (fail))
 refine wpQuiet_nil ?_;intro s;refine ⟨?_⟩;have H1:=Q (HB.o.call s.below);clear k0 k1 k2 k3;have r0:=H1.o.cell 0 rfl 0 rfl;have f0:=H1.o.frozen 0 rfl 0;have r1:=H1.o.cell 0 rfl 1 rfl;have f1:=H1.o.frozen 0 rfl 1;have r2:=H1.o.cell 0 rfl 2 rfl;have f2:=H1.o.frozen 0 rfl 2;have r3:=H1.o.cell 0 rfl 3 rfl;have f3:=H1.o.frozen 0 rfl 3;go_wp2_with fail;have H2:=H1.o.set4 0 rfl (Y X x0) (Y X x1) (Y X x2) (Y X x3);exact ret_rect (r:=⟨x0,x1,x2,x3⟩) rfl rfl (H2.box 0 rfl) rfl ⟨rfl,H2.below⟩
theorem pixel15_0_c {F:Nat→Prop} (v:Value) (p:List Int) (w:World) (hF:∀ b,F b→b<w.heap.size) (h:SlOf RInt 1 F w v p) (h4:4≤p.length) (hx:∀ j,j<4→0≤p.getD (0+j) 0∧p.getD (0+j) 0≤255):Calls Tryz.prog 88 #[v,Y X 0] w (PPost w (pxv (ppx p 0))):=by
 obtain ⟨a,cap,rfl,hc1,hc2,_,hcell⟩:=h.ints;obtain ⟨b,off,rfl,hFb,hc⟩:=hcell 0 (by omega);have HB:Hid (Bag w (w.alloc (.cells #[Y J 0,Y J 0,Y J 0,Y J 0] 27)) [(w.heap.size,zU)]):=bag1 w zU _;obtain ⟨x0,e0⟩:∃ x,x=p.getD 0 0:=⟨_,rfl⟩;obtain ⟨x1,e1⟩:∃ x,x=p.getD 1 0:=⟨_,rfl⟩;obtain ⟨x2,e2⟩:∃ x,x=p.getD 2 0:=⟨_,rfl⟩;obtain ⟨x3,e3⟩:∃ x,x=p.getD 3 0:=⟨_,rfl⟩;have c0:w.cell? ⟨b,off,none⟩=some (Y X x0):=by rw [e0];exact hc 0 (by omega)
 have c1:w.cell? ⟨b,off+1,none⟩=some (Y X x1):=by rw [e1];exact hc 1 (by omega)
 have c2:w.cell? ⟨b,off+2,none⟩=some (Y X x2):=by rw [e2];exact hc 2 (by omega)
 have c3:w.cell? ⟨b,off+3,none⟩=some (Y X x3):=by rw [e3];exact hc 3 (by omega)
 have HE:Hid (ppx p 0=⟨x0,x1,x2,x3⟩):=by rw [e0,e1,e2,e3];rfl
 have g0:0≤x0∧x0≤255:=by rw [e0];exact hx 0 (by omega)
 obtain ⟨g00,g01⟩:=g0;have w0:IntKind.u8.wrap x0=x0:=by unfold IntKind.wrap;simp [IntKind.signed,IntKind.bits];omega
 have g1:0≤x1∧x1≤255:=by rw [e1];exact hx 1 (by omega)
 obtain ⟨g10,g11⟩:=g1;have w1:IntKind.u8.wrap x1=x1:=by unfold IntKind.wrap;simp [IntKind.signed,IntKind.bits];omega
 have g2:0≤x2∧x2≤255:=by rw [e2];exact hx 2 (by omega)
 obtain ⟨g20,g21⟩:=g2;have w2:IntKind.u8.wrap x2=x2:=by unfold IntKind.wrap;simp [IntKind.signed,IntKind.bits];omega
 have g3:0≤x3∧x3≤255:=by rw [e3];exact hx 3 (by omega)
 obtain ⟨g30,g31⟩:=g3;have w3:IntKind.u8.wrap x3=x3:=by unfold IntKind.wrap;simp [IntKind.signed,IntKind.bits];omega
 obtain ⟨n,hn⟩:∃ n,n=p.length:=⟨_,rfl⟩;rw [HE.o];rw [←hn] at hc1 h4 ⊢;unfold maxLen at hc2;clear h hcell hc hn e0 e1 e2 e3 hF hFb hx;go_enter Tryz.func88,Tryz.ntmps88;have hcl:∀ j u,w.cell? ⟨b,j,none⟩=some u→(w.alloc (.cells #[Y J 0,Y J 0,Y J 0,Y J 0] 27)).cell? ⟨b,j,none⟩=some u:=fun j u h=>cell_alloc_lt h _;have d0:=hcl _ _ c0;have d1:=hcl _ _ c1;have d2:=hcl _ _ c2;have d3:=hcl _ _ c3;clear hcl c0 c1 c2 c3;go_wp2_with fail;generalize (w.alloc (.cells #[Y J 0,Y J 0,Y J 0,Y J 0] 27))=W0 at *;obtain ⟨k0,k1,k2,k3⟩:=kept4 d0 d1 d2 d3;clear d0 d1 d2 d3;refine wp_region_kept_tail W0.heap.size 24 _ rfl (by kernel_rfl) (by kernel_rfl) ?_;simp only [O,U,V,E]
 repeat (go_big_quiet_step (fail))
 refine wpQuiet_nil ?_;intro s;refine ⟨?_⟩;have H1:=Q (HB.o.call s.below);clear k0 k1 k2 k3;have r0:=H1.o.cell 0 rfl 0 rfl;have f0:=H1.o.frozen 0 rfl 0;have r1:=H1.o.cell 0 rfl 1 rfl;have f1:=H1.o.frozen 0 rfl 1;have r2:=H1.o.cell 0 rfl 2 rfl;have f2:=H1.o.frozen 0 rfl 2;have r3:=H1.o.cell 0 rfl 3 rfl;have f3:=H1.o.frozen 0 rfl 3;go_wp2_with fail;have H2:=H1.o.set4 0 rfl (Y J x0) (Y J x1) (Y J x2) (Y J x3);exact ret_px (p:=⟨x0,x1,x2,x3⟩) rfl rfl (H2.box 0 rfl) rfl ⟨rfl,H2.below⟩
theorem pixel15_4_c {F:Nat→Prop} (v:Value) (p:List Int) (w:World) (hF:∀ b,F b→b<w.heap.size) (h:SlOf RInt 1 F w v p) (h4:8≤p.length) (hx:∀ j,j<4→0≤p.getD (4+j) 0∧p.getD (4+j) 0≤255):Calls Tryz.prog 88 #[v,Y X 4] w (PPost w (pxv (ppx p 4))):=by
 obtain ⟨a,cap,rfl,hc1,hc2,_,hcell⟩:=h.ints;obtain ⟨b,off,rfl,hFb,hc⟩:=hcell 0 (by omega);have HB:Hid (Bag w (w.alloc (.cells #[Y J 0,Y J 0,Y J 0,Y J 0] 27)) [(w.heap.size,zU)]):=bag1 w zU _;obtain ⟨x0,e0⟩:∃ x,x=p.getD 4 0:=⟨_,rfl⟩;obtain ⟨x1,e1⟩:∃ x,x=p.getD 5 0:=⟨_,rfl⟩;obtain ⟨x2,e2⟩:∃ x,x=p.getD 6 0:=⟨_,rfl⟩;obtain ⟨x3,e3⟩:∃ x,x=p.getD 7 0:=⟨_,rfl⟩;have c0:w.cell? ⟨b,off+4,none⟩=some (Y X x0):=by rw [e0];exact hc 4 (by omega)
 have c1:w.cell? ⟨b,off+5,none⟩=some (Y X x1):=by rw [e1];exact hc 5 (by omega)
 have c2:w.cell? ⟨b,off+6,none⟩=some (Y X x2):=by rw [e2];exact hc 6 (by omega)
 have c3:w.cell? ⟨b,off+7,none⟩=some (Y X x3):=by rw [e3];exact hc 7 (by omega)
 have HE:Hid (ppx p 4=⟨x0,x1,x2,x3⟩):=by rw [e0,e1,e2,e3];rfl
 have g0:0≤x0∧x0≤255:=by rw [e0];exact hx 0 (by omega)
 obtain ⟨g00,g01⟩:=g0;have w0:IntKind.u8.wrap x0=x0:=by unfold IntKind.wrap;simp [IntKind.signed,IntKind.bits];omega
 have g1:0≤x1∧x1≤255:=by rw [e1];exact hx 1 (by omega)
 obtain ⟨g10,g11⟩:=g1;have w1:IntKind.u8.wrap x1=x1:=by unfold IntKind.wrap;simp [IntKind.signed,IntKind.bits];omega
 have g2:0≤x2∧x2≤255:=by rw [e2];exact hx 2 (by omega)
 obtain ⟨g20,g21⟩:=g2;have w2:IntKind.u8.wrap x2=x2:=by unfold IntKind.wrap;simp [IntKind.signed,IntKind.bits];omega
 have g3:0≤x3∧x3≤255:=by rw [e3];exact hx 3 (by omega)
 obtain ⟨g30,g31⟩:=g3;have w3:IntKind.u8.wrap x3=x3:=by unfold IntKind.wrap;simp [IntKind.signed,IntKind.bits];omega
 obtain ⟨n,hn⟩:∃ n,n=p.length:=⟨_,rfl⟩;rw [HE.o];rw [←hn] at hc1 h4 ⊢;unfold maxLen at hc2;clear h hcell hc hn e0 e1 e2 e3 hF hFb hx;go_enter Tryz.func88,Tryz.ntmps88;have hcl:∀ j u,w.cell? ⟨b,j,none⟩=some u→(w.alloc (.cells #[Y J 0,Y J 0,Y J 0,Y J 0] 27)).cell? ⟨b,j,none⟩=some u:=fun j u h=>cell_alloc_lt h _;have d0:=hcl _ _ c0;have d1:=hcl _ _ c1;have d2:=hcl _ _ c2;have d3:=hcl _ _ c3;clear hcl c0 c1 c2 c3;go_wp2_with fail;generalize (w.alloc (.cells #[Y J 0,Y J 0,Y J 0,Y J 0] 27))=W0 at *;obtain ⟨k0,k1,k2,k3⟩:=kept4 d0 d1 d2 d3;clear d0 d1 d2 d3;refine wp_region_kept_tail W0.heap.size 24 _ rfl (by kernel_rfl) (by kernel_rfl) ?_;simp only [O,U,V,E]
 repeat (go_big_quiet_step (fail))
 refine wpQuiet_nil ?_;intro s;refine ⟨?_⟩;have H1:=Q (HB.o.call s.below);clear k0 k1 k2 k3;have r0:=H1.o.cell 0 rfl 0 rfl;have f0:=H1.o.frozen 0 rfl 0;have r1:=H1.o.cell 0 rfl 1 rfl;have f1:=H1.o.frozen 0 rfl 1;have r2:=H1.o.cell 0 rfl 2 rfl;have f2:=H1.o.frozen 0 rfl 2;have r3:=H1.o.cell 0 rfl 3 rfl;have f3:=H1.o.frozen 0 rfl 3;go_wp2_with fail;have H2:=H1.o.set4 0 rfl (Y J x0) (Y J x1) (Y J x2) (Y J x3);exact ret_px (p:=⟨x0,x1,x2,x3⟩) rfl rfl (H2.box 0 rfl) rfl ⟨rfl,H2.below⟩
def RBf:Rep Bf:=fun F w cs b=>∃ a n c,cs=bfc b.box (Z a n c)∧SlOf RPx 4 F w (Z a n c) b.pix∧BfOk b∧RcP b.box
theorem RBf.ok:RBf.Ok:=
 ⟨fun _ _ _ _ _ hs ⟨a,n,c,h1,h2,h3⟩=>⟨a,n,c,h1,h2.same RPx.ok hs,h3⟩,fun _ _ _ _ _ hg ⟨a,n,c,h1,h2,h3⟩=>⟨a,n,c,h1,h2.mono RPx.ok hg,h3⟩⟩
theorem bfs_below {w W:World} {v:Value} {bs:List Bf} (h:SlOf RBf 5 (·<w.heap.size) w v bs) (hb:Below w.heap.size w W):SlOf RBf 5 (·<W.heap.size) W v bs:=
 (h.same RBf.ok (Same.of_below hb fun _ h=>h)).mono RBf.ok fun _ h=>Nat.lt_of_lt_of_le h hb.size
theorem bfs_at {w:World} {v:Value} {bs:List Bf} (h:SlOf RBf 5 (·<w.heap.size) w v bs) {i:Nat} {b:Bf} (hi:bs[i]?=some b):
  ∃ ib io cap a n c,v=Z (some ⟨ib,io,none⟩) bs.length cap∧bs.length≤cap∧cap≤maxLen∧(∀ j u,(bfc b.box (Z a n c))[j]?=some u→w.cell? ⟨ib,io+i*5+j,none⟩=some u)∧BfV w b (Z a n c):=by
 obtain ⟨p,cap,hv,h1,h2,h3⟩:=h
 rcases h3 with h3|⟨ib,io,rfl,_,h3⟩
 ·subst h3;simp at hi
 ·obtain ⟨cs,_,hc,a,n,c,rfl,h4,h5,h6⟩:=h3 i b hi;exact ⟨ib,io,cap,a,n,c,hv,h1,h2,hc,h4,h5,h6⟩
theorem BfV.set5 {W:World} {b:Bf} {s:Value} (h:BfV W b s) {a:Nat} {i0 i1 i2 i3:Int} {oa:Option Addr} {on oc:Nat} (hx:Box W a (qS i0 i1 i2 i3 (Z oa on oc))) (u0 u1 u2 u3 u4:Value):
  BfV (((((W.setCell ⟨a,0,none⟩ u0).setCell ⟨a,1,none⟩ u1).setCell ⟨a,2,none⟩ u2).setCell ⟨a,3,none⟩ u3).setCell ⟨a,4,none⟩ u4) b s:=⟨sl_set5 h.sl hx _ _ _ _ _,h.ok,h.pl⟩
def MrgB (r:Rc) (bs:List Bf) (o:Bf):Prop:=o.box=boxR r∧∀ x y,atB o x y≠Px.zero→∃ b∈bs,atB b x y≠Px.zero
theorem mrg_step {r:Rc} {bs:List Bf} {i:Nat} {b o o':Bf} (h:MrgB r (bs.take i) o) (hi:bs[i]?=some b) (hm:MadeB r (fun x y p=>p=cmpP 0 (atB b x y) (atB o x y)) o'):MrgB r (bs.take (i+1)) o':=by
 refine ⟨hm.1,fun x y hne=>?_⟩;have hxy:hasR r x y=true:=by
  cases hc:hasR r x y with
  |true=>rfl
  |false=>exact absurd (atB_out (by rw [hm.1,has_box];exact hc)) hne
 have h1:=hm.2 x y hxy;rw [List.take_add_one,hi];by_cases e:atB b x y=Px.zero
 ·by_cases e2:atB o x y=Px.zero
  ·rw [h1,e,e2,cmpP_zero] at hne;exact absurd rfl hne
  ·obtain ⟨q,hq,h2⟩:=h.2 x y e2;exact ⟨q,List.mem_append_left _ hq,h2⟩
 ·exact ⟨b,List.mem_append_right _ (by simp),e⟩
theorem merge10_c (v:Value) (bs:List Bf) (r:Rc) (w:World) (hv:SlOf RBf 5 (·<w.heap.size) w v bs) (hr:RcP r) (ha:areaR r≤2000000):Calls Tryz.prog 89 #[v,rv r] w (BPost w (MrgB r bs)):=by
 obtain ⟨tx0,ty0,tx1,ty1⟩:=r;obtain ⟨va,vn,vc,rfl⟩:=sl_form hv;have hvn:vn=bs.length∧vn≤9223372036854775807:=by
  have h1:=hv.len_le;obtain ⟨_,_,h2,_⟩:=hv;simp only [Value.slice.injEq] at h2;exact ⟨h2.2.1,by rw [h2.2.1];exact h1⟩
 have HV:Hid (∀ W,Below w.heap.size w W→SlOf RBf 5 (·<W.heap.size) W (Z va vn vc) bs):=fun W h=>bfs_below hv h;have HN:Hid (vn=bs.length):=hvn.1;have hvl:=hvn.2;have HR:Hid (RcP ⟨tx0,ty0,tx1,ty1⟩∧areaR ⟨tx0,ty0,tx1,ty1⟩≤2000000):=⟨hr,ha⟩;have HNW:Hid (∀ W,Calls Tryz.prog 24 #[rv ⟨tx0,ty0,tx1,ty1⟩] W (BPost W (ZeroB ⟨tx0,ty0,tx1,ty1⟩))):=fun W=>new05_c ⟨tx0,ty0,tx1,ty1⟩ W hr ha;have H0:Hid (Bag w ((w.alloc (.cells #[Y X tx0,Y X ty0,Y X tx1,Y X ty1] 25)).alloc (.cells #[Y X 0,Y X 0,Y X 0,Y X 0,Z none 0 0] 43)) [(w.heap.size,(qI tx0 ty0 tx1 ty1)),(w.heap.size+1,zS)]):=bag2 w (qI tx0 ty0 tx1 ty1) zS _ _;clear hv hvn hr ha;go_enter Tryz.func89,Tryz.ntmps89;go_wp2_with fail;refine (HNW.o _).mono ?_;rintro e' W1 ⟨⟨⟨nx0,ny0,nx1,ny1⟩,np⟩,na,nn,nc,rfl,hb1,hbv,hz⟩;have H1:Hid (Bag w (W1.alloc (.cells #[Y X nx0,Y X ny0,Y X nx1,Y X ny1,Z na nn nc] 43)) [(w.heap.size,(qI tx0 ty0 tx1 ty1)),(w.heap.size+1,zS),(W1.heap.size,(qS nx0 ny0 nx1 ny1 (Z na nn nc)))]):=(H0.o.call hb1).alloc (qS nx0 ny0 nx1 ny1 (Z na nn nc)) _;have HO1:Hid (BfV (W1.alloc (.cells #[Y X nx0,Y X ny0,Y X nx1,Y X ny1,Z na nn nc] 43)) ⟨⟨nx0,ny0,nx1,ny1⟩,np⟩ (Z na nn nc)∧MrgB ⟨tx0,ty0,tx1,ty1⟩ (bs.take 0) ⟨⟨nx0,ny0,nx1,ny1⟩,np⟩):=⟨hbv.below (below_alloc _ _),hz.1,fun x y h=>absurd (hz.2 x y) h⟩;clear hb1 hbv hz H0 HNW;go_wp2_with fail;generalize (W1.alloc (.cells #[Y X nx0,Y X ny0,Y X nx1,Y X ny1,Z na nn nc] 43))=W2 at *;go_loopw [6] (fun iv wr=>∃ (i:Nat) (o:Bf) (oa:Option Addr) (on oc:Nat),i≤vn∧iv=Y X i∧Bag w wr [(w.heap.size,(qI tx0 ty0 tx1 ty1)),(w.heap.size+1,zS),(W1.heap.size,bfc o.box (Z oa on oc))]∧BfV wr o (Z oa on oc)∧MrgB ⟨tx0,ty0,tx1,ty1⟩ (bs.take i) o) (fun iv _=>vn-(intOf iv).toNat)
 case atStart=>exact ⟨0,⟨⟨nx0,ny0,nx1,ny1⟩,np⟩,na,nn,nc,by omega,rfl,H1.o,HO1.o.1,HO1.o.2⟩
 case round=>
  clear H1 HO1;obtain ⟨i,⟨⟨ox0,oy0,ox1,oy1⟩,op⟩,oa,on,oc,hi,rfl,hb,hbv,hm⟩:=hrel;have H3:=Q hb;have HO:Hid (BfV wr ⟨⟨ox0,oy0,ox1,oy1⟩,op⟩ (Z oa on oc)∧MrgB ⟨tx0,ty0,tx1,ty1⟩ (bs.take i) ⟨⟨ox0,oy0,ox1,oy1⟩,op⟩):=⟨hbv,hm⟩;clear hb hbv hm;by_cases hil:i<vn
  ·obtain ⟨b,hbi⟩:∃ b,bs[i]?=some b:=⟨_,List.getElem?_eq_getElem (by rw [←HN.o];exact hil)⟩;obtain ⟨ib,io,cap,ba,bn,bc,hveq,hcap,hcm,hcs,hbB⟩:=bfs_at (HV.o wr H3.o.below) hbi;simp only [Value.slice.injEq] at hveq;obtain ⟨rfl,hnn,rfl⟩:=hveq;clear hnn;obtain ⟨⟨bx0,by0,bx1,by1⟩,bp⟩:=b;have HBI:Hid (bs[i]?=some ⟨⟨bx0,by0,bx1,by1⟩,bp⟩∧BfV wr ⟨⟨bx0,by0,bx1,by1⟩,bp⟩ (Z ba bn bc)):=⟨hbi,hbB⟩;have hcap2:vn≤vc:=by rw [HN.o];exact hcap
   unfold maxLen at hcm;have c0:wr.cell? ⟨ib,io+i*5,none⟩=some (Y X bx0):=hcs 0 _ rfl;have c1:wr.cell? ⟨ib,io+i*5+1,none⟩=some (Y X by0):=hcs 1 _ rfl;have c2:wr.cell? ⟨ib,io+i*5+2,none⟩=some (Y X bx1):=hcs 2 _ rfl;have c3:wr.cell? ⟨ib,io+i*5+3,none⟩=some (Y X by1):=hcs 3 _ rfl;have c4:wr.cell? ⟨ib,io+i*5+4,none⟩=some (Z ba bn bc):=hcs 4 _ rfl;obtain ⟨d0,d1,d2,d3,d4⟩:=(H3.o.box 2 rfl).c5;obtain ⟨e0,e1,e2,e3⟩:=(H3.o.box 0 rfl).c4;have hi0:(0:Int)≤(i:Int):=by omega
   have hi1:(i:Int)<(vn:Int):=by omega
   clear hcs hbB hbi hcap;go_wp2_with fail;obtain ⟨kc0,kc1,kc2,kc3,kc4,kd0,kd1,kd2⟩:=kept8 c0 c1 c2 c3 c4 d0 d1 d2;obtain ⟨kd3,kd4,ke0,ke1,ke2,ke3⟩:=kept6 d3 d4 e0 e1 e2 e3;clear c0 c1 c2 c3 c4 d0 d1 d2 d3 d4 e0 e1 e2 e3;refine wp_region_kept_tail wr.heap.size 6 _ rfl (by kernel_rfl) (by kernel_rfl) ?_;simp only [O,U,V,E]
   repeat (go_big_quiet_step (fail))
   refine wpQuiet_nil ?_;intro s;refine ⟨?_⟩;have H4:=Q (H3.o.call s.below);have HOV:Hid (Calls Tryz.prog 117 #[.agg #[Y X bx0,Y X by0,Y X bx1,Y X by1,Z ba bn bc],.agg #[Y X ox0,Y X oy0,Y X ox1,Y X oy1,Z oa on oc],rv ⟨tx0,ty0,tx1,ty1⟩] s.w (BPost s.w (MadeB ⟨tx0,ty0,tx1,ty1⟩ fun x y p=>p=cmpP 0 (atB ⟨⟨bx0,by0,bx1,by1⟩,bp⟩ x y) (atB ⟨⟨ox0,oy0,ox1,oy1⟩,op⟩ x y)))):=over10_c ⟨⟨bx0,by0,bx1,by1⟩,bp⟩ ⟨⟨ox0,oy0,ox1,oy1⟩,op⟩ ⟨tx0,ty0,tx1,ty1⟩ ba oa bn bc on oc s.w (HBI.o.2.below s.below) (HO.o.1.below s.below) HR.o.1 HR.o.2;clear kc0 kc1 kc2 kc3 kc4 kd0 kd1 kd2 kd3 kd4 ke0 ke1 ke2 ke3 H3;go_wp2_with fail
   (with_reducible refine HOV.o.mono ?_);rintro e' W5 ⟨⟨⟨zx0,zy0,zx1,zy1⟩,zp⟩,za,zn,zc,rfl,hb5,hbv5,hm5⟩
   have H5:=Q (H4.o.call hb5);have H6:=bag_set5 H5.o 2 rfl (Y X zx0) (Y X zy0) (Y X zx1) (Y X zy1) (Z za zn zc);have HF:Hid (Bag w (((((W5.setCell ⟨W1.heap.size,0,none⟩ (Y X zx0)).setCell ⟨W1.heap.size,1,none⟩ (Y X zy0)).setCell ⟨W1.heap.size,2,none⟩ (Y X zx1)).setCell ⟨W1.heap.size,3,none⟩ (Y X zy1)).setCell ⟨W1.heap.size,4,none⟩ (Z za zn zc)) [(w.heap.size,(qI tx0 ty0 tx1 ty1)),(w.heap.size+1,zS),(W1.heap.size,(qS zx0 zy0 zx1 zy1 (Z za zn zc)))]∧BfV (((((W5.setCell ⟨W1.heap.size,0,none⟩ (Y X zx0)).setCell ⟨W1.heap.size,1,none⟩ (Y X zy0)).setCell ⟨W1.heap.size,2,none⟩ (Y X zx1)).setCell ⟨W1.heap.size,3,none⟩ (Y X zy1)).setCell ⟨W1.heap.size,4,none⟩ (Z za zn zc)) ⟨⟨zx0,zy0,zx1,zy1⟩,zp⟩ (Z za zn zc)∧MrgB ⟨tx0,ty0,tx1,ty1⟩ (bs.take (i+1)) ⟨⟨zx0,zy0,zx1,zy1⟩,zp⟩):=⟨H6,hbv5.set5 (H5.o.box 2 rfl) _ _ _ _ _,mrg_step HO.o.2 HBI.o.1 hm5⟩;obtain ⟨r0,r1,r2,r3,r4⟩:=(H5.o.box 2 rfl).c5;obtain ⟨f0,f1,f2,f3,f4⟩:=(H5.o.box 2 rfl).f5;clear hb5 hbv5 hm5 H4 H5 H6 HOV;go_wp2_with fail;go_roundw
   case rel=>exact ⟨i+1,⟨⟨zx0,zy0,zx1,zy1⟩,zp⟩,za,zn,zc,by omega,by go_num,HF.o.1,HF.o.2.1,HF.o.2.2⟩
   case measure=>simp [intOf];omega
  ·obtain rfl:i=vn:=by omega
   have HD:Hid (MrgB ⟨tx0,ty0,tx1,ty1⟩ bs ⟨⟨ox0,oy0,ox1,oy1⟩,op⟩):=by
    have h:=HO.o.2;rw [HN.o,List.take_length] at h;exact h
   obtain ⟨d0,d1,d2,d3,d4⟩:=(H3.o.box 2 rfl).c5;obtain ⟨r0,r1,r2,r3,r4⟩:=(H3.o.box 1 rfl).c5;obtain ⟨f0,f1,f2,f3,f4⟩:=(H3.o.box 1 rfl).f5;go_wp2_with fail;have h4:=bag_set5 H3.o 1 rfl (Y X ox0) (Y X oy0) (Y X ox1) (Y X oy1) (Z oa on oc);exact ret_bf (r:=⟨ox0,oy0,ox1,oy1⟩) (s:=Z oa on oc) rfl rfl (h4.box 1 rfl) rfl ⟨⟨⟨ox0,oy0,ox1,oy1⟩,op⟩,oa,on,oc,rfl,h4.below,HO.o.1.set5 (H3.o.box 1 rfl) _ _ _ _ _,HD.o⟩
end Go.Proofs.YtgodhpampaleeaaGreatDoor
