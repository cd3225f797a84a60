/- Texts joined: Qj Qg Qk Ql Qm. -/
import Derived.Test.YtgodhpampaleeaaGreatDoorM11
import Derived.Test.YtgodhpampaleeaaGreatDoorM02
open Go.Value renaming int→Y,slice→Z
open Go.IntKind renaming i64→X,u8→J
open List renaming take_succ_cons→O,drop_succ_cons→U,drop_zero→I,replicate→K
open Nat renaming le_refl→Q
open Go.Lib renaming hid→T
open Go.Value.slice renaming injEq→L
set_option maxRecDepth 4000
set_option maxHeartbeats 12800000
set_option linter.unusedVariables false
namespace Go.Proofs.YtgodhpampaleeaaGreatDoor
open Go.RowKit Go.Bx Go.Od Go.Hp
attribute [local go_sem ↓] Go.wp_at_zero Go.wp_at_succ
def bldA (mode p q:Int):Int:=cutU (if mode=6 then p+q else p+q-mulU p q)
def bldN (mode x y p q:Int):Int:=if mode=1 then mulU x y+(mulU x (255-q)+mulU y (255-p)) else if mode=2 then x+y-mulU x y else if mode=3 then min (mulU x q) (mulU y p)+(mulU x (255-q)+mulU y (255-p)) else if mode=4 then mulU x q+mulU y p-min (mulU x q) (mulU y p)+(mulU x (255-q)+mulU y (255-p)) else if mode=5 then x+y-2*min (mulU x q) (mulU y p) else x+y
def bldC (mode x y p q:Int):Int:=cutU (min (bldN mode x y p q) (bldA mode p q))
def bldF (mode:Int) (a b:Px) (j:Nat):Int:=bldC mode (ch a j) (ch b j) a.a b.a
def bldP (mode:Int) (a b:Px):Px:=if mode=0 then cmpP 0 a b else ⟨bldC mode a.r b.r a.a b.a,bldC mode a.g b.g a.a b.a,bldC mode a.b b.b a.a b.a,bldA mode a.a b.a⟩
def upB (f:Nat→Int) (v:Int) (j:Nat):List Value:=(qU (if 0<j then f 0 else 0) (if 1<j then f 1 else 0) (if 2<j then f 2 else 0) v)
theorem upB_set (f:Nat→Int) (v:Int) (j:Nat) (h:j<3):(upB f v j).set j (Y J (f j))=upB f v (j+1):=by
 match j,h with
 |0,_=>rfl
 |1,_=>rfl
 |2,_=>rfl
theorem upB_get (f:Nat→Int) (v:Int) (j:Nat) (h:j<3):(upB f v j)[j]?=some (Y J 0):=by
 match j,h with
 |0,_=>rfl
 |1,_=>rfl
 |2,_=>rfl
theorem bldP_ok (mode:Int) (a b:Px):(bldP mode a b).Ok:=by
 unfold bldP
 split
 ·exact cmpP_ok _ _ _
 ·exact ⟨cutU_byte _,cutU_byte _,cutU_byte _,cutU_byte _⟩
theorem mulU_z (x:Int):mulU 0 x=0∧mulU x 0=0:=by unfold mulU;simp
theorem bldP_zero (mode:Int):bldP mode Px.zero Px.zero=Px.zero:=by
 have h1:bldA mode 0 0=0:=by
  unfold bldA;rw [(mulU_z 0).1]
  split<;>rfl
 have h2:bldC mode 0 0 0 0=0:=by
  have h3:bldN mode 0 0 0 0=0:=by
   unfold bldN;simp only [mulU_z]
   split
   ·rfl
   ·split
    ·rfl
    ·split
     ·rfl
     ·split
      ·rfl
      ·split<;>rfl
  unfold bldC;rw [h1,h3];rfl
 unfold bldP
 split
 ·exact cmpP_zero 0
 ·unfold Px.zero;dsimp only;rw [h1,h2]
theorem blend06_c (mode:Int) (a b:Px) (w:World) (ha:a.Ok) (hb:b.Ok):Calls Tryz.prog 60 #[Y X mode,pxv a,pxv b] w (PPost w (pxv (bldP mode a b))):=by
 obtain ⟨a0,a1,a2,a3⟩:=a;obtain ⟨b0,b1,b2,b3⟩:=b;have HA:Hid ((Byte a0∧Byte a1∧Byte a2∧Byte a3)∧Byte b0∧Byte b1∧Byte b2∧Byte b3):=⟨ha,hb⟩;have H0:Hid (Bag w (((w.alloc (.cells #[Y J a0,Y J a1,Y J a2,Y J a3] 27)).alloc (.cells #[Y J b0,Y J b1,Y J b2,Y J b3] 27)).alloc (.cells #[Y J 0,Y J 0,Y J 0,Y J 0] 27)) [(w.heap.size,pxc ⟨a0,a1,a2,a3⟩),(w.heap.size+1,pxc ⟨b0,b1,b2,b3⟩),(w.heap.size+1+1,zU)]):=bag3 w (pxc ⟨a0,a1,a2,a3⟩) (pxc ⟨b0,b1,b2,b3⟩) zU _ _ _;obtain ⟨q,hq⟩:∃ q,q=bldP mode ⟨a0,a1,a2,a3⟩ ⟨b0,b1,b2,b3⟩:=⟨_,rfl⟩;have HQE:=T hq;rw [←hq];by_cases h0:mode=0
 ·subst h0;have HC:Hid (∀ W,Calls Tryz.prog 99 #[Y X 0,pxv ⟨a0,a1,a2,a3⟩,pxv ⟨b0,b1,b2,b3⟩] W (PPost W (pxv q))):=fun W=>by
   rw [hq];exact comp06_c 0 _ _ W ha hb
  clear ha hb hq HA HQE;go_enter Tryz.func60,Tryz.ntmps60;go_wp2_with fail;refine (HC.o _).mono ?_;rintro e W1 ⟨rfl,hb1⟩;have H1:=T (H0.o.call hb1);clear hb1 H0 HC;obtain ⟨r0,r1,r2,r3⟩:=(H1.o.box 2 rfl).c4;obtain ⟨f0,f1,f2,f3⟩:=(H1.o.box 2 rfl).f4;go_wp2_with fail;have H2:=H1.o.set4 2 rfl (Y J q.r) (Y J q.g) (Y J q.b) (Y J q.a);exact ret_px (p:=q) rfl rfl (H2.box 2 rfl) rfl ⟨rfl,H2.below⟩
 have HQN:Hid (q=⟨bldC mode a0 b0 a3 b3,bldC mode a1 b1 a3 b3,bldC mode a2 b2 a3 b3,bldA mode a3 b3⟩):=by
  have:q=⟨bldC mode a0 b0 a3 b3,bldC mode a1 b1 a3 b3,bldC mode a2 b2 a3 b3,bldA mode a3 b3⟩:=by rw [hq];unfold bldP;rw [if_neg h0]
  exact this
 have d0:(mode==0)=false:=by simpa using h0
 have hp:Byte a3:=ha.2.2.2;have hqb:Byte b3:=hb.2.2.2;obtain ⟨m0,hm0⟩:∃ m,m=mulU a3 b3:=⟨_,rfl⟩;obtain ⟨V3,hV3⟩:∃ v,v=bldA mode a3 b3:=⟨_,rfl⟩;obtain ⟨E,hE⟩:∃ e,e=if mode=6 then a3+b3 else a3+b3-m0:=⟨_,rfl⟩
 have HM0:Hid (∀ W,Calls Tryz.prog 100 #[Y J a3,Y J b3] W (PPost W (Y X m0))):=fun W=>by rw [hm0];exact by06_c _ _ W hp hqb
 have HCE:Hid (∀ W,Calls Tryz.prog 101 #[Y X E] W (PPost W (Y J V3))):=fun W=>ret_u8 (cut01_c E W) (by rw [hE,hm0,hV3];rfl);have HE:=T hE;have HV3:Hid (V3=bldA mode a3 b3∧Byte V3):=⟨hV3,by rw [hV3];exact cutU_byte _⟩;have hm:Byte m0:=by rw [hm0];exact mulU_byte hp hqb
 clear hm0 hV3 hE ha hb hq h0 HQE;unfold Byte at hp hqb hm;obtain ⟨p0,p1⟩:=hp;obtain ⟨q0,q1⟩:=hqb;obtain ⟨hm1,hm2⟩:=hm;go_enter Tryz.func60,Tryz.ntmps60
 go_upto_if 27 with fail
 generalize (((w.alloc (.cells #[Y J a0,Y J a1,Y J a2,Y J a3] 27)).alloc (.cells #[Y J b0,Y J b1,Y J b2,Y J b3] 27)).alloc (.cells #[Y J 0,Y J 0,Y J 0,Y J 0] 27))=W0 at *
 go_cut [7] from 14 (fun v wx=>v=Y X E∧Bag w wx [(w.heap.size,pxc ⟨a0,a1,a2,a3⟩),(w.heap.size+1,pxc ⟨b0,b1,b2,b3⟩),(w.heap.size+1+1,zU)])
 case first=>
  by_cases h6:mode=6
  ·subst h6;obtain rfl:E=a3+b3:=HE.o;go_wp2_with fail;go_meet;exact ⟨rfl,H0.o⟩
  ·obtain rfl:E=a3+b3-m0:=HE.o.trans (if_neg h6);have d6:(mode==6)=false:=by simpa using h6
   have cp:=H0.o.cell 0 rfl 3 rfl;have cq:=H0.o.cell 1 rfl 3 rfl;clear h6;go_wp2_with fail;refine (HM0.o _).mono ?_;rintro e W1 ⟨rfl,hb1⟩;have H1:=T (H0.o.call hb1);clear hb1;go_wp2_with fail;go_meet;exact ⟨rfl,H1.o⟩
 case rest=>
  obtain ⟨rfl,hW⟩:=hcut;have H1:=T hW;clear hW H0 HM0 HE;go_wp2_with fail;refine (HCE.o _).mono ?_;rintro e W6 ⟨rfl,hb6⟩;have H6:=T (H1.o.call hb6);have H7:Hid (Bag w (W6.alloc (.cells #[Y J 0,Y J 0,Y J 0,Y J V3] 27)) [(w.heap.size,pxc ⟨a0,a1,a2,a3⟩),(w.heap.size+1,pxc ⟨b0,b1,b2,b3⟩),(w.heap.size+1+1,zU),(W6.heap.size,upB (bldF mode ⟨a0,a1,a2,a3⟩ ⟨b0,b1,b2,b3⟩) V3 0)]):=H6.o.alloc (upB (bldF mode ⟨a0,a1,a2,a3⟩ ⟨b0,b1,b2,b3⟩) V3 0) _;clear hb6 H1 HCE H6;go_wp2_with fail;go_loopw [9,10,11,12,13] (fun jv _ _ _ _ wr=>∃ j:Nat,j≤3∧jv=Y X j∧Bag w wr [(w.heap.size,pxc ⟨a0,a1,a2,a3⟩),(w.heap.size+1,pxc ⟨b0,b1,b2,b3⟩),(w.heap.size+1+1,zU),(W6.heap.size,upB (bldF mode ⟨a0,a1,a2,a3⟩ ⟨b0,b1,b2,b3⟩) V3 j)]) (fun jv _ _ _ _ _=>3-(intOf jv).toNat)
  case atStart=>exact ⟨0,by omega,rfl,H7.o⟩
  case round=>
   obtain ⟨j,hj,rfl,hr⟩:=hrel;have H1:=T hr;clear hr H7;by_cases hj3:j<3
   ·obtain ⟨x,hxx⟩:∃ x,x=ch ⟨a0,a1,a2,a3⟩ j:=⟨_,rfl⟩;obtain ⟨y,hyy⟩:∃ y,y=ch ⟨b0,b1,b2,b3⟩ j:=⟨_,rfl⟩;have HX:Hid (x=ch ⟨a0,a1,a2,a3⟩ j∧y=ch ⟨b0,b1,b2,b3⟩ j∧j<3):=⟨hxx,hyy,hj3⟩;have hx:Byte x:=by rw [hxx];exact ch_byte (p:=⟨a0,a1,a2,a3⟩) HA.o.1 j
    have hy:Byte y:=by rw [hyy];exact ch_byte (p:=⟨b0,b1,b2,b3⟩) HA.o.2 j
    have hp:Byte a3:=HA.o.1.2.2.2;have hq:Byte b3:=HA.o.2.2.2.2;clear hxx hyy;have hj0:(0:Int)≤(j:Int):=by omega
    have hj1:(j:Int)<3:=by omega
    have hj4:(j:Int)<4:=by omega
    obtain ⟨m1,hm1⟩:∃ m,m=mulU x (255-b3):=⟨_,rfl⟩;obtain ⟨m2,hm2⟩:∃ m,m=mulU y (255-a3):=⟨_,rfl⟩;obtain ⟨m3,hm3⟩:∃ m,m=mulU x b3:=⟨_,rfl⟩;obtain ⟨m4,hm4⟩:∃ m,m=mulU y a3:=⟨_,rfl⟩;obtain ⟨m5,hm5⟩:∃ m,m=mulU x y:=⟨_,rfl⟩;obtain ⟨V,hV⟩:∃ V,V=bldC mode x y a3 b3:=⟨_,rfl⟩;obtain ⟨mn,hmn⟩:∃ m,m=min m3 m4:=⟨_,rfl⟩;have Nm1:Hid (∀ W,Calls Tryz.prog 100 #[Y J x,Y J (255-b3)] W (PPost W (Y X m1))):=fun W=>by rw [hm1];exact by06_c _ _ W hx (by255 hq)
    have ym1:Byte m1:=by rw [hm1];exact mulU_byte hx (by255 hq)
    have Nm2:Hid (∀ W,Calls Tryz.prog 100 #[Y J y,Y J (255-a3)] W (PPost W (Y X m2))):=fun W=>by rw [hm2];exact by06_c _ _ W hy (by255 hp)
    have ym2:Byte m2:=by rw [hm2];exact mulU_byte hy (by255 hp)
    have Nm3:Hid (∀ W,Calls Tryz.prog 100 #[Y J x,Y J b3] W (PPost W (Y X m3))):=fun W=>by rw [hm3];exact by06_c _ _ W hx hq
    have ym3:Byte m3:=by rw [hm3];exact mulU_byte hx hq
    have Nm4:Hid (∀ W,Calls Tryz.prog 100 #[Y J y,Y J a3] W (PPost W (Y X m4))):=fun W=>by rw [hm4];exact by06_c _ _ W hy hp
    have ym4:Byte m4:=by rw [hm4];exact mulU_byte hy hp
    have Nm5:Hid (∀ W,Calls Tryz.prog 100 #[Y J x,Y J y] W (PPost W (Y X m5))):=fun W=>by rw [hm5];exact by06_c _ _ W hx hy
    have ym5:Byte m5:=by rw [hm5];exact mulU_byte hx hy
    have NL:Hid (∀ W,Calls Tryz.prog 102 #[Y X m3,Y X m4] W (PPost W (Y X mn))):=fun W=>by rw [hmn];exact less06_c _ _ W
    have HV:Hid (V=cutU (min (if mode=1 then m5+(m1+m2) else if mode=2 then x+y-m5 else if mode=3 then mn+(m1+m2) else if mode=4 then m3+m4-mn+(m1+m2) else if mode=5 then x+y-2*mn else x+y) V3)):=by rw [hmn,hm1,hm2,hm3,hm4,hm5,HV3.o.1];exact hV
    have HVJ:Hid (V=bldF mode ⟨a0,a1,a2,a3⟩ ⟨b0,b1,b2,b3⟩ j):=by unfold bldF;rw [←HX.o.1,←HX.o.2.1];exact hV
    unfold Byte at hx hy hp hq ym1 ym2 ym3 ym4 ym5;have ymn:0≤mn∧mn≤255:=by omega
    clear hm1 hm2 hm3 hm4 hm5 hmn hV;have gp:IntKind.u8.wrap (255-a3)=255-a3:=by unfold IntKind.wrap;simp [IntKind.signed,IntKind.bits];omega
    have gq:IntKind.u8.wrap (255-b3)=255-b3:=by unfold IntKind.wrap;simp [IntKind.signed,IntKind.bits];omega
    obtain ⟨x0,x1⟩:=hx;obtain ⟨y0,y1⟩:=hy;obtain ⟨t10,t11⟩:=ym1;obtain ⟨t20,t21⟩:=ym2;obtain ⟨t30,t31⟩:=ym3;obtain ⟨t40,t41⟩:=ym4;obtain ⟨t50,t51⟩:=ym5;obtain ⟨t60,t61⟩:=ymn;have cx:wr.cell? ⟨w.heap.size,j,none⟩=some (Y J x):=H1.o.cell 0 rfl j (by rw [HX.o.1];exact pxc_get _ _ (Nat.lt_succ_of_lt HX.o.2.2));have cp:=H1.o.cell 0 rfl 3 rfl;have cy:wr.cell? ⟨w.heap.size+1,j,none⟩=some (Y J y):=H1.o.cell 1 rfl j (by rw [HX.o.2.1];exact pxc_get _ _ (Nat.lt_succ_of_lt HX.o.2.2));have cq:=H1.o.cell 1 rfl 3 rfl;obtain ⟨kcx,kcp,kcy,kcq⟩:=kept4 cx cp cy cq;clear cx cp cy cq;go_wp2_with fail;refine wp_region_kept wr.heap.size (by kernel_rfl) (by kernel_rfl) ?_
    repeat (go_big_quiet_step (first
     |(go_at_call 100;with_reducible exact Calls.kept _ (Q _) (Nm1.out _))
     |(go_at_call 100;with_reducible exact Calls.kept _ (Q _) (Nm2.out _))))
    refine wpQuiet_nil ?_;rintro _ ⟨s1,rfl⟩;have H2:=T (H1.o.call s1.below);clear kcx kcp kcy kcq;have cx:s1.w.cell? ⟨w.heap.size,j,none⟩=some (Y J x):=H2.o.cell 0 rfl j (by rw [HX.o.1];exact pxc_get _ _ (Nat.lt_succ_of_lt HX.o.2.2));have cp:=H2.o.cell 0 rfl 3 rfl;have cy:s1.w.cell? ⟨w.heap.size+1,j,none⟩=some (Y J y):=H2.o.cell 1 rfl j (by rw [HX.o.2.1];exact pxc_get _ _ (Nat.lt_succ_of_lt HX.o.2.2));have cq:=H2.o.cell 1 rfl 3 rfl;obtain ⟨kcx,kcp,kcy,kcq⟩:=kept4 cx cp cy cq;clear cx cp cy cq;go_wp2_with fail;refine wp_region_kept s1.w.heap.size (by kernel_rfl) (by kernel_rfl) ?_
    repeat (go_big_quiet_step (first
     |(go_at_call 100;with_reducible exact Calls.kept _ (Q _) (Nm3.out _))))
    refine wpQuiet_nil ?_;rintro _ ⟨s2,rfl⟩;have H3:=T (H2.o.call s2.below);clear kcx kcp kcy kcq;have cx:s2.w.cell? ⟨w.heap.size,j,none⟩=some (Y J x):=H3.o.cell 0 rfl j (by rw [HX.o.1];exact pxc_get _ _ (Nat.lt_succ_of_lt HX.o.2.2));have cp:=H3.o.cell 0 rfl 3 rfl;have cy:s2.w.cell? ⟨w.heap.size+1,j,none⟩=some (Y J y):=H3.o.cell 1 rfl j (by rw [HX.o.2.1];exact pxc_get _ _ (Nat.lt_succ_of_lt HX.o.2.2));have cq:=H3.o.cell 1 rfl 3 rfl;obtain ⟨kcx,kcp,kcy,kcq⟩:=kept4 cx cp cy cq;clear cx cp cy cq;go_wp2_with fail;refine wp_region_kept s2.w.heap.size (by kernel_rfl) (by kernel_rfl) ?_
    repeat (go_big_quiet_step (first
     |(go_at_call 100;with_reducible exact Calls.kept _ (Q _) (Nm4.out _))))
    refine wpQuiet_nil ?_;rintro _ ⟨s3,rfl⟩;have H4:=T (H3.o.call s3.below);clear kcx kcp kcy kcq;have cx:s3.w.cell? ⟨w.heap.size,j,none⟩=some (Y J x):=H4.o.cell 0 rfl j (by rw [HX.o.1];exact pxc_get _ _ (Nat.lt_succ_of_lt HX.o.2.2));have cp:=H4.o.cell 0 rfl 3 rfl;have cy:s3.w.cell? ⟨w.heap.size+1,j,none⟩=some (Y J y):=H4.o.cell 1 rfl j (by rw [HX.o.2.1];exact pxc_get _ _ (Nat.lt_succ_of_lt HX.o.2.2));have cq:=H4.o.cell 1 rfl 3 rfl;obtain ⟨kcx,kcp,kcy,kcq⟩:=kept4 cx cp cy cq;clear cx cp cy cq;go_wp2_with fail;refine wp_region_kept s3.w.heap.size (by kernel_rfl) (by kernel_rfl) ?_
    repeat (go_big_quiet_step (fail))
    refine wpQuiet_nil ?_;rintro _ ⟨s4,rfl⟩;have H5:=T (H4.o.call s4.below);clear kcx kcp kcy kcq;clear H1 H2 H3 H4 Nm1 Nm2 Nm3 Nm4;by_cases t1:mode=1
    ·subst t1;have HC:Hid (∀ W,Calls Tryz.prog 101 #[Y X (min (m5+(m1+m2)) V3)] W (PPost W (Y J V))):=fun W=>ret_u8 (cut01_c _ W) (by have h:=HV.o;simp [] at h;exact h.symm);have HL:Hid (∀ W,Calls Tryz.prog 102 #[Y X (m5+(m1+m2)),Y X V3] W (PPost W (Y X (min (m5+(m1+m2)) V3)))):=fun W=>less06_c _ _ W;have hv3:0≤V3∧V3≤255:=HV3.o.2;obtain ⟨v30,v31⟩:=hv3;have cx:s4.w.cell? ⟨w.heap.size,j,none⟩=some (Y J x):=H5.o.cell 0 rfl j (by rw [HX.o.1];exact pxc_get _ _ (Nat.lt_succ_of_lt HX.o.2.2));have cp:=H5.o.cell 0 rfl 3 rfl;have cy:s4.w.cell? ⟨w.heap.size+1,j,none⟩=some (Y J y):=H5.o.cell 1 rfl j (by rw [HX.o.2.1];exact pxc_get _ _ (Nat.lt_succ_of_lt HX.o.2.2));have cq:=H5.o.cell 1 rfl 3 rfl;obtain ⟨kcx,kcp,kcy,kcq⟩:=kept4 cx cp cy cq;clear cx cp cy cq;go_wp2_with fail;refine wp_region_kept s4.w.heap.size (by kernel_rfl) (by kernel_rfl) ?_
     repeat (go_big_quiet_step (first
      |(go_at_call 100;with_reducible exact Calls.kept _ (Q _) (Nm5.out _))))
     refine wpQuiet_nil ?_;rintro _ ⟨s5,rfl⟩;have H6:=T (H5.o.call s5.below);clear kcx kcp kcy kcq;have c3:=H6.o.cell 3 rfl 3 rfl;go_wp2_with fail
     (with_reducible refine (HL.o _).mono ?_);rintro e W7 ⟨rfl,hb7⟩
     have H8:=T (H6.o.call hb7);clear hb7 c3;go_wp2_with fail
     (with_reducible refine (HC.o _).mono ?_);rintro e W9 ⟨rfl,hb9⟩
     have H9:=T (H8.o.call hb9);have c0:W9.cell? ⟨W6.heap.size,j,none⟩=some (Y J 0):=H9.o.cell 3 rfl j (upB_get _ _ _ HX.o.2.2);have f0:=H9.o.frozen 3 rfl j;have HZ:Hid (Bag w (W9.setCell ⟨W6.heap.size,j,none⟩ (Y J V)) [(w.heap.size,pxc ⟨a0,a1,a2,a3⟩),(w.heap.size+1,pxc ⟨b0,b1,b2,b3⟩),(w.heap.size+1+1,zU),(W6.heap.size,upB (bldF 1 ⟨a0,a1,a2,a3⟩ ⟨b0,b1,b2,b3⟩) V3 (j+1))]):=by
      rw [HVJ.o];have h:=H9.o.set 3 rfl j (Y J (bldF 1 ⟨a0,a1,a2,a3⟩ ⟨b0,b1,b2,b3⟩ j));rw [upB_set _ _ _ HX.o.2.2] at h;exact h
     clear hb9 H5 H8 H9 HC HL;go_wp2_with fail;go_roundw
     case rel=>exact ⟨j+1,by omega,by go_num,HZ.o⟩
     case measure=>simp [intOf];omega
    by_cases t2:mode=2
    ·subst t2;have HC:Hid (∀ W,Calls Tryz.prog 101 #[Y X (min (x+y-m5) V3)] W (PPost W (Y J V))):=fun W=>ret_u8 (cut01_c _ W) (by have h:=HV.o;simp [] at h;exact h.symm);have HL:Hid (∀ W,Calls Tryz.prog 102 #[Y X (x+y-m5),Y X V3] W (PPost W (Y X (min (x+y-m5) V3)))):=fun W=>less06_c _ _ W;have hv3:0≤V3∧V3≤255:=HV3.o.2;obtain ⟨v30,v31⟩:=hv3;have cx:s4.w.cell? ⟨w.heap.size,j,none⟩=some (Y J x):=H5.o.cell 0 rfl j (by rw [HX.o.1];exact pxc_get _ _ (Nat.lt_succ_of_lt HX.o.2.2));have cp:=H5.o.cell 0 rfl 3 rfl;have cy:s4.w.cell? ⟨w.heap.size+1,j,none⟩=some (Y J y):=H5.o.cell 1 rfl j (by rw [HX.o.2.1];exact pxc_get _ _ (Nat.lt_succ_of_lt HX.o.2.2));have cq:=H5.o.cell 1 rfl 3 rfl;obtain ⟨kcx,kcp,kcy,kcq⟩:=kept4 cx cp cy cq;clear cx cp cy cq;go_wp2_with fail;refine wp_region_kept s4.w.heap.size (by kernel_rfl) (by kernel_rfl) ?_
     repeat (go_big_quiet_step (first
      |(go_at_call 100;with_reducible exact Calls.kept _ (Q _) (Nm5.out _))))
     refine wpQuiet_nil ?_;rintro _ ⟨s5,rfl⟩;have H6:=T (H5.o.call s5.below);clear kcx kcp kcy kcq;have c3:=H6.o.cell 3 rfl 3 rfl;go_wp2_with fail
     (with_reducible refine (HL.o _).mono ?_);rintro e W7 ⟨rfl,hb7⟩
     have H8:=T (H6.o.call hb7);clear hb7 c3;go_wp2_with fail
     (with_reducible refine (HC.o _).mono ?_);rintro e W9 ⟨rfl,hb9⟩
     have H9:=T (H8.o.call hb9);have c0:W9.cell? ⟨W6.heap.size,j,none⟩=some (Y J 0):=H9.o.cell 3 rfl j (upB_get _ _ _ HX.o.2.2);have f0:=H9.o.frozen 3 rfl j;have HZ:Hid (Bag w (W9.setCell ⟨W6.heap.size,j,none⟩ (Y J V)) [(w.heap.size,pxc ⟨a0,a1,a2,a3⟩),(w.heap.size+1,pxc ⟨b0,b1,b2,b3⟩),(w.heap.size+1+1,zU),(W6.heap.size,upB (bldF 2 ⟨a0,a1,a2,a3⟩ ⟨b0,b1,b2,b3⟩) V3 (j+1))]):=by
      rw [HVJ.o];have h:=H9.o.set 3 rfl j (Y J (bldF 2 ⟨a0,a1,a2,a3⟩ ⟨b0,b1,b2,b3⟩ j));rw [upB_set _ _ _ HX.o.2.2] at h;exact h
     clear hb9 H5 H8 H9 HC HL;go_wp2_with fail;go_roundw
     case rel=>exact ⟨j+1,by omega,by go_num,HZ.o⟩
     case measure=>simp [intOf];omega
    by_cases t3:mode=3
    ·subst t3;have HC:Hid (∀ W,Calls Tryz.prog 101 #[Y X (min (mn+(m1+m2)) V3)] W (PPost W (Y J V))):=fun W=>ret_u8 (cut01_c _ W) (by have h:=HV.o;simp [] at h;exact h.symm);have HL:Hid (∀ W,Calls Tryz.prog 102 #[Y X (mn+(m1+m2)),Y X V3] W (PPost W (Y X (min (mn+(m1+m2)) V3)))):=fun W=>less06_c _ _ W;have hv3:0≤V3∧V3≤255:=HV3.o.2;obtain ⟨v30,v31⟩:=hv3;go_wp2_with fail
     (with_reducible refine (NL.out _).mono ?_);rintro e W5 ⟨rfl,hb5⟩
     have H6:=T (H5.o.call hb5);clear hb5;have c3:=H6.o.cell 3 rfl 3 rfl;go_wp2_with fail
     (with_reducible refine (HL.o _).mono ?_);rintro e W7 ⟨rfl,hb7⟩
     have H8:=T (H6.o.call hb7);clear hb7 c3;go_wp2_with fail
     (with_reducible refine (HC.o _).mono ?_);rintro e W9 ⟨rfl,hb9⟩
     have H9:=T (H8.o.call hb9);have c0:W9.cell? ⟨W6.heap.size,j,none⟩=some (Y J 0):=H9.o.cell 3 rfl j (upB_get _ _ _ HX.o.2.2);have f0:=H9.o.frozen 3 rfl j;have HZ:Hid (Bag w (W9.setCell ⟨W6.heap.size,j,none⟩ (Y J V)) [(w.heap.size,pxc ⟨a0,a1,a2,a3⟩),(w.heap.size+1,pxc ⟨b0,b1,b2,b3⟩),(w.heap.size+1+1,zU),(W6.heap.size,upB (bldF 3 ⟨a0,a1,a2,a3⟩ ⟨b0,b1,b2,b3⟩) V3 (j+1))]):=by
      rw [HVJ.o];have h:=H9.o.set 3 rfl j (Y J (bldF 3 ⟨a0,a1,a2,a3⟩ ⟨b0,b1,b2,b3⟩ j));rw [upB_set _ _ _ HX.o.2.2] at h;exact h
     clear hb9 H5 H8 H9 HC HL;go_wp2_with fail;go_roundw
     case rel=>exact ⟨j+1,by omega,by go_num,HZ.o⟩
     case measure=>simp [intOf];omega
    by_cases t4:mode=4
    ·subst t4;have HC:Hid (∀ W,Calls Tryz.prog 101 #[Y X (min (m3+m4-mn+(m1+m2)) V3)] W (PPost W (Y J V))):=fun W=>ret_u8 (cut01_c _ W) (by have h:=HV.o;simp [] at h;exact h.symm);have HL:Hid (∀ W,Calls Tryz.prog 102 #[Y X (m3+m4-mn+(m1+m2)),Y X V3] W (PPost W (Y X (min (m3+m4-mn+(m1+m2)) V3)))):=fun W=>less06_c _ _ W;have hv3:0≤V3∧V3≤255:=HV3.o.2;obtain ⟨v30,v31⟩:=hv3;go_wp2_with fail
     (with_reducible refine (NL.out _).mono ?_);rintro e W5 ⟨rfl,hb5⟩
     have H6:=T (H5.o.call hb5);clear hb5;have c3:=H6.o.cell 3 rfl 3 rfl;go_wp2_with fail
     (with_reducible refine (HL.o _).mono ?_);rintro e W7 ⟨rfl,hb7⟩
     have H8:=T (H6.o.call hb7);clear hb7 c3;go_wp2_with fail
     (with_reducible refine (HC.o _).mono ?_);rintro e W9 ⟨rfl,hb9⟩
     have H9:=T (H8.o.call hb9);have c0:W9.cell? ⟨W6.heap.size,j,none⟩=some (Y J 0):=H9.o.cell 3 rfl j (upB_get _ _ _ HX.o.2.2);have f0:=H9.o.frozen 3 rfl j;have HZ:Hid (Bag w (W9.setCell ⟨W6.heap.size,j,none⟩ (Y J V)) [(w.heap.size,pxc ⟨a0,a1,a2,a3⟩),(w.heap.size+1,pxc ⟨b0,b1,b2,b3⟩),(w.heap.size+1+1,zU),(W6.heap.size,upB (bldF 4 ⟨a0,a1,a2,a3⟩ ⟨b0,b1,b2,b3⟩) V3 (j+1))]):=by
      rw [HVJ.o];have h:=H9.o.set 3 rfl j (Y J (bldF 4 ⟨a0,a1,a2,a3⟩ ⟨b0,b1,b2,b3⟩ j));rw [upB_set _ _ _ HX.o.2.2] at h;exact h
     clear hb9 H5 H8 H9 HC HL;go_wp2_with fail;go_roundw
     case rel=>exact ⟨j+1,by omega,by go_num,HZ.o⟩
     case measure=>simp [intOf];omega
    by_cases t5:mode=5
    ·subst t5;have HC:Hid (∀ W,Calls Tryz.prog 101 #[Y X (min (x+y-2*mn) V3)] W (PPost W (Y J V))):=fun W=>ret_u8 (cut01_c _ W) (by have h:=HV.o;simp [] at h;exact h.symm);have HL:Hid (∀ W,Calls Tryz.prog 102 #[Y X (x+y-2*mn),Y X V3] W (PPost W (Y X (min (x+y-2*mn) V3)))):=fun W=>less06_c _ _ W;have hv3:0≤V3∧V3≤255:=HV3.o.2;obtain ⟨v30,v31⟩:=hv3;go_wp2_with fail
     (with_reducible refine (NL.out _).mono ?_);rintro e W5 ⟨rfl,hb5⟩
     have H6:=T (H5.o.call hb5);clear hb5;have c3:=H6.o.cell 3 rfl 3 rfl;go_wp2_with fail
     (with_reducible refine (HL.o _).mono ?_);rintro e W7 ⟨rfl,hb7⟩
     have H8:=T (H6.o.call hb7);clear hb7 c3;go_wp2_with fail
     (with_reducible refine (HC.o _).mono ?_);rintro e W9 ⟨rfl,hb9⟩
     have H9:=T (H8.o.call hb9);have c0:W9.cell? ⟨W6.heap.size,j,none⟩=some (Y J 0):=H9.o.cell 3 rfl j (upB_get _ _ _ HX.o.2.2);have f0:=H9.o.frozen 3 rfl j;have HZ:Hid (Bag w (W9.setCell ⟨W6.heap.size,j,none⟩ (Y J V)) [(w.heap.size,pxc ⟨a0,a1,a2,a3⟩),(w.heap.size+1,pxc ⟨b0,b1,b2,b3⟩),(w.heap.size+1+1,zU),(W6.heap.size,upB (bldF 5 ⟨a0,a1,a2,a3⟩ ⟨b0,b1,b2,b3⟩) V3 (j+1))]):=by
      rw [HVJ.o];have h:=H9.o.set 3 rfl j (Y J (bldF 5 ⟨a0,a1,a2,a3⟩ ⟨b0,b1,b2,b3⟩ j));rw [upB_set _ _ _ HX.o.2.2] at h;exact h
     clear hb9 H5 H8 H9 HC HL;go_wp2_with fail;go_roundw
     case rel=>exact ⟨j+1,by omega,by go_num,HZ.o⟩
     case measure=>simp [intOf];omega
    have d1:(mode==1)=false:=by simpa using t1
    have d2:(mode==2)=false:=by simpa using t2
    have d3:(mode==3)=false:=by simpa using t3
    have d4:(mode==4)=false:=by simpa using t4
    have d5:(mode==5)=false:=by simpa using t5
    have HC:Hid (∀ W,Calls Tryz.prog 101 #[Y X (min (x+y) V3)] W (PPost W (Y J V))):=fun W=>ret_u8 (cut01_c _ W) (by have h:=HV.o;simp [t1,t2,t3,t4,t5] at h;exact h.symm);have HL:Hid (∀ W,Calls Tryz.prog 102 #[Y X (x+y),Y X V3] W (PPost W (Y X (min (x+y) V3)))):=fun W=>less06_c _ _ W;have hv3:0≤V3∧V3≤255:=HV3.o.2;obtain ⟨v30,v31⟩:=hv3;clear t1 t2 t3 t4 t5;have c3:=H5.o.cell 3 rfl 3 rfl;go_wp2_with fail
    (with_reducible refine (HL.o _).mono ?_);rintro e W7 ⟨rfl,hb7⟩
    have H8:=T (H5.o.call hb7);clear hb7 c3;go_wp2_with fail
    (with_reducible refine (HC.o _).mono ?_);rintro e W9 ⟨rfl,hb9⟩
    have H9:=T (H8.o.call hb9);have c0:W9.cell? ⟨W6.heap.size,j,none⟩=some (Y J 0):=H9.o.cell 3 rfl j (upB_get _ _ _ HX.o.2.2);have f0:=H9.o.frozen 3 rfl j;have HZ:Hid (Bag w (W9.setCell ⟨W6.heap.size,j,none⟩ (Y J V)) [(w.heap.size,pxc ⟨a0,a1,a2,a3⟩),(w.heap.size+1,pxc ⟨b0,b1,b2,b3⟩),(w.heap.size+1+1,zU),(W6.heap.size,upB (bldF mode ⟨a0,a1,a2,a3⟩ ⟨b0,b1,b2,b3⟩) V3 (j+1))]):=by
     rw [HVJ.o];have h:=H9.o.set 3 rfl j (Y J (bldF mode ⟨a0,a1,a2,a3⟩ ⟨b0,b1,b2,b3⟩ j));rw [upB_set _ _ _ HX.o.2.2] at h;exact h
    clear hb9 H5 H8 H9 HC HL;go_wp2_with fail;go_roundw
    case rel=>exact ⟨j+1,by omega,by go_num,HZ.o⟩
    case measure=>simp [intOf];omega
   ·obtain rfl:j=3:=by omega
    have HQ:Hid (Bag w wr [(w.heap.size,pxc ⟨a0,a1,a2,a3⟩),(w.heap.size+1,pxc ⟨b0,b1,b2,b3⟩),(w.heap.size+1+1,zU),(W6.heap.size,pxc q)]):=by
     rw [HQN.o,←HV3.o.1];exact H1.o
    clear H1;obtain ⟨q0,q1,q2,q3⟩:=q;obtain ⟨e0,e1,e2,e3⟩:=(HQ.o.box 3 rfl).c4;obtain ⟨r0,r1,r2,r3⟩:=(HQ.o.box 2 rfl).c4;obtain ⟨f0,f1,f2,f3⟩:=(HQ.o.box 2 rfl).f4;go_wp2_with fail;have H2:=HQ.o.set4 2 rfl (Y J q0) (Y J q1) (Y J q2) (Y J q3);exact ret_px (p:=⟨q0,q1,q2,q3⟩) rfl rfl (H2.box 2 rfl) rfl ⟨rfl,H2.below⟩
def ontoP (mode op:Int) (a b:Px):Px:=bldP mode (sclP a op) b
theorem ontoP_ok (mode op:Int) (a b:Px):(ontoP mode op a b).Ok:=bldP_ok _ _ _
theorem ontoP_zero (mode op:Int):ontoP mode op Px.zero Px.zero=Px.zero:=by unfold ontoP;rw [sclP_zero];exact bldP_zero mode
theorem ontoP_none (mode:Int) (a:Px):ontoP mode 0 a Px.zero=Px.zero:=by unfold ontoP;rw [sclP_none];exact bldP_zero mode
theorem onto06_c (mode op:Int) (a b:Px) (w:World) (ha:a.Ok) (hb:b.Ok) (ho:Byte op):Calls Tryz.prog 35 #[Y X mode,Y J op,pxv a,pxv b] w (PPost w (pxv (ontoP mode op a b))):=by
 obtain ⟨a0,a1,a2,a3⟩:=a;obtain ⟨b0,b1,b2,b3⟩:=b;have H0:Hid (Bag w (((w.alloc (.cells #[Y J a0,Y J a1,Y J a2,Y J a3] 27)).alloc (.cells #[Y J b0,Y J b1,Y J b2,Y J b3] 27)).alloc (.cells #[Y J 0,Y J 0,Y J 0,Y J 0] 27)) [(w.heap.size,pxc ⟨a0,a1,a2,a3⟩),(w.heap.size+1,pxc ⟨b0,b1,b2,b3⟩),(w.heap.size+1+1,zU)]):=bag3 w (pxc ⟨a0,a1,a2,a3⟩) (pxc ⟨b0,b1,b2,b3⟩) zU _ _ _;obtain ⟨s,hs⟩:∃ s,s=sclP ⟨a0,a1,a2,a3⟩ op:=⟨_,rfl⟩;obtain ⟨q,hq⟩:∃ q,q=bldP mode s ⟨b0,b1,b2,b3⟩:=⟨_,rfl⟩;have HQE:Hid (ontoP mode op ⟨a0,a1,a2,a3⟩ ⟨b0,b1,b2,b3⟩=q):=by rw [hq,hs];rfl
 have HS:Hid (∀ W,Calls Tryz.prog 61 #[pxv ⟨a0,a1,a2,a3⟩,Y J op] W (PPost W (pxv s))):=fun W=>by rw [hs];exact scale_c _ op W ha ho
 have HB:Hid (∀ W,Calls Tryz.prog 60 #[Y X mode,pxv s,pxv ⟨b0,b1,b2,b3⟩] W (PPost W (pxv q))):=fun W=>by rw [hq];exact blend06_c mode s _ W (by rw [hs];exact sclP_ok ha ho) hb
 clear ha hb ho hs hq;go_enter Tryz.func35,Tryz.ntmps35;go_wp2_with fail;generalize (((w.alloc (.cells #[Y J a0,Y J a1,Y J a2,Y J a3] 27)).alloc (.cells #[Y J b0,Y J b1,Y J b2,Y J b3] 27)).alloc (.cells #[Y J 0,Y J 0,Y J 0,Y J 0] 27))=W0 at *;obtain ⟨c0,c1,c2,c3⟩:=(H0.o.box 0 rfl).c4;obtain ⟨d0,d1,d2,d3⟩:=(H0.o.box 1 rfl).c4;obtain ⟨kc0,kd0,kc1,kd1,kc2,kd2,kc3,kd3⟩:=kept8 c0 d0 c1 d1 c2 d2 c3 d3;clear c0 c1 c2 c3 d0 d1 d2 d3;refine wp_region_kept_tail W0.heap.size 6 _ rfl (by kernel_rfl) (by kernel_rfl) ?_;simp only [O,List.take_zero,U,I]
 repeat (go_big_quiet_step (first
  |(go_at_call 61;with_reducible exact Calls.kept _ (Q _) (HS.o _))
  |(go_at_call 60;with_reducible exact Calls.kept _ (Q _) (HB.o _))))
 refine wpQuiet_nil ?_;intro s1;refine ⟨?_⟩;have H5:=T (H0.o.call s1.below);clear kc0 kc1 kc2 kc3 kd0 kd1 kd2 kd3;obtain ⟨q0,q1,q2,q3⟩:=q;obtain ⟨r0,r1,r2,r3⟩:=(H5.o.box 2 rfl).c4;obtain ⟨f0,f1,f2,f3⟩:=(H5.o.box 2 rfl).f4;go_wp2_with fail;have H7:=H5.o.set4 2 rfl (Y J q0) (Y J q1) (Y J q2) (Y J q3);exact ret_px (p:=⟨q0,q1,q2,q3⟩) rfl rfl (H7.box 2 rfl) rfl ⟨by rw [HQE.o],H7.below⟩
def thk1P (p:Px):Px:=⟨mulU p.r p.a,mulU p.g p.a,mulU p.b p.a,p.a⟩
def pln1P (p:Px):Px:=⟨divU p.r p.a,divU p.g p.a,divU p.b p.a,p.a⟩
theorem thk1P_ok {p:Px} (hp:p.Ok):(thk1P p).Ok:=⟨mulU_byte hp.1 hp.2.2.2,mulU_byte hp.2.1 hp.2.2.2,mulU_byte hp.2.2.1 hp.2.2.2,hp.2.2.2⟩
theorem pln1P_ok {p:Px} (hp:p.Ok):(pln1P p).Ok:=⟨divU_byte hp.1 hp.2.2.2,divU_byte hp.2.1 hp.2.2.2,divU_byte hp.2.2.1 hp.2.2.2,hp.2.2.2⟩
theorem thick01_c (p:Px) (w:World) (hp:p.Ok):Calls Tryz.prog 132 #[pxv p] w (PPost w (pxv (thk1P p))):=by
 obtain ⟨a0,a1,a2,a3⟩:=p;have H0:Hid (Bag w ((w.alloc (.cells #[Y J a0,Y J a1,Y J a2,Y J a3] 27)).alloc (.cells #[Y J 0,Y J 0,Y J 0,Y J 0] 27)) [(w.heap.size,pxc ⟨a0,a1,a2,a3⟩),(w.heap.size+1,zU)]):=bag2 w (pxc ⟨a0,a1,a2,a3⟩) zU _ _;obtain ⟨q0,h0⟩:∃ q,q=mulU a0 a3:=⟨_,rfl⟩;obtain ⟨q1,h1⟩:∃ q,q=mulU a1 a3:=⟨_,rfl⟩;obtain ⟨q2,h2⟩:∃ q,q=mulU a2 a3:=⟨_,rfl⟩;have N0:Hid (∀ W,Calls Tryz.prog 103 #[Y J a0,Y J a3] W (PPost W (Y J q0))):=fun W=>by rw [h0];exact mul01_c _ _ W hp.1 hp.2.2.2
 have N1:Hid (∀ W,Calls Tryz.prog 103 #[Y J a1,Y J a3] W (PPost W (Y J q1))):=fun W=>by rw [h1];exact mul01_c _ _ W hp.2.1 hp.2.2.2
 have N2:Hid (∀ W,Calls Tryz.prog 103 #[Y J a2,Y J a3] W (PPost W (Y J q2))):=fun W=>by rw [h2];exact mul01_c _ _ W hp.2.2.1 hp.2.2.2
 have HE:Hid (thk1P ⟨a0,a1,a2,a3⟩=⟨q0,q1,q2,a3⟩):=by rw [h0,h1,h2];rfl
 clear h0 h1 h2 hp;go_enter Tryz.func132,Tryz.ntmps132;go_wp2_with fail;generalize ((w.alloc (.cells #[Y J a0,Y J a1,Y J a2,Y J a3] 27)).alloc (.cells #[Y J 0,Y J 0,Y J 0,Y J 0] 27))=W0 at *;obtain ⟨c0,c1,c2,c3⟩:=(H0.o.box 0 rfl).c4;obtain ⟨k0,k1,k2,k3⟩:=kept4 c0 c1 c2 c3;clear c0 c1 c2 c3;refine wp_region_kept_tail W0.heap.size 18 _ rfl (by kernel_rfl) (by kernel_rfl) ?_;simp only [O,List.take_zero,U,I]
 repeat (go_big_quiet_step (first
  |(go_at_call 103;with_reducible exact Calls.kept _ (Q _) (N0.out _))
  |(go_at_call 103;with_reducible exact Calls.kept _ (Q _) (N1.out _))
  |(go_at_call 103;with_reducible exact Calls.kept _ (Q _) (N2.out _))))
 refine wpQuiet_nil ?_;intro s;refine ⟨?_⟩;have H5:=T (H0.o.call s.below);clear k0 k1 k2 k3;have r0:=H5.o.cell 1 rfl 0 rfl;have f0:=H5.o.frozen 1 rfl 0;have r1:=H5.o.cell 1 rfl 1 rfl;have f1:=H5.o.frozen 1 rfl 1;have r2:=H5.o.cell 1 rfl 2 rfl;have f2:=H5.o.frozen 1 rfl 2;have r3:=H5.o.cell 1 rfl 3 rfl;have f3:=H5.o.frozen 1 rfl 3;go_wp2_with fail;have H7:=H5.o.set4 1 rfl (Y J q0) (Y J q1) (Y J q2) (Y J a3);exact ret_px (p:=⟨q0,q1,q2,a3⟩) rfl rfl (H7.box 1 rfl) rfl ⟨by rw [HE.o],H7.below⟩
theorem plain01_c (p:Px) (w:World) (hp:p.Ok):Calls Tryz.prog 130 #[pxv p] w (PPost w (pxv (pln1P p))):=by
 obtain ⟨a0,a1,a2,a3⟩:=p;have H0:Hid (Bag w ((w.alloc (.cells #[Y J a0,Y J a1,Y J a2,Y J a3] 27)).alloc (.cells #[Y J 0,Y J 0,Y J 0,Y J 0] 27)) [(w.heap.size,pxc ⟨a0,a1,a2,a3⟩),(w.heap.size+1,zU)]):=bag2 w (pxc ⟨a0,a1,a2,a3⟩) zU _ _;obtain ⟨q0,h0⟩:∃ q,q=divU a0 a3:=⟨_,rfl⟩;obtain ⟨q1,h1⟩:∃ q,q=divU a1 a3:=⟨_,rfl⟩;obtain ⟨q2,h2⟩:∃ q,q=divU a2 a3:=⟨_,rfl⟩;have N0:Hid (∀ W,Calls Tryz.prog 136 #[Y J a0,Y J a3] W (PPost W (Y J q0))):=fun W=>by rw [h0];exact div01_c _ _ W hp.1 hp.2.2.2
 have N1:Hid (∀ W,Calls Tryz.prog 136 #[Y J a1,Y J a3] W (PPost W (Y J q1))):=fun W=>by rw [h1];exact div01_c _ _ W hp.2.1 hp.2.2.2
 have N2:Hid (∀ W,Calls Tryz.prog 136 #[Y J a2,Y J a3] W (PPost W (Y J q2))):=fun W=>by rw [h2];exact div01_c _ _ W hp.2.2.1 hp.2.2.2
 have HE:Hid (pln1P ⟨a0,a1,a2,a3⟩=⟨q0,q1,q2,a3⟩):=by rw [h0,h1,h2];rfl
 clear h0 h1 h2 hp;go_enter Tryz.func130,Tryz.ntmps130;go_wp2_with fail;generalize ((w.alloc (.cells #[Y J a0,Y J a1,Y J a2,Y J a3] 27)).alloc (.cells #[Y J 0,Y J 0,Y J 0,Y J 0] 27))=W0 at *;obtain ⟨c0,c1,c2,c3⟩:=(H0.o.box 0 rfl).c4;obtain ⟨k0,k1,k2,k3⟩:=kept4 c0 c1 c2 c3;clear c0 c1 c2 c3;refine wp_region_kept_tail W0.heap.size 18 _ rfl (by kernel_rfl) (by kernel_rfl) ?_;simp only [O,List.take_zero,U,I]
 repeat (go_big_quiet_step (first
  |(go_at_call 136;with_reducible exact Calls.kept _ (Q _) (N0.out _))
  |(go_at_call 136;with_reducible exact Calls.kept _ (Q _) (N1.out _))
  |(go_at_call 136;with_reducible exact Calls.kept _ (Q _) (N2.out _))))
 refine wpQuiet_nil ?_;intro s;refine ⟨?_⟩;have H5:=T (H0.o.call s.below);clear k0 k1 k2 k3;have r0:=H5.o.cell 1 rfl 0 rfl;have f0:=H5.o.frozen 1 rfl 0;have r1:=H5.o.cell 1 rfl 1 rfl;have f1:=H5.o.frozen 1 rfl 1;have r2:=H5.o.cell 1 rfl 2 rfl;have f2:=H5.o.frozen 1 rfl 2;have r3:=H5.o.cell 1 rfl 3 rfl;have f3:=H5.o.frozen 1 rfl 3;go_wp2_with fail;have H7:=H5.o.set4 1 rfl (Y J q0) (Y J q1) (Y J q2) (Y J a3);exact ret_px (p:=⟨q0,q1,q2,a3⟩) rfl rfl (H7.box 1 rfl) rfl ⟨by rw [HE.o],H7.below⟩
def mixN (m:List Int) (c:Px) (j:Nat):Int:=m.getD (5*j) 0*c.r+m.getD (5*j+1) 0*c.g+m.getD (5*j+2) 0*c.b+m.getD (5*j+3) 0*c.a+255*m.getD (5*j+4) 0+128
def tinC (m:List Int) (c:Px) (j:Nat):Int:=cutU (mixN m c j/256)
def tinQ (m:List Int) (c:Px):Px:=⟨tinC m c 0,tinC m c 1,tinC m c 2,tinC m c 3⟩
def tinP (m:List Int) (p:Px):Px:=thk1P (tinQ m (pln1P p))
theorem tinQ_ok (m:List Int) (c:Px):(tinQ m c).Ok:=⟨cutU_byte _,cutU_byte _,cutU_byte _,cutU_byte _⟩
theorem tinP_ok (m:List Int) (p:Px):(tinP m p).Ok:=thk1P_ok (tinQ_ok _ _)
theorem tinP_zero {m:List Int} (h:calmB m=true):tinP m Px.zero=Px.zero:=by
 have h0:pln1P Px.zero=Px.zero:=by unfold pln1P Px.zero divU;rfl
 have h1:tinC m Px.zero 3=0:=by
  unfold calmB at h;have h2:m.getD 19 0≤0:=by simpa using h
  unfold tinC mixN Px.zero;simp only [Int.mul_zero,Int.zero_add];generalize m.getD (5*3+4) 0=z at *;unfold cutU;omega
 unfold tinP;rw [h0];unfold thk1P tinQ;dsimp only;rw [h1];have h3:∀ x:Int,mulU x 0=0:=fun x=>by unfold mulU;simp
 rw [h3,h3,h3];rfl
theorem prod_bd {e c:Int} (he : -32768≤e∧e≤32767) (hc:0≤c∧c≤255) : -8355840≤e*c∧e*c≤8355840:=by
 have h1:e*c≤32767*255:=by
  rcases Int.le_total 0 e with h|h
  ·exact Int.mul_le_mul he.2 hc.2 hc.1 (by omega)
  ·have:=Int.mul_nonneg (a := -e) (b:=c) (by omega) hc.1;rw [Int.neg_mul] at this;omega
 have h2:(-e)*c≤32768*255:=by
  rcases Int.le_total 0 e with h|h
  ·have:=Int.mul_nonneg h hc.1;rw [Int.neg_mul];omega
  ·exact Int.mul_le_mul (by omega) hc.2 hc.1 (by omega)
 rw [Int.neg_mul] at h2;omega
theorem pixel07_c {F:Nat→Prop} (mv:Value) (m:List Int) (p:Px) (w:World) (hF:∀ b,F b→b<w.heap.size) (hm:SlOf RInt 1 F w mv m) (hl:m.length=20) (hx:∀ j,j<20 → -32768≤m.getD j 0∧m.getD j 0≤32767) (hp:p.Ok):Calls Tryz.prog 119 #[mv,pxv p] w (PPost w (pxv (tinP m p))):=by
 obtain ⟨ma,mc,rfl,hmc,hmx,_,hcell⟩:=hm.ints;obtain ⟨mb,mo,rfl,hFb,hc⟩:=hcell 0 (by omega);rw [hl] at hmc hc ⊢;have HMC:Hid (∀ W,Below w.heap.size w W→∀ j,j<20→W.cell? ⟨mb,mo+j,none⟩=some (Y X (m.getD j 0))):=fun W hb j hj=>(hb.cell (hF _ hFb)).trans (hc j hj);have HMX:Hid (∀ j,j<20 → -32768≤m.getD j 0∧m.getD j 0≤32767):=hx;unfold maxLen at hmx;obtain ⟨a0,a1,a2,a3⟩:=p;have H0:Hid (Bag w ((w.alloc (.cells #[Y J a0,Y J a1,Y J a2,Y J a3] 27)).alloc (.cells #[Y J 0,Y J 0,Y J 0,Y J 0] 27)) [(w.heap.size,pxc ⟨a0,a1,a2,a3⟩),(w.heap.size+1,zU)]):=bag2 w (pxc ⟨a0,a1,a2,a3⟩) zU _ _;obtain ⟨c,hcc⟩:∃ c,c=pln1P ⟨a0,a1,a2,a3⟩:=⟨_,rfl⟩;have HP:Hid (∀ W,Calls Tryz.prog 130 #[pxv ⟨a0,a1,a2,a3⟩] W (PPost W (pxv c))):=fun W=>by rw [hcc];exact plain01_c _ W hp
 have HCK:Hid (c.Ok):=by rw [hcc];exact pln1P_ok hp
 obtain ⟨t,ht⟩:∃ t,t=tinQ m c:=⟨_,rfl⟩;obtain ⟨q,hq⟩:∃ q,q=thk1P t:=⟨_,rfl⟩;have HT:Hid (∀ W,Calls Tryz.prog 132 #[pxv t] W (PPost W (pxv q))):=fun W=>by rw [hq];exact thick01_c _ W (by rw [ht];exact tinQ_ok _ _)
 have HTE:=T ht;have HQE:Hid (tinP m ⟨a0,a1,a2,a3⟩=q):=by rw [hq,ht,hcc];rfl
 obtain ⟨c0,c1,c2,c3⟩:=c;clear hm hF hc hcell hFb hx hcc ht hq hp hl;go_enter Tryz.func119,Tryz.ntmps119;go_wp2_with fail;refine (HP.o _).mono ?_;rintro e W1 ⟨rfl,hb1⟩;have H1:=T (H0.o.call hb1);have H2:Hid (Bag w ((W1.alloc (.cells #[Y J c0,Y J c1,Y J c2,Y J c3] 27)).alloc (.cells #[Y J 0,Y J 0,Y J 0,Y J 0] 27)) [(w.heap.size,pxc ⟨a0,a1,a2,a3⟩),(w.heap.size+1,zU),(W1.heap.size,pxc ⟨c0,c1,c2,c3⟩),(W1.heap.size+1,upC (tinC m ⟨c0,c1,c2,c3⟩) 0)]):=by
  have h:=(H1.o.alloc (pxc ⟨c0,c1,c2,c3⟩) 27).alloc (upC (tinC m ⟨c0,c1,c2,c3⟩) 0) 27;simp only [size_alloc,List.cons_append,List.nil_append] at h;exact h
 clear hb1 H0 H1 HP;go_wp2_with fail;generalize ((W1.alloc (.cells #[Y J c0,Y J c1,Y J c2,Y J c3] 27)).alloc (.cells #[Y J 0,Y J 0,Y J 0,Y J 0] 27))=W3 at *;go_loopw [7,8] (fun jv _ wr=>∃ j:Nat,j≤4∧jv=Y X j∧Bag w wr [(w.heap.size,pxc ⟨a0,a1,a2,a3⟩),(w.heap.size+1,zU),(W1.heap.size,pxc ⟨c0,c1,c2,c3⟩),(W1.heap.size+1,upC (tinC m ⟨c0,c1,c2,c3⟩) j)]) (fun jv _ _=>4-(intOf jv).toNat)
 case atStart=>exact ⟨0,by omega,rfl,H2.o⟩
 case round=>
  obtain ⟨j,hj,rfl,hr⟩:=hrel;have H1:=T hr;clear hr H2
  match j,hj with
  |0,_=>
   obtain ⟨e0,h0⟩:∃ e,e=m.getD 0 0:=⟨_,rfl⟩;have b0 : -32768≤e0∧e0≤32767:=by rw [h0];exact HMX.o 0 (by omega)
   have d0:wr.cell? ⟨mb,mo,none⟩=some (Y X e0):=by rw [h0];exact HMC.o wr H1.o.below 0 (by omega)
   obtain ⟨e1,h1⟩:∃ e,e=m.getD 1 0:=⟨_,rfl⟩;have b1 : -32768≤e1∧e1≤32767:=by rw [h1];exact HMX.o 1 (by omega)
   have d1:wr.cell? ⟨mb,mo+1,none⟩=some (Y X e1):=by rw [h1];exact HMC.o wr H1.o.below 1 (by omega)
   obtain ⟨e2,h2⟩:∃ e,e=m.getD 2 0:=⟨_,rfl⟩;have b2 : -32768≤e2∧e2≤32767:=by rw [h2];exact HMX.o 2 (by omega)
   have d2:wr.cell? ⟨mb,mo+2,none⟩=some (Y X e2):=by rw [h2];exact HMC.o wr H1.o.below 2 (by omega)
   obtain ⟨e3,h3⟩:∃ e,e=m.getD 3 0:=⟨_,rfl⟩;have b3 : -32768≤e3∧e3≤32767:=by rw [h3];exact HMX.o 3 (by omega)
   have d3:wr.cell? ⟨mb,mo+3,none⟩=some (Y X e3):=by rw [h3];exact HMC.o wr H1.o.below 3 (by omega)
   obtain ⟨e4,h4⟩:∃ e,e=m.getD 4 0:=⟨_,rfl⟩;have b4 : -32768≤e4∧e4≤32767:=by rw [h4];exact HMX.o 4 (by omega)
   have d4:wr.cell? ⟨mb,mo+4,none⟩=some (Y X e4):=by rw [h4];exact HMC.o wr H1.o.below 4 (by omega)
   obtain ⟨n0,g0⟩:∃ n,e0*c0=n:=⟨_,rfl⟩;have z0 : -8355840≤n0∧n0≤8355840:=by rw [←g0];exact prod_bd b0 HCK.o.1
   obtain ⟨n1,g1⟩:∃ n,e1*c1=n:=⟨_,rfl⟩;have z1 : -8355840≤n1∧n1≤8355840:=by rw [←g1];exact prod_bd b1 HCK.o.2.1
   obtain ⟨n2,g2⟩:∃ n,e2*c2=n:=⟨_,rfl⟩;have z2 : -8355840≤n2∧n2≤8355840:=by rw [←g2];exact prod_bd b2 HCK.o.2.2.1
   obtain ⟨n3,g3⟩:∃ n,e3*c3=n:=⟨_,rfl⟩;have z3 : -8355840≤n3∧n3≤8355840:=by rw [←g3];exact prod_bd b3 HCK.o.2.2.2
   obtain ⟨N,hN⟩:∃ N,N=n0+n1+n2+n3+255*e4+128:=⟨_,rfl⟩;have HNE:Hid (mixN m ⟨c0,c1,c2,c3⟩ 0=N):=by rw [hN,←g0,←g1,←g2,←g3,h0,h1,h2,h3,h4];rfl
   have zN : -9000000000≤N∧N≤9000000000:=by omega
   have HD:Hid (∀ W,Calls Tryz.prog 131 #[Y X (n0+n1+n2+n3+255*e4+128)] W (PPost W (Y X (N/256)))):=fun W=>by rw [←hN];exact down07_c N W zN
   obtain ⟨V,hV⟩:∃ V,V=tinC m ⟨c0,c1,c2,c3⟩ 0:=⟨_,rfl⟩;have HC:Hid (∀ W,Calls Tryz.prog 101 #[Y X (N/256)] W (PPost W (Y J V))):=fun W=>ret_u8 (cut01_c _ W) (by rw [hV];unfold tinC;rw [HNE.o]);have HV:=T hV;obtain ⟨z00,z01⟩:=z0;obtain ⟨z10,z11⟩:=z1;obtain ⟨z20,z21⟩:=z2;obtain ⟨z30,z31⟩:=z3;obtain ⟨b40,b41⟩:=b4;obtain ⟨q00,q01⟩:=HCK.o.1;obtain ⟨q10,q11⟩:=HCK.o.2.1;obtain ⟨q20,q21⟩:=HCK.o.2.2.1;obtain ⟨q30,q31⟩:=HCK.o.2.2.2;dsimp only at q00 q01 q10 q11 q20 q21 q30 q31;clear hN zN hV h0 h1 h2 h3 h4 b0 b1 b2 b3;obtain ⟨x0,x1,x2,x3⟩:=(H1.o.box 2 rfl).c4;obtain ⟨kd0,kd1,kd2,kd3,kd4,kx0,kx1,kx2⟩:=kept8 d0 d1 d2 d3 d4 x0 x1 x2;have kx3:=fun s:Kept wr.heap.size wr=>s.at x3;clear d0 d1 d2 d3 d4 x0 x1 x2 x3;go_wp2_with fail;refine wp_region_kept wr.heap.size (by kernel_rfl) (by kernel_rfl) ?_
   repeat (go_big_quiet_step (fail))
   refine wpQuiet_nil ?_;rintro _ ⟨s1,rfl⟩;have H4:=T (H1.o.call s1.below);clear kd0 kd1 kd2 kd3 kd4 kx0 kx1 kx2 kx3 g0 g1 g2 g3;go_wp2_with fail
   (with_reducible refine (HD.o _).mono ?_);rintro e W5 ⟨rfl,hb5⟩
   go_wp2_with fail
   (with_reducible refine (HC.o _).mono ?_);rintro e W6 ⟨rfl,hb6⟩
   have H5:=T ((H4.o.call hb5).call hb6);have y0:=H5.o.cell 3 rfl 0 rfl;have f0:=H5.o.frozen 3 rfl 0;have H6:Hid (Bag w (W6.setCell ⟨W1.heap.size+1,0,none⟩ (Y J V)) [(w.heap.size,pxc ⟨a0,a1,a2,a3⟩),(w.heap.size+1,zU),(W1.heap.size,pxc ⟨c0,c1,c2,c3⟩),(W1.heap.size+1,upC (tinC m ⟨c0,c1,c2,c3⟩) 1)]):=by
    rw [HV.o];exact H5.o.set 3 rfl 0 _
   clear hb5 hb6 H4 H5 HD HC;go_wp2_with fail;go_roundw
   case rel=>exact ⟨1,by omega,by go_num,H6.o⟩
   case measure=>simp [intOf]
  |1,_=>
   obtain ⟨e0,h0⟩:∃ e,e=m.getD 5 0:=⟨_,rfl⟩;have b0 : -32768≤e0∧e0≤32767:=by rw [h0];exact HMX.o 5 (by omega)
   have d0:wr.cell? ⟨mb,mo+5,none⟩=some (Y X e0):=by rw [h0];exact HMC.o wr H1.o.below 5 (by omega)
   obtain ⟨e1,h1⟩:∃ e,e=m.getD 6 0:=⟨_,rfl⟩;have b1 : -32768≤e1∧e1≤32767:=by rw [h1];exact HMX.o 6 (by omega)
   have d1:wr.cell? ⟨mb,mo+6,none⟩=some (Y X e1):=by rw [h1];exact HMC.o wr H1.o.below 6 (by omega)
   obtain ⟨e2,h2⟩:∃ e,e=m.getD 7 0:=⟨_,rfl⟩;have b2 : -32768≤e2∧e2≤32767:=by rw [h2];exact HMX.o 7 (by omega)
   have d2:wr.cell? ⟨mb,mo+7,none⟩=some (Y X e2):=by rw [h2];exact HMC.o wr H1.o.below 7 (by omega)
   obtain ⟨e3,h3⟩:∃ e,e=m.getD 8 0:=⟨_,rfl⟩;have b3 : -32768≤e3∧e3≤32767:=by rw [h3];exact HMX.o 8 (by omega)
   have d3:wr.cell? ⟨mb,mo+8,none⟩=some (Y X e3):=by rw [h3];exact HMC.o wr H1.o.below 8 (by omega)
   obtain ⟨e4,h4⟩:∃ e,e=m.getD 9 0:=⟨_,rfl⟩;have b4 : -32768≤e4∧e4≤32767:=by rw [h4];exact HMX.o 9 (by omega)
   have d4:wr.cell? ⟨mb,mo+9,none⟩=some (Y X e4):=by rw [h4];exact HMC.o wr H1.o.below 9 (by omega)
   obtain ⟨n0,g0⟩:∃ n,e0*c0=n:=⟨_,rfl⟩;have z0 : -8355840≤n0∧n0≤8355840:=by rw [←g0];exact prod_bd b0 HCK.o.1
   obtain ⟨n1,g1⟩:∃ n,e1*c1=n:=⟨_,rfl⟩;have z1 : -8355840≤n1∧n1≤8355840:=by rw [←g1];exact prod_bd b1 HCK.o.2.1
   obtain ⟨n2,g2⟩:∃ n,e2*c2=n:=⟨_,rfl⟩;have z2 : -8355840≤n2∧n2≤8355840:=by rw [←g2];exact prod_bd b2 HCK.o.2.2.1
   obtain ⟨n3,g3⟩:∃ n,e3*c3=n:=⟨_,rfl⟩;have z3 : -8355840≤n3∧n3≤8355840:=by rw [←g3];exact prod_bd b3 HCK.o.2.2.2
   obtain ⟨N,hN⟩:∃ N,N=n0+n1+n2+n3+255*e4+128:=⟨_,rfl⟩;have HNE:Hid (mixN m ⟨c0,c1,c2,c3⟩ 1=N):=by rw [hN,←g0,←g1,←g2,←g3,h0,h1,h2,h3,h4];rfl
   have zN : -9000000000≤N∧N≤9000000000:=by omega
   have HD:Hid (∀ W,Calls Tryz.prog 131 #[Y X (n0+n1+n2+n3+255*e4+128)] W (PPost W (Y X (N/256)))):=fun W=>by rw [←hN];exact down07_c N W zN
   obtain ⟨V,hV⟩:∃ V,V=tinC m ⟨c0,c1,c2,c3⟩ 1:=⟨_,rfl⟩;have HC:Hid (∀ W,Calls Tryz.prog 101 #[Y X (N/256)] W (PPost W (Y J V))):=fun W=>ret_u8 (cut01_c _ W) (by rw [hV];unfold tinC;rw [HNE.o]);have HV:=T hV;obtain ⟨z00,z01⟩:=z0;obtain ⟨z10,z11⟩:=z1;obtain ⟨z20,z21⟩:=z2;obtain ⟨z30,z31⟩:=z3;obtain ⟨b40,b41⟩:=b4;obtain ⟨q00,q01⟩:=HCK.o.1;obtain ⟨q10,q11⟩:=HCK.o.2.1;obtain ⟨q20,q21⟩:=HCK.o.2.2.1;obtain ⟨q30,q31⟩:=HCK.o.2.2.2;dsimp only at q00 q01 q10 q11 q20 q21 q30 q31;clear hN zN hV h0 h1 h2 h3 h4 b0 b1 b2 b3;obtain ⟨x0,x1,x2,x3⟩:=(H1.o.box 2 rfl).c4;obtain ⟨kd0,kd1,kd2,kd3,kd4,kx0,kx1,kx2⟩:=kept8 d0 d1 d2 d3 d4 x0 x1 x2;have kx3:=fun s:Kept wr.heap.size wr=>s.at x3;clear d0 d1 d2 d3 d4 x0 x1 x2 x3;go_wp2_with fail;refine wp_region_kept wr.heap.size (by kernel_rfl) (by kernel_rfl) ?_
   repeat (go_big_quiet_step (fail))
   refine wpQuiet_nil ?_;rintro _ ⟨s1,rfl⟩;have H4:=T (H1.o.call s1.below);clear kd0 kd1 kd2 kd3 kd4 kx0 kx1 kx2 kx3 g0 g1 g2 g3;go_wp2_with fail
   (with_reducible refine (HD.o _).mono ?_);rintro e W5 ⟨rfl,hb5⟩
   go_wp2_with fail
   (with_reducible refine (HC.o _).mono ?_);rintro e W6 ⟨rfl,hb6⟩
   have H5:=T ((H4.o.call hb5).call hb6);have y0:=H5.o.cell 3 rfl 1 rfl;have f0:=H5.o.frozen 3 rfl 1;have H6:Hid (Bag w (W6.setCell ⟨W1.heap.size+1,1,none⟩ (Y J V)) [(w.heap.size,pxc ⟨a0,a1,a2,a3⟩),(w.heap.size+1,zU),(W1.heap.size,pxc ⟨c0,c1,c2,c3⟩),(W1.heap.size+1,upC (tinC m ⟨c0,c1,c2,c3⟩) 2)]):=by
    rw [HV.o];exact H5.o.set 3 rfl 1 _
   clear hb5 hb6 H4 H5 HD HC;go_wp2_with fail;go_roundw
   case rel=>exact ⟨2,by omega,by go_num,H6.o⟩
   case measure=>simp [intOf]
  |2,_=>
   obtain ⟨e0,h0⟩:∃ e,e=m.getD 10 0:=⟨_,rfl⟩;have b0 : -32768≤e0∧e0≤32767:=by rw [h0];exact HMX.o 10 (by omega)
   have d0:wr.cell? ⟨mb,mo+10,none⟩=some (Y X e0):=by rw [h0];exact HMC.o wr H1.o.below 10 (by omega)
   obtain ⟨e1,h1⟩:∃ e,e=m.getD 11 0:=⟨_,rfl⟩;have b1 : -32768≤e1∧e1≤32767:=by rw [h1];exact HMX.o 11 (by omega)
   have d1:wr.cell? ⟨mb,mo+11,none⟩=some (Y X e1):=by rw [h1];exact HMC.o wr H1.o.below 11 (by omega)
   obtain ⟨e2,h2⟩:∃ e,e=m.getD 12 0:=⟨_,rfl⟩;have b2 : -32768≤e2∧e2≤32767:=by rw [h2];exact HMX.o 12 (by omega)
   have d2:wr.cell? ⟨mb,mo+12,none⟩=some (Y X e2):=by rw [h2];exact HMC.o wr H1.o.below 12 (by omega)
   obtain ⟨e3,h3⟩:∃ e,e=m.getD 13 0:=⟨_,rfl⟩;have b3 : -32768≤e3∧e3≤32767:=by rw [h3];exact HMX.o 13 (by omega)
   have d3:wr.cell? ⟨mb,mo+13,none⟩=some (Y X e3):=by rw [h3];exact HMC.o wr H1.o.below 13 (by omega)
   obtain ⟨e4,h4⟩:∃ e,e=m.getD 14 0:=⟨_,rfl⟩;have b4 : -32768≤e4∧e4≤32767:=by rw [h4];exact HMX.o 14 (by omega)
   have d4:wr.cell? ⟨mb,mo+14,none⟩=some (Y X e4):=by rw [h4];exact HMC.o wr H1.o.below 14 (by omega)
   obtain ⟨n0,g0⟩:∃ n,e0*c0=n:=⟨_,rfl⟩;have z0 : -8355840≤n0∧n0≤8355840:=by rw [←g0];exact prod_bd b0 HCK.o.1
   obtain ⟨n1,g1⟩:∃ n,e1*c1=n:=⟨_,rfl⟩;have z1 : -8355840≤n1∧n1≤8355840:=by rw [←g1];exact prod_bd b1 HCK.o.2.1
   obtain ⟨n2,g2⟩:∃ n,e2*c2=n:=⟨_,rfl⟩;have z2 : -8355840≤n2∧n2≤8355840:=by rw [←g2];exact prod_bd b2 HCK.o.2.2.1
   obtain ⟨n3,g3⟩:∃ n,e3*c3=n:=⟨_,rfl⟩;have z3 : -8355840≤n3∧n3≤8355840:=by rw [←g3];exact prod_bd b3 HCK.o.2.2.2
   obtain ⟨N,hN⟩:∃ N,N=n0+n1+n2+n3+255*e4+128:=⟨_,rfl⟩;have HNE:Hid (mixN m ⟨c0,c1,c2,c3⟩ 2=N):=by rw [hN,←g0,←g1,←g2,←g3,h0,h1,h2,h3,h4];rfl
   have zN : -9000000000≤N∧N≤9000000000:=by omega
   have HD:Hid (∀ W,Calls Tryz.prog 131 #[Y X (n0+n1+n2+n3+255*e4+128)] W (PPost W (Y X (N/256)))):=fun W=>by rw [←hN];exact down07_c N W zN
   obtain ⟨V,hV⟩:∃ V,V=tinC m ⟨c0,c1,c2,c3⟩ 2:=⟨_,rfl⟩;have HC:Hid (∀ W,Calls Tryz.prog 101 #[Y X (N/256)] W (PPost W (Y J V))):=fun W=>ret_u8 (cut01_c _ W) (by rw [hV];unfold tinC;rw [HNE.o]);have HV:=T hV;obtain ⟨z00,z01⟩:=z0;obtain ⟨z10,z11⟩:=z1;obtain ⟨z20,z21⟩:=z2;obtain ⟨z30,z31⟩:=z3;obtain ⟨b40,b41⟩:=b4;obtain ⟨q00,q01⟩:=HCK.o.1;obtain ⟨q10,q11⟩:=HCK.o.2.1;obtain ⟨q20,q21⟩:=HCK.o.2.2.1;obtain ⟨q30,q31⟩:=HCK.o.2.2.2;dsimp only at q00 q01 q10 q11 q20 q21 q30 q31;clear hN zN hV h0 h1 h2 h3 h4 b0 b1 b2 b3;obtain ⟨x0,x1,x2,x3⟩:=(H1.o.box 2 rfl).c4;obtain ⟨kd0,kd1,kd2,kd3,kd4,kx0,kx1,kx2⟩:=kept8 d0 d1 d2 d3 d4 x0 x1 x2;have kx3:=fun s:Kept wr.heap.size wr=>s.at x3;clear d0 d1 d2 d3 d4 x0 x1 x2 x3;go_wp2_with fail;refine wp_region_kept wr.heap.size (by kernel_rfl) (by kernel_rfl) ?_
   repeat (go_big_quiet_step (fail))
   refine wpQuiet_nil ?_;rintro _ ⟨s1,rfl⟩;have H4:=T (H1.o.call s1.below);clear kd0 kd1 kd2 kd3 kd4 kx0 kx1 kx2 kx3 g0 g1 g2 g3;go_wp2_with fail
   (with_reducible refine (HD.o _).mono ?_);rintro e W5 ⟨rfl,hb5⟩
   go_wp2_with fail
   (with_reducible refine (HC.o _).mono ?_);rintro e W6 ⟨rfl,hb6⟩
   have H5:=T ((H4.o.call hb5).call hb6);have y0:=H5.o.cell 3 rfl 2 rfl;have f0:=H5.o.frozen 3 rfl 2;have H6:Hid (Bag w (W6.setCell ⟨W1.heap.size+1,2,none⟩ (Y J V)) [(w.heap.size,pxc ⟨a0,a1,a2,a3⟩),(w.heap.size+1,zU),(W1.heap.size,pxc ⟨c0,c1,c2,c3⟩),(W1.heap.size+1,upC (tinC m ⟨c0,c1,c2,c3⟩) 3)]):=by
    rw [HV.o];exact H5.o.set 3 rfl 2 _
   clear hb5 hb6 H4 H5 HD HC;go_wp2_with fail;go_roundw
   case rel=>exact ⟨3,by omega,by go_num,H6.o⟩
   case measure=>simp [intOf]
  |3,_=>
   obtain ⟨e0,h0⟩:∃ e,e=m.getD 15 0:=⟨_,rfl⟩;have b0 : -32768≤e0∧e0≤32767:=by rw [h0];exact HMX.o 15 (by omega)
   have d0:wr.cell? ⟨mb,mo+15,none⟩=some (Y X e0):=by rw [h0];exact HMC.o wr H1.o.below 15 (by omega)
   obtain ⟨e1,h1⟩:∃ e,e=m.getD 16 0:=⟨_,rfl⟩;have b1 : -32768≤e1∧e1≤32767:=by rw [h1];exact HMX.o 16 (by omega)
   have d1:wr.cell? ⟨mb,mo+16,none⟩=some (Y X e1):=by rw [h1];exact HMC.o wr H1.o.below 16 (by omega)
   obtain ⟨e2,h2⟩:∃ e,e=m.getD 17 0:=⟨_,rfl⟩;have b2 : -32768≤e2∧e2≤32767:=by rw [h2];exact HMX.o 17 (by omega)
   have d2:wr.cell? ⟨mb,mo+17,none⟩=some (Y X e2):=by rw [h2];exact HMC.o wr H1.o.below 17 (by omega)
   obtain ⟨e3,h3⟩:∃ e,e=m.getD 18 0:=⟨_,rfl⟩;have b3 : -32768≤e3∧e3≤32767:=by rw [h3];exact HMX.o 18 (by omega)
   have d3:wr.cell? ⟨mb,mo+18,none⟩=some (Y X e3):=by rw [h3];exact HMC.o wr H1.o.below 18 (by omega)
   obtain ⟨e4,h4⟩:∃ e,e=m.getD 19 0:=⟨_,rfl⟩;have b4 : -32768≤e4∧e4≤32767:=by rw [h4];exact HMX.o 19 (by omega)
   have d4:wr.cell? ⟨mb,mo+19,none⟩=some (Y X e4):=by rw [h4];exact HMC.o wr H1.o.below 19 (by omega)
   obtain ⟨n0,g0⟩:∃ n,e0*c0=n:=⟨_,rfl⟩;have z0 : -8355840≤n0∧n0≤8355840:=by rw [←g0];exact prod_bd b0 HCK.o.1
   obtain ⟨n1,g1⟩:∃ n,e1*c1=n:=⟨_,rfl⟩;have z1 : -8355840≤n1∧n1≤8355840:=by rw [←g1];exact prod_bd b1 HCK.o.2.1
   obtain ⟨n2,g2⟩:∃ n,e2*c2=n:=⟨_,rfl⟩;have z2 : -8355840≤n2∧n2≤8355840:=by rw [←g2];exact prod_bd b2 HCK.o.2.2.1
   obtain ⟨n3,g3⟩:∃ n,e3*c3=n:=⟨_,rfl⟩;have z3 : -8355840≤n3∧n3≤8355840:=by rw [←g3];exact prod_bd b3 HCK.o.2.2.2
   obtain ⟨N,hN⟩:∃ N,N=n0+n1+n2+n3+255*e4+128:=⟨_,rfl⟩;have HNE:Hid (mixN m ⟨c0,c1,c2,c3⟩ 3=N):=by rw [hN,←g0,←g1,←g2,←g3,h0,h1,h2,h3,h4];rfl
   have zN : -9000000000≤N∧N≤9000000000:=by omega
   have HD:Hid (∀ W,Calls Tryz.prog 131 #[Y X (n0+n1+n2+n3+255*e4+128)] W (PPost W (Y X (N/256)))):=fun W=>by rw [←hN];exact down07_c N W zN
   obtain ⟨V,hV⟩:∃ V,V=tinC m ⟨c0,c1,c2,c3⟩ 3:=⟨_,rfl⟩;have HC:Hid (∀ W,Calls Tryz.prog 101 #[Y X (N/256)] W (PPost W (Y J V))):=fun W=>ret_u8 (cut01_c _ W) (by rw [hV];unfold tinC;rw [HNE.o]);have HV:=T hV;obtain ⟨z00,z01⟩:=z0;obtain ⟨z10,z11⟩:=z1;obtain ⟨z20,z21⟩:=z2;obtain ⟨z30,z31⟩:=z3;obtain ⟨b40,b41⟩:=b4;obtain ⟨q00,q01⟩:=HCK.o.1;obtain ⟨q10,q11⟩:=HCK.o.2.1;obtain ⟨q20,q21⟩:=HCK.o.2.2.1;obtain ⟨q30,q31⟩:=HCK.o.2.2.2;dsimp only at q00 q01 q10 q11 q20 q21 q30 q31;clear hN zN hV h0 h1 h2 h3 h4 b0 b1 b2 b3;obtain ⟨x0,x1,x2,x3⟩:=(H1.o.box 2 rfl).c4;obtain ⟨kd0,kd1,kd2,kd3,kd4,kx0,kx1,kx2⟩:=kept8 d0 d1 d2 d3 d4 x0 x1 x2;have kx3:=fun s:Kept wr.heap.size wr=>s.at x3;clear d0 d1 d2 d3 d4 x0 x1 x2 x3;go_wp2_with fail;refine wp_region_kept wr.heap.size (by kernel_rfl) (by kernel_rfl) ?_
   repeat (go_big_quiet_step (fail))
   refine wpQuiet_nil ?_;rintro _ ⟨s1,rfl⟩;have H4:=T (H1.o.call s1.below);clear kd0 kd1 kd2 kd3 kd4 kx0 kx1 kx2 kx3 g0 g1 g2 g3;go_wp2_with fail
   (with_reducible refine (HD.o _).mono ?_);rintro e W5 ⟨rfl,hb5⟩
   go_wp2_with fail
   (with_reducible refine (HC.o _).mono ?_);rintro e W6 ⟨rfl,hb6⟩
   have H5:=T ((H4.o.call hb5).call hb6);have y0:=H5.o.cell 3 rfl 3 rfl;have f0:=H5.o.frozen 3 rfl 3;have H6:Hid (Bag w (W6.setCell ⟨W1.heap.size+1,3,none⟩ (Y J V)) [(w.heap.size,pxc ⟨a0,a1,a2,a3⟩),(w.heap.size+1,zU),(W1.heap.size,pxc ⟨c0,c1,c2,c3⟩),(W1.heap.size+1,upC (tinC m ⟨c0,c1,c2,c3⟩) 4)]):=by
    rw [HV.o];exact H5.o.set 3 rfl 3 _
   clear hb5 hb6 H4 H5 HD HC;go_wp2_with fail;go_roundw
   case rel=>exact ⟨4,by omega,by go_num,H6.o⟩
   case measure=>simp [intOf]
  |4,_=>
   obtain ⟨t0,t1,t2,t3⟩:=t;obtain ⟨q0,q1,q2,q3⟩:=q;have HQ:Hid (Bag w wr [(w.heap.size,pxc ⟨a0,a1,a2,a3⟩),(w.heap.size+1,zU),(W1.heap.size,pxc ⟨c0,c1,c2,c3⟩),(W1.heap.size+1,pxc ⟨t0,t1,t2,t3⟩)]):=by
    rw [HTE.o];exact H1.o
   clear H1;obtain ⟨x0,x1,x2,x3⟩:=(HQ.o.box 3 rfl).c4;go_wp2_with fail
   (with_reducible refine (HT.o _).mono ?_);rintro e W7 ⟨rfl,hb7⟩
   have H7:=T (HQ.o.call hb7);clear hb7 x0 x1 x2 x3;obtain ⟨r0,r1,r2,r3⟩:=(H7.o.box 1 rfl).c4;obtain ⟨f0,f1,f2,f3⟩:=(H7.o.box 1 rfl).f4;go_wp2_with fail;have H8:=H7.o.set4 1 rfl (Y J q0) (Y J q1) (Y J q2) (Y J q3);exact ret_px (p:=⟨q0,q1,q2,q3⟩) rfl rfl (H8.box 1 rfl) rfl ⟨by rw [HQE.o],H8.below⟩
  |j+5,hj=>omega
theorem infoPx:(Tryz.prog.info? 27).map (fun i=>(i.zero,i.size,i.bytes))=some (some (.agg #[Y J 0,Y J 0,Y J 0,Y J 0]),4,4):=by kernel_rfl
theorem ret_bf {fn:Func} {q:Tmp} (h:fn.results=#[.cell q 43]) {a:Act} {W:World} {g:Nat} {r:Rc} {s:Value} {R:Ending→World→Prop} (hp:a.tmps.getD q undef=.pointer (some ⟨g,0,none⟩)) (hx:Box W g (bfc r s)) (hd:a.defers=[]) (hR:R (.returned (bfv r s)) W):bodyPost Tryz.prog fn R .ret a W:=by
 obtain ⟨t,ht⟩:=hx;exact bodyPost_ret_by (results_cell_row h a.tmps W g t _ (0,0) _ hp ht Tryz.underlying43 rfl (by kernel_rfl)) hd hR
theorem grown_set {w w':World} {row:Option Nat} (h:w.grownBy w' row) {p:Addr} (hp:w.heap.size≤p.block) (v:Value):w.grownBy (w'.setCell p v) row:=
 ⟨h.os,h.tape,h.output,by rw [size_set];exact h.size,fun k hk hne=>by
  rw [Below.heap_setCell _ _ _ _ (by omega)];exact h.block k hk hne⟩
theorem grown_set5 {w w':World} {row:Option Nat} (h:w.grownBy w' row) {a:Nat} (hp:w.heap.size≤a) (u0 u1 u2 u3 u4:Value):w.grownBy (((((w'.setCell ⟨a,0,none⟩ u0).setCell ⟨a,1,none⟩ u1).setCell ⟨a,2,none⟩ u2).setCell ⟨a,3,none⟩ u3).setCell ⟨a,4,none⟩ u4) row:=
 grown_set (grown_set (grown_set (grown_set (grown_set h hp _) hp _) hp _) hp _) hp _
theorem owns_set_ne {w:World} {base:Nat} {e:TypeId} {size:Nat} {g n c:Nat} {xs:List Value} (h:w.ownsRow base e size (Z (some ⟨g,0,none⟩) n c) n xs) {p:Addr} (hp:p.block≠g) (u:Value):(w.setCell p u).ownsRow base e size (Z (some ⟨g,0,none⟩) n c) n xs:=by
 refine ⟨h.1,?_⟩
 rcases h.2 with ⟨h1,_⟩|⟨g',cap,cur,h1,h2,h3,h4⟩
 ·cases h1
 ·cases h1
  refine .inr ⟨g,c,cur,rfl,h2,?_,h4⟩;rw [Below.heap_setCell _ _ _ _ (fun e=>hp e.symm)];exact h3
theorem owns_set5_ne {w:World} {base:Nat} {e:TypeId} {size:Nat} {g n c:Nat} {xs:List Value} (h:w.ownsRow base e size (Z (some ⟨g,0,none⟩) n c) n xs) {a:Nat} (hp:a≠g) (u0 u1 u2 u3 u4:Value):(((((w.setCell ⟨a,0,none⟩ u0).setCell ⟨a,1,none⟩ u1).setCell ⟨a,2,none⟩ u2).setCell ⟨a,3,none⟩ u3).setCell ⟨a,4,none⟩ u4).ownsRow base e size (Z (some ⟨g,0,none⟩) n c) n xs:=
 owns_set_ne (owns_set_ne (owns_set_ne (owns_set_ne (owns_set_ne h hp _) hp _) hp _) hp _) hp _
theorem grown_call {w w':World} {row:Option Nat} (h:Below w.heap.size w w'):w.grownBy w' row:=⟨h.os,h.tape,h.output,h.size,fun k hk _=>h.block k hk⟩
theorem at05_c (b:Bf) (a:Option Addr) (n c:Nat) (x y:Int) (w:World) (hb:BfV w b (Z a n c)):Calls Tryz.prog 9 #[bfv b.box (Z a n c),Y X x,Y X y] w (PPost w (pxv (atB b x y))):=by
 obtain ⟨⟨x0,y0,x1,y1⟩,pix⟩:=b;have hn:n=pix.length∧n≤c∧c≤maxLen:=by
  obtain ⟨a',c',h1,h2,h3,_⟩:=hb.sl;simp only [L] at h1;obtain ⟨_,h4,h5⟩:=h1;subst h5;exact ⟨h4,by rw [h4];exact h2,h3⟩
 have hpl:=hb.pl;have HBV:Hid (BfV w ⟨⟨x0,y0,x1,y1⟩,pix⟩ (Z a n c)∧n=pix.length):=⟨hb,hn.1⟩;have H0:Hid (Bag w ((w.alloc (.cells #[Y X x0,Y X y0,Y X x1,Y X y1,Z a n c] 43)).alloc (.cells #[Y J 0,Y J 0,Y J 0,Y J 0] 27)) [(w.heap.size,bfc ⟨x0,y0,x1,y1⟩ (Z a n c)),(w.heap.size+1,zU)]):=bag2 w (bfc ⟨x0,y0,x1,y1⟩ (Z a n c)) zU _ _;obtain ⟨h,hh⟩:∃ h,h=hasR ⟨x0,y0,x1,y1⟩ x y:=⟨_,rfl⟩;have HH:Hid (∀ W,Calls Tryz.prog 10 #[rv ⟨x0,y0,x1,y1⟩,Y X x,Y X y] W (PPost W (.bool h))):=fun W=>by rw [hh];exact has03_c _ x y W
 have HE:=T hh;obtain ⟨p,hp⟩:∃ p,p=atB ⟨⟨x0,y0,x1,y1⟩,pix⟩ x y:=⟨_,rfl⟩;have HP:=T hp;dsimp only;rw [←hp];obtain ⟨hnq,hnc,hcm⟩:=hn;unfold maxLen at hcm;obtain ⟨⟨l0,l1⟩,⟨l2,l3⟩,⟨l4,l5⟩,l6,l7⟩:=hpl;dsimp only at l0 l1 l2 l3 l4 l5 l6 l7;clear hb hh hp hnq;go_enter Tryz.func9,Tryz.ntmps9;go_wp2_with fail;refine (HH.o _).mono ?_;rintro e W1 ⟨rfl,hb1⟩;have H1:=T (H0.o.call hb1);clear hb1 H0 HH;have r0:=H1.o.cell 1 rfl 0 rfl;have f0:=H1.o.frozen 1 rfl 0;have r1:=H1.o.cell 1 rfl 1 rfl;have f1:=H1.o.frozen 1 rfl 1;have r2:=H1.o.cell 1 rfl 2 rfl;have f2:=H1.o.frozen 1 rfl 2;have r3:=H1.o.cell 1 rfl 3 rfl;have f3:=H1.o.frozen 1 rfl 3;cases h with
 |false=>
  obtain rfl:p=Px.zero:=by rw [HP.o];unfold atB;rw [←HE.o];rfl
  go_wp2_with fail;have H2:=H1.o.set4 1 rfl (Y J 0) (Y J 0) (Y J 0) (Y J 0);exact ret_px (p:=Px.zero) rfl rfl (H2.box 1 rfl) rfl ⟨rfl,H2.below⟩
 |true=>
  have hR:=(hasR_iff _ _ _).1 HE.o.symm;dsimp only at hR;obtain ⟨⟨g0,g1⟩,g2,g3⟩:=hR;obtain ⟨m,hm⟩:∃ m,(y-y0)*(x1-x0)=m:=⟨_,rfl⟩;obtain ⟨i,hi⟩:∃ i:Nat,m+(x-x0)=(i:Int):=⟨(ixB ⟨x0,y0,x1,y1⟩ x y).toNat,by
   have:=(ixB_bd HE.o.symm).1;rw [←hm];unfold ixB at this ⊢;dsimp only at this ⊢;omega⟩
  have him:0≤m:=by rw [←hm];exact Int.mul_nonneg (by omega) (by omega)
  have hin:i<n:=by
   have h1:=(ixB_bd HE.o.symm).2;rw [HBV.o.2,HBV.o.1.ok.len];unfold ixB at h1;dsimp only at h1 ⊢;rw [hm,hi] at h1;exact h1
  have hpi:pix[i]?=some p:=by
   rw [HP.o];unfold atB;rw [if_pos HE.o.symm];have h2:(ixB ⟨x0,y0,x1,y1⟩ x y).toNat=i:=by
    unfold ixB;dsimp only;rw [hm,hi];rfl
   rw [h2];have h3:i<pix.length:=by rw [←HBV.o.2];exact hin
   simp [h3]
  obtain ⟨b,off,hab,hcs⟩:∃ b off,a=some ⟨b,off,none⟩∧∀ j u,(pxc p)[j]?=some u→W1.cell? ⟨b,off+i*4+j,none⟩=some u:=by
   obtain ⟨a',c',h1,_,_,h3⟩:=(HBV.o.1.below H1.o.below).sl;simp only [L] at h1
   rcases h3 with h3|⟨b,off,h4,_,h5⟩
   ·dsimp only at h3;rw [h3] at hpi;simp at hpi
   ·obtain ⟨cs,_,h6,h7,_⟩:=h5 i p hpi;exact ⟨b,off,h1.1.trans h4,fun j u hu=>h6 j u (by rw [h7];exact hu)⟩
  subst hab;have c0:W1.cell? ⟨b,off+i*4,none⟩=some (Y J p.r):=hcs 0 _ rfl;have c1:W1.cell? ⟨b,off+i*4+1,none⟩=some (Y J p.g):=hcs 1 _ rfl;have c2:W1.cell? ⟨b,off+i*4+2,none⟩=some (Y J p.b):=hcs 2 _ rfl;have c3:W1.cell? ⟨b,off+i*4+3,none⟩=some (Y J p.a):=hcs 3 _ rfl;have hi0:(0:Int)≤(i:Int):=by omega
  have hi1:(i:Int)<(n:Int):=by omega
  obtain ⟨p0,p1,p2,p3⟩:=p;obtain ⟨e0,e1,e2,e3,e4⟩:=(H1.o.box 0 rfl).c5;clear hpi hcs HP HE;go_wp2_with fail;have H2:=H1.o.set4 1 rfl (Y J p0) (Y J p1) (Y J p2) (Y J p3);exact ret_px (p:=⟨p0,p1,p2,p3⟩) rfl rfl (H2.box 1 rfl) rfl ⟨rfl,H2.below⟩
theorem with05_c (B:Nat) (r:Rc) (a:Option Addr) (n c:Nat) (l:List Px) (p:Px) (w:World) (hown:w.ownsRow B 27 4 (Z a n c) l.length (pxs l)) (hB:B≤w.heap.size) (hl:l.length≤2000000):Calls Tryz.prog 34 #[bfv r (Z a n c),pxv p] w (WithPost w B r (Z a n c) n l p):=by
 obtain ⟨x0,y0,x1,y1⟩:=r;obtain ⟨p0,p1,p2,p3⟩:=p;obtain ⟨iP,hiP,hz0,hz1,hz2⟩:=info_parts infoPx;obtain rfl:n=l.length:=by
  rcases hown.2 with ⟨h1,h2⟩|⟨g,cap,cur,h1,_⟩
  ·simp only [L] at h1;omega
  ·simp only [L] at h1;exact h1.2.1
 have HS:Hid (pxs (l++[⟨p0,p1,p2,p3⟩])=pxs l++pxc ⟨p0,p1,p2,p3⟩):=T (pxs_snoc _ _);obtain ⟨n,hn⟩:∃ n,n=l.length:=⟨_,rfl⟩;obtain ⟨xs,hxs⟩:∃ xs,xs=pxs l:=⟨_,rfl⟩;rw [←hn,←hxs] at hown;rw [←hxs] at HS;rw [←hn] at hl;have HN:Hid (n=l.length∧xs=pxs l):=⟨hn,hxs⟩;have H0:Hid (Bag w (((w.alloc (.cells #[Y X x0,Y X y0,Y X x1,Y X y1,Z a n c] 43)).alloc (.cells #[Y J p0,Y J p1,Y J p2,Y J p3] 27)).alloc (.cells #[Y X 0,Y X 0,Y X 0,Y X 0,Z none 0 0] 43)) [(w.heap.size,bfc ⟨x0,y0,x1,y1⟩ (Z a n c)),(w.heap.size+1,pxc ⟨p0,p1,p2,p3⟩),(w.heap.size+1+1,zS)]):=bag3 w (bfc ⟨x0,y0,x1,y1⟩ (Z a n c)) (pxc ⟨p0,p1,p2,p3⟩) zS _ _ _;have HOW:Hid (∀ W,Below w.heap.size w W→W.ownsRow B 27 4 (Z a n c) n xs∧B≤W.heap.size):=fun W hb=>⟨owns_below hown hb (Q _),Nat.le_trans hB hb.size⟩;have HRB:Hid (∀ k,(Value.slice a n c).ownBlock=some k→k<w.heap.size):=fun k hk=>(World.ownsRow.lt hown k hk).2;have HM1:Hid (n+1≤maxLen∧(n+1)*4≤140737488355328):=by constructor<;>(try unfold maxLen)<;>omega
 rw [←hn];clear hown hn hxs;go_enter Tryz.func34,Tryz.ntmps34;go_upto_region 1 with fail;generalize (((w.alloc (.cells #[Y X x0,Y X y0,Y X x1,Y X y1,Z a n c] 43)).alloc (.cells #[Y J p0,Y J p1,Y J p2,Y J p3] 27)).alloc (.cells #[Y X 0,Y X 0,Y X 0,Y X 0,Z none 0 0] 43))=W0 at *;have H1:Hid (Bag w (W0.alloc (.cells #[Y J p0,Y J p1,Y J p2,Y J p3] 27)) [(w.heap.size,bfc ⟨x0,y0,x1,y1⟩ (Z a n c)),(w.heap.size+1,pxc ⟨p0,p1,p2,p3⟩),(w.heap.size+1+1,zS),(W0.heap.size,pxc ⟨p0,p1,p2,p3⟩)]):=H0.o.alloc (pxc ⟨p0,p1,p2,p3⟩) _;have HBX:Hid (Box (W0.alloc (.cells #[Y J p0,Y J p1,Y J p2,Y J p3] 27)) W0.heap.size (pxc ⟨p0,p1,p2,p3⟩)):=Box.new W0 (pxc ⟨p0,p1,p2,p3⟩) _;have hOWN:=HOW.o _ H1.o.below;have e4:=H0.o.cell 0 rfl 4 rfl;obtain ⟨q0,q1,q2,q3⟩:=(H0.o.box 1 rfl).c4;have HAF:Hid (∀ g8 c8 w8,w8.ownsRow B 27 4 (Z (some ⟨g8,0,none⟩) (n+1) c8) (n+1) (xs++pxc ⟨p0,p1,p2,p3⟩)→(W0.alloc (.cells #[Y J p0,Y J p1,Y J p2,Y J p3] 27)).grownBy w8 (Value.slice a n c).ownBlock→w.grownBy w8 (Value.slice a n c).ownBlock∧Box w8 w.heap.size (bfc ⟨x0,y0,x1,y1⟩ (Z a n c))∧Box w8 (w.heap.size+1+1) zS):=fun g8 c8 w8 h1 h2=>
  ⟨(grown_call H1.o.below).trans h2,(H1.o.box 0 rfl).grown' h2 (fun e=>by have:=HRB.o _ e;omega),(H1.o.box 2 rfl).grown' h2 (fun e=>by have:=HRB.o _ e;omega)⟩
 have HNE:Hid (∀ g8,((Value.slice a n c).ownBlock=some g8∨g8=(W0.alloc (.cells #[Y J p0,Y J p1,Y J p2,Y J p3] 27)).heap.size)→g8≠w.heap.size∧g8≠w.heap.size+1+1):=fun g8 h=>by
  have hlt:=H0.o.lt (w.heap.size+1+1,zS) (by simp);dsimp only at hlt
  rcases h with h|h
  ·have:=HRB.o _ h;omega
  ·rw [size_alloc] at h;omega
 have HL:Hid (l.length≤2000000):=by rw [←HN.o.1];exact hl
 go_wp2_with (at_builtin;(refine wpList_append_lies _ rfl _ _ 28 rfl B 27 iP (.agg #[Y J 0,Y J 0,Y J 0,Y J 0]) 4 4 Tryz.underlying28 hiP hz0 hz1 hz2 rfl (by decide) (Z a n c) n xs rfl hOWN.1 _ 1 1 (pxc ⟨p0,p1,p2,p3⟩) rfl rfl (news_at' HBX.o) (by simp [Value.oneCell']) (by decide) HM1.o.1 HM1.o.2 hOWN.2 _ rfl ?_;intro g8 c8 w8 hown8 hgrow8 hat8 hlt8;have H8:Hid (w8.ownsRow B 27 4 (Z (some ⟨g8,0,none⟩) (n+1) c8) (n+1) (xs++pxc ⟨p0,p1,p2,p3⟩)∧w.grownBy w8 (Value.slice a n c).ownBlock∧Box w8 w.heap.size (bfc ⟨x0,y0,x1,y1⟩ (Z a n c))∧Box w8 (w.heap.size+1+1) zS):=⟨hown8,HAF.o g8 c8 w8 hown8 hgrow8⟩;have s4:=H8.o.2.2.1.cell 4 rfl;have sf:=H8.o.2.2.1.frozen 4;have s0:=H8.o.2.2.1.cell 0 rfl;have s1:=H8.o.2.2.1.cell 1 rfl;have s2:=H8.o.2.2.1.cell 2 rfl;have s3:=H8.o.2.2.1.cell 3 rfl;have t0:=H8.o.2.2.2.cell 0 rfl;have tf0:=H8.o.2.2.2.frozen 0;have t1:=H8.o.2.2.2.cell 1 rfl;have tf1:=H8.o.2.2.2.frozen 1;have t2:=H8.o.2.2.2.cell 2 rfl;have tf2:=H8.o.2.2.2.frozen 2;have t3:=H8.o.2.2.2.cell 3 rfl;have tf3:=H8.o.2.2.2.frozen 3;have t4:=H8.o.2.2.2.cell 4 rfl;have tf4:=H8.o.2.2.2.frozen 4;have HN8:=T hat8;clear hown8 hgrow8 hat8 e4 q0 q1 q2 q3 hOWN))
 obtain ⟨v1,v2,v3,v4⟩:=H8.o;have v5:=HNE.o g8 HN8.o;have hx:=((((v4.set (p:=⟨w.heap.size,4,none⟩) (by show w.heap.size+1+1≠w.heap.size;omega) (Z (some ⟨g8,0,none⟩) (n+1) c8)).self 0 (Y X x0)).self 1 (Y X y0)).self 2 (Y X x1)).self 3 (Y X y1);have hx2:=hx.self 4 (Z (some ⟨g8,0,none⟩) (n+1) c8);have hge:B≤w.heap.size:=hB;refine ret_bf (r:=⟨x0,y0,x1,y1⟩) (s:=Z (some ⟨g8,0,none⟩) (n+1) c8) rfl rfl hx2 rfl ?_;refine ⟨g8,c8,rfl,?_,?_⟩
 ·rw [HS.o];exact owns_set5_ne (owns_set_ne v1 (fun e=>v5.1 e.symm) _) (fun e=>v5.2 e.symm) _ _ _ _ _
 ·exact grown_set5 (grown_set v2 (Q _) _) (by omega) _ _ _ _ _
theorem area_eq {r:Rc} (h:areaR r≤2000000):areaR r=(areaN r:Int):=by
 unfold areaR areaN at *;cases he:r.emp with
 |true=>rfl
 |false=>
  rw [he] at h;simp only [Bool.false_eq_true,if_false] at h ⊢;rw [emp_ff] at he
  split at h
  ·omega
  ·rename_i h1;rw [if_neg h1];have:=Int.mul_nonneg (a:=r.x1-r.x0) (b:=r.y1-r.y0) (by omega) (by omega);omega
theorem pxs_zero (n:Nat):(madeCells (Value.agg #[Y J 0,Y J 0,Y J 0,Y J 0]).cells (n*4)).toList=pxs (K n Px.zero):=by
 have e:pxs (K n Px.zero)=K (n*4) (Y J 0):=by
  induction n with
  |zero=>rfl
  |succ n ih=>
   rw [List.replicate_succ,show (n+1)*4=n*4+1+1+1+1 by omega,List.replicate_succ,List.replicate_succ,List.replicate_succ,List.replicate_succ,←ih];rfl
 rw [e];apply List.ext_getElem?;intro j;by_cases hj:j<n*4
 ·have h4:j%4<4:=Nat.mod_lt _ (by omega);have:∀ k,k<4→([Y J 0,Y J 0,Y J 0,Y J 0]:List Value)[k]?.getD default=Y J 0:=by
   intro k hk
   match k,hk with
   |0,_=>rfl
   |1,_=>rfl
   |2,_=>rfl
   |3,_=>rfl
  simp [madeCells,hj,Value.cells,this _ h4]
 ·rw [List.getElem?_eq_none (by simp [madeCells];omega),List.getElem?_eq_none (by simp;omega)]
def ZeroB (r:Rc) (b:Bf):Prop:=b.box=boxR r∧∀ x y,atB b x y=Px.zero
theorem zeroB_rep (r:Rc):∀ x y,atB ⟨r,K (areaN r) Px.zero⟩ x y=Px.zero:=fun x y=>by
 unfold atB
 split
 ·dsimp only;rw [List.getD_eq_getElem?_getD,List.getElem?_replicate]
  split<;>rfl
 ·rfl
theorem new05_c (r:Rc) (w:World) (hr:RcP r) (ha:areaR r≤2000000):Calls Tryz.prog 24 #[rv r] w (BPost w (ZeroB r)):=by
 obtain ⟨x0,y0,x1,y1⟩:=r;obtain ⟨iP,hiP,hz0,hz1,hz2⟩:=info_parts infoPx;have H0:Hid (Bag w ((w.alloc (.cells #[Y X x0,Y X y0,Y X x1,Y X y1] 25)).alloc (.cells #[Y X 0,Y X 0,Y X 0,Y X 0,Z none 0 0] 43)) [(w.heap.size,cl4 ⟨x0,y0,x1,y1⟩),(w.heap.size+1,zS)]):=bag2 w (cl4 ⟨x0,y0,x1,y1⟩) zS _ _;obtain ⟨e,he⟩:∃ e,e=Rc.emp ⟨x0,y0,x1,y1⟩:=⟨_,rfl⟩;have HEM:Hid (∀ W,Calls Tryz.prog 19 #[rv ⟨x0,y0,x1,y1⟩] W (PPost W (.bool e))):=fun W=>by rw [he];exact rempty_c _ W
 have HE:=T he;have HR:Hid (RcP ⟨x0,y0,x1,y1⟩):=hr;obtain ⟨N,hN⟩:∃ N,N=areaN ⟨x0,y0,x1,y1⟩:=⟨_,rfl⟩;have hNb:N≤2000000:=by have:=area_eq ha;rw [←hN] at this;omega
 have HA:Hid (∀ W,Calls Tryz.prog 26 #[rv ⟨x0,y0,x1,y1⟩] W (PPost W (Y X (N:Int)))):=fun W=>by rw [hN,←area_eq ha];exact area03_c _ W hr
 have HN:=T hN;clear he hr ha hN;go_enter Tryz.func24,Tryz.ntmps24;go_wp2_with fail;refine (HEM.o _).mono ?_;rintro e' W1 ⟨rfl,hb1⟩;have H1:=T (H0.o.call hb1);clear hb1 H0 HEM;have r0:=H1.o.cell 1 rfl 0 rfl;have f0:=H1.o.frozen 1 rfl 0;have r1:=H1.o.cell 1 rfl 1 rfl;have f1:=H1.o.frozen 1 rfl 1;have r2:=H1.o.cell 1 rfl 2 rfl;have f2:=H1.o.frozen 1 rfl 2;have r3:=H1.o.cell 1 rfl 3 rfl;have f3:=H1.o.frozen 1 rfl 3;have r4:=H1.o.cell 1 rfl 4 rfl;have f4:=H1.o.frozen 1 rfl 4
 cases e with
 |true=>
  go_wp2_with fail;have H2:=bag_set5 H1.o 1 rfl (Y X 0) (Y X 0) (Y X 0) (Y X 0) (Z none 0 0);refine ret_bf (r:=Rc.zero) (s:=Z none 0 0) rfl rfl (H2.box 1 rfl) rfl ⟨⟨Rc.zero,[]⟩,none,0,0,rfl,H2.below,BfV.nil _,?_,fun x y=>?_⟩
  ·unfold boxR;rw [←HE.o];rfl
  ·unfold atB;rw [if_neg (by rw [hasR_iff];unfold Rc.zero;dsimp only;omega)]
 |false=>
  have HL:Hid (w.heap.size≤W1.heap.size):=H1.o.below.size;obtain ⟨c0,c1,c2,c3⟩:=(H1.o.box 0 rfl).c4;clear r0 r1 r2 r3 r4 f0 f1 f2 f3 f4;go_wp2_with fail;refine wp_region_mix W1.heap.size [false,false,false,true] [3] _ rfl (Q _) (by kernel_rfl) (by kernel_rfl) ?_;apply Exists.intro;refine ⟨fun G hG hne R hR=>?hq,?hc⟩
  case hq=>
   have k0:=fun s:InG W1.heap.size W1 G=>s.at c0;have k1:=fun s:InG W1.heap.size W1 G=>s.at c1;have k2:=fun s:InG W1.heap.size W1 G=>s.at c2;have k3:=fun s:InG W1.heap.size W1 G=>s.at c3;simp only [skip]
   repeat (go_big_quiet_step (first
    |(go_at_call 26;with_reducible exact Calls.inG hG _ (HA.o _))))
   exact wpQuiet_nil hR
  case hc=>
   clear c0 c1 c2 c3;refine wpChain_cons _ rfl rfl (fun g:Nat=>Z (some ⟨g,0,none⟩) N N) (fun g W=>W.ownsRow W1.heap.size 27 4 (Z (some ⟨g,0,none⟩) N N) N (pxs (K N Px.zero))) (fun g W W' h hb=>owns_below h hb (Q _)) (fun W hW=>?_) (fun g=>?_)
   ·obtain ⟨W',hrun,ho,hg⟩:=run_make_full (P:=Tryz.prog) W W1.heap.size 28 27 iP (.agg #[Y J 0,Y J 0,Y J 0,Y J 0]) 4 Tryz.underlying28 hiP hz0 hz1 .i64 .i64 N (by rw [hz2];omega) (by unfold maxLen;omega) hW.2;rw [pxs_zero] at ho;refine gives_mono (R:=fun v w'=>v=Z (some ⟨W.heap.size,0,none⟩) N N∧w'=W') ?_ ?_
    ·unfold gives;simp [execOp,hrun,Act.eval]
    ·rintro _ _ ⟨rfl,rfl⟩;exact ⟨(Below.refl _ W).grown hg (Q _) (fun k hk=>by cases hk),_,rfl,ho⟩
   ·refine wpChain_nil (fun W hW=>?_);simp only [List.length_cons,List.length_nil,U,I];have H4:=T (H1.o.call hW.1.1);have HO:Hid (W.ownsRow W1.heap.size 27 4 (Z (some ⟨g,0,none⟩) N N) N (pxs (K N Px.zero))):=hW.2;have r0:=H4.o.cell 1 rfl 0 rfl;have f0:=H4.o.frozen 1 rfl 0;have r1:=H4.o.cell 1 rfl 1 rfl;have f1:=H4.o.frozen 1 rfl 1;have r2:=H4.o.cell 1 rfl 2 rfl;have f2:=H4.o.frozen 1 rfl 2;have r3:=H4.o.cell 1 rfl 3 rfl;have f3:=H4.o.frozen 1 rfl 3;have r4:=H4.o.cell 1 rfl 4 rfl;have f4:=H4.o.frozen 1 rfl 4;clear hW;go_wp2_with fail;have H2:=bag_set5 H4.o 1 rfl (Y X x0) (Y X y0) (Y X x1) (Y X y1) (Z (some ⟨g,0,none⟩) N N);have ho2:=owns_set5 HO.o (a:=w.heap.size+1) (by have:=H1.o.lt _ (List.mem_of_getElem? (i:=1) rfl);exact this) (Y X x0) (Y X y0) (Y X x1) (Y X y1) (Z (some ⟨g,0,none⟩) N N);refine ret_bf (r:=⟨x0,y0,x1,y1⟩) (s:=Z (some ⟨g,0,none⟩) N N) rfl rfl (H2.box 1 rfl) rfl ⟨⟨⟨x0,y0,x1,y1⟩,K N Px.zero⟩,some ⟨g,0,none⟩,N,N,rfl,H2.below,⟨?_,⟨?_,?_⟩,HR.o⟩,?_,?_⟩
    ·refine own_pxs (l:=K N Px.zero) (by rw [List.length_replicate];exact ho2) fun p hp=>?_;rw [(List.mem_replicate.1 hp).2];refine ⟨?_,?_,?_,?_⟩<;>(unfold Byte Px.zero;dsimp only;omega)
    ·rw [List.length_replicate];exact HN.o
    ·intro p hp;rw [(List.mem_replicate.1 hp).2];refine ⟨?_,?_,?_,?_⟩<;>(unfold Byte Px.zero;dsimp only;omega)
    ·unfold boxR;rw [←HE.o];rfl
    ·rw [HN.o];exact zeroB_rep _
end Go.Proofs.YtgodhpampaleeaaGreatDoor
