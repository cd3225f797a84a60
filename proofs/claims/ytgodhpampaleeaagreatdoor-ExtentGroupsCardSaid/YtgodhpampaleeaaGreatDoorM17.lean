/- Texts joined: Uc Ud Ue. -/
import Derived.Test.YtgodhpampaleeaaGreatDoorM16
import Derived.Test.YtgodhpampaleeaaGreatDoorM02
open Go.Value renaming int→Y,slice→J
open Go.IntKind renaming i64→X
open List renaming take_succ_cons→U,take_zero→E,drop_succ_cons→I,drop_zero→Q,getElem?_eq_getElem→M,mem_of_getElem?→C,replicate→A
open Nat renaming le_refl→N,le_trans→L,lt_of_lt_of_le→G
open Go.Lib renaming hid→H
open Go.Value.slice renaming injEq→S
set_option maxRecDepth 8000
set_option maxHeartbeats 12800000
set_option linter.unusedVariables false
namespace Go.Proofs.YtgodhpampaleeaaGreatDoor
open Go.RowKit Go.Bx Go.Od Go.Hp
attribute [local go_sem ↓] Go.wp_at_zero Go.wp_at_succ
def rofR (nd:Nd) (want:Rc):Rc:=
 if want.emp=true then Rc.zero
 else if nd.op=1 then move3R want (-par nd 0) (-par nd 1)
 else if 2≤nd.op∧nd.op≤4 then grow3R want (par nd 0) (par nd 1) (par nd 0) (par nd 1)
 else if nd.op=12 then meetR want (pbx nd.p 0)
 else if nd.op=10∧refWi want (pbx nd.p 0)=false then pbx nd.p 0
 else if nd.op=11 then joinR want (grow3R (move3R want (-par nd 0) (-par nd 1)) (par nd 2) (par nd 3) (par nd 2) (par nd 3))
 else want
theorem edgeP_pl (n b:Int) (hn:Pl n):Pl (edgeP n b):=by
 unfold edgeP
 split
 ·exact hn
 ·exact cutP_pl _
theorem move3R_pl {r:Rc} (hr:RcP r) (a b:Int):RcP (move3R r a b):=by
 unfold move3R
 split
 ·exact zero_pl
 ·exact boxR_pl ⟨edgeP_pl _ _ hr.1,edgeP_pl _ _ hr.2.1,edgeP_pl _ _ hr.2.2.1,edgeP_pl _ _ hr.2.2.2⟩
theorem rofR_pl {nd:Nd} {want:Rc} (h:RaOk nd) (hw:RcP want):RcP (rofR nd want):=by
 unfold rofR
 split
 ·exact zero_pl
 ·split
  ·exact move3R_pl hw _ _
  ·split
   ·exact grow3R_pl _ _ _ _ _
   ·split
    ·exact meetR_pl hw (h.pa.bx (.inl (by assumption))).2
    ·split
     ·rename_i hc;exact (h.pa.bx (.inr hc.1)).2
     ·split
      ·exact joinR_pl hw (grow3R_pl _ _ _ _ _)
      ·exact hw
theorem rcs_rep (n:Nat) (r:Rc):rcs (A (n+1) r)=rcs (A n r)++cl4 r:=by
 rw [List.replicate_succ',rcs_app];rfl
theorem bag_alloc_old {w W:World} {l:List (Nat×List Value)} (h:Bag w W l) (o:Obj):Bag w (W.alloc o) l:=h.allocO o
theorem bag_far4 {w W:World} {l:List (Nat×List Value)} (h:Bag w W l) {a:Nat} (hl:∀ p∈l,p.1≠a) (ha:w.heap.size≤a) (u0 u1 u2 u3:Value):Bag w ((((W.setCell ⟨a,0,none⟩ u0).setCell ⟨a,1,none⟩ u1).setCell ⟨a,2,none⟩ u2).setCell ⟨a,3,none⟩ u3) l:=by
 have one:∀ (W:World),Bag w W l→∀ (j:Nat) (u:Value),Bag w (W.setCell ⟨a,j,none⟩ u) l:=fun W h j u=>⟨fun p hp=>⟨(h.1 p hp).1.set (by exact hl p hp) u,(h.1 p hp).2⟩,h.2.1,h.2.2.setCell (by exact ha) _⟩;exact one _ (one _ (one _ (one _ h 0 u0) 1 u1) 2 u2) 3 u3
theorem owns_far {W:World} {B:Nat} {e:TypeId} {sz:Nat} {a':Option Addr} {n c:Nat} {xs:List Value} (h:W.ownsRow B e sz (J a' n c) n xs) {a:Nat} (hne:(Value.slice a' n c).ownBlock≠some a) (j:Nat) (u:Value):(W.setCell ⟨a,j,none⟩ u).ownsRow B e sz (J a' n c) n xs:=by
 refine ⟨h.1,?_⟩
 rcases h.2 with h1|⟨g,cap,cur,h1,h2,h3,h4⟩
 ·exact .inl h1
 ·refine .inr ⟨g,cap,cur,h1,h2,?_,h4⟩;rw [Below.heap_setCell _ _ _ _ (fun e=>hne (by rw [h1,show a=g from e.symm];rfl))];exact h3
theorem owns_far4 {W:World} {B:Nat} {e:TypeId} {sz:Nat} {a':Option Addr} {n c:Nat} {xs:List Value} (h:W.ownsRow B e sz (J a' n c) n xs) {a:Nat} (hne:(Value.slice a' n c).ownBlock≠some a) (u0 u1 u2 u3:Value):((((W.setCell ⟨a,0,none⟩ u0).setCell ⟨a,1,none⟩ u1).setCell ⟨a,2,none⟩ u2).setCell ⟨a,3,none⟩ u3).ownsRow B e sz (J a' n c) n xs:=
 owns_far (owns_far (owns_far (owns_far h hne _ _) hne _ _) hne _ _) hne _ _
def Of3Post (w:World) (m:Nat) (r:Rc) (e:Ending) (w':World):Prop:=∃ a c,e=.returned (J a m c)∧Below w.heap.size w w'∧w'.ownsRow w.heap.size 25 4 (J a m c) m (rcs (A m r))
theorem of14r_c (op:Int) (iv pv:Value) (ins P:List Int) (want:Rc) (w:World) (hok:RaOk ⟨op,ins,P⟩) (hi:SlOf RInt 1 (·<w.heap.size) w iv ins) (hp:SlOf RInt 1 (·<w.heap.size) w pv P) (hw:RcP want):
  Calls Tryz.prog 52 #[.agg #[Y X op,iv,pv],rv want] w (Of3Post w ins.length (rofR ⟨op,ins,P⟩ want)):=by
 obtain ⟨tx0,ty0,tx1,ty1⟩:=want;obtain ⟨ia,il,ic,rfl⟩:=sl_form hi;obtain ⟨pa,pl,pc,rfl⟩:=sl_form hp;obtain ⟨iR,hiR,hz0,hz1,hz2⟩:=info_parts infoRc;have HPL:Hid (∀ W,Below w.heap.size w W→SlOf RInt 1 (·<W.heap.size) W (J pa pl pc) P):=fun W h=>(hp.same RInt.ok (Same.of_below h fun b hb=>hb)).mono RInt.ok fun b hb=>G hb h.size;have HIL:Hid (il=ins.length∧ins.length≤8):=⟨by obtain ⟨_,_,h2,_⟩:=hi;simp only [S] at h2;exact h2.2.1,hok.few⟩;have hil8:il≤8:=by rw [HIL.o.1];exact HIL.o.2
 have HPN:Hid (pl=P.length):=by obtain ⟨_,_,h2,_⟩:=hp;simp only [S] at h2;exact h2.2.1
 have HOK:Hid (RaOk ⟨op,ins,P⟩∧RcP ⟨tx0,ty0,tx1,ty1⟩):=⟨hok,hw⟩;obtain ⟨Z,hZ⟩:∃ Z,Z=rofR ⟨op,ins,P⟩ ⟨tx0,ty0,tx1,ty1⟩:=⟨_,rfl⟩;have HZ:Hid (Z=rofR ⟨op,ins,P⟩ ⟨tx0,ty0,tx1,ty1⟩∧RcP Z):=⟨hZ,by rw [hZ];exact rofR_pl hok hw⟩;rw [←hZ,←HIL.o.1];have H0:Hid (Bag w ((w.alloc (.cells #[Y X op,J ia il ic,J pa pl pc] 52)).alloc (.cells #[Y X tx0,Y X ty0,Y X tx1,Y X ty1] 25)) [(w.heap.size,[Y X op,J ia il ic,J pa pl pc]),(w.heap.size+1,(qI tx0 ty0 tx1 ty1))]):=bag2 w [Y X op,J ia il ic,J pa pl pc] (qI tx0 ty0 tx1 ty1) _ _;obtain ⟨em,hem⟩:∃ e,e=Rc.emp ⟨tx0,ty0,tx1,ty1⟩:=⟨_,rfl⟩;have HEM:Hid (∀ W,Calls Tryz.prog 19 #[rv ⟨tx0,ty0,tx1,ty1⟩] W (PPost W (.bool em))):=fun W=>by rw [hem];exact rempty_c _ W
 have HE:=H hem;clear hok hi hp hw hZ hem;go_enter Tryz.func52,Tryz.ntmps52;go_wp2_with fail;generalize ((w.alloc (.cells #[Y X op,J ia il ic,J pa pl pc] 52)).alloc (.cells #[Y X tx0,Y X ty0,Y X tx1,Y X ty1] 25))=W0 at *;obtain ⟨B,hB⟩:∃ B,B=W0.heap.size:=⟨_,rfl⟩;have HB:Hid (w.heap.size≤B∧∀ p∈([(w.heap.size,[Y X op,J ia il ic,J pa pl pc]),(w.heap.size+1,(qI tx0 ty0 tx1 ty1))]:List (Nat×List Value)),p.1<B):=by rw [hB];exact ⟨H0.o.below.size,H0.o.lt⟩
 have HB1:Hid (B≤W0.heap.size):=by rw [hB];exact N _
 clear hB;go_loopw [5,6,7,8] (fun lv jv _ _ wr=>∃ (j:Nat) (a:Option Addr) (n c:Nat),j≤il∧jv=Y X j∧lv=J a n c∧n=j∧Bag w wr [(w.heap.size,[Y X op,J ia il ic,J pa pl pc]),(w.heap.size+1,(qI tx0 ty0 tx1 ty1))]∧wr.ownsRow B 25 4 (J a n c) j (rcs (A j Z))∧B≤wr.heap.size) (fun _ jv _ _ _=>il-(intOf jv).toNat)
 case atStart=>exact ⟨0,none,0,0,by omega,rfl,rfl,rfl,H0.o,World.ownsRow_nil _ _ _ _,HB1.o⟩
 case round=>
  clear H0 HB1;obtain ⟨j,la,ln,lc,hj,rfl,rfl,rfl,hb,ho,hB⟩:=hrel;have H1:=H hb;have HO:Hid (wr.ownsRow B 25 4 (J la ln lc) ln (rcs (A ln Z))∧B≤wr.heap.size):=⟨ho,hB⟩;clear hb ho hB;obtain ⟨n0,n1,n2⟩:=(H1.o.box 0 rfl).c3;obtain ⟨e0,e1,e2,e3⟩:=(H1.o.box 1 rfl).c4;by_cases hjl:ln<il
  ·have H2:Hid (Bag w (wr.alloc (.cells #[Y X tx0,Y X ty0,Y X tx1,Y X ty1] 25)) [(w.heap.size,[Y X op,J ia il ic,J pa pl pc]),(w.heap.size+1,(qI tx0 ty0 tx1 ty1))]):=bag_alloc_old H1.o _;have X2:Hid (Box (wr.alloc (.cells #[Y X tx0,Y X ty0,Y X tx1,Y X ty1] 25)) wr.heap.size (cl4 ⟨tx0,ty0,tx1,ty1⟩)):=Box.new wr (cl4 ⟨tx0,ty0,tx1,ty1⟩) _;have HO2:Hid ((wr.alloc (.cells #[Y X tx0,Y X ty0,Y X tx1,Y X ty1] 25)).ownsRow B 25 4 (J la ln lc) ln (rcs (A ln Z))∧B≤(wr.alloc (.cells #[Y X tx0,Y X ty0,Y X tx1,Y X ty1] 25)).heap.size):=⟨owns_below HO.o.1 (below_alloc wr _) (N _),L HO.o.2 (below_alloc wr _).size⟩;have HRB:Hid (B≤wr.heap.size∧(Value.slice la ln lc).ownBlock≠some wr.heap.size):=⟨HO.o.2,fun e=>by have:=(World.ownsRow.lt HO.o.1 _ e).2;omega⟩;obtain ⟨rb,hrb⟩:∃ rb,rb=wr.heap.size:=⟨_,rfl⟩;go_upto_region 6 with fail;generalize (wr.alloc (.cells #[Y X tx0,Y X ty0,Y X tx1,Y X ty1] 25))=W1 at *;clear n0 n1 n2 e0 e1 e2 e3;have n2:=H2.o.cell 0 rfl 2 rfl;obtain ⟨e0,e1,e2,e3⟩:=(H2.o.box 1 rfl).c4;go_wp2_with fail;refine (HEM.o _).mono ?_;rintro e' W2 ⟨rfl,hb2⟩;have H3:=H (H2.o.call hb2);have X3:=H (X2.o.call hb2);have HO3:Hid (W2.ownsRow B 25 4 (J la ln lc) ln (rcs (A ln Z))∧B≤W2.heap.size):=⟨owns_below HO2.o.1 hb2 (N _),L HO2.o.2 hb2.size⟩;clear hb2 H2 X2 HO2 e0 e1 e2 e3 n2 hrb;have HM1:Hid (ln+1≤maxLen∧(ln+1)*32≤140737488355328):=by constructor<;>(try unfold maxLen)<;>omega
   -- the end of a round: the rectangle z stands in the variable
   have hfin:∀ (W:World),Bag w W [(w.heap.size,[Y X op,J ia il ic,J pa pl pc]),(w.heap.size+1,(qI tx0 ty0 tx1 ty1))]→Box W wr.heap.size (cl4 Z)→(W.ownsRow B 25 4 (J la ln lc) ln (rcs (A ln Z))∧B≤W.heap.size)→∀ (g8 c8:Nat) (w8:World),w8.ownsRow B 25 4 (J (some ⟨g8,0,none⟩) (ln+1) c8) (ln+1) (rcs (A ln Z)++cl4 Z)→(W.alloc (.cells #[Y X Z.x0,Y X Z.y0,Y X Z.x1,Y X Z.y1] 25)).grownBy w8 (Value.slice la ln lc).ownBlock→Bag w w8 [(w.heap.size,[Y X op,J ia il ic,J pa pl pc]),(w.heap.size+1,(qI tx0 ty0 tx1 ty1))]∧w8.ownsRow B 25 4 (J (some ⟨g8,0,none⟩) (ln+1) c8) (ln+1) (rcs (A (ln+1) Z))∧B≤w8.heap.size:=fun W h1 h2 h3 g8 c8 w8 h4 h5=>
    ⟨(bag_alloc_old h1 _).grown h5 (owns_below h3.1 (below_alloc W _) (N _)) HB.o.2 HB.o.1,by rw [rcs_rep];exact h4,L (L h3.2 (below_alloc W _).size) h5.size⟩
   have HFIN:=H hfin;clear hfin
   cases em with
   |true=>
    have HZE:Hid (Z=Rc.zero):=H (by rw [HZ.o.1];unfold rofR;rw [if_pos HE.o.symm]);have y0:=X3.o.cell 0 rfl;have yf0:=X3.o.frozen 0;have y1:=X3.o.cell 1 rfl;have yf1:=X3.o.frozen 1;have y2:=X3.o.cell 2 rfl;have yf2:=X3.o.frozen 2;have y3:=X3.o.cell 3 rfl;have yf3:=X3.o.frozen 3;have HS:Hid (Bag w ((((W2.setCell ⟨wr.heap.size,0,none⟩ (Y X 0)).setCell ⟨wr.heap.size,1,none⟩ (Y X 0)).setCell ⟨wr.heap.size,2,none⟩ (Y X 0)).setCell ⟨wr.heap.size,3,none⟩ (Y X 0)) [(w.heap.size,[Y X op,J ia il ic,J pa pl pc]),(w.heap.size+1,(qI tx0 ty0 tx1 ty1))]∧Box ((((W2.setCell ⟨wr.heap.size,0,none⟩ (Y X 0)).setCell ⟨wr.heap.size,1,none⟩ (Y X 0)).setCell ⟨wr.heap.size,2,none⟩ (Y X 0)).setCell ⟨wr.heap.size,3,none⟩ (Y X 0)) wr.heap.size zI∧((((W2.setCell ⟨wr.heap.size,0,none⟩ (Y X 0)).setCell ⟨wr.heap.size,1,none⟩ (Y X 0)).setCell ⟨wr.heap.size,2,none⟩ (Y X 0)).setCell ⟨wr.heap.size,3,none⟩ (Y X 0)).ownsRow B 25 4 (J la ln lc) ln (rcs (A ln Z))∧B≤((((W2.setCell ⟨wr.heap.size,0,none⟩ (Y X 0)).setCell ⟨wr.heap.size,1,none⟩ (Y X 0)).setCell ⟨wr.heap.size,2,none⟩ (Y X 0)).setCell ⟨wr.heap.size,3,none⟩ (Y X 0)).heap.size):=by
     refine ⟨?_,?_,?_,?_⟩
     ·exact bag_far4 H3.o (fun p hp=>by have:=HB.o.2 p hp;have:=HRB.o.1;omega) (by have:=HB.o.1;have:=HRB.o.1;omega) _ _ _ _
     ·exact (((X3.o.self 0 _).self 1 _).self 2 _).self 3 _
     ·exact owns_far4 HO3.o.1 HRB.o.2 _ _ _ _
     ·simp only [size_set];exact HO3.o.2
    go_upto_region 19 with fail;generalize ((((W2.setCell ⟨wr.heap.size,0,none⟩ (Y X 0)).setCell ⟨wr.heap.size,1,none⟩ (Y X 0)).setCell ⟨wr.heap.size,2,none⟩ (Y X 0)).setCell ⟨wr.heap.size,3,none⟩ (Y X 0))=W6 at *;have HA:Hid (Bag w W6 [(w.heap.size,[Y X op,J ia il ic,J pa pl pc]),(w.heap.size+1,(qI tx0 ty0 tx1 ty1))]):=HS.o.1;have XA:Hid (Box W6 wr.heap.size zI):=HS.o.2.1;have HOA:Hid (W6.ownsRow B 25 4 (J la ln lc) ln (rcs (A ln Z))∧B≤W6.heap.size):=HS.o.2.2;clear HS y0 y1 y2 y3 yf0 yf1 yf2 yf3;have z0:W6.cell? ⟨wr.heap.size,0,none⟩=some (Y X 0):=XA.out.cell 0 rfl;have z1:W6.cell? ⟨wr.heap.size,1,none⟩=some (Y X 0):=XA.out.cell 1 rfl;have z2:W6.cell? ⟨wr.heap.size,2,none⟩=some (Y X 0):=XA.out.cell 2 rfl;have z3:W6.cell? ⟨wr.heap.size,3,none⟩=some (Y X 0):=XA.out.cell 3 rfl;have HBX:Hid (Box (W6.alloc (.cells #[Y X 0,Y X 0,Y X 0,Y X 0] 25)) W6.heap.size zI):=Box.new W6 zI _;have hOWN:Hid ((W6.alloc (.cells #[Y X 0,Y X 0,Y X 0,Y X 0] 25)).ownsRow B 25 4 (J la ln lc) ln (rcs (A ln Z))∧B≤(W6.alloc (.cells #[Y X 0,Y X 0,Y X 0,Y X 0] 25)).heap.size):=⟨owns_below HOA.o.1 (below_alloc W6 _) (N _),L HOA.o.2 (below_alloc W6 _).size⟩
    go_wp2_with (at_builtin;(refine wpList_append_lies _ rfl _ _ 59 rfl B 25 iR (.agg #[Y X 0,Y X 0,Y X 0,Y X 0]) 4 32 Tryz.underlying59 hiR hz0 hz1 hz2 rfl (by decide) (J la ln lc) ln (rcs (A ln Z)) rfl hOWN.out.1 _ 1 1 zI rfl rfl (news_at' HBX.o) (by simp [Value.oneCell']) (by decide) HM1.o.1 HM1.o.2 hOWN.out.2 _ rfl ?_;intro g8 c8 w8 hown8 hgrow8 hat8 hlt8;have HF:Hid (Bag w w8 [(w.heap.size,[Y X op,J ia il ic,J pa pl pc]),(w.heap.size+1,(qI tx0 ty0 tx1 ty1))]∧w8.ownsRow B 25 4 (J (some ⟨g8,0,none⟩) (ln+1) c8) (ln+1) (rcs (A (ln+1) Z))∧B≤w8.heap.size):=HFIN.o W6 HA.o (by rw [HZE.o];exact XA.out) HOA.o g8 c8 w8 (by rw [HZE.o] at hown8 ⊢;exact hown8) (by rw [HZE.o];exact hgrow8);clear hown8 hgrow8 hat8 z0 z1 z2 z3))
    go_roundw
    case rel=>exact ⟨ln+1,_,_,_,by omega,by go_num,rfl,rfl,HF.o.1,HF.o.2.1,HF.o.2.2⟩
    case measure=>simp [intOf];omega
   |false=>
    have HZN:Hid (Z=if op=1 then move3R ⟨tx0,ty0,tx1,ty1⟩ (-P.getD 0 0) (-P.getD 1 0) else if 2≤op∧op≤4 then grow3R ⟨tx0,ty0,tx1,ty1⟩ (P.getD 0 0) (P.getD 1 0) (P.getD 0 0) (P.getD 1 0) else if op=12 then meetR ⟨tx0,ty0,tx1,ty1⟩ (pbx P 0) else if op=10∧refWi ⟨tx0,ty0,tx1,ty1⟩ (pbx P 0)=false then pbx P 0 else if op=11 then joinR ⟨tx0,ty0,tx1,ty1⟩ (grow3R (move3R ⟨tx0,ty0,tx1,ty1⟩ (-P.getD 0 0) (-P.getD 1 0)) (P.getD 2 0) (P.getD 3 0) (P.getD 2 0) (P.getD 3 0)) else ⟨tx0,ty0,tx1,ty1⟩):=by
     rw [HZ.o.1];unfold rofR;rw [if_neg (by rw [←HE.o];decide)];rfl
    have n0:=H3.o.cell 0 rfl 0 rfl;obtain ⟨e0,e1,e2,e3⟩:=(H3.o.box 1 rfl).c4;by_cases t1:op=1
    ·have hplen:2≤P.length:=(HOK.o.1.pa.mv (.inl t1)).1;have hmv:=(HOK.o.1.pa.mv (.inl t1)).2;dsimp only at hmv;have hpn:=HPN.o;obtain ⟨qa,qc,hq0,hq1,hq2,_,hqc⟩:=(HPL.o W2 H3.o.below).ints;simp only [S] at hq0;obtain ⟨rfl,hq3,rfl⟩:=hq0;have hlen:2≤P.length:=hplen;obtain ⟨pb,po,rfl,_,hpc⟩:=hqc 0 (by omega);have hpl1:pl≤pc:=by omega
     unfold maxLen at hq2;obtain ⟨q0,hq0'⟩:∃ q,q=P.getD 0 0:=⟨_,rfl⟩;have m0:W2.cell? ⟨pb,po,none⟩=some (Y X q0):=by rw [hq0'];have h:=hpc 0 (by omega);simpa using h
     have hpi0:(0:Int)<(pl:Int):=by omega
     have HQ0:=H hq0';obtain ⟨q1,hq1'⟩:∃ q,q=P.getD 1 0:=⟨_,rfl⟩;have m1:W2.cell? ⟨pb,po+1,none⟩=some (Y X q1):=by rw [hq1'];have h:=hpc 1 (by omega);simpa using h
     have hpi1:(1:Int)<(pl:Int):=by omega
     have HQ1:=H hq1';clear hqc hpc hq1 hq3 hlen hplen hq0' hq1';obtain ⟨V,hV⟩:∃ V,V=move3R ⟨tx0,ty0,tx1,ty1⟩ (-q0) (-q1):=⟨_,rfl⟩;have HMV:Hid (∀ W,Calls Tryz.prog 55 #[rv ⟨tx0,ty0,tx1,ty1⟩,Y X (-q0),Y X (-q1)] W (PPost W (rv V))):=fun W=>by rw [hV];exact rmove_c ⟨tx0,ty0,tx1,ty1⟩ _ _ W HOK.o.2 (by have:=HQ0.o;omega) (by have:=HQ1.o;omega)
     have HZE:Hid (Z=V):=H (by rw [HZN.o,if_pos t1,hV,HQ0.o,HQ1.o]);have hq0b : -1048576≤q0∧q0≤1048576:=by rw [HQ0.o];exact hmv.1
     have hq1b : -1048576≤q1∧q1≤1048576:=by rw [HQ1.o];exact hmv.2
     obtain ⟨hq00,hq01⟩:=hq0b;obtain ⟨hq10,hq11⟩:=hq1b;clear hV hmv hpn;subst t1;go_wp2_with fail;obtain ⟨km0,km1,ke0,ke1,ke2,ke3⟩:=kept6 m0 m1 e0 e1 e2 e3;clear m0 m1 e0 e1 e2 e3;refine wp_region_kept_tail W2.heap.size 10 _ rfl (by kernel_rfl) (by kernel_rfl) ?_;simp only [U,E,I,Q]
     repeat (go_big_quiet_step (first
      |(go_at_call 55;with_reducible exact Calls.kept _ (N _) (HMV.o _))))
     refine wpQuiet_nil ?_;intro s;refine ⟨?_⟩;have H4:=H (H3.o.call s.below);have X4:=H (X3.o.call s.below);have HO4:Hid (s.w.ownsRow B 25 4 (J la ln lc) ln (rcs (A ln Z))∧B≤s.w.heap.size):=⟨owns_below HO3.o.1 s.below (N _),L HO3.o.2 s.below.size⟩;clear km0 km1 ke0 ke1 ke2 ke3 H3 X3 HO3;obtain ⟨v0,v1,v2,v3⟩:=V;have y0:=X4.o.cell 0 rfl;have yf0:=X4.o.frozen 0;have y1:=X4.o.cell 1 rfl;have yf1:=X4.o.frozen 1;have y2:=X4.o.cell 2 rfl;have yf2:=X4.o.frozen 2;have y3:=X4.o.cell 3 rfl;have yf3:=X4.o.frozen 3;have HS:Hid (Bag w ((((s.w.setCell ⟨wr.heap.size,0,none⟩ (Y X v0)).setCell ⟨wr.heap.size,1,none⟩ (Y X v1)).setCell ⟨wr.heap.size,2,none⟩ (Y X v2)).setCell ⟨wr.heap.size,3,none⟩ (Y X v3)) [(w.heap.size,[Y X 1,J ia il ic,J (some ⟨pb,po,none⟩) pl pc]),(w.heap.size+1,(qI tx0 ty0 tx1 ty1))]∧Box ((((s.w.setCell ⟨wr.heap.size,0,none⟩ (Y X v0)).setCell ⟨wr.heap.size,1,none⟩ (Y X v1)).setCell ⟨wr.heap.size,2,none⟩ (Y X v2)).setCell ⟨wr.heap.size,3,none⟩ (Y X v3)) wr.heap.size (qI v0 v1 v2 v3)∧((((s.w.setCell ⟨wr.heap.size,0,none⟩ (Y X v0)).setCell ⟨wr.heap.size,1,none⟩ (Y X v1)).setCell ⟨wr.heap.size,2,none⟩ (Y X v2)).setCell ⟨wr.heap.size,3,none⟩ (Y X v3)).ownsRow B 25 4 (J la ln lc) ln (rcs (A ln Z))∧B≤((((s.w.setCell ⟨wr.heap.size,0,none⟩ (Y X v0)).setCell ⟨wr.heap.size,1,none⟩ (Y X v1)).setCell ⟨wr.heap.size,2,none⟩ (Y X v2)).setCell ⟨wr.heap.size,3,none⟩ (Y X v3)).heap.size):=by
      refine ⟨?_,?_,?_,?_⟩
      ·exact bag_far4 H4.o (fun p hp=>by have:=HB.o.2 p hp;have:=HRB.o.1;omega) (by have:=HB.o.1;have:=HRB.o.1;omega) _ _ _ _
      ·exact (((X4.o.self 0 _).self 1 _).self 2 _).self 3 _
      ·exact owns_far4 HO4.o.1 HRB.o.2 _ _ _ _
      ·simp only [size_set];exact HO4.o.2
     go_upto_region 19 with fail;generalize ((((s.w.setCell ⟨wr.heap.size,0,none⟩ (Y X v0)).setCell ⟨wr.heap.size,1,none⟩ (Y X v1)).setCell ⟨wr.heap.size,2,none⟩ (Y X v2)).setCell ⟨wr.heap.size,3,none⟩ (Y X v3))=W6 at *;have HA:Hid (Bag w W6 [(w.heap.size,[Y X 1,J ia il ic,J (some ⟨pb,po,none⟩) pl pc]),(w.heap.size+1,(qI tx0 ty0 tx1 ty1))]):=HS.o.1;have XA:Hid (Box W6 wr.heap.size (qI v0 v1 v2 v3)):=HS.o.2.1;have HOA:Hid (W6.ownsRow B 25 4 (J la ln lc) ln (rcs (A ln Z))∧B≤W6.heap.size):=HS.o.2.2;clear HS y0 y1 y2 y3 yf0 yf1 yf2 yf3;have z0:W6.cell? ⟨wr.heap.size,0,none⟩=some (Y X v0):=XA.out.cell 0 rfl;have z1:W6.cell? ⟨wr.heap.size,1,none⟩=some (Y X v1):=XA.out.cell 1 rfl;have z2:W6.cell? ⟨wr.heap.size,2,none⟩=some (Y X v2):=XA.out.cell 2 rfl;have z3:W6.cell? ⟨wr.heap.size,3,none⟩=some (Y X v3):=XA.out.cell 3 rfl;have HBX:Hid (Box (W6.alloc (.cells #[Y X v0,Y X v1,Y X v2,Y X v3] 25)) W6.heap.size (qI v0 v1 v2 v3)):=Box.new W6 (qI v0 v1 v2 v3) _;have hOWN:Hid ((W6.alloc (.cells #[Y X v0,Y X v1,Y X v2,Y X v3] 25)).ownsRow B 25 4 (J la ln lc) ln (rcs (A ln Z))∧B≤(W6.alloc (.cells #[Y X v0,Y X v1,Y X v2,Y X v3] 25)).heap.size):=⟨owns_below HOA.o.1 (below_alloc W6 _) (N _),L HOA.o.2 (below_alloc W6 _).size⟩
     go_wp2_with (at_builtin;(refine wpList_append_lies _ rfl _ _ 59 rfl B 25 iR (.agg #[Y X 0,Y X 0,Y X 0,Y X 0]) 4 32 Tryz.underlying59 hiR hz0 hz1 hz2 rfl (by decide) (J la ln lc) ln (rcs (A ln Z)) rfl hOWN.out.1 _ 1 1 (qI v0 v1 v2 v3) rfl rfl (news_at' HBX.o) (by simp [Value.oneCell']) (by decide) HM1.o.1 HM1.o.2 hOWN.out.2 _ rfl ?_;intro g8 c8 w8 hown8 hgrow8 hat8 hlt8;have HF:Hid (Bag w w8 [(w.heap.size,[Y X 1,J ia il ic,J (some ⟨pb,po,none⟩) pl pc]),(w.heap.size+1,(qI tx0 ty0 tx1 ty1))]∧w8.ownsRow B 25 4 (J (some ⟨g8,0,none⟩) (ln+1) c8) (ln+1) (rcs (A (ln+1) Z))∧B≤w8.heap.size):=HFIN.o W6 HA.o (by rw [HZE.o];exact XA.out) HOA.o g8 c8 w8 (by rw [HZE.o] at hown8 ⊢;exact hown8) (by rw [HZE.o];exact hgrow8);clear hown8 hgrow8 hat8 z0 z1 z2 z3))
     go_roundw
     case rel=>exact ⟨ln+1,_,_,_,by omega,by go_num,rfl,rfl,HF.o.1,HF.o.2.1,HF.o.2.2⟩
     case measure=>simp [intOf];omega
    have d1:(op==1)=false:=by simpa using t1
    by_cases t2:2≤op∧op≤4
    ·have hplen:2≤P.length:=(HOK.o.1.pa.gr (by dsimp only;omega)).1;have hmv:=(HOK.o.1.pa.gr (by dsimp only;omega)).2;dsimp only at hmv;have hpn:=HPN.o;obtain ⟨qa,qc,hq0,hq1,hq2,_,hqc⟩:=(HPL.o W2 H3.o.below).ints;simp only [S] at hq0;obtain ⟨rfl,hq3,rfl⟩:=hq0;have hlen:2≤P.length:=hplen;obtain ⟨pb,po,rfl,_,hpc⟩:=hqc 0 (by omega);have hpl1:pl≤pc:=by omega
     unfold maxLen at hq2;obtain ⟨q0,hq0'⟩:∃ q,q=P.getD 0 0:=⟨_,rfl⟩;have m0:W2.cell? ⟨pb,po,none⟩=some (Y X q0):=by rw [hq0'];have h:=hpc 0 (by omega);simpa using h
     have hpi0:(0:Int)<(pl:Int):=by omega
     have HQ0:=H hq0';obtain ⟨q1,hq1'⟩:∃ q,q=P.getD 1 0:=⟨_,rfl⟩;have m1:W2.cell? ⟨pb,po+1,none⟩=some (Y X q1):=by rw [hq1'];have h:=hpc 1 (by omega);simpa using h
     have hpi1:(1:Int)<(pl:Int):=by omega
     have HQ1:=H hq1';clear hqc hpc hq1 hq3 hlen hplen hq0' hq1';obtain ⟨V,hV⟩:∃ V,V=grow3R ⟨tx0,ty0,tx1,ty1⟩ q0 q1 q0 q1:=⟨_,rfl⟩;have HMV:Hid (∀ W,Calls Tryz.prog 54 #[rv ⟨tx0,ty0,tx1,ty1⟩,Y X q0,Y X q1,Y X q0,Y X q1] W (PPost W (rv V))):=fun W=>by
      have h0:=HQ0.o;have h1:=HQ1.o;rw [hV];exact rgrow_c ⟨tx0,ty0,tx1,ty1⟩ _ _ _ _ W HOK.o.2 (by omega) (by omega) (by omega) (by omega)
     have HZE:Hid (Z=V):=H (by rw [HZN.o,if_neg t1,if_pos t2,hV,HQ0.o,HQ1.o]);obtain ⟨h2a,h2b⟩:=t2;have d2:decide (2≤op)=true:=decide_eq_true h2a;have d3:decide (op≤4)=true:=decide_eq_true h2b;clear hV hmv hpn t1;go_wp2_with fail;obtain ⟨km0,km1,ke0,ke1,ke2,ke3⟩:=kept6 m0 m1 e0 e1 e2 e3;clear m0 m1 e0 e1 e2 e3;refine wp_region_kept_tail W2.heap.size 14 _ rfl (by kernel_rfl) (by kernel_rfl) ?_;simp only [U,E,I,Q]
     repeat (go_big_quiet_step (first
      |(go_at_call 54;with_reducible exact Calls.kept _ (N _) (HMV.o _))))
     refine wpQuiet_nil ?_;intro s;refine ⟨?_⟩;have H4:=H (H3.o.call s.below);have X4:=H (X3.o.call s.below);have HO4:Hid (s.w.ownsRow B 25 4 (J la ln lc) ln (rcs (A ln Z))∧B≤s.w.heap.size):=⟨owns_below HO3.o.1 s.below (N _),L HO3.o.2 s.below.size⟩;clear km0 km1 ke0 ke1 ke2 ke3 H3 X3 HO3;obtain ⟨v0,v1,v2,v3⟩:=V;have y0:=X4.o.cell 0 rfl;have yf0:=X4.o.frozen 0;have y1:=X4.o.cell 1 rfl;have yf1:=X4.o.frozen 1;have y2:=X4.o.cell 2 rfl;have yf2:=X4.o.frozen 2;have y3:=X4.o.cell 3 rfl;have yf3:=X4.o.frozen 3;have HS:Hid (Bag w ((((s.w.setCell ⟨wr.heap.size,0,none⟩ (Y X v0)).setCell ⟨wr.heap.size,1,none⟩ (Y X v1)).setCell ⟨wr.heap.size,2,none⟩ (Y X v2)).setCell ⟨wr.heap.size,3,none⟩ (Y X v3)) [(w.heap.size,[Y X op,J ia il ic,J (some ⟨pb,po,none⟩) pl pc]),(w.heap.size+1,(qI tx0 ty0 tx1 ty1))]∧Box ((((s.w.setCell ⟨wr.heap.size,0,none⟩ (Y X v0)).setCell ⟨wr.heap.size,1,none⟩ (Y X v1)).setCell ⟨wr.heap.size,2,none⟩ (Y X v2)).setCell ⟨wr.heap.size,3,none⟩ (Y X v3)) wr.heap.size (qI v0 v1 v2 v3)∧((((s.w.setCell ⟨wr.heap.size,0,none⟩ (Y X v0)).setCell ⟨wr.heap.size,1,none⟩ (Y X v1)).setCell ⟨wr.heap.size,2,none⟩ (Y X v2)).setCell ⟨wr.heap.size,3,none⟩ (Y X v3)).ownsRow B 25 4 (J la ln lc) ln (rcs (A ln Z))∧B≤((((s.w.setCell ⟨wr.heap.size,0,none⟩ (Y X v0)).setCell ⟨wr.heap.size,1,none⟩ (Y X v1)).setCell ⟨wr.heap.size,2,none⟩ (Y X v2)).setCell ⟨wr.heap.size,3,none⟩ (Y X v3)).heap.size):=by
      refine ⟨?_,?_,?_,?_⟩
      ·exact bag_far4 H4.o (fun p hp=>by have:=HB.o.2 p hp;have:=HRB.o.1;omega) (by have:=HB.o.1;have:=HRB.o.1;omega) _ _ _ _
      ·exact (((X4.o.self 0 _).self 1 _).self 2 _).self 3 _
      ·exact owns_far4 HO4.o.1 HRB.o.2 _ _ _ _
      ·simp only [size_set];exact HO4.o.2
     go_upto_region 19 with fail;generalize ((((s.w.setCell ⟨wr.heap.size,0,none⟩ (Y X v0)).setCell ⟨wr.heap.size,1,none⟩ (Y X v1)).setCell ⟨wr.heap.size,2,none⟩ (Y X v2)).setCell ⟨wr.heap.size,3,none⟩ (Y X v3))=W6 at *;have HA:Hid (Bag w W6 [(w.heap.size,[Y X op,J ia il ic,J (some ⟨pb,po,none⟩) pl pc]),(w.heap.size+1,(qI tx0 ty0 tx1 ty1))]):=HS.o.1;have XA:Hid (Box W6 wr.heap.size (qI v0 v1 v2 v3)):=HS.o.2.1;have HOA:Hid (W6.ownsRow B 25 4 (J la ln lc) ln (rcs (A ln Z))∧B≤W6.heap.size):=HS.o.2.2;clear HS y0 y1 y2 y3 yf0 yf1 yf2 yf3;have z0:W6.cell? ⟨wr.heap.size,0,none⟩=some (Y X v0):=XA.out.cell 0 rfl;have z1:W6.cell? ⟨wr.heap.size,1,none⟩=some (Y X v1):=XA.out.cell 1 rfl;have z2:W6.cell? ⟨wr.heap.size,2,none⟩=some (Y X v2):=XA.out.cell 2 rfl;have z3:W6.cell? ⟨wr.heap.size,3,none⟩=some (Y X v3):=XA.out.cell 3 rfl;have HBX:Hid (Box (W6.alloc (.cells #[Y X v0,Y X v1,Y X v2,Y X v3] 25)) W6.heap.size (qI v0 v1 v2 v3)):=Box.new W6 (qI v0 v1 v2 v3) _;have hOWN:Hid ((W6.alloc (.cells #[Y X v0,Y X v1,Y X v2,Y X v3] 25)).ownsRow B 25 4 (J la ln lc) ln (rcs (A ln Z))∧B≤(W6.alloc (.cells #[Y X v0,Y X v1,Y X v2,Y X v3] 25)).heap.size):=⟨owns_below HOA.o.1 (below_alloc W6 _) (N _),L HOA.o.2 (below_alloc W6 _).size⟩
     go_wp2_with (at_builtin;(refine wpList_append_lies _ rfl _ _ 59 rfl B 25 iR (.agg #[Y X 0,Y X 0,Y X 0,Y X 0]) 4 32 Tryz.underlying59 hiR hz0 hz1 hz2 rfl (by decide) (J la ln lc) ln (rcs (A ln Z)) rfl hOWN.out.1 _ 1 1 (qI v0 v1 v2 v3) rfl rfl (news_at' HBX.o) (by simp [Value.oneCell']) (by decide) HM1.o.1 HM1.o.2 hOWN.out.2 _ rfl ?_;intro g8 c8 w8 hown8 hgrow8 hat8 hlt8;have HF:Hid (Bag w w8 [(w.heap.size,[Y X op,J ia il ic,J (some ⟨pb,po,none⟩) pl pc]),(w.heap.size+1,(qI tx0 ty0 tx1 ty1))]∧w8.ownsRow B 25 4 (J (some ⟨g8,0,none⟩) (ln+1) c8) (ln+1) (rcs (A (ln+1) Z))∧B≤w8.heap.size):=HFIN.o W6 HA.o (by rw [HZE.o];exact XA.out) HOA.o g8 c8 w8 (by rw [HZE.o] at hown8 ⊢;exact hown8) (by rw [HZE.o];exact hgrow8);clear hown8 hgrow8 hat8 z0 z1 z2 z3))
     go_roundw
     case rel=>exact ⟨ln+1,_,_,_,by omega,by go_num,rfl,rfl,HF.o.1,HF.o.2.1,HF.o.2.2⟩
     case measure=>simp [intOf];omega
    have h14:decide (2≤op)=true:=decide_eq_true (by have:=HOK.o.1.op;dsimp only at this;omega);have h15:decide (op≤4)=false:=decide_eq_false (by have:=HOK.o.1.op;dsimp only at this;omega);have h16:4<op:=by have:=HOK.o.1.op;dsimp only at this;omega
    obtain ⟨pbq,hpbq⟩:∃ z,z=pbx P 0:=⟨_,rfl⟩;have HPB:=H hpbq;clear hpbq;by_cases t12:op=12
    ·have hplen:4≤P.length:=(HOK.o.1.pa.bx (.inl t12)).1;have HBX2:Hid (∀ W,Below w.heap.size w W→Calls Tryz.prog 82 #[J pa pl pc,Y X 0] W (PPost W (rv pbq))):=fun W h=>by rw [HPB.o];exact box13_0_c (F:=(·<W.heap.size)) _ P W (fun b h=>h) (HPL.o W h) hplen
     have HH3:Hid (Below w.heap.size w W2):=H3.o.below;obtain ⟨V,hV⟩:∃ V,V=meetR ⟨tx0,ty0,tx1,ty1⟩ pbq:=⟨_,rfl⟩;have HMV:Hid (∀ W,Calls Tryz.prog 20 #[rv ⟨tx0,ty0,tx1,ty1⟩,rv pbq] W (PPost W (rv V))):=fun W=>by rw [hV];exact rmeet_c _ _ W
     have HZE:Hid (Z=V):=H (by rw [HZN.o,if_neg t1,if_neg t2,if_pos t12,hV,HPB.o]);clear hV hplen t1 t2;subst t12;go_wp2_with fail;obtain ⟨ke0,ke1,ke2,ke3⟩:=kept4 e0 e1 e2 e3;clear e0 e1 e2 e3;refine wp_region_kept_tail W2.heap.size 4 _ rfl (by kernel_rfl) (by kernel_rfl) ?_;simp only [U,E,I,Q]
     repeat (go_big_quiet_step (first
      |(go_at_call 82;with_reducible exact Calls.kept _ (N _) (HBX2.o _ (HH3.o.trans ((Kept.below _).mono HH3.o.size))))
      |(go_at_call 20;with_reducible exact Calls.kept _ (N _) (HMV.o _))))
     refine wpQuiet_nil ?_;intro s;refine ⟨?_⟩;have H4:=H (H3.o.call s.below);have X4:=H (X3.o.call s.below);have HO4:Hid (s.w.ownsRow B 25 4 (J la ln lc) ln (rcs (A ln Z))∧B≤s.w.heap.size):=⟨owns_below HO3.o.1 s.below (N _),L HO3.o.2 s.below.size⟩;clear ke0 ke1 ke2 ke3 H3 X3 HO3;obtain ⟨v0,v1,v2,v3⟩:=V;have y0:=X4.o.cell 0 rfl;have yf0:=X4.o.frozen 0;have y1:=X4.o.cell 1 rfl;have yf1:=X4.o.frozen 1;have y2:=X4.o.cell 2 rfl;have yf2:=X4.o.frozen 2;have y3:=X4.o.cell 3 rfl;have yf3:=X4.o.frozen 3;have HS:Hid (Bag w ((((s.w.setCell ⟨wr.heap.size,0,none⟩ (Y X v0)).setCell ⟨wr.heap.size,1,none⟩ (Y X v1)).setCell ⟨wr.heap.size,2,none⟩ (Y X v2)).setCell ⟨wr.heap.size,3,none⟩ (Y X v3)) [(w.heap.size,[Y X 12,J ia il ic,J pa pl pc]),(w.heap.size+1,(qI tx0 ty0 tx1 ty1))]∧Box ((((s.w.setCell ⟨wr.heap.size,0,none⟩ (Y X v0)).setCell ⟨wr.heap.size,1,none⟩ (Y X v1)).setCell ⟨wr.heap.size,2,none⟩ (Y X v2)).setCell ⟨wr.heap.size,3,none⟩ (Y X v3)) wr.heap.size (qI v0 v1 v2 v3)∧((((s.w.setCell ⟨wr.heap.size,0,none⟩ (Y X v0)).setCell ⟨wr.heap.size,1,none⟩ (Y X v1)).setCell ⟨wr.heap.size,2,none⟩ (Y X v2)).setCell ⟨wr.heap.size,3,none⟩ (Y X v3)).ownsRow B 25 4 (J la ln lc) ln (rcs (A ln Z))∧B≤((((s.w.setCell ⟨wr.heap.size,0,none⟩ (Y X v0)).setCell ⟨wr.heap.size,1,none⟩ (Y X v1)).setCell ⟨wr.heap.size,2,none⟩ (Y X v2)).setCell ⟨wr.heap.size,3,none⟩ (Y X v3)).heap.size):=by
      refine ⟨?_,?_,?_,?_⟩
      ·exact bag_far4 H4.o (fun p hp=>by have:=HB.o.2 p hp;have:=HRB.o.1;omega) (by have:=HB.o.1;have:=HRB.o.1;omega) _ _ _ _
      ·exact (((X4.o.self 0 _).self 1 _).self 2 _).self 3 _
      ·exact owns_far4 HO4.o.1 HRB.o.2 _ _ _ _
      ·simp only [size_set];exact HO4.o.2
     go_upto_region 19 with fail;generalize ((((s.w.setCell ⟨wr.heap.size,0,none⟩ (Y X v0)).setCell ⟨wr.heap.size,1,none⟩ (Y X v1)).setCell ⟨wr.heap.size,2,none⟩ (Y X v2)).setCell ⟨wr.heap.size,3,none⟩ (Y X v3))=W6 at *;have HA:Hid (Bag w W6 [(w.heap.size,[Y X 12,J ia il ic,J pa pl pc]),(w.heap.size+1,(qI tx0 ty0 tx1 ty1))]):=HS.o.1;have XA:Hid (Box W6 wr.heap.size (qI v0 v1 v2 v3)):=HS.o.2.1;have HOA:Hid (W6.ownsRow B 25 4 (J la ln lc) ln (rcs (A ln Z))∧B≤W6.heap.size):=HS.o.2.2;clear HS y0 y1 y2 y3 yf0 yf1 yf2 yf3;have z0:W6.cell? ⟨wr.heap.size,0,none⟩=some (Y X v0):=XA.out.cell 0 rfl;have z1:W6.cell? ⟨wr.heap.size,1,none⟩=some (Y X v1):=XA.out.cell 1 rfl;have z2:W6.cell? ⟨wr.heap.size,2,none⟩=some (Y X v2):=XA.out.cell 2 rfl;have z3:W6.cell? ⟨wr.heap.size,3,none⟩=some (Y X v3):=XA.out.cell 3 rfl;have HBX:Hid (Box (W6.alloc (.cells #[Y X v0,Y X v1,Y X v2,Y X v3] 25)) W6.heap.size (qI v0 v1 v2 v3)):=Box.new W6 (qI v0 v1 v2 v3) _;have hOWN:Hid ((W6.alloc (.cells #[Y X v0,Y X v1,Y X v2,Y X v3] 25)).ownsRow B 25 4 (J la ln lc) ln (rcs (A ln Z))∧B≤(W6.alloc (.cells #[Y X v0,Y X v1,Y X v2,Y X v3] 25)).heap.size):=⟨owns_below HOA.o.1 (below_alloc W6 _) (N _),L HOA.o.2 (below_alloc W6 _).size⟩
     go_wp2_with (at_builtin;(refine wpList_append_lies _ rfl _ _ 59 rfl B 25 iR (.agg #[Y X 0,Y X 0,Y X 0,Y X 0]) 4 32 Tryz.underlying59 hiR hz0 hz1 hz2 rfl (by decide) (J la ln lc) ln (rcs (A ln Z)) rfl hOWN.out.1 _ 1 1 (qI v0 v1 v2 v3) rfl rfl (news_at' HBX.o) (by simp [Value.oneCell']) (by decide) HM1.o.1 HM1.o.2 hOWN.out.2 _ rfl ?_;intro g8 c8 w8 hown8 hgrow8 hat8 hlt8;have HF:Hid (Bag w w8 [(w.heap.size,[Y X 12,J ia il ic,J pa pl pc]),(w.heap.size+1,(qI tx0 ty0 tx1 ty1))]∧w8.ownsRow B 25 4 (J (some ⟨g8,0,none⟩) (ln+1) c8) (ln+1) (rcs (A (ln+1) Z))∧B≤w8.heap.size):=HFIN.o W6 HA.o (by rw [HZE.o];exact XA.out) HOA.o g8 c8 w8 (by rw [HZE.o] at hown8 ⊢;exact hown8) (by rw [HZE.o];exact hgrow8);clear hown8 hgrow8 hat8 z0 z1 z2 z3))
     go_roundw
     case rel=>exact ⟨ln+1,_,_,_,by omega,by go_num,rfl,rfl,HF.o.1,HF.o.2.1,HF.o.2.2⟩
     case measure=>simp [intOf];omega
    have d12:(op==12)=false:=by simpa using t12
    by_cases t10:op=10
    ·have hplen:4≤P.length:=(HOK.o.1.pa.bx (.inr t10)).1;have HBX2:Hid (∀ W,Below w.heap.size w W→Calls Tryz.prog 82 #[J pa pl pc,Y X 0] W (PPost W (rv pbq))):=fun W h=>by rw [HPB.o];exact box13_0_c (F:=(·<W.heap.size)) _ P W (fun b h=>h) (HPL.o W h) hplen
     have HH3:Hid (Below w.heap.size w W2):=H3.o.below;obtain ⟨wi,hwi⟩:∃ b,b=refWi ⟨tx0,ty0,tx1,ty1⟩ pbq:=⟨_,rfl⟩;have HWI:Hid (∀ W,Calls Tryz.prog 83 #[rv ⟨tx0,ty0,tx1,ty1⟩,rv pbq] W (PPost W (.bool wi))):=fun W=>by rw [hwi];exact rwithin_c _ _ W HOK.o.2
     have hze0:Z=if wi=false then pbq else ⟨tx0,ty0,tx1,ty1⟩:=by
      rw [HZN.o,if_neg t1,if_neg t2,if_neg t12,HPB.o,hwi,HPB.o];subst t10
      simp
     have HZE0:=H hze0;clear hze0;clear hplen t1 t2 t12 hwi;subst t10;have f0:=H3.o.cell 0 rfl 0 rfl;go_wp2_with fail;obtain ⟨ke0,ke1,ke2,ke3,kn0,kf0⟩:=kept6 e0 e1 e2 e3 n0 f0;clear e0 e1 e2 e3 n0 f0;refine wp_region_kept W2.heap.size (by kernel_rfl) (by kernel_rfl) ?_
     repeat (go_big_quiet_step (first
      |(go_at_call 82;with_reducible exact Calls.kept _ (N _) (HBX2.o _ (HH3.o.trans ((Kept.below _).mono HH3.o.size))))
      |(go_at_call 83;with_reducible exact Calls.kept _ (N _) (HWI.o _))))
     refine wpQuiet_nil ?_;rintro _ ⟨s,rfl⟩;have H4:=H (H3.o.call s.below);have X4:=H (X3.o.call s.below);have HO4:Hid (s.w.ownsRow B 25 4 (J la ln lc) ln (rcs (A ln Z))∧B≤s.w.heap.size):=⟨owns_below HO3.o.1 s.below (N _),L HO3.o.2 s.below.size⟩;clear ke0 ke1 ke2 ke3 kn0 kf0 H3 X3 HO3
     cases wi with
     |false=>
      have HZE:Hid (Z=pbq):=HZE0.o;obtain ⟨v0,v1,v2,v3⟩:=pbq;go_wp2_with fail;refine (HBX2.o _ H4.o.below).mono ?_;rintro e' W5 ⟨rfl,hb5⟩;have H5:=H (H4.o.call hb5);have X5:=H (X4.o.call hb5);have HO5:Hid (W5.ownsRow B 25 4 (J la ln lc) ln (rcs (A ln Z))∧B≤W5.heap.size):=⟨owns_below HO4.o.1 hb5 (N _),L HO4.o.2 hb5.size⟩;clear hb5 H4 X4 HO4;have y0:=X5.o.cell 0 rfl;have yf0:=X5.o.frozen 0;have y1:=X5.o.cell 1 rfl;have yf1:=X5.o.frozen 1;have y2:=X5.o.cell 2 rfl;have yf2:=X5.o.frozen 2;have y3:=X5.o.cell 3 rfl;have yf3:=X5.o.frozen 3;have HS:Hid (Bag w ((((W5.setCell ⟨wr.heap.size,0,none⟩ (Y X v0)).setCell ⟨wr.heap.size,1,none⟩ (Y X v1)).setCell ⟨wr.heap.size,2,none⟩ (Y X v2)).setCell ⟨wr.heap.size,3,none⟩ (Y X v3)) [(w.heap.size,[Y X 10,J ia il ic,J pa pl pc]),(w.heap.size+1,(qI tx0 ty0 tx1 ty1))]∧Box ((((W5.setCell ⟨wr.heap.size,0,none⟩ (Y X v0)).setCell ⟨wr.heap.size,1,none⟩ (Y X v1)).setCell ⟨wr.heap.size,2,none⟩ (Y X v2)).setCell ⟨wr.heap.size,3,none⟩ (Y X v3)) wr.heap.size (qI v0 v1 v2 v3)∧((((W5.setCell ⟨wr.heap.size,0,none⟩ (Y X v0)).setCell ⟨wr.heap.size,1,none⟩ (Y X v1)).setCell ⟨wr.heap.size,2,none⟩ (Y X v2)).setCell ⟨wr.heap.size,3,none⟩ (Y X v3)).ownsRow B 25 4 (J la ln lc) ln (rcs (A ln Z))∧B≤((((W5.setCell ⟨wr.heap.size,0,none⟩ (Y X v0)).setCell ⟨wr.heap.size,1,none⟩ (Y X v1)).setCell ⟨wr.heap.size,2,none⟩ (Y X v2)).setCell ⟨wr.heap.size,3,none⟩ (Y X v3)).heap.size):=by
       refine ⟨?_,?_,?_,?_⟩
       ·exact bag_far4 H5.o (fun p hp=>by have:=HB.o.2 p hp;have:=HRB.o.1;omega) (by have:=HB.o.1;have:=HRB.o.1;omega) _ _ _ _
       ·exact (((X5.o.self 0 _).self 1 _).self 2 _).self 3 _
       ·exact owns_far4 HO5.o.1 HRB.o.2 _ _ _ _
       ·simp only [size_set];exact HO5.o.2
      go_upto_region 19 with fail;generalize ((((W5.setCell ⟨wr.heap.size,0,none⟩ (Y X v0)).setCell ⟨wr.heap.size,1,none⟩ (Y X v1)).setCell ⟨wr.heap.size,2,none⟩ (Y X v2)).setCell ⟨wr.heap.size,3,none⟩ (Y X v3))=W6 at *;have HA:Hid (Bag w W6 [(w.heap.size,[Y X 10,J ia il ic,J pa pl pc]),(w.heap.size+1,(qI tx0 ty0 tx1 ty1))]):=HS.o.1;have XA:Hid (Box W6 wr.heap.size (qI v0 v1 v2 v3)):=HS.o.2.1;have HOA:Hid (W6.ownsRow B 25 4 (J la ln lc) ln (rcs (A ln Z))∧B≤W6.heap.size):=HS.o.2.2;clear HS y0 y1 y2 y3 yf0 yf1 yf2 yf3;have z0:W6.cell? ⟨wr.heap.size,0,none⟩=some (Y X v0):=XA.out.cell 0 rfl;have z1:W6.cell? ⟨wr.heap.size,1,none⟩=some (Y X v1):=XA.out.cell 1 rfl;have z2:W6.cell? ⟨wr.heap.size,2,none⟩=some (Y X v2):=XA.out.cell 2 rfl;have z3:W6.cell? ⟨wr.heap.size,3,none⟩=some (Y X v3):=XA.out.cell 3 rfl;have HBX:Hid (Box (W6.alloc (.cells #[Y X v0,Y X v1,Y X v2,Y X v3] 25)) W6.heap.size (qI v0 v1 v2 v3)):=Box.new W6 (qI v0 v1 v2 v3) _;have hOWN:Hid ((W6.alloc (.cells #[Y X v0,Y X v1,Y X v2,Y X v3] 25)).ownsRow B 25 4 (J la ln lc) ln (rcs (A ln Z))∧B≤(W6.alloc (.cells #[Y X v0,Y X v1,Y X v2,Y X v3] 25)).heap.size):=⟨owns_below HOA.o.1 (below_alloc W6 _) (N _),L HOA.o.2 (below_alloc W6 _).size⟩
      go_wp2_with (at_builtin;(refine wpList_append_lies _ rfl _ _ 59 rfl B 25 iR (.agg #[Y X 0,Y X 0,Y X 0,Y X 0]) 4 32 Tryz.underlying59 hiR hz0 hz1 hz2 rfl (by decide) (J la ln lc) ln (rcs (A ln Z)) rfl hOWN.out.1 _ 1 1 (qI v0 v1 v2 v3) rfl rfl (news_at' HBX.o) (by simp [Value.oneCell']) (by decide) HM1.o.1 HM1.o.2 hOWN.out.2 _ rfl ?_;intro g8 c8 w8 hown8 hgrow8 hat8 hlt8;have HF:Hid (Bag w w8 [(w.heap.size,[Y X 10,J ia il ic,J pa pl pc]),(w.heap.size+1,(qI tx0 ty0 tx1 ty1))]∧w8.ownsRow B 25 4 (J (some ⟨g8,0,none⟩) (ln+1) c8) (ln+1) (rcs (A (ln+1) Z))∧B≤w8.heap.size):=HFIN.o W6 HA.o (by rw [HZE.o];exact XA.out) HOA.o g8 c8 w8 (by rw [HZE.o] at hown8 ⊢;exact hown8) (by rw [HZE.o];exact hgrow8);clear hown8 hgrow8 hat8 z0 z1 z2 z3))
      go_roundw
      case rel=>exact ⟨ln+1,_,_,_,by omega,by go_num,rfl,rfl,HF.o.1,HF.o.2.1,HF.o.2.2⟩
      case measure=>simp [intOf];omega
     |true=>
      have HZE:Hid (Z=⟨tx0,ty0,tx1,ty1⟩):=HZE0.o;have n0:=H4.o.cell 0 rfl 0 rfl;go_upto_region 19 with fail;clear n0;have z0:s.w.cell? ⟨wr.heap.size,0,none⟩=some (Y X tx0):=X4.o.cell 0 rfl;have z1:s.w.cell? ⟨wr.heap.size,1,none⟩=some (Y X ty0):=X4.o.cell 1 rfl;have z2:s.w.cell? ⟨wr.heap.size,2,none⟩=some (Y X tx1):=X4.o.cell 2 rfl;have z3:s.w.cell? ⟨wr.heap.size,3,none⟩=some (Y X ty1):=X4.o.cell 3 rfl;have HBX:Hid (Box (s.w.alloc (.cells #[Y X tx0,Y X ty0,Y X tx1,Y X ty1] 25)) s.w.heap.size (qI tx0 ty0 tx1 ty1)):=Box.new s.w (qI tx0 ty0 tx1 ty1) _;have hOWN:Hid ((s.w.alloc (.cells #[Y X tx0,Y X ty0,Y X tx1,Y X ty1] 25)).ownsRow B 25 4 (J la ln lc) ln (rcs (A ln Z))∧B≤(s.w.alloc (.cells #[Y X tx0,Y X ty0,Y X tx1,Y X ty1] 25)).heap.size):=⟨owns_below HO4.o.1 (below_alloc s.w _) (N _),L HO4.o.2 (below_alloc s.w _).size⟩
      go_wp2_with (at_builtin;(refine wpList_append_lies _ rfl _ _ 59 rfl B 25 iR (.agg #[Y X 0,Y X 0,Y X 0,Y X 0]) 4 32 Tryz.underlying59 hiR hz0 hz1 hz2 rfl (by decide) (J la ln lc) ln (rcs (A ln Z)) rfl hOWN.out.1 _ 1 1 (qI tx0 ty0 tx1 ty1) rfl rfl (news_at' HBX.o) (by simp [Value.oneCell']) (by decide) HM1.o.1 HM1.o.2 hOWN.out.2 _ rfl ?_;intro g8 c8 w8 hown8 hgrow8 hat8 hlt8;have HF:Hid (Bag w w8 [(w.heap.size,[Y X 10,J ia il ic,J pa pl pc]),(w.heap.size+1,(qI tx0 ty0 tx1 ty1))]∧w8.ownsRow B 25 4 (J (some ⟨g8,0,none⟩) (ln+1) c8) (ln+1) (rcs (A (ln+1) Z))∧B≤w8.heap.size):=HFIN.o s.w H4.o (by rw [HZE.o];exact X4.o) HO4.o g8 c8 w8 (by rw [HZE.o] at hown8 ⊢;exact hown8) (by rw [HZE.o];exact hgrow8);clear hown8 hgrow8 hat8 z0 z1 z2 z3))
      go_roundw
      case rel=>exact ⟨ln+1,_,_,_,by omega,by go_num,rfl,rfl,HF.o.1,HF.o.2.1,HF.o.2.2⟩
      case measure=>simp [intOf];omega
    have d10:(op==10)=false:=by simpa using t10
    go_wp2_with fail;have kn0:=fun s:Kept W2.heap.size W2=>s.at n0;refine wp_region_kept W2.heap.size (by kernel_rfl) (by kernel_rfl) ?_
    repeat (go_big_quiet_step (fail))
    refine wpQuiet_nil ?_;rintro _ ⟨s,rfl⟩;have H4:=H (H3.o.call s.below);have X4:=H (X3.o.call s.below);have HO4:Hid (s.w.ownsRow B 25 4 (J la ln lc) ln (rcs (A ln Z))∧B≤s.w.heap.size):=⟨owns_below HO3.o.1 s.below (N _),L HO3.o.2 s.below.size⟩;clear kn0 n0 e0 e1 e2 e3 H3 X3 HO3;generalize s.w=W2 at *;have H3:Hid (Bag w W2 [(w.heap.size,[Y X op,J ia il ic,J pa pl pc]),(w.heap.size+1,(qI tx0 ty0 tx1 ty1))]):=H4;have X3:Hid (Box W2 wr.heap.size (cl4 ⟨tx0,ty0,tx1,ty1⟩)):=X4;have HO3:Hid (W2.ownsRow B 25 4 (J la ln lc) ln (rcs (A ln Z))∧B≤W2.heap.size):=HO4;clear H4 X4 HO4;have n0:=H3.o.cell 0 rfl 0 rfl;obtain ⟨e0,e1,e2,e3⟩:=(H3.o.box 1 rfl).c4;by_cases t11:op=11
    ·have hplen:4≤P.length:=(HOK.o.1.pa.sh t11).1;have hmv:=(HOK.o.1.pa.mv (.inr t11)).2;have hsh:=(HOK.o.1.pa.sh t11).2;dsimp only at hmv hsh;have hpn:=HPN.o;obtain ⟨qa,qc,hq0,hq1,hq2,_,hqc⟩:=(HPL.o W2 H3.o.below).ints;simp only [S] at hq0;obtain ⟨rfl,hq3,rfl⟩:=hq0;have hlen:4≤P.length:=hplen;obtain ⟨pb,po,rfl,_,hpc⟩:=hqc 0 (by omega);have hpl1:pl≤pc:=by omega
     unfold maxLen at hq2;obtain ⟨q0,hq0'⟩:∃ q,q=P.getD 0 0:=⟨_,rfl⟩;have m0:W2.cell? ⟨pb,po,none⟩=some (Y X q0):=by rw [hq0'];have h:=hpc 0 (by omega);simpa using h
     have hpi0:(0:Int)<(pl:Int):=by omega
     have HQ0:=H hq0';obtain ⟨q1,hq1'⟩:∃ q,q=P.getD 1 0:=⟨_,rfl⟩;have m1:W2.cell? ⟨pb,po+1,none⟩=some (Y X q1):=by rw [hq1'];have h:=hpc 1 (by omega);simpa using h
     have hpi1:(1:Int)<(pl:Int):=by omega
     have HQ1:=H hq1';obtain ⟨q2,hq2'⟩:∃ q,q=P.getD 2 0:=⟨_,rfl⟩;have m2:W2.cell? ⟨pb,po+2,none⟩=some (Y X q2):=by rw [hq2'];have h:=hpc 2 (by omega);simpa using h
     have hpi2:(2:Int)<(pl:Int):=by omega
     have HQ2:=H hq2';obtain ⟨q3,hq3'⟩:∃ q,q=P.getD 3 0:=⟨_,rfl⟩;have m3:W2.cell? ⟨pb,po+3,none⟩=some (Y X q3):=by rw [hq3'];have h:=hpc 3 (by omega);simpa using h
     have hpi3:(3:Int)<(pl:Int):=by omega
     have HQ3:=H hq3';clear hqc hpc hq1 hq3 hlen hplen hq0' hq1' hq2' hq3';obtain ⟨V1,hV1⟩:∃ V,V=move3R ⟨tx0,ty0,tx1,ty1⟩ (-q0) (-q1):=⟨_,rfl⟩;obtain ⟨V2,hV2⟩:∃ V,V=grow3R V1 q2 q3 q2 q3:=⟨_,rfl⟩;obtain ⟨V,hV⟩:∃ V,V=joinR ⟨tx0,ty0,tx1,ty1⟩ V2:=⟨_,rfl⟩;have hq0b : -1048576≤q0∧q0≤1048576:=by rw [HQ0.o];exact hmv.1
     have hq1b : -1048576≤q1∧q1≤1048576:=by rw [HQ1.o];exact hmv.2
     have hq2b:0≤q2∧q2≤255:=by rw [HQ2.o];exact hsh.1
     have hq3b:0≤q3∧q3≤255:=by rw [HQ3.o];exact hsh.2
     have HMV:Hid (∀ W,Calls Tryz.prog 55 #[rv ⟨tx0,ty0,tx1,ty1⟩,Y X (-q0),Y X (-q1)] W (PPost W (rv V1))):=fun W=>by rw [hV1];exact rmove_c ⟨tx0,ty0,tx1,ty1⟩ _ _ W HOK.o.2 (by omega) (by omega)
     have HGR:Hid (∀ W,Calls Tryz.prog 54 #[rv V1,Y X q2,Y X q3,Y X q2,Y X q3] W (PPost W (rv V2))):=fun W=>by rw [hV2];exact rgrow_c _ _ _ _ _ W (by rw [hV1];exact move3R_pl HOK.o.2 _ _) (by omega) (by omega) (by omega) (by omega)
     have HJN:Hid (∀ W,Calls Tryz.prog 81 #[rv ⟨tx0,ty0,tx1,ty1⟩,rv V2] W (PPost W (rv V))):=fun W=>by rw [hV];exact rjoin_c _ _ W
     have HZE:Hid (Z=V):=H (by rw [HZN.o,if_neg t1,if_neg t2,if_neg t12,if_neg (fun h=>t10 h.1),if_pos t11,hV,hV2,hV1,HQ0.o,HQ1.o,HQ2.o,HQ3.o]);obtain ⟨hq00,hq01⟩:=hq0b;obtain ⟨hq10,hq11⟩:=hq1b;clear hV hV1 hV2 hmv hsh hpn t1 t2 t12 t10 hq2b hq3b;subst t11;go_wp2_with fail;obtain ⟨km0,km1,km2,km3,ke0,ke1,ke2,ke3⟩:=kept8 m0 m1 m2 m3 e0 e1 e2 e3;clear m0 m1 m2 m3 e0 e1 e2 e3;refine wp_region_kept_tail W2.heap.size 25 _ rfl (by kernel_rfl) (by kernel_rfl) ?_;simp only [U,E,I,Q]
     repeat (go_big_quiet_step (first
      |(go_at_call 55;with_reducible exact Calls.kept _ (N _) (HMV.o _))
      |(go_at_call 54;with_reducible exact Calls.kept _ (N _) (HGR.o _))
      |(go_at_call 81;with_reducible exact Calls.kept _ (N _) (HJN.o _))))
     refine wpQuiet_nil ?_;intro s;refine ⟨?_⟩;have H4:=H (H3.o.call s.below);have X4:=H (X3.o.call s.below);have HO4:Hid (s.w.ownsRow B 25 4 (J la ln lc) ln (rcs (A ln Z))∧B≤s.w.heap.size):=⟨owns_below HO3.o.1 s.below (N _),L HO3.o.2 s.below.size⟩;clear km0 km1 km2 km3 ke0 ke1 ke2 ke3 H3 X3 HO3;obtain ⟨v0,v1,v2,v3⟩:=V;have y0:=X4.o.cell 0 rfl;have yf0:=X4.o.frozen 0;have y1:=X4.o.cell 1 rfl;have yf1:=X4.o.frozen 1;have y2:=X4.o.cell 2 rfl;have yf2:=X4.o.frozen 2;have y3:=X4.o.cell 3 rfl;have yf3:=X4.o.frozen 3;have HS:Hid (Bag w ((((s.w.setCell ⟨wr.heap.size,0,none⟩ (Y X v0)).setCell ⟨wr.heap.size,1,none⟩ (Y X v1)).setCell ⟨wr.heap.size,2,none⟩ (Y X v2)).setCell ⟨wr.heap.size,3,none⟩ (Y X v3)) [(w.heap.size,[Y X 11,J ia il ic,J (some ⟨pb,po,none⟩) pl pc]),(w.heap.size+1,(qI tx0 ty0 tx1 ty1))]∧Box ((((s.w.setCell ⟨wr.heap.size,0,none⟩ (Y X v0)).setCell ⟨wr.heap.size,1,none⟩ (Y X v1)).setCell ⟨wr.heap.size,2,none⟩ (Y X v2)).setCell ⟨wr.heap.size,3,none⟩ (Y X v3)) wr.heap.size (qI v0 v1 v2 v3)∧((((s.w.setCell ⟨wr.heap.size,0,none⟩ (Y X v0)).setCell ⟨wr.heap.size,1,none⟩ (Y X v1)).setCell ⟨wr.heap.size,2,none⟩ (Y X v2)).setCell ⟨wr.heap.size,3,none⟩ (Y X v3)).ownsRow B 25 4 (J la ln lc) ln (rcs (A ln Z))∧B≤((((s.w.setCell ⟨wr.heap.size,0,none⟩ (Y X v0)).setCell ⟨wr.heap.size,1,none⟩ (Y X v1)).setCell ⟨wr.heap.size,2,none⟩ (Y X v2)).setCell ⟨wr.heap.size,3,none⟩ (Y X v3)).heap.size):=by
      refine ⟨?_,?_,?_,?_⟩
      ·exact bag_far4 H4.o (fun p hp=>by have:=HB.o.2 p hp;have:=HRB.o.1;omega) (by have:=HB.o.1;have:=HRB.o.1;omega) _ _ _ _
      ·exact (((X4.o.self 0 _).self 1 _).self 2 _).self 3 _
      ·exact owns_far4 HO4.o.1 HRB.o.2 _ _ _ _
      ·simp only [size_set];exact HO4.o.2
     go_upto_region 19 with fail;generalize ((((s.w.setCell ⟨wr.heap.size,0,none⟩ (Y X v0)).setCell ⟨wr.heap.size,1,none⟩ (Y X v1)).setCell ⟨wr.heap.size,2,none⟩ (Y X v2)).setCell ⟨wr.heap.size,3,none⟩ (Y X v3))=W6 at *;have HA:Hid (Bag w W6 [(w.heap.size,[Y X 11,J ia il ic,J (some ⟨pb,po,none⟩) pl pc]),(w.heap.size+1,(qI tx0 ty0 tx1 ty1))]):=HS.o.1;have XA:Hid (Box W6 wr.heap.size (qI v0 v1 v2 v3)):=HS.o.2.1;have HOA:Hid (W6.ownsRow B 25 4 (J la ln lc) ln (rcs (A ln Z))∧B≤W6.heap.size):=HS.o.2.2;clear HS y0 y1 y2 y3 yf0 yf1 yf2 yf3;have z0:W6.cell? ⟨wr.heap.size,0,none⟩=some (Y X v0):=XA.out.cell 0 rfl;have z1:W6.cell? ⟨wr.heap.size,1,none⟩=some (Y X v1):=XA.out.cell 1 rfl;have z2:W6.cell? ⟨wr.heap.size,2,none⟩=some (Y X v2):=XA.out.cell 2 rfl;have z3:W6.cell? ⟨wr.heap.size,3,none⟩=some (Y X v3):=XA.out.cell 3 rfl;have HBX:Hid (Box (W6.alloc (.cells #[Y X v0,Y X v1,Y X v2,Y X v3] 25)) W6.heap.size (qI v0 v1 v2 v3)):=Box.new W6 (qI v0 v1 v2 v3) _;have hOWN:Hid ((W6.alloc (.cells #[Y X v0,Y X v1,Y X v2,Y X v3] 25)).ownsRow B 25 4 (J la ln lc) ln (rcs (A ln Z))∧B≤(W6.alloc (.cells #[Y X v0,Y X v1,Y X v2,Y X v3] 25)).heap.size):=⟨owns_below HOA.o.1 (below_alloc W6 _) (N _),L HOA.o.2 (below_alloc W6 _).size⟩
     go_wp2_with (at_builtin;(refine wpList_append_lies _ rfl _ _ 59 rfl B 25 iR (.agg #[Y X 0,Y X 0,Y X 0,Y X 0]) 4 32 Tryz.underlying59 hiR hz0 hz1 hz2 rfl (by decide) (J la ln lc) ln (rcs (A ln Z)) rfl hOWN.out.1 _ 1 1 (qI v0 v1 v2 v3) rfl rfl (news_at' HBX.o) (by simp [Value.oneCell']) (by decide) HM1.o.1 HM1.o.2 hOWN.out.2 _ rfl ?_;intro g8 c8 w8 hown8 hgrow8 hat8 hlt8;have HF:Hid (Bag w w8 [(w.heap.size,[Y X 11,J ia il ic,J (some ⟨pb,po,none⟩) pl pc]),(w.heap.size+1,(qI tx0 ty0 tx1 ty1))]∧w8.ownsRow B 25 4 (J (some ⟨g8,0,none⟩) (ln+1) c8) (ln+1) (rcs (A (ln+1) Z))∧B≤w8.heap.size):=HFIN.o W6 HA.o (by rw [HZE.o];exact XA.out) HOA.o g8 c8 w8 (by rw [HZE.o] at hown8 ⊢;exact hown8) (by rw [HZE.o];exact hgrow8);clear hown8 hgrow8 hat8 z0 z1 z2 z3))
     go_roundw
     case rel=>exact ⟨ln+1,_,_,_,by omega,by go_num,rfl,rfl,HF.o.1,HF.o.2.1,HF.o.2.2⟩
     case measure=>simp [intOf];omega
    have d11:(op==11)=false:=by simpa using t11
    have HZE:Hid (Z=⟨tx0,ty0,tx1,ty1⟩):=H (by rw [HZN.o,if_neg t1,if_neg t2,if_neg t12,if_neg (fun h=>t10 h.1),if_neg t11]);clear t1 t2 t12 t10 t11;go_upto_region 19 with fail;clear n0 e0 e1 e2 e3;have z0:W2.cell? ⟨wr.heap.size,0,none⟩=some (Y X tx0):=X3.o.cell 0 rfl;have z1:W2.cell? ⟨wr.heap.size,1,none⟩=some (Y X ty0):=X3.o.cell 1 rfl;have z2:W2.cell? ⟨wr.heap.size,2,none⟩=some (Y X tx1):=X3.o.cell 2 rfl;have z3:W2.cell? ⟨wr.heap.size,3,none⟩=some (Y X ty1):=X3.o.cell 3 rfl;have HBX:Hid (Box (W2.alloc (.cells #[Y X tx0,Y X ty0,Y X tx1,Y X ty1] 25)) W2.heap.size (qI tx0 ty0 tx1 ty1)):=Box.new W2 (qI tx0 ty0 tx1 ty1) _;have hOWN:Hid ((W2.alloc (.cells #[Y X tx0,Y X ty0,Y X tx1,Y X ty1] 25)).ownsRow B 25 4 (J la ln lc) ln (rcs (A ln Z))∧B≤(W2.alloc (.cells #[Y X tx0,Y X ty0,Y X tx1,Y X ty1] 25)).heap.size):=⟨owns_below HO3.o.1 (below_alloc W2 _) (N _),L HO3.o.2 (below_alloc W2 _).size⟩
    go_wp2_with (at_builtin;(refine wpList_append_lies _ rfl _ _ 59 rfl B 25 iR (.agg #[Y X 0,Y X 0,Y X 0,Y X 0]) 4 32 Tryz.underlying59 hiR hz0 hz1 hz2 rfl (by decide) (J la ln lc) ln (rcs (A ln Z)) rfl hOWN.out.1 _ 1 1 (qI tx0 ty0 tx1 ty1) rfl rfl (news_at' HBX.o) (by simp [Value.oneCell']) (by decide) HM1.o.1 HM1.o.2 hOWN.out.2 _ rfl ?_;intro g8 c8 w8 hown8 hgrow8 hat8 hlt8;have HF:Hid (Bag w w8 [(w.heap.size,[Y X op,J ia il ic,J pa pl pc]),(w.heap.size+1,(qI tx0 ty0 tx1 ty1))]∧w8.ownsRow B 25 4 (J (some ⟨g8,0,none⟩) (ln+1) c8) (ln+1) (rcs (A (ln+1) Z))∧B≤w8.heap.size):=HFIN.o W2 H3.o (by rw [HZE.o];exact X3.o) HO3.o g8 c8 w8 (by rw [HZE.o] at hown8 ⊢;exact hown8) (by rw [HZE.o];exact hgrow8);clear hown8 hgrow8 hat8 z0 z1 z2 z3))
    go_roundw
    case rel=>exact ⟨ln+1,_,_,_,by omega,by go_num,rfl,rfl,HF.o.1,HF.o.2.1,HF.o.2.2⟩
    case measure=>simp [intOf];omega
  ·obtain rfl:ln=il:=by omega
   have HS:=H (World.ownsRow.mono HO.o.1 HB.o.1);go_wp2_with fail;go_ret;exact ⟨la,lc,rfl,H1.o.below,HS.o⟩
def atS (place:Int) (r:Rc) (o:Rc) (x:Int):Rc:=if x=place then joinR o r else o
def atK (nds:List Nd) (kn:List Rc) (place:Int) (o:Rc) (i:Nat):Rc:=(nds.getD i Nd.none).ins.foldl (atS place (rofR (nds.getD i Nd.none) (kn.getD i Rc.zero))) o
def at0 (out:Int) (want:Rc) (place:Int):Rc:=if place=out then joinR want Rc.zero else Rc.zero
def atN (nds:List Nd) (out:Int) (want:Rc) (kn:List Rc) (place:Int):Rc:=(List.range nds.length).foldl (atK nds kn place) (at0 out want place)
theorem at0_pl {out:Int} {want:Rc} {place:Int} (h:RcP want):RcP (at0 out want place):=by
 unfold at0
 split
 ·exact joinR_pl h zero_pl
 ·exact zero_pl
theorem atS_pl {place:Int} {r:Rc} (hr:RcP r):∀ (l:List Int) (o:Rc),RcP o→RcP (l.foldl (atS place r) o)
 |[],o,h=>h
 |x::l,o,h=>atS_pl hr l _ (by
  unfold atS
  split
  ·exact joinR_pl h hr
  ·exact h)
theorem atK_pl {nds:List Nd} {kn:List Rc} {place:Int} (hk:∀ r∈kn,RcP r) (hn:∀ i,i<nds.length→RaOk (nds.getD i Nd.none)):∀ (l:List Nat) (o:Rc),RcP o→(∀ i∈l,i<nds.length)→RcP (l.foldl (atK nds kn place) o)
 |[],o,h,_=>h
 |i::l,o,h,hl=>atK_pl hk hn l _ (atS_pl (rofR_pl (hn i (hl i (by simp))) (getD_mem_or hk i)) _ _ h) fun j hj=>hl j (by simp [hj])
theorem atN_pl {nds:List Nd} {out:Int} {want:Rc} {kn:List Rc} {place:Int} (hw:RcP want) (hk:∀ r∈kn,RcP r) (hn:∀ i,i<nds.length→RaOk (nds.getD i Nd.none)):RcP (atN nds out want kn place):=atK_pl hk hn _ _ (at0_pl hw) fun i hi=>List.mem_range.1 hi
theorem rcs_at {w:World} {v:Value} {rs:List Rc} {F:Nat→Prop} (h:SlOf RRc 4 F w v rs) {i:Nat} {r:Rc} (hi:rs[i]?=some r):∃ ib io cap,v=J (some ⟨ib,io,none⟩) rs.length cap∧rs.length≤cap∧cap≤maxLen∧∀ j u,(cl4 r)[j]?=some u→w.cell? ⟨ib,io+i*4+j,none⟩=some u:=by
 obtain ⟨p,cap,hv,h1,h2,h3⟩:=h
 rcases h3 with h3|⟨ib,io,rfl,_,h3⟩
 ·subst h3;simp at hi
 ·obtain ⟨cs,_,hc,he⟩:=h3 i r hi;exact ⟨ib,io,cap,hv,h1,h2,fun j u hu=>hc j u (by rw [he.1];exact hu)⟩
theorem at14_c (D:Nat) (nv kv:Value) (nds:List Nd) (out place:Int) (want:Rc) (kn:List Rc) (w:World) (hg:Gr D w nv nds) (hD:D≤w.heap.size) (hnd:∀ i,i<nds.length→RaOk (nds.getD i Nd.none)) (hk:SlOf RRc 4 (·<w.heap.size) w kv kn) (hkl:kn.length=nds.length) (hkp:∀ r∈kn,RcP r) (hw:RcP want) (hn9:nds.length≤1000):
  Calls Tryz.prog 50 #[.agg #[nv,Y X out],rv want,kv,Y X place] w (PPost w (rv (atN nds out want kn place))):=by
 obtain ⟨tx0,ty0,tx1,ty1⟩:=want;obtain ⟨ga,gc,rfl⟩:=hg.isSl;obtain ⟨ka,kl,kc,rfl⟩:=sl_form hk;obtain ⟨n,hn⟩:∃ n,n=nds.length:=⟨_,rfl⟩;have HN:=H hn;have HG:Hid (∀ W,Below w.heap.size w W→Gr D W (J ga n gc) nds∧D≤W.heap.size):=fun W h=>⟨by rw [hn];exact hg.below h hD,L hD h.size⟩;have HK:Hid (∀ W,Below w.heap.size w W→SlOf RRc 4 (·<W.heap.size) W (J ka kl kc) kn):=fun W h=>(hk.same RRc.ok (Same.of_below h fun b hb=>hb)).mono RRc.ok fun b hb=>G hb h.size;have HKN:Hid (kl=kn.length∧kn.length=nds.length):=⟨by obtain ⟨_,_,h2,_⟩:=hk;simp only [S] at h2;exact h2.2.1,hkl⟩;have HP:Hid ((∀ i,i<nds.length→RaOk (nds.getD i Nd.none))∧(∀ r∈kn,RcP r)∧RcP ⟨tx0,ty0,tx1,ty1⟩):=⟨hnd,hkp,hw⟩;rw [←hn] at hn9 ⊢;obtain ⟨T,hT⟩:∃ T,T=atN nds out ⟨tx0,ty0,tx1,ty1⟩ kn place:=⟨_,rfl⟩;have HT:=H hT;rw [←hT];have H0:Hid (Bag w ((((w.alloc (.cells #[J ga n gc,Y X out] 33)).alloc (.cells #[Y X tx0,Y X ty0,Y X tx1,Y X ty1] 25)).alloc (.cells #[Y X 0,Y X 0,Y X 0,Y X 0] 25)).alloc (.cells #[Y X 0,Y X 0,Y X 0,Y X 0] 25)) [(w.heap.size,[J ga n gc,Y X out]),(w.heap.size+1,(qI tx0 ty0 tx1 ty1)),(w.heap.size+1+1,zI),(w.heap.size+1+1+1,cl4 Rc.zero)]):=bag4 w [J ga n gc,Y X out] (qI tx0 ty0 tx1 ty1) zI (cl4 Rc.zero) _ _ _ _;have HJ:Hid (∀ W,Calls Tryz.prog 81 #[rv ⟨tx0,ty0,tx1,ty1⟩,rv Rc.zero] W (PPost W (rv (joinR ⟨tx0,ty0,tx1,ty1⟩ Rc.zero)))):=fun W=>rjoin_c _ _ W;clear hg hD hnd hk hkl hkp hw hn hT;go_enter Tryz.func50,Tryz.ntmps50;go_upto_region 2 with fail;generalize ((((w.alloc (.cells #[J ga n gc,Y X out] 33)).alloc (.cells #[Y X tx0,Y X ty0,Y X tx1,Y X ty1] 25)).alloc (.cells #[Y X 0,Y X 0,Y X 0,Y X 0] 25)).alloc (.cells #[Y X 0,Y X 0,Y X 0,Y X 0] 25))=W0 at *;have hstart:∃ (O:Rc),O=at0 out ⟨tx0,ty0,tx1,ty1⟩ place:=⟨_,rfl⟩;obtain ⟨O0,hO0⟩:=hstart;have HO0:=H hO0;clear hO0;have g1:=H0.o.cell 0 rfl 1 rfl
 go_upto_if 17 with fail
 go_cut [10] from 11 (fun _ wx=>Bag w wx [(w.heap.size,[J ga n gc,Y X out]),(w.heap.size+1,(qI tx0 ty0 tx1 ty1)),(w.heap.size+1+1,zI),(w.heap.size+1+1+1,cl4 O0)])
 case first=>
  by_cases hpo:place=out
  ·have dq:(place==out)=true:=by simpa using hpo
   have HOE:Hid (O0=joinR ⟨tx0,ty0,tx1,ty1⟩ Rc.zero):=by
    have h:=HO0.o;unfold at0 at h;rw [if_pos hpo] at h;exact h
   clear hpo g1;obtain ⟨e0,e1,e2,e3⟩:=(H0.o.box 1 rfl).c4;obtain ⟨z0,z1,z2,z3⟩:=(H0.o.box 3 rfl).c4;go_wp2_with fail;refine (HJ.o _).mono ?_;rintro e' W1 ⟨rfl,hb1⟩;have H1:=H (H0.o.call hb1);obtain ⟨V,hV⟩:∃ V,V=joinR ⟨tx0,ty0,tx1,ty1⟩ Rc.zero:=⟨_,rfl⟩;rw [←hV];have HVE:Hid (O0=V):=by rw [hV];exact HOE.o
   clear hV hb1 e0 e1 e2 e3 z0 z1 z2 z3;obtain ⟨v0,v1,v2,v3⟩:=V;obtain ⟨z0,z1,z2,z3⟩:=(H1.o.box 3 rfl).c4;obtain ⟨f0,f1,f2,f3⟩:=(H1.o.box 3 rfl).f4;have H2:=H (H1.o.set4 3 rfl (Y X v0) (Y X v1) (Y X v2) (Y X v3));go_wp2_with fail;go_meet;rw [HVE.o];exact H2.o
  ·have dq:(place==out)=false:=by simpa using hpo
   have HOE:Hid (O0=Rc.zero):=by
    have h:=HO0.o;unfold at0 at h;rw [if_neg hpo] at h;exact h
   clear hpo;go_wp2_with fail;go_meet;rw [HOE.o];exact H0.o
 case rest=>
  have HC:=H hcut;clear hcut H0 g1 HJ;go_wp2_with fail;go_loopw [10,11,12] (fun iv _ _ wr=>∃ (i:Nat),i≤n∧iv=Y X i∧Bag w wr [(w.heap.size,[J ga n gc,Y X out]),(w.heap.size+1,(qI tx0 ty0 tx1 ty1)),(w.heap.size+1+1,zI),(w.heap.size+1+1+1,cl4 ((List.range i).foldl (atK nds kn place) O0))]) (fun iv _ _ _=>n-(intOf iv).toNat)
  case atStart=>exact ⟨0,by omega,rfl,HC.o⟩
  case round=>
   clear HC;obtain ⟨i,hi,rfl,hb⟩:=hrel;obtain ⟨Oi,hOi⟩:∃ O,O=(List.range i).foldl (atK nds kn place) O0:=⟨_,rfl⟩;rw [←hOi] at hb;have H1:=H hb;have HOi:=H hOi;clear hb hOi;have g0:=H1.o.cell 0 rfl 0 rfl;by_cases hil:i<n
   ·have HB1:Hid (Below w.heap.size w wr):=H1.o.below;have hin:i<nds.length:=by rw [←HN.o];exact hil
    obtain ⟨gb,go,gcap,ia,ic,pa,pc,hv,hbD,hcap,hcm,k0,k1,k2,s1,s2⟩:=(HG.o wr HB1.o).1.node (i:=i) hin;simp only [S] at hv;obtain ⟨rfl,hnn,rfl⟩:=hv;clear hnn;obtain ⟨op,hop⟩:∃ z,z=(nds.getD i Nd.none).op:=⟨_,rfl⟩;obtain ⟨ins,hins⟩:∃ z,z=(nds.getD i Nd.none).ins:=⟨_,rfl⟩;obtain ⟨p,hp⟩:∃ z,z=(nds.getD i Nd.none).p:=⟨_,rfl⟩;have HND:Hid (nds.getD i Nd.none=⟨op,ins,p⟩):=by
     have:nds.getD i Nd.none=⟨op,ins,p⟩:=by rw [hop,hins,hp]
     exact this
    rw [←hop] at k0;rw [←hins] at k1 s1;rw [←hp] at k2 s2;have HRA:Hid (RaOk ⟨op,ins,p⟩):=by
     have h1:=HP.o.1 i hin;rw [HND.o] at h1;exact h1
    obtain ⟨kr,hkr⟩:∃ r,kn[i]?=some r:=⟨_,M (by rw [HKN.o.2];exact hin)⟩;have HKR:Hid (kr=kn.getD i Rc.zero∧RcP kr):=⟨by rw [List.getD_eq_getElem?_getD,hkr];rfl,HP.o.2.1 kr (C hkr)⟩;obtain ⟨kb,ko,kcap,hkv,hkcap,hkcm,hkc⟩:=rcs_at (HK.o wr HB1.o) hkr;simp only [S] at hkv;obtain ⟨rfl,hkn,rfl⟩:=hkv;have hkl2:(i:Int)<(kl:Int):=by rw [HKN.o.1,HKN.o.2,←HN.o];omega
    have hkc2:kl≤kc:=by rw [HKN.o.1];exact hkcap
    clear hkn hkr;obtain ⟨r0,r1,r2,r3⟩:=kr;obtain ⟨m,hm⟩:∃ m,m=ins.length:=⟨_,rfl⟩;obtain ⟨pl,hpl⟩:∃ m,m=p.length:=⟨_,rfl⟩;have HM:Hid (m=ins.length∧pl=p.length):=⟨hm,hpl⟩;have hm8:m≤8:=by rw [hm];exact HRA.o.few
    rw [←hm] at k1;rw [←hpl] at k2;have HS:Hid (SlOf RInt 1 (·<D) wr (J ia ins.length ic) ins∧SlOf RInt 1 (·<D) wr (J pa p.length pc) p):=⟨s1,s2⟩;obtain ⟨Z,hZ⟩:∃ Z,Z=rofR ⟨op,ins,p⟩ ⟨r0,r1,r2,r3⟩:=⟨_,rfl⟩;have HZ:Hid (Z=rofR (nds.getD i Nd.none) (kn.getD i Rc.zero)∧RcP Z):=⟨by rw [HND.o,←HKR.o.1];exact hZ,by rw [hZ];exact rofR_pl HRA.o HKR.o.2⟩;have HOF:Hid (∀ W,Below wr.heap.size wr W→Calls Tryz.prog 52 #[.agg #[Y X op,J ia m ic,J pa pl pc],rv ⟨r0,r1,r2,r3⟩] W (Of3Post W m Z)):=fun W h=>by
     have hDw:∀ b,b<D→b<W.heap.size:=fun b hb=>G hb (L (HG.o wr HB1.o).2 h.size);have hsm:Same (·<D) wr W:=Same.of_below h fun b hb=>G hb (HG.o wr HB1.o).2;have hr:=of14r_c op (J ia m ic) (J pa pl pc) ins p ⟨r0,r1,r2,r3⟩ W HRA.o (by rw [HM.o.1];exact (HS.o.1.same RInt.ok hsm).mono RInt.ok hDw) (by rw [HM.o.2];exact (HS.o.2.same RInt.ok hsm).mono RInt.ok hDw) HKR.o.2;rw [hZ,HM.o.1];rw [HM.o.1] at hr;exact hr
    obtain ⟨ia',ic',hv2,hicap,hicm,hin2,hcell⟩:=s1.ints;cases hv2
    have HIC:Hid (m≤ic∧ic≤9223372036854775807∧∀ (W:World),Below w.heap.size w W→∀ j:Nat,j<ins.length→∃ b o,ia=some ⟨b,o,none⟩∧W.cell? ⟨b,o+j,none⟩=some (Y X (ins.getD j 0))):=⟨by rw [HM.o.1];exact hicap,hicm,fun W hb j hj=>by
     obtain ⟨b',o',h1,h2,h3⟩:=hcell j hj;refine ⟨b',o',h1,?_⟩;rw [hb.cell (show b'<w.heap.size from G h2 (HG.o w (Below.refl _ _)).2),←HB1.o.cell (show b'<w.heap.size from G h2 (HG.o w (Below.refl _ _)).2)];exact h3 j hj⟩
    have HNC:Hid (∀ (W:World),Below w.heap.size w W→W.cell? ⟨gb,go+i*3+1,none⟩=some (J ia m ic)):=fun W hb=>by
     rw [hb.cell (show gb<w.heap.size from G hbD (HG.o w (Below.refl _ _)).2),←HB1.o.cell (show gb<w.heap.size from G hbD (HG.o w (Below.refl _ _)).2)];exact k1
    have hi0:(0:Int)≤(i:Int):=by omega
    have hi1:(i:Int)<(n:Int):=by omega
    have hgc:n≤gc:=by rw [HN.o];exact hcap
    unfold maxLen at hcm hkcm;have c0:wr.cell? ⟨kb,ko+i*4,none⟩=some (Y X r0):=hkc 0 _ rfl;have c1:wr.cell? ⟨kb,ko+i*4+1,none⟩=some (Y X r1):=hkc 1 _ rfl;have c2:wr.cell? ⟨kb,ko+i*4+2,none⟩=some (Y X r2):=hkc 2 _ rfl;have c3:wr.cell? ⟨kb,ko+i*4+3,none⟩=some (Y X r3):=hkc 3 _ rfl;clear s1 s2 hcell hin2 hop hins hp hm hpl hkc hZ hcap hkcap hicap hicm hin;have HX1:=H1.o.cell 3 rfl;clear HX1;go_wp2_with fail;obtain ⟨kk0,kk1,kk2,kg0,kc0,kc1,kc2,kc3⟩:=kept8 k0 k1 k2 g0 c0 c1 c2 c3;clear k0 k1 k2 g0 c0 c1 c2 c3;refine wp_region_kept_tail wr.heap.size 9 _ rfl (by kernel_rfl) (by kernel_rfl) ?_;simp only [U,E,I,Q]
    repeat (go_big_quiet_step (fail))
    refine wpQuiet_nil ?_;intro s;refine ⟨?_⟩;have H2:=H (H1.o.call s.below);clear kk0 kk1 kk2 kg0 kc0 kc1 kc2 kc3;go_wp2_with fail
    (with_reducible refine (HOF.o _ s.below).mono ?_);rintro e' W3 ⟨la,lc,rfl,hb3,ho3⟩
    have H3:=H (H2.o.call hb3);have HB3:Hid (Below wr.heap.size wr W3):=s.below.trans (hb3.mono s.below.size);have HW3:Hid (wr.heap.size≤s.w.heap.size):=s.below.size;have HO3:=H ho3;have HBB:Hid (∀ p∈([(w.heap.size,[J (some ⟨gb,go,none⟩) n gc,Y X out]),(w.heap.size+1,(qI tx0 ty0 tx1 ty1)),(w.heap.size+1+1,zI),(w.heap.size+1+1+1,cl4 Oi)]:List (Nat×List Value)),p.1<s.w.heap.size):=H2.o.lt;clear hb3 ho3 HOF H1 H2;obtain ⟨w5,hw5⟩:∃ w5,w5=wr:=⟨_,rfl⟩;subst hw5;obtain ⟨D2,hD2⟩:∃ D2,D2=s.w.heap.size:=⟨_,rfl⟩;rw [←hD2] at HO3 HBB HW3;clear hD2;go_wp2_with fail;go_loopw [12] (fun jv wr=>∃ (j:Nat),j≤m∧jv=Y X j∧Bag w wr [(w.heap.size,[J (some ⟨gb,go,none⟩) n gc,Y X out]),(w.heap.size+1,(qI tx0 ty0 tx1 ty1)),(w.heap.size+1+1,zI),(w.heap.size+1+1+1,cl4 ((ins.take j).foldl (atS place Z) Oi))]∧wr.ownsRow D2 25 4 (J la m lc) m (rcs (A m Z))) (fun jv _=>m-(intOf jv).toNat)
    case atStart=>exact ⟨0,by omega,rfl,H3.o,HO3.o⟩
    case round=>
     clear HB3 H3 HO3;obtain ⟨j,hj,rfl,hb,ho⟩:=hrel;obtain ⟨O,hO⟩:∃ O,O=(ins.take j).foldl (atS place Z) Oi:=⟨_,rfl⟩;rw [←hO] at hb;have HO:=H hO;have H4:=H hb;have HW:Hid (Below w.heap.size w wr):=H4.o.below;have HR:=H ho;clear hO hb ho;obtain ⟨o0,o1,o2,o3⟩:=O;by_cases hjl:j<m
     ·obtain ⟨b',o',hia,hcx⟩:=HIC.o.2.2 wr HW.o j (by rw [←HM.o.1];exact hjl);subst hia;obtain ⟨x,hx⟩:∃ x,x=ins.getD j 0:=⟨_,rfl⟩;rw [←hx] at hcx;have hXx:(ins.take (j+1)).foldl (atS place Z) Oi=atS place Z ⟨o0,o1,o2,o3⟩ x:=by
       have h1:ins[j]?=some x:=by
        have h2:j<ins.length:=by rw [←HM.o.1];exact hjl
        rw [hx];simp [h2]
       rw [List.take_add_one,h1,List.foldl_append,HO.o];rfl
      have HX:=H hXx;clear hXx;have n1:=HNC.o wr HW.o;have g0:=H4.o.cell 0 rfl 0 rfl;have hj0:(0:Int)≤(j:Int):=by omega
      have hj1:(j:Int)<(m:Int):=by omega
      have hic1:m≤ic:=HIC.o.1;have hic2:ic≤9223372036854775807:=HIC.o.2.1;clear hx;by_cases hxp:x=place
      ·have dx:(x==place)=true:=by simpa using hxp
       obtain ⟨V,hV⟩:∃ V,V=joinR ⟨o0,o1,o2,o3⟩ Z:=⟨_,rfl⟩;have HJN:Hid (∀ W,Calls Tryz.prog 81 #[rv ⟨o0,o1,o2,o3⟩,rv Z] W (PPost W (rv V))):=fun W=>by rw [hV];exact rjoin_c _ _ W
       have HVE:Hid ((ins.take (j+1)).foldl (atS place Z) Oi=V):=by
        have h:=HX.o;unfold atS at h;rw [if_pos hxp] at h;rw [hV];exact h
       obtain ⟨lb,lo,lcap,hlv,hlcap,hlcm,hlc⟩:=rcs_at (own_rc (rs:=A m Z) (by rw [List.length_replicate];exact HR.o) (fun r hr=>by rw [(List.mem_replicate.1 hr).2];exact HZ.o.2)) (i:=j) (r:=Z) (by rw [List.getElem?_replicate,if_pos hjl]);simp only [S] at hlv;obtain ⟨rfl,hln,rfl⟩:=hlv;clear hln;rw [List.length_replicate] at hlcap;unfold maxLen at hlcm;clear hV hxp;obtain ⟨v0,v1,v2,v3⟩:=V;obtain ⟨z0,z1,z2,z3⟩:=Z;have c0:wr.cell? ⟨lb,lo+j*4,none⟩=some (Y X z0):=hlc 0 _ rfl;have c1:wr.cell? ⟨lb,lo+j*4+1,none⟩=some (Y X z1):=hlc 1 _ rfl;have c2:wr.cell? ⟨lb,lo+j*4+2,none⟩=some (Y X z2):=hlc 2 _ rfl;have c3:wr.cell? ⟨lb,lo+j*4+3,none⟩=some (Y X z3):=hlc 3 _ rfl;obtain ⟨d0,d1,d2,d3⟩:=(H4.o.box 3 rfl).c4;clear hlc;go_wp2_with fail;obtain ⟨kc0,kc1,kc2,kc3,kd0,kd1,kd2,kd3⟩:=kept8 c0 c1 c2 c3 d0 d1 d2 d3;clear c0 c1 c2 c3 d0 d1 d2 d3;refine wp_region_kept_tail wr.heap.size 6 _ rfl (by kernel_rfl) (by kernel_rfl) ?_;simp only [U,E,I,Q]
       repeat (go_big_quiet_step (first
        |(go_at_call 81;with_reducible exact Calls.kept _ (N _) (HJN.o _))))
       refine wpQuiet_nil ?_;intro s2;refine ⟨?_⟩;have H5:=H (H4.o.call s2.below);have HF:Hid (Bag w ((((s2.w.setCell ⟨w.heap.size+1+1+1,0,none⟩ (Y X v0)).setCell ⟨w.heap.size+1+1+1,1,none⟩ (Y X v1)).setCell ⟨w.heap.size+1+1+1,2,none⟩ (Y X v2)).setCell ⟨w.heap.size+1+1+1,3,none⟩ (Y X v3)) [(w.heap.size,[J (some ⟨gb,go,none⟩) n gc,Y X out]),(w.heap.size+1,(qI tx0 ty0 tx1 ty1)),(w.heap.size+1+1,zI),(w.heap.size+1+1+1,(qI v0 v1 v2 v3))]∧((((s2.w.setCell ⟨w.heap.size+1+1+1,0,none⟩ (Y X v0)).setCell ⟨w.heap.size+1+1+1,1,none⟩ (Y X v1)).setCell ⟨w.heap.size+1+1+1,2,none⟩ (Y X v2)).setCell ⟨w.heap.size+1+1+1,3,none⟩ (Y X v3)).ownsRow D2 25 4 (J (some ⟨lb,lo,none⟩) m lc) m (rcs (A m ⟨z0,z1,z2,z3⟩))):=by
        have h3:w.heap.size+1+1+1<D2:=HBB.o (w.heap.size+1+1+1,cl4 Oi) (by simp);refine ⟨H5.o.set4 3 rfl _ _ _ _,?_⟩
        ·exact owns_set (owns_set (owns_set (owns_set (owns_below HR.o s2.below (N _)) (by exact h3) _) (by exact h3) _) (by exact h3) _) (by exact h3) _
       have y0:=H5.o.cell 3 rfl 0 rfl;have yf0:=H5.o.frozen 3 rfl 0;have y1:=H5.o.cell 3 rfl 1 rfl;have yf1:=H5.o.frozen 3 rfl 1;have y2:=H5.o.cell 3 rfl 2 rfl;have yf2:=H5.o.frozen 3 rfl 2;have y3:=H5.o.cell 3 rfl 3 rfl;have yf3:=H5.o.frozen 3 rfl 3;clear kc0 kc1 kc2 kc3 kd0 kd1 kd2 kd3 HJN H4 H5 HR n1 g0 hcx;go_wp2_with fail;go_roundw
       case rel=>exact ⟨j+1,by omega,by go_num,by rw [HVE.o];exact HF.o.1,HF.o.2⟩
       case measure=>simp [intOf];omega
      ·have dx:(x==place)=false:=by simpa using hxp
       have HVE:Hid ((ins.take (j+1)).foldl (atS place Z) Oi=⟨o0,o1,o2,o3⟩):=by
        have h:=HX.o;unfold atS at h;rw [if_neg hxp] at h;exact h
       clear hxp;go_wp2_with fail;go_roundw
       case rel=>exact ⟨j+1,by omega,by go_num,by rw [HVE.o];exact H4.o,HR.o⟩
       case measure=>simp [intOf];omega
     ·obtain rfl:j=m:=by omega
      have HE:Hid ((List.range (i+1)).foldl (atK nds kn place) O0=⟨o0,o1,o2,o3⟩):=by
       have h1:=HO.o;rw [HM.o.1,List.take_length] at h1;rw [List.range_succ,List.foldl_append,←HOi.o];show atK nds kn place Oi i=_;unfold atK;rw [←HZ.o.1,HND.o];exact h1.symm
      go_wp2_with fail;go_roundw
      case rel=>exact ⟨i+1,by omega,by go_num,by rw [HE.o];exact H4.o⟩
      case measure=>simp [intOf];omega
   ·obtain rfl:i=n:=by omega
    have HTE:Hid (T=Oi):=by rw [HT.o,HOi.o,HN.o,HO0.o];rfl
    obtain ⟨o0,o1,o2,o3⟩:=Oi;have d0:=H1.o.cell 3 rfl 0 rfl;have r0:=H1.o.cell 2 rfl 0 rfl;have f0:=H1.o.frozen 2 rfl 0;have d1:=H1.o.cell 3 rfl 1 rfl;have r1:=H1.o.cell 2 rfl 1 rfl;have f1:=H1.o.frozen 2 rfl 1;have d2:=H1.o.cell 3 rfl 2 rfl;have r2:=H1.o.cell 2 rfl 2 rfl;have f2:=H1.o.frozen 2 rfl 2;have d3:=H1.o.cell 3 rfl 3 rfl;have r3:=H1.o.cell 2 rfl 3 rfl;have f3:=H1.o.frozen 2 rfl 3;go_wp2_with fail;have h4:=H1.o.set4 2 rfl (Y X o0) (Y X o1) (Y X o2) (Y X o3);exact ret_rect (r:=⟨o0,o1,o2,o3⟩) rfl rfl (h4.box 2 rfl) rfl ⟨by rw [HTE.o],h4.below⟩
def knS (nds:List Nd) (out:Int) (want:Rc) (k:Nat) (kn:List Rc):List Rc:=kn.set k (atN nds out want kn (k:Int))
def knL (nds:List Nd) (out:Int) (want:Rc) (o:List Nat):List Rc:=o.foldr (knS nds out want) (A nds.length Rc.zero)
def srcN (g:Fg) (want:Rc):Rc:=atN g.nds g.out want (knL g.nds g.out want (ord (insOf g.nds))) (-1)
theorem knL_len (nds:List Nd) (out:Int) (want:Rc):∀ o:List Nat,(knL nds out want o).length=nds.length
 |[]=>by simp [knL]
 |k::o=>by
  show (knS nds out want k (knL nds out want o)).length=_;unfold knS;rw [List.length_set];exact knL_len nds out want o
theorem knL_pl {nds:List Nd} {out:Int} {want:Rc} (hw:RcP want) (hn:∀ i,i<nds.length→RaOk (nds.getD i Nd.none)):∀ (o:List Nat),∀ r∈knL nds out want o,RcP r
 |[],r,hr=>by
  unfold knL at hr;rw [List.foldr_nil] at hr;rw [(List.mem_replicate.1 hr).2];exact zero_pl
 |k::o,r,hr=>by
  have hr':r∈(knL nds out want o).set k (atN nds out want (knL nds out want o) (k:Int)):=hr
  rcases List.mem_or_eq_of_mem_set hr' with h|rfl
  ·exact knL_pl hw hn o r h
  ·exact atN_pl hw (knL_pl hw hn o) hn
theorem sl_of_box {W:World} {K:Nat} {vs:List Rc} (h:Box W K (rcs vs)) (hp:∀ r∈vs,RcP r) (hm:vs.length≤maxLen):SlOf RRc 4 (·<W.heap.size) W (J (some ⟨K,0,none⟩) vs.length vs.length) vs:=by
 refine ⟨_,_,rfl,N _,hm,.inr ⟨K,0,rfl,h.lt,fun i r hi=>?_⟩⟩;have hr:=hp r (C hi);obtain ⟨k0,k1,k2,k3⟩:=rbox_get h hi;refine ⟨_,rfl,fun j u hu=>?_,rfl,in_pl hr.1,in_pl hr.2.1,in_pl hr.2.2.1,in_pl hr.2.2.2⟩;rw [Nat.zero_add]
 match j,hu with
 |0,hu=>simp at hu;subst hu;exact k0
 |1,hu=>simp at hu;subst hu;exact k1
 |2,hu=>simp at hu;subst hu;exact k2
 |3,hu=>simp at hu;subst hu;exact k3
 |j+4,hu=>simp at hu
def AlPost3 (w:World) (r:Rc) (e:Ending) (w':World):Prop:=∃ v,e=.returned (.tuple #[v,rv r])∧Below w.heap.size w w'
theorem all14r_c (D:Nat) (nv:Value) (g:Fg) (want:Rc) (w:World) (hg:GoodR g) (hgr:Gr D w nv g.nds) (hD:D≤w.heap.size) (hw:RcP want):
  Calls Tryz.prog 21 #[.agg #[nv,Y X g.out],rv want] w (AlPost3 w (srcN g want)):=by
 obtain ⟨nds,out⟩:=g;obtain ⟨tx0,ty0,tx1,ty1⟩:=want;obtain ⟨ga,gc,rfl⟩:=hgr.isSl;obtain ⟨iR,hiR,hz0,hz1,hz2⟩:=info_parts infoRc;obtain ⟨n,hn⟩:∃ n,n=nds.length:=⟨_,rfl⟩;have HN:=H hn;have HG:Hid (∀ W,Below w.heap.size w W→Gr D W (J ga n gc) nds∧D≤W.heap.size):=fun W h=>⟨by rw [hn];exact hgr.below h hD,L hD h.size⟩;have hn100:n≤100:=by rw [hn];exact hg.gn.few
 have HP:Hid ((∀ i,i<nds.length→RaOk (nds.getD i Nd.none))∧RcP ⟨tx0,ty0,tx1,ty1⟩∧GoodN nds out):=⟨hg.ra,hw,hg.gn⟩;obtain ⟨ol,hol⟩:∃ o,o=ord (insOf nds):=⟨_,rfl⟩;have HOL:Hid (ol=ord (insOf nds)∧0<ol.length∧∀ k∈ol,k<nds.length):=by
  refine ⟨hol,?_,fun k hk=>by rw [hol] at hk;have:=(ord_fine (insOf nds)).bound k hk;rwa [insOf_len] at this⟩;have h1:=hg.acy;have h2:=hg.gn.pos;rw [hol];dsimp only at *;omega
 obtain ⟨T,hT⟩:∃ T,T=srcN ⟨nds,out⟩ ⟨tx0,ty0,tx1,ty1⟩:=⟨_,rfl⟩;have HT:Hid (T=atN nds out ⟨tx0,ty0,tx1,ty1⟩ (knL nds out ⟨tx0,ty0,tx1,ty1⟩ ol) (-1)):=by rw [hT,hol];exact H rfl
 rw [←hT];have H0:Hid (Bag w (((w.alloc (.cells #[J ga n gc,Y X out] 33)).alloc (.cells #[Y X tx0,Y X ty0,Y X tx1,Y X ty1] 25)).alloc (.cells #[Y X 0,Y X 0,Y X 0,Y X 0] 25)) [(w.heap.size,[J ga n gc,Y X out]),(w.heap.size+1,(qI tx0 ty0 tx1 ty1)),(w.heap.size+1+1,zI)]):=bag3 w [J ga n gc,Y X out] (qI tx0 ty0 tx1 ty1) zI _ _ _;have HL:Hid (∀ W,Bag w W [(w.heap.size,[J ga n gc,Y X out]),(w.heap.size+1,(qI tx0 ty0 tx1 ty1)),(w.heap.size+1+1,zI)]→w.heap.size+3≤W.heap.size):=fun W h=>by
  have:=h.lt (w.heap.size+1+1,zI) (by simp);dsimp only at this;omega
 dsimp only;rw [←hn];clear hg hgr hD hw hn hol hT;go_enter Tryz.func21,Tryz.ntmps21
 go_wp2_with (at_make;(refine wpList_make_full _ rfl _ _ 59 rfl (w.heap.size+3) 25 iR (.agg #[Y X 0,Y X 0,Y X 0,Y X 0]) 4 Tryz.underlying59 hiR hz0 hz1 .i64 .i64 _ _ n rfl rfl rfl rfl (by rw [hz2];omega) (by unfold maxLen;omega) (by simp) ?_;intro w2 hown2 hgrow2;have H2:Hid (Bag w w2 [(w.heap.size,[J ga n gc,Y X out]),(w.heap.size+1,(qI tx0 ty0 tx1 ty1)),(w.heap.size+1+1,zI),(w.heap.size+1+1+1,rcs (A n Rc.zero))]):=(H0.o.made hgrow2).add (b:=w.heap.size+1+1+1) (cs:=rcs (A n Rc.zero)) (by rw [←rcs_zero];exact box_own4 (by simpa using hown2)) (by omega) (by simp;omega);clear hown2 hgrow2 H0;have a0:=H2.o.cell 0 rfl 0 rfl;have a1:=H2.o.cell 0 rfl 1 rfl))
 have H2':Hid (w.heap.size+4≤w2.heap.size):=by
  have:=H2.o.lt (w.heap.size+1+1+1,rcs (A n Rc.zero)) (by simp);dsimp only at this;have h:w.heap.size+4≤w2.heap.size:=by omega
  exact h
 refine (rall_c D _ nds out w2 (by rw [←HN.o];omega) HP.o.2.2.short (by have:=(HG.o w2 H2.o.below).1;exact this) (HG.o w2 H2.o.below).2).mono ?_;rintro e' W3 ⟨oa,oc,rfl,hown3,hb3⟩;rw [←HOL.o.1] at hown3 ⊢;obtain ⟨ob,rfl⟩:∃ ob,oa=some ⟨ob,0,none⟩:=by
  rcases hown3.form with ⟨_,h⟩|⟨g,cap,h1,_⟩
  ·have:ol.length=0:=by rw [←ofN_len,h];rfl
   have:=HOL.o.2.1;omega
  ·simp only [S] at h1;exact ⟨g,h1.1⟩
 obtain ⟨cur,hcur,htk,hob,hoc,hocm⟩:=own_box (OwnP.row (ofN_len ol) hown3);have HCU:Hid (∀ (i k:Nat),ol[i]?=some k→cur[i]?=some (Y X (k:Int))):=fun i k hi=>by
  have h1:((ofN ol).map (Value.int .i64))[i]?=some (Y X (k:Int)):=by unfold ofN;simp [hi]
  rw [←htk,List.getElem?_take] at h1
  split at h1
  ·exact h1
  ·cases h1
 obtain ⟨no,hno⟩:∃ no,no=ol.length:=⟨_,rfl⟩;have HNO:=H hno;have H3:Hid (Bag w W3 [(w.heap.size,[J ga n gc,Y X out]),(w.heap.size+1,(qI tx0 ty0 tx1 ty1)),(w.heap.size+1+1,zI),(w.heap.size+1+1+1,rcs (knL nds out ⟨tx0,ty0,tx1,ty1⟩ (ol.drop no))),(ob,cur)]):=by
  have hx:=(H2.o.call hb3).add hcur (by have:=H2'.o;omega) (fun p hp=>by have:=H2.o.lt p hp;omega);have e:knL nds out ⟨tx0,ty0,tx1,ty1⟩ (ol.drop no)=A n Rc.zero:=by rw [hno,List.drop_length,HN.o];rfl
  rw [e];exact hx
 have hnp:0<no:=by rw [hno];exact HOL.o.2.1
 rw [←hno] at hoc ⊢;unfold maxLen at hocm;clear a0 a1 hown3 hb3 hcur htk hob H2 H2' hno HL;go_wp2_with fail;go_loopw [8] (fun jv wr=>∃ (r:Nat) (q:Int),r≤no∧q=(r:Int)-1∧jv=Y X q∧Bag w wr [(w.heap.size,[J ga n gc,Y X out]),(w.heap.size+1,(qI tx0 ty0 tx1 ty1)),(w.heap.size+1+1,zI),(w.heap.size+1+1+1,rcs (knL nds out ⟨tx0,ty0,tx1,ty1⟩ (ol.drop r))),(ob,cur)]) (fun jv _=>(intOf jv+1).toNat)
 case atStart=>exact ⟨no,(no:Int)-1,by omega,rfl,by go_num,H3.o⟩
 case round=>
  clear H3;obtain ⟨r,q,hr,hq,rfl,hb⟩:=hrel;obtain ⟨vs,hvs⟩:∃ vs,vs=knL nds out ⟨tx0,ty0,tx1,ty1⟩ (ol.drop r):=⟨_,rfl⟩;rw [←hvs] at hb;have H4:=H hb;have HVS:Hid (vs=knL nds out ⟨tx0,ty0,tx1,ty1⟩ (ol.drop r)∧vs.length=n∧∀ q∈vs,RcP q):=⟨hvs,by rw [hvs,knL_len,HN.o],by rw [hvs];exact knL_pl HP.o.2.1 HP.o.1 _⟩;have HSL:Hid (∀ W,Below wr.heap.size wr W→SlOf RRc 4 (·<W.heap.size) W (J (some ⟨w.heap.size+1+1+1,0,none⟩) n n) vs):=fun W h=>by
   have h1:=sl_of_box ((H4.o.call h).box 3 rfl) HVS.o.2.2 (by rw [HVS.o.2.1];unfold maxLen;omega);rw [HVS.o.2.1] at h1;exact h1
  clear hb hvs;by_cases hr0:0<r
  ·obtain ⟨i,hi⟩:∃ i,r=i+1:=⟨r-1,by omega⟩;obtain rfl:q=(i:Int):=by omega
   have hil:i<no:=by omega
   obtain ⟨k,hk⟩:∃ k,ol[i]?=some k:=⟨_,M (by rw [←HNO.o];exact hil)⟩;have hkn:k<n:=by rw [HN.o];exact HOL.o.2.2 k (C hk)
   have HDR:Hid (knL nds out ⟨tx0,ty0,tx1,ty1⟩ (ol.drop i)=vs.set k (atN nds out ⟨tx0,ty0,tx1,ty1⟩ vs (k:Int))):=by
    have h1:ol.drop i=k::ol.drop r:=by
     rw [hi];rw [List.drop_eq_getElem_cons (by rw [←HNO.o];exact hil)];rw [M (by rw [←HNO.o];exact hil)] at hk;cases hk
     rfl
    rw [h1,HVS.o.1];exact H rfl
   obtain ⟨z,hz⟩:∃ z,z=atN nds out ⟨tx0,ty0,tx1,ty1⟩ vs (k:Int):=⟨_,rfl⟩;have HAT:Hid (∀ W,Below wr.heap.size wr W→Calls Tryz.prog 50 #[.agg #[J ga n gc,Y X out],rv ⟨tx0,ty0,tx1,ty1⟩,J (some ⟨w.heap.size+1+1+1,0,none⟩) n n,Y X (k:Int)] W (PPost W (rv z))):=fun W h=>by
    have hbw:=H4.o.below.trans (h.mono H4.o.below.size);rw [hz];exact at14_c D _ _ nds out (k:Int) ⟨tx0,ty0,tx1,ty1⟩ vs W (HG.o W hbw).1 (HG.o W hbw).2 HP.o.1 (HSL.o W h) (by rw [HVS.o.2.1,HN.o]) HVS.o.2.2 HP.o.2.1 (by rw [←HN.o];omega)
   have HZ:Hid (knL nds out ⟨tx0,ty0,tx1,ty1⟩ (ol.drop i)=vs.set k z):=by rw [hz];exact HDR
   have d0:=H4.o.cell 4 rfl i (HCU.o i k hk);obtain ⟨zo,hzo⟩:∃ z,vs[k]?=some z:=⟨_,M (by rw [HVS.o.2.1];exact hkn)⟩;have HZO:=H hzo;have hi0:(0:Int)≤(i:Int):=by omega
   have hi1:(i:Int)<(no:Int):=by omega
   have hk0:(0:Int)≤(k:Int):=by omega
   have hk1:(k:Int)<(n:Int):=by omega
   clear hz hk hi hq hzo hr0 hr HDR;obtain ⟨z0,z1,z2,z3⟩:=z;obtain ⟨g0,g1⟩:=(H4.o.box 0 rfl).c2;obtain ⟨e0,e1,e2,e3⟩:=(H4.o.box 1 rfl).c4;go_wp2_with fail;obtain ⟨kd0,kg0,kg1,ke0,ke1,ke2,ke3⟩:=kept7 d0 g0 g1 e0 e1 e2 e3;clear d0 g0 g1 e0 e1 e2 e3;refine wp_region_kept_tail wr.heap.size 14 _ rfl (by kernel_rfl) (by kernel_rfl) ?_;simp only [U,E,I,Q]
   repeat (go_big_quiet_step (first
    |(go_at_call 50;with_reducible exact Calls.kept _ (N _) (HAT.o _ (Kept.below _)))))
   refine wpQuiet_nil ?_;intro s;refine ⟨?_⟩;have H5:=H (H4.o.call s.below);have HF:Hid (Bag w ((((s.w.setCell ⟨w.heap.size+1+1+1,k*4,none⟩ (Y X z0)).setCell ⟨w.heap.size+1+1+1,k*4+1,none⟩ (Y X z1)).setCell ⟨w.heap.size+1+1+1,k*4+2,none⟩ (Y X z2)).setCell ⟨w.heap.size+1+1+1,k*4+3,none⟩ (Y X z3)) [(w.heap.size,[J ga n gc,Y X out]),(w.heap.size+1,(qI tx0 ty0 tx1 ty1)),(w.heap.size+1+1,zI),(w.heap.size+1+1+1,rcs (knL nds out ⟨tx0,ty0,tx1,ty1⟩ (ol.drop i))),(ob,cur)]):=by
    rw [HZ.o];exact bag_setR H5.o 3 rfl k ⟨z0,z1,z2,z3⟩
   obtain ⟨a0',a1',a2',a3'⟩:=rbox_get (H5.o.box 3 rfl) HZO.o;have f0:=H5.o.frozen 3 rfl (k*4);have f1:=H5.o.frozen 3 rfl (k*4+1);have f2:=H5.o.frozen 3 rfl (k*4+2);have f3:=H5.o.frozen 3 rfl (k*4+3);clear kd0 kg0 kg1 ke0 ke1 ke2 ke3 H4 H5 HAT HSL;go_wp2_with fail;go_roundw
   case rel=>exact ⟨i,(i:Int)-1,by omega,rfl,by go_num,HF.o⟩
   case measure=>simp [intOf]
  ·obtain rfl:r=0:=by omega
   obtain rfl:q = -1:=by omega
   clear hq hr hr0;have HVE:Hid (T=atN nds out ⟨tx0,ty0,tx1,ty1⟩ vs (-1)):=by rw [HT.o,HVS.o.1,Q];exact H rfl
   have HAT:Hid (Calls Tryz.prog 50 #[.agg #[J ga n gc,Y X out],rv ⟨tx0,ty0,tx1,ty1⟩,J (some ⟨w.heap.size+1+1+1,0,none⟩) n n,Y X (-1)] wr (PPost wr (rv T))):=by
    rw [HVE.o];exact at14_c D _ _ nds out (-1) ⟨tx0,ty0,tx1,ty1⟩ vs wr (HG.o wr H4.o.below).1 (HG.o wr H4.o.below).2 HP.o.1 (HSL.o wr (Below.refl _ _)) (by rw [HVS.o.2.1,HN.o]) HVS.o.2.2 HP.o.2.1 (by rw [←HN.o];omega)
   obtain ⟨g0,g1⟩:=(H4.o.box 0 rfl).c2;obtain ⟨e0,e1,e2,e3⟩:=(H4.o.box 1 rfl).c4;go_wp2_with fail
   (with_reducible refine HAT.o.mono ?_);rintro e' W6 ⟨rfl,hb6⟩
   have H6:=H (H4.o.call hb6);clear hb6 HAT g0 g1 e0 e1 e2 e3;obtain ⟨t0,t1,t2,t3⟩:=T;obtain ⟨r0,r1,r2,r3⟩:=(H6.o.box 2 rfl).c4;obtain ⟨f0,f1,f2,f3⟩:=(H6.o.box 2 rfl).f4;go_wp2_with fail;have h7:=H6.o.set4 2 rfl (Y X t0) (Y X t1) (Y X t2) (Y X t3);obtain ⟨tt,ht⟩:=h7.box 2 rfl;exact bodyPost_ret_by (results_tmp_cell rfl _ _ (w.heap.size+1+1) tt (cs4 t0 t1 t2 t3) (0,0) _ rfl ht Tryz.underlying25 rfl (by kernel_rfl)) rfl ⟨_,rfl,h7.below⟩
end Go.Proofs.YtgodhpampaleeaaGreatDoor
