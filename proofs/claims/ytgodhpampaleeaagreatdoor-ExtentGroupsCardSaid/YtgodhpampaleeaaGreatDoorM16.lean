/- Texts joined: Ua Ub. -/
import Derived.Test.YtgodhpampaleeaaGreatDoorM15
import Derived.Test.YtgodhpampaleeaaGreatDoorM02
import Derived.Test.YtgodhpampaleeaaGreatDoorM10
open Go.Value renaming int→Y,slice→J
open Go.IntKind renaming i64→X
open List renaming take_succ_cons→Z,take_zero→O,drop_succ_cons→U,drop_zero→V,getD_eq_getElem?_getD→T
open Nat renaming le_refl→E,lt_of_lt_of_le→I
open Go.Lib renaming hid→N
open Go.Value.slice renaming injEq→L
set_option maxRecDepth 8000
set_option maxHeartbeats 3200000
set_option linter.unusedVariables false
namespace Go.Proofs.YtgodhpampaleeaaGreatDoor
open Go.RowKit Go.Bx Go.Od Go.Hp
attribute [local go_sem ↓] Go.wp_at_zero Go.wp_at_succ
abbrev bf0:Bf:=⟨Rc.zero,[]⟩
structure DoIn (w:World) (iv pv v:Value) (P:List Int) (bs:List Bf) (r:Rc):Prop where
 iv:∃ a n c,iv=J a n c
 pv:SlOf RInt 1 (·<w.heap.size) w pv P
 v:SlOf RBf 5 (·<w.heap.size) w v bs
 pl:RcP r
 ar:areaR r≤2000000
 hf:HfB r
theorem do1_c (iv pv v:Value) (P:List Int) (bs:List Bf) (r:Rc) (w:World) (h:DoIn w iv pv v P bs r) (hl:0<bs.length) (hpl:2≤P.length) (hx : -4398046511104≤P.getD 0 0∧P.getD 0 0≤4398046511104) (hy : -4398046511104≤P.getD 1 0∧P.getD 1 0≤4398046511104):Calls Tryz.prog 53 #[.agg #[Y X 1,iv,pv],v,rv r] w (BPost w (PutB r (bs.getD 0 bf0) r (P.getD 0 0) (P.getD 1 0))):=by
 obtain ⟨⟨ia,il,ic,rfl⟩,hp,hv,hr,ha,hf⟩:=h;obtain ⟨tx0,ty0,tx1,ty1⟩:=r;obtain ⟨va,vn,vc,rfl⟩:=sl_form hv;obtain ⟨pa,pl,pc,rfl⟩:=sl_form hp;have HV:Hid (∀ W,Below w.heap.size w W→SlOf RBf 5 (·<W.heap.size) W (J va vn vc) bs):=fun W h=>bfs_below hv h;have HPL:Hid (∀ W,Below w.heap.size w W→SlOf RInt 1 (·<W.heap.size) W (J pa pl pc) P):=fun W h=>(hp.same RInt.ok (Same.of_below h fun b hb=>hb)).mono RInt.ok fun b hb=>I hb h.size;have HR:Hid (RcP ⟨tx0,ty0,tx1,ty1⟩∧areaR ⟨tx0,ty0,tx1,ty1⟩≤2000000∧HfB ⟨tx0,ty0,tx1,ty1⟩):=⟨hr,ha,hf⟩;have H0:Hid (Bag w (((w.alloc (.cells #[Y X 1,J ia il ic,J pa pl pc] 52)).alloc (.cells #[Y X tx0,Y X ty0,Y X tx1,Y X ty1] 25)).alloc (.cells #[Y X 0,Y X 0,Y X 0,Y X 0,J none 0 0] 43)) [(w.heap.size,[Y X 1,J ia il ic,J pa pl pc]),(w.heap.size+1,(qI tx0 ty0 tx1 ty1)),(w.heap.size+1+1,zS)]):=bag3 w [Y X 1,J ia il ic,J pa pl pc] (qI tx0 ty0 tx1 ty1) zS _ _ _;obtain ⟨Q,hQ⟩:∃ Q:Bf→Prop,Q=(PutB ⟨tx0,ty0,tx1,ty1⟩ (bs.getD 0 bf0) ⟨tx0,ty0,tx1,ty1⟩ (P.getD 0 0) (P.getD 1 0)):=⟨_,rfl⟩;have HQQ:=N hQ;rw [←hQ];clear hr ha hf hQ;go_enter Tryz.func53,Tryz.ntmps53;go_wp2_with fail;generalize (((w.alloc (.cells #[Y X 1,J ia il ic,J pa pl pc] 52)).alloc (.cells #[Y X tx0,Y X ty0,Y X tx1,Y X ty1] 25)).alloc (.cells #[Y X 0,Y X 0,Y X 0,Y X 0,J none 0 0] 43))=W0 at *;have HB0:Hid (Below w.heap.size w W0):=H0.o.below;obtain ⟨ib,io,cap,ba,bn,bc,hveq,hcap,hcm,hcs,hbB⟩:=bfs_at (HV.o W0 HB0.o) (bf_get (i:=0) (by omega));simp only [L] at hveq;obtain ⟨rfl,hnn,rfl⟩:=hveq;obtain ⟨b,hb⟩:∃ b,b=bs.getD 0 ⟨Rc.zero,[]⟩:=⟨_,rfl⟩;have HBE:=N hb;rw [←hb] at hcs hbB;clear hb;obtain ⟨⟨bx0,by0,bx1,by1⟩,bp⟩:=b;have HBB:=N hbB;have hvl0:(0:Int)<(vn:Int):=by omega
 have hcap2:vn≤vc:=by rw [hnn];exact hcap
 unfold maxLen at hcm;have g0:W0.cell? ⟨ib,io,none⟩=some (Y X bx0):=by have h:=hcs 0 _ rfl;simpa using h
 have g1:W0.cell? ⟨ib,io+1,none⟩=some (Y X by0):=by have h:=hcs 1 _ rfl;simpa using h
 have g2:W0.cell? ⟨ib,io+2,none⟩=some (Y X bx1):=by have h:=hcs 2 _ rfl;simpa using h
 have g3:W0.cell? ⟨ib,io+3,none⟩=some (Y X by1):=by have h:=hcs 3 _ rfl;simpa using h
 have g4:W0.cell? ⟨ib,io+4,none⟩=some (J ba bn bc):=by have h:=hcs 4 _ rfl;simpa using h
 clear hcs hbB hcap hnn;obtain ⟨qa,qc,hq0,hq1,hq2,_,hqc⟩:=(HPL.o W0 HB0.o).ints;simp only [L] at hq0;obtain ⟨rfl,hq3,rfl⟩:=hq0;obtain ⟨pb,po,rfl,_,hpc⟩:=hqc 0 (by omega);have hpl1:pl≤pc:=by omega
 unfold maxLen at hq2;obtain ⟨q0,hq0'⟩:∃ q,q=P.getD 0 0:=⟨_,rfl⟩;have m0:W0.cell? ⟨pb,po,none⟩=some (Y X q0):=by rw [hq0'];have h:=hpc 0 (by omega);simpa using h
 have hpi0:(0:Int)<(pl:Int):=by omega
 obtain ⟨q1,hq1'⟩:∃ q,q=P.getD 1 0:=⟨_,rfl⟩;have m1:W0.cell? ⟨pb,po+1,none⟩=some (Y X q1):=by rw [hq1'];have h:=hpc 1 (by omega);simpa using h
 have hpi1:(1:Int)<(pl:Int):=by omega
 have HQ0:=N hq0';have HQ1:=N hq1';clear hqc hpc hq1 hq3 hq0' hq1';obtain ⟨e0,e1,e2,e3⟩:=(H0.o.box 1 rfl).c4;obtain ⟨kg0,kg1,kg2,kg3,kg4,km0,km1,ke0⟩:=kept8 g0 g1 g2 g3 g4 m0 m1 e0;obtain ⟨ke1,ke2,ke3⟩:=kept3 e1 e2 e3;clear g0 g1 g2 g3 g4 m0 m1 e0 e1 e2 e3;refine wp_region_kept_tail W0.heap.size 10 _ rfl (by kernel_rfl) (by kernel_rfl) ?_;simp only [Z,O,U,V]
 repeat (go_big_quiet_step (fail))
 refine wpQuiet_nil ?_;intro s;refine ⟨?_⟩;have H1:=N (H0.o.call s.below);have HC:Hid (Calls Tryz.prog 84 #[.agg #[Y X bx0,Y X by0,Y X bx1,Y X by1,J ba bn bc],rv ⟨tx0,ty0,tx1,ty1⟩,Y X q0,Y X q1] s.w (BPost s.w (PutB ⟨tx0,ty0,tx1,ty1⟩ ⟨⟨bx0,by0,bx1,by1⟩,bp⟩ ⟨tx0,ty0,tx1,ty1⟩ q0 q1))):=offset10_c ⟨⟨bx0,by0,bx1,by1⟩,bp⟩ ⟨tx0,ty0,tx1,ty1⟩ q0 q1 ba bn bc s.w (HBB.o.below s.below) HR.o.1 HR.o.2.1 (by rw [HQ0.o];exact hx) (by rw [HQ1.o];exact hy);clear kg0 kg1 kg2 kg3 kg4 km0 km1 ke0 ke1 ke2 ke3 H0;go_wp2_with fail
 (with_reducible refine HC.o.mono ?_);rintro e' W2 ⟨⟨⟨ox0,oy0,ox1,oy1⟩,op⟩,oa,on,oc,rfl,hb2,hov,hq2⟩
 have H2:=N (H1.o.call hb2);have HO:Hid (BfV W2 ⟨⟨ox0,oy0,ox1,oy1⟩,op⟩ (J oa on oc)∧Q ⟨⟨ox0,oy0,ox1,oy1⟩,op⟩):=⟨hov,by rw [HQQ.o];rw [←HBE.o,←HQ0.o,←HQ1.o];exact hq2⟩;clear hb2 hov hq2 HC;obtain ⟨r0,r1,r2,r3,r4⟩:=(H2.o.box 2 rfl).c5;obtain ⟨f0,f1,f2,f3,f4⟩:=(H2.o.box 2 rfl).f5;go_wp2_with fail;have h3:=bag_set5 H2.o 2 rfl (Y X ox0) (Y X oy0) (Y X ox1) (Y X oy1) (J oa on oc);exact ret_bf (r:=⟨ox0,oy0,ox1,oy1⟩) (s:=J oa on oc) rfl rfl (h3.box 2 rfl) rfl ⟨⟨⟨ox0,oy0,ox1,oy1⟩,op⟩,oa,on,oc,rfl,h3.below,HO.o.1.set5 (H2.o.box 2 rfl) _ _ _ _ _,HO.o.2⟩
theorem do2_c (iv pv v:Value) (P:List Int) (bs:List Bf) (r:Rc) (w:World) (h:DoIn w iv pv v P bs r) (hl:0<bs.length) (hpl:2≤P.length) (hx:0≤P.getD 0 0∧P.getD 0 0≤255) (hy:0≤P.getD 1 0∧P.getD 1 0≤255) (hg:areaR (grow3R r 0 (P.getD 1 0) 0 (P.getD 1 0))≤2000000):Calls Tryz.prog 53 #[.agg #[Y X 2,iv,pv],v,rv r] w (BPost w (MadeB r fun x y p=>p≠Px.zero→NearB (bs.getD 0 bf0) (P.getD 0 0) (P.getD 1 0) x y)):=by
 obtain ⟨⟨ia,il,ic,rfl⟩,hp,hv,hr,ha,hf⟩:=h;obtain ⟨tx0,ty0,tx1,ty1⟩:=r;obtain ⟨va,vn,vc,rfl⟩:=sl_form hv;obtain ⟨pa,pl,pc,rfl⟩:=sl_form hp;have HV:Hid (∀ W,Below w.heap.size w W→SlOf RBf 5 (·<W.heap.size) W (J va vn vc) bs):=fun W h=>bfs_below hv h;have HPL:Hid (∀ W,Below w.heap.size w W→SlOf RInt 1 (·<W.heap.size) W (J pa pl pc) P):=fun W h=>(hp.same RInt.ok (Same.of_below h fun b hb=>hb)).mono RInt.ok fun b hb=>I hb h.size;have HR:Hid (RcP ⟨tx0,ty0,tx1,ty1⟩∧areaR ⟨tx0,ty0,tx1,ty1⟩≤2000000∧HfB ⟨tx0,ty0,tx1,ty1⟩):=⟨hr,ha,hf⟩;have H0:Hid (Bag w (((w.alloc (.cells #[Y X 2,J ia il ic,J pa pl pc] 52)).alloc (.cells #[Y X tx0,Y X ty0,Y X tx1,Y X ty1] 25)).alloc (.cells #[Y X 0,Y X 0,Y X 0,Y X 0,J none 0 0] 43)) [(w.heap.size,[Y X 2,J ia il ic,J pa pl pc]),(w.heap.size+1,(qI tx0 ty0 tx1 ty1)),(w.heap.size+1+1,zS)]):=bag3 w [Y X 2,J ia il ic,J pa pl pc] (qI tx0 ty0 tx1 ty1) zS _ _ _;obtain ⟨Q,hQ⟩:∃ Q:Bf→Prop,Q=(MadeB ⟨tx0,ty0,tx1,ty1⟩ fun x y p=>p≠Px.zero→NearB (bs.getD 0 bf0) (P.getD 0 0) (P.getD 1 0) x y):=⟨_,rfl⟩;have HQQ:=N hQ;rw [←hQ];clear hr ha hf hQ;go_enter Tryz.func53,Tryz.ntmps53;go_wp2_with fail;generalize (((w.alloc (.cells #[Y X 2,J ia il ic,J pa pl pc] 52)).alloc (.cells #[Y X tx0,Y X ty0,Y X tx1,Y X ty1] 25)).alloc (.cells #[Y X 0,Y X 0,Y X 0,Y X 0,J none 0 0] 43))=W0 at *;have HB0:Hid (Below w.heap.size w W0):=H0.o.below;obtain ⟨ib,io,cap,ba,bn,bc,hveq,hcap,hcm,hcs,hbB⟩:=bfs_at (HV.o W0 HB0.o) (bf_get (i:=0) (by omega));simp only [L] at hveq;obtain ⟨rfl,hnn,rfl⟩:=hveq;obtain ⟨b,hb⟩:∃ b,b=bs.getD 0 ⟨Rc.zero,[]⟩:=⟨_,rfl⟩;have HBE:=N hb;rw [←hb] at hcs hbB;clear hb;obtain ⟨⟨bx0,by0,bx1,by1⟩,bp⟩:=b;have HBB:=N hbB;have hvl0:(0:Int)<(vn:Int):=by omega
 have hcap2:vn≤vc:=by rw [hnn];exact hcap
 unfold maxLen at hcm;have g0:W0.cell? ⟨ib,io,none⟩=some (Y X bx0):=by have h:=hcs 0 _ rfl;simpa using h
 have g1:W0.cell? ⟨ib,io+1,none⟩=some (Y X by0):=by have h:=hcs 1 _ rfl;simpa using h
 have g2:W0.cell? ⟨ib,io+2,none⟩=some (Y X bx1):=by have h:=hcs 2 _ rfl;simpa using h
 have g3:W0.cell? ⟨ib,io+3,none⟩=some (Y X by1):=by have h:=hcs 3 _ rfl;simpa using h
 have g4:W0.cell? ⟨ib,io+4,none⟩=some (J ba bn bc):=by have h:=hcs 4 _ rfl;simpa using h
 clear hcs hbB hcap hnn;obtain ⟨qa,qc,hq0,hq1,hq2,_,hqc⟩:=(HPL.o W0 HB0.o).ints;simp only [L] at hq0;obtain ⟨rfl,hq3,rfl⟩:=hq0;obtain ⟨pb,po,rfl,_,hpc⟩:=hqc 0 (by omega);have hpl1:pl≤pc:=by omega
 unfold maxLen at hq2;obtain ⟨q0,hq0'⟩:∃ q,q=P.getD 0 0:=⟨_,rfl⟩;have m0:W0.cell? ⟨pb,po,none⟩=some (Y X q0):=by rw [hq0'];have h:=hpc 0 (by omega);simpa using h
 have hpi0:(0:Int)<(pl:Int):=by omega
 obtain ⟨q1,hq1'⟩:∃ q,q=P.getD 1 0:=⟨_,rfl⟩;have m1:W0.cell? ⟨pb,po+1,none⟩=some (Y X q1):=by rw [hq1'];have h:=hpc 1 (by omega);simpa using h
 have hpi1:(1:Int)<(pl:Int):=by omega
 have HQ0:=N hq0';have HQ1:=N hq1';clear hqc hpc hq1 hq3 hq0' hq1';obtain ⟨e0,e1,e2,e3⟩:=(H0.o.box 1 rfl).c4;obtain ⟨kg0,kg1,kg2,kg3,kg4,km0,km1,ke0⟩:=kept8 g0 g1 g2 g3 g4 m0 m1 e0;obtain ⟨ke1,ke2,ke3⟩:=kept3 e1 e2 e3;clear g0 g1 g2 g3 g4 m0 m1 e0 e1 e2 e3;refine wp_region_kept_tail W0.heap.size 10 _ rfl (by kernel_rfl) (by kernel_rfl) ?_;simp only [Z,O,U,V]
 repeat (go_big_quiet_step (fail))
 refine wpQuiet_nil ?_;intro s;refine ⟨?_⟩;have H1:=N (H0.o.call s.below);have HC:Hid (Calls Tryz.prog 85 #[.agg #[Y X bx0,Y X by0,Y X bx1,Y X by1,J ba bn bc],rv ⟨tx0,ty0,tx1,ty1⟩,Y X q0,Y X q1] s.w (BPost s.w (MadeB ⟨tx0,ty0,tx1,ty1⟩ fun x y p=>p≠Px.zero→NearB ⟨⟨bx0,by0,bx1,by1⟩,bp⟩ q0 q1 x y))):=box08_c ⟨⟨bx0,by0,bx1,by1⟩,bp⟩ ⟨tx0,ty0,tx1,ty1⟩ q0 q1 ba bn bc s.w (HBB.o.below s.below) HR.o.1 HR.o.2.1 (by rw [HQ1.o];exact hg) (by rw [HQ0.o];exact hx) (by rw [HQ1.o];exact hy);clear kg0 kg1 kg2 kg3 kg4 km0 km1 ke0 ke1 ke2 ke3 H0;go_wp2_with fail
 (with_reducible refine HC.o.mono ?_);rintro e' W2 ⟨⟨⟨ox0,oy0,ox1,oy1⟩,op⟩,oa,on,oc,rfl,hb2,hov,hq2⟩
 have H2:=N (H1.o.call hb2);have HO:Hid (BfV W2 ⟨⟨ox0,oy0,ox1,oy1⟩,op⟩ (J oa on oc)∧Q ⟨⟨ox0,oy0,ox1,oy1⟩,op⟩):=⟨hov,by rw [HQQ.o];rw [←HBE.o,←HQ0.o,←HQ1.o];exact hq2⟩;clear hb2 hov hq2 HC;obtain ⟨r0,r1,r2,r3,r4⟩:=(H2.o.box 2 rfl).c5;obtain ⟨f0,f1,f2,f3,f4⟩:=(H2.o.box 2 rfl).f5;go_wp2_with fail;have h3:=bag_set5 H2.o 2 rfl (Y X ox0) (Y X oy0) (Y X ox1) (Y X oy1) (J oa on oc);exact ret_bf (r:=⟨ox0,oy0,ox1,oy1⟩) (s:=J oa on oc) rfl rfl (h3.box 2 rfl) rfl ⟨⟨⟨ox0,oy0,ox1,oy1⟩,op⟩,oa,on,oc,rfl,h3.below,HO.o.1.set5 (H2.o.box 2 rfl) _ _ _ _ _,HO.o.2⟩
theorem do3_c (iv pv v:Value) (P:List Int) (bs:List Bf) (r:Rc) (w:World) (h:DoIn w iv pv v P bs r) (hl:0<bs.length) (hpl:2≤P.length) (hx:0≤P.getD 0 0∧P.getD 0 0≤255) (hy:0≤P.getD 1 0∧P.getD 1 0≤255):Calls Tryz.prog 53 #[.agg #[Y X 3,iv,pv],v,rv r] w (BPost w (MadeB r fun x y p=>p≠Px.zero→if false=true then NearB (bs.getD 0 bf0) (P.getD 0 0) (P.getD 1 0) x y else atB (bs.getD 0 bf0) x y≠Px.zero)):=by
 obtain ⟨⟨ia,il,ic,rfl⟩,hp,hv,hr,ha,hf⟩:=h;obtain ⟨tx0,ty0,tx1,ty1⟩:=r;obtain ⟨va,vn,vc,rfl⟩:=sl_form hv;obtain ⟨pa,pl,pc,rfl⟩:=sl_form hp;have HV:Hid (∀ W,Below w.heap.size w W→SlOf RBf 5 (·<W.heap.size) W (J va vn vc) bs):=fun W h=>bfs_below hv h;have HPL:Hid (∀ W,Below w.heap.size w W→SlOf RInt 1 (·<W.heap.size) W (J pa pl pc) P):=fun W h=>(hp.same RInt.ok (Same.of_below h fun b hb=>hb)).mono RInt.ok fun b hb=>I hb h.size;have HR:Hid (RcP ⟨tx0,ty0,tx1,ty1⟩∧areaR ⟨tx0,ty0,tx1,ty1⟩≤2000000∧HfB ⟨tx0,ty0,tx1,ty1⟩):=⟨hr,ha,hf⟩;have H0:Hid (Bag w (((w.alloc (.cells #[Y X 3,J ia il ic,J pa pl pc] 52)).alloc (.cells #[Y X tx0,Y X ty0,Y X tx1,Y X ty1] 25)).alloc (.cells #[Y X 0,Y X 0,Y X 0,Y X 0,J none 0 0] 43)) [(w.heap.size,[Y X 3,J ia il ic,J pa pl pc]),(w.heap.size+1,(qI tx0 ty0 tx1 ty1)),(w.heap.size+1+1,zS)]):=bag3 w [Y X 3,J ia il ic,J pa pl pc] (qI tx0 ty0 tx1 ty1) zS _ _ _;obtain ⟨Q,hQ⟩:∃ Q:Bf→Prop,Q=(MadeB ⟨tx0,ty0,tx1,ty1⟩ fun x y p=>p≠Px.zero→if false=true then NearB (bs.getD 0 bf0) (P.getD 0 0) (P.getD 1 0) x y else atB (bs.getD 0 bf0) x y≠Px.zero):=⟨_,rfl⟩;have HQQ:=N hQ;rw [←hQ];clear hr ha hf hQ;go_enter Tryz.func53,Tryz.ntmps53;go_wp2_with fail;generalize (((w.alloc (.cells #[Y X 3,J ia il ic,J pa pl pc] 52)).alloc (.cells #[Y X tx0,Y X ty0,Y X tx1,Y X ty1] 25)).alloc (.cells #[Y X 0,Y X 0,Y X 0,Y X 0,J none 0 0] 43))=W0 at *;have HB0:Hid (Below w.heap.size w W0):=H0.o.below;obtain ⟨ib,io,cap,ba,bn,bc,hveq,hcap,hcm,hcs,hbB⟩:=bfs_at (HV.o W0 HB0.o) (bf_get (i:=0) (by omega));simp only [L] at hveq;obtain ⟨rfl,hnn,rfl⟩:=hveq;obtain ⟨b,hb⟩:∃ b,b=bs.getD 0 ⟨Rc.zero,[]⟩:=⟨_,rfl⟩;have HBE:=N hb;rw [←hb] at hcs hbB;clear hb;obtain ⟨⟨bx0,by0,bx1,by1⟩,bp⟩:=b;have HBB:=N hbB;have hvl0:(0:Int)<(vn:Int):=by omega
 have hcap2:vn≤vc:=by rw [hnn];exact hcap
 unfold maxLen at hcm;have g0:W0.cell? ⟨ib,io,none⟩=some (Y X bx0):=by have h:=hcs 0 _ rfl;simpa using h
 have g1:W0.cell? ⟨ib,io+1,none⟩=some (Y X by0):=by have h:=hcs 1 _ rfl;simpa using h
 have g2:W0.cell? ⟨ib,io+2,none⟩=some (Y X bx1):=by have h:=hcs 2 _ rfl;simpa using h
 have g3:W0.cell? ⟨ib,io+3,none⟩=some (Y X by1):=by have h:=hcs 3 _ rfl;simpa using h
 have g4:W0.cell? ⟨ib,io+4,none⟩=some (J ba bn bc):=by have h:=hcs 4 _ rfl;simpa using h
 clear hcs hbB hcap hnn;obtain ⟨qa,qc,hq0,hq1,hq2,_,hqc⟩:=(HPL.o W0 HB0.o).ints;simp only [L] at hq0;obtain ⟨rfl,hq3,rfl⟩:=hq0;obtain ⟨pb,po,rfl,_,hpc⟩:=hqc 0 (by omega);have hpl1:pl≤pc:=by omega
 unfold maxLen at hq2;obtain ⟨q0,hq0'⟩:∃ q,q=P.getD 0 0:=⟨_,rfl⟩;have m0:W0.cell? ⟨pb,po,none⟩=some (Y X q0):=by rw [hq0'];have h:=hpc 0 (by omega);simpa using h
 have hpi0:(0:Int)<(pl:Int):=by omega
 obtain ⟨q1,hq1'⟩:∃ q,q=P.getD 1 0:=⟨_,rfl⟩;have m1:W0.cell? ⟨pb,po+1,none⟩=some (Y X q1):=by rw [hq1'];have h:=hpc 1 (by omega);simpa using h
 have hpi1:(1:Int)<(pl:Int):=by omega
 have HQ0:=N hq0';have HQ1:=N hq1';clear hqc hpc hq1 hq3 hq0' hq1';obtain ⟨e0,e1,e2,e3⟩:=(H0.o.box 1 rfl).c4;obtain ⟨kg0,kg1,kg2,kg3,kg4,km0,km1,ke0⟩:=kept8 g0 g1 g2 g3 g4 m0 m1 e0;obtain ⟨ke1,ke2,ke3⟩:=kept3 e1 e2 e3;clear g0 g1 g2 g3 g4 m0 m1 e0 e1 e2 e3;refine wp_region_kept_tail W0.heap.size 10 _ rfl (by kernel_rfl) (by kernel_rfl) ?_;simp only [Z,O,U,V]
 repeat (go_big_quiet_step (fail))
 refine wpQuiet_nil ?_;intro s;refine ⟨?_⟩;have H1:=N (H0.o.call s.below);have HC:Hid (Calls Tryz.prog 86 #[.agg #[Y X bx0,Y X by0,Y X bx1,Y X by1,J ba bn bc],rv ⟨tx0,ty0,tx1,ty1⟩,Y X q0,Y X q1,.bool false] s.w (BPost s.w (MadeB ⟨tx0,ty0,tx1,ty1⟩ fun x y p=>p≠Px.zero→if false=true then NearB ⟨⟨bx0,by0,bx1,by1⟩,bp⟩ q0 q1 x y else atB ⟨⟨bx0,by0,bx1,by1⟩,bp⟩ x y≠Px.zero))):=box09_c ⟨⟨bx0,by0,bx1,by1⟩,bp⟩ ⟨tx0,ty0,tx1,ty1⟩ q0 q1 false ba bn bc s.w (HBB.o.below s.below) HR.o.1 HR.o.2.1 HR.o.2.2 (by rw [HQ0.o];exact hx) (by rw [HQ1.o];exact hy);clear kg0 kg1 kg2 kg3 kg4 km0 km1 ke0 ke1 ke2 ke3 H0;go_wp2_with fail
 (with_reducible refine HC.o.mono ?_);rintro e' W2 ⟨⟨⟨ox0,oy0,ox1,oy1⟩,op⟩,oa,on,oc,rfl,hb2,hov,hq2⟩
 have H2:=N (H1.o.call hb2);have HO:Hid (BfV W2 ⟨⟨ox0,oy0,ox1,oy1⟩,op⟩ (J oa on oc)∧Q ⟨⟨ox0,oy0,ox1,oy1⟩,op⟩):=⟨hov,by rw [HQQ.o];rw [←HBE.o,←HQ0.o,←HQ1.o];exact hq2⟩;clear hb2 hov hq2 HC;obtain ⟨r0,r1,r2,r3,r4⟩:=(H2.o.box 2 rfl).c5;obtain ⟨f0,f1,f2,f3,f4⟩:=(H2.o.box 2 rfl).f5;go_wp2_with fail;have h3:=bag_set5 H2.o 2 rfl (Y X ox0) (Y X oy0) (Y X ox1) (Y X oy1) (J oa on oc);exact ret_bf (r:=⟨ox0,oy0,ox1,oy1⟩) (s:=J oa on oc) rfl rfl (h3.box 2 rfl) rfl ⟨⟨⟨ox0,oy0,ox1,oy1⟩,op⟩,oa,on,oc,rfl,h3.below,HO.o.1.set5 (H2.o.box 2 rfl) _ _ _ _ _,HO.o.2⟩
theorem do4_c (iv pv v:Value) (P:List Int) (bs:List Bf) (r:Rc) (w:World) (h:DoIn w iv pv v P bs r) (hl:0<bs.length) (hpl:2≤P.length) (hx:0≤P.getD 0 0∧P.getD 0 0≤255) (hy:0≤P.getD 1 0∧P.getD 1 0≤255):Calls Tryz.prog 53 #[.agg #[Y X 4,iv,pv],v,rv r] w (BPost w (MadeB r fun x y p=>p≠Px.zero→if true=true then NearB (bs.getD 0 bf0) (P.getD 0 0) (P.getD 1 0) x y else atB (bs.getD 0 bf0) x y≠Px.zero)):=by
 obtain ⟨⟨ia,il,ic,rfl⟩,hp,hv,hr,ha,hf⟩:=h;obtain ⟨tx0,ty0,tx1,ty1⟩:=r;obtain ⟨va,vn,vc,rfl⟩:=sl_form hv;obtain ⟨pa,pl,pc,rfl⟩:=sl_form hp;have HV:Hid (∀ W,Below w.heap.size w W→SlOf RBf 5 (·<W.heap.size) W (J va vn vc) bs):=fun W h=>bfs_below hv h;have HPL:Hid (∀ W,Below w.heap.size w W→SlOf RInt 1 (·<W.heap.size) W (J pa pl pc) P):=fun W h=>(hp.same RInt.ok (Same.of_below h fun b hb=>hb)).mono RInt.ok fun b hb=>I hb h.size;have HR:Hid (RcP ⟨tx0,ty0,tx1,ty1⟩∧areaR ⟨tx0,ty0,tx1,ty1⟩≤2000000∧HfB ⟨tx0,ty0,tx1,ty1⟩):=⟨hr,ha,hf⟩;have H0:Hid (Bag w (((w.alloc (.cells #[Y X 4,J ia il ic,J pa pl pc] 52)).alloc (.cells #[Y X tx0,Y X ty0,Y X tx1,Y X ty1] 25)).alloc (.cells #[Y X 0,Y X 0,Y X 0,Y X 0,J none 0 0] 43)) [(w.heap.size,[Y X 4,J ia il ic,J pa pl pc]),(w.heap.size+1,(qI tx0 ty0 tx1 ty1)),(w.heap.size+1+1,zS)]):=bag3 w [Y X 4,J ia il ic,J pa pl pc] (qI tx0 ty0 tx1 ty1) zS _ _ _;obtain ⟨Q,hQ⟩:∃ Q:Bf→Prop,Q=(MadeB ⟨tx0,ty0,tx1,ty1⟩ fun x y p=>p≠Px.zero→if true=true then NearB (bs.getD 0 bf0) (P.getD 0 0) (P.getD 1 0) x y else atB (bs.getD 0 bf0) x y≠Px.zero):=⟨_,rfl⟩;have HQQ:=N hQ;rw [←hQ];clear hr ha hf hQ;go_enter Tryz.func53,Tryz.ntmps53;go_wp2_with fail;generalize (((w.alloc (.cells #[Y X 4,J ia il ic,J pa pl pc] 52)).alloc (.cells #[Y X tx0,Y X ty0,Y X tx1,Y X ty1] 25)).alloc (.cells #[Y X 0,Y X 0,Y X 0,Y X 0,J none 0 0] 43))=W0 at *;have HB0:Hid (Below w.heap.size w W0):=H0.o.below;obtain ⟨ib,io,cap,ba,bn,bc,hveq,hcap,hcm,hcs,hbB⟩:=bfs_at (HV.o W0 HB0.o) (bf_get (i:=0) (by omega));simp only [L] at hveq;obtain ⟨rfl,hnn,rfl⟩:=hveq;obtain ⟨b,hb⟩:∃ b,b=bs.getD 0 ⟨Rc.zero,[]⟩:=⟨_,rfl⟩;have HBE:=N hb;rw [←hb] at hcs hbB;clear hb;obtain ⟨⟨bx0,by0,bx1,by1⟩,bp⟩:=b;have HBB:=N hbB;have hvl0:(0:Int)<(vn:Int):=by omega
 have hcap2:vn≤vc:=by rw [hnn];exact hcap
 unfold maxLen at hcm;have g0:W0.cell? ⟨ib,io,none⟩=some (Y X bx0):=by have h:=hcs 0 _ rfl;simpa using h
 have g1:W0.cell? ⟨ib,io+1,none⟩=some (Y X by0):=by have h:=hcs 1 _ rfl;simpa using h
 have g2:W0.cell? ⟨ib,io+2,none⟩=some (Y X bx1):=by have h:=hcs 2 _ rfl;simpa using h
 have g3:W0.cell? ⟨ib,io+3,none⟩=some (Y X by1):=by have h:=hcs 3 _ rfl;simpa using h
 have g4:W0.cell? ⟨ib,io+4,none⟩=some (J ba bn bc):=by have h:=hcs 4 _ rfl;simpa using h
 clear hcs hbB hcap hnn;obtain ⟨qa,qc,hq0,hq1,hq2,_,hqc⟩:=(HPL.o W0 HB0.o).ints;simp only [L] at hq0;obtain ⟨rfl,hq3,rfl⟩:=hq0;obtain ⟨pb,po,rfl,_,hpc⟩:=hqc 0 (by omega);have hpl1:pl≤pc:=by omega
 unfold maxLen at hq2;obtain ⟨q0,hq0'⟩:∃ q,q=P.getD 0 0:=⟨_,rfl⟩;have m0:W0.cell? ⟨pb,po,none⟩=some (Y X q0):=by rw [hq0'];have h:=hpc 0 (by omega);simpa using h
 have hpi0:(0:Int)<(pl:Int):=by omega
 obtain ⟨q1,hq1'⟩:∃ q,q=P.getD 1 0:=⟨_,rfl⟩;have m1:W0.cell? ⟨pb,po+1,none⟩=some (Y X q1):=by rw [hq1'];have h:=hpc 1 (by omega);simpa using h
 have hpi1:(1:Int)<(pl:Int):=by omega
 have HQ0:=N hq0';have HQ1:=N hq1';clear hqc hpc hq1 hq3 hq0' hq1';obtain ⟨e0,e1,e2,e3⟩:=(H0.o.box 1 rfl).c4;obtain ⟨kg0,kg1,kg2,kg3,kg4,km0,km1,ke0⟩:=kept8 g0 g1 g2 g3 g4 m0 m1 e0;obtain ⟨ke1,ke2,ke3⟩:=kept3 e1 e2 e3;clear g0 g1 g2 g3 g4 m0 m1 e0 e1 e2 e3;refine wp_region_kept_tail W0.heap.size 10 _ rfl (by kernel_rfl) (by kernel_rfl) ?_;simp only [Z,O,U,V]
 repeat (go_big_quiet_step (fail))
 refine wpQuiet_nil ?_;intro s;refine ⟨?_⟩;have H1:=N (H0.o.call s.below);have HC:Hid (Calls Tryz.prog 86 #[.agg #[Y X bx0,Y X by0,Y X bx1,Y X by1,J ba bn bc],rv ⟨tx0,ty0,tx1,ty1⟩,Y X q0,Y X q1,.bool true] s.w (BPost s.w (MadeB ⟨tx0,ty0,tx1,ty1⟩ fun x y p=>p≠Px.zero→if true=true then NearB ⟨⟨bx0,by0,bx1,by1⟩,bp⟩ q0 q1 x y else atB ⟨⟨bx0,by0,bx1,by1⟩,bp⟩ x y≠Px.zero))):=box09_c ⟨⟨bx0,by0,bx1,by1⟩,bp⟩ ⟨tx0,ty0,tx1,ty1⟩ q0 q1 true ba bn bc s.w (HBB.o.below s.below) HR.o.1 HR.o.2.1 HR.o.2.2 (by rw [HQ0.o];exact hx) (by rw [HQ1.o];exact hy);clear kg0 kg1 kg2 kg3 kg4 km0 km1 ke0 ke1 ke2 ke3 H0;go_wp2_with fail
 (with_reducible refine HC.o.mono ?_);rintro e' W2 ⟨⟨⟨ox0,oy0,ox1,oy1⟩,op⟩,oa,on,oc,rfl,hb2,hov,hq2⟩
 have H2:=N (H1.o.call hb2);have HO:Hid (BfV W2 ⟨⟨ox0,oy0,ox1,oy1⟩,op⟩ (J oa on oc)∧Q ⟨⟨ox0,oy0,ox1,oy1⟩,op⟩):=⟨hov,by rw [HQQ.o];rw [←HBE.o,←HQ0.o,←HQ1.o];exact hq2⟩;clear hb2 hov hq2 HC;obtain ⟨r0,r1,r2,r3,r4⟩:=(H2.o.box 2 rfl).c5;obtain ⟨f0,f1,f2,f3,f4⟩:=(H2.o.box 2 rfl).f5;go_wp2_with fail;have h3:=bag_set5 H2.o 2 rfl (Y X ox0) (Y X oy0) (Y X ox1) (Y X oy1) (J oa on oc);exact ret_bf (r:=⟨ox0,oy0,ox1,oy1⟩) (s:=J oa on oc) rfl rfl (h3.box 2 rfl) rfl ⟨⟨⟨ox0,oy0,ox1,oy1⟩,op⟩,oa,on,oc,rfl,h3.below,HO.o.1.set5 (H2.o.box 2 rfl) _ _ _ _ _,HO.o.2⟩
theorem do6_c (iv pv v:Value) (P:List Int) (bs:List Bf) (r:Rc) (w:World) (h:DoIn w iv pv v P bs r) (hpl:P.length=8) (hx:∀ j,j<4→0≤P.getD j 0∧P.getD j 0≤255):Calls Tryz.prog 53 #[.agg #[Y X 6,iv,pv],v,rv r] w (BPost w (FldB r (pbx P 4) (ppx P 0))):=by
 obtain ⟨⟨ia,il,ic,rfl⟩,hp,hv,hr,ha,hf⟩:=h;obtain ⟨tx0,ty0,tx1,ty1⟩:=r;obtain ⟨va,vn,vc,rfl⟩:=sl_form hv;obtain ⟨pa,pl,pc,rfl⟩:=sl_form hp;have HV:Hid (∀ W,Below w.heap.size w W→SlOf RBf 5 (·<W.heap.size) W (J va vn vc) bs):=fun W h=>bfs_below hv h;have HPL:Hid (∀ W,Below w.heap.size w W→SlOf RInt 1 (·<W.heap.size) W (J pa pl pc) P):=fun W h=>(hp.same RInt.ok (Same.of_below h fun b hb=>hb)).mono RInt.ok fun b hb=>I hb h.size;have HR:Hid (RcP ⟨tx0,ty0,tx1,ty1⟩∧areaR ⟨tx0,ty0,tx1,ty1⟩≤2000000∧HfB ⟨tx0,ty0,tx1,ty1⟩):=⟨hr,ha,hf⟩;have H0:Hid (Bag w (((w.alloc (.cells #[Y X 6,J ia il ic,J pa pl pc] 52)).alloc (.cells #[Y X tx0,Y X ty0,Y X tx1,Y X ty1] 25)).alloc (.cells #[Y X 0,Y X 0,Y X 0,Y X 0,J none 0 0] 43)) [(w.heap.size,[Y X 6,J ia il ic,J pa pl pc]),(w.heap.size+1,(qI tx0 ty0 tx1 ty1)),(w.heap.size+1+1,zS)]):=bag3 w [Y X 6,J ia il ic,J pa pl pc] (qI tx0 ty0 tx1 ty1) zS _ _ _;obtain ⟨Q,hQ⟩:∃ Q:Bf→Prop,Q=(FldB ⟨tx0,ty0,tx1,ty1⟩ (pbx P 4) (ppx P 0)):=⟨_,rfl⟩;have HQQ:=N hQ;rw [←hQ];clear hr ha hf hQ;go_enter Tryz.func53,Tryz.ntmps53;go_wp2_with fail;generalize (((w.alloc (.cells #[Y X 6,J ia il ic,J pa pl pc] 52)).alloc (.cells #[Y X tx0,Y X ty0,Y X tx1,Y X ty1] 25)).alloc (.cells #[Y X 0,Y X 0,Y X 0,Y X 0,J none 0 0] 43))=W0 at *;have HB0:Hid (Below w.heap.size w W0):=H0.o.below;obtain ⟨e0,e1,e2,e3⟩:=(H0.o.box 1 rfl).c4;obtain ⟨pxl,hpx⟩:∃ z,z=ppx P 0:=⟨_,rfl⟩;obtain ⟨bx4,hb4⟩:∃ z,z=pbx P 4:=⟨_,rfl⟩;have HPX:Hid (∀ W,Below w.heap.size w W→Calls Tryz.prog 88 #[J pa pl pc,Y X 0] W (PPost W (pxv pxl))):=fun W h=>by rw [hpx];exact pixel15_0_c (F:=(·<W.heap.size)) _ P W (fun b h=>h) (HPL.o W h) (by omega) (fun j hj=>by rw [Nat.zero_add];exact hx j hj)
 have HBX:Hid (∀ W,Below w.heap.size w W→Calls Tryz.prog 82 #[J pa pl pc,Y X 4] W (PPost W (rv bx4))):=fun W h=>by rw [hb4];exact box13_4_c (F:=(·<W.heap.size)) _ P W (fun b h=>h) (HPL.o W h) (by omega)
 have HPO:Hid pxl.Ok:=by
  rw [hpx];refine ⟨?_,?_,?_,?_⟩
  ·exact hx 0 (by omega)
  ·exact hx 1 (by omega)
  ·exact hx 2 (by omega)
  ·exact hx 3 (by omega)
 have HPE:=N hpx;have HB4E:=N hb4;clear hpx hb4;obtain ⟨ke0,ke1,ke2,ke3⟩:=kept4 e0 e1 e2 e3;clear e0 e1 e2 e3;refine wp_region_kept_tail W0.heap.size 5 _ rfl (by kernel_rfl) (by kernel_rfl) ?_;simp only [Z,O,U,V]
 repeat (go_big_quiet_step (first
  |(go_at_call 88;with_reducible exact Calls.kept _ (E _) (HPX.o _ (HB0.o.trans ((Kept.below _).mono HB0.o.size))))
  |(go_at_call 82;with_reducible exact Calls.kept _ (E _) (HBX.o _ (HB0.o.trans ((Kept.below _).mono HB0.o.size))))))
 refine wpQuiet_nil ?_;intro s;refine ⟨?_⟩;have H1:=N (H0.o.call s.below);have HC:Hid (Calls Tryz.prog 87 #[rv ⟨tx0,ty0,tx1,ty1⟩,pxv pxl,rv bx4] s.w (BPost s.w (FldB ⟨tx0,ty0,tx1,ty1⟩ bx4 pxl))):=flood10_c ⟨tx0,ty0,tx1,ty1⟩ pxl bx4 s.w HPO.o HR.o.1 HR.o.2.1;clear ke0 ke1 ke2 ke3 H0;go_wp2_with fail
 (with_reducible refine HC.o.mono ?_);rintro e' W2 ⟨⟨⟨ox0,oy0,ox1,oy1⟩,op⟩,oa,on,oc,rfl,hb2,hov,hq2⟩
 have H2:=N (H1.o.call hb2);have HO:Hid (BfV W2 ⟨⟨ox0,oy0,ox1,oy1⟩,op⟩ (J oa on oc)∧Q ⟨⟨ox0,oy0,ox1,oy1⟩,op⟩):=⟨hov,by rw [HQQ.o];rw [←HPE.o,←HB4E.o];exact hq2⟩;clear hb2 hov hq2 HC;obtain ⟨r0,r1,r2,r3,r4⟩:=(H2.o.box 2 rfl).c5;obtain ⟨f0,f1,f2,f3,f4⟩:=(H2.o.box 2 rfl).f5;go_wp2_with fail;have h3:=bag_set5 H2.o 2 rfl (Y X ox0) (Y X oy0) (Y X ox1) (Y X oy1) (J oa on oc);exact ret_bf (r:=⟨ox0,oy0,ox1,oy1⟩) (s:=J oa on oc) rfl rfl (h3.box 2 rfl) rfl ⟨⟨⟨ox0,oy0,ox1,oy1⟩,op⟩,oa,on,oc,rfl,h3.below,HO.o.1.set5 (H2.o.box 2 rfl) _ _ _ _ _,HO.o.2⟩
theorem do9_c (iv pv v:Value) (P:List Int) (bs:List Bf) (r:Rc) (w:World) (h:DoIn w iv pv v P bs r):Calls Tryz.prog 53 #[.agg #[Y X 9,iv,pv],v,rv r] w (BPost w (MrgB r bs)):=by
 obtain ⟨⟨ia,il,ic,rfl⟩,hp,hv,hr,ha,hf⟩:=h;obtain ⟨tx0,ty0,tx1,ty1⟩:=r;obtain ⟨va,vn,vc,rfl⟩:=sl_form hv;obtain ⟨pa,pl,pc,rfl⟩:=sl_form hp;have HV:Hid (∀ W,Below w.heap.size w W→SlOf RBf 5 (·<W.heap.size) W (J va vn vc) bs):=fun W h=>bfs_below hv h;have HPL:Hid (∀ W,Below w.heap.size w W→SlOf RInt 1 (·<W.heap.size) W (J pa pl pc) P):=fun W h=>(hp.same RInt.ok (Same.of_below h fun b hb=>hb)).mono RInt.ok fun b hb=>I hb h.size;have HR:Hid (RcP ⟨tx0,ty0,tx1,ty1⟩∧areaR ⟨tx0,ty0,tx1,ty1⟩≤2000000∧HfB ⟨tx0,ty0,tx1,ty1⟩):=⟨hr,ha,hf⟩;have H0:Hid (Bag w (((w.alloc (.cells #[Y X 9,J ia il ic,J pa pl pc] 52)).alloc (.cells #[Y X tx0,Y X ty0,Y X tx1,Y X ty1] 25)).alloc (.cells #[Y X 0,Y X 0,Y X 0,Y X 0,J none 0 0] 43)) [(w.heap.size,[Y X 9,J ia il ic,J pa pl pc]),(w.heap.size+1,(qI tx0 ty0 tx1 ty1)),(w.heap.size+1+1,zS)]):=bag3 w [Y X 9,J ia il ic,J pa pl pc] (qI tx0 ty0 tx1 ty1) zS _ _ _;obtain ⟨Q,hQ⟩:∃ Q:Bf→Prop,Q=(MrgB ⟨tx0,ty0,tx1,ty1⟩ bs):=⟨_,rfl⟩;have HQQ:=N hQ;rw [←hQ];clear hr ha hf hQ;go_enter Tryz.func53,Tryz.ntmps53;go_wp2_with fail;generalize (((w.alloc (.cells #[Y X 9,J ia il ic,J pa pl pc] 52)).alloc (.cells #[Y X tx0,Y X ty0,Y X tx1,Y X ty1] 25)).alloc (.cells #[Y X 0,Y X 0,Y X 0,Y X 0,J none 0 0] 43))=W0 at *;have HB0:Hid (Below w.heap.size w W0):=H0.o.below;obtain ⟨e0,e1,e2,e3⟩:=(H0.o.box 1 rfl).c4;have HC:Hid (Calls Tryz.prog 89 #[J va vn vc,rv ⟨tx0,ty0,tx1,ty1⟩] W0 (BPost W0 (MrgB ⟨tx0,ty0,tx1,ty1⟩ bs))):=merge10_c _ bs ⟨tx0,ty0,tx1,ty1⟩ W0 (HV.o W0 HB0.o) HR.o.1 HR.o.2.1;go_wp2_with fail
 (with_reducible refine HC.o.mono ?_);rintro e' W2 ⟨⟨⟨ox0,oy0,ox1,oy1⟩,op⟩,oa,on,oc,rfl,hb2,hov,hq2⟩
 have H2:=N (H0.o.call hb2);have HO:Hid (BfV W2 ⟨⟨ox0,oy0,ox1,oy1⟩,op⟩ (J oa on oc)∧Q ⟨⟨ox0,oy0,ox1,oy1⟩,op⟩):=⟨hov,by rw [HQQ.o];exact hq2⟩;clear hb2 hov hq2 HC;obtain ⟨r0,r1,r2,r3,r4⟩:=(H2.o.box 2 rfl).c5;obtain ⟨f0,f1,f2,f3,f4⟩:=(H2.o.box 2 rfl).f5;go_wp2_with fail;have h3:=bag_set5 H2.o 2 rfl (Y X ox0) (Y X oy0) (Y X ox1) (Y X oy1) (J oa on oc);exact ret_bf (r:=⟨ox0,oy0,ox1,oy1⟩) (s:=J oa on oc) rfl rfl (h3.box 2 rfl) rfl ⟨⟨⟨ox0,oy0,ox1,oy1⟩,op⟩,oa,on,oc,rfl,h3.below,HO.o.1.set5 (H2.o.box 2 rfl) _ _ _ _ _,HO.o.2⟩
theorem do10_c (iv pv v:Value) (P:List Int) (bs:List Bf) (r:Rc) (w:World) (h:DoIn w iv pv v P bs r) (hl:0<bs.length) (hpl:4≤P.length) (hx : -4398046511104≤(pbx P 0).x0∧(pbx P 0).x0≤4398046511104 ∧ -4398046511104≤(pbx P 0).y0∧(pbx P 0).y0≤4398046511104) (hy:0<(pbx P 0).x1-(pbx P 0).x0∧(pbx P 0).x1-(pbx P 0).x0≤4096∧0<(pbx P 0).y1-(pbx P 0).y0∧(pbx P 0).y1-(pbx P 0).y0≤4096):Calls Tryz.prog 53 #[.agg #[Y X 10,iv,pv],v,rv r] w (BPost w (MadeB r fun _ _ p=>∃ u v,hasR (pbx P 0) u v=true∧p=atB (bs.getD 0 bf0) u v)):=by
 obtain ⟨⟨ia,il,ic,rfl⟩,hp,hv,hr,ha,hf⟩:=h;obtain ⟨tx0,ty0,tx1,ty1⟩:=r;obtain ⟨va,vn,vc,rfl⟩:=sl_form hv;obtain ⟨pa,pl,pc,rfl⟩:=sl_form hp;have HV:Hid (∀ W,Below w.heap.size w W→SlOf RBf 5 (·<W.heap.size) W (J va vn vc) bs):=fun W h=>bfs_below hv h;have HPL:Hid (∀ W,Below w.heap.size w W→SlOf RInt 1 (·<W.heap.size) W (J pa pl pc) P):=fun W h=>(hp.same RInt.ok (Same.of_below h fun b hb=>hb)).mono RInt.ok fun b hb=>I hb h.size;have HR:Hid (RcP ⟨tx0,ty0,tx1,ty1⟩∧areaR ⟨tx0,ty0,tx1,ty1⟩≤2000000∧HfB ⟨tx0,ty0,tx1,ty1⟩):=⟨hr,ha,hf⟩;have H0:Hid (Bag w (((w.alloc (.cells #[Y X 10,J ia il ic,J pa pl pc] 52)).alloc (.cells #[Y X tx0,Y X ty0,Y X tx1,Y X ty1] 25)).alloc (.cells #[Y X 0,Y X 0,Y X 0,Y X 0,J none 0 0] 43)) [(w.heap.size,[Y X 10,J ia il ic,J pa pl pc]),(w.heap.size+1,(qI tx0 ty0 tx1 ty1)),(w.heap.size+1+1,zS)]):=bag3 w [Y X 10,J ia il ic,J pa pl pc] (qI tx0 ty0 tx1 ty1) zS _ _ _;obtain ⟨Q,hQ⟩:∃ Q:Bf→Prop,Q=(MadeB ⟨tx0,ty0,tx1,ty1⟩ fun _ _ p=>∃ u v,hasR (pbx P 0) u v=true∧p=atB (bs.getD 0 bf0) u v):=⟨_,rfl⟩;have HQQ:=N hQ;rw [←hQ];clear hr ha hf hQ;go_enter Tryz.func53,Tryz.ntmps53;go_wp2_with fail;generalize (((w.alloc (.cells #[Y X 10,J ia il ic,J pa pl pc] 52)).alloc (.cells #[Y X tx0,Y X ty0,Y X tx1,Y X ty1] 25)).alloc (.cells #[Y X 0,Y X 0,Y X 0,Y X 0,J none 0 0] 43))=W0 at *;have HB0:Hid (Below w.heap.size w W0):=H0.o.below;obtain ⟨ib,io,cap,ba,bn,bc,hveq,hcap,hcm,hcs,hbB⟩:=bfs_at (HV.o W0 HB0.o) (bf_get (i:=0) (by omega));simp only [L] at hveq;obtain ⟨rfl,hnn,rfl⟩:=hveq;obtain ⟨b,hb⟩:∃ b,b=bs.getD 0 ⟨Rc.zero,[]⟩:=⟨_,rfl⟩;have HBE:=N hb;rw [←hb] at hcs hbB;clear hb;obtain ⟨⟨bx0,by0,bx1,by1⟩,bp⟩:=b;have HBB:=N hbB;have hvl0:(0:Int)<(vn:Int):=by omega
 have hcap2:vn≤vc:=by rw [hnn];exact hcap
 unfold maxLen at hcm;have g0:W0.cell? ⟨ib,io,none⟩=some (Y X bx0):=by have h:=hcs 0 _ rfl;simpa using h
 have g1:W0.cell? ⟨ib,io+1,none⟩=some (Y X by0):=by have h:=hcs 1 _ rfl;simpa using h
 have g2:W0.cell? ⟨ib,io+2,none⟩=some (Y X bx1):=by have h:=hcs 2 _ rfl;simpa using h
 have g3:W0.cell? ⟨ib,io+3,none⟩=some (Y X by1):=by have h:=hcs 3 _ rfl;simpa using h
 have g4:W0.cell? ⟨ib,io+4,none⟩=some (J ba bn bc):=by have h:=hcs 4 _ rfl;simpa using h
 clear hcs hbB hcap hnn;obtain ⟨e0,e1,e2,e3⟩:=(H0.o.box 1 rfl).c4;obtain ⟨bx0',hb0'⟩:∃ z,z=pbx P 0:=⟨_,rfl⟩;have HBX:Hid (∀ W,Below w.heap.size w W→Calls Tryz.prog 82 #[J pa pl pc,Y X 0] W (PPost W (rv bx0'))):=fun W h=>by rw [hb0'];exact box13_0_c (F:=(·<W.heap.size)) _ P W (fun b h=>h) (HPL.o W h) (by omega)
 have HBE2:=N hb0';clear hb0';obtain ⟨kg0,kg1,kg2,kg3,kg4,ke0,ke1,ke2⟩:=kept8 g0 g1 g2 g3 g4 e0 e1 e2;have ke3:=fun s:Kept W0.heap.size W0=>s.at e3;clear g0 g1 g2 g3 g4 e0 e1 e2 e3;refine wp_region_kept_tail W0.heap.size 6 _ rfl (by kernel_rfl) (by kernel_rfl) ?_;simp only [Z,O,U,V]
 repeat (go_big_quiet_step (first
  |(go_at_call 82;with_reducible exact Calls.kept _ (E _) (HBX.o _ (HB0.o.trans ((Kept.below _).mono HB0.o.size))))))
 refine wpQuiet_nil ?_;intro s;refine ⟨?_⟩;have H1:=N (H0.o.call s.below);have HC:Hid (Calls Tryz.prog 90 #[.agg #[Y X bx0,Y X by0,Y X bx1,Y X by1,J ba bn bc],rv ⟨tx0,ty0,tx1,ty1⟩,rv bx0'] s.w (BPost s.w (MadeB ⟨tx0,ty0,tx1,ty1⟩ fun _ _ p=>∃ u v,hasR bx0' u v=true∧p=atB ⟨⟨bx0,by0,bx1,by1⟩,bp⟩ u v))):=tile10_c ⟨⟨bx0,by0,bx1,by1⟩,bp⟩ ⟨tx0,ty0,tx1,ty1⟩ bx0' ba bn bc s.w (HBB.o.below s.below) HR.o.1 HR.o.2.1 HR.o.2.2 (by rw [HBE2.o];exact hx) (by rw [HBE2.o];exact hy);clear kg0 kg1 kg2 kg3 kg4 ke0 ke1 ke2 ke3 H0;go_wp2_with fail
 (with_reducible refine HC.o.mono ?_);rintro e' W2 ⟨⟨⟨ox0,oy0,ox1,oy1⟩,op⟩,oa,on,oc,rfl,hb2,hov,hq2⟩
 have H2:=N (H1.o.call hb2);have HO:Hid (BfV W2 ⟨⟨ox0,oy0,ox1,oy1⟩,op⟩ (J oa on oc)∧Q ⟨⟨ox0,oy0,ox1,oy1⟩,op⟩):=⟨hov,by rw [HQQ.o];rw [←HBE.o,←HBE2.o];exact hq2⟩;clear hb2 hov hq2 HC;obtain ⟨r0,r1,r2,r3,r4⟩:=(H2.o.box 2 rfl).c5;obtain ⟨f0,f1,f2,f3,f4⟩:=(H2.o.box 2 rfl).f5;go_wp2_with fail;have h3:=bag_set5 H2.o 2 rfl (Y X ox0) (Y X oy0) (Y X ox1) (Y X oy1) (J oa on oc);exact ret_bf (r:=⟨ox0,oy0,ox1,oy1⟩) (s:=J oa on oc) rfl rfl (h3.box 2 rfl) rfl ⟨⟨⟨ox0,oy0,ox1,oy1⟩,op⟩,oa,on,oc,rfl,h3.below,HO.o.1.set5 (H2.o.box 2 rfl) _ _ _ _ _,HO.o.2⟩
theorem do12_c (iv pv v:Value) (P:List Int) (bs:List Bf) (r:Rc) (w:World) (h:DoIn w iv pv v P bs r) (hl:0<bs.length) (hpl:4≤P.length):Calls Tryz.prog 53 #[.agg #[Y X 12,iv,pv],v,rv r] w (BPost w (PutB r (bs.getD 0 bf0) (pbx P 0) 0 0)):=by
 obtain ⟨⟨ia,il,ic,rfl⟩,hp,hv,hr,ha,hf⟩:=h;obtain ⟨tx0,ty0,tx1,ty1⟩:=r;obtain ⟨va,vn,vc,rfl⟩:=sl_form hv;obtain ⟨pa,pl,pc,rfl⟩:=sl_form hp;have HV:Hid (∀ W,Below w.heap.size w W→SlOf RBf 5 (·<W.heap.size) W (J va vn vc) bs):=fun W h=>bfs_below hv h;have HPL:Hid (∀ W,Below w.heap.size w W→SlOf RInt 1 (·<W.heap.size) W (J pa pl pc) P):=fun W h=>(hp.same RInt.ok (Same.of_below h fun b hb=>hb)).mono RInt.ok fun b hb=>I hb h.size;have HR:Hid (RcP ⟨tx0,ty0,tx1,ty1⟩∧areaR ⟨tx0,ty0,tx1,ty1⟩≤2000000∧HfB ⟨tx0,ty0,tx1,ty1⟩):=⟨hr,ha,hf⟩;have H0:Hid (Bag w (((w.alloc (.cells #[Y X 12,J ia il ic,J pa pl pc] 52)).alloc (.cells #[Y X tx0,Y X ty0,Y X tx1,Y X ty1] 25)).alloc (.cells #[Y X 0,Y X 0,Y X 0,Y X 0,J none 0 0] 43)) [(w.heap.size,[Y X 12,J ia il ic,J pa pl pc]),(w.heap.size+1,(qI tx0 ty0 tx1 ty1)),(w.heap.size+1+1,zS)]):=bag3 w [Y X 12,J ia il ic,J pa pl pc] (qI tx0 ty0 tx1 ty1) zS _ _ _;obtain ⟨Q,hQ⟩:∃ Q:Bf→Prop,Q=(PutB ⟨tx0,ty0,tx1,ty1⟩ (bs.getD 0 bf0) (pbx P 0) 0 0):=⟨_,rfl⟩;have HQQ:=N hQ;rw [←hQ];clear hr ha hf hQ;go_enter Tryz.func53,Tryz.ntmps53;go_wp2_with fail;generalize (((w.alloc (.cells #[Y X 12,J ia il ic,J pa pl pc] 52)).alloc (.cells #[Y X tx0,Y X ty0,Y X tx1,Y X ty1] 25)).alloc (.cells #[Y X 0,Y X 0,Y X 0,Y X 0,J none 0 0] 43))=W0 at *;have HB0:Hid (Below w.heap.size w W0):=H0.o.below;obtain ⟨ib,io,cap,ba,bn,bc,hveq,hcap,hcm,hcs,hbB⟩:=bfs_at (HV.o W0 HB0.o) (bf_get (i:=0) (by omega));simp only [L] at hveq;obtain ⟨rfl,hnn,rfl⟩:=hveq;obtain ⟨b,hb⟩:∃ b,b=bs.getD 0 ⟨Rc.zero,[]⟩:=⟨_,rfl⟩;have HBE:=N hb;rw [←hb] at hcs hbB;clear hb;obtain ⟨⟨bx0,by0,bx1,by1⟩,bp⟩:=b;have HBB:=N hbB;have hvl0:(0:Int)<(vn:Int):=by omega
 have hcap2:vn≤vc:=by rw [hnn];exact hcap
 unfold maxLen at hcm;have g0:W0.cell? ⟨ib,io,none⟩=some (Y X bx0):=by have h:=hcs 0 _ rfl;simpa using h
 have g1:W0.cell? ⟨ib,io+1,none⟩=some (Y X by0):=by have h:=hcs 1 _ rfl;simpa using h
 have g2:W0.cell? ⟨ib,io+2,none⟩=some (Y X bx1):=by have h:=hcs 2 _ rfl;simpa using h
 have g3:W0.cell? ⟨ib,io+3,none⟩=some (Y X by1):=by have h:=hcs 3 _ rfl;simpa using h
 have g4:W0.cell? ⟨ib,io+4,none⟩=some (J ba bn bc):=by have h:=hcs 4 _ rfl;simpa using h
 clear hcs hbB hcap hnn;obtain ⟨e0,e1,e2,e3⟩:=(H0.o.box 1 rfl).c4;obtain ⟨bx0',hb0'⟩:∃ z,z=pbx P 0:=⟨_,rfl⟩;have HBX:Hid (∀ W,Below w.heap.size w W→Calls Tryz.prog 82 #[J pa pl pc,Y X 0] W (PPost W (rv bx0'))):=fun W h=>by rw [hb0'];exact box13_0_c (F:=(·<W.heap.size)) _ P W (fun b h=>h) (HPL.o W h) (by omega)
 have HBE2:=N hb0';clear hb0';obtain ⟨kg0,kg1,kg2,kg3,kg4,ke0,ke1,ke2⟩:=kept8 g0 g1 g2 g3 g4 e0 e1 e2;have ke3:=fun s:Kept W0.heap.size W0=>s.at e3;clear g0 g1 g2 g3 g4 e0 e1 e2 e3;refine wp_region_kept_tail W0.heap.size 6 _ rfl (by kernel_rfl) (by kernel_rfl) ?_;simp only [Z,O,U,V]
 repeat (go_big_quiet_step (first
  |(go_at_call 82;with_reducible exact Calls.kept _ (E _) (HBX.o _ (HB0.o.trans ((Kept.below _).mono HB0.o.size))))))
 refine wpQuiet_nil ?_;intro s;refine ⟨?_⟩;have H1:=N (H0.o.call s.below);have HC:Hid (Calls Tryz.prog 92 #[.agg #[Y X bx0,Y X by0,Y X bx1,Y X by1,J ba bn bc],rv ⟨tx0,ty0,tx1,ty1⟩,rv bx0'] s.w (BPost s.w (PutB ⟨tx0,ty0,tx1,ty1⟩ ⟨⟨bx0,by0,bx1,by1⟩,bp⟩ bx0' 0 0))):=clip10_c ⟨⟨bx0,by0,bx1,by1⟩,bp⟩ ⟨tx0,ty0,tx1,ty1⟩ bx0' ba bn bc s.w (HBB.o.below s.below) HR.o.1 HR.o.2.1;clear kg0 kg1 kg2 kg3 kg4 ke0 ke1 ke2 ke3 H0;go_wp2_with fail
 (with_reducible refine HC.o.mono ?_);rintro e' W2 ⟨⟨⟨ox0,oy0,ox1,oy1⟩,op⟩,oa,on,oc,rfl,hb2,hov,hq2⟩
 have H2:=N (H1.o.call hb2);have HO:Hid (BfV W2 ⟨⟨ox0,oy0,ox1,oy1⟩,op⟩ (J oa on oc)∧Q ⟨⟨ox0,oy0,ox1,oy1⟩,op⟩):=⟨hov,by rw [HQQ.o];rw [←HBE.o,←HBE2.o];exact hq2⟩;clear hb2 hov hq2 HC;obtain ⟨r0,r1,r2,r3,r4⟩:=(H2.o.box 2 rfl).c5;obtain ⟨f0,f1,f2,f3,f4⟩:=(H2.o.box 2 rfl).f5;go_wp2_with fail;have h3:=bag_set5 H2.o 2 rfl (Y X ox0) (Y X oy0) (Y X ox1) (Y X oy1) (J oa on oc);exact ret_bf (r:=⟨ox0,oy0,ox1,oy1⟩) (s:=J oa on oc) rfl rfl (h3.box 2 rfl) rfl ⟨⟨⟨ox0,oy0,ox1,oy1⟩,op⟩,oa,on,oc,rfl,h3.below,HO.o.1.set5 (H2.o.box 2 rfl) _ _ _ _ _,HO.o.2⟩
theorem do11_c (iv pv v:Value) (P:List Int) (bs:List Bf) (r:Rc) (w:World) (h:DoIn w iv pv v P bs r) (hl:0<bs.length) (hpl:P.length=8) (hx : -4194304≤P.getD 0 0∧P.getD 0 0≤4194304) (hy : -4194304≤P.getD 1 0∧P.getD 1 0≤4194304) (hrx:0≤P.getD 2 0∧P.getD 2 0≤255) (hry:0≤P.getD 3 0∧P.getD 3 0≤255) (hc:∀ j,j<4→0≤P.getD (4+j) 0∧P.getD (4+j) 0≤255) (hg:areaR (grow3R (shR r (P.getD 0 0) (P.getD 1 0)) 0 (P.getD 3 0) 0 (P.getD 3 0))≤2000000):Calls Tryz.prog 53 #[.agg #[Y X 11,iv,pv],v,rv r] w (BPost w (MadeB r (ShdL (bs.getD 0 bf0) (P.getD 0 0) (P.getD 1 0) (P.getD 2 0) (P.getD 3 0)))):=by
 obtain ⟨⟨ia,il,ic,rfl⟩,hp,hv,hr,ha,hf⟩:=h;obtain ⟨tx0,ty0,tx1,ty1⟩:=r;obtain ⟨va,vn,vc,rfl⟩:=sl_form hv;obtain ⟨pa,pl,pc,rfl⟩:=sl_form hp;have HV:Hid (∀ W,Below w.heap.size w W→SlOf RBf 5 (·<W.heap.size) W (J va vn vc) bs):=fun W h=>bfs_below hv h;have HPL:Hid (∀ W,Below w.heap.size w W→SlOf RInt 1 (·<W.heap.size) W (J pa pl pc) P):=fun W h=>(hp.same RInt.ok (Same.of_below h fun b hb=>hb)).mono RInt.ok fun b hb=>I hb h.size;have HR:Hid (RcP ⟨tx0,ty0,tx1,ty1⟩∧areaR ⟨tx0,ty0,tx1,ty1⟩≤2000000∧HfB ⟨tx0,ty0,tx1,ty1⟩):=⟨hr,ha,hf⟩;have H0:Hid (Bag w (((w.alloc (.cells #[Y X 11,J ia il ic,J pa pl pc] 52)).alloc (.cells #[Y X tx0,Y X ty0,Y X tx1,Y X ty1] 25)).alloc (.cells #[Y X 0,Y X 0,Y X 0,Y X 0,J none 0 0] 43)) [(w.heap.size,[Y X 11,J ia il ic,J pa pl pc]),(w.heap.size+1,(qI tx0 ty0 tx1 ty1)),(w.heap.size+1+1,zS)]):=bag3 w [Y X 11,J ia il ic,J pa pl pc] (qI tx0 ty0 tx1 ty1) zS _ _ _;obtain ⟨Q,hQ⟩:∃ Q:Bf→Prop,Q=(MadeB ⟨tx0,ty0,tx1,ty1⟩ (ShdL (bs.getD 0 bf0) (P.getD 0 0) (P.getD 1 0) (P.getD 2 0) (P.getD 3 0))):=⟨_,rfl⟩;have HQQ:=N hQ;rw [←hQ];clear hr ha hf hQ;go_enter Tryz.func53,Tryz.ntmps53;go_wp2_with fail;generalize (((w.alloc (.cells #[Y X 11,J ia il ic,J pa pl pc] 52)).alloc (.cells #[Y X tx0,Y X ty0,Y X tx1,Y X ty1] 25)).alloc (.cells #[Y X 0,Y X 0,Y X 0,Y X 0,J none 0 0] 43))=W0 at *;have HB0:Hid (Below w.heap.size w W0):=H0.o.below;obtain ⟨ib,io,cap,ba,bn,bc,hveq,hcap,hcm,hcs,hbB⟩:=bfs_at (HV.o W0 HB0.o) (bf_get (i:=0) (by omega));simp only [L] at hveq;obtain ⟨rfl,hnn,rfl⟩:=hveq;obtain ⟨b,hb⟩:∃ b,b=bs.getD 0 ⟨Rc.zero,[]⟩:=⟨_,rfl⟩;have HBE:=N hb;rw [←hb] at hcs hbB;clear hb;obtain ⟨⟨bx0,by0,bx1,by1⟩,bp⟩:=b;have HBB:=N hbB;have hvl0:(0:Int)<(vn:Int):=by omega
 have hcap2:vn≤vc:=by rw [hnn];exact hcap
 unfold maxLen at hcm;have g0:W0.cell? ⟨ib,io,none⟩=some (Y X bx0):=by have h:=hcs 0 _ rfl;simpa using h
 have g1:W0.cell? ⟨ib,io+1,none⟩=some (Y X by0):=by have h:=hcs 1 _ rfl;simpa using h
 have g2:W0.cell? ⟨ib,io+2,none⟩=some (Y X bx1):=by have h:=hcs 2 _ rfl;simpa using h
 have g3:W0.cell? ⟨ib,io+3,none⟩=some (Y X by1):=by have h:=hcs 3 _ rfl;simpa using h
 have g4:W0.cell? ⟨ib,io+4,none⟩=some (J ba bn bc):=by have h:=hcs 4 _ rfl;simpa using h
 clear hcs hbB hcap hnn;obtain ⟨qa,qc,hq0,hq1,hq2,_,hqc⟩:=(HPL.o W0 HB0.o).ints;simp only [L] at hq0;obtain ⟨rfl,hq3,rfl⟩:=hq0;obtain ⟨pb,po,rfl,_,hpc⟩:=hqc 0 (by omega);have hpl1:pl≤pc:=by omega
 unfold maxLen at hq2;obtain ⟨q0,hq0'⟩:∃ q,q=P.getD 0 0:=⟨_,rfl⟩;have m0:W0.cell? ⟨pb,po,none⟩=some (Y X q0):=by rw [hq0'];have h:=hpc 0 (by omega);simpa using h
 have hpi0:(0:Int)<(pl:Int):=by omega
 obtain ⟨q1,hq1'⟩:∃ q,q=P.getD 1 0:=⟨_,rfl⟩;have m1:W0.cell? ⟨pb,po+1,none⟩=some (Y X q1):=by rw [hq1'];have h:=hpc 1 (by omega);simpa using h
 have hpi1:(1:Int)<(pl:Int):=by omega
 obtain ⟨q2,hq2'⟩:∃ q,q=P.getD 2 0:=⟨_,rfl⟩;have m2:W0.cell? ⟨pb,po+2,none⟩=some (Y X q2):=by rw [hq2'];have h:=hpc 2 (by omega);simpa using h
 have hpi2:(2:Int)<(pl:Int):=by omega
 obtain ⟨q3,hq3'⟩:∃ q,q=P.getD 3 0:=⟨_,rfl⟩;have m3:W0.cell? ⟨pb,po+3,none⟩=some (Y X q3):=by rw [hq3'];have h:=hpc 3 (by omega);simpa using h
 have hpi3:(3:Int)<(pl:Int):=by omega
 have HQ0:=N hq0';have HQ1:=N hq1';have HQ2:=N hq2';have HQ3:=N hq3';clear hqc hpc hq1 hq3 hq0' hq1' hq2' hq3';obtain ⟨e0,e1,e2,e3⟩:=(H0.o.box 1 rfl).c4;obtain ⟨pxl,hpx⟩:∃ z,z=ppx P 4:=⟨_,rfl⟩;have HPX:Hid (∀ W,Below w.heap.size w W→Calls Tryz.prog 88 #[J (some ⟨pb,po,none⟩) pl pc,Y X 4] W (PPost W (pxv pxl))):=fun W h=>by rw [hpx];exact pixel15_4_c (F:=(·<W.heap.size)) _ P W (fun b h=>h) (HPL.o W h) (by omega) hc
 have HPO:Hid pxl.Ok:=by
  rw [hpx];refine ⟨?_,?_,?_,?_⟩
  ·exact hc 0 (by omega)
  ·exact hc 1 (by omega)
  ·exact hc 2 (by omega)
  ·exact hc 3 (by omega)
 clear hpx;obtain ⟨kg0,kg1,kg2,kg3,kg4,km0,km1,km2⟩:=kept8 g0 g1 g2 g3 g4 m0 m1 m2;obtain ⟨km3,ke0,ke1,ke2,ke3⟩:=kept5 m3 e0 e1 e2 e3;clear g0 g1 g2 g3 g4 m0 m1 m2 m3 e0 e1 e2 e3;refine wp_region_kept_tail W0.heap.size 18 _ rfl (by kernel_rfl) (by kernel_rfl) ?_;simp only [Z,O,U,V]
 repeat (go_big_quiet_step (first
  |(go_at_call 88;with_reducible exact Calls.kept _ (E _) (HPX.o _ (HB0.o.trans ((Kept.below _).mono HB0.o.size))))))
 refine wpQuiet_nil ?_;intro s;refine ⟨?_⟩;have H1:=N (H0.o.call s.below);have HC:Hid (Calls Tryz.prog 91 #[.agg #[Y X bx0,Y X by0,Y X bx1,Y X by1,J ba bn bc],rv ⟨tx0,ty0,tx1,ty1⟩,Y X q0,Y X q1,Y X q2,Y X q3,pxv pxl] s.w (BPost s.w (MadeB ⟨tx0,ty0,tx1,ty1⟩ (ShdL ⟨⟨bx0,by0,bx1,by1⟩,bp⟩ q0 q1 q2 q3)))):=shadow10_c ⟨⟨bx0,by0,bx1,by1⟩,bp⟩ ⟨tx0,ty0,tx1,ty1⟩ q0 q1 q2 q3 pxl ba bn bc s.w (HBB.o.below s.below) HPO.o HR.o.1 HR.o.2.1 HR.o.2.2 (by rw [HQ0.o];exact hx) (by rw [HQ1.o];exact hy) (by rw [HQ2.o];exact hrx) (by rw [HQ3.o];exact hry) (by rw [HQ0.o,HQ1.o,HQ3.o];exact hg);clear kg0 kg1 kg2 kg3 kg4 km0 km1 km2 km3 ke0 ke1 ke2 ke3 H0;go_wp2_with fail
 (with_reducible refine HC.o.mono ?_);rintro e' W2 ⟨⟨⟨ox0,oy0,ox1,oy1⟩,op⟩,oa,on,oc,rfl,hb2,hov,hq2⟩
 have H2:=N (H1.o.call hb2);have HO:Hid (BfV W2 ⟨⟨ox0,oy0,ox1,oy1⟩,op⟩ (J oa on oc)∧Q ⟨⟨ox0,oy0,ox1,oy1⟩,op⟩):=⟨hov,by rw [HQQ.o];rw [←HBE.o,←HQ0.o,←HQ1.o,←HQ2.o,←HQ3.o];exact hq2⟩;clear hb2 hov hq2 HC;obtain ⟨r0,r1,r2,r3,r4⟩:=(H2.o.box 2 rfl).c5;obtain ⟨f0,f1,f2,f3,f4⟩:=(H2.o.box 2 rfl).f5;go_wp2_with fail;have h3:=bag_set5 H2.o 2 rfl (Y X ox0) (Y X oy0) (Y X ox1) (Y X oy1) (J oa on oc);exact ret_bf (r:=⟨ox0,oy0,ox1,oy1⟩) (s:=J oa on oc) rfl rfl (h3.box 2 rfl) rfl ⟨⟨⟨ox0,oy0,ox1,oy1⟩,op⟩,oa,on,oc,rfl,h3.below,HO.o.1.set5 (H2.o.box 2 rfl) _ _ _ _ _,HO.o.2⟩
theorem do5_c (iv pv v:Value) (P:List Int) (bs:List Bf) (r:Rc) (w:World) (h:DoIn w iv pv v P bs r) (hl:0<bs.length) (h5:P.length=20∧∀ j,j<20 → -32768≤P.getD j 0∧P.getD j 0≤32767):Calls Tryz.prog 53 #[.agg #[Y X 5,iv,pv],v,rv r] w (BPost w (MadeB r (MixL 5 P bs))):=by
 obtain ⟨⟨ia,il,ic,rfl⟩,hp,hv,hr,ha,hf⟩:=h;obtain ⟨tx0,ty0,tx1,ty1⟩:=r;obtain ⟨va,vn,vc,rfl⟩:=sl_form hv;obtain ⟨pa,pl,pc,rfl⟩:=sl_form hp;have HV:Hid (∀ W,Below w.heap.size w W→SlOf RBf 5 (·<W.heap.size) W (J va vn vc) bs):=fun W h=>bfs_below hv h;have HPL:Hid (∀ W,Below w.heap.size w W→SlOf RInt 1 (·<W.heap.size) W (J pa pl pc) P):=fun W h=>(hp.same RInt.ok (Same.of_below h fun b hb=>hb)).mono RInt.ok fun b hb=>I hb h.size;have HR:Hid (RcP ⟨tx0,ty0,tx1,ty1⟩∧areaR ⟨tx0,ty0,tx1,ty1⟩≤2000000∧HfB ⟨tx0,ty0,tx1,ty1⟩):=⟨hr,ha,hf⟩;have H0:Hid (Bag w (((w.alloc (.cells #[Y X 5,J ia il ic,J pa pl pc] 52)).alloc (.cells #[Y X tx0,Y X ty0,Y X tx1,Y X ty1] 25)).alloc (.cells #[Y X 0,Y X 0,Y X 0,Y X 0,J none 0 0] 43)) [(w.heap.size,[Y X 5,J ia il ic,J pa pl pc]),(w.heap.size+1,(qI tx0 ty0 tx1 ty1)),(w.heap.size+1+1,zS)]):=bag3 w [Y X 5,J ia il ic,J pa pl pc] (qI tx0 ty0 tx1 ty1) zS _ _ _;obtain ⟨Q,hQ⟩:∃ Q:Bf→Prop,Q=(MadeB ⟨tx0,ty0,tx1,ty1⟩ (MixL 5 P bs)):=⟨_,rfl⟩;have HQQ:=N hQ;rw [←hQ];clear hr ha hf hQ;go_enter Tryz.func53,Tryz.ntmps53;go_wp2_with fail;generalize (((w.alloc (.cells #[Y X 5,J ia il ic,J pa pl pc] 52)).alloc (.cells #[Y X tx0,Y X ty0,Y X tx1,Y X ty1] 25)).alloc (.cells #[Y X 0,Y X 0,Y X 0,Y X 0,J none 0 0] 43))=W0 at *;have HB0:Hid (Below w.heap.size w W0):=H0.o.below;obtain ⟨e0,e1,e2,e3⟩:=(H0.o.box 1 rfl).c4;obtain ⟨n0,n1,n2⟩:=(H0.o.box 0 rfl).c3;have HC:Hid (Calls Tryz.prog 93 #[.agg #[Y X 5,J ia il ic,J pa pl pc],J va vn vc,rv ⟨tx0,ty0,tx1,ty1⟩] W0 (BPost W0 (MadeB ⟨tx0,ty0,tx1,ty1⟩ (MixL 5 P bs)))):=mixed15_c 5 _ _ _ P bs ⟨tx0,ty0,tx1,ty1⟩ W0 ⟨_,_,_,rfl⟩ (HPL.o W0 HB0.o) (HV.o W0 HB0.o) hl (by decide) (fun _=>h5) (fun h=>absurd rfl h) HR.o.1 HR.o.2.1;go_wp2_with fail
 (with_reducible refine HC.o.mono ?_);rintro e' W2 ⟨⟨⟨ox0,oy0,ox1,oy1⟩,op⟩,oa,on,oc,rfl,hb2,hov,hq2⟩
 have H2:=N (H0.o.call hb2);have HO:Hid (BfV W2 ⟨⟨ox0,oy0,ox1,oy1⟩,op⟩ (J oa on oc)∧Q ⟨⟨ox0,oy0,ox1,oy1⟩,op⟩):=⟨hov,by rw [HQQ.o];exact hq2⟩;clear hb2 hov hq2 HC;obtain ⟨r0,r1,r2,r3,r4⟩:=(H2.o.box 2 rfl).c5;obtain ⟨f0,f1,f2,f3,f4⟩:=(H2.o.box 2 rfl).f5;go_wp2_with fail;have h3:=bag_set5 H2.o 2 rfl (Y X ox0) (Y X oy0) (Y X ox1) (Y X oy1) (J oa on oc);exact ret_bf (r:=⟨ox0,oy0,ox1,oy1⟩) (s:=J oa on oc) rfl rfl (h3.box 2 rfl) rfl ⟨⟨⟨ox0,oy0,ox1,oy1⟩,op⟩,oa,on,oc,rfl,h3.below,HO.o.1.set5 (H2.o.box 2 rfl) _ _ _ _ _,HO.o.2⟩
theorem do7_c (iv pv v:Value) (P:List Int) (bs:List Bf) (r:Rc) (w:World) (h:DoIn w iv pv v P bs r) (hl:0<bs.length) (h78:bs.length=2∧P.length=1):Calls Tryz.prog 53 #[.agg #[Y X 7,iv,pv],v,rv r] w (BPost w (MadeB r (MixL 7 P bs))):=by
 obtain ⟨⟨ia,il,ic,rfl⟩,hp,hv,hr,ha,hf⟩:=h;obtain ⟨tx0,ty0,tx1,ty1⟩:=r;obtain ⟨va,vn,vc,rfl⟩:=sl_form hv;obtain ⟨pa,pl,pc,rfl⟩:=sl_form hp;have HV:Hid (∀ W,Below w.heap.size w W→SlOf RBf 5 (·<W.heap.size) W (J va vn vc) bs):=fun W h=>bfs_below hv h;have HPL:Hid (∀ W,Below w.heap.size w W→SlOf RInt 1 (·<W.heap.size) W (J pa pl pc) P):=fun W h=>(hp.same RInt.ok (Same.of_below h fun b hb=>hb)).mono RInt.ok fun b hb=>I hb h.size;have HR:Hid (RcP ⟨tx0,ty0,tx1,ty1⟩∧areaR ⟨tx0,ty0,tx1,ty1⟩≤2000000∧HfB ⟨tx0,ty0,tx1,ty1⟩):=⟨hr,ha,hf⟩;have H0:Hid (Bag w (((w.alloc (.cells #[Y X 7,J ia il ic,J pa pl pc] 52)).alloc (.cells #[Y X tx0,Y X ty0,Y X tx1,Y X ty1] 25)).alloc (.cells #[Y X 0,Y X 0,Y X 0,Y X 0,J none 0 0] 43)) [(w.heap.size,[Y X 7,J ia il ic,J pa pl pc]),(w.heap.size+1,(qI tx0 ty0 tx1 ty1)),(w.heap.size+1+1,zS)]):=bag3 w [Y X 7,J ia il ic,J pa pl pc] (qI tx0 ty0 tx1 ty1) zS _ _ _;obtain ⟨Q,hQ⟩:∃ Q:Bf→Prop,Q=(MadeB ⟨tx0,ty0,tx1,ty1⟩ (MixL 7 P bs)):=⟨_,rfl⟩;have HQQ:=N hQ;rw [←hQ];clear hr ha hf hQ;go_enter Tryz.func53,Tryz.ntmps53;go_wp2_with fail;generalize (((w.alloc (.cells #[Y X 7,J ia il ic,J pa pl pc] 52)).alloc (.cells #[Y X tx0,Y X ty0,Y X tx1,Y X ty1] 25)).alloc (.cells #[Y X 0,Y X 0,Y X 0,Y X 0,J none 0 0] 43))=W0 at *;have HB0:Hid (Below w.heap.size w W0):=H0.o.below;obtain ⟨e0,e1,e2,e3⟩:=(H0.o.box 1 rfl).c4;obtain ⟨n0,n1,n2⟩:=(H0.o.box 0 rfl).c3;have HC:Hid (Calls Tryz.prog 93 #[.agg #[Y X 7,J ia il ic,J pa pl pc],J va vn vc,rv ⟨tx0,ty0,tx1,ty1⟩] W0 (BPost W0 (MadeB ⟨tx0,ty0,tx1,ty1⟩ (MixL 7 P bs)))):=mixed15_c 7 _ _ _ P bs ⟨tx0,ty0,tx1,ty1⟩ W0 ⟨_,_,_,rfl⟩ (HPL.o W0 HB0.o) (HV.o W0 HB0.o) hl (by decide) (fun h=>absurd h (by decide)) (fun _=>h78) HR.o.1 HR.o.2.1;go_wp2_with fail
 (with_reducible refine HC.o.mono ?_);rintro e' W2 ⟨⟨⟨ox0,oy0,ox1,oy1⟩,op⟩,oa,on,oc,rfl,hb2,hov,hq2⟩
 have H2:=N (H0.o.call hb2);have HO:Hid (BfV W2 ⟨⟨ox0,oy0,ox1,oy1⟩,op⟩ (J oa on oc)∧Q ⟨⟨ox0,oy0,ox1,oy1⟩,op⟩):=⟨hov,by rw [HQQ.o];exact hq2⟩;clear hb2 hov hq2 HC;obtain ⟨r0,r1,r2,r3,r4⟩:=(H2.o.box 2 rfl).c5;obtain ⟨f0,f1,f2,f3,f4⟩:=(H2.o.box 2 rfl).f5;go_wp2_with fail;have h3:=bag_set5 H2.o 2 rfl (Y X ox0) (Y X oy0) (Y X ox1) (Y X oy1) (J oa on oc);exact ret_bf (r:=⟨ox0,oy0,ox1,oy1⟩) (s:=J oa on oc) rfl rfl (h3.box 2 rfl) rfl ⟨⟨⟨ox0,oy0,ox1,oy1⟩,op⟩,oa,on,oc,rfl,h3.below,HO.o.1.set5 (H2.o.box 2 rfl) _ _ _ _ _,HO.o.2⟩
theorem do8_c (iv pv v:Value) (P:List Int) (bs:List Bf) (r:Rc) (w:World) (h:DoIn w iv pv v P bs r) (hl:0<bs.length) (h78:bs.length=2∧P.length=1):Calls Tryz.prog 53 #[.agg #[Y X 8,iv,pv],v,rv r] w (BPost w (MadeB r (MixL 8 P bs))):=by
 obtain ⟨⟨ia,il,ic,rfl⟩,hp,hv,hr,ha,hf⟩:=h;obtain ⟨tx0,ty0,tx1,ty1⟩:=r;obtain ⟨va,vn,vc,rfl⟩:=sl_form hv;obtain ⟨pa,pl,pc,rfl⟩:=sl_form hp;have HV:Hid (∀ W,Below w.heap.size w W→SlOf RBf 5 (·<W.heap.size) W (J va vn vc) bs):=fun W h=>bfs_below hv h;have HPL:Hid (∀ W,Below w.heap.size w W→SlOf RInt 1 (·<W.heap.size) W (J pa pl pc) P):=fun W h=>(hp.same RInt.ok (Same.of_below h fun b hb=>hb)).mono RInt.ok fun b hb=>I hb h.size;have HR:Hid (RcP ⟨tx0,ty0,tx1,ty1⟩∧areaR ⟨tx0,ty0,tx1,ty1⟩≤2000000∧HfB ⟨tx0,ty0,tx1,ty1⟩):=⟨hr,ha,hf⟩;have H0:Hid (Bag w (((w.alloc (.cells #[Y X 8,J ia il ic,J pa pl pc] 52)).alloc (.cells #[Y X tx0,Y X ty0,Y X tx1,Y X ty1] 25)).alloc (.cells #[Y X 0,Y X 0,Y X 0,Y X 0,J none 0 0] 43)) [(w.heap.size,[Y X 8,J ia il ic,J pa pl pc]),(w.heap.size+1,(qI tx0 ty0 tx1 ty1)),(w.heap.size+1+1,zS)]):=bag3 w [Y X 8,J ia il ic,J pa pl pc] (qI tx0 ty0 tx1 ty1) zS _ _ _;obtain ⟨Q,hQ⟩:∃ Q:Bf→Prop,Q=(MadeB ⟨tx0,ty0,tx1,ty1⟩ (MixL 8 P bs)):=⟨_,rfl⟩;have HQQ:=N hQ;rw [←hQ];clear hr ha hf hQ;go_enter Tryz.func53,Tryz.ntmps53;go_wp2_with fail;generalize (((w.alloc (.cells #[Y X 8,J ia il ic,J pa pl pc] 52)).alloc (.cells #[Y X tx0,Y X ty0,Y X tx1,Y X ty1] 25)).alloc (.cells #[Y X 0,Y X 0,Y X 0,Y X 0,J none 0 0] 43))=W0 at *;have HB0:Hid (Below w.heap.size w W0):=H0.o.below;obtain ⟨e0,e1,e2,e3⟩:=(H0.o.box 1 rfl).c4;obtain ⟨n0,n1,n2⟩:=(H0.o.box 0 rfl).c3;have HC:Hid (Calls Tryz.prog 93 #[.agg #[Y X 8,J ia il ic,J pa pl pc],J va vn vc,rv ⟨tx0,ty0,tx1,ty1⟩] W0 (BPost W0 (MadeB ⟨tx0,ty0,tx1,ty1⟩ (MixL 8 P bs)))):=mixed15_c 8 _ _ _ P bs ⟨tx0,ty0,tx1,ty1⟩ W0 ⟨_,_,_,rfl⟩ (HPL.o W0 HB0.o) (HV.o W0 HB0.o) hl (by decide) (fun h=>absurd h (by decide)) (fun _=>h78) HR.o.1 HR.o.2.1;go_wp2_with fail
 (with_reducible refine HC.o.mono ?_);rintro e' W2 ⟨⟨⟨ox0,oy0,ox1,oy1⟩,op⟩,oa,on,oc,rfl,hb2,hov,hq2⟩
 have H2:=N (H0.o.call hb2);have HO:Hid (BfV W2 ⟨⟨ox0,oy0,ox1,oy1⟩,op⟩ (J oa on oc)∧Q ⟨⟨ox0,oy0,ox1,oy1⟩,op⟩):=⟨hov,by rw [HQQ.o];exact hq2⟩;clear hb2 hov hq2 HC;obtain ⟨r0,r1,r2,r3,r4⟩:=(H2.o.box 2 rfl).c5;obtain ⟨f0,f1,f2,f3,f4⟩:=(H2.o.box 2 rfl).f5;go_wp2_with fail;have h3:=bag_set5 H2.o 2 rfl (Y X ox0) (Y X oy0) (Y X ox1) (Y X oy1) (J oa on oc);exact ret_bf (r:=⟨ox0,oy0,ox1,oy1⟩) (s:=J oa on oc) rfl rfl (h3.box 2 rfl) rfl ⟨⟨⟨ox0,oy0,ox1,oy1⟩,op⟩,oa,on,oc,rfl,h3.below,HO.o.1.set5 (H2.o.box 2 rfl) _ _ _ _ _,HO.o.2⟩
end Go.Proofs.YtgodhpampaleeaaGreatDoor
namespace Go.Proofs.YtgodhpampaleeaaGreatDoor
open Go.RowKit Go.Bx Go.Od Go.Hp
def Nr27 (x y:Int):Prop:=(-134217728≤x∧x≤134217728)∧(-134217728≤y∧y≤134217728)
theorem has_wi {a b:Rc} (h:WiS a b) {x y:Int} (ha:hasR a x y=true):hasR b x y=true:=by
 rw [hasR_iff] at ha ⊢
 rcases h with h|h
 ·rw [emp_iff] at h;omega
 ·omega
theorem has_ne {r:Rc} {x y:Int} (h:hasR r x y=true):r.emp=false:=by
 rw [hasR_iff] at h;rw [emp_ff];omega
theorem has_plane {x y:Int} (h:Nr27 x y):hasR planeR x y=true:=by
 unfold Nr27 at h;rw [hasR_iff];unfold planeR;dsimp only;omega
theorem has_meet {a b:Rc} {x y:Int} (h1:hasR a x y=true) (h2:hasR b x y=true):hasR (meetR a b) x y=true:=by
 unfold meetR;rw [has_box];rw [hasR_iff] at *;dsimp only;omega
theorem has_meet2 {a b:Rc} {x y:Int} (h:hasR (meetR a b) x y=true):hasR a x y=true∧hasR b x y=true:=by
 unfold meetR at h;rw [has_box] at h;rw [hasR_iff] at *;rw [hasR_iff];dsimp only at h;omega
theorem has_wh {r:Rc} {x y:Int} (hn:Nr27 x y) (h:hasR r x y=true):hasR (whR r) x y=true:=by
 unfold whR;rw [has_box];unfold Nr27 at hn;rw [hasR_iff] at *;unfold clipR clip;dsimp only;omega
theorem has_move {r:Rc} {dx dy x y:Int} (hn:Nr27 x y) (hd:(-4194304≤dx∧dx≤4194304)∧(-4194304≤dy∧dy≤4194304)) (h:hasR r (x-dx) (y-dy)=true):hasR (moveR r dx dy) x y=true:=by
 unfold moveR;rw [has_ne h,if_neg (by decide)];refine has_wh hn ?_;unfold Nr27 at hn;rw [hasR_iff] at *;have hm:∀ e b v:Int,(-134217728≤v∧v≤134217728)→(-4194304≤b∧b≤4194304)→(e≤v-b→movedR e b≤v)∧(v-b<e→v<movedR e b):=fun e b v h1 h2=>by
  unfold movedR
  split
  ·omega
  ·omega
 dsimp only;exact ⟨⟨(hm _ _ _ hn.1 hd.1).1 h.1.1,(hm _ _ _ hn.1 hd.1).2 h.1.2⟩,(hm _ _ _ hn.2 hd.2).1 h.2.1,(hm _ _ _ hn.2 hd.2).2 h.2.2⟩
theorem has_grow {r:Rc} {a b c d x y u v:Int} (hn:Nr27 x y) (h:hasR r u v=true) (hx:u-a≤x∧x≤u+c) (hy:v-b≤y∧y≤v+d):hasR (growR r a b c d) x y=true:=by
 unfold growR;rw [has_ne h,if_neg (by decide)];refine has_wh hn ?_;rw [hasR_iff] at *;dsimp only;omega
theorem has_jl {a b:Rc} {x y:Int} (h:hasR a x y=true):hasR (joinR a b) x y=true:=has_wi (join_l a b) h
theorem has_jr {a b:Rc} {x y:Int} (h:hasR b x y=true):hasR (joinR a b) x y=true:=has_wi (join_r a b) h
theorem has_fold:∀ (l:List Rc) (a:Rc) (x y:Int),(hasR a x y=true∨∃ r∈l,hasR r x y=true)→hasR (l.foldl joinR a) x y=true
 |[],a,x,y,h=>by
  rcases h with h|⟨r,hr,_⟩
  ·exact h
  ·cases hr
 |q::l,a,x,y,h=>has_fold l (joinR a q) x y (by
  rcases h with h|⟨r,hr,h⟩
  ·exact .inl (has_jl h)
  ·rcases List.mem_cons.1 hr with rfl|hr
   ·exact .inl (has_jr h)
   ·exact .inr ⟨r,hr,h⟩)
def SupL (bs:List Bf) (l:List Rc):Prop:=bs.length=l.length∧∀ i,Sup (bs.getD i bf0) (l.getD i Rc.zero)
theorem SupL.fold {bs:List Bf} {l:List Rc} (h:SupL bs l) {i:Nat} {x y:Int} (hne:atB (bs.getD i bf0) x y≠Px.zero):hasR (l.foldl joinR Rc.zero) x y=true:=by
 have h1:=h.2 i x y hne;by_cases hi:i<l.length
 ·refine has_fold _ _ _ _ (.inr ⟨l.getD i Rc.zero,?_,h1⟩);rw [T,List.getElem?_eq_getElem hi];exact List.getElem_mem _
 ·rw [T,List.getElem?_eq_none (by omega)] at h1;rw [show (none:Option Rc).getD Rc.zero=Rc.zero from rfl,has_zero] at h1;cases h1
structure DoW (nd:Nd) (r:Rc):Prop where
 hf:HfB r
 ar:areaR r≤20000
 rad:nd.op=2∨nd.op=3∨nd.op=4→par nd 0≤9∧par nd 1≤9
 shd:nd.op=11→par nd 2≤9∧par nd 3≤9
theorem hf_pl {r:Rc} (h:HfB r):RcP r:=by
 unfold HfB at h;refine ⟨?_,?_,?_,?_⟩<;>(unfold Pl;omega)
theorem hf_nr {r:Rc} (h:HfB r) {x y:Int} (hxy:hasR r x y=true):Nr27 x y:=by
 unfold HfB at h;rw [hasR_iff] at hxy;unfold Nr27;omega
theorem grow_area {r:Rc} {q:Int} (h:(-67108864≤r.x0∧r.x1≤67108864)∧(-67108864≤r.y0∧r.y1≤67108864)) (ha:areaR r≤20000) (hq:0≤q∧q≤9):areaR (grow3R r 0 q 0 q)≤2000000:=by
 have he:(areaN (grow3R r 0 q 0 q):Int)≤2000000∧areaR (grow3R r 0 q 0 q)≤(areaN (grow3R r 0 q 0 q):Int):=by
  have hle:∀ s:Rc,areaR s≤(areaN s:Int):=fun s=>by
   unfold areaR areaN;cases hs:s.emp with
   |true=>simp
   |false=>
    rw [emp_ff] at hs;have h0:=Int.mul_nonneg (a:=s.x1-s.x0) (b:=s.y1-s.y0) (by omega) (by omega);simp only [Bool.false_eq_true,if_false]
    split
    ·rename_i h1;have h2:2305843009213693952≤(s.x1-s.x0)*(s.y1-s.y0):=by
      have h3:=Int.lt_mul_of_ediv_lt (show 0<s.y1-s.y0 by omega) h1;omega
     omega
    ·omega
  refine ⟨?_,hle _⟩;unfold grow3R;cases hs:r.emp with
  |true=>rw [if_pos rfl];decide
  |false=>
   rw [if_neg (by decide),area_box];have h1:=area_eq (r:=r) (by omega);rw [emp_ff] at hs;unfold areaN at h1;rw [(emp_ff r).2 hs,if_neg (by decide)] at h1;have e:∀ n:Int,(-67108864≤n+9∧n≤67108864+9)→cutP n=n:=fun n hn=>by unfold cutP;omega
   unfold areaN;rw [(emp_ff _).2 (by dsimp only;rw [e _ (by omega),e _ (by omega),e _ (by omega),e _ (by omega)];omega),if_neg (by decide)];dsimp only;rw [e _ (by omega),e _ (by omega),e _ (by omega),e _ (by omega)];have h0:=Int.mul_nonneg (a:=r.x1-r.x0) (b:=r.y1-r.y0) (by omega) (by omega);have h2:r.x1-r.x0≤(r.x1-r.x0)*(r.y1-r.y0):=by
    have h5:(r.x1-r.x0)*1≤(r.x1-r.x0)*(r.y1-r.y0):=Int.mul_le_mul_of_nonneg_left (by omega) (by omega);rw [Int.mul_one] at h5;exact h5
   have h3:(r.x1+0-(r.x0-0))*(r.y1+q-(r.y0-q))=(r.x1-r.x0)*(r.y1-r.y0)+(r.x1-r.x0)*(2*q):=by
    rw [←Int.mul_add]
    congr 1<;>omega
   have h4:(r.x1-r.x0)*(2*q)≤20000*18:=Int.mul_le_mul (by omega) (by omega) (by omega) (by omega);rw [h3];omega
 omega
theorem do15_c (op:Int) (ins:List Int) (iv pv v:Value) (P:List Int) (bs:List Bf) (l:List Rc) (r:Rc) (w:World) (hok:RaOk ⟨op,ins,P⟩) (hiv:∃ a n c,iv=J a n c) (hp:SlOf RInt 1 (·<w.heap.size) w pv P) (hv:SlOf RBf 5 (·<w.heap.size) w v bs) (hlen:bs.length=ins.length) (hs:SupL bs l) (hw:DoW ⟨op,ins,P⟩ r):
  Calls Tryz.prog 53 #[.agg #[Y X op,iv,pv],v,rv r] w (BPost w fun o=>o.box=boxR r∧Sup o (reachN ⟨op,ins,P⟩ l)):=by
 have hin:DoIn w iv pv v P bs r:=⟨hiv,hp,hv,hf_pl hw.hf,by have:=hw.ar;omega,hw.hf⟩;have hbx:∀ {o:Bf},o.box=boxR r→∀ {x y:Int},atB o x y≠Px.zero→hasR r x y=true∧Nr27 x y:=fun {o} ho {x y} hne=>by
  have h:hasR r x y=true:=by
   cases hc:hasR r x y with
   |true=>rfl
   |false=>exact absurd (atB_out (by rw [ho,has_box];exact hc)) hne
  exact ⟨h,hf_nr hw.hf h⟩
 have hop:=hok.op;have hpm:∀ {Q:Bf→Prop},Calls Tryz.prog 53 #[.agg #[Y X op,iv,pv],v,rv r] w (BPost w Q)→(∀ o,Q o→o.box=boxR r∧Sup o (reachN ⟨op,ins,P⟩ l))→Calls Tryz.prog 53 #[.agg #[Y X op,iv,pv],v,rv r] w (BPost w fun o=>o.box=boxR r∧Sup o (reachN ⟨op,ins,P⟩ l)):=
  fun h k=>h.mono fun e w' ⟨b,a,n,c,h1,h2,h3,h4⟩=>⟨b,a,n,c,h1,h2,h3,k b h4⟩
 have hone:op≠6→0<bs.length:=fun h=>by rw [hlen];exact hok.one h
 have h0:=hs.2 0;have hcase:op=1∨op=2∨op=3∨op=4∨op=5∨op=6∨op=7∨op=8∨op=9∨op=10∨op=11∨op=12:=by dsimp only at hop;omega
 dsimp only at hop;have hmv:=hok.pa.mv;have hgr:=hok.pa.gr;have hbx4:=hok.pa.bx;have hshp:=hok.pa.sh;have hrad:=hw.rad;have hshd:=hw.shd;unfold par at hrad hshd;dsimp only at hmv hgr hbx4 hshp hrad hshd
 rcases hcase with rfl|rfl|rfl|rfl|rfl|rfl|rfl|rfl|rfl|rfl|rfl|rfl
 ·have hm:=hmv (by omega);refine hpm (do1_c iv pv v P bs r w hin (hone (by decide)) hm.1 (by omega) (by omega)) fun o ho=>⟨ho.1,fun x y hne=>?_⟩;have hb:=hbx ho.1 hne;rw [ho.2 x y,if_pos ⟨hb.1,hb.1⟩] at hne;show hasR (moveR (l.getD 0 Rc.zero) (P.getD 0 0) (P.getD 1 0)) x y=true;exact has_move hb.2 (by omega) (h0 _ _ hne)
 ·have hg:=hgr (by omega);have hd:=hrad (by omega);refine hpm (do2_c iv pv v P bs r w hin (hone (by decide)) hg.1 hg.2.1 hg.2.2 (grow_area (by have:=hw.hf;unfold HfB at this;omega) hw.ar (by omega))) fun o ho=>⟨ho.1,fun x y hne=>?_⟩;have hb:=hbx ho.1 hne;obtain ⟨u,v',h1,h2,h3⟩:=ho.2 x y hb.1 hne;show hasR (growR (l.getD 0 Rc.zero) (P.getD 0 0) (P.getD 1 0) (P.getD 0 0) (P.getD 1 0)) x y=true;exact has_grow hb.2 (h0 _ _ h3) (by omega) (by omega)
 ·have hg:=hgr (by omega);refine hpm (do3_c iv pv v P bs r w hin (hone (by decide)) hg.1 hg.2.1 hg.2.2) fun o ho=>⟨ho.1,fun x y hne=>?_⟩;have hb:=hbx ho.1 hne;have h1:=ho.2 x y hb.1 hne;rw [if_neg (by decide)] at h1;show hasR (someR (l.getD 0 Rc.zero)) x y=true;rw [has_some];exact h0 _ _ h1
 ·have hg:=hgr (by omega);refine hpm (do4_c iv pv v P bs r w hin (hone (by decide)) hg.1 hg.2.1 hg.2.2) fun o ho=>⟨ho.1,fun x y hne=>?_⟩;have hb:=hbx ho.1 hne;have h1:=ho.2 x y hb.1 hne;rw [if_pos rfl] at h1;obtain ⟨u,v',h1,h2,h3⟩:=h1;show hasR (growR (l.getD 0 Rc.zero) (P.getD 0 0) (P.getD 1 0) (P.getD 0 0) (P.getD 1 0)) x y=true;exact has_grow hb.2 (h0 _ _ h3) (by omega) (by omega)
 ·have hm:=hok.mt rfl;refine hpm (do5_c iv pv v P bs r w hin (hone (by decide)) hm) fun o ho=>⟨ho.1,fun x y hne=>?_⟩;have hb:=hbx ho.1 hne;show hasR (if calmB P=true then someR (l.getD 0 Rc.zero) else planeR) x y=true
  split
  ·rename_i hc
   rcases ho.2 x y hb.1 hne with ⟨_,h1⟩|⟨h1,_⟩
   ·rw [has_some];exact h0 _ _ (h1 hc)
   ·exact absurd rfl h1
  ·exact has_plane hb.2
 ·have hm:=hok.fl rfl;refine hpm (do6_c iv pv v P bs r w hin hm.1 hm.2.1) fun o ho=>⟨ho.1,fun x y hne=>?_⟩;have hb:=hbx ho.1 hne;have h1:=ho.2 x y;show hasR (if floodB ⟨6,ins,P⟩=true then Rc.zero else someR (pbox (P.drop 4))) x y=true
  split
  ·rename_i hz;exfalso;have hz':P.getD 0 0+P.getD 1 0+P.getD 2 0+P.getD 3 0=0:=by
    unfold floodB par at hz
    simpa using hz
   have g0:0≤P.getD 0 0:=(hm.2.1 0 (by omega)).1;have g1:0≤P.getD 1 0:=(hm.2.1 1 (by omega)).1;have g2:0≤P.getD 2 0:=(hm.2.1 2 (by omega)).1;have g3:0≤P.getD 3 0:=(hm.2.1 3 (by omega)).1;have hp0:ppx P 0=Px.zero:=by
    unfold ppx Px.zero;have e0:P.getD 0 0=0:=by omega
    have e1:P.getD (0+1) 0=0:=by show P.getD 1 0=0;omega
    have e2:P.getD (0+2) 0=0:=by show P.getD 2 0=0;omega
    have e3:P.getD (0+3) 0=0:=by show P.getD 3 0=0;omega
    rw [e0,e1,e2,e3]
   rw [hp0] at h1;refine hne ?_;rw [h1]
   split<;>rfl
  ·rw [has_some,←pbx_drop];cases hc:hasR (pbx P 4) x y with
   |true=>rfl
   |false=>
    rw [hc,if_neg (by simp)] at h1;exact absurd h1 hne
 ·have hm:=hok.two (.inl rfl);refine hpm (do7_c iv pv v P bs r w hin (hone (by decide)) ⟨by rw [hlen];exact hm.1,hm.2⟩) fun o ho=>⟨ho.1,fun x y hne=>?_⟩;have hb:=hbx ho.1 hne;show hasR (l.foldl joinR Rc.zero) x y=true
  rcases ho.2 x y hb.1 hne with ⟨h1,_⟩|⟨_,h1|h1⟩
  ·exact absurd h1 (by decide)
  ·exact hs.fold h1
  ·exact hs.fold h1
 ·have hm:=hok.two (.inr rfl);refine hpm (do8_c iv pv v P bs r w hin (hone (by decide)) ⟨by rw [hlen];exact hm.1,hm.2⟩) fun o ho=>⟨ho.1,fun x y hne=>?_⟩;have hb:=hbx ho.1 hne;show hasR (l.foldl joinR Rc.zero) x y=true
  rcases ho.2 x y hb.1 hne with ⟨h1,_⟩|⟨_,h1|h1⟩
  ·exact absurd h1 (by decide)
  ·exact hs.fold h1
  ·exact hs.fold h1
 ·refine hpm (do9_c iv pv v P bs r w hin) fun o ho=>⟨ho.1,fun x y hne=>?_⟩;show hasR (l.foldl joinR Rc.zero) x y=true;obtain ⟨b,hb,h1⟩:=ho.2 x y hne;obtain ⟨i,hi⟩:=List.getElem?_of_mem hb;refine hs.fold (i:=i) ?_;rw [T,hi];exact h1
 ·have hm:=hbx4 (by omega);have ht:=hok.ti rfl;unfold par at ht;dsimp only at ht;obtain ⟨⟨p0,p1⟩,⟨p2,p3⟩,_,_⟩:=hm.2;unfold pbox at p0 p1 p2 p3;dsimp only at p0 p1 p2 p3;refine hpm (do10_c iv pv v P bs r w hin (hone (by decide)) hm.1 ⟨p0,p1,p2,p3⟩ (by show 0<P.getD 2 0-P.getD 0 0∧P.getD 2 0-P.getD 0 0≤4096∧0<P.getD 3 0-P.getD 1 0∧P.getD 3 0-P.getD 1 0≤4096;omega)) fun o ho=>⟨ho.1,fun x y hne=>?_⟩;have hb:=hbx ho.1 hne;obtain ⟨u,v',h1,h2⟩:=ho.2 x y hb.1;rw [h2] at hne;have h3:=has_meet (h0 _ _ hne) h1;show hasR (if (meetR (l.getD 0 Rc.zero) (pbox P)).emp=true then Rc.zero else planeR) x y=true;rw [show pbox P=pbx P 0 from rfl,has_ne h3,if_neg (by decide)];exact has_plane hb.2
 ·have hm:=hmv (by omega);have hg:=hok.sh rfl;have hsh:=hshp rfl;have hd:=hshd rfl;unfold par at hg;dsimp only at hg;have hfr:=hw.hf;unfold HfB at hfr;refine hpm (do11_c iv pv v P bs r w hin (hone (by decide)) hg.1 (by omega) (by omega) hsh.2.1 hsh.2.2 hg.2 (grow_area (by unfold shR;dsimp only;omega) (by rw [shR_areaR];exact hw.ar) (by omega))) fun o ho=>⟨ho.1,fun x y hne=>?_⟩;have hb:=hbx ho.1 hne;show hasR (joinR (l.getD 0 Rc.zero) (growR (moveR (l.getD 0 Rc.zero) (P.getD 0 0) (P.getD 1 0)) (P.getD 2 0) (P.getD 3 0) (P.getD 2 0) (P.getD 3 0))) x y=true
  rcases ho.2 x y hb.1 hne with h1|⟨u,v',h1,h2,h3⟩
  ·exact has_jl (h0 _ _ h1)
  ·refine has_jr (has_grow (u:=u+P.getD 0 0) (v:=v'+P.getD 1 0) hb.2 ?_ (by omega) (by omega));have hxn:=hb.1;rw [hasR_iff] at hxn;refine has_move (by unfold Nr27;omega) (by omega) ?_;rw [show u+P.getD 0 0-P.getD 0 0=u by omega,show v'+P.getD 1 0-P.getD 1 0=v' by omega];exact h0 _ _ h3
 ·have hm:=hbx4 (by omega);refine hpm (do12_c iv pv v P bs r w hin (hone (by decide)) hm.1) fun o ho=>⟨ho.1,fun x y hne=>?_⟩;have h1:=ho.2 x y;show hasR (meetR (l.getD 0 Rc.zero) (pbox P)) x y=true;cases hc:hasR (pbx P 0) x y with
  |true=>
   rw [h1] at hne
   split at hne
   ·rw [Int.sub_zero,Int.sub_zero] at hne;exact has_meet (h0 _ _ hne) hc
   ·exact absurd rfl hne
  |false=>
   rw [hc,if_neg (by simp)] at h1;exact absurd h1 hne
end Go.Proofs.YtgodhpampaleeaaGreatDoor
