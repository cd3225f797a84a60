/- Texts joined: Up Uq Ut Us. -/
import Derived.Test.YtgodhpampaleeaaGreatDoorM20
import Derived.Test.YtgodhpampaleeaaGreatDoorM02
import Derived.Test.YtgodhpampaleeaaGreatDoorM06
import Derived.Test.YtgodhpampaleeaaGreatDoorM10
open Go.Value renaming int→Y,slice→Z
open Go.IntKind renaming i64→X,u8→J
open List renaming setIfInBounds_toArray→O,set_cons_succ→U,set_cons_zero→V,drop_zero→I
open Nat renaming le_refl→T,le_trans→K,lt_of_lt_of_le→D
open Go.Lib renaming hid→C
set_option maxRecDepth 8000
set_option maxHeartbeats 51200000
set_option linter.unusedVariables false
namespace Go.Proofs.YtgodhpampaleeaaGreatDoor
open Go.RowKit Go.Bx Go.Od Go.Hp
attribute [local go_sem ↓] Go.wp_at_zero Go.wp_at_succ
theorem wgh_step (f:Nat) (HK:WghC f) (HS:WgsC f):WghC (f+1):=by
 intro N h B l cs n want w hl hB htb hok hfew hn hf hf2;obtain ⟨tx0,ty0,tx1,ty1⟩:=want;have HKC:Hid (∀ W,Below w.heap.size w W→∀ m r,m<n→Calls Tryz.prog 11 #[.agg cs.toArray,Y X (m:Int),rv r,Y X 20000] W (WghPost W (LtK f l m r) f)):=fun W hb m r hm=>
  HK N h B l cs _ r W ((RLy.ok (N+1)).same (Same.of_below hb fun b (hbl:b<B)=>D hbl hB) hl) (K hB hb.size) (htb.below hb) hok hfew (by omega) (by omega) (by omega)
 obtain ⟨pv,fv,bv,kv,rfl,_,_,hA,hK⟩:=hl;obtain ⟨QW,hQW⟩:∃ Q:Prop,Q=LtK (f+1) l n ⟨tx0,ty0,tx1,ty1⟩:=⟨_,rfl⟩;rw [←hQW];obtain ⟨k,hk⟩:∃ k,k=l.look:=⟨_,rfl⟩;obtain ⟨i0,hi0⟩:∃ k,k=l.i0:=⟨_,rfl⟩;obtain ⟨i1,hi1⟩:∃ k,k=l.i1:=⟨_,rfl⟩;obtain ⟨ks,hks⟩:∃ k,k=l.kids:=⟨_,rfl⟩;have HOK:Hid ((∀ x∈ks,LyOk N x)∧(∀ x∈ks,LyFew h x)):=by
  have:(∀ x∈ks,LyOk N x)∧(∀ x∈ks,LyFew h x):=by rw [hks];exact ⟨hok.2,hfew.2.2⟩
  exact this
 obtain ⟨LK,hLK⟩:∃ L:Nat→Rc→Prop,L=fun m r=>LtK f l m r:=⟨_,rfl⟩;have HQW:Hid (HfB ⟨tx0,ty0,tx1,ty1⟩→areaR ⟨tx0,ty0,tx1,ty1⟩≤20000→(∀ j y,n=j+1→ks[j]?=some y→LK j ⟨tx0,ty0,tx1,ty1⟩∧(y.look.hasB=true→LtP y.look.bak.nds 101 y.look.bak.out (meetR ⟨tx0,ty0,tx1,ty1⟩ (area3L y.look))∧LK j (srcN y.look.bak (meetR ⟨tx0,ty0,tx1,ty1⟩ (area3L y.look))))∧LtS (LtK f) y ⟨tx0,ty0,tx1,ty1⟩)→QW):=by
  have:HfB ⟨tx0,ty0,tx1,ty1⟩→areaR ⟨tx0,ty0,tx1,ty1⟩≤20000→(∀ j y,n=j+1→ks[j]?=some y→LK j ⟨tx0,ty0,tx1,ty1⟩∧(y.look.hasB=true→LtP y.look.bak.nds 101 y.look.bak.out (meetR ⟨tx0,ty0,tx1,ty1⟩ (area3L y.look))∧LK j (srcN y.look.bak (meetR ⟨tx0,ty0,tx1,ty1⟩ (area3L y.look))))∧LtS (LtK f) y ⟨tx0,ty0,tx1,ty1⟩)→QW:=fun h1 h2 h3=>by
   rw [hQW];rw [hks,hLK] at h3;exact ⟨h1,h2,h3⟩
  exact this
 obtain ⟨kn,hkn⟩:∃ n,n=l.kids.length:=⟨_,rfl⟩;have HKC2:Hid (∀ W,Below w.heap.size w W→∀ m r,m<n→Calls Tryz.prog 11 #[.agg (lyc i0 i1 k pv fv bv kv).toArray,Y X (m:Int),rv r,Y X 20000] W (WghPost W (LK m r) f)):=by rw [hLK,hi0,hi1,hk];exact HKC.o
 rw [←hk] at hA;rw [←hk,←hi0,←hi1];rw [←hks] at hK;have hnk:n≤kn:=by rw [hkn];exact hn
 have hknk:kn=ks.length:=by rw [hkn,hks]
 have HKN:=C hknk;obtain ⟨pa,pn,pc,rfl⟩:=sl_form hA.2.1;obtain ⟨fa,fn,fc,rfl⟩:=sl_form hA.2.2.1;obtain ⟨ba,bn,bc,rfl⟩:=sl_form hA.2.2.2;obtain ⟨ka,kc,hkv,hkcap,hkcm,hkel⟩:=hK;rw [←hknk] at hkv hkcap;subst hkv;have HKE:Hid (∀ (j:Nat) (x:Ly),ks[j]?=some x→∃ b o cs,ka=some ⟨b,o,none⟩∧∀ (W:World),Below w.heap.size w W→LiesAt W b (o+j*31) cs∧RLy N (·<B) W cs x):=fun j x hx=>by
  rcases hkel with h|⟨b,o,h1,h2,h3⟩
  ·subst h;simp at hx
  ·obtain ⟨cs,_,h4,h5⟩:=h3 j x hx;refine ⟨b,o,cs,h1,fun W hb=>?_⟩;have hsm:Same (·<B) w W:=Same.of_below hb fun b (hb:b<B)=>D hb hB;exact ⟨h4.same hsm h2,(RLy.ok N).same hsm h5⟩
 unfold maxLen at hkcm;have HA:Hid (B≤w.heap.size∧WgsC f∧Tabs w∧9*h+n<f+1∧f+1≤200):=⟨hB,HS,htb,hf,hf2⟩;have hf200:f≤199:=by omega
 have HKD:Hid (∀ W,Below w.heap.size w W→∀ m r,m<n→Calls Tryz.prog 11 #[.agg #[Y X i0,Y X i1,Y X k.dx,Y X k.dy,.bool k.hasC,Y X k.clip.x0,Y X k.clip.y0,Y X k.clip.x1,Y X k.clip.y1,Y X k.opa,Y X k.mode,Y X k.ct.kind,Y X k.ct.box.x0,Y X k.ct.box.y0,Y X k.ct.box.x1,Y X k.ct.box.y1,Y J k.ct.px.r,Y J k.ct.px.g,Y J k.ct.px.b,Y J k.ct.px.a,Y X k.ct.w,Y X k.ct.h,Y X k.ct.turn,Z pa pn pc,.bool k.hasF,Z fa fn fc,Y X k.fil.out,.bool k.hasB,Z ba bn bc,Y X k.bak.out,Z ka kn kc],Y X (m:Int),rv r,Y X 20000] W (WghPost W (LK m r) f)):=HKC2.o;obtain ⟨F,hF⟩:∃ F,F=fineB ⟨tx0,ty0,tx1,ty1⟩ 20000:=⟨_,rfl⟩;have HFN:Hid (∀ W,Calls Tryz.prog 25 #[rv ⟨tx0,ty0,tx1,ty1⟩,Y X 0,Y X 0,Y X 20000] W (PPost W (.bool F))):=fun W=>by rw [hF];exact fine08_c _ _ W
 have HF:Hid (F=true→HfB ⟨tx0,ty0,tx1,ty1⟩∧areaR ⟨tx0,ty0,tx1,ty1⟩≤20000):=C fun h=>fine_is (by rw [←hF];exact h);have H0:Hid (Bag w ((w.alloc (.cells #[Y X i0,Y X i1,Y X k.dx,Y X k.dy,.bool k.hasC,Y X k.clip.x0,Y X k.clip.y0,Y X k.clip.x1,Y X k.clip.y1,Y X k.opa,Y X k.mode,Y X k.ct.kind,Y X k.ct.box.x0,Y X k.ct.box.y0,Y X k.ct.box.x1,Y X k.ct.box.y1,Y J k.ct.px.r,Y J k.ct.px.g,Y J k.ct.px.b,Y J k.ct.px.a,Y X k.ct.w,Y X k.ct.h,Y X k.ct.turn,Z pa pn pc,.bool k.hasF,Z fa fn fc,Y X k.fil.out,.bool k.hasB,Z ba bn bc,Y X k.bak.out,Z ka kn kc] 38)).alloc (.cells #[Y X tx0,Y X ty0,Y X tx1,Y X ty1] 25)) [(w.heap.size,(lyq i0 i1 k k.hasC k.hasF k.hasB (Z pa pn pc) (Z fa fn fc) (Z ba bn bc) (Z ka kn kc))),(w.heap.size+1,(qI tx0 ty0 tx1 ty1))]):=bag2 w (lyq i0 i1 k k.hasC k.hasF k.hasB (Z pa pn pc) (Z fa fn fc) (Z ba bn bc) (Z ka kn kc)) (qI tx0 ty0 tx1 ty1) _ _;clear hQW hk hi0 hi1 hks hLK hkn hknk hA hkel hB hn hok hF hfew HKC HKC2 HK HS htb hf hf2;show Calls Tryz.prog 11 #[.agg #[Y X i0,Y X i1,Y X k.dx,Y X k.dy,.bool k.hasC,Y X k.clip.x0,Y X k.clip.y0,Y X k.clip.x1,Y X k.clip.y1,Y X k.opa,Y X k.mode,Y X k.ct.kind,Y X k.ct.box.x0,Y X k.ct.box.y0,Y X k.ct.box.x1,Y X k.ct.box.y1,Y J k.ct.px.r,Y J k.ct.px.g,Y J k.ct.px.b,Y J k.ct.px.a,Y X k.ct.w,Y X k.ct.h,Y X k.ct.turn,Z pa pn pc,.bool k.hasF,Z fa fn fc,Y X k.fil.out,.bool k.hasB,Z ba bn bc,Y X k.bak.out,Z ka kn kc],Y X (n:Int),rv ⟨tx0,ty0,tx1,ty1⟩,Y X 20000] w (WghPost w QW (f+1));go_enter Tryz.func11,Tryz.ntmps11;go_wp2_with fail;refine (HFN.o _).mono ?_;rintro e' W1 ⟨rfl,hb1⟩;have H1:=C (H0.o.call hb1);clear hb1 H0 HFN
 cases F with
 |false=>
  go_wp2_with fail;go_ret;exact ⟨_,rfl,H1.o.below,by omega,by omega,fun h=>absurd h (by omega)⟩
 |true=>
  have HH:Hid (HfB ⟨tx0,ty0,tx1,ty1⟩∧areaR ⟨tx0,ty0,tx1,ty1⟩≤20000):=HF.o rfl;obtain ⟨A,hA⟩:∃ A,A=areaR ⟨tx0,ty0,tx1,ty1⟩:=⟨_,rfl⟩;have hA0:0≤A:=by rw [hA];exact areaR_nn HH.o.2
  have hA1:A≤20000:=by rw [hA];exact HH.o.2
  have HAR:Hid (∀ W,Calls Tryz.prog 26 #[rv ⟨tx0,ty0,tx1,ty1⟩] W (PPost W (Y X A))):=fun W=>by rw [hA];exact area03_c _ W (hf_pl HH.o.1)
  clear hA HF;obtain ⟨e0,e1,e2,e3⟩:=(H1.o.box 1 rfl).c4;go_wp2_with fail;refine (HAR.o _).mono ?_;rintro e' W2 ⟨rfl,hb2⟩;have H2:=C (H1.o.call hb2);clear hb2 H1 HAR e0 e1 e2 e3;by_cases h0:n=0
  ·subst h0;go_wp2_with fail;go_ret;exact ⟨1+A,rfl,H2.o.below,by omega,by omega,fun _=>HQW.o HH.o.1 HH.o.2 fun j y h=>by cases h⟩
  obtain ⟨j,rfl⟩:∃ j,n=j+1:=⟨n-1,by omega⟩;clear h0;have hz0:(((j+1:Nat):Int)==0)=false:=by simp;omega
  have hz1:((j:Int)+1==0)=false:=by simp;omega
  by_cases hAA:20000<1+A
  ·have dA:decide (20000<1+A)=true:=decide_eq_true hAA;go_wp2_with fail;go_ret;exact ⟨1+A,rfl,H2.o.below,by omega,by omega,fun h=>absurd h (by omega)⟩
  have dA:decide (20000<1+A)=false:=decide_eq_false hAA;obtain ⟨y,hy⟩:∃ y,ks[j]?=some y:=⟨_,List.getElem?_eq_getElem (by rw [←HKN.o];omega)⟩;have hyok:LyOk N y:=HOK.o.1 y (List.mem_of_getElem? hy);have hyfw:LyFew h y:=HOK.o.2 y (List.mem_of_getElem? hy)
  cases N with
  |zero=>exact hyok.elim
  |succ N=>
   cases h with
   |zero=>exact hyfw.elim
   |succ h=>
    obtain ⟨ib,io,xcs,hka,hboth⟩:=HKE.o j y hy;obtain ⟨hlies,hrx⟩:=hboth W2 H2.o.below;subst hka;have HRX:Hid (∀ W,Below w.heap.size w W→RLy (N+1) (·<B) W xcs y):=fun W hb=>(hboth W hb).2;obtain ⟨QT,hQT⟩:∃ Q:Prop,Q=LtS (LtK f) y ⟨tx0,ty0,tx1,ty1⟩:=⟨_,rfl⟩;have HYS:Hid (∀ W,Below w.heap.size w W→Calls Tryz.prog 29 #[.agg xcs.toArray,rv ⟨tx0,ty0,tx1,ty1⟩,Y X 20000] W (WghPost W QT f)):=fun W hb=>by
     rw [hQT];have h8:=hyfw.2.1;have hff:=HA.o.2.2.2;exact HA.o.2.1 N h B y xcs ⟨tx0,ty0,tx1,ty1⟩ W (HRX.o W hb) (K HA.o.1 hb.size) (HA.o.2.2.1.below hb) hyok hyfw (by omega) (by omega) HH.o.1
    obtain ⟨xpv,xfv,xbv,xkv,rfl,_,_,hxA,hxK⟩:=hrx;obtain ⟨x,hxe⟩:∃ x,x=y.look:=⟨_,rfl⟩;obtain ⟨j0,hj0⟩:∃ x,x=y.i0:=⟨_,rfl⟩;obtain ⟨j1,hj1⟩:∃ x,x=y.i1:=⟨_,rfl⟩;have HXE:Hid (LkOk x∧(x.hasB=true→filB x.bak=true)):=⟨by rw [hxe];exact hyok.1,by rw [hxe];exact hyfw.1.2⟩;have HFI:Hid (LK j ⟨tx0,ty0,tx1,ty1⟩→(x.hasB=true→LtP x.bak.nds 101 x.bak.out (meetR ⟨tx0,ty0,tx1,ty1⟩ (area3L x))∧LK j (srcN x.bak (meetR ⟨tx0,ty0,tx1,ty1⟩ (area3L x))))→QT→QW):=by
     have:LK j ⟨tx0,ty0,tx1,ty1⟩→(x.hasB=true→LtP x.bak.nds 101 x.bak.out (meetR ⟨tx0,ty0,tx1,ty1⟩ (area3L x))∧LK j (srcN x.bak (meetR ⟨tx0,ty0,tx1,ty1⟩ (area3L x))))→QT→QW:=fun h1 h2 h3=>HQW.o HH.o.1 HH.o.2 fun j' y' hj' hy'=>by
      obtain rfl:j=j':=by omega
      rw [hy] at hy';cases hy'
      rw [hxe] at h2;rw [hQT] at h3;exact ⟨h1,h2,h3⟩
     exact this
    rw [←hxe] at hxA hlies HYS;rw [←hj0,←hj1] at hlies HYS;obtain ⟨xpa,xpn,xpc,rfl⟩:=sl_form hxA.2.1;obtain ⟨xfa,xfn,xfc,rfl⟩:=sl_form hxA.2.2.1;obtain ⟨xba,xbn,xbc,rfl⟩:=sl_form hxA.2.2.2;obtain ⟨xka,xkn,xkc,rfl⟩:=sl_form hxK;have HBW2:Hid (B≤W2.heap.size):=K HA.o.1 H2.o.below.size;have HXA:Hid (SlOf RNode 3 (·<B) W2 (Z xba xbn xbc) x.bak.nds):=hxA.2.2.2;have HLK0:Hid (W2.rangeAt ib (io+j*31) (lyq j0 j1 x x.hasC x.hasF x.hasB (Z xpa xpn xpc) (Z xfa xfn xfc) (Z xba xbn xbc) (Z xka xkn xkc))):=hlies;have HYT0:Hid (∀ W,Below w.heap.size w W→Calls Tryz.prog 29 #[.agg #[Y X j0,Y X j1,Y X x.dx,Y X x.dy,.bool x.hasC,Y X x.clip.x0,Y X x.clip.y0,Y X x.clip.x1,Y X x.clip.y1,Y X x.opa,Y X x.mode,Y X x.ct.kind,Y X x.ct.box.x0,Y X x.ct.box.y0,Y X x.ct.box.x1,Y X x.ct.box.y1,Y J x.ct.px.r,Y J x.ct.px.g,Y J x.ct.px.b,Y J x.ct.px.a,Y X x.ct.w,Y X x.ct.h,Y X x.ct.turn,Z xpa xpn xpc,.bool x.hasF,Z xfa xfn xfc,Y X x.fil.out,.bool x.hasB,Z xba xbn xbc,Y X x.bak.out,Z xka xkn xkc],rv ⟨tx0,ty0,tx1,ty1⟩,Y X 20000] W (WghPost W QT f)):=HYS.o;have HRT:Hid (∀ W,Calls Tryz.prog 27 #[.agg #[Y X x.dx,Y X x.dy,.bool x.hasC,Y X x.clip.x0,Y X x.clip.y0,Y X x.clip.x1,Y X x.clip.y1,Y X x.opa,Y X x.mode,Y X x.ct.kind,Y X x.ct.box.x0,Y X x.ct.box.y0,Y X x.ct.box.x1,Y X x.ct.box.y1,Y J x.ct.px.r,Y J x.ct.px.g,Y J x.ct.px.b,Y J x.ct.px.a,Y X x.ct.w,Y X x.ct.h,Y X x.ct.turn,Z xpa xpn xpc,.bool x.hasF,Z xfa xfn xfc,Y X x.fil.out,.bool x.hasB,Z xba xbn xbc,Y X x.bak.out]] W (PPost W (rv (area3L x)))):=fun W=>rarea24_c x (Z xpa xpn xpc) (Z xfa xfn xfc) (Z xba xbn xbc) W (by rw [hxe];exact hyok.1);clear hQT hxe hj0 hj1 hxA hxK hlies hboth HYS hy hyok hyfw HRX HKE;generalize hbB:x.hasB=bB at *;have HBB:=C hbB;have HYT:Hid (∀ W,Below w.heap.size w W→Calls Tryz.prog 29 #[.agg #[Y X j0,Y X j1,Y X x.dx,Y X x.dy,.bool x.hasC,Y X x.clip.x0,Y X x.clip.y0,Y X x.clip.x1,Y X x.clip.y1,Y X x.opa,Y X x.mode,Y X x.ct.kind,Y X x.ct.box.x0,Y X x.ct.box.y0,Y X x.ct.box.x1,Y X x.ct.box.y1,Y J x.ct.px.r,Y J x.ct.px.g,Y J x.ct.px.b,Y J x.ct.px.a,Y X x.ct.w,Y X x.ct.h,Y X x.ct.turn,Z xpa xpn xpc,.bool x.hasF,Z xfa xfn xfc,Y X x.fil.out,.bool bB,Z xba xbn xbc,Y X x.bak.out,Z xka xkn xkc],rv ⟨tx0,ty0,tx1,ty1⟩,Y X 20000] W (WghPost W QT f)):=HYT0.o;have HLK:Hid (W2.rangeAt ib (io+j*31) (lyq j0 j1 x x.hasC x.hasF bB (Z xpa xpn xpc) (Z xfa xfn xfc) (Z xba xbn xbc) (Z xka xkn xkc))):=HLK0.o;have HB23:Hid (Below W2.heap.size W2 (W2.alloc (.cells #[Y X j0,Y X j1,Y X x.dx,Y X x.dy,.bool x.hasC,Y X x.clip.x0,Y X x.clip.y0,Y X x.clip.x1,Y X x.clip.y1,Y X x.opa,Y X x.mode,Y X x.ct.kind,Y X x.ct.box.x0,Y X x.ct.box.y0,Y X x.ct.box.x1,Y X x.ct.box.y1,Y J x.ct.px.r,Y J x.ct.px.g,Y J x.ct.px.b,Y J x.ct.px.a,Y X x.ct.w,Y X x.ct.h,Y X x.ct.turn,Z xpa xpn xpc,.bool x.hasF,Z xfa xfn xfc,Y X x.fil.out,.bool bB,Z xba xbn xbc,Y X x.bak.out,Z xka xkn xkc] 38))):=below_alloc W2 _;have H3:Hid (Bag w (W2.alloc (.cells #[Y X j0,Y X j1,Y X x.dx,Y X x.dy,.bool x.hasC,Y X x.clip.x0,Y X x.clip.y0,Y X x.clip.x1,Y X x.clip.y1,Y X x.opa,Y X x.mode,Y X x.ct.kind,Y X x.ct.box.x0,Y X x.ct.box.y0,Y X x.ct.box.x1,Y X x.ct.box.y1,Y J x.ct.px.r,Y J x.ct.px.g,Y J x.ct.px.b,Y J x.ct.px.a,Y X x.ct.w,Y X x.ct.h,Y X x.ct.turn,Z xpa xpn xpc,.bool x.hasF,Z xfa xfn xfc,Y X x.fil.out,.bool bB,Z xba xbn xbc,Y X x.bak.out,Z xka xkn xkc] 38)) [(w.heap.size,(lyq i0 i1 k k.hasC k.hasF k.hasB (Z pa pn pc) (Z fa fn fc) (Z ba bn bc) (Z (some ⟨ib,io,none⟩) kn kc))),(w.heap.size+1,(qI tx0 ty0 tx1 ty1)),(W2.heap.size,(lyq j0 j1 x x.hasC x.hasF bB (Z xpa xpn xpc) (Z xfa xfn xfc) (Z xba xbn xbc) (Z xka xkn xkc)))]):=H2.o.alloc (lyq j0 j1 x x.hasC x.hasF bB (Z xpa xpn xpc) (Z xfa xfn xfc) (Z xba xbn xbc) (Z xka xkn xkc)) _;have l30:=H2.o.cell 0 rfl 30 rfl;have hjk0:(0:Int)≤(j:Int):=by omega
    have hjk1:(j:Int)<(kn:Int):=by omega
    clear hbB HLK0 HYT0;go_upto_region 7 with (first|(with_reducible refine wpList_load_mid rfl 38 _ rfl ib (io+j*31) rfl (lyq j0 j1 x x.hasC x.hasF bB (Z xpa xpn xpc) (Z xfa xfn xfc) (Z xba xbn xbc) (Z xka xkn xkc)) _ HLK.o Tryz.underlying38 rfl (by kernel_rfl) ?_;simp only [Act.put,O,U,V])|(with_reducible refine wpList_alloc_store rfl rfl 38 rfl _ _ rfl _ #[Y X j0,Y X j1,Y X x.dx,Y X x.dy,.bool x.hasC,Y X x.clip.x0,Y X x.clip.y0,Y X x.clip.x1,Y X x.clip.y1,Y X x.opa,Y X x.mode,Y X x.ct.kind,Y X x.ct.box.x0,Y X x.ct.box.y0,Y X x.ct.box.x1,Y X x.ct.box.y1,Y J x.ct.px.r,Y J x.ct.px.g,Y J x.ct.px.b,Y J x.ct.px.a,Y X x.ct.w,Y X x.ct.h,Y X x.ct.turn,Z xpa xpn xpc,.bool x.hasF,Z xfa xfn xfc,Y X x.fil.out,.bool bB,Z xba xbn xbc,Y X x.bak.out,Z xka xkn xkc] alLayer (by simp [size_alloc,Act.eval,Act.put]) rfl (by kernel_rfl) (by kernel_rfl) (by simp [Value.oneCell']) ?_;simp only [Act.put,O,U,V,size_alloc]));generalize (W2.alloc (.cells #[Y X j0,Y X j1,Y X x.dx,Y X x.dy,.bool x.hasC,Y X x.clip.x0,Y X x.clip.y0,Y X x.clip.x1,Y X x.clip.y1,Y X x.opa,Y X x.mode,Y X x.ct.kind,Y X x.ct.box.x0,Y X x.ct.box.y0,Y X x.ct.box.x1,Y X x.ct.box.y1,Y J x.ct.px.r,Y J x.ct.px.g,Y J x.ct.px.b,Y J x.ct.px.a,Y X x.ct.w,Y X x.ct.h,Y X x.ct.turn,Z xpa xpn xpc,.bool x.hasF,Z xfa xfn xfc,Y X x.fil.out,.bool bB,Z xba xbn xbc,Y X x.bak.out,Z xka xkn xkc] 38))=W3 at *;clear HLK H2 l30;have HRL:Hid (W3.rangeAt w.heap.size 0 (lyq i0 i1 k k.hasC k.hasF k.hasB (Z pa pn pc) (Z fa fn fc) (Z ba bn bc) (Z (some ⟨ib,io,none⟩) kn kc))):=H3.o.range 0 rfl 0 31;obtain ⟨e0,e1,e2,e3⟩:=(H3.o.box 1 rfl).c4
    go_wp2_with (with_reducible refine wpList_load_mid rfl 38 _ rfl w.heap.size 0 rfl (lyq i0 i1 k k.hasC k.hasF k.hasB (Z pa pn pc) (Z fa fn fc) (Z ba bn bc) (Z (some ⟨ib,io,none⟩) kn kc)) _ HRL.o Tryz.underlying38 rfl (by kernel_rfl) ?_;simp only [Act.put,O,U,V])
    (with_reducible refine (HKD.o _ H3.o.below j ⟨tx0,ty0,tx1,ty1⟩ (by omega)).mono ?_);rintro e' W4 ⟨c1,rfl,hb4,hc1,hc2,hc3⟩
    have H4:=C (H3.o.call hb4);have H24:Hid (Below W2.heap.size W2 W4):=HB23.o.trans (hb4.mono HB23.o.size);have HL1:=C hc3;clear hb4 hc3 H3 HRL HB23 e0 e1 e2 e3;have d27:=H4.o.cell 2 rfl 27 rfl;by_cases hcl:1+A+c1≤20000
    ·have dC:decide (1+A+c1≤20000)=true:=decide_eq_true hcl;have dD:decide (20000<1+A+c1)=false:=decide_eq_false (by omega)
     cases bB with
     |false=>
      have HRK:Hid (W4.rangeAt W2.heap.size 0 (lyq j0 j1 x x.hasC x.hasF false (Z xpa xpn xpc) (Z xfa xfn xfc) (Z xba xbn xbc) (Z xka xkn xkc))):=H4.o.range 2 rfl 0 31;obtain ⟨e0,e1,e2,e3⟩:=(H4.o.box 1 rfl).c4
      go_wp2_with (with_reducible refine wpList_load_mid rfl 38 _ rfl W2.heap.size 0 rfl (lyq j0 j1 x x.hasC x.hasF false (Z xpa xpn xpc) (Z xfa xfn xfc) (Z xba xbn xbc) (Z xka xkn xkc)) _ HRK.o Tryz.underlying38 rfl (by kernel_rfl) ?_;simp only [Act.put,O,U,V])
      (with_reducible refine (HYT.o _ H4.o.below).mono ?_);rintro e' W9 ⟨c9,rfl,hb9,hd1,hd2,hd3⟩
      have H9:Hid (Below w.heap.size w W9∧(c9≤20000→QT)):=⟨H4.o.below.trans (hb9.mono H4.o.below.size),hd3⟩;clear hb9 hd3 HRK HYT e0 e1 e2 e3;go_wp2_with fail;go_ret;exact ⟨1+A+c1+c9,rfl,H9.o.1,by omega,by omega,fun h=>HFI.o (HL1.o (by omega)) (fun h=>by cases h) (H9.o.2 (by omega))⟩
     |true=>
      obtain ⟨M,hM⟩:∃ M,M=meetR ⟨tx0,ty0,tx1,ty1⟩ (area3L x):=⟨_,rfl⟩;obtain ⟨S,hS⟩:∃ S,S=srcN x.bak M:=⟨_,rfl⟩;obtain ⟨AR,hAR⟩:∃ A,A=area3L x:=⟨_,rfl⟩;have HGD:Hid (GoodR x.bak∧filB x.bak=true):=⟨HXE.o.1.bak HBB.o,HXE.o.2 rfl⟩;have HGR:Hid (∀ W,Below w.heap.size w W→Below W4.heap.size W4 W→Gr B W (Z xba xbn xbc) x.bak.nds∧B≤W.heap.size):=fun W hb hb4=>⟨SlOf.same RNode.ok ((Same.of_below H24.o fun b (hbl:b<B)=>D hbl HBW2.o).trans (Same.of_below hb4 fun b (hbl:b<B)=>D hbl (K HBW2.o H24.o.size))) HXA.o,K HA.o.1 hb.size⟩;have HAE:Hid (∀ W,Calls Tryz.prog 27 #[.agg #[Y X x.dx,Y X x.dy,.bool x.hasC,Y X x.clip.x0,Y X x.clip.y0,Y X x.clip.x1,Y X x.clip.y1,Y X x.opa,Y X x.mode,Y X x.ct.kind,Y X x.ct.box.x0,Y X x.ct.box.y0,Y X x.ct.box.x1,Y X x.ct.box.y1,Y J x.ct.px.r,Y J x.ct.px.g,Y J x.ct.px.b,Y J x.ct.px.a,Y X x.ct.w,Y X x.ct.h,Y X x.ct.turn,Z xpa xpn xpc,.bool x.hasF,Z xfa xfn xfc,Y X x.fil.out,.bool true,Z xba xbn xbc,Y X x.bak.out]] W (PPost W (rv AR))):=fun W=>by rw [hAR];exact HRT.o W
      have HME:Hid (∀ W,Calls Tryz.prog 20 #[rv ⟨tx0,ty0,tx1,ty1⟩,rv AR] W (PPost W (rv M))):=fun W=>by rw [hM,hAR];exact rmeet_c _ _ W
      have HMP:Hid (RcP M):=by
       have:RcP M:=by rw [hM];exact meetR_pl (hf_pl HH.o.1) (area3L_pl HXE.o.1)
       exact this
      have HAL:Hid (∀ W,Below w.heap.size w W→Below W4.heap.size W4 W→Calls Tryz.prog 21 #[.agg #[Z xba xbn xbc,Y X x.bak.out],rv M] W (AlPost3 W S)):=fun W hb hb4=>by rw [hS];exact all14r_c B _ x.bak M W HGD.o.1 (HGR.o W hb hb4).1 (HGR.o W hb hb4).2 HMP.o
      have HLI:Hid (∀ W,Below w.heap.size w W→Below W4.heap.size W4 W→Calls Tryz.prog 28 #[.agg #[Z xba xbn xbc,Y X x.bak.out],rv M,Y X 20000] W (LgtPost W x.bak M)):=fun W hb hb4=>light15_c B _ x.bak M W HGD.o.1 (filB_parts HGD.o.2).1 (filB_parts HGD.o.2).2 (HA.o.2.2.1.below hb) (HGR.o W hb hb4).1 (HGR.o W hb hb4).2;have HF2:Hid (LK j ⟨tx0,ty0,tx1,ty1⟩→LtP x.bak.nds 101 x.bak.out M→LK j S→QT→QW):=by
       have:LK j ⟨tx0,ty0,tx1,ty1⟩→LtP x.bak.nds 101 x.bak.out M→LK j S→QT→QW:=fun h1 h2 h3 h4=>HFI.o h1 (fun _=>⟨by rw [←hM];exact h2,by rw [←hM,←hS];exact h3⟩) h4;exact this
      clear hM hS hAR HRT HFI;obtain ⟨m0,m1,m2,m3⟩:=M;obtain ⟨s0,s1,s2,s3⟩:=S;obtain ⟨a0,a1,a2,a3⟩:=AR;go_upto_region 9 with fail;obtain ⟨e0,e1,e2,e3⟩:=(H4.o.box 1 rfl).c4;refine wp_region_mix3 W4.heap.size [false,false,false,false,false,true] [5] _ rfl (T _) (by kernel_rfl) (by kernel_rfl) ?_;apply Exists.intro;apply And.intro
      ·intro GG hGG hne Rr hR;simp only [skip];have ke0:=fun s:InG W4.heap.size W4 GG=>s.at e0;have ke1:=fun s:InG W4.heap.size W4 GG=>s.at e1;have ke2:=fun s:InG W4.heap.size W4 GG=>s.at e2;have ke3:=fun s:InG W4.heap.size W4 GG=>s.at e3;have HLD:Hid (∀ w',(∃ s:InG W4.heap.size W4 GG,w'=s.w)→w'.rangeAt W2.heap.size 2 (lkq x x.hasC x.hasF true (Z xpa xpn xpc) (Z xfa xfn xfc) (Z xba xbn xbc))):=fun w' ⟨s,hs⟩=>by rw [hs];exact (H4.o.call s.below).range 2 rfl 2 28
       iterate 2 (go_big_quiet_step (fail))
       refine wpQuiet_load rfl 35 _ rfl W2.heap.size 2 rfl _ _ HLD.o Tryz.underlying35 rfl (by kernel_rfl) ?_;simp only [Act.put,O,U,V]
       repeat (go_big_quiet_step (first
        |(go_at_call 27;with_reducible exact Calls.inG hGG _ (HAE.o _))
        |(go_at_call 20;with_reducible exact Calls.inG hGG _ (HME.o _))))
       refine wpQuiet_nil ?_;exact hR
      refine wpSet_cons fun e he hfree=>?_;obtain rfl:e=5:=by simpa using he
      refine ⟨_,rfl,rfl,Nat,fun b=>.pointer (some ⟨b,0,none⟩),fun b W=>Box W b zI∧W4.heap.size≤b,fun _ _ _ h hb=>⟨h.1.call hb,h.2⟩,?_,?_⟩
      ·rintro W ⟨hW,hWs⟩;refine gives_mono (gives_alloc 25 _ rfl (alRect W)) ?_;rintro v w' ⟨rfl,rfl⟩;exact ⟨below_alloc W _,W.heap.size,rfl,Box.new W zI _,hWs⟩
      intro rb;refine wpSet_nil ?_;rintro V5 ⟨⟨hV,hVs⟩,hbx,hrb⟩;have H5:Hid (Bag w V5 [(w.heap.size,(lyq i0 i1 k k.hasC k.hasF k.hasB (Z pa pn pc) (Z fa fn fc) (Z ba bn bc) (Z (some ⟨ib,io,none⟩) kn kc))),(w.heap.size+1,(qI tx0 ty0 tx1 ty1)),(W2.heap.size,(lyq j0 j1 x x.hasC x.hasF true (Z xpa xpn xpc) (Z xfa xfn xfc) (Z xba xbn xbc) (Z xka xkn xkc))),(rb,zI)]∧Below W4.heap.size W4 V5):=⟨(H4.o.call hV).add hbx (K H4.o.below.size hrb) (fun p hp=>by have:=H4.o.lt p hp;omega),hV⟩;have HRB:Hid (W4.heap.size≤rb):=hrb;clear hV hVs hbx hrb he hfree HAE HME e0 e1 e2 e3;obtain ⟨r0,r1,r2,r3⟩:=(H5.o.1.box 3 rfl).c4;obtain ⟨f0,f1,f2,f3⟩:=(H5.o.1.box 3 rfl).f4;have H6:Hid (Bag w ((((V5.setCell ⟨rb,0,none⟩ (Y X m0)).setCell ⟨rb,1,none⟩ (Y X m1)).setCell ⟨rb,2,none⟩ (Y X m2)).setCell ⟨rb,3,none⟩ (Y X m3)) [(w.heap.size,(lyq i0 i1 k k.hasC k.hasF k.hasB (Z pa pn pc) (Z fa fn fc) (Z ba bn bc) (Z (some ⟨ib,io,none⟩) kn kc))),(w.heap.size+1,(qI tx0 ty0 tx1 ty1)),(W2.heap.size,(lyq j0 j1 x x.hasC x.hasF true (Z xpa xpn xpc) (Z xfa xfn xfc) (Z xba xbn xbc) (Z xka xkn xkc))),(rb,(qI m0 m1 m2 m3))]∧Below W4.heap.size W4 ((((V5.setCell ⟨rb,0,none⟩ (Y X m0)).setCell ⟨rb,1,none⟩ (Y X m1)).setCell ⟨rb,2,none⟩ (Y X m2)).setCell ⟨rb,3,none⟩ (Y X m3))):=⟨H5.o.1.set4 3 rfl _ _ _ _,(((H5.o.2.setCell (by exact HRB.o) _).setCell (by exact HRB.o) _).setCell (by exact HRB.o) _).setCell (by exact HRB.o) _⟩;simp only [List.drop_succ_cons,I,List.length_cons,List.length_nil];go_upto_region 10 with fail;generalize ((((V5.setCell ⟨rb,0,none⟩ (Y X m0)).setCell ⟨rb,1,none⟩ (Y X m1)).setCell ⟨rb,2,none⟩ (Y X m2)).setCell ⟨rb,3,none⟩ (Y X m3))=W6 at *;clear r0 r1 r2 r3 f0 f1 f2 f3 H5 HRB;obtain ⟨e0,e1,e2,e3⟩:=(H6.o.1.box 3 rfl).c4;have d28:=H6.o.1.cell 2 rfl 28 rfl;have d29:=H6.o.1.cell 2 rfl 29 rfl;go_wp2_with fail
      (with_reducible refine (HAL.o _ H6.o.1.below H6.o.2).mono ?_);rintro e' W7 ⟨va,rfl,hb7⟩
      have H8:Hid (Bag w (W7.alloc (.cells #[Y X s0,Y X s1,Y X s2,Y X s3] 25)) [(w.heap.size,(lyq i0 i1 k k.hasC k.hasF k.hasB (Z pa pn pc) (Z fa fn fc) (Z ba bn bc) (Z (some ⟨ib,io,none⟩) kn kc))),(w.heap.size+1,(qI tx0 ty0 tx1 ty1)),(W2.heap.size,(lyq j0 j1 x x.hasC x.hasF true (Z xpa xpn xpc) (Z xfa xfn xfc) (Z xba xbn xbc) (Z xka xkn xkc))),(rb,(qI m0 m1 m2 m3)),(W7.heap.size,(qI s0 s1 s2 s3))]∧Below W4.heap.size W4 (W7.alloc (.cells #[Y X s0,Y X s1,Y X s2,Y X s3] 25))):=⟨(H6.o.1.call hb7).alloc (qI s0 s1 s2 s3) _,(H6.o.2.trans (hb7.mono H6.o.2.size)).trans ((below_alloc W7 _).mono (H6.o.2.trans (hb7.mono H6.o.2.size)).size)⟩;clear hb7 H6 HAL e0 e1 e2 e3 d28 d29;go_upto_region 11 with fail;generalize (W7.alloc (.cells #[Y X s0,Y X s1,Y X s2,Y X s3] 25))=W8 at *;obtain ⟨e0,e1,e2,e3⟩:=(H8.o.1.box 3 rfl).c4;have d28:=H8.o.1.cell 2 rfl 28 rfl;have d29:=H8.o.1.cell 2 rfl 29 rfl;go_wp2_with fail
      (with_reducible refine (HLI.o _ H8.o.1.below H8.o.2).mono ?_);rintro e' V9 ⟨b,rfl,hb9,hlp⟩
      have H10:=C (H8.o.1.call hb9);have HLP0:=C hlp;clear hb9 hlp H8 HLI HGR e0 e1 e2 e3 d28 d29 d27
      cases b with
      |false=>
       go_wp2_with fail;go_ret;exact ⟨_,rfl,H10.o.below,by omega,by omega,fun h=>absurd h (by omega)⟩
      |true=>
       have HLP:Hid (LtP x.bak.nds 101 x.bak.out ⟨m0,m1,m2,m3⟩):=HLP0.o rfl;clear HLP0;have HRL:Hid (V9.rangeAt w.heap.size 0 (lyq i0 i1 k k.hasC k.hasF k.hasB (Z pa pn pc) (Z fa fn fc) (Z ba bn bc) (Z (some ⟨ib,io,none⟩) kn kc))):=H10.o.range 0 rfl 0 31;obtain ⟨e0,e1,e2,e3⟩:=(H10.o.box 4 rfl).c4
       go_wp2_with (with_reducible refine wpList_load_mid rfl 38 _ rfl w.heap.size 0 rfl (lyq i0 i1 k k.hasC k.hasF k.hasB (Z pa pn pc) (Z fa fn fc) (Z ba bn bc) (Z (some ⟨ib,io,none⟩) kn kc)) _ HRL.o Tryz.underlying38 rfl (by kernel_rfl) ?_;simp only [Act.put,O,U,V])
       (with_reducible refine (HKD.o _ H10.o.below j ⟨s0,s1,s2,s3⟩ (by omega)).mono ?_);rintro e' V10 ⟨c2,rfl,hb10,he1,he2,he3⟩
       have H11:=C (H10.o.call hb10);have HL2:=C he3;clear hb10 he3 H10 HRL e0 e1 e2 e3;by_cases hcm:20000<1+A+c1+c2
       ·have dE:decide (20000<1+A+c1+c2)=true:=decide_eq_true hcm;go_wp2_with fail;go_ret;exact ⟨1+A+c1+c2,rfl,H11.o.below,by omega,by omega,fun h=>absurd h (by omega)⟩
       have dE:decide (20000<1+A+c1+c2)=false:=decide_eq_false hcm;have HRK:Hid (V10.rangeAt W2.heap.size 0 (lyq j0 j1 x x.hasC x.hasF true (Z xpa xpn xpc) (Z xfa xfn xfc) (Z xba xbn xbc) (Z xka xkn xkc))):=H11.o.range 2 rfl 0 31;obtain ⟨e0,e1,e2,e3⟩:=(H11.o.box 1 rfl).c4
       go_wp2_with (with_reducible refine wpList_load_mid rfl 38 _ rfl W2.heap.size 0 rfl (lyq j0 j1 x x.hasC x.hasF true (Z xpa xpn xpc) (Z xfa xfn xfc) (Z xba xbn xbc) (Z xka xkn xkc)) _ HRK.o Tryz.underlying38 rfl (by kernel_rfl) ?_;simp only [Act.put,O,U,V])
       (with_reducible refine (HYT.o _ H11.o.below).mono ?_);rintro e' W9 ⟨c9,rfl,hb9,hd1,hd2,hd3⟩
       have H9:Hid (Below w.heap.size w W9∧(c9≤20000→QT)):=⟨H11.o.below.trans (hb9.mono H11.o.below.size),hd3⟩;clear hb9 hd3 HRK HYT e0 e1 e2 e3;go_wp2_with fail;go_ret;exact ⟨1+A+c1+c2+c9,rfl,H9.o.1,by omega,by omega,fun h=>HF2.o (HL1.o (by omega)) HLP.o (HL2.o (by omega)) (H9.o.2 (by omega))⟩
    ·have dC:decide (1+A+c1≤20000)=false:=decide_eq_false hcl;have dD:decide (20000<1+A+c1)=true:=decide_eq_true (by omega)
     cases bB with
     |false=>
      go_wp2_with fail;go_ret;exact ⟨1+A+c1,rfl,H4.o.below,by omega,by omega,fun h=>absurd h (by omega)⟩
     |true=>
      go_wp2_with fail;go_ret;exact ⟨1+A+c1,rfl,H4.o.below,by omega,by omega,fun h=>absurd h (by omega)⟩
theorem wgh_c:∀ f,WghC f∧WgsC f
 |0=>⟨fun N h B l cs n r w _ _ _ _ _ _ h _=>absurd h (Nat.not_lt_zero _),fun N h B l cs r w _ _ _ _ _ h _ _=>absurd h (Nat.not_lt_zero _)⟩
 |f+1=>have h1:WghC (f+1):=wgh_step f (wgh_c f).1 (wgh_c f).2
  ⟨h1,wgs_step (f+1) h1⟩
theorem kid_c:∀ f,KidC f∧ShnC f
 |0=>have h1:KidC 0:=fun N B l cs n r w _ _ _ _ h=>h.elim
  ⟨h1,shn_step 0 h1⟩
 |f+1=>have h1:KidC (f+1):=kid_step f (kid_c f).1 (kid_c f).2
  ⟨h1,shn_step (f+1) h1⟩
end Go.Proofs.YtgodhpampaleeaaGreatDoor
namespace Go.Proofs.YtgodhpampaleeaaGreatDoor
open Go.RowKit Go.Bx Go.Od Go.Hp Go.Great
attribute [local go_sem ↓] Go.wp_at_zero Go.wp_at_succ
theorem wpList_one_want {P:Program} {ops:Array Oper} {rest:List Oper} {o:Oper} {a:Act} {w:World} {Q:Exit→Act→World→Prop} (hw:Region.wanted o (yielded ops a.tmps)=true) (t e:TypeId) (x:Operand) (ho:o.op=.buildSlice t 1 #[(0,x)]) (cs:List Value) (hx:a.eval x=.agg cs.toArray) (ie:TypeInfo) (z:Value) (sz:Nat)
  (hu:P.underlying t=some (.slice e)) (hie:P.info? e=some ie) (hz:ie.zero=some z) (hsz:ie.size=sz) (h0:0<sz) (h1:sz≤1000) (hl:cs.length=sz) (h:wpList P ops Q rest (a.put o.dst (Z (some ⟨w.heap.size,0,none⟩) 1 1)) (w.alloc (.cells cs.toArray e))):wpList P ops Q (o::rest) a w:=
 BigFrame.wpList_want hw fun _ hK=>by
  have hf:=fill_whole (s:=sz) h0 [.agg cs.toArray] ((Array.range (1*sz)).map (z.cells[·%z.cells.size]!)) (by intro v hv;rw [List.mem_singleton.1 hv];simpa [Value.cells] using hl) (by simp);have hr:=run_buildSlice (P:=P) w t e 1 #[(0,.agg cs.toArray)] cs.toArray ie z hu hie hz (by omega) (by omega) (by
   rw [hsz]
   simpa [Value.cells] using hf)
  unfold Oper.wp execOp;simp only [ho];simp [hx,hr,Result.andThen];exact hK _ _ h
def lkZ:Lk:=⟨0,0,false,⟨0,0,0,0⟩,0,0,⟨0,⟨0,0,0,0⟩,⟨0,0,0,0⟩,0,0,0,[]⟩,false,⟨[],0⟩,false,⟨[],0⟩⟩
def wrapL (l:Ly):Ly:=.mk 0 0 lkZ [l]
theorem lkZ_ok:LkOk lkZ:=⟨⟨.inl rfl,by refine ⟨?_,?_,?_,?_⟩<;>(unfold Byte lkZ;dsimp only;omega),(fun h=>by cases h),(fun h=>by cases h)⟩,by unfold Nc lkZ;dsimp only;omega,by unfold Nc lkZ;dsimp only;omega,by unfold lkZ;dsimp only;omega,by unfold lkZ;dsimp only;omega,(fun h=>by cases h),(fun h=>by cases h),(fun h=>by cases h)⟩
theorem wrap_ok {N:Nat} {l:Ly} (h:LyOk N l):LyOk (N+1) (wrapL l):=⟨lkZ_ok,fun k hk=>by
 obtain rfl:k=l:=by simpa [wrapL,Ly.kids] using hk
 exact h⟩
theorem wrap_few {N:Nat} {l:Ly} (h:LyFew N l):LyFew (N+1) (wrapL l):=⟨⟨(fun q=>by cases q),(fun q=>by cases q)⟩,by simp [wrapL,Ly.kids],fun k hk=>by
 obtain rfl:k=l:=by simpa [wrapL,Ly.kids] using hk
 exact h⟩
theorem LtK.wrap {f:Nat} {l:Ly} {r:Rc} (h:LtK (f+1) (wrapL l) 1 r):HfB r∧areaR r≤20000∧LtS (LtK f) l r:=⟨h.1,h.2.1,(h.2.2 0 l rfl rfl).2.2⟩
theorem rly_wrap {N B b:Nat} {cs:List Value} {l:Ly} {W:World} (hl:RLy N (·<B) W cs l) (hB:B≤W.heap.size) (hb:Box W b cs):RLy (N+1) (·<W.heap.size) W (lyc 0 0 lkZ (Z none 0 0) (Z none 0 0) (Z none 0 0) (Z (some ⟨b,0,none⟩) 1 1)) (wrapL l):=by
 have z64:In64 0:=in_small (by decide);have hzp:lkZ.ct.px.Ok:=lkZ_ok.ct.px;refine ⟨Z none 0 0,Z none 0 0,Z none 0 0,Z (some ⟨b,0,none⟩) 1 1,rfl,z64,z64,⟨⟨z64,z64,⟨z64,z64,z64,z64⟩,z64,z64,⟨z64,⟨z64,z64,z64,z64⟩,hzp,z64,z64,z64⟩,z64,z64⟩,?_,?_,?_⟩,?_⟩
 ·exact ⟨none,0,rfl,T _,by decide,.inl rfl⟩
 ·exact ⟨none,0,rfl,T _,by decide,.inl rfl⟩
 ·exact ⟨none,0,rfl,T _,by decide,.inl rfl⟩
 ·refine ⟨some ⟨b,0,none⟩,1,rfl,T _,by decide,.inr ⟨b,0,rfl,hb.lt,fun i x hi=>?_⟩⟩
  match i,hi with
  |0,hi=>
   have hx:x=l:=by simpa [wrapL,Ly.kids,eq_comm] using hi
   subst hx;refine ⟨cs,(ly_one hl).2,fun j u hu=>?_,(RLy.ok N).mono (fun c (hc:c<B)=>D hc hB) hl⟩;have h1:=hb.cell j hu
   simpa using h1
  |i+1,hi=>simp [wrapL,Ly.kids] at hi
def Lg24Post (w:World) (N:Nat) (l:Ly) (r:Rc) (e:Ending) (w':World):Prop:=∃ b:Bool,e=.returned (.bool b)∧Below w.heap.size w w'∧(b=true→rightN N 0 l=true∧HfB r∧areaR r≤20000∧LtS (LtK 99) l r)
theorem light24_c (N B:Nat) (l:Ly) (cs:List Value) (want:Rc) (w:World) (hl:RLy (N+1) (·<B) w cs l) (hB:B≤w.heap.size) (ht:Tabs w):
  Calls Tryz.prog 6 #[.agg cs.toArray,rv want,Y X 20000] w (Lg24Post w (N+1) l want):=by
 obtain ⟨tx0,ty0,tx1,ty1⟩:=want;have HRG:Hid (∀ W,Below w.heap.size w W→Calls Tryz.prog 15 #[.agg cs.toArray,Y X 0] W (PPost W (.bool (rightN (N+1) 0 l)))):=fun W hb=>
  right24_c (N+1) B l cs 0 W ((RLy.ok (N+1)).same (Same.of_below hb fun b (h:b<B)=>D h hB) hl) (K hB hb.size) (ht.below hb) (by omega) (by omega)
 have HOK:Hid (rightN (N+1) 0 l=true→LyOk (N+1) l∧LyFew 9 l):=C fun e=>⟨rightN_ok (N+1) 0 l _ w cs hl e,rightN_few (N+1) 0 l (by omega) e⟩;have HL:Hid (RLy (N+1) (·<B) w cs l∧B≤w.heap.size∧Tabs w):=⟨hl,hB,ht⟩;have HL1:Hid ((∀ u∈cs,u.oneCell'=true)∧cs.length=31):=ly_one hl;have hiL:(Tryz.prog.info? 38).map (·.size)=some cs.length:=by rw [HL1.o.2];kernel_rfl
 have HIL:Hid _:=hiL;have H0:Hid (Bag w ((w.alloc (.cells cs.toArray 38)).alloc (.cells #[Y X tx0,Y X ty0,Y X tx1,Y X ty1] 25)) [(w.heap.size,cs),(w.heap.size+1,(qI tx0 ty0 tx1 ty1))]):=bag2 w cs (qI tx0 ty0 tx1 ty1) _ _;obtain ⟨rg,hrg⟩:∃ r,r=rightN (N+1) 0 l:=⟨_,rfl⟩;have HRE:=C hrg;rw [←hrg] at HRG HOK;clear hrg hiL hl hB ht;go_enter Tryz.func6,Tryz.ntmps6;go_upto_region 1 with fail;generalize ((w.alloc (.cells cs.toArray 38)).alloc (.cells #[Y X tx0,Y X ty0,Y X tx1,Y X ty1] 25))=W0 at *;have HR0:Hid (W0.rangeAt w.heap.size 0 cs):=(by have h:=H0.o.range 0 rfl 0 31;rwa [I,List.take_of_length_le (by rw [HL1.o.2];exact T _)] at h)
 go_wp2_with (with_reducible refine wpList_load_want rfl 38 _ rfl w.heap.size 0 rfl cs _ HR0.o Tryz.underlying38 rfl HIL.o ?_;simp only [Act.put,O,U,V])
 refine (HRG.o W0 H0.o.below).mono ?_;rintro e W1 ⟨rfl,hb1⟩;have H1:=C (H0.o.call hb1);have HR1:Hid (W1.rangeAt w.heap.size 0 cs):=(by have h:=H1.o.range 0 rfl 0 31;rwa [I,List.take_of_length_le (by rw [HL1.o.2];exact T _)] at h);clear hb1 H0 HR0 HRG
 cases rg with
 |false=>
  go_wp2_with fail;go_ret;exact ⟨false,rfl,H1.o.below,fun h=>by cases h⟩
 |true=>
  obtain ⟨i3,z3,hi3,hz0,hz1,hz2,hz3⟩:=infoLy';have HI3:Hid (Tryz.prog.info? 38=some i3∧i3.zero=some z3∧i3.size=31):=⟨hi3,hz0,hz1⟩;have H2:Hid (Bag w (W1.alloc (.cells cs.toArray 38)) [(w.heap.size,cs),(w.heap.size+1,(qI tx0 ty0 tx1 ty1)),(W1.heap.size,cs)]):=H1.o.alloc cs _;have HWR:Hid (RLy (N+2) (·<(W1.alloc (.cells cs.toArray 38)).heap.size) (W1.alloc (.cells cs.toArray 38)) (lyc 0 0 lkZ (Z none 0 0) (Z none 0 0) (Z none 0 0) (Z (some ⟨W1.heap.size,0,none⟩) 1 1)) (wrapL l)):=by
   have hb:=H2.o.below;exact rly_wrap ((RLy.ok (N+1)).same (Same.of_below hb fun b (h:b<B)=>D h HL.o.2.1) HL.o.1) (K HL.o.2.1 hb.size) (H2.o.box 2 rfl)
  have HW:Hid (Calls Tryz.prog 11 #[.agg (lyc 0 0 lkZ (Z none 0 0) (Z none 0 0) (Z none 0 0) (Z (some ⟨W1.heap.size,0,none⟩) 1 1)).toArray,Y X 1,rv ⟨tx0,ty0,tx1,ty1⟩,Y X 20000] (W1.alloc (.cells cs.toArray 38)) (WghPost (W1.alloc (.cells cs.toArray 38)) (LtK 100 (wrapL l) 1 ⟨tx0,ty0,tx1,ty1⟩) 100)):=by
   have hok:=HOK.o (by trivial);exact (wgh_c 100).1 (N+1) 9 _ (wrapL l) _ 1 ⟨tx0,ty0,tx1,ty1⟩ _ HWR.o (T _) (HL.o.2.2.below H2.o.below) (wrap_ok hok.1) (wrap_few hok.2) (T _) (by omega) (by omega)
  clear HWR hi3 hz0 hz1 hz2 hz3 HOK;have HW0:Hid (Calls Tryz.prog 11 #[.agg #[Y X 0,Y X 0,Y X 0,Y X 0,.bool false,Y X 0,Y X 0,Y X 0,Y X 0,Y X 0,Y X 0,Y X 0,Y X 0,Y X 0,Y X 0,Y X 0,Y J 0,Y J 0,Y J 0,Y J 0,Y X 0,Y X 0,Y X 0,Z none 0 0,.bool false,Z none 0 0,Y X 0,.bool false,Z none 0 0,Y X 0,Z (some ⟨W1.heap.size,0,none⟩) 1 1],Y X 1,rv ⟨tx0,ty0,tx1,ty1⟩,Y X 20000] (W1.alloc (.cells cs.toArray 38)) (WghPost (W1.alloc (.cells cs.toArray 38)) (LtK 100 (wrapL l) 1 ⟨tx0,ty0,tx1,ty1⟩) 100)):=HW.o;obtain ⟨e0,e1,e2,e3⟩:=(H1.o.box 1 rfl).c4;obtain ⟨x0,x1,x2,x3⟩:=(H2.o.box 1 rfl).c4;clear HW;generalize hal:(W1.alloc (.cells cs.toArray 38))=W2 at H2 HW0 x0 x1 x2 x3
  go_wp2_with (first|(with_reducible refine wpList_load_want rfl 38 _ rfl w.heap.size 0 rfl cs _ HR1.o Tryz.underlying38 rfl HIL.o ?_;simp only [Act.put,O,U,V])|(with_reducible refine wpList_one_want rfl 36 38 _ rfl cs rfl i3 z3 31 Tryz.underlying36 HI3.o.1 HI3.o.2.1 HI3.o.2.2 (by decide) (by decide) HL1.o.2 ?_;rw [hal];simp only [Act.put,O,U,V]))
  (with_reducible refine HW0.o.mono ?_);rintro e' W3 ⟨c,rfl,hb3,h1,h2,h3⟩
  have H4:Hid (Below w.heap.size w W3∧(c≤20000→LtK 100 (wrapL l) 1 ⟨tx0,ty0,tx1,ty1⟩)):=⟨H2.o.below.trans (hb3.mono H2.o.below.size),h3⟩;clear hb3 h3 H2 HW0 hal x0 x1 x2 x3 e0 e1 e2 e3 H1 HR1;go_wp2_with fail;go_ret;exact ⟨_,rfl,H4.o.1,fun h=>⟨HRE.o.symm,(H4.o.2 (by simpa using h)).wrap⟩⟩
end Go.Proofs.YtgodhpampaleeaaGreatDoor
namespace Go.Proofs.YtgodhpampaleeaaGreatDoor
open Go.RowKit Go.Bx Go.Od Go.Hp Go.ChangeShapes Go.WideShapes Go.ChangeAt
attribute [local go_sem ↓] Go.wp_at_zero Go.wp_at_succ
section
variable {H:Type} {enc:TypeId×Value→H} {W:World} {base:Nat}
theorem four24 {cs:Array Value} (hl:cs.toList.length=4):∃ a b c d,cs.toList=[a,b,c,d]:=by
 match h:cs.toList,hl with
 |[a,b,c,d],_=>exact ⟨a,b,c,d,rfl⟩
theorem rect24_arg {v:Value} {d:DataW H} {p:List MemPlace} (h:DataW.Trod enc Tryz.prog W 0 (fun _=>true) true 25 v d p) (hv:Value.okWide Tryz.prog W .any base 25 v):∃ r,v=rv r:=by
 obtain ⟨cs,rfl⟩:=arg_struct Tryz.underlying25 hv;obtain ⟨fuel,hf⟩:=h;have hl:=struct_len Tryz.underlying25 hf;obtain ⟨x0,h0⟩:=reads_field Tryz.underlying25 hf 0 (ft:=3) (off:=0) (n:=1) rfl cells_int (E:=RInt) ri;obtain ⟨x1,h1⟩:=reads_field Tryz.underlying25 hf 1 (ft:=3) (off:=1) (n:=1) rfl cells_int (E:=RInt) ri;obtain ⟨x2,h2⟩:=reads_field Tryz.underlying25 hf 2 (ft:=3) (off:=2) (n:=1) rfl cells_int (E:=RInt) ri;obtain ⟨x3,h3⟩:=reads_field Tryz.underlying25 hf 3 (ft:=3) (off:=3) (n:=1) rfl cells_int (E:=RInt) ri;rw [cells_rect] at hl;simp only [Value.cells] at hl h0 h1 h2 h3;obtain ⟨c0,c1,c2,c3,hc⟩:=four24 hl;rw [hc] at h0 h1 h2 h3;obtain ⟨e0,_⟩:=h0;obtain ⟨e1,_⟩:=h1;obtain ⟨e2,_⟩:=h2;obtain ⟨e3,_⟩:=h3;simp at e0 e1 e2 e3;subst e0 e1 e2 e3;exact ⟨⟨x0,x1,x2,x3⟩,by
  have:cs=#[Y X x0,Y X x1,Y X x2,Y X x3]:=by rw [←Array.toList_inj,hc]
  rw [this]⟩
end
theorem extentGroups_walk (l:Ly) (N:Nat) (cs:List Value) (want:Rc) (w:World) (ht:Tabs w) (hl:RLy (N+1) (·<w.heap.size) w cs l):Calls Tryz.prog 4 #[.agg cs.toArray,rv want] w (TPost w):=by
 obtain ⟨tx0,ty0,tx1,ty1⟩:=want;have HSM:Hid (∀ W,Below w.heap.size w W→RLy (N+1) (·<w.heap.size) W cs l∧w.heap.size≤W.heap.size∧Tabs W):=fun W hb=>
  ⟨(RLy.ok (N+1)).same (Same.of_below hb fun b h=>h) hl,hb.size,ht.below hb⟩
 have HLI:Hid (∀ W,Below w.heap.size w W→Calls Tryz.prog 6 #[.agg cs.toArray,rv ⟨tx0,ty0,tx1,ty1⟩,Y X 20000] W (Lg24Post W (N+1) l ⟨tx0,ty0,tx1,ty1⟩)):=fun W hb=>
  light24_c N w.heap.size l cs ⟨tx0,ty0,tx1,ty1⟩ W (HSM.o W hb).1 (HSM.o W hb).2.1 (HSM.o W hb).2.2
 have HOKF:Hid (rightN (N+1) 0 l=true→LyOk (N+1) l∧LyFew 9 l):=C fun e=>⟨rightN_ok (N+1) 0 l _ w cs hl e,rightN_few (N+1) 0 l (by omega) e⟩;have HL1:Hid ((∀ u∈cs,u.oneCell'=true)∧cs.length=31):=ly_one hl;have hiL:(Tryz.prog.info? 38).map (·.size)=some cs.length:=by rw [HL1.o.2];kernel_rfl
 have HIL:Hid _:=hiL;obtain ⟨o,ho⟩:∃ o,o=l.look.opa:=⟨_,rfl⟩;have HO:=C ho;obtain ⟨kn,hkn⟩:∃ o,o=l.kids.length:=⟨_,rfl⟩;have HKN:=C hkn;obtain ⟨ka,kc,HC⟩:∃ (ka:Option Addr) (kc:Nat),Hid (cs[9]?=some (Y X o)∧cs[30]?=some (Z ka kn kc)):=by
  rw [ho,hkn];obtain ⟨pv,fv,bv,kv,rfl,_,_,_,hK⟩:=hl;obtain ⟨ka,kc,rfl,_⟩:=hK;exact ⟨ka,kc,rfl,rfl⟩
 have HWG:Hid (rightN (N+1) 0 l=true→∀ W,Below w.heap.size w W→Calls Tryz.prog 11 #[.agg cs.toArray,Y X (kn:Int),rv ⟨tx0,ty0,tx1,ty1⟩,Y X 20000] W (WghPost W (LtK 100 l l.kids.length ⟨tx0,ty0,tx1,ty1⟩) 100)):=by
  have:rightN (N+1) 0 l=true→∀ W,Below w.heap.size w W→Calls Tryz.prog 11 #[.agg cs.toArray,Y X (kn:Int),rv ⟨tx0,ty0,tx1,ty1⟩,Y X 20000] W (WghPost W (LtK 100 l l.kids.length ⟨tx0,ty0,tx1,ty1⟩) 100):=fun hr W hb=>by
   have hf:=(HOKF.o hr).2;have h8:=hf.2.1;rw [hkn];exact (wgh_c 100).1 N 8 w.heap.size l cs l.kids.length ⟨tx0,ty0,tx1,ty1⟩ W (HSM.o W hb).1 (HSM.o W hb).2.1 (HSM.o W hb).2.2 (HOKF.o hr).1 hf (T _) (by omega) (by omega)
  exact this
 have H0:Hid (Bag w ((w.alloc (.cells cs.toArray 38)).alloc (.cells #[Y X tx0,Y X ty0,Y X tx1,Y X ty1] 25)) [(w.heap.size,cs),(w.heap.size+1,(qI tx0 ty0 tx1 ty1))]):=bag2 w cs (qI tx0 ty0 tx1 ty1) _ _;clear hl ht hiL ho hkn;go_enter Tryz.func4,Tryz.ntmps4;go_wp2_with fail;generalize ((w.alloc (.cells cs.toArray 38)).alloc (.cells #[Y X tx0,Y X ty0,Y X tx1,Y X ty1] 25))=W0 at *;refine (awake24_c W0).mono ?_;rintro e' W1 ⟨rfl,hb1⟩;have H1:=C (H0.o.call hb1);have HRW1:Hid (W1.rangeAt w.heap.size 0 cs):=(by have h:=H1.o.range 0 rfl 0 31;rwa [I,List.take_of_length_le (by rw [HL1.o.2];exact T _)] at h);clear hb1 H0;obtain ⟨e0,e1,e2,e3⟩:=(H1.o.box 1 rfl).c4
 go_wp2_with (with_reducible refine wpList_load_want rfl 38 _ rfl w.heap.size 0 rfl cs _ HRW1.o Tryz.underlying38 rfl HIL.o ?_;simp only [Act.put,O,U,V])
 (with_reducible refine (HLI.o W1 H1.o.below).mono ?_);rintro e' W2 ⟨b,rfl,hb2,hlt⟩
 have H2:=C (H1.o.call hb2);have HLT0:=C hlt;clear hb2 hlt H1 HRW1 HLI e0 e1 e2 e3
 cases b with
 |false=>
  go_wp2_with fail;refine (awake24_c W2).mono ?_;rintro e' W3 ⟨rfl,hbz⟩;have HB:Hid (Below w.heap.size w W3):=H2.o.below.trans (hbz.mono H2.o.below.size);clear hbz;go_wp2_with fail;go_ret;exact ⟨rfl,HB.o⟩
 |true=>
  have HLT:Hid (rightN (N+1) 0 l=true∧HfB ⟨tx0,ty0,tx1,ty1⟩∧areaR ⟨tx0,ty0,tx1,ty1⟩≤20000∧LtS (LtK 99) l ⟨tx0,ty0,tx1,ty1⟩):=HLT0.o rfl;clear HLT0;have HRW2:Hid (W2.rangeAt w.heap.size 0 cs):=(by have h:=H2.o.range 0 rfl 0 31;rwa [I,List.take_of_length_le (by rw [HL1.o.2];exact T _)] at h);obtain ⟨e0,e1,e2,e3⟩:=(H2.o.box 1 rfl).c4;have k30:=H2.o.cell 0 rfl 30 HC.o.2
  go_wp2_with (with_reducible refine wpList_load_want rfl 38 _ rfl w.heap.size 0 rfl cs _ HRW2.o Tryz.underlying38 rfl HIL.o ?_;simp only [Act.put,O,U,V])
  (with_reducible refine (HWG.o HLT.o.1 W2 H2.o.below).mono ?_);rintro e' V2 ⟨c,rfl,hb2,hc1,hc2,hc3⟩
  have HV:=C (H2.o.call hb2);have HLK0:=C hc3;clear hb2 hc3 H2 HRW2 HWG e0 e1 e2 e3 k30;by_cases hcl:20000<c
  ·have dc:decide (20000<c)=true:=decide_eq_true hcl;go_wp2_with fail;refine (awake24_c V2).mono ?_;rintro e' W3 ⟨rfl,hbz⟩;have HB:Hid (Below w.heap.size w W3):=HV.o.below.trans (hbz.mono HV.o.below.size);clear hbz;go_wp2_with fail;go_ret;exact ⟨rfl,HB.o⟩
  have dc:decide (20000<c)=false:=decide_eq_false hcl;have HLK:Hid (LtK 100 l l.kids.length ⟨tx0,ty0,tx1,ty1⟩):=HLK0.o (by omega);clear HLK0;obtain ⟨G,hG⟩:∃ G,G=grpN N l:=⟨_,rfl⟩;obtain ⟨QS,hQS⟩:∃ Q:Bf→Prop,Q=KidP N l l.kids.length ⟨tx0,ty0,tx1,ty1⟩:=⟨_,rfl⟩;have HRS:Hid (∀ W,Below w.heap.size w W→Calls Tryz.prog 12 #[.agg cs.toArray] W (PPost W (rv G))):=fun W hb=>by rw [hG];exact group_c N w.heap.size l cs W (HSM.o W hb).1 (HSM.o W hb).2.1 (HOKF.o HLT.o.1).1
  have HSH:Hid (∀ W,Below w.heap.size w W→Calls Tryz.prog 13 #[.agg cs.toArray,Y X (kn:Int),rv ⟨tx0,ty0,tx1,ty1⟩] W (BPost W QS)):=fun W hb=>by rw [hQS];rw [HKN.o];exact (kid_c 100).1 N w.heap.size l cs l.kids.length ⟨tx0,ty0,tx1,ty1⟩ W (HSM.o W hb).1 (HSM.o W hb).2.1 (HOKF.o HLT.o.1).1 (T _) HLK.o
  have HQS:Hid (∀ b,QS b→∀ x y,atB b x y≠Px.zero→hasR G x y=true):=fun b hb x y hne=>by
   rw [hQS] at hb;rw [hG];have h1:=hb.2 x y hne;rw [foldK_all] at h1;exact h1
  have HHF:Hid (HfB ⟨tx0,ty0,tx1,ty1⟩):=HLT.o.2.1;clear hG hQS;obtain ⟨g0,g1,g2,g3⟩:=G;have HRV2:Hid (V2.rangeAt w.heap.size 0 cs):=(by have h:=HV.o.range 0 rfl 0 31;rwa [I,List.take_of_length_le (by rw [HL1.o.2];exact T _)] at h)
  go_wp2_with (with_reducible refine wpList_load_mid rfl 38 _ rfl w.heap.size 0 rfl cs _ HRV2.o Tryz.underlying38 rfl HIL.o ?_;simp only [Act.put,O,U,V])
  (with_reducible refine (HRS.o V2 HV.o.below).mono ?_);rintro e' W3 ⟨rfl,hb3⟩
  have H4:Hid (Bag w (W3.alloc (.cells #[Y X g0,Y X g1,Y X g2,Y X g3] 25)) [(w.heap.size,cs),(w.heap.size+1,(qI tx0 ty0 tx1 ty1)),(W3.heap.size,(qI g0 g1 g2 g3))]):=(HV.o.call hb3).alloc (qI g0 g1 g2 g3) _;clear hb3 HV HRV2 HRS;go_upto_region 4 with fail;generalize (W3.alloc (.cells #[Y X g0,Y X g1,Y X g2,Y X g3] 25))=W4 at *;have HRW4:Hid (W4.rangeAt w.heap.size 0 cs):=(by have h:=H4.o.range 0 rfl 0 31;rwa [I,List.take_of_length_le (by rw [HL1.o.2];exact T _)] at h);obtain ⟨e0,e1,e2,e3⟩:=(H4.o.box 1 rfl).c4;have k30:=H4.o.cell 0 rfl 30 HC.o.2
  go_wp2_with (with_reducible refine wpList_load_mid rfl 38 _ rfl w.heap.size 0 rfl cs _ HRW4.o Tryz.underlying38 rfl HIL.o ?_;simp only [Act.put,O,U,V])
  (with_reducible refine (HSH.o W4 H4.o.below).mono ?_);rintro e' W5 ⟨⟨⟨b0,b1,b2,b3⟩,bp⟩,ba,bn,bc,rfl,hb5,hbv,hq⟩
  have H6:Hid (Bag w (W5.alloc (.cells #[Y X b0,Y X b1,Y X b2,Y X b3,Z ba bn bc] 43)) [(w.heap.size,cs),(w.heap.size+1,(qI tx0 ty0 tx1 ty1)),(W3.heap.size,(qI g0 g1 g2 g3)),(W5.heap.size,(qS b0 b1 b2 b3 (Z ba bn bc)))]):=(H4.o.call hb5).alloc (qS b0 b1 b2 b3 (Z ba bn bc)) _;have HBV:Hid (BfV (W5.alloc (.cells #[Y X b0,Y X b1,Y X b2,Y X b3,Z ba bn bc] 43)) ⟨⟨b0,b1,b2,b3⟩,bp⟩ (Z ba bn bc)∧QS ⟨⟨b0,b1,b2,b3⟩,bp⟩):=⟨hbv.below (below_alloc _ _),hq⟩;clear hb5 hbv hq H4 HRW4 HSH e0 e1 e2 e3 k30;go_upto_region 5 with fail;generalize (W5.alloc (.cells #[Y X b0,Y X b1,Y X b2,Y X b3,Z ba bn bc] 43))=W6 at *;have e1:=H6.o.cell 1 rfl 1 rfl;go_wp2_with fail;clear e1;obtain ⟨⟨q0,q1⟩,⟨q2,q3⟩,⟨q4,q5⟩,q6,q7⟩:=HHF.o;dsimp only at q0 q1 q2 q3 q4 q5 q6 q7;go_loopw [7,8] (fun yv _ wr=>∃ yy:Int,-33554432≤yy∧yy≤33554432∧yv=Y X yy∧Bag w wr [(w.heap.size,cs),(w.heap.size+1,(qI tx0 ty0 tx1 ty1)),(W3.heap.size,(qI g0 g1 g2 g3)),(W5.heap.size,(qS b0 b1 b2 b3 (Z ba bn bc)))]∧Below W6.heap.size W6 wr) (fun yv _ _=>(ty1-intOf yv).toNat)
  case atStart=>exact ⟨ty0,by omega,by omega,rfl,H6.o,Below.refl _ _⟩
  case round=>
   clear H6;obtain ⟨yy,hy0,hy1,rfl,hb,hbw⟩:=hrel;have H7:Hid (Bag w wr [(w.heap.size,cs),(w.heap.size+1,(qI tx0 ty0 tx1 ty1)),(W3.heap.size,(qI g0 g1 g2 g3)),(W5.heap.size,(qS b0 b1 b2 b3 (Z ba bn bc)))]∧Below W6.heap.size W6 wr):=⟨hb,hbw⟩;clear hb hbw;have e0:=H7.o.1.cell 1 rfl 0 rfl;have e3:=H7.o.1.cell 1 rfl 3 rfl;by_cases hyl:yy<ty1
   ·have dy:decide (yy<ty1)=true:=decide_eq_true hyl;go_wp2_with fail;clear e0 e3;go_loopw [8] (fun xv wr=>∃ xx:Int,-33554432≤xx∧xx≤33554432∧xv=Y X xx∧Bag w wr [(w.heap.size,cs),(w.heap.size+1,(qI tx0 ty0 tx1 ty1)),(W3.heap.size,(qI g0 g1 g2 g3)),(W5.heap.size,(qS b0 b1 b2 b3 (Z ba bn bc)))]∧Below W6.heap.size W6 wr) (fun xv _=>(tx1-intOf xv).toNat)
    case atStart=>exact ⟨tx0,by omega,by omega,rfl,H7.o⟩
    case round=>
     clear H7;obtain ⟨xx,hx0,hx1,rfl,hb,hbw⟩:=hrel;have H7:Hid (Bag w wr [(w.heap.size,cs),(w.heap.size+1,(qI tx0 ty0 tx1 ty1)),(W3.heap.size,(qI g0 g1 g2 g3)),(W5.heap.size,(qS b0 b1 b2 b3 (Z ba bn bc)))]∧Below W6.heap.size W6 wr):=⟨hb,hbw⟩;clear hb hbw;have e2:=H7.o.1.cell 1 rfl 2 rfl;by_cases hxl:xx<tx1
     ·have dx:decide (xx<tx1)=true:=decide_eq_true hxl;obtain ⟨z,hz⟩:∃ z,z=atB ⟨⟨b0,b1,b2,b3⟩,bp⟩ xx yy:=⟨_,rfl⟩;have HZ:=C hz;have HAT:Hid (∀ W,Below W6.heap.size W6 W→Calls Tryz.prog 9 #[bfv ⟨b0,b1,b2,b3⟩ (Z ba bn bc),Y X xx,Y X yy] W (PPost W (pxv z))):=fun W hb=>by rw [hz];exact at05_c ⟨⟨b0,b1,b2,b3⟩,bp⟩ ba bn bc xx yy W (HBV.o.1.below hb)
      clear hz;obtain ⟨z0,z1,z2,z3⟩:=z;obtain ⟨q,hq⟩:∃ q,q=!pxEq ⟨z0,z1,z2,z3⟩ Px.zero:=⟨_,rfl⟩;have HQE:=C hq;have hneq:∀ W,(binOp .neq 27 (.agg #[Y J z0,Y J z1,Y J z2,Y J z3]) (.agg #[Y J 0,Y J 0,Y J 0,Y J 0])).run Tryz.prog W=.ok (.bool q) W:=fun W=>by
       rw [hq];exact neqPx ⟨z0,z1,z2,z3⟩ Px.zero W
      clear hq;obtain ⟨bb0,bb1,bb2,bb3,bb4⟩:=(H7.o.1.box 3 rfl).c5;go_wp2_with fail
      (with_reducible refine (HAT.o wr H7.o.2).mono ?_);rintro e' W7 ⟨rfl,hb7⟩
      have H8:Hid (Bag w W7 [(w.heap.size,cs),(w.heap.size+1,(qI tx0 ty0 tx1 ty1)),(W3.heap.size,(qI g0 g1 g2 g3)),(W5.heap.size,(qS b0 b1 b2 b3 (Z ba bn bc)))]∧Below W6.heap.size W6 W7):=⟨H7.o.1.call hb7,H7.o.2.trans (hb7.mono H7.o.2.size)⟩;clear hb7 H7 HAT bb0 bb1 bb2 bb3 bb4 e2;obtain ⟨gg0,gg1,gg2,gg3⟩:=(H8.o.1.box 2 rfl).c4
      cases q with
      |false=>
       go_wp2_with fail;go_roundw
       case rel=>exact ⟨xx+1,by omega,by omega,by go_num,H8.o.1,H8.o.2⟩
       case measure=>simp [intOf];omega
      |true=>
       have HHS:Hid (∀ W,Calls Tryz.prog 10 #[rv ⟨g0,g1,g2,g3⟩,Y X xx,Y X yy] W (PPost W (.bool true))):=fun W=>by
        have h1:hasR ⟨g0,g1,g2,g3⟩ xx yy=true:=HQS.o ⟨⟨b0,b1,b2,b3⟩,bp⟩ HBV.o.2 xx yy (by
         rw [←HZ.o];intro h2;have h3:=HQE.o;rw [h2,(pxEq_iff _ _).2 rfl] at h3;cases h3)
        rw [←h1];exact has03_c _ _ _ W
       go_wp2_with fail
       (with_reducible refine (HHS.o W7).mono ?_);rintro e' W8 ⟨rfl,hb8⟩
       have H9:Hid (Bag w W8 [(w.heap.size,cs),(w.heap.size+1,(qI tx0 ty0 tx1 ty1)),(W3.heap.size,(qI g0 g1 g2 g3)),(W5.heap.size,(qS b0 b1 b2 b3 (Z ba bn bc)))]∧Below W6.heap.size W6 W8):=⟨H8.o.1.call hb8,H8.o.2.trans (hb8.mono H8.o.2.size)⟩;clear hb8 H8 gg0 gg1 gg2 gg3 HHS;go_wp2_with fail;go_roundw
       case rel=>exact ⟨xx+1,by omega,by omega,by go_num,H9.o.1,H9.o.2⟩
       case measure=>simp [intOf];omega
     ·have dx:decide (xx<tx1)=false:=decide_eq_false hxl;go_wp2_with fail;go_roundw
      case rel=>exact ⟨yy+1,by omega,by omega,by go_num,H7.o.1,H7.o.2⟩
      case measure=>simp [intOf];omega
   ·have dy:decide (yy<ty1)=false:=decide_eq_false hyl;go_wp2_with fail;go_ret;exact ⟨rfl,H7.o.1.below⟩
section
variable {H:Type} {enc:TypeId×Value→H} {W:World} {base:Nat}
theorem extentGroups.extentGroups_law (W:World) (ht:Tabs W) {v0 v1:Value} {d0 d1:DataW H} {p0 p1:List MemPlace}
  (h0:DataW.Trod enc Tryz.prog W 0 (fun _=>true) true 38 v0 d0 p0) (h1:DataW.Trod enc Tryz.prog W 0 (fun _=>true) true 25 v1 d1 p1)
  (k0:Value.okWide Tryz.prog W .any base 38 v0) (k1:Value.okWide Tryz.prog W .any base 25 v1):
  Calls Tryz.prog 4 #[v0,v1] W (TPost W):=by
 obtain ⟨l,n,cs,rfl,hl⟩:=layer24_arg h0 k0;obtain ⟨r,rfl⟩:=rect24_arg h1 k1;exact extentGroups_walk l n cs r W ht hl
end
end Go.Proofs.YtgodhpampaleeaaGreatDoor
