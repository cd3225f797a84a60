/- Texts joined: Em Eq. -/
import Derived.Test.YtgodhpampaleeaaGreatDoorM08
import Derived.Deep.Cut
import Derived.Test.YtgodhpampaleeaaGreatDoorM04
import Derived.Test.YtgodhpampaleeaaGreatDoorM06
import Derived.Deep.AppendLies
open Go.Value renaming int→Y,slice→Z
open Go.IntKind renaming i64→X,u8→J
open List renaming setIfInBounds_toArray→O,set_cons_succ→U,set_cons_zero→V
open Nat renaming le_trans→I,lt_of_lt_of_le→Q
open Bool renaming and_eq_true→T
open Go.Lib renaming hid→N
set_option maxRecDepth 8000
set_option maxHeartbeats 51200000
set_option linter.unusedVariables false
namespace Go.Proofs.YtgodhpampaleeaaGreatDoor
open Go.RowKit Go.Bx Go.Od Go.Hp
attribute [local go_sem ↓] Go.wp_at_zero Go.wp_at_succ
def lk1B (k:Lk):Bool:=decide (-1048576≤k.dx)&&(decide (k.dx≤1048576)&&(decide (-1048576≤k.dy)&&(decide (k.dy≤1048576)&&(decide (0≤k.opa)&&(decide (k.opa≤255)&&(decide (0≤k.mode)&&(decide (k.mode≤6)&&(contB k.ct&&decide (k.ct.pix.length≤300)))))))))
def clp1B (r:Rc):Bool:=decide (-1048576≤r.x0)&&(decide (-1048576≤r.y0)&&(decide (r.x1≤1048576)&&(decide (r.y1≤1048576)&&(decide (r.x0≤1048576)&&(decide (r.y0≤1048576)&&(decide (-1048576≤r.x1)&&decide (-1048576≤r.y1)))))))
def filB (g:Fg):Bool:=fewB g.nds 7&&chkB g.nds g.out==0
def lkB (k:Lk):Bool:=lk1B k&&((!k.hasC||clp1B k.clip)&&((!k.hasF||filB k.fil)&&(!k.hasB||filB k.bak)))
def rightN:Nat→Int→Ly→Bool
 |0,_,_=>false
 |n+1,d,l=>lkB l.look&&(!decide (8<d)&&(!decide (8<l.kids.length)&&l.kids.all (rightN n (d+1))))
theorem filB_good {g:Fg} (h:filB g=true):GoodR g:=by
 unfold filB at h;rw [T] at h;exact goodR_of h.1 (by omega) (eq_of_beq h.2)
theorem clp1B_iff (r:Rc):clp1B r=true↔RcN r:=by
 unfold clp1B RcN Nc;simp only [T,decide_eq_true_eq];omega
theorem lkB_ok {k:Lk} (hp:k.ct.px.Ok) (h:lkB k=true):LkOk k:=by
 unfold lkB lk1B at h;simp only [T,decide_eq_true_eq,Bool.or_eq_true,Bool.not_eq_true'] at h;obtain ⟨⟨a,b,c,d,e,f,g,i,j,m⟩,hc,hf,hb⟩:=h;refine ⟨ctOk_of hp j,⟨a,b⟩,⟨c,d⟩,⟨e,f⟩,⟨g,i⟩,fun q=>?_,fun q=>?_,fun q=>?_⟩
 ·exact (clp1B_iff _).1 (hc.resolve_left (by rw [q];decide))
 ·exact filB_good (hf.resolve_left (by rw [q];decide))
 ·exact filB_good (hb.resolve_left (by rw [q];decide))
theorem rightN_ok:∀ (n:Nat) (d:Int) (l:Ly) (F:Nat→Prop) (w:World) (cs:List Value),RLy n F w cs l→rightN n d l=true→LyOk n l
 |0,_,_,_,_,_,h,_=>h.elim
 |n+1,d,l,F,w,cs,⟨pv,fv,bv,kv,_,_,_,hA,hK⟩,h=>by
  unfold rightN at h;simp only [T,List.all_eq_true] at h;refine ⟨lkB_ok hA.1.2.2.2.2.2.1.2.2.1 h.1,fun k hk=>?_⟩;obtain ⟨a,cap,_,_,_,h3⟩:=hK
  rcases h3 with h3|⟨b,o,_,_,h3⟩
  ·rw [h3] at hk;cases hk
  ·obtain ⟨i,hi⟩:=List.getElem?_of_mem hk;obtain ⟨cs',_,_,he⟩:=h3 i k hi;exact rightN_ok n (d+1) k F w cs' he (h.2.2.2 k hk)
def RghC (n:Nat):Prop:=∀ (B:Nat) (l:Ly) (cs:List Value) (d:Int) (w:World),RLy n (·<B) w cs l→B≤w.heap.size→Tabs w→0≤d→d≤100→Calls Tryz.prog 15 #[.agg cs.toArray,Y X d] w (PPost w (.bool (rightN n d l)))
theorem right_step (n:Nat) (IH:RghC n):RghC (n+1):=by
 intro B l cs d w hl hB htb hd0 hd1;obtain ⟨pv,fv,bv,kv,rfl,_,_,hA,hK⟩:=hl;obtain ⟨R,hR⟩:∃ R,R=rightN (n+1) d l:=⟨_,rfl⟩;rw [←hR];obtain ⟨k,hk⟩:∃ k,k=l.look:=⟨_,rfl⟩;obtain ⟨i0,hi0⟩:∃ k,k=l.i0:=⟨_,rfl⟩;obtain ⟨i1,hi1⟩:∃ k,k=l.i1:=⟨_,rfl⟩;obtain ⟨ks,hks⟩:∃ k,k=l.kids:=⟨_,rfl⟩;have HR:Hid (R=(lkB k&&(!decide (8<d)&&(!decide (8<ks.length)&&ks.all (rightN n (d+1)))))):=by
  have:R=(lkB k&&(!decide (8<d)&&(!decide (8<ks.length)&&ks.all (rightN n (d+1))))):=by rw [hR,hk,hks];rfl
  exact this
 rw [←hk] at hA;rw [←hks] at hK;rw [←hk,←hi0,←hi1];clear hk hi0 hi1 hks hR;obtain ⟨pa,pn,pc,rfl⟩:=sl_form hA.2.1;obtain ⟨fa,fn,fc,rfl⟩:=sl_form hA.2.2.1;obtain ⟨ba,bn,bc,rfl⟩:=sl_form hA.2.2.2;have HPN:Hid (pn=k.ct.pix.length):=by
  obtain ⟨a,c,h,_⟩:=hA.2.1;simp only [Value.slice.injEq] at h;have:pn=k.ct.pix.length:=h.2.1;exact this
 have hpn:pn≤9223372036854775807:=by
  obtain ⟨a,c,h,h1,h2,_⟩:=hA.2.1;simp only [Value.slice.injEq] at h;unfold maxLen at h2;omega
 obtain ⟨ka,kc,hkv,hkcap,hkcm,hkel⟩:=hK;subst hkv;obtain ⟨kn,hkn⟩:∃ m,m=ks.length:=⟨_,rfl⟩;have HKN:=N hkn;rw [←hkn] at hkcap ⊢;have HA:Hid (LkAt (·<B) w k (Z pa pn pc) (Z fa fn fc) (Z ba bn bc)∧B≤w.heap.size∧Tabs w):=⟨hA,hB,htb⟩;have HKE:Hid (∀ (W:World),Below w.heap.size w W→∀ (j:Nat) (x:Ly),ks[j]?=some x→∃ b o cs,ka=some ⟨b,o,none⟩∧LiesAt W b (o+j*31) cs∧RLy n (·<B) W cs x):=fun W hb j x hx=>by
  rcases hkel with h|⟨b,o,h1,h2,h3⟩
  ·subst h;simp at hx
  ·obtain ⟨cs,_,h4,h5⟩:=h3 j x hx;have hsm:Same (·<B) w W:=Same.of_below hb fun b (hb:b<B)=>Q hb hB;exact ⟨b,o,cs,h1,h4.same hsm h2,(RLy.ok n).same hsm h5⟩
 unfold maxLen at hkcm;have HR0:Hid ((w.alloc (.cells #[Y X i0,Y X i1,Y X k.dx,Y X k.dy,.bool k.hasC,Y X k.clip.x0,Y X k.clip.y0,Y X k.clip.x1,Y X k.clip.y1,Y X k.opa,Y X k.mode,Y X k.ct.kind,Y X k.ct.box.x0,Y X k.ct.box.y0,Y X k.ct.box.x1,Y X k.ct.box.y1,Y J k.ct.px.r,Y J k.ct.px.g,Y J k.ct.px.b,Y J k.ct.px.a,Y X k.ct.w,Y X k.ct.h,Y X k.ct.turn,Z pa pn pc,.bool k.hasF,Z fa fn fc,Y X k.fil.out,.bool k.hasB,Z ba bn bc,Y X k.bak.out,Z ka kn kc] 38)).rangeAt w.heap.size 2 (lkq k k.hasC k.hasF k.hasB (Z pa pn pc) (Z fa fn fc) (Z ba bn bc))):=(bag1 w (lyq i0 i1 k k.hasC k.hasF k.hasB (Z pa pn pc) (Z fa fn fc) (Z ba bn bc) (Z ka kn kc)) 38).range 0 rfl 2 28;have H1:Hid (Bag w ((w.alloc (.cells #[Y X i0,Y X i1,Y X k.dx,Y X k.dy,.bool k.hasC,Y X k.clip.x0,Y X k.clip.y0,Y X k.clip.x1,Y X k.clip.y1,Y X k.opa,Y X k.mode,Y X k.ct.kind,Y X k.ct.box.x0,Y X k.ct.box.y0,Y X k.ct.box.x1,Y X k.ct.box.y1,Y J k.ct.px.r,Y J k.ct.px.g,Y J k.ct.px.b,Y J k.ct.px.a,Y X k.ct.w,Y X k.ct.h,Y X k.ct.turn,Z pa pn pc,.bool k.hasF,Z fa fn fc,Y X k.fil.out,.bool k.hasB,Z ba bn bc,Y X k.bak.out,Z ka kn kc] 38)).alloc (.cells #[Y X k.dx,Y X k.dy,.bool k.hasC,Y X k.clip.x0,Y X k.clip.y0,Y X k.clip.x1,Y X k.clip.y1,Y X k.opa,Y X k.mode,Y X k.ct.kind,Y X k.ct.box.x0,Y X k.ct.box.y0,Y X k.ct.box.x1,Y X k.ct.box.y1,Y J k.ct.px.r,Y J k.ct.px.g,Y J k.ct.px.b,Y J k.ct.px.a,Y X k.ct.w,Y X k.ct.h,Y X k.ct.turn,Z pa pn pc,.bool k.hasF,Z fa fn fc,Y X k.fil.out,.bool k.hasB,Z ba bn bc,Y X k.bak.out] 35)) [(w.heap.size,(lyq i0 i1 k k.hasC k.hasF k.hasB (Z pa pn pc) (Z fa fn fc) (Z ba bn bc) (Z ka kn kc))),(w.heap.size+1,(lkq k k.hasC k.hasF k.hasB (Z pa pn pc) (Z fa fn fc) (Z ba bn bc)))]):=bag2 w (lyq i0 i1 k k.hasC k.hasF k.hasB (Z pa pn pc) (Z fa fn fc) (Z ba bn bc) (Z ka kn kc)) (lkq k k.hasC k.hasF k.hasB (Z pa pn pc) (Z fa fn fc) (Z ba bn bc)) _ _;obtain ⟨o1,ho1⟩:∃ o,o=lk1B k:=⟨_,rfl⟩;obtain ⟨o2,ho2⟩:∃ o,o=(o1&&(!k.hasC||clp1B k.clip)):=⟨_,rfl⟩;obtain ⟨o3,ho3⟩:∃ o,o=(o2&&(!k.hasF||filB k.fil)):=⟨_,rfl⟩;obtain ⟨o4,ho4⟩:∃ o,o=(o3&&(!k.hasB||filB k.bak)):=⟨_,rfl⟩;have HO1:=N ho1;have HO2:=N ho2;have HO3:=N ho3;have HO4:=N ho4;have HRO:Hid (R=(o4&&(!decide (8<d)&&(!decide (8<kn)&&ks.all (rightN n (d+1)))))):=by
  have:R=(o4&&(!decide (8<d)&&(!decide (8<kn)&&ks.all (rightN n (d+1))))):=by
   rw [HR.o,ho4,ho3,ho2,ho1,HKN.o];unfold lkB;simp only [Bool.and_assoc]
  exact this
 clear ho1 ho2 ho3 ho4 HR hA hkel hkn hB htb;go_enter Tryz.func15,Tryz.ntmps15;go_upto_region 2 with (first|(with_reducible refine wpList_load_mid rfl 35 _ rfl w.heap.size 2 rfl (lkq k k.hasC k.hasF k.hasB (Z pa pn pc) (Z fa fn fc) (Z ba bn bc)) _ HR0.o Tryz.underlying35 rfl (by kernel_rfl) ?_;simp only [Act.put,O,U,V])|(with_reducible refine wpList_alloc_store rfl rfl 35 rfl _ _ rfl _ #[Y X k.dx,Y X k.dy,.bool k.hasC,Y X k.clip.x0,Y X k.clip.y0,Y X k.clip.x1,Y X k.clip.y1,Y X k.opa,Y X k.mode,Y X k.ct.kind,Y X k.ct.box.x0,Y X k.ct.box.y0,Y X k.ct.box.x1,Y X k.ct.box.y1,Y J k.ct.px.r,Y J k.ct.px.g,Y J k.ct.px.b,Y J k.ct.px.a,Y X k.ct.w,Y X k.ct.h,Y X k.ct.turn,Z pa pn pc,.bool k.hasF,Z fa fn fc,Y X k.fil.out,.bool k.hasB,Z ba bn bc,Y X k.bak.out] alLook (by simp [Act.eval,Act.put]) rfl (by kernel_rfl) (by kernel_rfl) (by simp [Value.oneCell']) ?_;simp only [Act.put,O,U,V,size_alloc]));generalize ((w.alloc (.cells #[Y X i0,Y X i1,Y X k.dx,Y X k.dy,.bool k.hasC,Y X k.clip.x0,Y X k.clip.y0,Y X k.clip.x1,Y X k.clip.y1,Y X k.opa,Y X k.mode,Y X k.ct.kind,Y X k.ct.box.x0,Y X k.ct.box.y0,Y X k.ct.box.x1,Y X k.ct.box.y1,Y J k.ct.px.r,Y J k.ct.px.g,Y J k.ct.px.b,Y J k.ct.px.a,Y X k.ct.w,Y X k.ct.h,Y X k.ct.turn,Z pa pn pc,.bool k.hasF,Z fa fn fc,Y X k.fil.out,.bool k.hasB,Z ba bn bc,Y X k.bak.out,Z ka kn kc] 38)).alloc (.cells #[Y X k.dx,Y X k.dy,.bool k.hasC,Y X k.clip.x0,Y X k.clip.y0,Y X k.clip.x1,Y X k.clip.y1,Y X k.opa,Y X k.mode,Y X k.ct.kind,Y X k.ct.box.x0,Y X k.ct.box.y0,Y X k.ct.box.x1,Y X k.ct.box.y1,Y J k.ct.px.r,Y J k.ct.px.g,Y J k.ct.px.b,Y J k.ct.px.a,Y X k.ct.w,Y X k.ct.h,Y X k.ct.turn,Z pa pn pc,.bool k.hasF,Z fa fn fc,Y X k.fil.out,.bool k.hasB,Z ba bn bc,Y X k.bak.out] 35))=W1 at *;clear HR0
 go_cut [6] from 8 (fun ov wx=>ov=.bool o1∧Bag w wx [(w.heap.size,(lyq i0 i1 k k.hasC k.hasF k.hasB (Z pa pn pc) (Z fa fn fc) (Z ba bn bc) (Z ka kn kc))),(w.heap.size+1,(lkq k k.hasC k.hasF k.hasB (Z pa pn pc) (Z fa fn fc) (Z ba bn bc)))])
 case first=>
  have e0:=H1.o.cell 1 rfl 0 rfl;have e1:=H1.o.cell 1 rfl 1 rfl;have e7:=H1.o.cell 1 rfl 7 rfl;have e8:=H1.o.cell 1 rfl 8 rfl;obtain ⟨b0,hb0⟩:∃ x,x=(decide (-1048576≤k.dx)):=⟨_,rfl⟩;have HB0:=N hb0;clear hb0;obtain ⟨b1,hb1⟩:∃ x,x=(b0&&decide (k.dx≤1048576)):=⟨_,rfl⟩;have HB1:=N hb1;clear hb1;obtain ⟨b2,hb2⟩:∃ x,x=(b1&&decide (-1048576≤k.dy)):=⟨_,rfl⟩;have HB2:=N hb2;clear hb2;obtain ⟨b3,hb3⟩:∃ x,x=(b2&&decide (k.dy≤1048576)):=⟨_,rfl⟩;have HB3:=N hb3;clear hb3;obtain ⟨b4,hb4⟩:∃ x,x=(b3&&decide (0≤k.opa)):=⟨_,rfl⟩;have HB4:=N hb4;clear hb4;obtain ⟨b5,hb5⟩:∃ x,x=(b4&&decide (k.opa≤255)):=⟨_,rfl⟩;have HB5:=N hb5;clear hb5;obtain ⟨b6,hb6⟩:∃ x,x=(b5&&decide (0≤k.mode)):=⟨_,rfl⟩;have HB6:=N hb6;clear hb6;obtain ⟨b7,hb7⟩:∃ x,x=(b6&&decide (k.mode≤6)):=⟨_,rfl⟩;have HB7:=N hb7;clear hb7;refine wp_region_lit ?_;refine wpList_val rfl ((.pointer (some ⟨w.heap.size+1,0,none⟩))) (by simp [execOp,go_sem,Act.eval]) ?_;simp only [Act.put,O,U,V];refine wpList_val rfl (Y X k.dx) (by simp [execOp,go_sem,Act.eval,e0]) ?_;simp only [Act.put,O,U,V];refine wpList_val rfl (.bool b0) (by rw [HB0.o];simp [execOp,go_sem,Act.eval]) ?_;simp only [Act.put,O,U,V];refine wpList_val rfl (.bool b0) (by simp [execOp,go_sem,Act.eval]) ?_;simp only [Act.put,O,U,V];refine wpList_maybe b0 (by cases b0<;>rfl) ((.pointer (some ⟨w.heap.size+1,0,none⟩))) (fun hd=>by simp [execOp,go_sem,Act.eval]) ?_;intro z0 hz0;simp only [Act.put,O,U,V];refine wpList_maybe b0 (by cases b0<;>rfl) (Y X k.dx) (fun hd=>by simp [execOp,go_sem,Act.eval,e0,hz0 hd]) ?_;intro z1 hz1;simp only [Act.put,O,U,V];refine wpList_maybe b0 (by cases b0<;>rfl) (.bool (decide (k.dx≤1048576))) (fun hd=>by simp [execOp,go_sem,Act.eval,hz0 hd,hz1 hd]) ?_;intro z2 hz2;simp only [Act.put,O,U,V];refine wpList_val rfl (.bool b1) (by
   rw [HB1.o]
   cases b0 with
   |true=>simp [execOp,go_sem,Act.eval,hz2 rfl]
   |false=>simp [execOp,go_sem,Act.eval]) ?_
  simp only [Act.put,O,U,V];clear hz0 hz1 hz2;refine wpList_val rfl (.bool b1) (by simp [execOp,go_sem,Act.eval]) ?_;simp only [Act.put,O,U,V];refine wpList_maybe b1 (by cases b1<;>rfl) ((.pointer (some ⟨w.heap.size+1,1,none⟩))) (fun hd=>by simp [execOp,go_sem,Act.eval]) ?_;intro z3 hz3;simp only [Act.put,O,U,V];refine wpList_maybe b1 (by cases b1<;>rfl) (Y X k.dy) (fun hd=>by simp [execOp,go_sem,Act.eval,e1,hz3 hd]) ?_;intro z4 hz4;simp only [Act.put,O,U,V];refine wpList_maybe b1 (by cases b1<;>rfl) (.bool (decide (-1048576≤k.dy))) (fun hd=>by simp [execOp,go_sem,Act.eval,hz3 hd,hz4 hd]) ?_;intro z5 hz5;simp only [Act.put,O,U,V];refine wpList_val rfl (.bool b2) (by
   rw [HB2.o]
   cases b1 with
   |true=>simp [execOp,go_sem,Act.eval,hz5 rfl]
   |false=>simp [execOp,go_sem,Act.eval]) ?_
  simp only [Act.put,O,U,V];clear hz3 hz4 hz5;refine wpList_val rfl (.bool b2) (by simp [execOp,go_sem,Act.eval]) ?_;simp only [Act.put,O,U,V];refine wpList_maybe b2 (by cases b2<;>rfl) ((.pointer (some ⟨w.heap.size+1,1,none⟩))) (fun hd=>by simp [execOp,go_sem,Act.eval]) ?_;intro z6 hz6;simp only [Act.put,O,U,V];refine wpList_maybe b2 (by cases b2<;>rfl) (Y X k.dy) (fun hd=>by simp [execOp,go_sem,Act.eval,e1,hz6 hd]) ?_;intro z7 hz7;simp only [Act.put,O,U,V];refine wpList_maybe b2 (by cases b2<;>rfl) (.bool (decide (k.dy≤1048576))) (fun hd=>by simp [execOp,go_sem,Act.eval,hz6 hd,hz7 hd]) ?_;intro z8 hz8;simp only [Act.put,O,U,V];refine wpList_val rfl (.bool b3) (by
   rw [HB3.o]
   cases b2 with
   |true=>simp [execOp,go_sem,Act.eval,hz8 rfl]
   |false=>simp [execOp,go_sem,Act.eval]) ?_
  simp only [Act.put,O,U,V];clear hz6 hz7 hz8;refine wpList_val rfl (.bool b3) (by simp [execOp,go_sem,Act.eval]) ?_;simp only [Act.put,O,U,V];refine wpList_maybe b3 (by cases b3<;>rfl) ((.pointer (some ⟨w.heap.size+1,7,none⟩))) (fun hd=>by simp [execOp,go_sem,Act.eval]) ?_;intro z9 hz9;simp only [Act.put,O,U,V];refine wpList_maybe b3 (by cases b3<;>rfl) (Y X k.opa) (fun hd=>by simp [execOp,go_sem,Act.eval,e7,hz9 hd]) ?_;intro z10 hz10;simp only [Act.put,O,U,V];refine wpList_maybe b3 (by cases b3<;>rfl) (.bool (decide (0≤k.opa))) (fun hd=>by simp [execOp,go_sem,Act.eval,hz9 hd,hz10 hd]) ?_;intro z11 hz11;simp only [Act.put,O,U,V];refine wpList_val rfl (.bool b4) (by
   rw [HB4.o]
   cases b3 with
   |true=>simp [execOp,go_sem,Act.eval,hz11 rfl]
   |false=>simp [execOp,go_sem,Act.eval]) ?_
  simp only [Act.put,O,U,V];clear hz9 hz10 hz11;refine wpList_val rfl (.bool b4) (by simp [execOp,go_sem,Act.eval]) ?_;simp only [Act.put,O,U,V];refine wpList_maybe b4 (by cases b4<;>rfl) ((.pointer (some ⟨w.heap.size+1,7,none⟩))) (fun hd=>by simp [execOp,go_sem,Act.eval]) ?_;intro z12 hz12;simp only [Act.put,O,U,V];refine wpList_maybe b4 (by cases b4<;>rfl) (Y X k.opa) (fun hd=>by simp [execOp,go_sem,Act.eval,e7,hz12 hd]) ?_;intro z13 hz13;simp only [Act.put,O,U,V];refine wpList_maybe b4 (by cases b4<;>rfl) (.bool (decide (k.opa≤255))) (fun hd=>by simp [execOp,go_sem,Act.eval,hz12 hd,hz13 hd]) ?_;intro z14 hz14;simp only [Act.put,O,U,V];refine wpList_val rfl (.bool b5) (by
   rw [HB5.o]
   cases b4 with
   |true=>simp [execOp,go_sem,Act.eval,hz14 rfl]
   |false=>simp [execOp,go_sem,Act.eval]) ?_
  simp only [Act.put,O,U,V];clear hz12 hz13 hz14;refine wpList_val rfl (.bool b5) (by simp [execOp,go_sem,Act.eval]) ?_;simp only [Act.put,O,U,V];refine wpList_maybe b5 (by cases b5<;>rfl) ((.pointer (some ⟨w.heap.size+1,8,none⟩))) (fun hd=>by simp [execOp,go_sem,Act.eval]) ?_;intro z15 hz15;simp only [Act.put,O,U,V];refine wpList_maybe b5 (by cases b5<;>rfl) (Y X k.mode) (fun hd=>by simp [execOp,go_sem,Act.eval,e8,hz15 hd]) ?_;intro z16 hz16;simp only [Act.put,O,U,V];refine wpList_maybe b5 (by cases b5<;>rfl) (.bool (decide (0≤k.mode))) (fun hd=>by simp [execOp,go_sem,Act.eval,hz15 hd,hz16 hd]) ?_;intro z17 hz17;simp only [Act.put,O,U,V];refine wpList_val rfl (.bool b6) (by
   rw [HB6.o]
   cases b5 with
   |true=>simp [execOp,go_sem,Act.eval,hz17 rfl]
   |false=>simp [execOp,go_sem,Act.eval]) ?_
  simp only [Act.put,O,U,V];clear hz15 hz16 hz17;refine wpList_val rfl (.bool b6) (by simp [execOp,go_sem,Act.eval]) ?_;simp only [Act.put,O,U,V];refine wpList_maybe b6 (by cases b6<;>rfl) ((.pointer (some ⟨w.heap.size+1,8,none⟩))) (fun hd=>by simp [execOp,go_sem,Act.eval]) ?_;intro z18 hz18;simp only [Act.put,O,U,V];refine wpList_maybe b6 (by cases b6<;>rfl) (Y X k.mode) (fun hd=>by simp [execOp,go_sem,Act.eval,e8,hz18 hd]) ?_;intro z19 hz19;simp only [Act.put,O,U,V];refine wpList_maybe b6 (by cases b6<;>rfl) (.bool (decide (k.mode≤6))) (fun hd=>by simp [execOp,go_sem,Act.eval,hz18 hd,hz19 hd]) ?_;intro z20 hz20;simp only [Act.put,O,U,V];refine wpList_val rfl (.bool b7) (by
   rw [HB7.o]
   cases b6 with
   |true=>simp [execOp,go_sem,Act.eval,hz20 rfl]
   |false=>simp [execOp,go_sem,Act.eval]) ?_
  simp only [Act.put,O,U,V];clear hz18 hz19 hz20;have HO1c:Hid (o1=(b7&&(contB k.ct&&decide (pn≤300)))):=by
   have:o1=(b7&&(contB k.ct&&decide (pn≤300))):=by
    rw [HB7.o,HB6.o,HB5.o,HB4.o,HB3.o,HB2.o,HB1.o,HB0.o,HO1.o,HPN.o];unfold lk1B;simp only [Bool.and_assoc]
   exact this
  clear e0 e1 e7 e8 HB0 HB1 HB2 HB3 HB4 HB5 HB6 HB7
  cases b7 with
  |false=>
   have HF:Hid (o1=false):=by
    have:o1=false:=by rw [HO1c.o];rfl
    exact this
   go_wp2_with fail;go_meet
   case rel=>exact ⟨by rw [HF.o],H1.o⟩
  |true=>
  have HO1d:Hid (o1=(contB k.ct&&decide (pn≤300))):=by
   have:o1=(contB k.ct&&decide (pn≤300)):=HO1c.o;exact this
  clear HO1c;obtain ⟨c,hc⟩:∃ c,c=contB k.ct:=⟨_,rfl⟩;have HCC:Hid (Calls Tryz.prog 38 #[.agg #[Y X k.ct.kind,Y X k.ct.box.x0,Y X k.ct.box.y0,Y X k.ct.box.x1,Y X k.ct.box.y1,Y J k.ct.px.r,Y J k.ct.px.g,Y J k.ct.px.b,Y J k.ct.px.a,Y X k.ct.w,Y X k.ct.h,Y X k.ct.turn,Z pa pn pc]] W1 (PPost W1 (.bool c))):=by
   have h:=content23_c B k.ct (Z pa pn pc) W1 HA.o.1.1.2.2.2.2.2.1.2.2.1 ((HA.o.1.same (Same.of_below H1.o.below fun b (hb:b<B)=>Q hb HA.o.2.1)).2.1) (I HA.o.2.1 H1.o.below.size);rw [hc];exact h
  rw [←hc] at HO1d;clear hc;have HLC:Hid (W1.rangeAt (w.heap.size+1) 9 (ctc k.ct (Z pa pn pc))):=H1.o.range 1 rfl 9 13
  go_wp2_with (with_reducible refine wpList_load_want rfl 30 _ rfl (w.heap.size+1) 9 rfl (ctc k.ct (Z pa pn pc)) _ HLC.o Tryz.underlying30 rfl (by kernel_rfl) ?_;simp only [Act.put,O,U,V])
  refine HCC.o.mono ?_;rintro e W2 ⟨rfl,hb2⟩;have H2:=N (H1.o.call hb2);clear hb2 HCC;have e21:=H2.o.cell 1 rfl 21 rfl
  cases c with
  |false=>
   go_wp2_with fail;go_meet
   case rel=>exact ⟨by rw [HO1d.o];rfl,H2.o⟩
  |true=>
   by_cases t:pn≤300
   ·have d0:decide (pn≤300)=true:=decide_eq_true t;have d1:decide ((pn:Int)≤300)=true:=decide_eq_true (by omega);have HF:Hid (o1=true):=by
     have:o1=true:=by rw [HO1d.o,d0];rfl
     exact this
    clear t;go_wp2_with fail;go_meet
    case rel=>exact ⟨by rw [HF.o],H2.o⟩
   ·have d0:decide (pn≤300)=false:=decide_eq_false t;have d1:decide ((pn:Int)≤300)=false:=decide_eq_false (by omega);have HF:Hid (o1=false):=by
     have:o1=false:=by rw [HO1d.o,d0];rfl
     exact this
    clear t;go_wp2_with fail;go_meet
    case rel=>exact ⟨by rw [HF.o],H2.o⟩
 case rest=>
 obtain ⟨rfl,hbg⟩:=hcut;obtain ⟨WA,hWA⟩:∃ x,x=wc:=⟨_,rfl⟩;subst hWA;have H2:=N hbg;have e2:=H2.o.cell 1 rfl 2 rfl;clear hbg H1
 go_upto_if 61 with fail
 go_cut [6] from 8 (fun ov wx=>ov=.bool o2∧Bag w wx [(w.heap.size,(lyq i0 i1 k k.hasC k.hasF k.hasB (Z pa pn pc) (Z fa fn fc) (Z ba bn bc) (Z ka kn kc))),(w.heap.size+1,(lkq k k.hasC k.hasF k.hasB (Z pa pn pc) (Z fa fn fc) (Z ba bn bc)))])
 case first=>
  cases hC:k.hasC with
  |false=>
   have HF:Hid (o2=o1):=by
    have:o2=o1:=by rw [HO2.o,hC];cases o1<;>rfl
    exact this
   go_wp2_with fail;go_meet
   case rel=>exact ⟨by rw [HF.o],H2.o⟩
  |true=>
   have HO2c:Hid (o2=(o1&&clp1B k.clip)):=by
    have:o2=(o1&&clp1B k.clip):=by rw [HO2.o,hC];rfl
    exact this
   have e3:=H2.o.cell 1 rfl 3 rfl;have e4:=H2.o.cell 1 rfl 4 rfl;have e5:=H2.o.cell 1 rfl 5 rfl;have e6:=H2.o.cell 1 rfl 6 rfl;go_upto_region 4 with fail;refine wp_region_lit ?_;obtain ⟨b0,hb0⟩:∃ x,x=(o1&&decide (-1048576≤k.clip.x0)):=⟨_,rfl⟩;have HB0:=N hb0;clear hb0;obtain ⟨b1,hb1⟩:∃ x,x=(b0&&decide (-1048576≤k.clip.y0)):=⟨_,rfl⟩;have HB1:=N hb1;clear hb1;obtain ⟨b2,hb2⟩:∃ x,x=(b1&&decide (k.clip.x1≤1048576)):=⟨_,rfl⟩;have HB2:=N hb2;clear hb2;obtain ⟨b3,hb3⟩:∃ x,x=(b2&&decide (k.clip.y1≤1048576)):=⟨_,rfl⟩;have HB3:=N hb3;clear hb3;obtain ⟨b4,hb4⟩:∃ x,x=(b3&&decide (k.clip.x0≤1048576)):=⟨_,rfl⟩;have HB4:=N hb4;clear hb4;obtain ⟨b5,hb5⟩:∃ x,x=(b4&&decide (k.clip.y0≤1048576)):=⟨_,rfl⟩;have HB5:=N hb5;clear hb5;obtain ⟨b6,hb6⟩:∃ x,x=(b5&&decide (-1048576≤k.clip.x1)):=⟨_,rfl⟩;have HB6:=N hb6;clear hb6;obtain ⟨b7,hb7⟩:∃ x,x=(b6&&decide (-1048576≤k.clip.y1)):=⟨_,rfl⟩;have HB7:=N hb7;clear hb7;have HF:Hid (b7=o2):=by
    have:b7=o2:=by
     rw [HB7.o,HB6.o,HB5.o,HB4.o,HB3.o,HB2.o,HB1.o,HB0.o,HO2c.o];unfold clp1B;simp only [Bool.and_assoc]
    exact this
   refine wpList_val rfl (.bool o1) (by simp [execOp,go_sem,Act.eval]) ?_;simp only [Act.put,O,U,V];refine wpList_val rfl (.bool o1) (by simp [execOp,go_sem,Act.eval]) ?_;simp only [Act.put,O,U,V];refine wpList_maybe o1 (by cases o1<;>rfl) ((.pointer (some ⟨w.heap.size+1,3,none⟩))) (fun hd=>by simp [execOp,go_sem,Act.eval]) ?_;intro z21 hz21;simp only [Act.put,O,U,V];refine wpList_maybe o1 (by cases o1<;>rfl) ((.pointer (some ⟨w.heap.size+1,3,none⟩))) (fun hd=>by simp [execOp,go_sem,Act.eval,hz21 hd]) ?_;intro z22 hz22;simp only [Act.put,O,U,V];refine wpList_maybe o1 (by cases o1<;>rfl) (Y X k.clip.x0) (fun hd=>by simp [execOp,go_sem,Act.eval,e3,hz21 hd,hz22 hd]) ?_;intro z23 hz23;simp only [Act.put,O,U,V];refine wpList_maybe o1 (by cases o1<;>rfl) (.bool (decide (-1048576≤k.clip.x0))) (fun hd=>by simp [execOp,go_sem,Act.eval,hz21 hd,hz22 hd,hz23 hd]) ?_;intro z24 hz24;simp only [Act.put,O,U,V];refine wpList_val rfl (.bool b0) (by
    rw [HB0.o]
    cases o1 with
    |true=>simp [execOp,go_sem,Act.eval,hz24 rfl]
    |false=>simp [execOp,go_sem,Act.eval]) ?_
   simp only [Act.put,O,U,V];clear hz21 hz22 hz23 hz24;refine wpList_val rfl (.bool b0) (by simp [execOp,go_sem,Act.eval]) ?_;simp only [Act.put,O,U,V];refine wpList_maybe b0 (by cases b0<;>rfl) ((.pointer (some ⟨w.heap.size+1,3,none⟩))) (fun hd=>by simp [execOp,go_sem,Act.eval]) ?_;intro z25 hz25;simp only [Act.put,O,U,V];refine wpList_maybe b0 (by cases b0<;>rfl) ((.pointer (some ⟨w.heap.size+1,4,none⟩))) (fun hd=>by simp [execOp,go_sem,Act.eval,hz25 hd]) ?_;intro z26 hz26;simp only [Act.put,O,U,V];refine wpList_maybe b0 (by cases b0<;>rfl) (Y X k.clip.y0) (fun hd=>by simp [execOp,go_sem,Act.eval,e4,hz25 hd,hz26 hd]) ?_;intro z27 hz27;simp only [Act.put,O,U,V];refine wpList_maybe b0 (by cases b0<;>rfl) (.bool (decide (-1048576≤k.clip.y0))) (fun hd=>by simp [execOp,go_sem,Act.eval,hz25 hd,hz26 hd,hz27 hd]) ?_;intro z28 hz28;simp only [Act.put,O,U,V];refine wpList_val rfl (.bool b1) (by
    rw [HB1.o]
    cases b0 with
    |true=>simp [execOp,go_sem,Act.eval,hz28 rfl]
    |false=>simp [execOp,go_sem,Act.eval]) ?_
   simp only [Act.put,O,U,V];clear hz25 hz26 hz27 hz28;refine wpList_val rfl (.bool b1) (by simp [execOp,go_sem,Act.eval]) ?_;simp only [Act.put,O,U,V];refine wpList_maybe b1 (by cases b1<;>rfl) ((.pointer (some ⟨w.heap.size+1,3,none⟩))) (fun hd=>by simp [execOp,go_sem,Act.eval]) ?_;intro z29 hz29;simp only [Act.put,O,U,V];refine wpList_maybe b1 (by cases b1<;>rfl) ((.pointer (some ⟨w.heap.size+1,5,none⟩))) (fun hd=>by simp [execOp,go_sem,Act.eval,hz29 hd]) ?_;intro z30 hz30;simp only [Act.put,O,U,V];refine wpList_maybe b1 (by cases b1<;>rfl) (Y X k.clip.x1) (fun hd=>by simp [execOp,go_sem,Act.eval,e5,hz29 hd,hz30 hd]) ?_;intro z31 hz31;simp only [Act.put,O,U,V];refine wpList_maybe b1 (by cases b1<;>rfl) (.bool (decide (k.clip.x1≤1048576))) (fun hd=>by simp [execOp,go_sem,Act.eval,hz29 hd,hz30 hd,hz31 hd]) ?_;intro z32 hz32;simp only [Act.put,O,U,V];refine wpList_val rfl (.bool b2) (by
    rw [HB2.o]
    cases b1 with
    |true=>simp [execOp,go_sem,Act.eval,hz32 rfl]
    |false=>simp [execOp,go_sem,Act.eval]) ?_
   simp only [Act.put,O,U,V];clear hz29 hz30 hz31 hz32;refine wpList_val rfl (.bool b2) (by simp [execOp,go_sem,Act.eval]) ?_;simp only [Act.put,O,U,V];refine wpList_maybe b2 (by cases b2<;>rfl) ((.pointer (some ⟨w.heap.size+1,3,none⟩))) (fun hd=>by simp [execOp,go_sem,Act.eval]) ?_;intro z33 hz33;simp only [Act.put,O,U,V];refine wpList_maybe b2 (by cases b2<;>rfl) ((.pointer (some ⟨w.heap.size+1,6,none⟩))) (fun hd=>by simp [execOp,go_sem,Act.eval,hz33 hd]) ?_;intro z34 hz34;simp only [Act.put,O,U,V];refine wpList_maybe b2 (by cases b2<;>rfl) (Y X k.clip.y1) (fun hd=>by simp [execOp,go_sem,Act.eval,e6,hz33 hd,hz34 hd]) ?_;intro z35 hz35;simp only [Act.put,O,U,V];refine wpList_maybe b2 (by cases b2<;>rfl) (.bool (decide (k.clip.y1≤1048576))) (fun hd=>by simp [execOp,go_sem,Act.eval,hz33 hd,hz34 hd,hz35 hd]) ?_;intro z36 hz36;simp only [Act.put,O,U,V];refine wpList_val rfl (.bool b3) (by
    rw [HB3.o]
    cases b2 with
    |true=>simp [execOp,go_sem,Act.eval,hz36 rfl]
    |false=>simp [execOp,go_sem,Act.eval]) ?_
   simp only [Act.put,O,U,V];clear hz33 hz34 hz35 hz36;refine wpList_val rfl (.bool b3) (by simp [execOp,go_sem,Act.eval]) ?_;simp only [Act.put,O,U,V];refine wpList_maybe b3 (by cases b3<;>rfl) ((.pointer (some ⟨w.heap.size+1,3,none⟩))) (fun hd=>by simp [execOp,go_sem,Act.eval]) ?_;intro z37 hz37;simp only [Act.put,O,U,V];refine wpList_maybe b3 (by cases b3<;>rfl) ((.pointer (some ⟨w.heap.size+1,3,none⟩))) (fun hd=>by simp [execOp,go_sem,Act.eval,hz37 hd]) ?_;intro z38 hz38;simp only [Act.put,O,U,V];refine wpList_maybe b3 (by cases b3<;>rfl) (Y X k.clip.x0) (fun hd=>by simp [execOp,go_sem,Act.eval,e3,hz37 hd,hz38 hd]) ?_;intro z39 hz39;simp only [Act.put,O,U,V];refine wpList_maybe b3 (by cases b3<;>rfl) (.bool (decide (k.clip.x0≤1048576))) (fun hd=>by simp [execOp,go_sem,Act.eval,hz37 hd,hz38 hd,hz39 hd]) ?_;intro z40 hz40;simp only [Act.put,O,U,V];refine wpList_val rfl (.bool b4) (by
    rw [HB4.o]
    cases b3 with
    |true=>simp [execOp,go_sem,Act.eval,hz40 rfl]
    |false=>simp [execOp,go_sem,Act.eval]) ?_
   simp only [Act.put,O,U,V];clear hz37 hz38 hz39 hz40;refine wpList_val rfl (.bool b4) (by simp [execOp,go_sem,Act.eval]) ?_;simp only [Act.put,O,U,V];refine wpList_maybe b4 (by cases b4<;>rfl) ((.pointer (some ⟨w.heap.size+1,3,none⟩))) (fun hd=>by simp [execOp,go_sem,Act.eval]) ?_;intro z41 hz41;simp only [Act.put,O,U,V];refine wpList_maybe b4 (by cases b4<;>rfl) ((.pointer (some ⟨w.heap.size+1,4,none⟩))) (fun hd=>by simp [execOp,go_sem,Act.eval,hz41 hd]) ?_;intro z42 hz42;simp only [Act.put,O,U,V];refine wpList_maybe b4 (by cases b4<;>rfl) (Y X k.clip.y0) (fun hd=>by simp [execOp,go_sem,Act.eval,e4,hz41 hd,hz42 hd]) ?_;intro z43 hz43;simp only [Act.put,O,U,V];refine wpList_maybe b4 (by cases b4<;>rfl) (.bool (decide (k.clip.y0≤1048576))) (fun hd=>by simp [execOp,go_sem,Act.eval,hz41 hd,hz42 hd,hz43 hd]) ?_;intro z44 hz44;simp only [Act.put,O,U,V];refine wpList_val rfl (.bool b5) (by
    rw [HB5.o]
    cases b4 with
    |true=>simp [execOp,go_sem,Act.eval,hz44 rfl]
    |false=>simp [execOp,go_sem,Act.eval]) ?_
   simp only [Act.put,O,U,V];clear hz41 hz42 hz43 hz44;refine wpList_val rfl (.bool b5) (by simp [execOp,go_sem,Act.eval]) ?_;simp only [Act.put,O,U,V];refine wpList_maybe b5 (by cases b5<;>rfl) ((.pointer (some ⟨w.heap.size+1,3,none⟩))) (fun hd=>by simp [execOp,go_sem,Act.eval]) ?_;intro z45 hz45;simp only [Act.put,O,U,V];refine wpList_maybe b5 (by cases b5<;>rfl) ((.pointer (some ⟨w.heap.size+1,5,none⟩))) (fun hd=>by simp [execOp,go_sem,Act.eval,hz45 hd]) ?_;intro z46 hz46;simp only [Act.put,O,U,V];refine wpList_maybe b5 (by cases b5<;>rfl) (Y X k.clip.x1) (fun hd=>by simp [execOp,go_sem,Act.eval,e5,hz45 hd,hz46 hd]) ?_;intro z47 hz47;simp only [Act.put,O,U,V];refine wpList_maybe b5 (by cases b5<;>rfl) (.bool (decide (-1048576≤k.clip.x1))) (fun hd=>by simp [execOp,go_sem,Act.eval,hz45 hd,hz46 hd,hz47 hd]) ?_;intro z48 hz48;simp only [Act.put,O,U,V];refine wpList_val rfl (.bool b6) (by
    rw [HB6.o]
    cases b5 with
    |true=>simp [execOp,go_sem,Act.eval,hz48 rfl]
    |false=>simp [execOp,go_sem,Act.eval]) ?_
   simp only [Act.put,O,U,V];clear hz45 hz46 hz47 hz48;refine wpList_val rfl (.bool b6) (by simp [execOp,go_sem,Act.eval]) ?_;simp only [Act.put,O,U,V];refine wpList_maybe b6 (by cases b6<;>rfl) ((.pointer (some ⟨w.heap.size+1,3,none⟩))) (fun hd=>by simp [execOp,go_sem,Act.eval]) ?_;intro z49 hz49;simp only [Act.put,O,U,V];refine wpList_maybe b6 (by cases b6<;>rfl) ((.pointer (some ⟨w.heap.size+1,6,none⟩))) (fun hd=>by simp [execOp,go_sem,Act.eval,hz49 hd]) ?_;intro z50 hz50;simp only [Act.put,O,U,V];refine wpList_maybe b6 (by cases b6<;>rfl) (Y X k.clip.y1) (fun hd=>by simp [execOp,go_sem,Act.eval,e6,hz49 hd,hz50 hd]) ?_;intro z51 hz51;simp only [Act.put,O,U,V];refine wpList_maybe b6 (by cases b6<;>rfl) (.bool (decide (-1048576≤k.clip.y1))) (fun hd=>by simp [execOp,go_sem,Act.eval,hz49 hd,hz50 hd,hz51 hd]) ?_;intro z52 hz52;simp only [Act.put,O,U,V];refine wpList_val rfl (.bool b7) (by
    rw [HB7.o]
    cases b6 with
    |true=>simp [execOp,go_sem,Act.eval,hz52 rfl]
    |false=>simp [execOp,go_sem,Act.eval]) ?_
   simp only [Act.put,O,U,V];clear hz49 hz50 hz51 hz52;clear e3 e4 e5 e6;go_wp2_with fail;go_meet
   case rel=>exact ⟨by rw [HF.o],H2.o⟩
 case rest=>
 obtain ⟨rfl,hbg⟩:=hcut;obtain ⟨WB,hWA⟩:∃ x,x=wc:=⟨_,rfl⟩;subst hWA;have H3p:=N hbg;have e22:=H3p.o.cell 1 rfl 22 rfl;clear hbg H2 e2
 go_upto_if 112 with fail
 go_cut [6] from 8 (fun ov wx=>ov=.bool o3∧Bag w wx [(w.heap.size,(lyq i0 i1 k k.hasC k.hasF k.hasB (Z pa pn pc) (Z fa fn fc) (Z ba bn bc) (Z ka kn kc))),(w.heap.size+1,(lkq k k.hasC k.hasF k.hasB (Z pa pn pc) (Z fa fn fc) (Z ba bn bc)))])
 case first=>
  cases hC:k.hasF with
  |false=>
   have HF:Hid (o3=o2):=by
    have:o3=o2:=by rw [HO3.o,hC];cases o2<;>rfl
    exact this
   go_wp2_with fail;go_meet
   case rel=>exact ⟨by rw [HF.o],H3p.o⟩
  |true=>
   cases o2 with
   |false=>
    go_wp2_with fail;go_meet
    case rel=>exact ⟨by rw [HO3.o];rfl,H3p.o⟩
   |true=>
    obtain ⟨fw,hfw⟩:∃ f,f=fewB k.fil.nds 7:=⟨_,rfl⟩;have HOc:Hid (o3=filB k.fil):=by
     have:o3=filB k.fil:=by rw [HO3.o,hC];rfl
     exact this
    have HGR:Hid (∀ W,Below w.heap.size w W→Gr B W (Z fa fn fc) k.fil.nds∧B≤W.heap.size∧Tabs W):=fun W hb=>⟨(HA.o.1.same (Same.of_below hb fun b (hb:b<B)=>Q hb HA.o.2.1)).2.2.1,I HA.o.2.1 hb.size,HA.o.2.2.below hb⟩;have HFW:Hid (∀ W,Below w.heap.size w W→Calls Tryz.prog 39 #[.agg #[Z fa fn fc,Y X k.fil.out],Y X 7] W (PPost W (.bool fw))):=fun W hb=>by
     rw [hfw];exact rfew_c B _ k.fil.nds k.fil.out 7 W (by omega) (HGR.o W hb).1
    have HFE:=N hfw;have e23:=H3p.o.cell 1 rfl 23 rfl;have e24:=H3p.o.cell 1 rfl 24 rfl;clear hfw hC;go_wp2_with fail;refine (HFW.o _ H3p.o.below).mono ?_;rintro e W4 ⟨rfl,hb4⟩;have H4:=N (H3p.o.call hb4);clear hb4 H3p HFW e23 e24 e22
    cases fw with
    |false=>
     have HF:Hid (o3=false):=by
      have:o3=false:=by rw [HOc.o];unfold filB;rw [←HFE.o];rfl
      exact this
     go_wp2_with fail;go_meet
     case rel=>exact ⟨by rw [HF.o],H4.o⟩
    |true=>
     obtain ⟨ck,hck⟩:∃ f,f=chkB k.fil.nds k.fil.out:=⟨_,rfl⟩;have HCK:Hid (∀ W,Below w.heap.size w W→Calls Tryz.prog 40 #[.agg #[Z fa fn fc,Y X k.fil.out]] W (PPost W (Y X ck))):=fun W hb=>by
      obtain ⟨h1,h2⟩:=few_of HFE.o.symm (by omega);rw [hck];exact check_c B _ k.fil.nds k.fil.out W (by omega) h2 (HGR.o W hb).2.2 (HGR.o W hb).1 (HGR.o W hb).2.1
     have HF:Hid (o3=(ck==0)):=by
      have:o3=(ck==0):=by rw [HOc.o,hck];unfold filB;rw [←HFE.o];rfl
      exact this
     have e23:=H4.o.cell 1 rfl 23 rfl;have e24:=H4.o.cell 1 rfl 24 rfl;clear hck;go_wp2_with fail;refine (HCK.o _ H4.o.below).mono ?_;rintro e W5 ⟨rfl,hb5⟩;have H5:=N (H4.o.call hb5);clear hb5 H4 HCK e23 e24;go_wp2_with fail;go_meet
     case rel=>exact ⟨by rw [HF.o],H5.o⟩
 case rest=>
 obtain ⟨rfl,hbg⟩:=hcut;obtain ⟨WC,hWA⟩:∃ x,x=wc:=⟨_,rfl⟩;subst hWA;have H3:=N hbg;have e25:=H3.o.cell 1 rfl 25 rfl;clear hbg H3p e22
 go_upto_if 126 with fail
 go_cut [6] from 8 (fun ov wx=>ov=.bool o4∧Bag w wx [(w.heap.size,(lyq i0 i1 k k.hasC k.hasF k.hasB (Z pa pn pc) (Z fa fn fc) (Z ba bn bc) (Z ka kn kc))),(w.heap.size+1,(lkq k k.hasC k.hasF k.hasB (Z pa pn pc) (Z fa fn fc) (Z ba bn bc)))])
 case first=>
  cases hC:k.hasB with
  |false=>
   have HF:Hid (o4=o3):=by
    have:o4=o3:=by rw [HO4.o,hC];cases o3<;>rfl
    exact this
   go_wp2_with fail;go_meet
   case rel=>exact ⟨by rw [HF.o],H3.o⟩
  |true=>
   cases o3 with
   |false=>
    go_wp2_with fail;go_meet
    case rel=>exact ⟨by rw [HO4.o];rfl,H3.o⟩
   |true=>
    obtain ⟨fw,hfw⟩:∃ f,f=fewB k.bak.nds 7:=⟨_,rfl⟩;have HOc:Hid (o4=filB k.bak):=by
     have:o4=filB k.bak:=by rw [HO4.o,hC];rfl
     exact this
    have HGR:Hid (∀ W,Below w.heap.size w W→Gr B W (Z ba bn bc) k.bak.nds∧B≤W.heap.size∧Tabs W):=fun W hb=>⟨(HA.o.1.same (Same.of_below hb fun b (hb:b<B)=>Q hb HA.o.2.1)).2.2.2,I HA.o.2.1 hb.size,HA.o.2.2.below hb⟩;have HFW:Hid (∀ W,Below w.heap.size w W→Calls Tryz.prog 39 #[.agg #[Z ba bn bc,Y X k.bak.out],Y X 7] W (PPost W (.bool fw))):=fun W hb=>by
     rw [hfw];exact rfew_c B _ k.bak.nds k.bak.out 7 W (by omega) (HGR.o W hb).1
    have HFE:=N hfw;have e26:=H3.o.cell 1 rfl 26 rfl;have e27:=H3.o.cell 1 rfl 27 rfl;clear hfw hC;go_wp2_with fail;refine (HFW.o _ H3.o.below).mono ?_;rintro e W4 ⟨rfl,hb4⟩;have H4:=N (H3.o.call hb4);clear hb4 H3 HFW e26 e27 e25
    cases fw with
    |false=>
     have HF:Hid (o4=false):=by
      have:o4=false:=by rw [HOc.o];unfold filB;rw [←HFE.o];rfl
      exact this
     go_wp2_with fail;go_meet
     case rel=>exact ⟨by rw [HF.o],H4.o⟩
    |true=>
     obtain ⟨ck,hck⟩:∃ f,f=chkB k.bak.nds k.bak.out:=⟨_,rfl⟩;have HCK:Hid (∀ W,Below w.heap.size w W→Calls Tryz.prog 40 #[.agg #[Z ba bn bc,Y X k.bak.out]] W (PPost W (Y X ck))):=fun W hb=>by
      obtain ⟨h1,h2⟩:=few_of HFE.o.symm (by omega);rw [hck];exact check_c B _ k.bak.nds k.bak.out W (by omega) h2 (HGR.o W hb).2.2 (HGR.o W hb).1 (HGR.o W hb).2.1
     have HF:Hid (o4=(ck==0)):=by
      have:o4=(ck==0):=by rw [HOc.o,hck];unfold filB;rw [←HFE.o];rfl
      exact this
     have e26:=H4.o.cell 1 rfl 26 rfl;have e27:=H4.o.cell 1 rfl 27 rfl;clear hck;go_wp2_with fail;refine (HCK.o _ H4.o.below).mono ?_;rintro e W5 ⟨rfl,hb5⟩;have H5:=N (H4.o.call hb5);clear hb5 H4 HCK e26 e27;go_wp2_with fail;go_meet
     case rel=>exact ⟨by rw [HF.o],H5.o⟩
 case rest=>
 obtain ⟨rfl,hbg⟩:=hcut;obtain ⟨WD,hWA⟩:∃ x,x=wc:=⟨_,rfl⟩;subst hWA;have H7:=N hbg;have e30:=H7.o.cell 0 rfl 30 rfl;clear hbg H3 e25
 cases o4 with
 |false=>
  have HF:Hid (R=false):=by
   have:R=false:=by rw [HRO.o];rfl
   exact this
  go_wp2_with fail;go_ret;exact ⟨ret_b HF.o.symm,H7.o.below⟩
 |true=>
 by_cases t0:8<d
 ·have d0:decide (8<d)=true:=decide_eq_true t0;have HF:Hid (R=false):=by
   have:R=false:=by rw [HRO.o,d0];rfl
   exact this
  clear t0;go_wp2_with fail;go_ret;exact ⟨ret_b HF.o.symm,H7.o.below⟩
 have d0:decide (8<d)=false:=decide_eq_false t0;by_cases t1:8<kn
 ·have d1:decide (8<kn)=true:=decide_eq_true t1;have d1':decide (8<(kn:Int))=true:=decide_eq_true (by omega);have HF:Hid (R=false):=by
   have:R=false:=by rw [HRO.o,d0,d1];rfl
   exact this
  clear t0 t1;go_wp2_with fail;go_ret;exact ⟨ret_b HF.o.symm,H7.o.below⟩
 have d1:decide (8<kn)=false:=decide_eq_false t1;have d1':decide (8<(kn:Int))=false:=decide_eq_false (by omega);have HRK:Hid (R=ks.all (rightN n (d+1))):=by
  have:R=ks.all (rightN n (d+1)):=by rw [HRO.o,d0,d1];rfl
  exact this
 clear HRO;go_wp2_with fail;go_loopw [7] (fun jv wr=>∃ j:Nat,j≤kn∧jv=Y X j∧Bag w wr [(w.heap.size,(lyq i0 i1 k k.hasC k.hasF k.hasB (Z pa pn pc) (Z fa fn fc) (Z ba bn bc) (Z ka kn kc))),(w.heap.size+1,(lkq k k.hasC k.hasF k.hasB (Z pa pn pc) (Z fa fn fc) (Z ba bn bc)))]∧Hid (∀ q,q<j→∀ x,ks[q]?=some x→rightN n (d+1) x=true)) (fun jv _=>kn-(intOf jv).toNat)
 case atStart=>exact ⟨0,by omega,rfl,H7.o,fun q hq=>by omega⟩
 case round=>
  obtain ⟨j,hj,rfl,hr,hall⟩:=hrel;have H8:=N hr;clear hr H7 e30;have e30:=H8.o.cell 0 rfl 30 rfl;by_cases hjl:j<kn
  ·obtain ⟨x,hx⟩:∃ x,ks[j]?=some x:=⟨_,List.getElem?_eq_getElem (by rw [←HKN.o];exact hjl)⟩;obtain ⟨b,kof,cs,hka,hlies,hrl⟩:=HKE.o wr H8.o.below j x hx;subst hka
   match n,IH,hrl,HKE,HRK,hall with
   |n+1,IH,hrl,HKE,HRK,hall=>
   have hrl':=hrl;obtain ⟨pk,fk,bk,kk,hcs,_,_,hAk,hKk⟩:=hrl';obtain ⟨dd,hdd⟩:∃ r,r=rightN (n+1) (d+1) x:=⟨_,rfl⟩;have HC:Hid (Calls Tryz.prog 15 #[.agg cs.toArray,Y X (d+1)] wr (PPost wr (.bool dd))):=by
    rw [hdd];exact IH B x cs (d+1) wr hrl (I HA.o.2.1 H8.o.below.size) (HA.o.2.2.below H8.o.below) (by omega) (by omega)
   have HDD:Hid (dd=rightN (n+1) (d+1) x∧ks[j]?=some x):=⟨hdd,hx⟩;subst hcs;have HLK:Hid (wr.rangeAt b (kof+j*31) (lyc x.i0 x.i1 x.look pk fk bk kk)):=hlies;have hj0:(0:Int)≤(j:Int):=by omega
   have hj1:(j:Int)<(kn:Int):=by omega
   clear hrl hAk hKk hlies hx hdd
   go_wp2_with (with_reducible refine wpList_load_mid rfl 38 _ rfl b (kof+j*31) rfl (lyc x.i0 x.i1 x.look pk fk bk kk) _ HLK.o Tryz.underlying38 rfl (by kernel_rfl) ?_;simp only [Act.put,O,U,V])
   refine HC.o.mono ?_;rintro e W9 ⟨rfl,hb9⟩;have H9:=N (H8.o.call hb9);clear hb9 H8 HC HLK e30
   cases dd with
   |false=>
    have HF:Hid (R=false):=by
     have:R=false:=by
      rw [HRK.o,List.all_eq_false];exact ⟨x,List.mem_of_getElem? HDD.o.2,by rw [←HDD.o.1];simp⟩
     exact this
    go_wp2_with fail;go_ret;exact ⟨ret_b HF.o.symm,H9.o.below⟩
   |true=>
    have HAl:Hid (∀ q,q<j+1→∀ y,ks[q]?=some y→rightN (n+1) (d+1) y=true):=fun q hq y hy=>by
     by_cases e:q=j
     ·subst e;rw [HDD.o.2] at hy;cases hy
      exact HDD.o.1.symm
     ·exact hall.out q (by omega) y hy
    go_wp2_with fail;go_roundw
    case rel=>exact ⟨j+1,by omega,by go_num,H9.o,HAl⟩
    case measure=>simp [intOf];omega
  ·have ej:j=kn:=by omega
   subst ej;have HT:Hid (R=true):=by
    have:R=true:=by
     rw [HRK.o,List.all_eq_true];intro x hx;obtain ⟨q,hq⟩:=List.getElem?_of_mem hx;exact hall.out q (by rw [HKN.o];exact (List.getElem?_eq_some_iff.1 hq).1) x hq
    exact this
   go_wp2_with fail;go_ret;exact ⟨ret_b HT.o.symm,H8.o.below⟩
theorem right24_c:∀ n,RghC n
 |0=>fun B l cs d w h=>h.elim
 |n+1=>right_step n (right24_c n)
end Go.Proofs.YtgodhpampaleeaaGreatDoor
namespace Go.Proofs.YtgodhpampaleeaaGreatDoor
open Go.RowKit Go.Bx Go.Od Go.Hp
theorem flat_at {sz:Nat}:∀ (css:List (List Value)),(∀ cs∈css,cs.length=sz)→∀ (i:Nat) (cs:List Value),css[i]?=some cs→(css.flatten.drop (i*sz)).take sz=cs
 |[],_,i,cs,h=>by simp at h
 |c::css,hl,0,cs,h=>by
  simp at h;subst h;rw [List.flatten_cons,Nat.zero_mul,List.drop_zero,←hl c (by simp),List.take_left'];rfl
 |c::css,hl,i+1,cs,h=>by
  have hc:=hl c (by simp);rw [List.flatten_cons,show (i+1)*sz=c.length+i*sz by rw [hc,Nat.add_mul,Nat.one_mul];omega,List.drop_append];have e:List.drop (c.length+i*sz) c=[]:=List.drop_eq_nil_of_le (by omega);rw [e,List.nil_append,Nat.add_sub_cancel_left];exact flat_at css (fun q hq=>hl q (by simp [hq])) i cs (by simpa using h)
theorem own_read {α:Type} {E:Rep α} {sz:Nat} (hsz:0<sz) {w:World} {B n:Nat} {e:TypeId} {v:Value} {cells:List Value} {xs:List α} (h:w.ownsRow B e sz v n cells) (hn:n=xs.length)
  (hE:∀ i x,xs[i]?=some x→E (·<w.heap.size) w ((cells.drop (i*sz)).take sz) x):SlOf E sz (·<w.heap.size) w v xs:=by
 subst hn
 rcases h.2 with ⟨rfl,h0⟩|⟨g,cap,cur,rfl,h2,h3,h4,h5,h6,h7⟩
 ·exact ⟨none,0,by rw [h0],by omega,by decide,.inl (List.eq_nil_of_length_eq_zero h0)⟩
 ·refine ⟨_,cap,rfl,h4,h5,.inr ⟨g,0,rfl,(Array.getElem?_eq_some_iff.1 h3).1,fun i x hi=>?_⟩⟩;have hx:Box w g cur.toList:=⟨e,by simpa using h3⟩;have hil:i<xs.length:=(List.getElem?_eq_some_iff.1 hi).1;have hlen:(i+1)*sz≤cells.length:=by rw [h.1];exact Nat.mul_le_mul_right _ hil
  refine ⟨(cells.drop (i*sz)).take sz,?_,fun j u hu=>?_,hE i x hi⟩
  ·rw [List.length_take,List.length_drop];rw [Nat.add_mul,Nat.one_mul] at hlen;omega
  ·rw [List.getElem?_take] at hu
   split at hu
   ·rw [List.getElem?_drop,←h7,List.getElem?_take] at hu
    split at hu
    ·rw [Nat.zero_add];exact hx.cell _ hu
    ·cases hu
   ·cases hu
theorem ly_one {n:Nat} {F:Nat→Prop} {w:World} {cs:List Value} {l:Ly} (h:RLy n F w cs l):(∀ u∈cs,u.oneCell'=true)∧cs.length=31:=by
 match n,h with
 |n+1,⟨pv,fv,bv,kv,h1,_,_,hA,hK⟩=>
  obtain ⟨_,_,_,rfl⟩:=sl_form hA.2.1;obtain ⟨_,_,_,rfl⟩:=sl_form hA.2.2.1;obtain ⟨_,_,_,rfl⟩:=sl_form hA.2.2.2;obtain ⟨_,_,_,rfl⟩:=sl_form hK;subst h1;refine ⟨fun u hu=>?_,rfl⟩;simp only [List.mem_cons,List.not_mem_nil,or_false] at hu
  rcases hu with rfl|rfl|rfl|rfl|rfl|rfl|rfl|rfl|rfl|rfl|rfl|rfl|rfl|rfl|rfl|rfl|rfl|rfl|rfl|rfl|rfl|rfl|rfl|rfl|rfl|rfl|rfl|rfl|rfl|rfl|rfl<;>rfl
end Go.Proofs.YtgodhpampaleeaaGreatDoor
