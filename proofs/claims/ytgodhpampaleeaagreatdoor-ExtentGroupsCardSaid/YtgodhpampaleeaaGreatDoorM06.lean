/- Texts joined: Vx Vy Bag Et Sr Er Ea Eb Ed. -/
import Derived.Test.YtgodhpampaleeaaGreatDoorM01
import Derived.Test.YtgodhpampaleeaaGreatDoorM05
import Derived.WalkKit
import Derived.WalkSpells
import Derived.WalkLawsBesides
import Derived.Test.YtgodhpampaleeaaGreatDoorM02
import Derived.Deep.MidRow
import Derived.Deep.WholeRow
import Derived.BigFrame
import Derived.Test.YtgodhpampaleeaaGreatDoorM03
import Derived.Laws.StructEq
import Derived.DeepKeys
open Go.Value renaming int→J
open Go.IntKind renaming i64→Z,u8→O
open List renaming take_succ_cons→U,take_zero→V,getElem?_eq_getElem→T,getElem?_eq_some_iff→N,mem_of_getElem?→L
open Nat renaming le_refl→I
open Bool renaming and_eq_true→D
open Go.Lib renaming hid→M
set_option maxRecDepth 4000
set_option maxHeartbeats 6400000
set_option linter.unusedVariables false
namespace Go.Proofs.YtgodhpampaleeaaGreatDoor.Vc
open Go.RowKit Go.Fl
def qn (k:Int):Nat:=(k%4).toNat
def pa:Nat→Int|0=>1|1=>0|2 => -1|_=>0
def pb:Nat→Int|0=>0|1=>1|2=>0|_ => -1
def tx (q:Nat) (x y:Int):Int:=match q with|0=>x|1 => -y|2 => -x|_=>y
def ty (q:Nat) (x y:Int):Int:=match q with|0=>y|1=>x|2 => -y|_ => -x
def Nr (m:Int) (x:Int):Prop := -m≤x∧x≤m
theorem tmod4 (a:Int) (h:0≤a):a.tmod 4=a%4:=Int.tmod_eq_emod_of_nonneg h
theorem tmod4n (a:Int) (h:a<0):a.tmod 4 = -((-a)%4):=by
 have:=Int.neg_tmod (a := -a) (b:=4);rw [Int.neg_neg] at this;rw [this,tmod4 _ (by omega)]
theorem qn_lt (k:Int):qn k<4:=by unfold qn;omega
theorem qn_eq (k:Int):(wrap64 (k.tmod 4+4)).tmod 4=(qn k:Int):=by
 unfold qn;by_cases hk:0≤k
 ·rw [tmod4 k hk];have h:wrap64 (k%4+4)=k%4+4:=by unfold wrap64;omega
  rw [h,tmod4 _ (by omega)];omega
 ·rw [tmod4n k (by omega)];have h:wrap64 (-(-k%4)+4) = -(-k%4)+4:=by unfold wrap64;omega
  rw [h,tmod4 _ (by omega)];omega
theorem four (q:Nat) (h:q<4):q=0∨q=1∨q=2∨q=3:=by omega
theorem txy_eq (q:Nat) (h:q<4) (x y:Int):x*pa q-y*pb q=tx q x y∧x*pb q+y*pa q=ty q x y:=by
 rcases four q h with rfl|rfl|rfl|rfl<;>simp [pa,pb,tx,ty]
theorem tx_bd {m:Int} (q:Nat) (x y:Int) (hx:Nr m x) (hy:Nr m y):Nr m (tx q x y):=by
 unfold Nr at *;unfold tx;split<;>omega
theorem ty_bd {m:Int} (q:Nat) (x y:Int) (hx:Nr m x) (hy:Nr m y):Nr m (ty q x y):=by
 unfold Nr at *;unfold ty;split<;>omega
theorem step_q (j:Nat) (h:j<3) {re im:Nat} (hq:IsC re im (pa j) (pb j)):∃ re' im',cMulBits re im 0 4607182418800017408=some (re',im')∧IsC re' im' (pa (j+1)) (pb (j+1)):=by
 have hj:j=0∨j=1∨j=2:=by omega
 have hi:IsC 0 4607182418800017408 0 1:=⟨zero_int,one_int⟩
 rcases hj with rfl|rfl|rfl <;>
 ·obtain ⟨r,i,h1,h2⟩:=cmul hq hi (by decide) (by decide) (by decide) (by decide) (by decide) (by decide);exact ⟨r,i,h1,h2⟩
theorem pa_one (q:Nat) (h:q<4):(pa q).natAbs≤1∧(pb q).natAbs≤1:=by
 rcases four q h with rfl|rfl|rfl|rfl<;>decide
theorem mul_small {x p:Int} (hx:Nr 1125899906842624 x) (hp:p.natAbs≤1):(x*p).natAbs<2^53:=by
 unfold Nr at hx;have:x.natAbs*p.natAbs≤x.natAbs*1:=Nat.mul_le_mul_left _ hp;rw [Int.natAbs_mul];omega
theorem turn_bits {re im u v:Nat} {x y:Int} (q:Nat) (h:q<4) (hc:IsC re im x y) (hq:IsC u v (pa q) (pb q)) (hx:Nr 1125899906842624 x) (hy:Nr 1125899906842624 y):
  ∃ re' im',cMulBits re im u v=some (re',im')∧IsC re' im' (tx q x y) (ty q x y):=by
 obtain ⟨e1,e2⟩:=txy_eq q h x y;obtain ⟨p1,p2⟩:=pa_one q h;have b1:=tx_bd q x y hx hy;have b2:=ty_bd q x y hx hy;unfold Nr at b1 b2;rw [←e1,←e2];exact cmul hc hq (mul_small hx p1) (mul_small hy p2) (mul_small hx p2) (mul_small hy p1) (by rw [e1];omega) (by rw [e2];omega)
def IsV (v:Value) (a b:Int):Prop:=∃ re im,v=.complex .f64 re im∧IsC re im a b
def CPost (w:World) (a b:Int) (e:Ending) (w':World):Prop:=∃ re im,e=.returned (.complex .f64 re im)∧w=w'∧IsC re im a b
def IPost (w:World) (a b:Int) (e:Ending) (w':World):Prop:=e=.returned (.tuple #[J Z a,J Z b])∧w=w'
def Qrel (n:Nat) (u i:Value):Prop:=∃ j:Nat,j≤n∧i=J Z j∧IsV u (pa j) (pb j)
theorem quarter_c (k:Int) (w:World):
  Calls Tryz.prog 104 #[J Z k] w (CPost w (pa (qn k)) (pb (qn k))):=by
 have hn:=qn_eq k;have hlt:=qn_lt k;go_enter Tryz.func104,Tryz.ntmps104
 go_wp2
 go_loop [3,8] (Qrel (qn k)) (fun _ i=>qn k-(intOf i).toNat)
 case atStart=>exact ⟨0,by omega,rfl,_,_,rfl,one_int,zero_int⟩
 case round=>
  obtain ⟨j,hj,rfl,re,im,rfl,hq⟩:=hrel;by_cases hc:j<qn k
  ·obtain ⟨re',im',hm,hq'⟩:=step_q j (by omega) hq;have hr:=run_complex_mul (P:=Tryz.prog) w 97 re im 0 4607182418800017408 re' im' hm;clear hm hn
   go_wp2
   go_round
   case rel=>exact ⟨j+1,by omega,by go_num,_,_,rfl,hq'⟩
   case measure=>simp [intOf];omega
  ·have:j=qn k:=by omega
   clear hn;subst this
   go_wp2
   go_ret;exact ⟨re,im,rfl,rfl,hq⟩
theorem of_c (x y:Int) (w:World) (hx:Nr 4503599627370496 x) (hy:Nr 4503599627370496 y):
  Calls Tryz.prog 97 #[J Z x,J Z y] w (CPost w x y):=by
 have hc:IsC (FloatKind.f64.nearest x) (FloatKind.f64.nearest y) x y:=⟨of_int x (by unfold Nr at *;omega),of_int y (by unfold Nr at *;omega)⟩;go_enter Tryz.func97,Tryz.ntmps97
 go_wp2
 go_ret;exact ⟨_,_,rfl,rfl,hc⟩
theorem parts_c (re im:Nat) (x y:Int) (w:World) (hc:IsC re im x y) (hx:Nr 4503599627370496 x) (hy:Nr 4503599627370496 y):
  Calls Tryz.prog 96 #[.complex .f64 re im] w (IPost w x y):=by
 unfold Nr at *;have h1:=run_convert_float_int (P:=Tryz.prog) w 146 3 .f64 .i64 re x rfl rfl (to_int hc.1 (by omega) (by omega));have h2:=run_convert_float_int (P:=Tryz.prog) w 146 3 .f64 .i64 im y rfl rfl (to_int hc.2 (by omega) (by omega));go_enter Tryz.func96,Tryz.ntmps96
 go_wp2
 go_ret2;exact ⟨rfl,rfl⟩
theorem turn_c (re im:Nat) (x y k:Int) (w:World) (hc:IsC re im x y) (hx:Nr 1125899906842624 x) (hy:Nr 1125899906842624 y):
  Calls Tryz.prog 63 #[.complex .f64 re im,J Z k] w (CPost w (tx (qn k) x y) (ty (qn k) x y)):=by
 go_enter Tryz.func63,Tryz.ntmps63
 go_wp2_with (go_at_call 104;refine (quarter_c _ _).mono ?_;rintro e w' ⟨u,v,rfl,rfl,hq⟩;obtain ⟨re',im',hm,hq'⟩:=turn_bits (qn k) (qn_lt k) hc hq hx hy;have hr:=run_complex_mul (P:=Tryz.prog) w 97 re im u v re' im' hm;clear hm)
 go_ret;exact ⟨_,_,rfl,rfl,hq'⟩
def sx (q:Nat) (w h:Int):Int:=match q with|0=>w|1=>h|2=>w|_=>h
def sy (q:Nat) (w h:Int):Int:=match q with|0=>h|1=>w|2=>h|_=>w
theorem ret_two {a b c d:Int} (h1:a=c) (h2:b=d):Ending.returned (.tuple #[J Z a,J Z b])=.returned (.tuple #[J Z c,J Z d]):=by rw [h1,h2]
theorem size_c (a b k:Int) (w:World) (ha:0≤a) (ha2:a≤1125899906842624) (hb:0≤b) (hb2:b≤1125899906842624):
  Calls Tryz.prog 57 #[J Z a,J Z b,J Z k] w (IPost w (sx (qn k) a b) (sy (qn k) a b)):=by
 have x1:=tx_bd (m:=1125899906842624) (qn k) a b (by unfold Nr;omega) (by unfold Nr;omega);have x2:=ty_bd (m:=1125899906842624) (qn k) a b (by unfold Nr;omega) (by unfold Nr;omega);have e1:sx (qn k) a b=max (tx (qn k) a b) (-tx (qn k) a b):=by unfold tx sx;split<;>omega
 have e2:sy (qn k) a b=max (ty (qn k) a b) (-ty (qn k) a b):=by unfold ty sy;split<;>omega
 rw [e1,e2];clear e1 e2;go_enter Tryz.func57,Tryz.ntmps57;go_wp2_with fail;refine (of_c _ _ _ (by unfold Nr;omega) (by unfold Nr;omega)).mono ?_;rintro e w' ⟨r1,i1,rfl,rfl,h1⟩;go_wp2_with fail;refine (turn_c _ _ _ _ _ _ h1 (by unfold Nr;omega) (by unfold Nr;omega)).mono ?_;rintro e w' ⟨r2,i2,rfl,rfl,h2⟩;generalize tx (qn k) a b=X at *;generalize ty (qn k) a b=Y at *;go_wp2_with fail;unfold Nr at x1 x2;refine (parts_c _ _ _ _ _ h2 (by unfold Nr;omega) (by unfold Nr;omega)).mono ?_;rintro e w' ⟨rfl,rfl⟩;go_wp2_with fail
 all_goals
  go_ret2;exact ⟨ret_two (by omega) (by omega),rfl⟩
theorem corner_c (re im:Nat) (x y:Int) (w:World) (hc:IsC re im (2*x+1) (2*y+1)) (hx:Nr 562949953421312 x) (hy:Nr 562949953421312 y):
  Calls Tryz.prog 62 #[.complex .f64 re im] w (IPost w x y):=by
 unfold Nr at hx hy;go_enter Tryz.func62,Tryz.ntmps62;go_wp2_with fail;refine (of_c _ _ _ (by unfold Nr;omega) (by unfold Nr;omega)).mono ?_;rintro e w' ⟨r1,i1,rfl,rfl,h1⟩;obtain ⟨r2,i2,hm,h2⟩:=csub hc h1 (by omega) (by omega);have hr:=run_complex_sum (P:=Tryz.prog) w .sub (.inr rfl) 97 .f64 re im r1 i1 r2 i2 hm;clear hm;go_wp2_with fail;refine (parts_c _ _ _ _ _ h2 (by unfold Nr;omega) (by unfold Nr;omega)).mono ?_;rintro e w' ⟨rfl,rfl⟩;have e1:(2*x+1-1).tdiv 2=x:=by rw [show 2*x+1-1=x*2 from by omega,Int.mul_tdiv_cancel _ (by decide)]
 have e2:(2*y+1-1).tdiv 2=y:=by rw [show 2*y+1-1=y*2 from by omega,Int.mul_tdiv_cancel _ (by decide)]
 generalize 2*x+1-1=X at *;generalize 2*y+1-1=Y at *;go_wp2_with fail;go_ret2;have hx':wrap64 x=x:=by unfold wrap64;omega
 have hy':wrap64 y=y:=by unfold wrap64;omega
 refine ⟨ret_two ?_ ?_,rfl⟩<;>first|rfl|assumption
theorem middle_c (x y:Int) (w:World) (hx:Nr 562949953421312 x) (hy:Nr 562949953421312 y):
  Calls Tryz.prog 64 #[J Z x,J Z y] w (CPost w (2*x+1) (2*y+1)):=by
 unfold Nr at hx hy;go_enter Tryz.func64,Tryz.ntmps64;go_wp2_with fail;refine (of_c _ _ _ (by unfold Nr;omega) (by unfold Nr;omega)).mono ?_;rintro e w' ⟨r1,i1,rfl,rfl,h1⟩;go_wp2_with fail;go_ret;exact ⟨_,_,rfl,rfl,h1⟩
theorem isC_of {r i:Nat} {a b a' b':Int} (h:IsC r i a b) (e1:a=a') (e2:b=b'):IsC r i a' b':=e1▸e2▸h
theorem shift_c (a b k:Int) (w:World) (ha:Nr 562949953421312 a) (hb:Nr 562949953421312 b):
  Calls Tryz.prog 65 #[J Z a,J Z b,J Z k] w (CPost w (2*max (-tx (qn k) a b) 0) (2*max (-ty (qn k) a b) 0)):=by
 have x1:=tx_bd (qn k) a b ha hb;have x2:=ty_bd (qn k) a b ha hb;unfold Nr at ha hb;go_enter Tryz.func65,Tryz.ntmps65;go_wp2_with fail;refine (of_c _ _ _ (by unfold Nr;omega) (by unfold Nr;omega)).mono ?_;rintro e w' ⟨r1,i1,rfl,rfl,h1⟩;go_wp2_with fail;refine (turn_c _ _ _ _ _ _ h1 (by unfold Nr;omega) (by unfold Nr;omega)).mono ?_;rintro e w' ⟨r2,i2,rfl,rfl,h2⟩;generalize tx (qn k) a b=X at *;generalize ty (qn k) a b=Y at *;unfold Nr at x1 x2;go_wp2_with fail;refine (parts_c _ _ _ _ _ h2 (by unfold Nr;omega) (by unfold Nr;omega)).mono ?_;rintro e w' ⟨rfl,rfl⟩;go_wp2_with fail
 all_goals
  refine (of_c _ _ _ (by unfold Nr;omega) (by unfold Nr;omega)).mono ?_;rintro e w' ⟨r3,i3,rfl,rfl,h3⟩;go_wp2_with fail;go_ret;exact ⟨_,_,rfl,rfl,isC_of h3 (by omega) (by omega)⟩
def ox (q:Nat) (w h u v:Int):Int:=match q with|0=>u|1=>h-1-v|2=>w-1-u|_=>v
def oy (q:Nat) (w h u v:Int):Int:=match q with|0=>v|1=>u|2=>h-1-v|_=>w-1-u
def fx (q:Nat) (w h u v:Int):Int:=match q with|0=>u|1=>v|2=>w-1-u|_=>w-1-v
def fy (q:Nat) (w h u v:Int):Int:=match q with|0=>v|1=>h-1-u|2=>h-1-v|_=>u
theorem qn_neg (k:Int) (h1 : -9223372036854775808≤k) (h2:k≤9223372036854775807):qn (wrap64 (-k))=(4-qn k)%4:=by
 unfold qn wrap64;omega
theorem from_c (a b k x y:Int) (w:World) (hk1 : -9223372036854775808≤k) (hk2:k≤9223372036854775807) (ha:1≤a) (ha2:a≤1099511627776) (hb:1≤b) (hb2:b≤1099511627776) (hx:Nr 1099511627776 x) (hy:Nr 1099511627776 y):
  Calls Tryz.prog 37 #[J Z a,J Z b,J Z k,J Z x,J Z y] w (IPost w (fx (qn k) a b x y) (fy (qn k) a b x y)):=by
 unfold Nr at hx hy;have hq:=qn_lt k;have hn:=qn_neg k hk1 hk2;have HN:Hid (qn (wrap64 (-k))=(4-qn k)%4):=hn;clear hn hk1 hk2;go_enter Tryz.func37,Tryz.ntmps37;go_wp2_with fail;refine (middle_c _ _ _ (by unfold Nr;omega) (by unfold Nr;omega)).mono ?_;rintro e w' ⟨r1,i1,rfl,rfl,h1⟩;go_wp2_with fail;refine (shift_c _ _ _ _ (by unfold Nr;omega) (by unfold Nr;omega)).mono ?_;rintro e w' ⟨r3,i3,rfl,rfl,h3⟩;have t1:Nr 1099511627776 (tx (qn k) a b):=tx_bd _ _ _ (by unfold Nr;omega) (by unfold Nr;omega);have t2:Nr 1099511627776 (ty (qn k) a b):=ty_bd _ _ _ (by unfold Nr;omega) (by unfold Nr;omega);unfold Nr at t1 t2;obtain ⟨r4,i4,hm,h4⟩:=csub h1 h3 (by omega) (by omega);have hr:=run_complex_sum (P:=Tryz.prog) w .sub (.inr rfl) 97 .f64 r1 i1 r3 i3 r4 i4 hm;clear hm;go_wp2_with fail;refine (turn_c _ _ _ _ _ _ h4 (by unfold Nr;omega) (by unfold Nr;omega)).mono ?_;rintro e w' ⟨r2,i2,rfl,rfl,h2⟩;rw [HN.o] at h2;clear HN;generalize qn k=q at *;have e1:tx ((4-q)%4) (2*x+1-2*max (-tx q a b) 0) (2*y+1-2*max (-ty q a b) 0)=2*fx q a b x y+1:=by
  rcases four q hq with rfl|rfl|rfl|rfl<;>simp only [tx,ty,fx,Nat.reduceSub,Nat.reduceMod]<;>omega
 have e2:ty ((4-q)%4) (2*x+1-2*max (-tx q a b) 0) (2*y+1-2*max (-ty q a b) 0)=2*fy q a b x y+1:=by
  rcases four q hq with rfl|rfl|rfl|rfl<;>simp only [tx,ty,fy,Nat.reduceSub,Nat.reduceMod]<;>omega
 have b1:Nr 2199023255552 (fx q a b x y):=by
  unfold Nr;rcases four q hq with rfl|rfl|rfl|rfl<;>simp only [fx]<;>omega
 have b2:Nr 2199023255552 (fy q a b x y):=by
  unfold Nr;rcases four q hq with rfl|rfl|rfl|rfl<;>simp only [fy]<;>omega
 unfold Nr at b1 b2;rw [e1,e2] at h2;clear e1 e2;go_wp2_with fail;refine (corner_c _ _ _ _ _ h2 (by unfold Nr;omega) (by unfold Nr;omega)).mono ?_;rintro e w' ⟨rfl,rfl⟩;go_wp2_with fail;go_ret2;exact ⟨rfl,rfl⟩
def I1Post (w:World) (a:Int) (e:Ending) (w':World):Prop:=e=.returned (J Z a)∧w=w'
def BPost (w:World) (b:Bool) (e:Ending) (w':World):Prop:=e=.returned (.bool b)∧w=w'
theorem ret_b {a b:Bool} (h:a=b):Ending.returned (.bool a)=.returned (.bool b):=by rw [h]
theorem qn_tmod (k:Int) (h:0≤k.tmod 4):k.tmod 4=(qn k:Int):=by
 unfold qn;by_cases hk:0≤k
 ·rw [tmod4 k hk];omega
 ·have:=tmod4n k (by omega);rw [this] at h ⊢;omega
theorem qn_tmodn (k:Int) (h:k.tmod 4<0):k.tmod 4+4=(qn k:Int):=by
 unfold qn;by_cases hk:0≤k
 ·rw [tmod4 k hk] at h;omega
 ·have:=tmod4n k (by omega);rw [this] at h ⊢;omega
theorem tmod_bd (k:Int) : -4<k.tmod 4∧k.tmod 4<4:=by
 by_cases hk:0≤k
 ·rw [tmod4 k hk];omega
 ·rw [tmod4n k (by omega)];omega
theorem quarters_c (k:Int) (w:World):Calls Tryz.prog 120 #[J Z k] w (I1Post w (qn k)):=by
 have hb:=tmod_bd k;by_cases h:0≤k.tmod 4
 ·have e:=qn_tmod k h;rw [←e];clear e;go_enter Tryz.func120,Tryz.ntmps120
  go_wp2
  go_ret;exact ⟨rfl,rfl⟩
 ·have e:=qn_tmodn k (by omega);rw [←e];clear e;go_enter Tryz.func120,Tryz.ntmps120
  go_wp2
  go_ret;exact ⟨rfl,rfl⟩
theorem tx_succ (j:Nat) (h:j<3) (x y:Int):tx (j+1) x y = -ty j x y∧ty (j+1) x y=tx j x y:=by
 have hj:j=0∨j=1∨j=2:=by omega
 rcases hj with rfl|rfl|rfl<;>simp [tx,ty]
theorem par (q:Nat):(q:Int).tmod 2=(q%2:Nat):=by rw [Int.tmod_eq_emod_of_nonneg (by omega)];omega
theorem rsize_c (a b k:Int) (w:World):Calls Tryz.prog 121 #[J Z a,J Z b,J Z k] w (IPost w (sx (qn k) a b) (sy (qn k) a b)):=by
 have hq:=qn_lt k;go_enter Tryz.func121,Tryz.ntmps121;go_wp2_with fail;refine (quarters_c _ _).mono ?_;rintro e w' ⟨rfl,rfl⟩;generalize qn k=q at *
 rcases four q hq with rfl|rfl|rfl|rfl
 all_goals
  go_wp2_with fail;go_ret2;exact ⟨rfl,rfl⟩
theorem o_succ (j:Nat) (h:j<3) (a b x y:Int):sx (j+1) a b=sy j a b∧sy (j+1) a b=sx j a b∧ox (j+1) a b x y=sy j a b-1-oy j a b x y∧oy (j+1) a b x y=ox j a b x y:=by
 have hj:j=0∨j=1∨j=2:=by omega
 rcases hj with rfl|rfl|rfl<;>refine ⟨?_,?_,?_,?_⟩<;>simp only [sx,sy,ox,oy]<;>omega
theorem o_bd (j:Nat) (a b x y:Int) (ha:1≤a) (ha2:a≤1099511627776) (hb:1≤b) (hb2:b≤1099511627776) (hx:Nr 1099511627776 x) (hy:Nr 1099511627776 y):
  1≤sx j a b∧sx j a b≤1099511627776∧1≤sy j a b∧sy j a b≤1099511627776 ∧ -2199023255552≤ox j a b x y∧ox j a b x y≤2199023255552 ∧ -2199023255552≤oy j a b x y∧oy j a b x y≤2199023255552:=by
 unfold Nr at *;unfold sx sy ox oy;refine ⟨?_,?_,?_,?_,?_,?_,?_,?_⟩<;>split<;>omega
def px (n j:Nat) (a b x y:Int):Int:=match n,j with
 |1,1=>fx 1 a b x y|2,1=>y|2,2=>fx 2 a b x y|3,1=>y|3,2=>b-1-x|3,3=>fx 3 a b x y|_,_=>x
def py (n j:Nat) (a b x y:Int):Int:=match n,j with
 |1,1=>fy 1 a b x y|2,1=>a-1-x|2,2=>fy 2 a b x y|3,1=>b-1-x|3,2=>a-1-y|3,3=>fy 3 a b x y|_,_=>y
def Frel (n:Nat) (a b x y:Int) (u0 u1 u3 u4 i:Value):Prop:=
 ∃ j:Nat,j≤n∧i=J Z ((n:Int)-j)∧u0=J Z (sx (n-j) a b)∧u1=J Z (sy (n-j) a b)∧u3=J Z (px n j a b x y)∧u4=J Z (py n j a b x y)
theorem pairs (n j:Nat) (hn:n<4) (hj:j<n):(n=1∧j=0)∨(n=2∧j=0)∨(n=2∧j=1)∨(n=3∧j=0)∨(n=3∧j=1)∨(n=3∧j=2):=by omega
theorem f_succ (n j:Nat) (hn:n<4) (hj:j<n) (a b x y:Int):sx (n-(j+1)) a b=sy (n-j) a b∧sy (n-(j+1)) a b=sx (n-j) a b∧px n (j+1) a b x y=py n j a b x y∧py n (j+1) a b x y=sx (n-j) a b-1-px n j a b x y:=by
 rcases pairs n j hn hj with ⟨rfl,rfl⟩|⟨rfl,rfl⟩|⟨rfl,rfl⟩|⟨rfl,rfl⟩|⟨rfl,rfl⟩|⟨rfl,rfl⟩ <;>
  simp only [sx,sy,px,py,fx,fy,Nat.reduceSub,Nat.reduceAdd,true_and]<;>omega
theorem f_bd (n j:Nat) (a b x y:Int) (ha:1≤a) (ha2:a≤1099511627776) (hb:1≤b) (hb2:b≤1099511627776) (hx:Nr 1099511627776 x) (hy:Nr 1099511627776 y):
  1≤sx (n-j) a b∧sx (n-j) a b≤1099511627776∧1≤sy (n-j) a b∧sy (n-j) a b≤1099511627776 ∧ -2199023255552≤px n j a b x y∧px n j a b x y≤2199023255552 ∧ -2199023255552≤py n j a b x y∧py n j a b x y≤2199023255552:=by
 unfold Nr at *;unfold sx sy px py;simp only [fx,fy];refine ⟨?_,?_,?_,?_,?_,?_,?_,?_⟩<;>split<;>omega
theorem p_end (n:Nat) (hn:n<4) (a b x y:Int):px n n a b x y=fx n a b x y∧py n n a b x y=fy n a b x y:=by
 rcases four n hn with rfl|rfl|rfl|rfl<;>exact ⟨rfl,rfl⟩
theorem p_start (n:Nat) (a b x y:Int):px n 0 a b x y=x∧py n 0 a b x y=y:=by
 unfold px py;constructor<;>split<;>simp_all
theorem rfrom_c (a b k x y:Int) (w:World) (ha:1≤a) (ha2:a≤1099511627776) (hb:1≤b) (hb2:b≤1099511627776) (hx:Nr 1099511627776 x) (hy:Nr 1099511627776 y):
  Calls Tryz.prog 98 #[J Z a,J Z b,J Z k,J Z x,J Z y] w (IPost w (fx (qn k) a b x y) (fy (qn k) a b x y)):=by
 have hq:=qn_lt k;go_enter Tryz.func98,Tryz.ntmps98;go_wp2_with fail;refine (quarters_c _ _).mono ?_;rintro e w' ⟨rfl,rfl⟩;go_wp2_with fail;refine (rsize_c _ _ _ _).mono ?_;rintro e w' ⟨rfl,rfl⟩;generalize qn k=q at *;go_wp2_with fail
 go_loop [0,1,3,4,12] (Frel q a b x y) (fun _ _ _ _ i=>(intOf i).toNat)
 case atStart=>
  obtain ⟨s1,s2⟩:=p_start q a b x y;exact ⟨0,by omega,by go_num,rfl,rfl,by rw [s1],by rw [s2]⟩
 case round=>
  obtain ⟨j,hj,rfl,rfl,rfl,rfl,rfl⟩:=hrel;by_cases hc:j<q
  ·have B:=f_bd q j a b x y ha ha2 hb hb2 hx hy;have E:=f_succ q j hq hc a b x y;have HE:Hid (sx (q-(j+1)) a b=sy (q-j) a b∧sy (q-(j+1)) a b=sx (q-j) a b∧px q (j+1) a b x y=py q j a b x y∧py q (j+1) a b x y=sx (q-j) a b-1-px q j a b x y):=E;clear E
   go_wp2
   go_round
   case rel=>
    obtain ⟨e1,e2,e3,e4⟩:=HE.o;exact ⟨j+1,by omega,by go_num,by rw [e1],by rw [e2],by rw [e3],by rw [e4]⟩
   case measure=>simp [intOf];omega
  ·have:j=q:=by omega
   subst this;obtain ⟨s1,s2⟩:=p_end j hq a b x y;have S1:Hid (px j j a b x y=fx j a b x y):=s1;have S2:Hid (py j j a b x y=fy j a b x y):=s2;clear s1 s2
   go_wp2
   go_ret2;exact ⟨ret_two S1.out S2.out,rfl⟩
end Go.Proofs.YtgodhpampaleeaaGreatDoor.Vc
namespace Go.Bx
open Go.RowKit
def Bag (w W:World) (l:List (Nat×List Value)):Prop:=(∀ p∈l,Box W p.1 p.2∧w.heap.size≤p.1)∧(l.map (·.1)).Nodup∧Below w.heap.size w W
theorem Bag.nil (w:World):Bag w w []:=⟨fun _ h=>(List.not_mem_nil h).elim,List.nodup_nil,Below.refl _ _⟩
theorem Bag.below {w W:World} {l:List (Nat×List Value)} (h:Bag w W l):Below w.heap.size w W:=h.2.2
theorem Bag.call {w W W':World} {l:List (Nat×List Value)} (h:Bag w W l) (hb:Below W.heap.size W W'):Bag w W' l:=
 ⟨fun p hp=>⟨(h.1 p hp).1.call hb,(h.1 p hp).2⟩,h.2.1,h.2.2.trans (hb.mono h.2.2.size)⟩
theorem Bag.alloc {w W:World} {l:List (Nat×List Value)} (h:Bag w W l) (cs:List Value) (t:TypeId):Bag w (W.alloc (.cells cs.toArray t)) (l++[(W.heap.size,cs)]):=by
 refine ⟨fun p hp=>?_,?_,h.2.2.alloc h.2.2.size _⟩
 ·rcases List.mem_append.1 hp with hp|hp
  ·exact ⟨(h.1 p hp).1.alloc _,(h.1 p hp).2⟩
  ·obtain rfl:=List.mem_singleton.1 hp;exact ⟨Box.new W cs t,h.2.2.size⟩
 ·rw [List.map_append,List.nodup_append];refine ⟨h.2.1,by simp,fun a ha b hb e=>?_⟩;obtain ⟨p,hp,rfl⟩:=List.mem_map.1 ha;have:=(h.1 p hp).1.lt;simp at hb;omega
theorem Bag.allocO {w W:World} {l:List (Nat×List Value)} (h:Bag w W l) (o:Obj):Bag w (W.alloc o) l:=
 ⟨fun p hp=>⟨(h.1 p hp).1.alloc _,(h.1 p hp).2⟩,h.2.1,h.2.2.alloc h.2.2.size _⟩
theorem Bag.box {w W:World} {l:List (Nat×List Value)} (h:Bag w W l) (i:Nat) {a:Nat} {cs:List Value} (hi:l[i]?=some (a,cs)):Box W a cs:=(h.1 _ (L hi)).1
theorem Bag.ge {w W:World} {l:List (Nat×List Value)} (h:Bag w W l) (i:Nat) {a:Nat} {cs:List Value} (hi:l[i]?=some (a,cs)):w.heap.size≤a:=(h.1 _ (L hi)).2
theorem Bag.set {w W:World} {l:List (Nat×List Value)} (h:Bag w W l) (i:Nat) {a:Nat} {cs:List Value} (hi:l[i]?=some (a,cs)) (j:Nat) (v:Value):Bag w (W.setCell ⟨a,j,none⟩ v) (l.set i (a,cs.set j v)):=by
 have hil:=(N.1 hi).1;have hmap:(l.set i (a,cs.set j v)).map (·.1)=l.map (·.1):=by
  rw [List.map_set];have e:(l.map (·.1))[i]?=some a:=by rw [List.getElem?_map,hi];rfl
  apply List.ext_getElem?;intro k;by_cases hk:i=k
  ·subst hk;rw [List.getElem?_set_self (by simpa using hil),e]
  ·rw [List.getElem?_set_ne hk]
 refine ⟨fun p hp=>?_,by rw [hmap];exact h.2.1,h.2.2.setCell (h.ge i hi) _⟩;obtain ⟨k,hk⟩:=List.getElem?_of_mem hp;by_cases e:i=k
 ·subst e;rw [List.getElem?_set_self hil] at hk;cases hk
  exact ⟨(h.box i hi).self j v,h.ge i hi⟩
 ·rw [List.getElem?_set_ne e] at hk;have hk':=h.1 p (L hk);refine ⟨hk'.1.set ?_ v,hk'.2⟩;intro e2;have h1:(l.map (·.1))[k]?=some p.1:=by rw [List.getElem?_map,hk];rfl
  have h2:(l.map (·.1))[i]?=some p.1:=by rw [List.getElem?_map,hi];exact congrArg some e2.symm
  exact e ((List.getElem?_inj (by simpa using hil) h.2.1).1 (h2.trans h1.symm))
theorem Bag.take {w W:World} {l l':List (Nat×List Value)} (h:Bag w W l) (hs:l'.Sublist l):Bag w W l':=
 ⟨fun p hp=>h.1 p (hs.subset hp),h.2.1.sublist (hs.map _),h.2.2⟩
theorem Bag.cell {w W:World} {l:List (Nat×List Value)} (h:Bag w W l) (i:Nat) {a:Nat} {cs:List Value} (hi:l[i]?=some (a,cs)) (j:Nat) {v:Value} (hv:cs[j]?=some v):W.cell? ⟨a,j,none⟩=some v:=(h.box i hi).cell j hv
theorem Bag.frozen {w W:World} {l:List (Nat×List Value)} (h:Bag w W l) (i:Nat) {a:Nat} {cs:List Value} (hi:l[i]?=some (a,cs)) (j:Nat):W.frozen? ⟨a,j,none⟩=false:=(h.box i hi).frozen j
theorem Bag.grown {w W W':World} {l:List (Nat×List Value)} (h:Bag w W l) {base:Nat} {e:TypeId} {size:Nat} {v:Value} {n:Nat} {xs:List Value} (hg:W.grownBy W' v.ownBlock) (ho:W.ownsRow base e size v n xs) (hlt:∀ p∈l,p.1<base) (hB:w.heap.size≤base):Bag w W' l:=
 ⟨fun p hp=>⟨(h.1 p hp).1.grown hg ho (hlt p hp),(h.1 p hp).2⟩,h.2.1,below_grown h.2.2 hg ho hB h.2.2.size⟩
theorem Bag.made {w W W':World} {l:List (Nat×List Value)} (h:Bag w W l) (hg:W.grownBy W' none):Bag w W' l:=
 ⟨fun p hp=>⟨(h.1 p hp).1.grown' hg (by simp),(h.1 p hp).2⟩,h.2.1,h.2.2.grown hg h.2.2.size fun k hk=>by cases hk⟩
theorem Bag.add {w W:World} {l:List (Nat×List Value)} (h:Bag w W l) {b:Nat} {cs:List Value} (hx:Box W b cs) (hb:w.heap.size≤b) (hn:∀ p∈l,p.1≠b):Bag w W (l++[(b,cs)]):=by
 refine ⟨fun p hp=>?_,?_,h.2.2⟩
 ·rcases List.mem_append.1 hp with hp|hp
  ·exact h.1 p hp
  ·obtain rfl:=List.mem_singleton.1 hp;exact ⟨hx,hb⟩
 ·rw [List.map_append,List.nodup_append];refine ⟨h.2.1,by simp,fun a ha c hc e=>?_⟩;obtain ⟨p,hp,rfl⟩:=List.mem_map.1 ha;simp at hc;exact hn p hp (e.trans hc)
theorem Bag.lt {w W:World} {l:List (Nat×List Value)} (h:Bag w W l):∀ p∈l,p.1<W.heap.size:=fun p hp=>(h.1 p hp).1.lt
theorem own_box {w:World} {B:Nat} {e:TypeId} {size b n c:Nat} {xs:List Value} (h:w.ownsRow B e size (.slice (some ⟨b,0,none⟩) n c) n xs):∃ cur:List Value,Box w b cur∧cur.take (n*size)=xs∧B≤b∧n≤c∧c≤maxLen:=by
 rcases h.2 with ⟨h,_⟩|⟨g,cap,cur,h1,h2,h3,h4,h5,_,h6⟩
 ·cases h
 ·cases h1
  exact ⟨cur.toList,⟨e,by simpa using h3⟩,h6,h2,h4,h5⟩
theorem bag1 (w:World) (cs:List Value) (t:TypeId):Bag w (w.alloc (.cells cs.toArray t)) [(w.heap.size,cs)]:=(Bag.nil w).alloc cs t
theorem bag2 (w:World) (cs ds:List Value) (t u:TypeId):Bag w ((w.alloc (.cells cs.toArray t)).alloc (.cells ds.toArray u)) [(w.heap.size,cs),(w.heap.size+1,ds)]:=by
 have h:=(bag1 w cs t).alloc ds u;simp only [size_alloc,List.cons_append,List.nil_append] at h;exact h
theorem bag3 (w:World) (cs ds es:List Value) (t u v:TypeId):Bag w (((w.alloc (.cells cs.toArray t)).alloc (.cells ds.toArray u)).alloc (.cells es.toArray v)) [(w.heap.size,cs),(w.heap.size+1,ds),(w.heap.size+1+1,es)]:=by
 have h:=(bag2 w cs ds t u).alloc es v;simp only [size_alloc,List.cons_append,List.nil_append] at h;exact h
theorem Bag.set4 {w W:World} {l:List (Nat×List Value)} (h:Bag w W l) (i:Nat) {a:Nat} {v0 v1 v2 v3:Value} (hi:l[i]?=some (a,[v0,v1,v2,v3])) (u0 u1 u2 u3:Value):
  Bag w ((((W.setCell ⟨a,0,none⟩ u0).setCell ⟨a,1,none⟩ u1).setCell ⟨a,2,none⟩ u2).setCell ⟨a,3,none⟩ u3) (l.set i (a,[u0,u1,u2,u3])):=by
 have hil:=(N.1 hi).1;have h0:=h.set i hi 0 u0;have h1:=h0.set i (List.getElem?_set_self hil) 1 u1;have h2:=h1.set i (List.getElem?_set_self (by simpa using hil)) 2 u2;have h3:=h2.set i (List.getElem?_set_self (by simpa using hil)) 3 u3
 simpa using h3
theorem wpQuiet_load {P:Program} {ops:Array Oper} {C:World→Prop} {Q:Act→Prop} {a:Act} {o:Oper} {rest:List Oper} (hgd:o.guard=none) (ty:TypeId) (x:Operand) (ho:o.op=.load ty x)
  (b off:Nat) (hx:a.eval x=.pointer (some ⟨b,off,none⟩)) (cs:List Value) (d:TypeDesc) (hS:∀ w,C w→w.rangeAt b off cs)
  (hu:P.underlying ty=some d) (hd:d.isRow=true) (hi:(P.info? ty).map (·.size)=some cs.length) (h:wpQuiet P ops C Q rest (a.put o.dst (.agg cs.toArray))):wpQuiet P ops C Q (o::rest) a:=
 wpQuiet_step fun K hK=>by
  rw [if_pos (by simp [Region.wanted,hgd])];refine ⟨.agg cs.toArray,fun w hw=>?_,hK _ h⟩;unfold Oper.quietAt execOp;simp only [ho,hx,Instr.loadAt,Instr.sureAddr,Sem.run_bind,Sem.run_pure,Result.andThen_ok,run_loadVar_mid w b off ty cs d (hS w hw) hu hd hi];exact ⟨rfl,rfl⟩
theorem wpList_store_new {P:Program} {ops:Array Oper} {rest:List Oper} {op:Oper} {a:Act} {w:World} {Q:Exit→Act→World→Prop} (hgd:op.guard=none) (ty:TypeId) (x y:Operand) (ho:op.op=.store ty x y)
  (c c':Array Value) (hx:a.eval x=.pointer (some ⟨w.heap.size,0,none⟩)) (hy:a.eval y=.agg c') (hi:(P.info? ty).map (·.size)=some c'.size) (hs:c.size=c'.size) (h1:c'.all (·.oneCell')=true)
  (h:wpList P ops Q rest (a.put op.dst undef) (w.alloc (.cells c' ty))):wpList P ops Q (op::rest) a (w.alloc (.cells c ty)):=
 wpList_plain hgd fun _ hK=>by
  unfold Oper.wp execOp;simp only [ho,hx,hy,Instr.storeAt,Instr.sureAddr,Sem.run_bind,Sem.run_pure,Result.andThen_ok,run_storeVar_new w ty c c' hi hs h1];exact hK _ _ h
theorem wpList_alloc_store {P:Program} {ops:Array Oper} {rest:List Oper} {o1 o2:Oper} {a:Act} {w:World} {Q:Exit→Act→World→Prop} (hg1:o1.guard=none) (hg2:o2.guard=none) (ty:TypeId) (ho1:o1.op=.alloc ty) (x y:Operand) (ho2:o2.op=.store ty x y)
  (c c':Array Value) (hal:∀ w:World,(Instr.alloc ty true (.tuple #[])).run P w=.ok (.pointer (some ⟨w.heap.size,0,none⟩)) (w.alloc (.cells c ty)))
  (hx:(a.put o1.dst (.pointer (some ⟨w.heap.size,0,none⟩))).eval x=.pointer (some ⟨w.heap.size,0,none⟩)) (hy:(a.put o1.dst (.pointer (some ⟨w.heap.size,0,none⟩))).eval y=.agg c') (hi:(P.info? ty).map (·.size)=some c'.size) (hs:c.size=c'.size) (h1:c'.all (·.oneCell')=true)
  (h:wpList P ops Q rest ((a.put o1.dst (.pointer (some ⟨w.heap.size,0,none⟩))).put o2.dst undef) (w.alloc (.cells c' ty))):wpList P ops Q (o1::o2::rest) a w:=
 wpList_plain hg1 fun _ hK=>by
  unfold Oper.wp execOp;simp only [ho1,Sem.run_bind,Sem.run_pure,Result.andThen_ok,hal];exact hK _ _ (wpList_store_new hg2 ty x y ho2 c c' hx hy hi hs h1 h)
theorem wpList_load_want {P:Program} {ops:Array Oper} {rest:List Oper} {op:Oper} {a:Act} {w:World} {Q:Exit→Act→World→Prop} (hw:Region.wanted op (yielded ops a.tmps)=true) (ty:TypeId) (x:Operand) (ho:op.op=.load ty x)
  (b o:Nat) (hx:a.eval x=.pointer (some ⟨b,o,none⟩)) (cs:List Value) (d:TypeDesc) (hc:w.rangeAt b o cs) (hu:P.underlying ty=some d) (hd:d.isRow=true) (hi:(P.info? ty).map (·.size)=some cs.length)
  (h:wpList P ops Q rest (a.put op.dst (.agg cs.toArray)) w):wpList P ops Q (op::rest) a w:=
 BigFrame.wpList_want hw fun _ hK=>wp_load_mid ty x ho b o hx cs d hc hu hd hi (hK _ _ h)
theorem wpList_maybe {P:Program} {ops:Array Oper} {rest:List Oper} {o:Oper} {a:Act} {w:World} {Q:Exit→Act→World→Prop} (d:Bool) (hw:Region.wanted o (yielded ops a.tmps)=d) (v:Value)
  (hrun:d=true→(execOp a.eval o).run P w=.ok (.value v) w) (h:∀ u:Value,(d=true→u=v)→wpList P ops Q rest (a.put o.dst u) w):wpList P ops Q (o::rest) a w:=by
 cases d with
 |true=>
  refine BigFrame.wpList_want hw fun _ hK=>?_;unfold Oper.wp;rw [hrun rfl];exact hK _ _ (h v fun _=>rfl)
 |false=>
  unfold wpList;rw [if_neg (by rw [hw];decide)];exact h undef fun e=>by cases e
theorem wpList_val {P:Program} {ops:Array Oper} {rest:List Oper} {o:Oper} {a:Act} {w:World} {Q:Exit→Act→World→Prop} (hg:o.guard=none) (v:Value)
  (hrun:(execOp a.eval o).run P w=.ok (.value v) w) (h:wpList P ops Q rest (a.put o.dst v) w):wpList P ops Q (o::rest) a w:=
 wpList_plain hg fun _ hK=>by
  unfold Oper.wp;rw [hrun];exact hK _ _ h
theorem Box.range {w:World} {b:Nat} {cs:List Value} (h:Box w b cs) (off n:Nat):w.rangeAt b off ((cs.drop off).take n):=fun j v hv=>by
 rw [List.getElem?_take] at hv
 split at hv
 ·rw [List.getElem?_drop] at hv;exact h.cell _ hv
 ·cases hv
theorem Bag.range {w W:World} {l:List (Nat×List Value)} (h:Bag w W l) (i:Nat) {a:Nat} {cs:List Value} (hi:l[i]?=some (a,cs)) (off n:Nat):W.rangeAt a off ((cs.drop off).take n):=(h.box i hi).range off n
end Go.Bx
namespace Go.Proofs.YtgodhpampaleeaaGreatDoor
open Go.RowKit Go.Bx Go.Od Go.Hp Go.ChangeShapes Go.WideShapes Go.ChangeAt
attribute [local go_sem ↓] Go.wp_at_zero Go.wp_at_succ
structure Px where
 r:Int
 g:Int
 b:Int
 a:Int
def Px.zero:Px:=⟨0,0,0,0⟩
abbrev pxv (p:Px):Value:=.agg #[J O p.r,J O p.g,J O p.b,J O p.a]
def Byte (x:Int):Prop:=0≤x∧x≤255
def Px.Ok (p:Px):Prop:=Byte p.r∧Byte p.g∧Byte p.b∧Byte p.a
def RPx:Rep Px:=fun _ _ cs p=>cs=(qU p.r p.g p.b p.a)∧p.Ok
theorem RPx.ok:RPx.Ok:=⟨fun _ _ _ _ _ _ h=>h,fun _ _ _ _ _ _ h=>h⟩
def RRc:Rep Rc:=fun _ _ cs r=>cs=(qI r.x0 r.y0 r.x1 r.y1)∧In64 r.x0∧In64 r.y0∧In64 r.x1∧In64 r.y1
theorem RRc.ok:RRc.Ok:=⟨fun _ _ _ _ _ _ h=>h,fun _ _ _ _ _ _ h=>h⟩
structure Ct where
 kind:Int
 box:Rc
 px:Px
 w:Int
 h:Int
 turn:Int
 pix:List Px
abbrev ctc (c:Ct) (v:Value):List Value:=[J Z c.kind,J Z c.box.x0,J Z c.box.y0,J Z c.box.x1,J Z c.box.y1,J O c.px.r,J O c.px.g,J O c.px.b,J O c.px.a,J Z c.w,J Z c.h,J Z c.turn,v]
def Ct.Ok (c:Ct):Prop:=In64 c.kind∧(In64 c.box.x0∧In64 c.box.y0∧In64 c.box.x1∧In64 c.box.y1)∧c.px.Ok∧In64 c.w∧In64 c.h∧In64 c.turn
def RCt:Rep Ct:=fun F w cs c=>∃ v,cs=ctc c v∧c.Ok∧SlOf RPx 4 F w v c.pix
structure Fg where
 nds:List Nd
 out:Int
def RFg:Rep Fg:=fun F w cs g=>∃ v,cs=[v,J Z g.out]∧In64 g.out∧SlOf RNode 3 F w v g.nds
structure Lk where
 dx:Int
 dy:Int
 hasC:Bool
 clip:Rc
 opa:Int
 mode:Int
 ct:Ct
 hasF:Bool
 fil:Fg
 hasB:Bool
 bak:Fg
abbrev lkc (k:Lk) (pv fv bv:Value):List Value:=[J Z k.dx,J Z k.dy,.bool k.hasC,J Z k.clip.x0,J Z k.clip.y0,J Z k.clip.x1,J Z k.clip.y1,J Z k.opa,J Z k.mode,
 J Z k.ct.kind,J Z k.ct.box.x0,J Z k.ct.box.y0,J Z k.ct.box.x1,J Z k.ct.box.y1,J O k.ct.px.r,J O k.ct.px.g,J O k.ct.px.b,J O k.ct.px.a,J Z k.ct.w,J Z k.ct.h,J Z k.ct.turn,pv,
 .bool k.hasF,fv,J Z k.fil.out,.bool k.hasB,bv,J Z k.bak.out]
def Lk.Ok (k:Lk):Prop:=In64 k.dx∧In64 k.dy∧(In64 k.clip.x0∧In64 k.clip.y0∧In64 k.clip.x1∧In64 k.clip.y1)∧In64 k.opa∧In64 k.mode∧k.ct.Ok∧In64 k.fil.out∧In64 k.bak.out
def LkAt (F:Nat→Prop) (w:World) (k:Lk) (pv fv bv:Value):Prop:=k.Ok∧SlOf RPx 4 F w pv k.ct.pix∧SlOf RNode 3 F w fv k.fil.nds∧SlOf RNode 3 F w bv k.bak.nds
theorem LkAt.same {F:Nat→Prop} {w w':World} {k:Lk} {pv fv bv:Value} (h:LkAt F w k pv fv bv) (hs:Same F w w'):LkAt F w' k pv fv bv:=⟨h.1,h.2.1.same RPx.ok hs,h.2.2.1.same RNode.ok hs,h.2.2.2.same RNode.ok hs⟩
theorem LkAt.mono {F G:Nat→Prop} {w:World} {k:Lk} {pv fv bv:Value} (h:LkAt F w k pv fv bv) (hg:∀ b,F b→G b):LkAt G w k pv fv bv:=⟨h.1,h.2.1.mono RPx.ok hg,h.2.2.1.mono RNode.ok hg,h.2.2.2.mono RNode.ok hg⟩
def RLk:Rep Lk:=fun F w cs k=>∃ pv fv bv,cs=lkc k pv fv bv∧LkAt F w k pv fv bv
inductive Ly where
 |mk (i0 i1:Int) (k:Lk) (kids:List Ly):Ly
def Ly.look:Ly→Lk
 |.mk _ _ k _=>k
def Ly.kids:Ly→List Ly
 |.mk _ _ _ l=>l
def Ly.i0:Ly→Int
 |.mk i _ _ _=>i
def Ly.i1:Ly→Int
 |.mk _ i _ _=>i
abbrev lyc (i0 i1:Int) (k:Lk) (pv fv bv kv:Value):List Value:=[J Z i0,J Z i1,J Z k.dx,J Z k.dy,.bool k.hasC,J Z k.clip.x0,J Z k.clip.y0,J Z k.clip.x1,J Z k.clip.y1,J Z k.opa,J Z k.mode,
 J Z k.ct.kind,J Z k.ct.box.x0,J Z k.ct.box.y0,J Z k.ct.box.x1,J Z k.ct.box.y1,J O k.ct.px.r,J O k.ct.px.g,J O k.ct.px.b,J O k.ct.px.a,J Z k.ct.w,J Z k.ct.h,J Z k.ct.turn,pv,
 .bool k.hasF,fv,J Z k.fil.out,.bool k.hasB,bv,J Z k.bak.out,kv]
theorem sl_form {α:Type} {E:Rep α} {sz:Nat} {F:Nat→Prop} {w:World} {v:Value} {xs:List α} (h:SlOf E sz F w v xs):∃ a n c,v=.slice a n c:=by
 obtain ⟨a,c,h,_⟩:=h;exact ⟨a,_,c,h⟩
def RLy:Nat→Rep Ly
 |0=>fun _ _ _ _=>False
 |n+1=>fun F w cs l=>∃ pv fv bv kv,cs=lyc l.i0 l.i1 l.look pv fv bv kv∧In64 l.i0∧In64 l.i1∧LkAt F w l.look pv fv bv∧SlOf (RLy n) 31 F w kv l.kids
theorem RLy.ok:∀ n,(RLy n).Ok
 |0=>⟨fun _ _ _ _ _ _ h=>h,fun _ _ _ _ _ _ h=>h⟩
 |n+1=>⟨fun _ _ _ _ _ hs ⟨a,b,c,d,h,i,j,k,l⟩=>⟨a,b,c,d,h,i,j,k.same hs,l.same (RLy.ok n) hs⟩,fun _ _ _ _ _ hg ⟨a,b,c,d,h,i,j,k,l⟩=>⟨a,b,c,d,h,i,j,k.mono hg,l.mono (RLy.ok n) hg⟩⟩
theorem SlOf.imp {α:Type} {E G:Rep α} {sz:Nat} {F:Nat→Prop} {w:World} {v:Value} {xs:List α} (hi:∀ cs x,x∈xs→E F w cs x→G F w cs x) (h:SlOf E sz F w v xs):SlOf G sz F w v xs:=by
 obtain ⟨a,cap,hv,h1,h2,h3⟩:=h;refine ⟨a,cap,hv,h1,h2,?_⟩
 rcases h3 with h3|⟨b,o,ha,hF,h3⟩
 ·exact .inl h3
 ·refine .inr ⟨b,o,ha,hF,fun i x hx=>?_⟩;obtain ⟨cs,hl,hc,he⟩:=h3 i x hx;exact ⟨cs,hl,hc,hi _ _ (L hx) he⟩
theorem RLy.up:∀ (n m:Nat),n≤m→∀ {F:Nat→Prop} {w:World} {cs:List Value} {l:Ly},RLy n F w cs l→RLy m F w cs l
 |0,_,_,_,_,_,_,h=>h.elim
 |n+1,0,hm,_,_,_,_,_=>by omega
 |n+1,m+1,hm,_,_,_,_,⟨a,b,c,d,h,i,j,k,l⟩=>⟨a,b,c,d,h,i,j,k,SlOf.imp (fun cs x _ hx=>RLy.up n m (by omega) hx) l⟩
section
variable {H:Type} {enc:TypeId×Value→H} {W:World} {base:Nat}
theorem cells_bool:Tryz.prog.cellsOf 4=1:=by kernel_rfl
theorem cells_u8:Tryz.prog.cellsOf 5=1:=by kernel_rfl
theorem cells_px:Tryz.prog.cellsOf 27=4:=by kernel_rfl
theorem cells_pxs:Tryz.prog.cellsOf 28=1:=by kernel_rfl
theorem cells_rect:Tryz.prog.cellsOf 25=4:=by kernel_rfl
theorem cells_id:Tryz.prog.cellsOf 23=2:=by kernel_rfl
theorem cells_content:Tryz.prog.cellsOf 30=13:=by kernel_rfl
theorem cells_look:Tryz.prog.cellsOf 35=28:=by kernel_rfl
theorem cells_layer:Tryz.prog.cellsOf 38=31:=by kernel_rfl
theorem cutL (cs:List Value) (off n:Nat):cs.drop off=(cs.drop off).take n++cs.drop (off+n):=by
 rw [←List.drop_drop,List.take_append_drop]
theorem rb:Reads enc Tryz.prog W 4 RBool:=reads_bool Tryz.underlying4
theorem reads_rect:Reads enc Tryz.prog W 25 RRc:=fun fuel cs x h=>by
 obtain ⟨a,h0⟩:=reads_field Tryz.underlying25 h 0 (ft:=3) (off:=0) (n:=1) rfl cells_int (E:=RInt) ri;obtain ⟨b,h1⟩:=reads_field Tryz.underlying25 h 1 (ft:=3) (off:=1) (n:=1) rfl cells_int (E:=RInt) ri;obtain ⟨c,h2⟩:=reads_field Tryz.underlying25 h 2 (ft:=3) (off:=2) (n:=1) rfl cells_int (E:=RInt) ri;obtain ⟨d,h3⟩:=reads_field Tryz.underlying25 h 3 (ft:=3) (off:=3) (n:=1) rfl cells_int (E:=RInt) ri;have hl:=struct_len Tryz.underlying25 h;rw [cells_rect] at hl;refine ⟨⟨a,b,c,d⟩,?_,h0.2,h1.2,h2.2,h3.2⟩;have e:cs=cs.drop 0:=rfl;rw [e,cutL cs 0 1,cutL cs (0+1) 1,cutL cs (0+1+1) 1,cutL cs (0+1+1+1) 1,h0.1,h1.1,h2.1,h3.1,List.drop_eq_nil_of_le (by omega)];rfl
theorem reads_px:Reads enc Tryz.prog W 27 RPx:=fun fuel cs x h=>by
 obtain ⟨xs,m,_,_,hl,hxl,hel⟩:=DataW.trod_array Tryz.underlying27 h;rw [cells_px] at hl;have hx:∀ i,i<4→∃ y,RU8 (·<W.heap.size) W ((cs.drop i).take 1) y:=fun i hi=>by
  have h1:=hel i hi;rw [cells_u8,Nat.mul_one,T (by omega)] at h1;exact (reads_u8 (enc:=enc) (W:=W) Tryz.underlying5) m _ _ h1
 obtain ⟨a,h0,a0⟩:=hx 0 (by omega);obtain ⟨b,h1,b0⟩:=hx 1 (by omega);obtain ⟨c,h2,c0⟩:=hx 2 (by omega);obtain ⟨d,h3,d0⟩:=hx 3 (by omega);refine ⟨⟨a,b,c,d⟩,?_,a0,b0,c0,d0⟩;have e:cs=cs.drop 0:=rfl;rw [e,cutL cs 0 1,cutL cs (0+1) 1,cutL cs (0+1+1) 1,cutL cs (0+1+1+1) 1,h0,h1,h2,h3,List.drop_eq_nil_of_le (by omega)];rfl
theorem reads_graph:Reads enc Tryz.prog W 33 RFg:=fun fuel cs x h=>by
 obtain ⟨nds,v,h0,hn⟩:=reads_field Tryz.underlying33 h 0 (ft:=31) (off:=0) (n:=1) rfl cells_nodes (E:=RSl RNode 3) (reads_slice Tryz.underlying31 cells_node (by decide) reads_node);obtain ⟨out,h1,ho⟩:=reads_field Tryz.underlying33 h 1 (ft:=3) (off:=1) (n:=1) rfl cells_int (E:=RInt) ri;have hl:=struct_len Tryz.underlying33 h;rw [cells_graph] at hl;refine ⟨⟨nds,out⟩,v,?_,ho,hn⟩;have e:cs=cs.drop 0:=rfl;rw [e,cutL cs 0 1,cutL cs (0+1) 1,h0,h1,List.drop_eq_nil_of_le (by omega)];rfl
theorem reads_content:Reads enc Tryz.prog W 30 RCt:=fun fuel cs x h=>by
 obtain ⟨kind,h0,k0⟩:=reads_field Tryz.underlying30 h 0 (ft:=3) (off:=0) (n:=1) rfl cells_int (E:=RInt) ri;obtain ⟨box,h1,k1⟩:=reads_field Tryz.underlying30 h 1 (ft:=25) (off:=1) (n:=4) rfl cells_rect (E:=RRc) reads_rect;obtain ⟨px,h2,k2⟩:=reads_field Tryz.underlying30 h 2 (ft:=27) (off:=5) (n:=4) rfl cells_px (E:=RPx) reads_px;obtain ⟨cw,h3,k3⟩:=reads_field Tryz.underlying30 h 3 (ft:=3) (off:=9) (n:=1) rfl cells_int (E:=RInt) ri;obtain ⟨ch,h4,k4⟩:=reads_field Tryz.underlying30 h 4 (ft:=3) (off:=10) (n:=1) rfl cells_int (E:=RInt) ri;obtain ⟨turn,h5,k5⟩:=reads_field Tryz.underlying30 h 5 (ft:=3) (off:=11) (n:=1) rfl cells_int (E:=RInt) ri;obtain ⟨pix,v,h6,k6⟩:=reads_field Tryz.underlying30 h 6 (ft:=28) (off:=12) (n:=1) rfl cells_pxs (E:=RSl RPx 4) (reads_slice Tryz.underlying28 cells_px (by decide) reads_px);have hl:=struct_len Tryz.underlying30 h;rw [cells_content] at hl;refine ⟨⟨kind,box,px,cw,ch,turn,pix⟩,v,?_,⟨k0,k1,k2,k3,k4,k5⟩,k6⟩;have e:cs=cs.drop 0:=rfl;rw [e,cutL cs 0 1,cutL cs (0+1) 4,cutL cs (0+1+4) 4,cutL cs (0+1+4+4) 1,cutL cs (0+1+4+4+1) 1,cutL cs (0+1+4+4+1+1) 1,cutL cs (0+1+4+4+1+1+1) 1,h0,h1,h2,h3,h4,h5,h6,List.drop_eq_nil_of_le (by omega)];rfl
theorem reads_look:Reads enc Tryz.prog W 35 RLk:=fun fuel cs x h=>by
 obtain ⟨dx,h0,k0⟩:=reads_field Tryz.underlying35 h 0 (ft:=3) (off:=0) (n:=1) rfl cells_int (E:=RInt) ri;obtain ⟨dy,h1,k1⟩:=reads_field Tryz.underlying35 h 1 (ft:=3) (off:=1) (n:=1) rfl cells_int (E:=RInt) ri;obtain ⟨hc,h2⟩:=reads_field Tryz.underlying35 h 2 (ft:=4) (off:=2) (n:=1) rfl cells_bool (E:=RBool) rb;obtain ⟨clip,h3,k3⟩:=reads_field Tryz.underlying35 h 3 (ft:=25) (off:=3) (n:=4) rfl cells_rect (E:=RRc) reads_rect;obtain ⟨opa,h4,k4⟩:=reads_field Tryz.underlying35 h 4 (ft:=3) (off:=7) (n:=1) rfl cells_int (E:=RInt) ri;obtain ⟨mode,h5,k5⟩:=reads_field Tryz.underlying35 h 5 (ft:=3) (off:=8) (n:=1) rfl cells_int (E:=RInt) ri;obtain ⟨ct,pv,h6,k6,p6⟩:=reads_field Tryz.underlying35 h 6 (ft:=30) (off:=9) (n:=13) rfl cells_content (E:=RCt) reads_content;obtain ⟨hf,h7⟩:=reads_field Tryz.underlying35 h 7 (ft:=4) (off:=22) (n:=1) rfl cells_bool (E:=RBool) rb;obtain ⟨fil,fv,h8,k8,p8⟩:=reads_field Tryz.underlying35 h 8 (ft:=33) (off:=23) (n:=2) rfl cells_graph (E:=RFg) reads_graph;obtain ⟨hb,h9⟩:=reads_field Tryz.underlying35 h 9 (ft:=4) (off:=25) (n:=1) rfl cells_bool (E:=RBool) rb;obtain ⟨bak,bv,h10,k10,p10⟩:=reads_field Tryz.underlying35 h 10 (ft:=33) (off:=26) (n:=2) rfl cells_graph (E:=RFg) reads_graph;have hl:=struct_len Tryz.underlying35 h;rw [cells_look] at hl;unfold RBool at h2 h7 h9;refine ⟨⟨dx,dy,hc,clip,opa,mode,ct,hf,fil,hb,bak⟩,pv,fv,bv,?_,⟨k0,k1,k3,k4,k5,k6,k8,k10⟩,p6,p8,p10⟩;have e:cs=cs.drop 0:=rfl;rw [e,cutL cs 0 1,cutL cs (0+1) 1,cutL cs (0+1+1) 1,cutL cs (0+1+1+1) 4,cutL cs (0+1+1+1+4) 1,cutL cs (0+1+1+1+4+1) 1,cutL cs (0+1+1+1+4+1+1) 13,cutL cs (0+1+1+1+4+1+1+13) 1,cutL cs (0+1+1+1+4+1+1+13+1) 2,cutL cs (0+1+1+1+4+1+1+13+1+2) 1,cutL cs (0+1+1+1+4+1+1+13+1+2+1) 2,
  h0,h1,h2,h3,h4,h5,h6,h7,h8,h9,h10,List.drop_eq_nil_of_le (by omega)]
 rfl
def RId:Rep (Int×Int):=fun _ _ cs p=>cs=[J Z p.1,J Z p.2]∧In64 p.1∧In64 p.2
theorem reads_id:Reads enc Tryz.prog W 23 RId:=fun fuel cs x h=>by
 obtain ⟨a,h0,k0⟩:=reads_field Tryz.underlying23 h 0 (ft:=3) (off:=0) (n:=1) rfl cells_int (E:=RInt) ri;obtain ⟨b,h1,k1⟩:=reads_field Tryz.underlying23 h 1 (ft:=3) (off:=1) (n:=1) rfl cells_int (E:=RInt) ri;have hl:=struct_len Tryz.underlying23 h;rw [cells_id] at hl;refine ⟨(a,b),?_,k0,k1⟩;have e:cs=cs.drop 0:=rfl;rw [e,cutL cs 0 1,cutL cs (0+1) 1,h0,h1,List.drop_eq_nil_of_le (by omega)];rfl
theorem sl_depth {F:Nat→Prop} {w:World} {v:Value} {xs:List Ly} (h:SlOf (fun F w cs l=>∃ n,RLy n F w cs l) 31 F w v xs):∃ n,SlOf (RLy n) 31 F w v xs:=by
 obtain ⟨a,cap,hv,h1,h2,h3⟩:=h
 rcases h3 with h3|⟨b,o,ha,hF,h3⟩
 ·exact ⟨0,a,cap,hv,h1,h2,.inl h3⟩
 ·have key:∀ m,∃ n,∀ i x,i<m→xs[i]?=some x→∃ cs,cs.length=31∧LiesAt w b (o+i*31) cs∧RLy n F w cs x:=by
   intro m
   induction m with
   |zero=>exact ⟨0,fun i x hi=>by omega⟩
   |succ m ih=>
    obtain ⟨n,hn⟩:=ih;cases hx:xs[m]? with
    |none=>exact ⟨n,fun i x hi h=>hn i x (by
      by_cases e:i=m
      ·subst e;rw [hx] at h;cases h
      ·omega) h⟩
    |some y=>
     obtain ⟨cs,hl,hc,k,hk⟩:=h3 m y hx;refine ⟨max n k,fun i x hi h=>?_⟩;by_cases e:i=m
     ·subst e;rw [hx] at h;cases h
      exact ⟨cs,hl,hc,RLy.up k _ (by omega) hk⟩
     ·obtain ⟨cs',a1,a2,a3⟩:=hn i x (by omega) h;exact ⟨cs',a1,a2,RLy.up n _ (by omega) a3⟩
  obtain ⟨n,hn⟩:=key xs.length;exact ⟨n,a,cap,hv,h1,h2,.inr ⟨b,o,ha,hF,fun i x hx=>hn i x (N.1 hx).1 hx⟩⟩
theorem reads_layer_fuel:∀ (fuel:Nat) (cs:List Value) (x:DataW H×List MemPlace),DataW.trod enc Tryz.prog W 0 (fun _=>true) true fuel 38 cs=some x→∃ l:Ly,∃ n,RLy n (·<W.heap.size) W cs l:=by
 intro fuel
 induction fuel using Nat.strongRecOn with
 |ind fuel ih=>
  intro cs x h;obtain ⟨id,e0,i0,i1⟩:=reads_field Tryz.underlying38 h 0 (ft:=23) (off:=0) (n:=2) rfl cells_id (E:=RId) reads_id;obtain ⟨k,pv,fv,bv,e1,hk⟩:=reads_field Tryz.underlying38 h 1 (ft:=35) (off:=2) (n:=28) rfl cells_look (E:=RLk) reads_look;have hl:=struct_len Tryz.underlying38 h;rw [cells_layer] at hl;obtain ⟨xs,m,hm,_,_,hxl,hf⟩:=DataW.trod_struct Tryz.underlying38 h;have h2:=hf 2 _ rfl;rw [T (by rw [hxl];decide)] at h2;have hs:∃ kids,∃ kv,(cs.drop 30).take 1=[kv]∧SlOf (fun F w cs l=>∃ n,RLy n F w cs l) 31 (·<W.heap.size) W kv kids:=by
   have ht:=Tryz.underlying36;have h3:DataW.trod enc Tryz.prog W 0 (fun _=>true) true m 36 ((cs.drop 30).take 1)=some _:=h2
   rcases DataW.trod_slice ht h3 with ⟨h4,_⟩|⟨a,len,cap,elems,rest,n,hn,h4,_,hb,hl,hmx,hlen,hel,_⟩
   ·exact ⟨[],_,h4,none,0,rfl,I _,by decide,.inl rfl⟩
   ·have hall:∀ i,i<len→∃ y:Ly,∃ cs,cs.length=31∧(∀ j u,cs[j]?=some u→W.cell? ((a.add (i*31)).add j)=some u)∧∃ n,RLy n (·<W.heap.size) W cs y:=by
     intro i hi;have h1:=hel i hi;rw [cells_layer] at h1;rw [T (by omega),Option.bind_eq_some_iff] at h1;obtain ⟨cs,hcs,hr⟩:=h1;obtain ⟨y,hy⟩:=ih n (by omega) cs _ hr;have hc:=World.cells?_some hcs;refine ⟨y,cs,hc.2.1,fun j u hu=>?_,hy⟩;have hj:j<31:=by
      have:=(N.1 hu).1;have:=hc.2.1;omega
     exact (hc.2.2 j hj).trans hu
    obtain ⟨xs,hxl,hx⟩:=list_of len hall;refine ⟨xs,_,h4,some a,cap,by rw [hxl],by omega,hmx,?_⟩;by_cases h0:len=0
    ·left;exact List.eq_nil_of_length_eq_zero (by omega)
    ·right;obtain ⟨b,o,spot⟩:=a;have hspot:spot=none∧b<W.heap.size:=by
      obtain ⟨y,cs,hcl,hc,_⟩:=hall 0 (by omega);have hu:cs[0]?=some cs[0]:=T (by omega);have:=hc 0 _ hu;simp only [Nat.zero_mul,Addr.add,if_true] at this;exact ⟨World.cell?_spot this,lt_of_cell this⟩
     obtain ⟨rfl,hlt⟩:=hspot;refine ⟨b,o,rfl,hlt,fun i x hi=>?_⟩;obtain ⟨cs,hcl,hc,hE⟩:=hx i x hi;refine ⟨cs,hcl,fun j u hu=>?_,hE⟩;have:=hc j u hu;rw [Go.WideShapes.add_plain,Go.WideShapes.add_plain] at this;exact this
  obtain ⟨kids,kv,e2,hs⟩:=hs;obtain ⟨n,hs⟩:=sl_depth hs;refine ⟨.mk id.1 id.2 k kids,n+1,pv,fv,bv,kv,?_,i0,i1,hk,hs⟩;have e:cs=cs.drop 0:=rfl;rw [e,cutL cs 0 2,cutL cs (0+2) 28,cutL cs (0+2+28) 1,e0,e1,e2,List.drop_eq_nil_of_le (by omega)];rfl
theorem layer_arg {v:Value} {d:DataW H} {p:List MemPlace} (h:DataW.Trod enc Tryz.prog W 0 (fun _=>true) true 38 v d p) (hv:Value.okWide Tryz.prog W .any base 38 v):
  ∃ (l:Ly) (n:Nat) (pv fv bv kv:Value),v=.agg (lyc l.i0 l.i1 l.look pv fv bv kv).toArray∧In64 l.i0∧In64 l.i1∧LkAt (·<W.heap.size) W l.look pv fv bv∧SlOf (RLy n) 31 (·<W.heap.size) W kv l.kids:=by
 obtain ⟨cs,rfl⟩:=arg_struct Tryz.underlying38 hv;obtain ⟨fuel,hf⟩:=h;obtain ⟨l,n,hn⟩:=reads_layer_fuel fuel _ _ hf
 match n,hn with
 |n+1,⟨pv,fv,bv,kv,h1,h2,h3,h4,h5⟩=>
  refine ⟨l,n,pv,fv,bv,kv,?_,h2,h3,h4,h5⟩;exact agg_of rfl h1
end
end Go.Proofs.YtgodhpampaleeaaGreatDoor
namespace Go.Proofs.YtgodhpampaleeaaGreatDoor
open Go.RowKit Go.Bx Go.Od Go.Hp
abbrev lkq (k:Lk) (b c d:Bool) (pv fv bv:Value):List Value:=[J Z k.dx,J Z k.dy,.bool b,J Z k.clip.x0,J Z k.clip.y0,J Z k.clip.x1,J Z k.clip.y1,J Z k.opa,J Z k.mode,J Z k.ct.kind,J Z k.ct.box.x0,J Z k.ct.box.y0,J Z k.ct.box.x1,J Z k.ct.box.y1,J O k.ct.px.r,J O k.ct.px.g,J O k.ct.px.b,J O k.ct.px.a,J Z k.ct.w,J Z k.ct.h,J Z k.ct.turn,pv,.bool c,fv,J Z k.fil.out,.bool d,bv,J Z k.bak.out]
abbrev lyq (i0 i1:Int) (k:Lk) (b c d:Bool) (pv fv bv kv:Value):List Value:=[J Z i0,J Z i1,J Z k.dx,J Z k.dy,.bool b,J Z k.clip.x0,J Z k.clip.y0,J Z k.clip.x1,J Z k.clip.y1,J Z k.opa,J Z k.mode,J Z k.ct.kind,J Z k.ct.box.x0,J Z k.ct.box.y0,J Z k.ct.box.x1,J Z k.ct.box.y1,J O k.ct.px.r,J O k.ct.px.g,J O k.ct.px.b,J O k.ct.px.a,J Z k.ct.w,J Z k.ct.h,J Z k.ct.turn,pv,.bool c,fv,J Z k.fil.out,.bool d,bv,J Z k.bak.out,kv]
def planeR:Rc:=⟨-4398046511104,-4398046511104,4398046511104,4398046511104⟩
theorem plane_pl:RcP planeR:=by refine ⟨?_,?_,?_,?_⟩<;>(unfold Pl planeR;dsimp only;omega)
def someR (r:Rc):Rc:=joinR r Rc.zero
theorem someR_pl {r:Rc} (h:RcP r):RcP (someR r):=joinR_pl h zero_pl
def calmB (p:List Int):Bool:=decide (p.getD 19 0≤0)
def par (nd:Nd) (j:Nat):Int:=nd.p.getD j 0
def floodB (nd:Nd):Bool:=par nd 0+par nd 1+par nd 2+par nd 3==0
def reachN (nd:Nd) (l:List Rc):Rc:=
 if nd.op=1 then moveR (l.getD 0 Rc.zero) (par nd 0) (par nd 1)
 else if nd.op=2∨nd.op=4 then growR (l.getD 0 Rc.zero) (par nd 0) (par nd 1) (par nd 0) (par nd 1)
 else if nd.op=3 then someR (l.getD 0 Rc.zero)
 else if nd.op=5 then (if calmB nd.p=true then someR (l.getD 0 Rc.zero) else planeR)
 else if nd.op=6 then (if floodB nd=true then Rc.zero else someR (pbox (nd.p.drop 4)))
 else if nd.op=12 then meetR (l.getD 0 Rc.zero) (pbox nd.p)
 else if nd.op=10 then (if (meetR (l.getD 0 Rc.zero) (pbox nd.p)).emp=true then Rc.zero else planeR)
 else if nd.op=11 then joinR (l.getD 0 Rc.zero) (growR (moveR (l.getD 0 Rc.zero) (par nd 0) (par nd 1)) (par nd 2) (par nd 3) (par nd 2) (par nd 3))
 else l.foldl joinR Rc.zero
structure RaOk (nd:Nd):Prop where
 pa:PaOk nd
 op:1≤nd.op∧nd.op≤12
 one:nd.op≠6→1≤nd.ins.length
 two:nd.op=7∨nd.op=8→nd.ins.length=2∧nd.p.length=1
 sin:nd.op=1∨nd.op=2∨nd.op=3∨nd.op=4∨nd.op=5∨nd.op=10∨nd.op=11∨nd.op=12→nd.ins.length=1
 mt:nd.op=5→nd.p.length=20∧∀ j,j<20 → -32768≤nd.p.getD j 0∧nd.p.getD j 0≤32767
 fl:nd.op=6→nd.p.length=8∧(∀ j,j<4→0≤par nd j∧par nd j≤255)∧RcP (pbox (nd.p.drop 4))
 sh:nd.op=11→nd.p.length=8∧∀ j,j<4→0≤par nd (4+j)∧par nd (4+j)≤255
 ti:nd.op=10→par nd 0<par nd 2∧par nd 1<par nd 3∧par nd 2-par nd 0≤4096∧par nd 3-par nd 1≤4096
 few:nd.ins.length≤8
theorem getD_mem_or {l:List Rc} (h:∀ r∈l,RcP r) (k:Nat):RcP (l.getD k Rc.zero):=by
 rw [List.getD_eq_getElem?_getD]
 cases e:l[k]? with
 |none=>exact zero_pl
 |some r=>exact h r (L e)
theorem foldl_pl:∀ (l:List Rc) (a:Rc),RcP a→(∀ r∈l,RcP r)→RcP (l.foldl joinR a)
 |[],a,ha,_=>ha
 |r::rs,a,ha,h=>foldl_pl rs _ (joinR_pl ha (h r (by simp))) fun q hq=>h q (by simp [hq])
theorem reachN_pl {nd:Nd} {l:List Rc} (h:RaOk nd) (hl:∀ r∈l,RcP r):RcP (reachN nd l):=by
 have h0:=getD_mem_or hl 0;unfold reachN
 split
 ·exact moveR_pl _ _ _
 ·split
  ·exact growR_pl _ _ _ _ _
  ·split
   ·exact someR_pl h0
   ·split
    ·split
     ·exact someR_pl h0
     ·exact plane_pl
    ·split
     ·split
      ·exact zero_pl
      ·exact someR_pl (h.fl (by assumption)).2.2
     ·split
      ·exact meetR_pl h0 (h.pa.bx (.inl (by assumption))).2
      ·split
       ·split
        ·exact zero_pl
        ·exact plane_pl
       ·split
        ·exact joinR_pl h0 (growR_pl _ _ _ _ _)
        ·exact foldl_pl _ _ zero_pl hl
def rin (r:Rc) (vs:List Rc) (i:Int):Rc:=if i = -1 then r else vs.getD i.toNat Rc.zero
def reachS (nds:List Nd) (r:Rc) (vs:List Rc) (k:Nat):List Rc:=vs.set k (reachN (nds.getD k Nd.none) ((nds.getD k Nd.none).ins.map (rin r vs)))
def reachL (nds:List Nd) (r:Rc) (o:List Nat):List Rc:=o.foldl (reachS nds r) (List.replicate nds.length Rc.zero)
def reachG (g:Fg) (r:Rc):Rc:=(reachL g.nds r (ord (insOf g.nds))).getD g.out.toNat Rc.zero
theorem reachS_len (nds:List Nd) (r:Rc) (vs:List Rc) (k:Nat):(reachS nds r vs k).length=vs.length:=by simp [reachS]
theorem reachF_len (nds:List Nd) (r:Rc):∀ (o:List Nat) (vs:List Rc),(o.foldl (reachS nds r) vs).length=vs.length
 |[],_=>rfl
 |k::ks,vs=>(reachF_len nds r ks _).trans (reachS_len nds r vs k)
theorem reachL_len (nds:List Nd) (r:Rc) (o:List Nat):(reachL nds r o).length=nds.length:=by unfold reachL;rw [reachF_len];simp
theorem rin_pl {r:Rc} {vs:List Rc} (hr:RcP r) (hv:∀ q∈vs,RcP q) (i:Int):RcP (rin r vs i):=by
 unfold rin
 split
 ·exact hr
 ·exact getD_mem_or hv _
theorem reachS_pl {nds:List Nd} {r:Rc} {vs:List Rc} {k:Nat} (hr:RcP r) (hv:∀ q∈vs,RcP q) (hk:RaOk (nds.getD k Nd.none)):∀ q∈reachS nds r vs k,RcP q:=by
 intro q hq
 rcases List.mem_or_eq_of_mem_set hq with h|rfl
 ·exact hv q h
 ·refine reachN_pl hk fun x hx=>?_;obtain ⟨i,_,rfl⟩:=List.mem_map.1 hx;exact rin_pl hr hv i
theorem reachF_pl {nds:List Nd} {r:Rc} (hr:RcP r):∀ (o:List Nat) (vs:List Rc),(∀ q∈vs,RcP q)→(∀ k∈o,RaOk (nds.getD k Nd.none))→∀ q∈o.foldl (reachS nds r) vs,RcP q
 |[],_,hv,_=>hv
 |k::ks,vs,hv,hk=>reachF_pl hr ks _ (reachS_pl hr hv (hk k (by simp))) fun j hj=>hk j (by simp [hj])
theorem reachL_pl {nds:List Nd} {r:Rc} (hr:RcP r) {o:List Nat} (hk:∀ k∈o,RaOk (nds.getD k Nd.none)):∀ q∈reachL nds r o,RcP q:=
 reachF_pl hr o _ (fun q hq=>by rw [List.eq_of_mem_replicate hq];exact zero_pl) hk
theorem reachL_snoc (nds:List Nd) (r:Rc) (o:List Nat) (k:Nat):reachL nds r (o++[k])=reachS nds r (reachL nds r o) k:=by simp [reachL]
theorem r7_get {xs:List Int} (h:r7 xs=true):∀ j,j<20 → -32768≤xs.getD j 0∧xs.getD j 0≤32767:=by
 unfold r7 inB at h;simp only [D,decide_eq_true_eq,List.all_eq_true,List.mem_range] at h;intro j hj;exact h.1 j (by omega)
theorem ra_of {nd:Nd} {n:Nat} (h:oneB nd n=0):RaOk nd:=by
 have hpa:=(pa_of h).1;unfold oneB at h
 split at h
 ·cases h
 rename_i h1
 split at h
 ·cases h
 rename_i h2
 split at h
 ·cases h
 rename_i h3
 split at h
 ·cases h
 rename_i h4;have hp:(nd.p.length:Int)=parL.getD nd.op.toNat 0:=by
  have:¬((nd.p.length:Int)==parL.getD nd.op.toNat 0)=false:=fun e=>h2 (.inr (.inr e))
  simpa using this
 have hi:leastL.getD nd.op.toNat 0≤(nd.ins.length:Int)∧(nd.ins.length:Int)≤mostL.getD nd.op.toNat 0:=⟨by
  have:¬(nd.ins.length:Int)<leastL.getD nd.op.toNat 0:=fun e=>h2 (.inl e);omega,by
  have:¬mostL.getD nd.op.toNat 0<(nd.ins.length:Int):=fun e=>h2 (.inr (.inl e));omega⟩
 have hb:bndB nd.op nd.p=true:=by simpa using h4
 have hop:1≤nd.op∧nd.op≤12:=by omega
 clear h h1 h2 h3 h4;obtain ⟨op,ins,p⟩:=nd;dsimp only at *;have hcase:op=1∨op=2∨op=3∨op=4∨op=5∨op=6∨op=7∨op=8∨op=9∨op=10∨op=11∨op=12:=by omega
 have hlen:(op=6∨1≤ins.length)∧(op=7∨op=8→ins.length=2∧p.length=1)∧(op=1∨op=2∨op=3∨op=4∨op=5∨op=10∨op=11∨op=12→ins.length=1)∧(op=5→p.length=20)∧(op=6→p.length=8)∧(op=11→p.length=8)∧ins.length≤8:=by
  clear hb hpa hop
  rcases hcase with rfl|rfl|rfl|rfl|rfl|rfl|rfl|rfl|rfl|rfl|rfl|rfl<;>(simp [parL,leastL,mostL] at hp hi;(try subst hi);simp;try omega)
 refine ⟨hpa,hop,fun e=>hlen.1.elim (fun h=>absurd h e) (fun h=>h),hlen.2.1,hlen.2.2.1,fun e=>⟨hlen.2.2.2.1 e,?_⟩,fun e=>⟨hlen.2.2.2.2.1 e,?_⟩,fun e=>⟨hlen.2.2.2.2.2.1 e,?_⟩,fun e=>?_,hlen.2.2.2.2.2.2⟩
 ·dsimp only at e;rw [e] at hb;have hb:r7 p=true:=hb;exact r7_get hb
 ·dsimp only at e;rw [e] at hb;have hb:(pixB p 0&&nearB p 4 8 (-1048576) 1048576)=true:=hb;unfold pixB at hb;simp only [D,nearB_iff] at hb;refine ⟨fun j hj=>hb.1.1 j (by omega) (by omega),?_⟩;have g:∀ k,(p.drop 4).getD k 0=p.getD (4+k) 0:=fun k=>by simp [List.getD_eq_getElem?_getD]
  have c0:=hb.2 4 (by omega) (by omega);have c1:=hb.2 5 (by omega) (by omega);have c2:=hb.2 6 (by omega) (by omega);have c3:=hb.2 7 (by omega) (by omega);unfold pbox;rw [g,g,g,g];refine ⟨?_,?_,?_,?_⟩<;>(unfold Pl;dsimp only [Nat.reduceAdd];omega)
 ·dsimp only at e;rw [e] at hb;have hb:(nearB p 0 2 (-1048576) 1048576&&(nearB p 2 4 0 255&&pixB p 4))=true:=hb;unfold pixB at hb;simp only [D,nearB_iff] at hb;exact fun j hj=>hb.2.2.1 (4+j) (by omega) (by omega)
 ·dsimp only at e;rw [e] at hb;have hb:(nearB p 0 4 (-1048576) 1048576&&(decide (p.getD 0 0<p.getD 2 0)&&(decide (p.getD 1 0<p.getD 3 0)&&(decide (p.getD 2 0-p.getD 0 0≤4096)&&decide (p.getD 3 0-p.getD 1 0≤4096)))))=true:=hb;simp only [D,decide_eq_true_eq] at hb;exact hb.2
structure GoodR (g:Fg):Prop where
 gn:GoodN g.nds g.out
 ra:∀ i,i<g.nds.length→RaOk (g.nds.getD i Nd.none)
 acy:g.nds.length≤(ord (insOf g.nds)).length
theorem goodR_of {g:Fg} {m:Nat} (h1:fewB g.nds m=true) (hm:m≤12) (h2:chkB g.nds g.out=0):GoodR g:=by
 obtain ⟨nds,out⟩:=g;dsimp only at *;have hr:rightB nds out=true:=by
  unfold rightB;rw [D];refine ⟨?_,by rw [h2];rfl⟩;rw [fewB_iff] at h1 ⊢;exact ⟨by omega,h1.2⟩
 refine ⟨goodN_of hr,fun i hi=>?_,?_⟩
 ·unfold chkB at h2
  split at h2
  ·cases h2
  ·split at h2
   ·rename_i h3;exact absurd h2 h3
   ·rename_i h3;exact ra_of ((badB_iff _ _).1 (by simpa using h3) i hi)
 ·unfold chkB at h2
  split at h2
  ·cases h2
  ·split at h2
   ·rename_i h3;exact absurd h2 h3
   ·split at h2
    ·cases h2
    ·split at h2
     ·cases h2
     ·dsimp only;omega
theorem reachG_pl {g:Fg} {r:Rc} (hg:GoodR g) (hr:RcP r) (ho:∀ k∈ord (insOf g.nds),k<g.nds.length):RcP (reachG g r):=
 getD_mem_or (reachL_pl hr fun k hk=>hg.ra k (ho k hk)) _
end Go.Proofs.YtgodhpampaleeaaGreatDoor
namespace Go.Proofs.YtgodhpampaleeaaGreatDoor
open Go.RowKit Go.Bx Go.Od Go.Hp
attribute [local go_sem ↓] Go.wp_at_zero Go.wp_at_succ
theorem fbox_c {F:Nat→Prop} (v:Value) (p:List Int) (w:World) (h:SlOf RInt 1 F w v p) (h4:4≤p.length):Calls Tryz.prog 77 #[v] w (PPost w (rv (pbox p))):=by
 obtain ⟨b,o,c,rfl,hF,hc,hcap,hcm⟩:=sl_cells h (by omega);have c0:=hc 0 (by omega);have c1:=hc 1 (by omega);have c2:=hc 2 (by omega);have c3:=hc 3 (by omega);rw [Nat.add_zero] at c0;obtain ⟨q0,hq0⟩:∃ q,q=p.getD 0 0:=⟨_,rfl⟩;obtain ⟨q1,hq1⟩:∃ q,q=p.getD 1 0:=⟨_,rfl⟩;obtain ⟨q2,hq2⟩:∃ q,q=p.getD 2 0:=⟨_,rfl⟩;obtain ⟨q3,hq3⟩:∃ q,q=p.getD 3 0:=⟨_,rfl⟩;have HQ:Hid (pbox p=⟨q0,q1,q2,q3⟩):=by
  have:pbox p=⟨q0,q1,q2,q3⟩:=by unfold pbox;rw [hq0,hq1,hq2,hq3]
  exact this
 rw [←hq0] at c0;rw [←hq1] at c1;rw [←hq2] at c2;rw [←hq3] at c3;obtain ⟨n,hn⟩:∃ n,n=p.length:=⟨_,rfl⟩;rw [←hn] at h4 hcap ⊢;have R0:=Box.new w (cl4 ⟨0,0,0,0⟩) 25;have HB:Hid (Box (w.alloc (.cells (cs4 0 0 0 0) 25)) w.heap.size (cl4 ⟨0,0,0,0⟩)∧Below w.heap.size w (w.alloc (.cells (cs4 0 0 0 0) 25))):=⟨R0,below_new _ _⟩;have d0:=cell_alloc_lt c0 (.cells (cs4 0 0 0 0) 25);have d1:=cell_alloc_lt c1 (.cells (cs4 0 0 0 0) 25);have d2:=cell_alloc_lt c2 (.cells (cs4 0 0 0 0) 25);have d3:=cell_alloc_lt c3 (.cells (cs4 0 0 0 0) 25);unfold maxLen at hcm;clear hq0 hq1 hq2 hq3 hn hc h c0 c1 c2 c3 R0;go_enter Tryz.func77,Tryz.ntmps77;go_wp2_with fail;generalize w.alloc (.cells (cs4 0 0 0 0) 25)=W1 at *;obtain ⟨k0,k1,k2,k3⟩:=kept4 d0 d1 d2 d3;clear d0 d1 d2 d3;refine wp_region_kept_last W1.heap.size 13 _ rfl rfl (by kernel_rfl) (by kernel_rfl) ?_;simp only [U,V]
 repeat (go_big_quiet_step (fail))
 refine wpQuiet_nil ?_;intro s;have J5:Hid (Box s.w w.heap.size (cl4 ⟨0,0,0,0⟩)∧Below w.heap.size w s.w):=⟨HB.o.1.call s.below,HB.o.2.trans (s.below.mono HB.o.2.size)⟩;have r0:=J5.out.1.cell 0 rfl;have r1:=J5.out.1.cell 1 rfl;have r2:=J5.out.1.cell 2 rfl;have r3:=J5.out.1.cell 3 rfl;have f0:=J5.out.1.frozen 0;have f1:=J5.out.1.frozen 1;have f2:=J5.out.1.frozen 2;have f3:=J5.out.1.frozen 3;refine ⟨steps_plain rfl (gives_mono (R:=fun v w'=>v=undef∧w'=(((s.w.setCell ⟨w.heap.size,0,none⟩ (J Z q0)).setCell ⟨w.heap.size,1,none⟩ (J Z q1)).setCell ⟨w.heap.size,2,none⟩ (J Z q2)).setCell ⟨w.heap.size,3,none⟩ (J Z q3)) ?_ ?_)⟩
 ·simp [gives,go_sem,r0,r1,r2,r3,f0,f1,f2,f3]
 ·rintro _ _ ⟨rfl,rfl⟩;clear k0 k1 k2 k3;go_wp2_with fail;exact ret_rect rfl rfl (set4_box J5.out.1 _ _ _ _) rfl ⟨by rw [HQ.o],(((J5.out.2.setCell (by simp) _).setCell (by simp) _).setCell (by simp) _).setCell (by simp) _⟩
theorem planeAll_c (w:World):Calls Tryz.prog 75 #[] w (PPost w (rv planeR)):=by
 have H0:Hid (Bag w (w.alloc (.cells (cs4 (-4398046511104) (-4398046511104) 4398046511104 4398046511104) 25)) [(w.heap.size,cl4 planeR)]):=bag1 w (cl4 planeR) _;go_enter Tryz.func75,Tryz.ntmps75;go_wp2_with fail;exact ret_rect rfl rfl (r:=planeR) (H0.o.box 0 rfl) rfl ⟨rfl,H0.o.below⟩
theorem fwhole_c (b:Bool) (w:World):Calls Tryz.prog 78 #[.bool b] w (PPost w (rv (if b=true then planeR else Rc.zero))):=by
 have H0:Hid (Bag w (w.alloc (.cells (cs4 0 0 0 0) 25)) [(w.heap.size,cl4 ⟨0,0,0,0⟩)]):=bag1 w (cl4 ⟨0,0,0,0⟩) _
 cases b with
 |false=>
  go_enter Tryz.func78,Tryz.ntmps78;go_wp2_with fail;exact ret_rect rfl rfl (r:=Rc.zero) (H0.o.box 0 rfl) rfl ⟨rfl,H0.o.below⟩
 |true=>
  have HP:Hid (rv (if true=true then planeR else Rc.zero)=rv planeR):=by
   have:rv (if true=true then planeR else Rc.zero)=rv planeR:=by rw [if_pos rfl]
   exact this
  go_enter Tryz.func78,Tryz.ntmps78;go_wp2_with fail;generalize w.alloc (.cells (cs4 0 0 0 0) 25)=W0 at *;go_wp2_with fail;refine (planeAll_c _).mono ?_;rintro e W1 ⟨rfl,hb1⟩;have H1:=M (H0.o.call hb1);obtain ⟨r0,r1,r2,r3⟩:=(H1.o.box 0 rfl).c4;obtain ⟨f0,f1,f2,f3⟩:=(H1.o.box 0 rfl).f4;clear hb1;go_wp2_with fail;have H2:=H1.o.set4 0 rfl (J Z planeR.x0) (J Z planeR.y0) (J Z planeR.x1) (J Z planeR.y1);exact ret_rect rfl rfl (g:=w.heap.size) (r:=planeR) (H2.box 0 rfl) rfl ⟨rfl,H2.below⟩
theorem fsome_c (r:Rc) (w:World):Calls Tryz.prog 73 #[rv r] w (PPost w (rv (someR r))):=by
 obtain ⟨x0,y0,x1,y1⟩:=r;have H0:Hid (Bag w ((w.alloc (.cells (cs4 x0 y0 x1 y1) 25)).alloc (.cells (cs4 0 0 0 0) 25)) [(w.heap.size,cl4 ⟨x0,y0,x1,y1⟩),(w.heap.size+1,cl4 ⟨0,0,0,0⟩)]):=bag2 w (cl4 ⟨x0,y0,x1,y1⟩) (cl4 ⟨0,0,0,0⟩) _ _;obtain ⟨q,hq⟩:∃ q,q=someR ⟨x0,y0,x1,y1⟩:=⟨_,rfl⟩;have HJ:Hid (∀ W,Calls Tryz.prog 31 #[rv ⟨x0,y0,x1,y1⟩,rv ⟨0,0,0,0⟩] W (PPost W (rv q))):=fun W=>by rw [hq];exact join_c _ _ W
 rw [←hq];clear hq;go_enter Tryz.func73,Tryz.ntmps73;go_wp2_with fail;generalize ((w.alloc (.cells (cs4 x0 y0 x1 y1) 25)).alloc (.cells (cs4 0 0 0 0) 25))=W0 at *;obtain ⟨a0,a1,a2,a3⟩:=(H0.o.box 0 rfl).c4;go_wp2_with fail;refine (HJ.o _).mono ?_;rintro e W1 ⟨rfl,hb1⟩;have H1:=M (H0.o.call hb1);clear a0 a1 a2 a3 hb1;obtain ⟨r0,r1,r2,r3⟩:=(H1.o.box 1 rfl).c4;obtain ⟨f0,f1,f2,f3⟩:=(H1.o.box 1 rfl).f4;go_wp2_with fail;have H2:=H1.o.set4 1 rfl (J Z q.x0) (J Z q.y0) (J Z q.x1) (J Z q.y1);exact ret_rect (g:=w.heap.size+1) rfl rfl (r:=q) (H2.box 1 rfl) rfl ⟨rfl,H2.below⟩
def pxEq (a b:Px):Bool:=a.r==b.r&&(a.g==b.g&&(a.b==b.b&&a.a==b.a))
theorem pxEq_iff (a b:Px):pxEq a b=true↔a=b:=by
 obtain ⟨a0,a1,a2,a3⟩:=a;obtain ⟨b0,b1,b2,b3⟩:=b;simp [pxEq]
theorem eqPx (a b:Px) (w:World):(Op.equalIn 10000 27 (pxv a) (pxv b)).run Tryz.prog w=.ok (pxEq a b) w:=by
 obtain ⟨a0,a1,a2,a3⟩:=a;obtain ⟨b0,b1,b2,b3⟩:=b;obtain ⟨i,hi⟩:=info_of_underlying (P:=Tryz.prog) Tryz.underlying5;rw [show (10000:Nat)=9999+1 from rfl,run_equalIn_array w 9999 _ _ Tryz.underlying27 hi,cells_u8];have e:List.range 4=[0,1,2,3]:=rfl;rw [e];unfold pxEq
 cases e0:a0==b0<;>cases e1:a1==b1<;>cases e2:a2==b2<;>cases e3:a3==b3<;>simp [Op.eqItems,e0,e1,e2,e3,go_sem]
theorem eqlPx (a b:Px) (w:World):(binOp .eql 27 (pxv a) (pxv b)).run Tryz.prog w=.ok (.bool (pxEq a b)) w:=by
 rw [run_eql_struct,eqPx];rfl
theorem neqPx (a b:Px) (w:World):(binOp .neq 27 (pxv a) (pxv b)).run Tryz.prog w=.ok (.bool (!pxEq a b)) w:=by
 rw [run_neq_struct,eqPx];rfl
theorem ret_u {a b:Int} (h:a=b):Ending.returned (J O a)=.returned (J O b):=by rw [h]
def cutU (n:Int):Int:=max 0 (min n 255)
theorem cutU_byte (n:Int):Byte (cutU n):=by unfold Byte cutU;omega
theorem cutT_c (n:Int) (w:World):Calls Tryz.prog 134 #[J Z n] w (PPost w (J O (cutU n))):=by
 go_enter Tryz.func134,Tryz.ntmps134;go_wp2_with fail;go_ret;exact ⟨ret_u rfl,Below.refl _ _⟩
def mulU (a b:Int):Int:=(a*b+127)/255
theorem mul_le {a b:Int} (ha:Byte a) (hb:Byte b):0≤a*b∧a*b≤65025:=by
 obtain ⟨a0,a1⟩:=ha;obtain ⟨b0,b1⟩:=hb;have h1:=Int.mul_nonneg a0 b0;have h2:=Int.mul_le_mul a1 b1 b0 (by omega);omega
theorem mulU_byte {a b:Int} (ha:Byte a) (hb:Byte b):Byte (mulU a b):=by
 have:=mul_le ha hb;unfold Byte mulU;omega
theorem mulT_c (a b:Int) (w:World) (ha:Byte a) (hb:Byte b):Calls Tryz.prog 135 #[J O a,J O b] w (PPost w (J O (mulU a b))):=by
 have hm:=mul_le ha hb;have HM:Hid (Byte (mulU a b)):=mulU_byte ha hb;have HA:Hid (mulU a b=(a*b+127)/255):=rfl;obtain ⟨a0,a1⟩:=ha;obtain ⟨b0,b1⟩:=hb;obtain ⟨h1,h2⟩:=hm;go_enter Tryz.func135,Tryz.ntmps135;go_wp2_with fail;go_ret;exact ⟨ret_u HA.o.symm,Below.refl _ _⟩
theorem divz_c (a:Int) (w:World):Calls Tryz.prog 133 #[J O a,J O 0] w (PPost w (J O 0)):=by
 go_enter Tryz.func133,Tryz.ntmps133;go_wp2_with fail;go_ret;exact ⟨rfl,Below.refl _ _⟩
theorem ret_px {fn:Func} {q:Tmp} (h:fn.results=#[.cell q 27]) {a:Act} {W:World} {g:Nat} {p:Px} {R:Ending→World→Prop} (hp:a.tmps.getD q undef=.pointer (some ⟨g,0,none⟩)) (hx:Box W g (qU p.r p.g p.b p.a)) (hd:a.defers=[]) (hR:R (.returned (pxv p)) W):bodyPost Tryz.prog fn R .ret a W:=by
 obtain ⟨t,ht⟩:=hx;exact bodyPost_ret_by (results_cell_row h a.tmps W g t _ (0,0) _ hp ht Tryz.underlying27 rfl (by kernel_rfl)) hd hR
def thkP (p:Px):Px:=⟨mulU p.r p.a,mulU p.g p.a,mulU p.b p.a,p.a⟩
def thkJ (p:Px) (j:Nat):List Value:=(qU (if 0<j then mulU p.r p.a else p.r) (if 1<j then mulU p.g p.a else p.g) (if 2<j then mulU p.b p.a else p.b) p.a)
theorem thick_c (p:Px) (w:World) (hp:p.Ok):Calls Tryz.prog 128 #[pxv p] w (PPost w (pxv (thkP p))):=by
 have H0:Hid (Bag w ((w.alloc (.cells #[J O p.r,J O p.g,J O p.b,J O p.a] 27)).alloc (.cells #[J O 0,J O 0,J O 0,J O 0] 27)) [(w.heap.size,thkJ p 0),(w.heap.size+1,zU)]):=bag2 w (thkJ p 0) zU _ _;have HM0:Hid (∀ W,Calls Tryz.prog 135 #[J O p.r,J O p.a] W (PPost W (J O (mulU p.r p.a)))):=fun W=>mulT_c _ _ W hp.1 hp.2.2.2;have HM1:Hid (∀ W,Calls Tryz.prog 135 #[J O p.g,J O p.a] W (PPost W (J O (mulU p.g p.a)))):=fun W=>mulT_c _ _ W hp.2.1 hp.2.2.2;have HM2:Hid (∀ W,Calls Tryz.prog 135 #[J O p.b,J O p.a] W (PPost W (J O (mulU p.b p.a)))):=fun W=>mulT_c _ _ W hp.2.2.1 hp.2.2.2;clear hp;go_enter Tryz.func128,Tryz.ntmps128;go_wp2_with fail;generalize ((w.alloc (.cells #[J O p.r,J O p.g,J O p.b,J O p.a] 27)).alloc (.cells #[J O 0,J O 0,J O 0,J O 0] 27))=W0 at *;go_wp2_with fail;go_loopw [4] (fun jv wr=>∃ j:Nat,j≤3∧jv=J Z j∧Bag w wr [(w.heap.size,thkJ p j),(w.heap.size+1,zU)]) (fun jv _=>3-(intOf jv).toNat)
 case atStart=>exact ⟨0,by omega,rfl,H0.o⟩
 case round=>
  obtain ⟨j,hj,rfl,hr⟩:=hrel;have H1:=M hr;clear hr H0
  match j,hj with
  |0,_=>
   have a0:=H1.o.cell 0 rfl 0 rfl;have a3:=H1.o.cell 0 rfl 3 rfl;obtain ⟨k0,k1⟩:=kept2 a0 a3;clear a0 a3;go_wp2_with fail;refine wp_region_kept_last wr.heap.size 8 _ rfl rfl (by kernel_rfl) (by kernel_rfl) ?_;simp only [U,V]
   repeat (go_big_quiet_step (first|(go_at_call 135;with_reducible exact Calls.kept _ (I _) (HM0.o _))))
   refine wpQuiet_nil ?_;intro s;have H2:=M (H1.o.call s.below);have b0:=H2.o.cell 0 rfl 0 rfl;have f0:=H2.o.frozen 0 rfl 0;refine ⟨steps_plain rfl (gives_mono (R:=fun v w'=>v=undef∧w'=s.w.setCell ⟨w.heap.size,0,none⟩ (J O (mulU p.r p.a))) (by simp [gives,go_sem,b0,f0]) ?_)⟩;rintro _ _ ⟨rfl,rfl⟩;have H3:Hid (Bag w (s.w.setCell ⟨w.heap.size,0,none⟩ (J O (mulU p.r p.a))) [(w.heap.size,thkJ p 1),(w.heap.size+1,zU)]):=H2.o.set 0 rfl 0 _;clear k0 k1 b0 f0 H1 H2;go_wp2_with fail;go_roundw
   case rel=>exact ⟨1,by omega,by go_num,H3.o⟩
   case measure=>simp [intOf]
  |1,_=>
   have a0:=H1.o.cell 0 rfl 1 rfl;have a3:=H1.o.cell 0 rfl 3 rfl;obtain ⟨k0,k1⟩:=kept2 a0 a3;clear a0 a3;go_wp2_with fail;refine wp_region_kept_last wr.heap.size 8 _ rfl rfl (by kernel_rfl) (by kernel_rfl) ?_;simp only [U,V]
   repeat (go_big_quiet_step (first|(go_at_call 135;with_reducible exact Calls.kept _ (I _) (HM1.o _))))
   refine wpQuiet_nil ?_;intro s;have H2:=M (H1.o.call s.below);have b0:=H2.o.cell 0 rfl 1 rfl;have f0:=H2.o.frozen 0 rfl 1;refine ⟨steps_plain rfl (gives_mono (R:=fun v w'=>v=undef∧w'=s.w.setCell ⟨w.heap.size,1,none⟩ (J O (mulU p.g p.a))) (by simp [gives,go_sem,b0,f0]) ?_)⟩;rintro _ _ ⟨rfl,rfl⟩;have H3:Hid (Bag w (s.w.setCell ⟨w.heap.size,1,none⟩ (J O (mulU p.g p.a))) [(w.heap.size,thkJ p 2),(w.heap.size+1,zU)]):=H2.o.set 0 rfl 1 _;clear k0 k1 b0 f0 H1 H2;go_wp2_with fail;go_roundw
   case rel=>exact ⟨2,by omega,by go_num,H3.o⟩
   case measure=>simp [intOf]
  |2,_=>
   have a0:=H1.o.cell 0 rfl 2 rfl;have a3:=H1.o.cell 0 rfl 3 rfl;obtain ⟨k0,k1⟩:=kept2 a0 a3;clear a0 a3;go_wp2_with fail;refine wp_region_kept_last wr.heap.size 8 _ rfl rfl (by kernel_rfl) (by kernel_rfl) ?_;simp only [U,V]
   repeat (go_big_quiet_step (first|(go_at_call 135;with_reducible exact Calls.kept _ (I _) (HM2.o _))))
   refine wpQuiet_nil ?_;intro s;have H2:=M (H1.o.call s.below);have b0:=H2.o.cell 0 rfl 2 rfl;have f0:=H2.o.frozen 0 rfl 2;refine ⟨steps_plain rfl (gives_mono (R:=fun v w'=>v=undef∧w'=s.w.setCell ⟨w.heap.size,2,none⟩ (J O (mulU p.b p.a))) (by simp [gives,go_sem,b0,f0]) ?_)⟩;rintro _ _ ⟨rfl,rfl⟩;have H3:Hid (Bag w (s.w.setCell ⟨w.heap.size,2,none⟩ (J O (mulU p.b p.a))) [(w.heap.size,thkJ p 3),(w.heap.size+1,zU)]):=H2.o.set 0 rfl 2 _;clear k0 k1 b0 f0 H1 H2;go_wp2_with fail;go_roundw
   case rel=>exact ⟨3,by omega,by go_num,H3.o⟩
   case measure=>simp [intOf]
  |3,_=>
   obtain ⟨a0,a1,a2,a3⟩:=(H1.o.box 0 rfl).c4;obtain ⟨r0,r1,r2,r3⟩:=(H1.o.box 1 rfl).c4;obtain ⟨f0,f1,f2,f3⟩:=(H1.o.box 1 rfl).f4;go_wp2_with fail;have H2:=H1.o.set4 1 rfl (J O (mulU p.r p.a)) (J O (mulU p.g p.a)) (J O (mulU p.b p.a)) (J O p.a);exact ret_px (g:=w.heap.size+1) (p:=thkP p) rfl rfl (H2.box 1 rfl) rfl ⟨rfl,H2.below⟩
  |j+4,hj=>omega
def plnP (p:Px):Px:=⟨0,0,0,p.a⟩
def plnJ (p:Px) (j:Nat):List Value:=(qU (if 0<j then 0 else p.r) (if 1<j then 0 else p.g) (if 2<j then 0 else p.b) p.a)
theorem plain_c (p:Px) (w:World) (ha:p.a=0):Calls Tryz.prog 126 #[pxv p] w (PPost w (pxv (plnP p))):=by
 have H0:Hid (Bag w ((w.alloc (.cells #[J O p.r,J O p.g,J O p.b,J O p.a] 27)).alloc (.cells #[J O 0,J O 0,J O 0,J O 0] 27)) [(w.heap.size,plnJ p 0),(w.heap.size+1,zU)]):=bag2 w (plnJ p 0) zU _ _;have HM0:Hid (∀ W,Calls Tryz.prog 133 #[J O p.r,J O p.a] W (PPost W (J O 0))):=fun W=>by rw [ha];exact divz_c _ W
 have HM1:Hid (∀ W,Calls Tryz.prog 133 #[J O p.g,J O p.a] W (PPost W (J O 0))):=fun W=>by rw [ha];exact divz_c _ W
 have HM2:Hid (∀ W,Calls Tryz.prog 133 #[J O p.b,J O p.a] W (PPost W (J O 0))):=fun W=>by rw [ha];exact divz_c _ W
 clear ha;go_enter Tryz.func126,Tryz.ntmps126;go_wp2_with fail;generalize ((w.alloc (.cells #[J O p.r,J O p.g,J O p.b,J O p.a] 27)).alloc (.cells #[J O 0,J O 0,J O 0,J O 0] 27))=W0 at *;go_wp2_with fail;go_loopw [4] (fun jv wr=>∃ j:Nat,j≤3∧jv=J Z j∧Bag w wr [(w.heap.size,plnJ p j),(w.heap.size+1,zU)]) (fun jv _=>3-(intOf jv).toNat)
 case atStart=>exact ⟨0,by omega,rfl,H0.o⟩
 case round=>
  obtain ⟨j,hj,rfl,hr⟩:=hrel;have H1:=M hr;clear hr H0
  match j,hj with
  |0,_=>
   have a0:=H1.o.cell 0 rfl 0 rfl;have a3:=H1.o.cell 0 rfl 3 rfl;obtain ⟨k0,k1⟩:=kept2 a0 a3;clear a0 a3;go_wp2_with fail;refine wp_region_kept_last wr.heap.size 8 _ rfl rfl (by kernel_rfl) (by kernel_rfl) ?_;simp only [U,V]
   repeat (go_big_quiet_step (first|(go_at_call 133;with_reducible exact Calls.kept _ (I _) (HM0.o _))))
   refine wpQuiet_nil ?_;intro s;have H2:=M (H1.o.call s.below);have b0:=H2.o.cell 0 rfl 0 rfl;have f0:=H2.o.frozen 0 rfl 0;refine ⟨steps_plain rfl (gives_mono (R:=fun v w'=>v=undef∧w'=s.w.setCell ⟨w.heap.size,0,none⟩ (J O (0))) (by simp [gives,go_sem,b0,f0]) ?_)⟩;rintro _ _ ⟨rfl,rfl⟩;have H3:Hid (Bag w (s.w.setCell ⟨w.heap.size,0,none⟩ (J O (0))) [(w.heap.size,plnJ p 1),(w.heap.size+1,zU)]):=H2.o.set 0 rfl 0 _;clear k0 k1 b0 f0 H1 H2;go_wp2_with fail;go_roundw
   case rel=>exact ⟨1,by omega,by go_num,H3.o⟩
   case measure=>simp [intOf]
  |1,_=>
   have a0:=H1.o.cell 0 rfl 1 rfl;have a3:=H1.o.cell 0 rfl 3 rfl;obtain ⟨k0,k1⟩:=kept2 a0 a3;clear a0 a3;go_wp2_with fail;refine wp_region_kept_last wr.heap.size 8 _ rfl rfl (by kernel_rfl) (by kernel_rfl) ?_;simp only [U,V]
   repeat (go_big_quiet_step (first|(go_at_call 133;with_reducible exact Calls.kept _ (I _) (HM1.o _))))
   refine wpQuiet_nil ?_;intro s;have H2:=M (H1.o.call s.below);have b0:=H2.o.cell 0 rfl 1 rfl;have f0:=H2.o.frozen 0 rfl 1;refine ⟨steps_plain rfl (gives_mono (R:=fun v w'=>v=undef∧w'=s.w.setCell ⟨w.heap.size,1,none⟩ (J O (0))) (by simp [gives,go_sem,b0,f0]) ?_)⟩;rintro _ _ ⟨rfl,rfl⟩;have H3:Hid (Bag w (s.w.setCell ⟨w.heap.size,1,none⟩ (J O (0))) [(w.heap.size,plnJ p 2),(w.heap.size+1,zU)]):=H2.o.set 0 rfl 1 _;clear k0 k1 b0 f0 H1 H2;go_wp2_with fail;go_roundw
   case rel=>exact ⟨2,by omega,by go_num,H3.o⟩
   case measure=>simp [intOf]
  |2,_=>
   have a0:=H1.o.cell 0 rfl 2 rfl;have a3:=H1.o.cell 0 rfl 3 rfl;obtain ⟨k0,k1⟩:=kept2 a0 a3;clear a0 a3;go_wp2_with fail;refine wp_region_kept_last wr.heap.size 8 _ rfl rfl (by kernel_rfl) (by kernel_rfl) ?_;simp only [U,V]
   repeat (go_big_quiet_step (first|(go_at_call 133;with_reducible exact Calls.kept _ (I _) (HM2.o _))))
   refine wpQuiet_nil ?_;intro s;have H2:=M (H1.o.call s.below);have b0:=H2.o.cell 0 rfl 2 rfl;have f0:=H2.o.frozen 0 rfl 2;refine ⟨steps_plain rfl (gives_mono (R:=fun v w'=>v=undef∧w'=s.w.setCell ⟨w.heap.size,2,none⟩ (J O (0))) (by simp [gives,go_sem,b0,f0]) ?_)⟩;rintro _ _ ⟨rfl,rfl⟩;have H3:Hid (Bag w (s.w.setCell ⟨w.heap.size,2,none⟩ (J O (0))) [(w.heap.size,plnJ p 3),(w.heap.size+1,zU)]):=H2.o.set 0 rfl 2 _;clear k0 k1 b0 f0 H1 H2;go_wp2_with fail;go_roundw
   case rel=>exact ⟨3,by omega,by go_num,H3.o⟩
   case measure=>simp [intOf]
  |3,_=>
   obtain ⟨a0,a1,a2,a3⟩:=(H1.o.box 0 rfl).c4;obtain ⟨r0,r1,r2,r3⟩:=(H1.o.box 1 rfl).c4;obtain ⟨f0,f1,f2,f3⟩:=(H1.o.box 1 rfl).f4;go_wp2_with fail;have H2:=H1.o.set4 1 rfl (J O (0)) (J O (0)) (J O (0)) (J O p.a);exact ret_px (g:=w.heap.size+1) (p:=plnP p) rfl rfl (H2.box 1 rfl) rfl ⟨rfl,H2.below⟩
  |j+4,hj=>omega
theorem row0_c (b o c:Nat) (x:Nat→Int) (w:World) (h:∀ j,j<5→w.cell? ⟨b,o+j,none⟩=some (J Z (x j))) (hx:∀ j,j<5 → -32768≤x j∧x j≤32767) (hc:5≤c) (hcm:c≤maxLen):
  Calls Tryz.prog 127 #[.slice (some ⟨b,o,none⟩) 5 c,.agg #[J O 0,J O 0,J O 0,J O 0]] w (PPost w (J O (cutU ((255*x 4+128)/256)))):=by
 unfold maxLen at hcm;have H0:Hid (Bag w (w.alloc (.cells #[J O 0,J O 0,J O 0,J O 0] 27)) [(w.heap.size,zU)]):=bag1 w zU _;have HC:Hid (∀ j,j<5→(w.alloc (.cells #[J O 0,J O 0,J O 0,J O 0] 27)).cell? ⟨b,o+j,none⟩=some (J Z (x j))):=fun j hj=>cell_alloc_lt (h j hj) _;have HX:Hid (∀ j,j<5 → -32768≤x j∧x j≤32767):=hx;obtain ⟨b4,b5⟩:=hx 4 (by omega);obtain ⟨y,hy⟩:∃ y,y=x 4:=⟨_,rfl⟩;have HY:=M hy;rw [←hy] at b4 b5 ⊢;clear h hx hy;go_enter Tryz.func127,Tryz.ntmps127;have c4:(w.alloc (.cells #[J O 0,J O 0,J O 0,J O 0] 27)).cell? ⟨b,o+4,none⟩=some (J Z y):=by rw [HY.o];exact HC.o 4 (by omega)
 go_wp2_with fail;clear c4;generalize w.alloc (.cells #[J O 0,J O 0,J O 0,J O 0] 27)=W0 at *
 go_loop [5,14] (fun nv jv=>∃ j:Nat,j≤4∧jv=J Z j∧nv=J Z (255*y+128)) (fun _ jv=>4-(intOf jv).toNat)
 case atStart=>exact ⟨0,by omega,rfl,rfl⟩
 case round=>
  obtain ⟨j,hj,rfl,rfl⟩:=hrel
  match j,hj with
  |0,_=>
   obtain ⟨z,hz⟩:∃ z,z=x 0:=⟨_,rfl⟩;have c0:W0.cell? ⟨b,o,none⟩=some (J Z z):=by rw [hz];exact HC.o 0 (by omega)
   have i0:∀ w,(Instr.index 27 (.agg #[J O 0,J O 0,J O 0,J O 0]) (J Z 0)).run Tryz.prog w=.ok (J O 0) w:=fun _=>by kernel_rfl
   clear hz;go_wp2_with fail
   go_round
   case rel=>exact ⟨1,by omega,by go_num,by go_num⟩
   case measure=>simp [intOf]
  |1,_=>
   obtain ⟨z,hz⟩:∃ z,z=x 1:=⟨_,rfl⟩;have c0:W0.cell? ⟨b,o+1,none⟩=some (J Z z):=by rw [hz];exact HC.o 1 (by omega)
   have i0:∀ w,(Instr.index 27 (.agg #[J O 0,J O 0,J O 0,J O 0]) (J Z 1)).run Tryz.prog w=.ok (J O 0) w:=fun _=>by kernel_rfl
   clear hz;go_wp2_with fail
   go_round
   case rel=>exact ⟨2,by omega,by go_num,by go_num⟩
   case measure=>simp [intOf]
  |2,_=>
   obtain ⟨z,hz⟩:∃ z,z=x 2:=⟨_,rfl⟩;have c0:W0.cell? ⟨b,o+2,none⟩=some (J Z z):=by rw [hz];exact HC.o 2 (by omega)
   have i0:∀ w,(Instr.index 27 (.agg #[J O 0,J O 0,J O 0,J O 0]) (J Z 2)).run Tryz.prog w=.ok (J O 0) w:=fun _=>by kernel_rfl
   clear hz;go_wp2_with fail
   go_round
   case rel=>exact ⟨3,by omega,by go_num,by go_num⟩
   case measure=>simp [intOf]
  |3,_=>
   obtain ⟨z,hz⟩:∃ z,z=x 3:=⟨_,rfl⟩;have c0:W0.cell? ⟨b,o+3,none⟩=some (J Z z):=by rw [hz];exact HC.o 3 (by omega)
   have i0:∀ w,(Instr.index 27 (.agg #[J O 0,J O 0,J O 0,J O 0]) (J Z 3)).run Tryz.prog w=.ok (J O 0) w:=fun _=>by kernel_rfl
   clear hz;go_wp2_with fail
   go_round
   case rel=>exact ⟨4,by omega,by go_num,by go_num⟩
   case measure=>simp [intOf]
  |4,_=>
   have HT:Hid (Below w.heap.size w W0):=H0.o.below;go_wp2_with fail;refine (cutT_c _ W0).mono ?_;rintro e W1 ⟨rfl,hb1⟩;have HB:Hid (Below w.heap.size w W1):=HT.o.trans (hb1.mono HT.o.size);clear hb1;go_wp2_with fail;go_ret;exact ⟨rfl,HB.o⟩
  |j+5,hj=>omega
def rowO (xs:List Int) (k:Nat):Int:=cutU ((255*xs.getD (5*k+4) 0+128)/256)
def rowsP (xs:List Int) (j:Nat):List Value:=(qU (if 0<j then rowO xs 0 else 0) (if 1<j then rowO xs 1 else 0) (if 2<j then rowO xs 2 else 0) (if 3<j then rowO xs 3 else 0))
def pixZ (xs:List Int):Px:=thkP ⟨rowO xs 0,rowO xs 1,rowO xs 2,rowO xs 3⟩
theorem pixZ_calm (xs:List Int):pxEq (pixZ xs) Px.zero=calmB xs:=by
 have h3:(pixZ xs).a=rowO xs 3:=rfl;rw [Bool.eq_iff_iff,pxEq_iff];unfold calmB;rw [decide_eq_true_iff];constructor
 ·intro h;rw [h] at h3;have h4:(0:Int)=cutU ((255*xs.getD 19 0+128)/256):=h3;unfold cutU at h4;omega
 ·intro h;have h4:rowO xs 3=0:=by
   show cutU ((255*xs.getD 19 0+128)/256)=0;unfold cutU;omega
  unfold pixZ thkP;rw [h4];simp [mulU,Px.zero]
theorem pixel0_t (b o c:Nat) (xs:List Int) (w:World) (h:∀ j,j<20→w.cell? ⟨b,o+j,none⟩=some (J Z (xs.getD j 0))) (hx:∀ j,j<20 → -32768≤xs.getD j 0∧xs.getD j 0≤32767) (hc:20≤c) (hcm:c≤maxLen):
  Calls Tryz.prog 113 #[.slice (some ⟨b,o,none⟩) 20 c,.agg #[J O 0,J O 0,J O 0,J O 0]] w (PPost w (pxv (pixZ xs))):=by
 have H0:Hid (Bag w ((w.alloc (.cells #[J O 0,J O 0,J O 0,J O 0] 27)).alloc (.cells #[J O 0,J O 0,J O 0,J O 0] 27)) [(w.heap.size,zU),(w.heap.size+1,zU)]):=bag2 w zU zU _ _;have HR:Hid (∀ W k,Below w.heap.size w W→k<4→Calls Tryz.prog 127 #[.slice (some ⟨b,o+5*k,none⟩) 5 (c-5*k),.agg #[J O 0,J O 0,J O 0,J O 0]] W (PPost W (J O (rowO xs k)))):=fun W k hb hk=>by
  refine row0_c b (o+5*k) (c-5*k) (fun j=>xs.getD (5*k+j) 0) W (fun j hj=>?_) (fun j hj=>hx _ (by omega)) (by omega) (by unfold maxLen at hcm ⊢;omega);have h1:=h (5*k+j) (by omega);rw [show o+5*k+j=o+(5*k+j) by omega,hb.cell (lt_of_cell h1)];exact h1
 unfold maxLen at hcm;have hc0:¬c=0:=by omega
 have hc5:¬c=5:=by omega
 have hc10:¬c=10:=by omega
 have hc15:¬c=15:=by omega
 have g1:5≤c:=by omega
 have g2:10≤c:=by omega
 have g3:15≤c:=by omega
 have HTK:Hid (Px.Ok ⟨rowO xs 0,rowO xs 1,rowO xs 2,rowO xs 3⟩):=⟨cutU_byte _,cutU_byte _,cutU_byte _,cutU_byte _⟩;obtain ⟨R,hR⟩:∃ R,R=pixZ xs:=⟨_,rfl⟩;have HRR:Hid (R=thkP ⟨rowO xs 0,rowO xs 1,rowO xs 2,rowO xs 3⟩):=by
  have:=hR;unfold pixZ at this;exact this
 rw [←hR];clear h hx hR;go_enter Tryz.func113,Tryz.ntmps113;go_wp2_with fail;generalize ((w.alloc (.cells #[J O 0,J O 0,J O 0,J O 0] 27)).alloc (.cells #[J O 0,J O 0,J O 0,J O 0] 27))=W0 at *;obtain ⟨p0,p1,p2,p3⟩:=(H0.o.box 0 rfl).c4;go_wp2_with fail;have HP:Hid (∀ W,Calls Tryz.prog 126 #[.agg #[J O 0,J O 0,J O 0,J O 0]] W (PPost W (.agg #[J O 0,J O 0,J O 0,J O 0]))):=fun W=>plain_c Px.zero W rfl;refine (HP.o W0).mono ?_;rintro e W1 ⟨rfl,hb1⟩;have H1:=M (H0.o.call hb1);have H2:Hid (Bag w ((W1.alloc (.cells #[J O 0,J O 0,J O 0,J O 0] 27)).alloc (.cells #[J O 0,J O 0,J O 0,J O 0] 27)) [(w.heap.size,zU),(w.heap.size+1,zU),(W1.heap.size,zU),(W1.heap.size+1,rowsP xs 0)]):=by
  have h:=((H1.o.alloc zU 27).alloc (rowsP xs 0) 27);simp only [size_alloc,List.cons_append,List.nil_append] at h;exact h
 clear p0 p1 p2 p3 hb1 H0 H1 HP;go_wp2_with fail;generalize ((W1.alloc (.cells #[J O 0,J O 0,J O 0,J O 0] 27)).alloc (.cells #[J O 0,J O 0,J O 0,J O 0] 27))=W2 at *;go_wp2_with fail;go_loopw [10] (fun jv wr=>∃ j:Nat,j≤4∧jv=J Z j∧Bag w wr [(w.heap.size,zU),(w.heap.size+1,zU),(W1.heap.size,zU),(W1.heap.size+1,rowsP xs j)]) (fun jv _=>4-(intOf jv).toNat)
 case atStart=>exact ⟨0,by omega,rfl,H2.o⟩
 case round=>
  obtain ⟨j,hj,rfl,hr⟩:=hrel;have H3:=M hr;clear hr H2
  match j,hj with
  |0,_=>
   obtain ⟨a0,a1,a2,a3⟩:=(H3.o.box 2 rfl).c4;obtain ⟨k0,k1,k2,k3⟩:=kept4 a0 a1 a2 a3;obtain ⟨z,hz⟩:∃ z,z=rowO xs 0:=⟨_,rfl⟩;have HC:Hid (∀ s:Kept wr.heap.size wr,Calls Tryz.prog 127 #[.slice (some ⟨b,o,none⟩) 5 (c),.agg #[J O 0,J O 0,J O 0,J O 0]] s.w (PPost s.w (J O z))):=fun s=>by rw [hz];exact HR.o s.w 0 (H3.o.below.trans (s.below.mono H3.o.below.size)) (by omega)
   have HZ:=M hz;clear a0 a1 a2 a3 hz;go_wp2_with fail;refine wp_region_kept_last wr.heap.size 11 _ rfl rfl (by kernel_rfl) (by kernel_rfl) ?_;simp only [U,V]
   repeat (go_big_quiet_step (first|(go_at_call 127;with_reducible exact Calls.kept _ (I _) (HC.o _))))
   refine wpQuiet_nil ?_;intro s;have H4:=M (H3.o.call s.below);have b0:=H4.o.cell 3 rfl 0 rfl;have f0:=H4.o.frozen 3 rfl 0;refine ⟨steps_plain rfl (gives_mono (R:=fun v w'=>v=undef∧w'=s.w.setCell ⟨W1.heap.size+1,0,none⟩ (J O z)) (by simp [gives,go_sem,b0,f0]) ?_)⟩;rintro _ _ ⟨rfl,rfl⟩;have H5:Hid (Bag w (s.w.setCell ⟨W1.heap.size+1,0,none⟩ (J O z)) [(w.heap.size,zU),(w.heap.size+1,zU),(W1.heap.size,zU),(W1.heap.size+1,rowsP xs 1)]):=by rw [HZ.o];exact H4.o.set 3 rfl 0 _
   clear k0 k1 k2 k3 b0 f0 H3 H4 HC HZ;go_wp2_with fail;go_roundw
   case rel=>exact ⟨1,by omega,by go_num,H5.o⟩
   case measure=>simp [intOf]
  |1,_=>
   obtain ⟨a0,a1,a2,a3⟩:=(H3.o.box 2 rfl).c4;obtain ⟨k0,k1,k2,k3⟩:=kept4 a0 a1 a2 a3;obtain ⟨z,hz⟩:∃ z,z=rowO xs 1:=⟨_,rfl⟩;have HC:Hid (∀ s:Kept wr.heap.size wr,Calls Tryz.prog 127 #[.slice (some ⟨b,o+5,none⟩) 5 (c-5),.agg #[J O 0,J O 0,J O 0,J O 0]] s.w (PPost s.w (J O z))):=fun s=>by rw [hz];exact HR.o s.w 1 (H3.o.below.trans (s.below.mono H3.o.below.size)) (by omega)
   have HZ:=M hz;clear a0 a1 a2 a3 hz;go_wp2_with fail;refine wp_region_kept_last wr.heap.size 11 _ rfl rfl (by kernel_rfl) (by kernel_rfl) ?_;simp only [U,V]
   repeat (go_big_quiet_step (first|(go_at_call 127;with_reducible exact Calls.kept _ (I _) (HC.o _))))
   refine wpQuiet_nil ?_;intro s;have H4:=M (H3.o.call s.below);have b0:=H4.o.cell 3 rfl 1 rfl;have f0:=H4.o.frozen 3 rfl 1;refine ⟨steps_plain rfl (gives_mono (R:=fun v w'=>v=undef∧w'=s.w.setCell ⟨W1.heap.size+1,1,none⟩ (J O z)) (by simp [gives,go_sem,b0,f0]) ?_)⟩;rintro _ _ ⟨rfl,rfl⟩;have H5:Hid (Bag w (s.w.setCell ⟨W1.heap.size+1,1,none⟩ (J O z)) [(w.heap.size,zU),(w.heap.size+1,zU),(W1.heap.size,zU),(W1.heap.size+1,rowsP xs 2)]):=by rw [HZ.o];exact H4.o.set 3 rfl 1 _
   clear k0 k1 k2 k3 b0 f0 H3 H4 HC HZ;go_wp2_with fail;go_roundw
   case rel=>exact ⟨2,by omega,by go_num,H5.o⟩
   case measure=>simp [intOf]
  |2,_=>
   obtain ⟨a0,a1,a2,a3⟩:=(H3.o.box 2 rfl).c4;obtain ⟨k0,k1,k2,k3⟩:=kept4 a0 a1 a2 a3;obtain ⟨z,hz⟩:∃ z,z=rowO xs 2:=⟨_,rfl⟩;have HC:Hid (∀ s:Kept wr.heap.size wr,Calls Tryz.prog 127 #[.slice (some ⟨b,o+10,none⟩) 5 (c-10),.agg #[J O 0,J O 0,J O 0,J O 0]] s.w (PPost s.w (J O z))):=fun s=>by rw [hz];exact HR.o s.w 2 (H3.o.below.trans (s.below.mono H3.o.below.size)) (by omega)
   have HZ:=M hz;clear a0 a1 a2 a3 hz;go_wp2_with fail;refine wp_region_kept_last wr.heap.size 11 _ rfl rfl (by kernel_rfl) (by kernel_rfl) ?_;simp only [U,V]
   repeat (go_big_quiet_step (first|(go_at_call 127;with_reducible exact Calls.kept _ (I _) (HC.o _))))
   refine wpQuiet_nil ?_;intro s;have H4:=M (H3.o.call s.below);have b0:=H4.o.cell 3 rfl 2 rfl;have f0:=H4.o.frozen 3 rfl 2;refine ⟨steps_plain rfl (gives_mono (R:=fun v w'=>v=undef∧w'=s.w.setCell ⟨W1.heap.size+1,2,none⟩ (J O z)) (by simp [gives,go_sem,b0,f0]) ?_)⟩;rintro _ _ ⟨rfl,rfl⟩;have H5:Hid (Bag w (s.w.setCell ⟨W1.heap.size+1,2,none⟩ (J O z)) [(w.heap.size,zU),(w.heap.size+1,zU),(W1.heap.size,zU),(W1.heap.size+1,rowsP xs 3)]):=by rw [HZ.o];exact H4.o.set 3 rfl 2 _
   clear k0 k1 k2 k3 b0 f0 H3 H4 HC HZ;go_wp2_with fail;go_roundw
   case rel=>exact ⟨3,by omega,by go_num,H5.o⟩
   case measure=>simp [intOf]
  |3,_=>
   obtain ⟨a0,a1,a2,a3⟩:=(H3.o.box 2 rfl).c4;obtain ⟨k0,k1,k2,k3⟩:=kept4 a0 a1 a2 a3;obtain ⟨z,hz⟩:∃ z,z=rowO xs 3:=⟨_,rfl⟩;have HC:Hid (∀ s:Kept wr.heap.size wr,Calls Tryz.prog 127 #[.slice (some ⟨b,o+15,none⟩) 5 (c-15),.agg #[J O 0,J O 0,J O 0,J O 0]] s.w (PPost s.w (J O z))):=fun s=>by rw [hz];exact HR.o s.w 3 (H3.o.below.trans (s.below.mono H3.o.below.size)) (by omega)
   have HZ:=M hz;clear a0 a1 a2 a3 hz;go_wp2_with fail;refine wp_region_kept_last wr.heap.size 11 _ rfl rfl (by kernel_rfl) (by kernel_rfl) ?_;simp only [U,V]
   repeat (go_big_quiet_step (first|(go_at_call 127;with_reducible exact Calls.kept _ (I _) (HC.o _))))
   refine wpQuiet_nil ?_;intro s;have H4:=M (H3.o.call s.below);have b0:=H4.o.cell 3 rfl 3 rfl;have f0:=H4.o.frozen 3 rfl 3;refine ⟨steps_plain rfl (gives_mono (R:=fun v w'=>v=undef∧w'=s.w.setCell ⟨W1.heap.size+1,3,none⟩ (J O z)) (by simp [gives,go_sem,b0,f0]) ?_)⟩;rintro _ _ ⟨rfl,rfl⟩;have H5:Hid (Bag w (s.w.setCell ⟨W1.heap.size+1,3,none⟩ (J O z)) [(w.heap.size,zU),(w.heap.size+1,zU),(W1.heap.size,zU),(W1.heap.size+1,rowsP xs 4)]):=by rw [HZ.o];exact H4.o.set 3 rfl 3 _
   clear k0 k1 k2 k3 b0 f0 H3 H4 HC HZ;go_wp2_with fail;go_roundw
   case rel=>exact ⟨4,by omega,by go_num,H5.o⟩
   case measure=>simp [intOf]
  |4,_=>
   obtain ⟨z0,hz0⟩:∃ z,z=rowO xs 0:=⟨_,rfl⟩;obtain ⟨z1,hz1⟩:∃ z,z=rowO xs 1:=⟨_,rfl⟩;obtain ⟨z2,hz2⟩:∃ z,z=rowO xs 2:=⟨_,rfl⟩;obtain ⟨z3,hz3⟩:∃ z,z=rowO xs 3:=⟨_,rfl⟩;have HT:Hid (∀ W,Calls Tryz.prog 128 #[.agg #[J O z0,J O z1,J O z2,J O z3]] W (PPost W (pxv R))):=fun W=>by
    rw [HRR.o,hz0,hz1,hz2,hz3];exact thick_c ⟨rowO xs 0,rowO xs 1,rowO xs 2,rowO xs 3⟩ W HTK.o
   have a0:wr.cell? ⟨W1.heap.size+1,0,none⟩=some (J O z0):=by rw [hz0];exact H3.o.cell 3 rfl 0 rfl
   have a1:wr.cell? ⟨W1.heap.size+1,1,none⟩=some (J O z1):=by rw [hz1];exact H3.o.cell 3 rfl 1 rfl
   have a2:wr.cell? ⟨W1.heap.size+1,2,none⟩=some (J O z2):=by rw [hz2];exact H3.o.cell 3 rfl 2 rfl
   have a3:wr.cell? ⟨W1.heap.size+1,3,none⟩=some (J O z3):=by rw [hz3];exact H3.o.cell 3 rfl 3 rfl
   clear hz0 hz1 hz2 hz3;go_wp2_with fail;refine (HT.o wr).mono ?_;rintro e W3 ⟨rfl,hb3⟩;have H4:Hid (Bag w W3 [(w.heap.size,zU),(w.heap.size+1,zU)]):=(H3.o.call hb3).take (List.Sublist.cons_cons _ (List.Sublist.cons_cons _ (List.nil_sublist _)));clear a0 a1 a2 a3 hb3 H3;obtain ⟨r0,r1,r2,r3⟩:=(H4.o.box 1 rfl).c4;obtain ⟨f0,f1,f2,f3⟩:=(H4.o.box 1 rfl).f4;go_wp2_with fail;have H5:=H4.o.set4 1 rfl (J O R.r) (J O R.g) (J O R.b) (J O R.a);exact ret_px (g:=w.heap.size+1) (p:=R) rfl rfl (H5.box 1 rfl) rfl ⟨rfl,H5.below⟩
  |j+5,hj=>omega
theorem calm_c {F:Nat→Prop} (pv:Value) (p:List Int) (w:World) (hp:SlOf RInt 1 F w pv p) (hl:p.length=20) (hx:∀ j,j<20 → -32768≤p.getD j 0∧p.getD j 0≤32767):
  Calls Tryz.prog 74 #[pv] w (PPost w (.bool (calmB p))):=by
 obtain ⟨b,o,c,rfl,hFb,hc,hcap,hcm⟩:=sl_cells hp (by omega);rw [hl] at hc hcap ⊢;have HP:Hid (∀ W,Below w.heap.size w W→Calls Tryz.prog 113 #[.slice (some ⟨b,o,none⟩) 20 c,.agg #[J O 0,J O 0,J O 0,J O 0]] W (PPost W (pxv (pixZ p)))):=fun W hb=>
  pixel0_t b o c p W (fun j hj=>by rw [hb.cell (lt_of_cell (hc j hj))];exact hc j hj) hx hcap hcm
 have HE:Hid (∀ W,(binOp .eql 27 (pxv (pixZ p)) (.agg #[J O 0,J O 0,J O 0,J O 0])).run Tryz.prog W=.ok (.bool (calmB p)) W):=fun W=>by
  have h:=eqlPx (pixZ p) Px.zero W;rw [pixZ_calm] at h;exact h
 obtain ⟨z,hz⟩:∃ z,z=pixZ p:=⟨_,rfl⟩;obtain ⟨q,hq⟩:∃ q,q=calmB p:=⟨_,rfl⟩;rw [←hz] at HP HE;rw [←hq] at HE ⊢;clear hz hq hc hx hp hl;unfold maxLen at hcm;have hE:=HE.o;go_enter Tryz.func74,Tryz.ntmps74;go_wp2_with fail;refine (HP.o w (Below.refl _ _)).mono ?_;rintro e W1 ⟨rfl,hb1⟩;go_wp2_with fail;go_ret;exact ⟨rfl,hb1⟩
end Go.Proofs.YtgodhpampaleeaaGreatDoor
