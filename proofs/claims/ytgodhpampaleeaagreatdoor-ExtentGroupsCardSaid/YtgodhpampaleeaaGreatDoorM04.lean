/- Texts joined: Ac. -/
import Derived.Test.YtgodhpampaleeaaGreatDoorM03
import Derived.Test.YtgodhpampaleeaaGreatDoorM01
import Derived.ArgAppend
import Derived.Deep.Upon
import Derived.Deep.AppendLies
import Derived.Test.YtgodhpampaleeaaGreatDoorRows
import Derived.BigQuiet
import Derived.Deep.QuietTactic
import Derived.Deep.RegionWith
import Derived.WalkKit
import Derived.Deep.DrawnRows
import Derived.Laws.OwnMore
import Derived.OneCell
import Derived.Deep.RegionLaw
import Derived.Test.YtgodhpampaleeaaGreatDoorM02
open Go.Value renaming int→Y,slice→O
open Go.IntKind renaming i64→J,u8→Z
open Nat renaming le_refl→U,lt_of_lt_of_le→V
open List renaming getElem?_eq_some_iff→E,range→L,all_eq_true→K
open Bool renaming and_eq_true→N
set_option maxRecDepth 4000
set_option maxHeartbeats 3200000
set_option linter.unusedVariables false
namespace Go.Proofs.YtgodhpampaleeaaGreatDoor
open Go.Od
theorem sweep_round {Q:(Nat→Bool)→Prop} {n t:Nat} {S0 S:Nat→Bool} (hP:Q S0∨cntF n S0+t≤n) (hb:∀ r,S r=true→r<n) (mono:∀ r,S0 r=true→S r=true) (keep:Q S0→S=S0) (fin:S=S0→Q S0):Q S∨cntF n S+(t+1)≤n:=by
 by_cases e:S=S0
 ·rw [e];exact .inl (fin e)
 ·rcases hP with h|h
  ·exact absurd (keep h) e
  ·right;have hex:∃ r,S r=true∧S0 r=false:=by
    refine Classical.byContradiction fun hn=>e (funext fun r=>?_);cases h0:S0 r with
    |true=>exact mono r h0
    |false=>
     cases h1:S r with
     |false=>rfl
     |true=>exact absurd ⟨r,h1,h0⟩ hn
   obtain ⟨r,h1,h0⟩:=hex;have hr:=hb r h1;have h2:cntF n S+1≤cntF n S0:=by
    have h3:=cntF_set (n:=n) (S:=S0) hr h0;have h4:cntF n S≤cntF n (fun i=>if i=r then true else S0 i):=by
     unfold cntF;rw [←List.countP_eq_length_filter,←List.countP_eq_length_filter];refine List.countP_mono_left fun x _ hx=>?_;simp only [Bool.not_eq_true'] at hx ⊢;by_cases e:x=r
     ·subst e;rw [h1] at hx;cases hx
     ·rw [if_neg e];cases h5:S0 x with
      |false=>rfl
      |true=>rw [mono x h5] at hx;cases hx
    omega
   omega
theorem cntF_zero {n:Nat} {S:Nat→Bool} (h:cntF n S=0):∀ r,r<n→S r=true:=by
 intro r hr;unfold cntF at h;rw [List.length_eq_zero_iff,List.filter_eq_nil_iff] at h;have:=h r (List.mem_range.2 hr)
 simpa using this
theorem cntF_le (n:Nat) (S:Nat→Bool):cntF n S≤n:=by
 have:=List.length_filter_le (fun i=>!S i) (L n)
 simpa [cntF] using this
theorem mark_eq {S0 S:Nat→Bool} {x:Nat} {b:Bool} (mono:∀ r,S0 r=true→S r=true) (e:(fun r=>if r=x then S x||b else S r)=S0):S=S0∧(b=true→S0 x=true):=by
 have h1:∀ r,S r=true→S0 r=true:=fun r hr=>by
  rw [←e];by_cases h:r=x
  ·subst h;simp [hr]
  ·simp [if_neg h,hr]
 refine ⟨funext fun r=>?_,fun hb=>?_⟩
 ·cases h0:S0 r with
  |true=>exact mono r h0
  |false=>
   cases h2:S r with
   |false=>rfl
   |true=>rw [h1 r h2] at h0;cases h0
 ·rw [←e];simp [hb]
theorem mark_mono {S0 S:Nat→Bool} {x:Nat} {b:Bool} (mono:∀ r,S0 r=true→S r=true):∀ r,S0 r=true→(fun r=>if r=x then S x||b else S r) r=true:=fun r hr=>by
 have:=mono r hr;by_cases h:r=x
 ·subst h;simp [this]
 ·simp [if_neg h,this]
theorem mark_sound {S:Nat→Bool} {p:Nat→Prop} {x:Nat} {b:Bool} (sound:∀ r,S r=true→p r) (hb:b=true→p x):∀ r,(fun r=>if r=x then S x||b else S r) r=true→p r:=fun r hr=>by
 by_cases h:r=x
 ·subst h;simp only [if_true,Bool.or_eq_true] at hr
  rcases hr with hr|hr
  ·exact sound r hr
  ·exact hb hr
 ·simp only [if_neg h] at hr;exact sound r hr
theorem mark_keep {S:Nat→Bool} {x:Nat} {b:Bool} (h:b=true→S x=true):(fun r=>if r=x then S x||b else S r)=S:=by
 funext r
 by_cases e:r=x
 ·subst e;simp only [if_true];cases hb:b with
  |false=>simp
  |true=>simp [h hb]
 ·simp [if_neg e]
def okr (n:Nat) (S:Nat→Bool) (xs:List Int):Bool:=xs.all fun x=>decide (x<0)||decide ((n:Int)≤x)||S x.toNat
theorem okr_snoc (n:Nat) (S:Nat→Bool) (xs:List Int) (x:Int):okr n S (xs++[x])=(okr n S xs&&(decide (x<0)||decide ((n:Int)≤x)||S x.toNat)):=by
 unfold okr;rw [List.all_append]
 simp
theorem okr_iff (ins:List (List Int)) (S:Nat→Bool) (i:Nat):okr ins.length S (ins.getD i [])=true↔∀ k∈inp ins i,S k=true:=by
 unfold okr;rw [K];constructor
 ·intro h k hk;obtain ⟨h1,h2⟩:=(inp_mem _ _ _).1 hk;have:=h _ h2;simp only [Bool.or_eq_true,decide_eq_true_eq] at this
  rcases this with (h|h)|h
  ·omega
  ·omega
  ·simpa using h
 ·intro h x hx;simp only [Bool.or_eq_true,decide_eq_true_eq];by_cases h0:x<0
  ·exact .inl (.inl h0)
  ·by_cases h1:(ins.length:Int)≤x
   ·exact .inl (.inr h1)
   ·refine .inr (h x.toNat ((inp_mem _ _ _).2 ⟨by omega,?_⟩));rw [show ((x.toNat:Nat):Int)=x by omega];exact hx
def ClR (ins:List (List Int)) (S:Nat→Bool):Prop:=∀ i,i<ins.length→(∀ k∈inp ins i,S k=true)→S i=true
structure SwR (ins:List (List Int)) (i:Nat) (S0 S:Nat→Bool):Prop where
 sound:∀ r,S r=true→r∈ord ins
 mono:∀ r,S0 r=true→S r=true
 keep:ClR ins S0→S=S0
 part:S=S0→∀ j,j<i→(∀ k∈inp ins j,S0 k=true)→S0 j=true
def RInv (ins:List (List Int)) (t:Nat) (S:Nat→Bool):Prop:=(∀ r,S r=true→r∈ord ins)∧(ClR ins S∨cntF ins.length S+t≤ins.length)
theorem RInv.start (ins:List (List Int)):RInv ins 0 fun _=>false:=⟨(fun r h=>by cases h),.inr (cntF_le _ _)⟩
theorem RInv.sweep {ins:List (List Int)} {t:Nat} {S:Nat→Bool} (h:RInv ins t S):SwR ins 0 S S:=⟨h.1,fun r h=>h,fun _=>rfl,fun _ j hj=>by omega⟩
theorem SwR.step {ins:List (List Int)} {i:Nat} {S0 S:Nat→Bool} (h:SwR ins i S0 S) (hi:i<ins.length):SwR ins (i+1) S0 (fun r=>if r=i then S i||okr ins.length S (ins.getD i []) else S r):=by
 refine ⟨mark_sound h.sound fun hb=>ord_closed ins hi fun k hk=>h.sound k ((okr_iff _ _ _).1 hb k hk),mark_mono h.mono,fun hc=>?_,fun e j hj hk=>?_⟩
 ·have hS:=h.keep hc;subst hS;exact mark_keep fun hb=>hc i hi ((okr_iff _ _ _).1 hb)
 ·obtain ⟨h1,h2⟩:=mark_eq h.mono e;by_cases hji:j<i
  ·exact h.part h1 j hji hk
  ·have:j=i:=by omega
   subst this;exact h2 ((okr_iff ins S j).2 (by rw [h1];exact hk))
theorem SwR.fin {ins:List (List Int)} {t:Nat} {S0 S:Nat→Bool} (h:SwR ins ins.length S0 S) (hP:RInv ins t S0):RInv ins (t+1) S:=
 ⟨h.sound,sweep_round hP.2 (fun r hr=>(ord_fine ins).bound r (h.sound r hr)) h.mono h.keep fun e=>fun i hi hk=>h.part e i hi hk⟩
theorem RInv.done {ins:List (List Int)} {S:Nat→Bool} (h:RInv ins ins.length S) (i:Nat) (hi:i<ins.length):S i=true↔i∈ord ins:=by
 have hc:ClR ins S:=by
  rcases h.2 with hc|hc
  ·exact hc
  ·exact fun i hi _=>cntF_zero (by omega) i hi
 exact ⟨h.1 i,ord_sub (S:=fun i=>S i=true) hc i⟩
theorem round_all {ins:List (List Int)} {S:Nat→Bool} (h:RInv ins ins.length S) (hall:∀ i,i<ins.length→S i=true):decide ((ord ins).length<ins.length)=false:=by
 have:=(ord_full ins).2 fun i hi=>(h.done i hi).1 (hall i hi);exact decide_eq_false (by omega)
theorem round_one {ins:List (List Int)} {S:Nat→Bool} (h:RInv ins ins.length S) {i:Nat} (hi:i<ins.length) (hs:S i=false):decide ((ord ins).length<ins.length)=true:=by
 refine decide_eq_true ?_;have h1:=ord_len ins;have h2:(ord ins).length≠ins.length:=fun e=>by
  have:=(h.done i hi).2 ((ord_full ins).1 e i hi);rw [hs] at this
  cases this
 omega
end Go.Proofs.YtgodhpampaleeaaGreatDoor
namespace Go.Proofs.YtgodhpampaleeaaGreatDoor
open Go.RowKit Go.Bx Go.Od Go.Hp
attribute [local go_sem ↓] Go.wp_at_zero Go.wp_at_succ
theorem rround_c (B:Nat) (nv:Value) (nds:List Nd) (out:Int) (w:World) (hm:nds.length≤999) (hl:∀ i,i<nds.length→(nds.getD i Nd.none).ins.length≤1000) (hg:Gr B w nv nds) (hB:B≤w.heap.size):
  Calls Tryz.prog 70 #[.agg #[nv,Y J out]] w (PPost w (.bool (decide ((ord (insOf nds)).length<nds.length)))):=by
 obtain ⟨ga,gc,rfl⟩:=hg.isSl;have hgl:=hg.len_le;obtain ⟨i4,hi4,hy0,hy1,hy2⟩:=info_parts infoB;obtain ⟨ins,hins⟩:∃ ins,ins=insOf nds:=⟨_,rfl⟩;have HI:Hid (ins=insOf nds∧ins.length=nds.length):=⟨hins,by rw [hins,insOf_len]⟩;have HG:Hid (Gr B w (O ga nds.length gc) nds∧∀ i,i<nds.length→(nds.getD i Nd.none).ins.length≤1000):=⟨hg,hl⟩;rw [←hins];clear hg hl hins;go_enter Tryz.func70,Tryz.ntmps70
 go_wp2_with (at_make;refine wpList_make_full _ rfl _ _ 112 rfl (w.heap.size+1) 4 i4 (.bool false) 1 Tryz.underlying112 hi4 hy0 hy1 .i64 .i64 _ _ nds.length rfl rfl rfl rfl (by rw [hy2];omega) (by unfold maxLen;omega) (by simp) ?_;intro w2 hown2 hgrow2;have HU:Hid (Box w2 (w.heap.size+1) (bc nds.length fun _=>false)∧Box w2 w.heap.size [O ga nds.length gc,Y J out]∧Below w.heap.size w w2):=makeB (by simp) hown2 hgrow2;clear hown2 hgrow2)
 have H0:Hid (NR w (O ga nds.length gc) out nds.length (fun _=>false) (O none 0 0) [] w2):=by
  obtain ⟨h1,h2,h3⟩:=HU.o;exact ⟨h2,h1,own_nil _ _,h3⟩
 clear HU;go_loopw [4] (fun tv wr=>∃ (t:Nat) (S:Nat→Bool),t≤nds.length∧tv=Y J t∧RInv ins t S∧NR w (O ga nds.length gc) out nds.length S (O none 0 0) [] wr) (fun tv _=>nds.length-(intOf tv).toNat)
 case atStart=>exact ⟨0,_,Nat.zero_le _,rfl,RInv.start _,H0.o⟩
 case round=>
  obtain ⟨t,S0,ht,rfl,hinv,hr⟩:=hrel;clear H0;have b0:=hr.gb.cell 0 rfl;have HT:Hid (RInv ins t S0):=hinv;clear hinv;by_cases htl:t<nds.length
  ·have H1:Hid (SwR ins 0 S0 S0∧NR w (O ga nds.length gc) out nds.length S0 (O none 0 0) [] wr):=⟨HT.o.sweep,hr⟩;clear hr;go_wp2_with fail;clear b0;go_loopw [5] (fun iv wr=>∃ (i:Nat) (S:Nat→Bool),i≤nds.length∧iv=Y J i∧SwR ins i S0 S∧NR w (O ga nds.length gc) out nds.length S (O none 0 0) [] wr) (fun iv _=>nds.length-(intOf iv).toNat)
   case atStart=>exact ⟨0,_,Nat.zero_le _,rfl,H1.o.1,H1.o.2⟩
   case round=>
    obtain ⟨i,S,hi,rfl,hsw,hr⟩:=hrel;clear H1;have b0:=hr.gb.cell 0 rfl;by_cases hil:i<nds.length
    ·obtain ⟨b,o,cap,ia,ic,pa,pc,hv,hbB,hcap,hcm,k0,k1,k2,s1,s2⟩:=(HG.o.1.below hr.below hB).node hil;simp only [Value.slice.injEq] at hv;obtain ⟨rfl,_,rfl⟩:=hv;obtain ⟨xs,hxs⟩:∃ xs,xs=(nds.getD i Nd.none).ins:=⟨_,rfl⟩;rw [←hxs] at k1 s1;have hxl:xs.length≤1000:=by rw [hxs];exact HG.o.2 i hil
     have HX:Hid (xs=(nds.getD i Nd.none).ins∧ins.getD i []=xs):=⟨hxs,by rw [HI.o.1,insOf_get,hxs]⟩;have HS:Hid (SlOf RInt 1 (·<B) wr (O ia xs.length ic) xs∧SwR ins i S0 S∧NR w (O (some ⟨b,o,none⟩) nds.length gc) out nds.length S (O none 0 0) [] wr):=⟨s1,hsw,hr⟩;have hi0:(0:Int)≤(i:Int):=by omega
     have hi1:(i:Int)<(nds.length:Int):=by omega
     unfold maxLen at hcm;clear s1 s2 hsw hr hxs k0 k2;go_wp2_with fail
     go_loop [6,7] (fun ov kv=>∃ k:Nat,k≤xs.length∧kv=Y J k∧ov=.bool (okr nds.length S (xs.take k))) (fun _ kv=>xs.length-(intOf kv).toNat)
     case atStart=>exact ⟨0,Nat.zero_le _,rfl,rfl⟩
     case round=>
      obtain ⟨k,hk,rfl,rfl⟩:=hrel;by_cases hkl:k<xs.length
      ·obtain ⟨ia',ic',hv,hic,hicm,hin,hcell⟩:=HS.o.1.ints;simp only [Value.slice.injEq] at hv;obtain ⟨rfl,_,rfl⟩:=hv;obtain ⟨b5,o5,rfl,_,hc5⟩:=hcell k hkl;have c5:=hc5 k hkl;obtain ⟨x,hx⟩:∃ x,x=xs.getD k 0:=⟨_,rfl⟩;rw [←hx] at c5;have HK:Hid (okr nds.length S (xs.take (k+1))=(okr nds.length S (xs.take k)&&(decide (x<0)||decide ((nds.length:Int)≤x)||S x.toNat))):=by
        have e:xs.take (k+1)=xs.take k++[x]:=by rw [List.take_succ_eq_append_getElem hkl,hx];simp [hkl]
        rw [e];exact okr_snoc _ _ _ _
       obtain ⟨q,hq⟩:∃ q,q=okr nds.length S (xs.take k):=⟨_,rfl⟩;rw [←hq] at HK;rw [←hq];have hk0:(0:Int)≤(k:Int):=by omega
       have hk1:(k:Int)<(xs.length:Int):=by omega
       unfold maxLen at hicm;clear hcell hc5 hin hq hx
       cases q with
       |false=>
        have HF:Hid (okr nds.length S (xs.take (k+1))=false):=HK.o;clear HK;go_wp2_with fail
        go_round
        case rel=>exact ⟨k+1,by omega,by go_num,by rw [HF.o]⟩
        case measure=>simp [intOf];omega
       |true=>
        by_cases hx0:x<0
        ·have HF:Hid (okr nds.length S (xs.take (k+1))=true):=HK.o.trans (by simp [hx0]);clear HK;go_wp2_with fail
         go_round
         case rel=>exact ⟨k+1,by omega,by go_num,by rw [HF.o]⟩
         case measure=>simp [intOf];omega
        ·by_cases hx1:(nds.length:Int)≤x
         ·have HF:Hid (okr nds.length S (xs.take (k+1))=true):=HK.o.trans (by simp [hx1]);clear HK;go_wp2_with fail
          go_round
          case rel=>exact ⟨k+1,by omega,by go_num,by rw [HF.o]⟩
          case measure=>simp [intOf];omega
         ·obtain ⟨z,rfl⟩:∃ z:Nat,x=z:=⟨x.toNat,by omega⟩;have hzn:z<nds.length:=by omega
          have hz1:¬(nds.length≤z):=by omega
          have HF:Hid (okr nds.length S (xs.take (k+1))=S z):=HK.o.trans (by simp [hx0];intro h;omega);have d0:=HS.o.2.2.ob.cell z (bc_get _ hzn);obtain ⟨m,hm'⟩:∃ m,m=S z:=⟨_,rfl⟩;rw [←hm'] at HF d0;clear HK hm';go_wp2_with fail
          go_round
          case rel=>exact ⟨k+1,by omega,by go_num,by rw [HF.o]⟩
          case measure=>simp [intOf];omega
      ·have ek:k=xs.length:=by omega
       subst ek;rw [List.take_length];obtain ⟨q,hq⟩:∃ q,q=okr nds.length S xs:=⟨_,rfl⟩;have d0:=HS.o.2.2.ob.cell i (bc_get _ hil);have f0:=HS.o.2.2.ob.frozen i;obtain ⟨m,hm'⟩:∃ m,m=S i:=⟨_,rfl⟩;have HE:Hid (SwR ins (i+1) S0 (fun r=>if r=i then (m||q) else S r)∧NR w (O (some ⟨b,o,none⟩) nds.length gc) out nds.length (fun r=>if r=i then (m||q) else S r) (O none 0 0) [] (wr.setCell ⟨w.heap.size+1,i,none⟩ (.bool (m||q)))):=by
        refine ⟨?_,HS.o.2.2.mark i (m||q)⟩;have:=HS.o.2.1.step (by rw [HI.o.2];exact hil);rw [HX.o.2,HI.o.2] at this;rw [hm',hq];exact this
       rw [←hm'] at d0;rw [←hq];clear hm' hq
       cases m with
       |true=>
        have HE':Hid (SwR ins (i+1) S0 (fun r=>if r=i then true else S r)∧NR w (O (some ⟨b,o,none⟩) nds.length gc) out nds.length (fun r=>if r=i then true else S r) (O none 0 0) [] (wr.setCell ⟨w.heap.size+1,i,none⟩ (.bool true))):=HE.o;clear HE;go_wp2_with fail;go_roundw
        case rel=>exact ⟨i+1,_,by omega,by go_num,HE'.o.1,HE'.o.2⟩
        case measure=>simp [intOf];omega
       |false=>
        have HE':Hid (SwR ins (i+1) S0 (fun r=>if r=i then q else S r)∧NR w (O (some ⟨b,o,none⟩) nds.length gc) out nds.length (fun r=>if r=i then q else S r) (O none 0 0) [] (wr.setCell ⟨w.heap.size+1,i,none⟩ (.bool q))):=HE.o;clear HE;go_wp2_with fail;go_roundw
        case rel=>exact ⟨i+1,_,by omega,by go_num,HE'.o.1,HE'.o.2⟩
        case measure=>simp [intOf];omega
    ·have ei:i=nds.length:=by omega
     subst ei;have HE:Hid (RInv ins (t+1) S∧NR w (O ga nds.length gc) out nds.length S (O none 0 0) [] wr):=by
      rw [←HI.o.2] at hsw;exact ⟨hsw.fin HT.o,hr⟩
     clear hsw hr;go_wp2_with fail;go_roundw
     case rel=>exact ⟨t+1,_,by omega,by go_num,HE.o.1,HE.o.2⟩
     case measure=>simp [intOf];omega
  ·have et:t=nds.length:=by omega
   subst et;have HR:Hid (NR w (O ga nds.length gc) out nds.length S0 (O none 0 0) [] wr∧RInv ins ins.length S0):=⟨hr,by rw [HI.o.2];exact HT.o⟩;clear hr HT;go_wp2_with fail
   go_loop [9] (fun iv=>∃ i:Nat,i≤nds.length∧iv=Y J i∧Hid (∀ j,j<i→S0 j=true)) (fun iv=>nds.length-(intOf iv).toNat)
   case atStart=>exact ⟨0,Nat.zero_le _,rfl,fun j hj=>by omega⟩
   case round=>
    obtain ⟨i,hi,rfl,hall⟩:=hrel;by_cases hil:i<nds.length
    ·have d0:=HR.o.1.ob.cell i (bc_get _ hil);obtain ⟨m,hm'⟩:∃ m,m=S0 i:=⟨_,rfl⟩;rw [←hm'] at d0
     cases m with
     |false=>
      have HE:Hid (decide ((ord ins).length<nds.length)=true):=by rw [←HI.o.2];exact round_one HR.o.2 (by rw [HI.o.2];exact hil) hm'.symm
      clear hm';go_wp2_with fail;go_ret;exact ⟨ret_b HE.o.symm,HR.o.1.below⟩
     |true=>
      have HA:Hid (∀ j,j<i+1→S0 j=true):=fun j hj=>by
       by_cases e:j=i
       ·rw [e];exact hm'.symm
       ·exact hall.out j (by omega)
      clear hm';go_wp2_with fail
      go_round
      case rel=>exact ⟨i+1,by omega,by go_num,HA⟩
      case measure=>simp [intOf];omega
    ·have ei:i=nds.length:=by omega
     subst ei;have HE:Hid (decide ((ord ins).length<nds.length)=false):=by rw [←HI.o.2];exact round_all HR.o.2 (by rw [HI.o.2];exact hall.out)
     go_wp2_with fail;go_ret;exact ⟨ret_b HE.o.symm,HR.o.1.below⟩
end Go.Proofs.YtgodhpampaleeaaGreatDoor
namespace Go.Bx
open Go.RowKit
section
variable {P:Program} {Q:Exit→Act→World→Prop} {a0:Act} {w0:World} {l:List Oper}
theorem last_any (I:World→Prop) (T:Nat→Value→World→Prop) (k:Nat) (last:Oper) (hl:l[k]?=some last) (hlen:l.length=k+1) (hsel:Region.noSelect l.toArray=true)
  (hacyc:∀ i oi,l[i]?=some oi→∀ e∈oi.after,Region.binds .any e=true→e.on<i)
  (hcl:∀ i,i<k→∃ j oj,i<j∧l[j]?=some oj∧depB oj i=true)
  (hdst:∀ i j oi oj d,l[i]?=some oi→l[j]?=some oj→oj.dst=some d→(i=j∨oi.dst≠some d)∧(d∈oi.looksAt l.toArray→depB oi j=true))
  (hop:∀ i,i<k→OpIs P l a0 I T i)
  (hlast:∀ vs w,I w→(∀ i,i<k→T i (vs i) w)→stepsTo P l.toArray last (fr (fun j=>decide (j<k)) vs l 0 a0) w (fun v w'=>Q .normal ((fr (fun j=>decide (j<k)) vs l 0 a0).put last.dst v) w')):
  ∀ (fuel:Nat) (listed:Array Bool) (vs:Nat→Value) (w:World),listed.size=l.length→
   (∀ i oi,l[i]?=some oi→listed.getD i false=true→∀ e∈oi.after,Region.binds .any e=true→listed.getD e.on false=true)→
   listed.getD k false=false→(∀ i,i<k→listed.getD i false=true→T i (vs i) w)→I w→(L l.length).countP (fun i=>!listed.getD i false)≤fuel→
   wpAny P .any l.toArray Q fuel listed (fr (fun j=>listed.getD j false) vs l 0 a0) w:=by
 intro fuel
 induction fuel with
 |zero=>
  intro listed vs w hsz hdown hk hT hw hf;have:0<(L l.length).countP (fun i=>!listed.getD i false):=List.countP_pos_iff.2 ⟨k,List.mem_range.2 (by omega),by simp [hk]⟩;omega
 |succ fuel ih=>
  intro listed vs w hsz hdown hk hT hw hf;have hgd:∀ j,j<l.length→listed.getD j true=listed.getD j false:=fun j hj=>by
   rw [←hsz] at hj;simp [hj]
  have hout:∀ j,l.length≤j→listed.getD j false=false:=fun j hj=>by
   rw [←hsz] at hj;simp [Array.getElem?_eq_none hj]
  have hselo:∀ (j:Nat) (o:Oper) cs b,l[j]?=some o→o.op≠.select cs b:=fun j o cs b ho=>Region.noSelect_spec hsel j o cs b (by simpa using ho);refine ⟨fun h=>?_,fun i hi=>?_⟩
  ·exfalso
   -- the least that has not come up may come up
   have hex:∃ m,m≤k∧listed.getD m false=false∧∀ j,j<m→listed.getD j false=true:=by
    clear h hT hw hf hdown;have:∀ n,(∃ m,m≤n∧listed.getD m false=false∧∀ j,j<m→listed.getD j false=true)∨∀ j,j≤n→listed.getD j false=true:=by
     intro n
     induction n with
     |zero=>
      cases e:listed.getD 0 false with
      |false=>exact .inl ⟨0,U _,e,fun j hj=>by omega⟩
      |true=>exact .inr fun j hj=>by rw [show j=0 by omega];exact e
     |succ n ihn=>
      rcases ihn with ⟨m,hm,h1,h2⟩|h1
      ·exact .inl ⟨m,by omega,h1,h2⟩
      ·cases e:listed.getD (n+1) false with
       |false=>exact .inl ⟨n+1,U _,e,fun j hj=>h1 j (by omega)⟩
       |true=>
        refine .inr fun j hj=>?_;by_cases hjn:j≤n
        ·exact h1 j hjn
        ·rw [show j=n+1 by omega];exact e
    rcases this k with h2|h2
    ·exact h2
    ·rw [h2 k (U _)] at hk;cases hk
   obtain ⟨m,hm,h1,h2⟩:=hex;obtain ⟨o,ho⟩:∃ o,l[m]?=some o:=⟨_,List.getElem?_eq_getElem (by omega)⟩;have:m∈Region.ready .any l.toArray listed:=mem_ready.2 ⟨by rw [hgd m (by omega)];exact h1,o,by simpa using ho,fun e he hb=>h2 _ (hacyc m o ho e he hb)⟩;rw [h] at this
   cases this
  ·obtain ⟨hun,o,ho',hdeps⟩:=mem_ready.1 hi;have ho:l[i]?=some o:=by simpa using ho'
   have hil:i<l.length:=(E.1 ho).1;rw [hgd i hil] at hun;have hdep:∀ j,depB o j=true→listed.getD j false=true:=fun j hj=>by
    unfold depB at hj;rw [Array.any_eq_true'] at hj;obtain ⟨e,he,hb⟩:=hj;simp only [N,beq_iff_eq] at hb;rw [←hb.2];exact hdeps e he hb.1
   have hlooks:∀ (L':Nat→Bool),(∀ j,depB o j=true→L' j=true)→∀ t∈o.looksAt l.toArray,(fr L' vs l 0 a0).tmps[t]?=(fr (fun j=>listed.getD j false) vs l 0 a0).tmps[t]?:=fun L' hL' t ht=>
    fr_at l 0 a0 a0 rfl fun j oj hj hd=>by
     have hd2:=(hdst i j o oj t ho hj hd).2 ht;rw [Nat.zero_add,hL' j hd2,hdep j hd2]
   by_cases hik:i=k
   ·subst hik;rw [hl] at ho;cases ho
    have hall:∀ n j,i-j≤n→j<i→listed.getD j false=true:=by
     intro n
     induction n with
     |zero=>intro j h1 h2;omega
     |succ n ihn=>
      intro j h1 h2;obtain ⟨m,om,hm,hom,hd⟩:=hcl j h2;have hml:m<l.length:=(E.1 hom).1;by_cases e:m=i
      ·subst e;rw [hl] at hom;cases hom
       exact hdep j hd
      ·have:=ihn m (by omega) (by omega);unfold depB at hd;rw [Array.any_eq_true'] at hd;obtain ⟨e',he,hb⟩:=hd;simp only [N,beq_iff_eq] at hb;rw [←hb.2];exact hdown m om hom this e' he hb.1
    have hL:∀ j,listed.getD j false=decide (j<i):=fun j=>by
     by_cases h1:j<i
     ·rw [hall i j (by omega) h1];simp [h1]
     ·rw [decide_eq_false h1];by_cases h2:j=i
      ·rw [h2];exact hun
      ·exact hout j (by omega)
    have hfr:fr (fun j=>listed.getD j false) vs l 0 a0=fr (fun j=>decide (j<i)) vs l 0 a0:=fr_congr l 0 a0 fun j _=>⟨hL j,rfl⟩;rw [hfr];have hs:=hlast vs w hw (fun j hj=>hT j hj (hall i j (by omega) hj));have hdone:∀ a w',Q .normal a w'→wpAny P .any l.toArray Q fuel (listed.setIfInBounds i true) a w':=fun a w' hq=>any_done (by
     rw [List.eq_nil_iff_forall_not_mem];intro j hj;obtain ⟨h1,oj,hoj,_⟩:=mem_ready.1 hj;by_cases e:i=j
     ·subst e;have:i<listed.size:=by omega
      simp [this] at h1
     ·rw [getD_set_ne true e] at h1;have hjl:j<l.length:=(E.1 (by simpa using hoj)).1;rw [hgd j hjl,hall i j (by omega) (by omega)] at h1;cases h1) hq fuel
    unfold wpOp;simp only [ho'];unfold stepsTo at hs
    split
    ·rename_i hw';simp only [hw',if_true] at hs;exact .inl (gives_put hs fun v w' h=>hdone _ _ h)
    ·rename_i hw';simp only [hw'] at hs;exact hdone _ _ hs
   ·have hs0:=hop i (by omega) o ho vs w hw (fun j hj=>hT j (by
     unfold depB at hj;rw [Array.any_eq_true'] at hj;obtain ⟨e,he,hb⟩:=hj;simp only [N,beq_iff_eq] at hb;have:=hacyc i o ho e he hb.1;omega) (hdep j hj))
    have hs:=steps_same o (fun cs b=>hselo i o cs b ho) (hlooks (fun _=>true) fun _ _=>rfl) hs0;have hnext:∀ v w',(T i v w'∧I w'∧∀ j u,j≠i→T j u w→T j u w')→wpAny P .any l.toArray Q fuel (listed.setIfInBounds i true) ((fr (fun j=>listed.getD j false) vs l 0 a0).put o.dst v) w':=by
     intro v w' ⟨hTv,hIw,hkeep⟩;have hset:∀ j,(listed.setIfInBounds i true).getD j false=upd (fun j=>listed.getD j false) i true j:=fun j=>by
      by_cases e:i=j
      ·subst e;have:i<listed.size:=by omega
       simp [this,upd]
      ·rw [getD_set_ne false e];exact (if_neg fun h=>e h.symm).symm
     have hfr:fr (fun j=>(listed.setIfInBounds i true).getD j false) (upd vs i v) l 0 a0=(fr (fun j=>listed.getD j false) vs l 0 a0).put o.dst v:=by
      rw [fr_congr (L':=upd (fun j=>listed.getD j false) (0+i) true) (vs':=upd vs (0+i) v) l 0 a0 fun j _=>by rw [Nat.zero_add];exact ⟨hset j,rfl⟩];exact fr_step l 0 i a0 o ho (by rw [Nat.zero_add];exact hun) fun j o' hj hne t ht=>by
       rcases (hdst j i o' o t hj ho ht).1 with h|h
       ·exact absurd h hne
       ·exact h
     rw [←hfr];refine ih _ _ w' (by simpa using hsz) ?_ ?_ ?_ hIw ?_
     ·intro j oj hj hlj e he hbd;rw [hset] at hlj;rw [hset];by_cases e1:e.on=i
      ·exact if_pos e1
      ·rw [show upd (fun j=>listed.getD j false) i true e.on=listed.getD e.on false from if_neg e1];by_cases e2:j=i
       ·subst e2;rw [ho] at hj;cases hj
        exact hdeps e he hbd
       ·rw [show upd (fun j=>listed.getD j false) i true j=listed.getD j false from if_neg e2] at hlj;exact hdown j oj hj hlj e he hbd
     ·rw [hset];rw [show upd (fun j=>listed.getD j false) i true k=listed.getD k false from if_neg fun h=>hik h.symm];exact hk
     ·intro j hj hlj;by_cases e:j=i
      ·subst e;rw [show upd vs j v j=v from if_pos rfl];exact hTv
      ·rw [show upd vs i v j=vs j from if_neg e];rw [hset,show upd (fun j=>listed.getD j false) i true j=listed.getD j false from if_neg e] at hlj;exact hkeep j _ e (hT j hj hlj)
     ·have:=countP_one (f:=fun i=>!listed.getD i false) (g:=fun j=>!(listed.setIfInBounds i true).getD j false) (i:=i) (by simp only [hun];rfl) (by simp only [hset,upd,if_true];rfl) (fun j hj=>by
       simp only [hset];rw [show upd (fun j=>listed.getD j false) i true j=listed.getD j false from if_neg hj]) l.length hil
      omega
    unfold wpOp;simp only [ho'];unfold stepsTo at hs
    split
    ·rename_i hw';simp only [hw',if_true] at hs;exact .inl (gives_put hs hnext)
    ·rename_i hw';simp only [hw'] at hs;exact hnext _ _ hs
theorem wp_region_last {id:Nat} (I:World→Prop) (T:Nat→Value→World→Prop) (k:Nat) (last:Oper) (hl:l[k]?=some last) (hlen:l.length=k+1) (hm:P.follows .mixedOrders=true) (hB:monoB l=true) (hI:I w0.drew)
  (hop:∀ i,i<k→OpIs P l a0 I T i)
  (hlast:∀ vs w,I w→(∀ i,i<k→T i (vs i) w)→Shut (stepsTo P l.toArray last (fr (fun j=>decide (j<k)) vs l 0 a0) w (fun v w'=>Q .normal ((fr (fun j=>decide (j<k)) vs l 0 a0).put last.dst v) w'))):
  (Code.region id l.toArray true).wp P Q a0 w0:=by
 unfold monoB at hB;rw [N,K] at hB;obtain ⟨hsel,hB⟩:=hB;have hB1:∀ i oi,l[i]?=some oi→_:=fun i oi hi=>by
  have:=hB i (List.mem_range.2 (E.1 hi).1);simp only [hi,N] at this;exact this
 refine wp_region_any hm ?_;have hfr:a0=fr (fun j=>(Array.replicate l.length false).getD j false) (fun _=>undef) l 0 a0:=by
  have hgen:∀ (l':List Oper) (k:Nat) (a:Act),a=fr (fun j=>(Array.replicate l.length false).getD j false) (fun _=>undef) l' k a:=by
   intro l'
   induction l' with
   |nil=>intro _ _;rfl
   |cons o l' ih=>
    intro k a;have:(Array.replicate l.length false).getD k false=false:=by
     rcases Nat.lt_or_ge k l.length with h|h
     ·simp [h]
     ·simp [Array.getElem?_eq_none (xs:=Array.replicate l.length false) (i:=k) (by simpa using h)]
    simp only [fr,this,Bool.false_eq_true,if_false];exact ih (k+1) a
  exact hgen l 0 a0
 have hrep:∀ j,(Array.replicate l.length false).getD j false=false:=fun k=>by
  rcases Nat.lt_or_ge k l.length with h|h
  ·simp [h]
  ·simp [Array.getElem?_eq_none (xs:=Array.replicate l.length false) (i:=k) (by simpa using h)]
 have hmain:=last_any (P:=P) (Q:=Q) (a0:=a0) I T k last hl hlen hsel ?_ ?_ ?_ hop (fun vs w h1 h2=>(hlast vs w h1 h2).out) l.length (Array.replicate l.length false) (fun _=>undef) {w0 with drawn:=w0.drawn+1} (by simp)
  (fun i _ _ h=>by rw [hrep i] at h;cases h) (hrep k) (fun i _ h=>by rw [hrep i] at h;cases h) hI (by
   have:=List.countP_le_length (p:=fun i=>!(Array.replicate l.length false).getD i false) (l:=L l.length)
   simpa using this)
 ·rw [←hfr] at hmain
  simpa using hmain
 ·intro i oi hi e he hb;have:=(hB1 i oi hi).1.1;rw [Array.all_eq_true'] at this;have:=this e he
  simpa [hb] using this
 ·intro i hi;have:=(hB1 i l[i] (List.getElem?_eq_getElem (by omega))).1.2;simp only [Bool.or_eq_true,beq_iff_eq,List.any_eq_true,N,decide_eq_true_eq] at this
  rcases this with h|⟨j,_,h1,h2⟩
  ·omega
  ·split at h2
   ·rename_i oj hj;exact ⟨j,oj,h1,hj,h2⟩
   ·cases h2
 ·intro i j oi oj d hi hj hd;have:=(hB1 i oi hi).2;rw [K] at this;have:=this j (List.mem_range.2 (E.1 hj).1);simp only [hj,hd,N,Bool.or_eq_true,beq_iff_eq,bne_iff_ne,Bool.not_eq_true',List.contains_eq_mem,decide_eq_false_iff_not,ne_eq] at this;refine ⟨this.1,fun hm=>?_⟩
  rcases this.2 with h|h
  ·exact absurd hm (by simpa using h)
  ·exact h
end
end Go.Bx
namespace Go.Proofs.YtgodhpampaleeaaGreatDoor
open Go.RowKit Go.Bx Go.Od Go.Hp
end Go.Proofs.YtgodhpampaleeaaGreatDoor
namespace Go.Proofs.YtgodhpampaleeaaGreatDoor
open Go.RowKit Go.Bx
attribute [local go_sem ↓] Go.wp_at_zero Go.wp_at_succ
def inB (lo hi x:Int):Bool:=decide (lo≤x)&&decide (x≤hi)
def nearB (xs:List Int) (f t:Nat) (lo hi:Int):Bool:=(L (t-f)).all fun j=>inB lo hi (xs.getD (f+j) 0)
theorem nearB_iff (xs:List Int) (f t:Nat) (lo hi:Int):nearB xs f t lo hi=true↔∀ j,f≤j→j<t→lo≤xs.getD j 0∧xs.getD j 0≤hi:=by
 unfold nearB inB;simp only [K,List.mem_range,N,decide_eq_true_eq];constructor
 ·intro h j h1 h2;have:=h (j-f) (by omega);rwa [show f+(j-f)=j by omega] at this
 ·intro h j hj;exact h (f+j) (by omega) (by omega)
theorem nearB_no {xs:List Int} {f t:Nat} {lo hi:Int} {j:Nat} (h1:f≤j) (h2:j<t) (h:¬(lo≤xs.getD j 0∧xs.getD j 0≤hi)):nearB xs f t lo hi=false:=by
 cases e:nearB xs f t lo hi with
 |false=>rfl
 |true=>exact absurd ((nearB_iff _ _ _ _ _).1 e j h1 h2) h
theorem near_c {F:Nat→Prop} (lv:Value) (xs:List Int) (f t:Nat) (lo hi:Int) (w:World) (hft:f≤t) (ht:t≤xs.length) (hl:SlOf RInt 1 F w lv xs):
  Calls Tryz.prog 106 #[lv,Y J f,Y J t,Y J lo,Y J hi] w (PPost w (.bool (nearB xs f t lo hi))):=by
 obtain ⟨a,cap,rfl,hcap,hm,_,hcell⟩:=hl.ints;have HC:Hid (∀ i,i<xs.length→∃ b o,a=some ⟨b,o,none⟩∧F b∧∀ j,j<xs.length→w.cell? ⟨b,o+j,none⟩=some (Y J (xs.getD j 0))):=hcell;unfold maxLen at hm;clear hcell hl;go_enter Tryz.func106,Tryz.ntmps106;go_wp2_with fail
 go_loop [11] (fun jv=>∃ j:Nat,f≤j∧j≤t∧jv=Y J j∧Hid (∀ q,f≤q→q<j→lo≤xs.getD q 0∧xs.getD q 0≤hi)) (fun jv=>t-(intOf jv).toNat)
 case atStart=>exact ⟨f,U _,hft,rfl,fun q h1 h2=>by omega⟩
 case round=>
  obtain ⟨j,hfj,hjt,rfl,hall⟩:=hrel;by_cases hjl:j<t
  ·obtain ⟨b,o,rfl,_,hc⟩:=HC.o j (by omega);have hcj:=hc j (by omega);obtain ⟨z,hz⟩:∃ z,z=xs.getD j 0:=⟨_,rfl⟩;rw [←hz] at hcj;have HZ:Hid (z=xs.getD j 0):=hz;have hj0:(0:Int)≤(j:Int):=by omega
   have hj1:(j:Int)<(xs.length:Int):=by omega
   clear hc hz;by_cases h1:z<lo
   ·have HE:Hid (nearB xs f t lo hi=false):=nearB_no hfj hjl (by rw [←HZ.o];omega);go_wp2_with fail;go_ret;exact ⟨ret_b HE.o.symm,Below.refl _ _⟩
   ·by_cases h2:hi<z
    ·have HE:Hid (nearB xs f t lo hi=false):=nearB_no hfj hjl (by rw [←HZ.o];omega);go_wp2_with fail;go_ret;exact ⟨ret_b HE.o.symm,Below.refl _ _⟩
    ·have HA:Hid (∀ q,f≤q→q<j+1→lo≤xs.getD q 0∧xs.getD q 0≤hi):=fun q h3 h4=>by
      by_cases e:q=j
      ·rw [e,←HZ.o];omega
      ·exact hall.out q h3 (by omega)
     go_wp2_with fail
     go_round
     case rel=>exact ⟨j+1,by omega,by omega,by go_num,HA⟩
     case measure=>simp [intOf];omega
  ·have ej:j=t:=by omega
   subst ej;have HE:Hid (nearB xs f j lo hi=true):=(nearB_iff _ _ _ _ _).2 hall.out;go_wp2_with fail;go_ret;exact ⟨ret_b HE.o.symm,Below.refl _ _⟩
def pxR (a b c d:Int):Bool:=decide (a≤d)&&decide (b≤d)&&decide (c≤d)
theorem right01_c (a b c d:Int) (w:World):Calls Tryz.prog 67 #[.agg #[Y Z a,Y Z b,Y Z c,Y Z d]] w (PPost w (.bool (pxR a b c d))):=by
 have X:=Box.new w (qU a b c d) 27;have B0:Below w.heap.size w (w.alloc (.cells #[Y Z a,Y Z b,Y Z c,Y Z d] 27)):=(Below.refl _ _).alloc (U _) _;go_enter Tryz.func67,Tryz.ntmps67;go_wp2_with fail;have HX:Hid (Box (w.alloc (.cells #[Y Z a,Y Z b,Y Z c,Y Z d] 27)) w.heap.size (qU a b c d)∧Below w.heap.size w (w.alloc (.cells #[Y Z a,Y Z b,Y Z c,Y Z d] 27))):=⟨X,B0⟩;clear X B0;generalize w.alloc (.cells #[Y Z a,Y Z b,Y Z c,Y Z d] 27)=W0 at *;go_loopw [3] (fun jv wr=>∃ j n:Nat,j≤3∧jv=Y J j∧wr=W0.drewN n∧Hid (∀ q,q<j→[a,b,c].getD q 0≤d)) (fun jv _=>3-(intOf jv).toNat)
 case atStart=>exact ⟨0,0,by omega,rfl,by first|rfl|simp,fun q h=>by omega⟩
 case round=>
  obtain ⟨j,n,hj,rfl,rfl,hall⟩:=hrel;have x3:=HX.o.1.cell 3 rfl;by_cases hjl:j<3
  ·obtain ⟨z,hz⟩:∃ z,z=[a,b,c].getD j 0:=⟨_,rfl⟩;have xj:W0.cell? ⟨w.heap.size,j,none⟩=some (Y Z z):=by
    rw [hz]
    match j,hjl with
    |0,_=>exact HX.o.1.cell 0 rfl
    |1,_=>exact HX.o.1.cell 1 rfl
    |2,_=>exact HX.o.1.cell 2 rfl
   have HZ:Hid (z=[a,b,c].getD j 0):=hz;have hj0:(0:Int)≤(j:Int):=by omega
   have hj1:(j:Int)<4:=by omega
   clear hz;by_cases h1:d<z
   ·have HE:Hid (pxR a b c d=false):=by
     have e:z=a∨z=b∨z=c:=by
      have:=HZ.o
      match j,hjl with
      |0,_=>exact .inl this
      |1,_=>exact .inr (.inl this)
      |2,_=>exact .inr (.inr this)
     have h2:pxR a b c d≠true:=by
      unfold pxR;simp only [N,decide_eq_true_eq,ne_eq];rintro ⟨⟨q1,q2⟩,q3⟩
      rcases e with e|e|e<;>omega
     cases e2:pxR a b c d with
     |false=>exact rfl
     |true=>exact absurd e2 h2
    go_wp2_with fail
    go_quiet (fail)
    go_wp2_with fail;go_ret;exact ⟨ret_b HE.o.symm,below_drewN (below_drewN HX.o.2 _) _⟩
   ·have HA:Hid (∀ q,q<j+1→[a,b,c].getD q 0≤d):=fun q hq=>by
     by_cases e:q=j
     ·rw [e,←HZ.o];omega
     ·exact hall.out q (by omega)
    go_wp2_with fail
    go_quiet (fail)
    go_wp2_with fail;go_roundw
    case rel=>exact ⟨j+1,_,by omega,by go_num,by first|rfl|(simp;rfl),HA⟩
    case measure=>simp [intOf];omega
  ·have ej:j=3:=by omega
   subst ej;have HE:Hid (pxR a b c d=true):=by
    have h0:=hall.out 0 (by omega);have h1:=hall.out 1 (by omega);have h2:=hall.out 2 (by omega);simp at h0 h1 h2;have e:pxR a b c d=true:=by
     unfold pxR;simp [h0,h1,h2]
    exact e
   go_wp2_with fail;go_ret;exact ⟨ret_b HE.o.symm,below_drewN HX.o.2 _⟩
def r7 (xs:List Int):Bool:=(L (min xs.length 21)).all (fun j=>inB (-32768) 32767 (xs.getD j 0))&&decide (xs.length=20)
theorem right07_c {F:Nat→Prop} (lv:Value) (xs:List Int) (w:World) (hl:SlOf RInt 1 F w lv xs):
  Calls Tryz.prog 122 #[lv] w (PPost w (.bool (r7 xs))):=by
 obtain ⟨a,cap,rfl,hcap,hm,_,hcell⟩:=hl.ints;have HC:Hid (∀ i,i<xs.length→∃ b o,a=some ⟨b,o,none⟩∧F b∧∀ j,j<xs.length→w.cell? ⟨b,o+j,none⟩=some (Y J (xs.getD j 0))):=hcell;unfold maxLen at hm;have hr:∀ q,(r7 xs=q)↔(r7 xs=q):=fun q=>Iff.rfl;clear hcell hl hr;go_enter Tryz.func122,Tryz.ntmps122;go_wp2_with fail
 go_loop [3] (fun jv=>∃ j:Nat,j≤xs.length∧j≤21∧jv=Y J j∧Hid (∀ q,q<j→inB (-32768) 32767 (xs.getD q 0)=true)) (fun jv=>21-(intOf jv).toNat)
 case atStart=>exact ⟨0,Nat.zero_le _,by omega,rfl,fun q h=>by omega⟩
 case round=>
  obtain ⟨j,hj,hj21,rfl,hall⟩:=hrel;by_cases hjl:j<xs.length
  ·by_cases hj2:j<21
   ·obtain ⟨b,o,rfl,_,hc⟩:=HC.o j hjl;have hcj:=hc j hjl;obtain ⟨z,hz⟩:∃ z,z=xs.getD j 0:=⟨_,rfl⟩;rw [←hz] at hcj;have HZ:Hid (z=xs.getD j 0):=hz;have hj0:(0:Int)≤(j:Int):=by omega
    have hj1:(j:Int)<(xs.length:Int):=by omega
    have HNO:Hid (inB (-32768) 32767 z=false→r7 xs=false):=fun h=>by
     unfold r7;rw [Bool.and_eq_false_iff];left;rw [List.all_eq_false];exact ⟨j,List.mem_range.2 (by omega),by rw [←HZ.o,h];decide⟩
    clear hc hz;by_cases h1:z < -32768
    ·have HE:Hid (r7 xs=false):=HNO.o (by unfold inB;simp;omega);go_wp2_with fail;go_ret;exact ⟨ret_b HE.o.symm,Below.refl _ _⟩
    ·by_cases h2:32767<z
     ·have HE:Hid (r7 xs=false):=HNO.o (by unfold inB;simp;omega);go_wp2_with fail;go_ret;exact ⟨ret_b HE.o.symm,Below.refl _ _⟩
     ·have HA:Hid (∀ q,q<j+1→inB (-32768) 32767 (xs.getD q 0)=true):=fun q h3=>by
       by_cases e:q=j
       ·rw [e,←HZ.o];unfold inB;simp;omega
       ·exact hall.out q (by omega)
      go_wp2_with fail
      go_round
      case rel=>exact ⟨j+1,by omega,by omega,by go_num,HA⟩
      case measure=>simp [intOf];omega
   ·have ej:j=21:=by omega
    have h20:((xs.length:Int)==20)=false:=beq_eq_false_iff_ne.2 (by omega);have HE:Hid (r7 xs=false):=by
     unfold r7;rw [Bool.and_eq_false_iff];exact .inr (decide_eq_false (by omega))
    go_wp2_with fail;go_ret;exact ⟨ret_b HE.o.symm,Below.refl _ _⟩
  ·have ej:j=xs.length:=by omega
   obtain ⟨q,hq⟩:∃ q,q=((xs.length:Int)==20):=⟨_,rfl⟩;have HE:Hid (r7 xs=q):=by
    have e:((L (min xs.length 21)).all fun j=>inB (-32768) 32767 (xs.getD j 0))=true:=by
     rw [K];intro k hk;have:=List.mem_range.1 hk;exact hall.out k (by omega)
    unfold r7;rw [e,hq,Bool.true_and];by_cases h:xs.length=20
    ·rw [h];exact (rfl:decide (20=20)=_)
    ·rw [decide_eq_false h];exact (beq_eq_false_iff_ne.2 (by omega)).symm
   have hq':((xs.length:Int)==20)=q:=hq.symm;clear hq;subst ej;go_wp2_with fail;go_ret;exact ⟨ret_b HE.o.symm,Below.refl _ _⟩
def pixB (xs:List Int) (f:Nat):Bool:=nearB xs f (f+4) 0 255&&pxR (xs.getD f 0) (xs.getD (f+1) 0) (xs.getD (f+2) 0) (xs.getD (f+3) 0)
theorem pixel0_c {F:Nat→Prop} (lv:Value) (xs:List Int) (w:World) (hf:4≤xs.length) (hF:∀ b,F b→b<w.heap.size) (hl:SlOf RInt 1 F w lv xs):
  Calls Tryz.prog 123 #[lv,Y J 0] w (PPost w (.bool (pixB xs 0))):=by
 have hl0:=hl;obtain ⟨a,cap,rfl,hcap,hm,_,hcell⟩:=hl.ints;obtain ⟨b,o,rfl,_,hc⟩:=hcell 0 (by omega);obtain ⟨z0,h0⟩:∃ z,z=xs.getD 0 0:=⟨_,rfl⟩;obtain ⟨z1,h1⟩:∃ z,z=xs.getD 1 0:=⟨_,rfl⟩;obtain ⟨z2,h2⟩:∃ z,z=xs.getD 2 0:=⟨_,rfl⟩;obtain ⟨z3,h3⟩:∃ z,z=xs.getD 3 0:=⟨_,rfl⟩;have c0:w.cell? ⟨b,o,none⟩=some (Y J (xs.getD 0 0)):=hc 0 (by omega);have c1:=hc 1 (by omega);have c2:=hc 2 (by omega);have c3:=hc 3 (by omega);rw [←h0] at c0;rw [←h1] at c1;rw [←h2] at c2;rw [←h3] at c3;obtain ⟨q,hq⟩:∃ q,q=nearB xs 0 4 0 255:=⟨_,rfl⟩;have HQ:Hid (pixB xs 0=(q&&pxR z0 z1 z2 z3)∧(q=true→(0≤z0∧z0≤255)∧(0≤z1∧z1≤255)∧(0≤z2∧z2≤255)∧(0≤z3∧z3≤255))):=by
  refine ⟨by unfold pixB;rw [hq,h0,h1,h2,h3],fun e=>?_⟩;rw [e] at hq;have h:=(nearB_iff _ _ _ _ _).1 hq.symm;rw [h0,h1,h2,h3];exact ⟨h 0 (by omega) (by omega),h 1 (by omega) (by omega),h 2 (by omega) (by omega),h 3 (by omega) (by omega)⟩
 obtain ⟨k0,k1,k2,k3⟩:=kept4 c0 c1 c2 c3;have HA:Hid (∀ s:Kept w.heap.size w,Calls Tryz.prog 106 #[O (some ⟨b,o,none⟩) xs.length cap,Y J 0,Y J 4,Y J 0,Y J 255] s.w (PPost s.w (.bool q))):=fun s=>by
  have h:=near_c (F:=F) _ xs 0 4 0 255 s.w (by omega) hf (hl0.same RInt.ok (Same.of_below s.below hF));rw [←hq] at h;exact h
 have hf1:((0:Int)<(xs.length:Int))∧((1:Int)<(xs.length:Int))∧((2:Int)<(xs.length:Int))∧((3:Int)<(xs.length:Int)):=⟨by omega,by omega,by omega,by omega⟩;obtain ⟨hf2,hf3,hf5,hf6⟩:=hf1;unfold maxLen at hm;clear hc hcell hl hl0 h0 h1 h2 h3 c0 c1 c2 c3 hq hF;go_enter Tryz.func123,Tryz.ntmps123
 cases q with
 |false=>
  have HE:Hid (pixB xs 0=false):=HQ.o.1;go_wp2_with fail;refine wp_region_kept w.heap.size (by kernel_rfl) (by kernel_rfl) ?_
  repeat (go_big_quiet_step (first
   |(go_at_call 106;with_reducible exact Calls.kept _ (U _) (HA.o _))))
  refine wpQuiet_nil ?_;rintro _ ⟨s,rfl⟩;go_wp2_with fail;go_ret;exact ⟨ret_b HE.o.symm,s.below⟩
 |true=>
  obtain ⟨⟨a0,a1⟩,⟨b0,b1⟩,⟨d0,d1⟩,⟨g0,g1⟩⟩:=HQ.o.2 rfl;have HB:Hid (∀ s:Kept w.heap.size w,Calls Tryz.prog 67 #[.agg #[Y Z z0,Y Z z1,Y Z z2,Y Z z3]] s.w (PPost s.w (.bool (pxR z0 z1 z2 z3)))):=fun s=>right01_c z0 z1 z2 z3 s.w;have HE:Hid (pixB xs 0=pxR z0 z1 z2 z3):=HQ.o.1;have v0:z0%256=z0:=by omega
  have v1:z1%256=z1:=by omega
  have v2:z2%256=z2:=by omega
  have v3:z3%256=z3:=by omega
  generalize pxR z0 z1 z2 z3=r at *;go_wp2_with fail;refine wp_region_kept w.heap.size (by kernel_rfl) (by kernel_rfl) ?_
  repeat (go_big_quiet_step (first
   |(go_at_call 106;with_reducible exact Calls.kept _ (U _) (HA.o _))
   |(go_at_call 67;with_reducible exact Calls.kept _ (U _) (HB.o _))))
  refine wpQuiet_nil ?_;rintro _ ⟨s,rfl⟩;go_wp2_with fail;go_ret;exact ⟨ret_b HE.o.symm,s.below⟩
theorem pixel4_c {F:Nat→Prop} (lv:Value) (xs:List Int) (w:World) (hf:8≤xs.length) (hF:∀ b,F b→b<w.heap.size) (hl:SlOf RInt 1 F w lv xs):
  Calls Tryz.prog 123 #[lv,Y J 4] w (PPost w (.bool (pixB xs 4))):=by
 have hl0:=hl;obtain ⟨a,cap,rfl,hcap,hm,_,hcell⟩:=hl.ints;obtain ⟨b,o,rfl,_,hc⟩:=hcell 0 (by omega);obtain ⟨z0,h0⟩:∃ z,z=xs.getD 4 0:=⟨_,rfl⟩;obtain ⟨z1,h1⟩:∃ z,z=xs.getD 5 0:=⟨_,rfl⟩;obtain ⟨z2,h2⟩:∃ z,z=xs.getD 6 0:=⟨_,rfl⟩;obtain ⟨z3,h3⟩:∃ z,z=xs.getD 7 0:=⟨_,rfl⟩;have c0:=hc 4 (by omega);have c1:=hc 5 (by omega);have c2:=hc 6 (by omega);have c3:=hc 7 (by omega);rw [←h0] at c0;rw [←h1] at c1;rw [←h2] at c2;rw [←h3] at c3;obtain ⟨q,hq⟩:∃ q,q=nearB xs 4 8 0 255:=⟨_,rfl⟩;have HQ:Hid (pixB xs 4=(q&&pxR z0 z1 z2 z3)∧(q=true→(0≤z0∧z0≤255)∧(0≤z1∧z1≤255)∧(0≤z2∧z2≤255)∧(0≤z3∧z3≤255))):=by
  refine ⟨by unfold pixB;rw [hq,h0,h1,h2,h3],fun e=>?_⟩;rw [e] at hq;have h:=(nearB_iff _ _ _ _ _).1 hq.symm;rw [h0,h1,h2,h3];exact ⟨h 4 (by omega) (by omega),h 5 (by omega) (by omega),h 6 (by omega) (by omega),h 7 (by omega) (by omega)⟩
 obtain ⟨k0,k1,k2,k3⟩:=kept4 c0 c1 c2 c3;have HA:Hid (∀ s:Kept w.heap.size w,Calls Tryz.prog 106 #[O (some ⟨b,o,none⟩) xs.length cap,Y J 4,Y J 8,Y J 0,Y J 255] s.w (PPost s.w (.bool q))):=fun s=>by
  have h:=near_c (F:=F) _ xs 4 8 0 255 s.w (by omega) hf (hl0.same RInt.ok (Same.of_below s.below hF));rw [←hq] at h;exact h
 have hf1:((4:Int)<(xs.length:Int))∧((5:Int)<(xs.length:Int))∧((6:Int)<(xs.length:Int))∧((7:Int)<(xs.length:Int)):=⟨by omega,by omega,by omega,by omega⟩;obtain ⟨hf2,hf3,hf5,hf6⟩:=hf1;unfold maxLen at hm;clear hc hcell hl hl0 h0 h1 h2 h3 c0 c1 c2 c3 hq hF;go_enter Tryz.func123,Tryz.ntmps123
 cases q with
 |false=>
  have HE:Hid (pixB xs 4=false):=HQ.o.1;go_wp2_with fail;refine wp_region_kept w.heap.size (by kernel_rfl) (by kernel_rfl) ?_
  repeat (go_big_quiet_step (first
   |(go_at_call 106;with_reducible exact Calls.kept _ (U _) (HA.o _))))
  refine wpQuiet_nil ?_;rintro _ ⟨s,rfl⟩;go_wp2_with fail;go_ret;exact ⟨ret_b HE.o.symm,s.below⟩
 |true=>
  obtain ⟨⟨a0,a1⟩,⟨b0,b1⟩,⟨d0,d1⟩,⟨g0,g1⟩⟩:=HQ.o.2 rfl;have HB:Hid (∀ s:Kept w.heap.size w,Calls Tryz.prog 67 #[.agg #[Y Z z0,Y Z z1,Y Z z2,Y Z z3]] s.w (PPost s.w (.bool (pxR z0 z1 z2 z3)))):=fun s=>right01_c z0 z1 z2 z3 s.w;have HE:Hid (pixB xs 4=pxR z0 z1 z2 z3):=HQ.o.1;have v0:z0%256=z0:=by omega
  have v1:z1%256=z1:=by omega
  have v2:z2%256=z2:=by omega
  have v3:z3%256=z3:=by omega
  generalize pxR z0 z1 z2 z3=r at *;go_wp2_with fail;refine wp_region_kept w.heap.size (by kernel_rfl) (by kernel_rfl) ?_
  repeat (go_big_quiet_step (first
   |(go_at_call 106;with_reducible exact Calls.kept _ (U _) (HA.o _))
   |(go_at_call 67;with_reducible exact Calls.kept _ (U _) (HB.o _))))
  refine wpQuiet_nil ?_;rintro _ ⟨s,rfl⟩;go_wp2_with fail;go_ret;exact ⟨ret_b HE.o.symm,s.below⟩
def leastL:List Int:=[0,1,1,1,1,1,0,2,2,1,1,1,1]
def mostL:List Int:=[0,1,1,1,1,1,0,2,2,8,1,1,1]
def parL:List Int:=[0,2,2,2,2,20,8,1,1,0,4,8,4]
def Tabs (w:World):Prop:=∀ j:Nat,j<13→w.cell? ⟨0,j,none⟩=some (Y J (leastL.getD j 0))∧w.cell? ⟨1,j,none⟩=some (Y J (mostL.getD j 0))∧w.cell? ⟨2,j,none⟩=some (Y J (parL.getD j 0))
theorem Tabs.below {w W:World} (h:Tabs w) (hb:Below w.heap.size w W):Tabs W:=fun j hj=>
 ⟨(hb.cell (lt_of_cell (h j hj).1)).trans (h j hj).1,(hb.cell (lt_of_cell (h j hj).2.1)).trans (h j hj).2.1,(hb.cell (lt_of_cell (h j hj).2.2)).trans (h j hj).2.2⟩
theorem up {n:Nat} {w W:World} {v:Value} {P:Program} {f:FuncId} {args:Array Value} (hb:Below n w W) (h:Calls P f args W (PPost W v)) (hn:n≤w.heap.size):Calls P f args W fun e w'=>e=.returned v∧Below n w w':=
 h.mono fun _ _ ⟨he,hb'⟩=>⟨he,hb.trans (hb'.mono (Nat.le_trans hn hb.size))⟩
def arity (op:Int):Array Value:=if op<1∨12<op then #[Y J 0,Y J 0,Y J 0,.bool false] else #[Y J (leastL.getD op.toNat 0),Y J (mostL.getD op.toNat 0),Y J (parL.getD op.toNat 0),.bool true]
theorem arity_c (op:Int) (w:World) (ht:Tabs w):Calls Tryz.prog 105 #[Y J op] w (PPost w (.tuple (arity op))):=by
 by_cases h1:op<1
 ·have HE:Hid (arity op=#[Y J 0,Y J 0,Y J 0,.bool false]):=if_pos (.inl h1);rw [HE.o];go_enter Tryz.func105,Tryz.ntmps105;go_wp2_with fail;refine bodyPost_ret (v:=.tuple #[Y J 0,Y J 0,Y J 0,.bool false]) (by simp [results,Tryz.results105,go_sem]) rfl ?_;exact ⟨rfl,Below.refl _ _⟩
 ·by_cases h2:12<op
  ·have HE:Hid (arity op=#[Y J 0,Y J 0,Y J 0,.bool false]):=if_pos (.inr h2);rw [HE.o];go_enter Tryz.func105,Tryz.ntmps105;go_wp2_with fail;refine bodyPost_ret (v:=.tuple #[Y J 0,Y J 0,Y J 0,.bool false]) (by simp [results,Tryz.results105,go_sem]) rfl ?_;exact ⟨rfl,Below.refl _ _⟩
  ·obtain ⟨j,rfl⟩:∃ j:Nat,op=j:=⟨op.toNat,by omega⟩;have hj:j<13:=by omega
   have HE:Hid (arity j=#[Y J (leastL.getD j 0),Y J (mostL.getD j 0),Y J (parL.getD j 0),.bool true]):=by
    unfold arity;rw [if_neg (by omega),Int.toNat_natCast];exact rfl
   rw [HE.o];obtain ⟨c0,c1,c2⟩:=ht j hj;generalize leastL.getD j 0=z0 at *;generalize mostL.getD j 0=z1 at *;generalize parL.getD j 0=z2 at *;have hj0:(0:Int)≤(j:Int):=by omega
   have hj1:(j:Int)<13:=by omega
   obtain ⟨k0,k1,k2⟩:=kept3 c0 c1 c2;clear c0 c1 c2 ht;go_enter Tryz.func105,Tryz.ntmps105;go_wp2_with fail;refine wp_region_kept w.heap.size (by kernel_rfl) (by kernel_rfl) ?_
   repeat (go_big_quiet_step (fail))
   refine wpQuiet_nil ?_;rintro _ ⟨s,rfl⟩;go_wp2_with fail;refine bodyPost_ret (v:=.tuple #[Y J z0,Y J z1,Y J z2,.bool true]) (by simp [results,Tryz.results105,go_sem]) rfl ?_;exact ⟨rfl,s.below⟩
def bndB (op:Int) (xs:List Int):Bool:=
 if op=1 then nearB xs 0 2 (-1048576) 1048576
 else if op=2∨op=3∨op=4 then nearB xs 0 2 0 255
 else if op=5 then r7 xs
 else if op=6 then pixB xs 0&&nearB xs 4 8 (-1048576) 1048576
 else if op=7 then nearB xs 0 1 0 6
 else if op=8 then nearB xs 0 1 0 5
 else if op=10 then nearB xs 0 4 (-1048576) 1048576&&(decide (xs.getD 0 0<xs.getD 2 0)&&(decide (xs.getD 1 0<xs.getD 3 0)&&(decide (xs.getD 2 0-xs.getD 0 0≤4096)&&decide (xs.getD 3 0-xs.getD 1 0≤4096))))
 else if op=11 then nearB xs 0 2 (-1048576) 1048576&&(nearB xs 2 4 0 255&&pixB xs 4)
 else if op=12 then nearB xs 0 4 (-1048576) 1048576
 else true
theorem bounds1_c {F:Nat→Prop} (ia:Option Addr) (il ic:Nat) (pv:Value) (xs:List Int) (w:World) (hn:xs.length=2) (hF:∀ b,F b→b<w.heap.size) (hl:SlOf RInt 1 F w pv xs):
  Calls Tryz.prog 107 #[.agg #[Y J 1,O ia il ic,pv]] w (PPost w (.bool (bndB 1 xs))):=by
 have HL:Hid (∀ W,Below w.heap.size w W→SlOf RInt 1 F W pv xs∧∀ b,F b→b<W.heap.size):=fun W hb=>⟨hl.same RInt.ok (Same.of_below hb hF),fun b hb'=>V (hF b hb') hb.size⟩;obtain ⟨a,cap,rfl,hcap,hm,_,hcell⟩:=hl.ints;unfold maxLen at hm;have X:=Box.new w [Y J 1,O ia il ic,O a xs.length cap] 52;have B1:Below w.heap.size w (w.alloc (.cells #[Y J 1,O ia il ic,O a xs.length cap] 52)):=below_alloc _ _;obtain ⟨q,hq⟩:∃ q,q=nearB xs 0 2 (-1048576) 1048576:=⟨_,rfl⟩;have H1:Hid (∀ W,Below w.heap.size w W→Calls Tryz.prog 106 #[O a xs.length cap,Y J 0,Y J 2,Y J (-1048576),Y J 1048576] W fun e w'=>e=.returned (.bool q)∧Below w.heap.size w w'):=fun W hb=>by
  have h:=up hb (near_c (F:=F) _ xs 0 2 (-1048576) 1048576 W (by omega) (by omega) (HL.o W hb).1) (U _);rw [←hq] at h;exact h
 have HE:Hid (bndB 1 xs=q):=by rw [hq];rfl
 clear hn hl hcell HL hq;go_enter Tryz.func107,Tryz.ntmps107;go_wp2_with fail;have x0:=X.cell 0 rfl;have x2:=X.cell 2 rfl;generalize w.alloc (.cells #[Y J 1,O ia il ic,O a xs.length cap] 52)=W1 at *;clear X
 go_wp2_with (first|(go_at_call 106;with_reducible refine (H1.o _ (by assumption)).mono ?_;rintro e w5 ⟨rfl,b5⟩))
 go_ret;exact ⟨ret_b HE.o.symm,by assumption⟩
theorem bounds2_c {F:Nat→Prop} (ia:Option Addr) (il ic:Nat) (pv:Value) (xs:List Int) (w:World) (hn:xs.length=2) (hF:∀ b,F b→b<w.heap.size) (hl:SlOf RInt 1 F w pv xs):
  Calls Tryz.prog 107 #[.agg #[Y J 2,O ia il ic,pv]] w (PPost w (.bool (bndB 2 xs))):=by
 have HL:Hid (∀ W,Below w.heap.size w W→SlOf RInt 1 F W pv xs∧∀ b,F b→b<W.heap.size):=fun W hb=>⟨hl.same RInt.ok (Same.of_below hb hF),fun b hb'=>V (hF b hb') hb.size⟩;obtain ⟨a,cap,rfl,hcap,hm,_,hcell⟩:=hl.ints;unfold maxLen at hm;have X:=Box.new w [Y J 2,O ia il ic,O a xs.length cap] 52;have B1:Below w.heap.size w (w.alloc (.cells #[Y J 2,O ia il ic,O a xs.length cap] 52)):=below_alloc _ _;obtain ⟨q,hq⟩:∃ q,q=nearB xs 0 2 0 255:=⟨_,rfl⟩;have H1:Hid (∀ W,Below w.heap.size w W→Calls Tryz.prog 106 #[O a xs.length cap,Y J 0,Y J 2,Y J 0,Y J 255] W fun e w'=>e=.returned (.bool q)∧Below w.heap.size w w'):=fun W hb=>by
  have h:=up hb (near_c (F:=F) _ xs 0 2 0 255 W (by omega) (by omega) (HL.o W hb).1) (U _);rw [←hq] at h;exact h
 have HE:Hid (bndB 2 xs=q):=by rw [hq];rfl
 clear hn hl hcell HL hq;go_enter Tryz.func107,Tryz.ntmps107;go_wp2_with fail;have x0:=X.cell 0 rfl;have x2:=X.cell 2 rfl;generalize w.alloc (.cells #[Y J 2,O ia il ic,O a xs.length cap] 52)=W1 at *;clear X
 go_wp2_with (first|(go_at_call 106;with_reducible refine (H1.o _ (by assumption)).mono ?_;rintro e w5 ⟨rfl,b5⟩))
 go_ret;exact ⟨ret_b HE.o.symm,by assumption⟩
theorem bounds3_c {F:Nat→Prop} (ia:Option Addr) (il ic:Nat) (pv:Value) (xs:List Int) (w:World) (hn:xs.length=2) (hF:∀ b,F b→b<w.heap.size) (hl:SlOf RInt 1 F w pv xs):
  Calls Tryz.prog 107 #[.agg #[Y J 3,O ia il ic,pv]] w (PPost w (.bool (bndB 3 xs))):=by
 have HL:Hid (∀ W,Below w.heap.size w W→SlOf RInt 1 F W pv xs∧∀ b,F b→b<W.heap.size):=fun W hb=>⟨hl.same RInt.ok (Same.of_below hb hF),fun b hb'=>V (hF b hb') hb.size⟩;obtain ⟨a,cap,rfl,hcap,hm,_,hcell⟩:=hl.ints;unfold maxLen at hm;have X:=Box.new w [Y J 3,O ia il ic,O a xs.length cap] 52;have B1:Below w.heap.size w (w.alloc (.cells #[Y J 3,O ia il ic,O a xs.length cap] 52)):=below_alloc _ _;obtain ⟨q,hq⟩:∃ q,q=nearB xs 0 2 0 255:=⟨_,rfl⟩;have H1:Hid (∀ W,Below w.heap.size w W→Calls Tryz.prog 106 #[O a xs.length cap,Y J 0,Y J 2,Y J 0,Y J 255] W fun e w'=>e=.returned (.bool q)∧Below w.heap.size w w'):=fun W hb=>by
  have h:=up hb (near_c (F:=F) _ xs 0 2 0 255 W (by omega) (by omega) (HL.o W hb).1) (U _);rw [←hq] at h;exact h
 have HE:Hid (bndB 3 xs=q):=by rw [hq];rfl
 clear hn hl hcell HL hq;go_enter Tryz.func107,Tryz.ntmps107;go_wp2_with fail;have x0:=X.cell 0 rfl;have x2:=X.cell 2 rfl;generalize w.alloc (.cells #[Y J 3,O ia il ic,O a xs.length cap] 52)=W1 at *;clear X
 go_wp2_with (first|(go_at_call 106;with_reducible refine (H1.o _ (by assumption)).mono ?_;rintro e w5 ⟨rfl,b5⟩))
 go_ret;exact ⟨ret_b HE.o.symm,by assumption⟩
theorem bounds4_c {F:Nat→Prop} (ia:Option Addr) (il ic:Nat) (pv:Value) (xs:List Int) (w:World) (hn:xs.length=2) (hF:∀ b,F b→b<w.heap.size) (hl:SlOf RInt 1 F w pv xs):
  Calls Tryz.prog 107 #[.agg #[Y J 4,O ia il ic,pv]] w (PPost w (.bool (bndB 4 xs))):=by
 have HL:Hid (∀ W,Below w.heap.size w W→SlOf RInt 1 F W pv xs∧∀ b,F b→b<W.heap.size):=fun W hb=>⟨hl.same RInt.ok (Same.of_below hb hF),fun b hb'=>V (hF b hb') hb.size⟩;obtain ⟨a,cap,rfl,hcap,hm,_,hcell⟩:=hl.ints;unfold maxLen at hm;have X:=Box.new w [Y J 4,O ia il ic,O a xs.length cap] 52;have B1:Below w.heap.size w (w.alloc (.cells #[Y J 4,O ia il ic,O a xs.length cap] 52)):=below_alloc _ _;obtain ⟨q,hq⟩:∃ q,q=nearB xs 0 2 0 255:=⟨_,rfl⟩;have H1:Hid (∀ W,Below w.heap.size w W→Calls Tryz.prog 106 #[O a xs.length cap,Y J 0,Y J 2,Y J 0,Y J 255] W fun e w'=>e=.returned (.bool q)∧Below w.heap.size w w'):=fun W hb=>by
  have h:=up hb (near_c (F:=F) _ xs 0 2 0 255 W (by omega) (by omega) (HL.o W hb).1) (U _);rw [←hq] at h;exact h
 have HE:Hid (bndB 4 xs=q):=by rw [hq];rfl
 clear hn hl hcell HL hq;go_enter Tryz.func107,Tryz.ntmps107;go_wp2_with fail;have x0:=X.cell 0 rfl;have x2:=X.cell 2 rfl;generalize w.alloc (.cells #[Y J 4,O ia il ic,O a xs.length cap] 52)=W1 at *;clear X
 go_wp2_with (first|(go_at_call 106;with_reducible refine (H1.o _ (by assumption)).mono ?_;rintro e w5 ⟨rfl,b5⟩))
 go_ret;exact ⟨ret_b HE.o.symm,by assumption⟩
theorem bounds5_c {F:Nat→Prop} (ia:Option Addr) (il ic:Nat) (pv:Value) (xs:List Int) (w:World) (hn:xs.length=20) (hF:∀ b,F b→b<w.heap.size) (hl:SlOf RInt 1 F w pv xs):
  Calls Tryz.prog 107 #[.agg #[Y J 5,O ia il ic,pv]] w (PPost w (.bool (bndB 5 xs))):=by
 have HL:Hid (∀ W,Below w.heap.size w W→SlOf RInt 1 F W pv xs∧∀ b,F b→b<W.heap.size):=fun W hb=>⟨hl.same RInt.ok (Same.of_below hb hF),fun b hb'=>V (hF b hb') hb.size⟩;obtain ⟨a,cap,rfl,hcap,hm,_,hcell⟩:=hl.ints;unfold maxLen at hm;have X:=Box.new w [Y J 5,O ia il ic,O a xs.length cap] 52;have B1:Below w.heap.size w (w.alloc (.cells #[Y J 5,O ia il ic,O a xs.length cap] 52)):=below_alloc _ _;obtain ⟨q,hq⟩:∃ q,q=r7 xs:=⟨_,rfl⟩;have H1:Hid (∀ W,Below w.heap.size w W→Calls Tryz.prog 122 #[O a xs.length cap] W fun e w'=>e=.returned (.bool q)∧Below w.heap.size w w'):=fun W hb=>by
  have h:=up hb (right07_c (F:=F) _ xs W (HL.o W hb).1) (U _);rw [←hq] at h;exact h
 have HE:Hid (bndB 5 xs=q):=by rw [hq];rfl
 clear hn hl hcell HL hq;go_enter Tryz.func107,Tryz.ntmps107;go_wp2_with fail;have x0:=X.cell 0 rfl;have x2:=X.cell 2 rfl;generalize w.alloc (.cells #[Y J 5,O ia il ic,O a xs.length cap] 52)=W1 at *;clear X
 go_wp2_with (first|(go_at_call 122;with_reducible refine (H1.o _ (by assumption)).mono ?_;rintro e w5 ⟨rfl,b5⟩))
 go_ret;exact ⟨ret_b HE.o.symm,by assumption⟩
theorem bounds7_c {F:Nat→Prop} (ia:Option Addr) (il ic:Nat) (pv:Value) (xs:List Int) (w:World) (hn:xs.length=1) (hF:∀ b,F b→b<w.heap.size) (hl:SlOf RInt 1 F w pv xs):
  Calls Tryz.prog 107 #[.agg #[Y J 7,O ia il ic,pv]] w (PPost w (.bool (bndB 7 xs))):=by
 have HL:Hid (∀ W,Below w.heap.size w W→SlOf RInt 1 F W pv xs∧∀ b,F b→b<W.heap.size):=fun W hb=>⟨hl.same RInt.ok (Same.of_below hb hF),fun b hb'=>V (hF b hb') hb.size⟩;obtain ⟨a,cap,rfl,hcap,hm,_,hcell⟩:=hl.ints;unfold maxLen at hm;have X:=Box.new w [Y J 7,O ia il ic,O a xs.length cap] 52;have B1:Below w.heap.size w (w.alloc (.cells #[Y J 7,O ia il ic,O a xs.length cap] 52)):=below_alloc _ _;obtain ⟨q,hq⟩:∃ q,q=nearB xs 0 1 0 6:=⟨_,rfl⟩;have H1:Hid (∀ W,Below w.heap.size w W→Calls Tryz.prog 106 #[O a xs.length cap,Y J 0,Y J 1,Y J 0,Y J 6] W fun e w'=>e=.returned (.bool q)∧Below w.heap.size w w'):=fun W hb=>by
  have h:=up hb (near_c (F:=F) _ xs 0 1 0 6 W (by omega) (by omega) (HL.o W hb).1) (U _);rw [←hq] at h;exact h
 have HE:Hid (bndB 7 xs=q):=by rw [hq];rfl
 clear hn hl hcell HL hq;go_enter Tryz.func107,Tryz.ntmps107;go_wp2_with fail;have x0:=X.cell 0 rfl;have x2:=X.cell 2 rfl;generalize w.alloc (.cells #[Y J 7,O ia il ic,O a xs.length cap] 52)=W1 at *;clear X
 go_wp2_with (first|(go_at_call 106;with_reducible refine (H1.o _ (by assumption)).mono ?_;rintro e w5 ⟨rfl,b5⟩))
 go_ret;exact ⟨ret_b HE.o.symm,by assumption⟩
theorem bounds8_c {F:Nat→Prop} (ia:Option Addr) (il ic:Nat) (pv:Value) (xs:List Int) (w:World) (hn:xs.length=1) (hF:∀ b,F b→b<w.heap.size) (hl:SlOf RInt 1 F w pv xs):
  Calls Tryz.prog 107 #[.agg #[Y J 8,O ia il ic,pv]] w (PPost w (.bool (bndB 8 xs))):=by
 have HL:Hid (∀ W,Below w.heap.size w W→SlOf RInt 1 F W pv xs∧∀ b,F b→b<W.heap.size):=fun W hb=>⟨hl.same RInt.ok (Same.of_below hb hF),fun b hb'=>V (hF b hb') hb.size⟩;obtain ⟨a,cap,rfl,hcap,hm,_,hcell⟩:=hl.ints;unfold maxLen at hm;have X:=Box.new w [Y J 8,O ia il ic,O a xs.length cap] 52;have B1:Below w.heap.size w (w.alloc (.cells #[Y J 8,O ia il ic,O a xs.length cap] 52)):=below_alloc _ _;obtain ⟨q,hq⟩:∃ q,q=nearB xs 0 1 0 5:=⟨_,rfl⟩;have H1:Hid (∀ W,Below w.heap.size w W→Calls Tryz.prog 106 #[O a xs.length cap,Y J 0,Y J 1,Y J 0,Y J 5] W fun e w'=>e=.returned (.bool q)∧Below w.heap.size w w'):=fun W hb=>by
  have h:=up hb (near_c (F:=F) _ xs 0 1 0 5 W (by omega) (by omega) (HL.o W hb).1) (U _);rw [←hq] at h;exact h
 have HE:Hid (bndB 8 xs=q):=by rw [hq];rfl
 clear hn hl hcell HL hq;go_enter Tryz.func107,Tryz.ntmps107;go_wp2_with fail;have x0:=X.cell 0 rfl;have x2:=X.cell 2 rfl;generalize w.alloc (.cells #[Y J 8,O ia il ic,O a xs.length cap] 52)=W1 at *;clear X
 go_wp2_with (first|(go_at_call 106;with_reducible refine (H1.o _ (by assumption)).mono ?_;rintro e w5 ⟨rfl,b5⟩))
 go_ret;exact ⟨ret_b HE.o.symm,by assumption⟩
theorem bounds12_c {F:Nat→Prop} (ia:Option Addr) (il ic:Nat) (pv:Value) (xs:List Int) (w:World) (hn:xs.length=4) (hF:∀ b,F b→b<w.heap.size) (hl:SlOf RInt 1 F w pv xs):
  Calls Tryz.prog 107 #[.agg #[Y J 12,O ia il ic,pv]] w (PPost w (.bool (bndB 12 xs))):=by
 have HL:Hid (∀ W,Below w.heap.size w W→SlOf RInt 1 F W pv xs∧∀ b,F b→b<W.heap.size):=fun W hb=>⟨hl.same RInt.ok (Same.of_below hb hF),fun b hb'=>V (hF b hb') hb.size⟩;obtain ⟨a,cap,rfl,hcap,hm,_,hcell⟩:=hl.ints;unfold maxLen at hm;have X:=Box.new w [Y J 12,O ia il ic,O a xs.length cap] 52;have B1:Below w.heap.size w (w.alloc (.cells #[Y J 12,O ia il ic,O a xs.length cap] 52)):=below_alloc _ _;obtain ⟨q,hq⟩:∃ q,q=nearB xs 0 4 (-1048576) 1048576:=⟨_,rfl⟩;have H1:Hid (∀ W,Below w.heap.size w W→Calls Tryz.prog 106 #[O a xs.length cap,Y J 0,Y J 4,Y J (-1048576),Y J 1048576] W fun e w'=>e=.returned (.bool q)∧Below w.heap.size w w'):=fun W hb=>by
  have h:=up hb (near_c (F:=F) _ xs 0 4 (-1048576) 1048576 W (by omega) (by omega) (HL.o W hb).1) (U _);rw [←hq] at h;exact h
 have HE:Hid (bndB 12 xs=q):=by rw [hq];rfl
 clear hn hl hcell HL hq;go_enter Tryz.func107,Tryz.ntmps107;go_wp2_with fail;have x0:=X.cell 0 rfl;have x2:=X.cell 2 rfl;generalize w.alloc (.cells #[Y J 12,O ia il ic,O a xs.length cap] 52)=W1 at *;clear X
 go_wp2_with (first|(go_at_call 106;with_reducible refine (H1.o _ (by assumption)).mono ?_;rintro e w5 ⟨rfl,b5⟩))
 go_ret;exact ⟨ret_b HE.o.symm,by assumption⟩
theorem bounds9_c {F:Nat→Prop} (ia:Option Addr) (il ic:Nat) (pv:Value) (xs:List Int) (w:World) (hn:xs.length=0) (hF:∀ b,F b→b<w.heap.size) (hl:SlOf RInt 1 F w pv xs):
  Calls Tryz.prog 107 #[.agg #[Y J 9,O ia il ic,pv]] w (PPost w (.bool (bndB 9 xs))):=by
 have HL:Hid (∀ W,Below w.heap.size w W→SlOf RInt 1 F W pv xs∧∀ b,F b→b<W.heap.size):=fun W hb=>⟨hl.same RInt.ok (Same.of_below hb hF),fun b hb'=>V (hF b hb') hb.size⟩;obtain ⟨a,cap,rfl,hcap,hm,_,hcell⟩:=hl.ints;unfold maxLen at hm;have X:=Box.new w [Y J 9,O ia il ic,O a xs.length cap] 52;have B1:Below w.heap.size w (w.alloc (.cells #[Y J 9,O ia il ic,O a xs.length cap] 52)):=below_alloc _ _;have HE:Hid (bndB 9 xs=true):=rfl;clear hn hl hcell HL;go_enter Tryz.func107,Tryz.ntmps107;go_wp2_with fail;have x0:=X.cell 0 rfl;have x2:=X.cell 2 rfl;generalize w.alloc (.cells #[Y J 9,O ia il ic,O a xs.length cap] 52)=W1 at *;clear X;go_wp2_with fail;go_ret;exact ⟨ret_b HE.o.symm,by assumption⟩
theorem bounds6_c {F:Nat→Prop} (ia:Option Addr) (il ic:Nat) (pv:Value) (xs:List Int) (w:World) (hn:xs.length=8) (hF:∀ b,F b→b<w.heap.size) (hl:SlOf RInt 1 F w pv xs):
  Calls Tryz.prog 107 #[.agg #[Y J 6,O ia il ic,pv]] w (PPost w (.bool (bndB 6 xs))):=by
 have HL:Hid (∀ W,Below w.heap.size w W→SlOf RInt 1 F W pv xs∧∀ b,F b→b<W.heap.size):=fun W hb=>⟨hl.same RInt.ok (Same.of_below hb hF),fun b hb'=>V (hF b hb') hb.size⟩;obtain ⟨a,cap,rfl,hcap,hm,_,hcell⟩:=hl.ints;unfold maxLen at hm;have X:=Box.new w [Y J 6,O ia il ic,O a xs.length cap] 52;have B1:Below w.heap.size w (w.alloc (.cells #[Y J 6,O ia il ic,O a xs.length cap] 52)):=below_alloc _ _;obtain ⟨q,hq⟩:∃ q,q=pixB xs 0:=⟨_,rfl⟩;obtain ⟨r,hr⟩:∃ q,q=nearB xs 4 8 (-1048576) 1048576:=⟨_,rfl⟩;have H1:Hid (∀ W,Below w.heap.size w W→Calls Tryz.prog 123 #[O a xs.length cap,Y J 0] W fun e w'=>e=.returned (.bool q)∧Below w.heap.size w w'):=fun W hb=>by
  have h:=up hb (pixel0_c (F:=F) _ xs W (by omega) (HL.o W hb).2 (HL.o W hb).1) (U _);rw [←hq] at h;exact h
 have H2:Hid (∀ W,Below w.heap.size w W→Calls Tryz.prog 106 #[O a xs.length cap,Y J 4,Y J 8,Y J (-1048576),Y J 1048576] W fun e w'=>e=.returned (.bool r)∧Below w.heap.size w w'):=fun W hb=>by
  have h:=up hb (near_c (F:=F) _ xs 4 8 (-1048576) 1048576 W (by omega) (by omega) (HL.o W hb).1) (U _);rw [←hr] at h;exact h
 have HE:Hid (bndB 6 xs=(q&&r)):=by rw [hq,hr];rfl
 clear hn hl hcell HL hq hr
 cases q with
 |false=>
  go_enter Tryz.func107,Tryz.ntmps107;go_wp2_with fail;have x0:=X.cell 0 rfl;have x2:=X.cell 2 rfl;generalize w.alloc (.cells #[Y J 6,O ia il ic,O a xs.length cap] 52)=W1 at *;clear X
  go_wp2_with (first|(go_at_call 123;with_reducible refine (H1.o _ (by assumption)).mono ?_;rintro e w5 ⟨rfl,b5⟩))
  go_ret;exact ⟨ret_b HE.o.symm,by assumption⟩
 |true=>
  go_enter Tryz.func107,Tryz.ntmps107;go_wp2_with fail;have x0:=X.cell 0 rfl;have x2:=X.cell 2 rfl;generalize w.alloc (.cells #[Y J 6,O ia il ic,O a xs.length cap] 52)=W1 at *;clear X
  go_wp2_with (first|(go_at_call 123;with_reducible refine (H1.o _ (by assumption)).mono ?_;rintro e w5 ⟨rfl,b5⟩)|(go_at_call 106;with_reducible refine (H2.o _ (by assumption)).mono ?_;rintro e w5 ⟨rfl,b5⟩))
  go_ret;exact ⟨ret_b HE.o.symm,by assumption⟩
theorem bounds11_c {F:Nat→Prop} (ia:Option Addr) (il ic:Nat) (pv:Value) (xs:List Int) (w:World) (hn:xs.length=8) (hF:∀ b,F b→b<w.heap.size) (hl:SlOf RInt 1 F w pv xs):
  Calls Tryz.prog 107 #[.agg #[Y J 11,O ia il ic,pv]] w (PPost w (.bool (bndB 11 xs))):=by
 have HL:Hid (∀ W,Below w.heap.size w W→SlOf RInt 1 F W pv xs∧∀ b,F b→b<W.heap.size):=fun W hb=>⟨hl.same RInt.ok (Same.of_below hb hF),fun b hb'=>V (hF b hb') hb.size⟩;obtain ⟨a,cap,rfl,hcap,hm,_,hcell⟩:=hl.ints;unfold maxLen at hm;have X:=Box.new w [Y J 11,O ia il ic,O a xs.length cap] 52;have B1:Below w.heap.size w (w.alloc (.cells #[Y J 11,O ia il ic,O a xs.length cap] 52)):=below_alloc _ _;obtain ⟨q,hq⟩:∃ q,q=nearB xs 0 2 (-1048576) 1048576:=⟨_,rfl⟩;obtain ⟨r,hr⟩:∃ q,q=nearB xs 2 4 0 255:=⟨_,rfl⟩;obtain ⟨s,hs⟩:∃ q,q=pixB xs 4:=⟨_,rfl⟩;have H1:Hid (∀ W,Below w.heap.size w W→Calls Tryz.prog 106 #[O a xs.length cap,Y J 0,Y J 2,Y J (-1048576),Y J 1048576] W fun e w'=>e=.returned (.bool q)∧Below w.heap.size w w'):=fun W hb=>by
  have h:=up hb (near_c (F:=F) _ xs 0 2 (-1048576) 1048576 W (by omega) (by omega) (HL.o W hb).1) (U _);rw [←hq] at h;exact h
 have H2:Hid (∀ W,Below w.heap.size w W→Calls Tryz.prog 106 #[O a xs.length cap,Y J 2,Y J 4,Y J 0,Y J 255] W fun e w'=>e=.returned (.bool r)∧Below w.heap.size w w'):=fun W hb=>by
  have h:=up hb (near_c (F:=F) _ xs 2 4 0 255 W (by omega) (by omega) (HL.o W hb).1) (U _);rw [←hr] at h;exact h
 have H3:Hid (∀ W,Below w.heap.size w W→Calls Tryz.prog 123 #[O a xs.length cap,Y J 4] W fun e w'=>e=.returned (.bool s)∧Below w.heap.size w w'):=fun W hb=>by
  have h:=up hb (pixel4_c (F:=F) _ xs W (by omega) (HL.o W hb).2 (HL.o W hb).1) (U _);rw [←hs] at h;exact h
 have HE:Hid (bndB 11 xs=(q&&(r&&s))):=by rw [hq,hr,hs];rfl
 clear hn hl hcell HL hq hr hs
 cases q with
 |false=>
  go_enter Tryz.func107,Tryz.ntmps107;go_wp2_with fail;have x0:=X.cell 0 rfl;have x2:=X.cell 2 rfl;generalize w.alloc (.cells #[Y J 11,O ia il ic,O a xs.length cap] 52)=W1 at *;clear X
  go_wp2_with (first|(go_at_call 106;with_reducible refine (H1.o _ (by assumption)).mono ?_;rintro e w5 ⟨rfl,b5⟩))
  go_ret;exact ⟨ret_b HE.o.symm,by assumption⟩
 |true=>
  cases r with
  |false=>
   go_enter Tryz.func107,Tryz.ntmps107;go_wp2_with fail;have x0:=X.cell 0 rfl;have x2:=X.cell 2 rfl;generalize w.alloc (.cells #[Y J 11,O ia il ic,O a xs.length cap] 52)=W1 at *;clear X
   go_wp2_with (first|(go_at_call 106;with_reducible refine (H1.o _ (by assumption)).mono ?_;rintro e w5 ⟨rfl,b5⟩)|(go_at_call 106;with_reducible refine (H2.o _ (by assumption)).mono ?_;rintro e w5 ⟨rfl,b5⟩))
   go_ret;exact ⟨ret_b HE.o.symm,by assumption⟩
  |true=>
   go_enter Tryz.func107,Tryz.ntmps107;go_wp2_with fail;have x0:=X.cell 0 rfl;have x2:=X.cell 2 rfl;generalize w.alloc (.cells #[Y J 11,O ia il ic,O a xs.length cap] 52)=W1 at *;clear X
   go_wp2_with (first|(go_at_call 106;with_reducible refine (H1.o _ (by assumption)).mono ?_;rintro e w5 ⟨rfl,b5⟩)|(go_at_call 106;with_reducible refine (H2.o _ (by assumption)).mono ?_;rintro e w5 ⟨rfl,b5⟩)|(go_at_call 123;with_reducible refine (H3.o _ (by assumption)).mono ?_;rintro e w5 ⟨rfl,b5⟩))
   go_ret;exact ⟨ret_b HE.o.symm,by assumption⟩
theorem bounds10_c {F:Nat→Prop} (ia:Option Addr) (il ic:Nat) (pv:Value) (xs:List Int) (w:World) (hn:xs.length=4) (hF:∀ b,F b→b<w.heap.size) (hl:SlOf RInt 1 F w pv xs):
  Calls Tryz.prog 107 #[.agg #[Y J 10,O ia il ic,pv]] w (PPost w (.bool (bndB 10 xs))):=by
 have HL:Hid (∀ W,Below w.heap.size w W→SlOf RInt 1 F W pv xs∧∀ b,F b→b<W.heap.size):=fun W hb=>⟨hl.same RInt.ok (Same.of_below hb hF),fun b hb'=>V (hF b hb') hb.size⟩;obtain ⟨a,cap,rfl,hcap,hm,_,hcell⟩:=hl.ints;unfold maxLen at hm;have X:=Box.new w [Y J 10,O ia il ic,O a xs.length cap] 52;have B1:Below w.heap.size w (w.alloc (.cells #[Y J 10,O ia il ic,O a xs.length cap] 52)):=below_alloc _ _;obtain ⟨b,o,rfl,_,hc⟩:=hcell 0 (by omega);obtain ⟨z0,h0⟩:∃ z,z=xs.getD 0 0:=⟨_,rfl⟩;obtain ⟨z1,h1⟩:∃ z,z=xs.getD 1 0:=⟨_,rfl⟩;obtain ⟨z2,h2⟩:∃ z,z=xs.getD 2 0:=⟨_,rfl⟩;obtain ⟨z3,h3⟩:∃ z,z=xs.getD 3 0:=⟨_,rfl⟩;have c0:w.cell? ⟨b,o,none⟩=some (Y J (xs.getD 0 0)):=hc 0 (by omega);have c1:=hc 1 (by omega);have c2:=hc 2 (by omega);have c3:=hc 3 (by omega);rw [←h0] at c0;rw [←h1] at c1;rw [←h2] at c2;rw [←h3] at c3;obtain ⟨q,hq⟩:∃ q,q=nearB xs 0 4 (-1048576) 1048576:=⟨_,rfl⟩;have H1:Hid (∀ W,Below w.heap.size w W→Calls Tryz.prog 106 #[O (some ⟨b,o,none⟩) xs.length cap,Y J 0,Y J 4,Y J (-1048576),Y J 1048576] W (PPost W (.bool q))):=fun W hb=>by
  have h:=near_c (F:=F) _ xs 0 4 (-1048576) 1048576 W (by omega) (by omega) (HL.o W hb).1;rw [←hq] at h;exact h
 have HZ:Hid (q=true→(-1048576≤z0∧z0≤1048576)∧(-1048576≤z1∧z1≤1048576)∧(-1048576≤z2∧z2≤1048576)∧(-1048576≤z3∧z3≤1048576)):=fun e=>by
  rw [e] at hq;have h:=(nearB_iff _ _ _ _ _).1 hq.symm;rw [h0,h1,h2,h3];exact ⟨h 0 (by omega) (by omega),h 1 (by omega) (by omega),h 2 (by omega) (by omega),h 3 (by omega) (by omega)⟩
 have HE:Hid (bndB 10 xs=(q&&(decide (z0<z2)&&(decide (z1<z3)&&(decide (z2-z0≤4096)&&decide (z3-z1≤4096)))))):=by rw [hq,h0,h1,h2,h3];rfl
 have lt:=lt_of_cell c0;have d0:=cell_alloc_lt c0 (.cells #[Y J 10,O ia il ic,O (some ⟨b,o,none⟩) xs.length cap] 52);have d1:=cell_alloc_lt c1 (.cells #[Y J 10,O ia il ic,O (some ⟨b,o,none⟩) xs.length cap] 52);have d2:=cell_alloc_lt c2 (.cells #[Y J 10,O ia il ic,O (some ⟨b,o,none⟩) xs.length cap] 52);have d3:=cell_alloc_lt c3 (.cells #[Y J 10,O ia il ic,O (some ⟨b,o,none⟩) xs.length cap] 52);have hf1:((0:Int)<(xs.length:Int))∧((1:Int)<(xs.length:Int))∧((2:Int)<(xs.length:Int))∧((3:Int)<(xs.length:Int)):=⟨by omega,by omega,by omega,by omega⟩;obtain ⟨hf2,hf3,hf5,hf6⟩:=hf1;have hs:w.heap.size≤(w.alloc (.cells #[Y J 10,O ia il ic,O (some ⟨b,o,none⟩) xs.length cap] 52)).heap.size:=by rw [size_alloc];omega
 have x0:=X.cell 0 rfl;have x2:=X.cell 2 rfl;clear hn hl hcell HL hc h0 h1 h2 h3 c0 c1 c2 c3 hq hF lt X
 cases q with
 |false=>
  have HE:Hid (bndB 10 xs=false):=HE.o;clear HZ;go_enter Tryz.func107,Tryz.ntmps107;go_wp2_with fail;generalize w.alloc (.cells #[Y J 10,O ia il ic,O (some ⟨b,o,none⟩) xs.length cap] 52)=W1 at *;obtain ⟨k0,k1,k2,k3⟩:=kept4 d0 d1 d2 d3;refine wp_region_kept W1.heap.size (by kernel_rfl) (by kernel_rfl) ?_
  repeat (go_big_quiet_step (first
   |(go_at_call 106;with_reducible exact Calls.kept _ (U _) (H1.o _ (B1.trans (Kept.below _ |>.mono hs))))))
  refine wpQuiet_nil ?_;rintro _ ⟨s,rfl⟩;go_wp2_with fail;go_ret;exact ⟨ret_b HE.o.symm,B1.trans (s.below.mono hs)⟩
 |true=>
  obtain ⟨⟨a0,a1⟩,⟨b0,b1⟩,⟨e0,e1⟩,⟨g0,g1⟩⟩:=HZ.o rfl;clear HZ;by_cases p1:z0<z2
  ·skip
   by_cases p2:z1<z3
   ·skip
    by_cases p3:z2-z0≤4096
    ·skip
     by_cases p4:z3-z1≤4096
     ·skip
      have HE:Hid (bndB 10 xs=true):=by rw [HE.o,decide_eq_true p1,decide_eq_true p2,decide_eq_true p3,decide_eq_true p4];rfl
      go_enter Tryz.func107,Tryz.ntmps107;go_wp2_with fail;generalize w.alloc (.cells #[Y J 10,O ia il ic,O (some ⟨b,o,none⟩) xs.length cap] 52)=W1 at *;obtain ⟨k0,k1,k2,k3⟩:=kept4 d0 d1 d2 d3;refine wp_region_kept W1.heap.size (by kernel_rfl) (by kernel_rfl) ?_
      repeat (go_big_quiet_step (first
       |(go_at_call 106;with_reducible exact Calls.kept _ (U _) (H1.o _ (B1.trans (Kept.below _ |>.mono hs))))))
      refine wpQuiet_nil ?_;rintro _ ⟨s,rfl⟩;go_wp2_with fail;go_ret;exact ⟨ret_b HE.o.symm,B1.trans (s.below.mono hs)⟩
     ·have hE:bndB 10 xs=false:=by rw [HE.o,decide_eq_true p1,decide_eq_true p2,decide_eq_true p3,decide_eq_false p4];simp
      have HE:Hid (bndB 10 xs=false):=hE;clear hE;have hd:decide (z3-z1≤4096)=false:=decide_eq_false p4;clear p4;go_enter Tryz.func107,Tryz.ntmps107;go_wp2_with fail;generalize w.alloc (.cells #[Y J 10,O ia il ic,O (some ⟨b,o,none⟩) xs.length cap] 52)=W1 at *;obtain ⟨k0,k1,k2,k3⟩:=kept4 d0 d1 d2 d3;refine wp_region_kept W1.heap.size (by kernel_rfl) (by kernel_rfl) ?_
      repeat (go_big_quiet_step (first
       |(go_at_call 106;with_reducible exact Calls.kept _ (U _) (H1.o _ (B1.trans (Kept.below _ |>.mono hs))))))
      refine wpQuiet_nil ?_;rintro _ ⟨s,rfl⟩;go_wp2_with fail;go_ret;exact ⟨ret_b HE.o.symm,B1.trans (s.below.mono hs)⟩
    ·have hE:bndB 10 xs=false:=by rw [HE.o,decide_eq_true p1,decide_eq_true p2,decide_eq_false p3];simp
     have HE:Hid (bndB 10 xs=false):=hE;clear hE;have hd:decide (z2-z0≤4096)=false:=decide_eq_false p3;clear p3;go_enter Tryz.func107,Tryz.ntmps107;go_wp2_with fail;generalize w.alloc (.cells #[Y J 10,O ia il ic,O (some ⟨b,o,none⟩) xs.length cap] 52)=W1 at *;obtain ⟨k0,k1,k2,k3⟩:=kept4 d0 d1 d2 d3;refine wp_region_kept W1.heap.size (by kernel_rfl) (by kernel_rfl) ?_
     repeat (go_big_quiet_step (first
      |(go_at_call 106;with_reducible exact Calls.kept _ (U _) (H1.o _ (B1.trans (Kept.below _ |>.mono hs))))))
     refine wpQuiet_nil ?_;rintro _ ⟨s,rfl⟩;go_wp2_with fail;go_ret;exact ⟨ret_b HE.o.symm,B1.trans (s.below.mono hs)⟩
   ·have hE:bndB 10 xs=false:=by rw [HE.o,decide_eq_true p1,decide_eq_false p2];simp
    have HE:Hid (bndB 10 xs=false):=hE;clear hE;have hd:decide (z1<z3)=false:=decide_eq_false p2;clear p2;go_enter Tryz.func107,Tryz.ntmps107;go_wp2_with fail;generalize w.alloc (.cells #[Y J 10,O ia il ic,O (some ⟨b,o,none⟩) xs.length cap] 52)=W1 at *;obtain ⟨k0,k1,k2,k3⟩:=kept4 d0 d1 d2 d3;refine wp_region_kept W1.heap.size (by kernel_rfl) (by kernel_rfl) ?_
    repeat (go_big_quiet_step (first
     |(go_at_call 106;with_reducible exact Calls.kept _ (U _) (H1.o _ (B1.trans (Kept.below _ |>.mono hs))))))
    refine wpQuiet_nil ?_;rintro _ ⟨s,rfl⟩;go_wp2_with fail;go_ret;exact ⟨ret_b HE.o.symm,B1.trans (s.below.mono hs)⟩
  ·have hE:bndB 10 xs=false:=by rw [HE.o,decide_eq_false p1];simp
   have HE:Hid (bndB 10 xs=false):=hE;clear hE;have hd:decide (z0<z2)=false:=decide_eq_false p1;clear p1;go_enter Tryz.func107,Tryz.ntmps107;go_wp2_with fail;generalize w.alloc (.cells #[Y J 10,O ia il ic,O (some ⟨b,o,none⟩) xs.length cap] 52)=W1 at *;obtain ⟨k0,k1,k2,k3⟩:=kept4 d0 d1 d2 d3;refine wp_region_kept W1.heap.size (by kernel_rfl) (by kernel_rfl) ?_
   repeat (go_big_quiet_step (first
    |(go_at_call 106;with_reducible exact Calls.kept _ (U _) (H1.o _ (B1.trans (Kept.below _ |>.mono hs))))))
   refine wpQuiet_nil ?_;rintro _ ⟨s,rfl⟩;go_wp2_with fail;go_ret;exact ⟨ret_b HE.o.symm,B1.trans (s.below.mono hs)⟩
theorem bounds_c {F:Nat→Prop} (op:Int) (ia:Option Addr) (il ic:Nat) (pv:Value) (xs:List Int) (w:World) (h1:1≤op) (h2:op≤12) (hn:(xs.length:Int)=parL.getD op.toNat 0) (hF:∀ b,F b→b<w.heap.size) (hl:SlOf RInt 1 F w pv xs):
  Calls Tryz.prog 107 #[.agg #[Y J op,O ia il ic,pv]] w (PPost w (.bool (bndB op xs))):=by
 have h:op=1∨op=2∨op=3∨op=4∨op=5∨op=6∨op=7∨op=8∨op=9∨op=10∨op=11∨op=12:=by omega
 rcases h with rfl|rfl|rfl|rfl|rfl|rfl|rfl|rfl|rfl|rfl|rfl|rfl
 ·exact bounds1_c ia il ic pv xs w (by have e:(xs.length:Int)=2:=hn;omega) hF hl
 ·exact bounds2_c ia il ic pv xs w (by have e:(xs.length:Int)=2:=hn;omega) hF hl
 ·exact bounds3_c ia il ic pv xs w (by have e:(xs.length:Int)=2:=hn;omega) hF hl
 ·exact bounds4_c ia il ic pv xs w (by have e:(xs.length:Int)=2:=hn;omega) hF hl
 ·exact bounds5_c ia il ic pv xs w (by have e:(xs.length:Int)=20:=hn;omega) hF hl
 ·exact bounds6_c ia il ic pv xs w (by have e:(xs.length:Int)=8:=hn;omega) hF hl
 ·exact bounds7_c ia il ic pv xs w (by have e:(xs.length:Int)=1:=hn;omega) hF hl
 ·exact bounds8_c ia il ic pv xs w (by have e:(xs.length:Int)=1:=hn;omega) hF hl
 ·exact bounds9_c ia il ic pv xs w (by have e:(xs.length:Int)=0:=hn;omega) hF hl
 ·exact bounds10_c ia il ic pv xs w (by have e:(xs.length:Int)=4:=hn;omega) hF hl
 ·exact bounds11_c ia il ic pv xs w (by have e:(xs.length:Int)=8:=hn;omega) hF hl
 ·exact bounds12_c ia il ic pv xs w (by have e:(xs.length:Int)=4:=hn;omega) hF hl
end Go.Proofs.YtgodhpampaleeaaGreatDoor
namespace Go.Proofs.YtgodhpampaleeaaGreatDoor
open Go.RowKit Go.Bx Go.Od Go.Hp
attribute [local go_sem ↓] Go.wp_at_zero Go.wp_at_succ
def oneB (nd:Nd) (count:Nat):Int:=
 if nd.op<1∨12<nd.op then 1
 else if (nd.ins.length:Int)<leastL.getD nd.op.toNat 0∨mostL.getD nd.op.toNat 0<(nd.ins.length:Int)∨((nd.p.length:Int)==parL.getD nd.op.toNat 0)=false then 7
 else if nearB nd.ins 0 nd.ins.length (-1) ((count:Int)-1)=false then 8
 else if bndB nd.op nd.p=false then 3 else 0
theorem one_c {F:Nat→Prop} (op:Int) (iv pv:Value) (ins p:List Int) (count:Nat) (w:World) (hcount:count≤1000) (ht:Tabs w) (hF:∀ b,F b→b<w.heap.size) (hi:SlOf RInt 1 F w iv ins) (hp:SlOf RInt 1 F w pv p):
  Calls Tryz.prog 69 #[.agg #[Y J op,iv,pv],Y J count] w (PPost w (Y J (oneB ⟨op,ins,p⟩ count))):=by
 have HL:Hid (∀ W,Below w.heap.size w W→SlOf RInt 1 F W iv ins∧SlOf RInt 1 F W pv p∧∀ b,F b→b<W.heap.size):=fun W hb=>⟨hi.same RInt.ok (Same.of_below hb hF),hp.same RInt.ok (Same.of_below hb hF),fun b hb'=>V (hF b hb') hb.size⟩;have hil:=hi.len_le;have hpl:=hp.len_le;obtain ⟨ia,ic,rfl,hi1,hi2,_,_⟩:=hi.ints;obtain ⟨pa,pc,rfl,hp1,hp2,_,_⟩:=hp.ints;have X:=Box.new w [Y J op,O ia ins.length ic,O pa p.length pc] 52;have B1:Below w.heap.size w (w.alloc (.cells #[Y J op,O ia ins.length ic,O pa p.length pc] 52)):=below_alloc _ _;obtain ⟨W1,hW1⟩:∃ W,W=w.alloc (.cells #[Y J op,O ia ins.length ic,O pa p.length pc] 52):=⟨_,rfl⟩;rw [←hW1] at X B1;have b11:Below W1.heap.size W1 W1:=Below.refl _ _;have HX:Hid (Box W1 w.heap.size [Y J op,O ia ins.length ic,O pa p.length pc]∧Below w.heap.size w W1):=⟨X,B1⟩;have HS:Hid (∀ W,Below W1.heap.size W1 W→Below w.heap.size w W):=fun W hb=>B1.trans (hb.mono B1.size);have HA:Hid (∀ W,Below W1.heap.size W1 W→Calls Tryz.prog 105 #[Y J op] W fun e w'=>e=.returned (.tuple (arity op))∧Below W1.heap.size W1 w'):=fun W hb=>up hb (arity_c op W (ht.below (HS.o W hb))) (U _);have x0:=X.cell 0 rfl;have x1:=X.cell 1 rfl;have x2:=X.cell 2 rfl;clear X B1 hi hp ht;unfold maxLen at hi2 hp2;by_cases hop:op<1∨12<op
 ·have HE:Hid (oneB ⟨op,ins,p⟩ count=1):=if_pos hop;have ha:arity op=#[Y J 0,Y J 0,Y J 0,.bool false]:=if_pos hop;rw [ha] at HA;clear ha hop HL;go_enter Tryz.func69,Tryz.ntmps69;go_wp2_with fail;rw [←hW1];clear hW1
  go_wp2_with (first
   |(go_at_call 105;with_reducible refine (HA.o _ (by assumption)).mono ?_;rintro e w5 ⟨rfl,b5⟩;have y0:=(HX.o.1.call b5).cell 0 rfl;have y1:=(HX.o.1.call b5).cell 1 rfl;have y2:=(HX.o.1.call b5).cell 2 rfl))
  go_ret;exact ⟨ret_i HE.o.symm,HS.o _ (by assumption)⟩
 have h1:1≤op:=by omega
 have h2:op≤12:=by omega
 have ha:arity op=#[Y J (leastL.getD op.toNat 0),Y J (mostL.getD op.toNat 0),Y J (parL.getD op.toNat 0),.bool true]:=if_neg hop;rw [ha] at HA;have HB:Hid (∀ W,Below W1.heap.size W1 W→(p.length:Int)=parL.getD op.toNat 0→Calls Tryz.prog 107 #[.agg #[Y J op,O ia ins.length ic,O pa p.length pc]] W fun e w'=>e=.returned (.bool (bndB op p))∧Below W1.heap.size W1 w'):=fun W hb hpar=>
  up hb (bounds_c (F:=F) op ia ins.length ic _ p W h1 h2 hpar (HL.o W (HS.o W hb)).2.2 (HL.o W (HS.o W hb)).2.1) (U _)
 have HN:Hid (∀ W,Below W1.heap.size W1 W→Calls Tryz.prog 106 #[O ia ins.length ic,Y J 0,Y J ins.length,Y J (-1),Y J ((count:Int)-1)] W fun e w'=>e=.returned (.bool (nearB ins 0 ins.length (-1) ((count:Int)-1)))∧Below W1.heap.size W1 w'):=fun W hb=>
  up hb (near_c (F:=F) _ ins 0 ins.length (-1) ((count:Int)-1) W (Nat.zero_le _) (U _) (HL.o W (HS.o W hb)).1) (U _)
 have e0:oneB ⟨op,ins,p⟩ count=if (ins.length:Int)<leastL.getD op.toNat 0∨mostL.getD op.toNat 0<(ins.length:Int)∨((p.length:Int)==parL.getD op.toNat 0)=false then 7
   else if nearB ins 0 ins.length (-1) ((count:Int)-1)=false then 8 else if bndB op p=false then 3 else 0:=if_neg hop
 have HE0:Hid (oneB ⟨op,ins,p⟩ count=if (ins.length:Int)<leastL.getD op.toNat 0∨mostL.getD op.toNat 0<(ins.length:Int)∨((p.length:Int)==parL.getD op.toNat 0)=false then 7
   else if nearB ins 0 ins.length (-1) ((count:Int)-1)=false then 8 else if bndB op p=false then 3 else 0):=e0
 clear e0 ha hop HL h1 h2;generalize leastL.getD op.toNat 0=l at *;generalize mostL.getD op.toNat 0=m at *;generalize parL.getD op.toNat 0=pp at *;generalize nearB ins 0 ins.length (-1) ((count:Int)-1)=q at *;generalize bndB op p=r at *;have hc0:(0:Int)≤(count:Int):=by omega
 by_cases c1:(ins.length:Int)<l
 ·have HE:Hid (oneB ⟨op,ins,p⟩ count=7):=by have h:=HE0.o;rw [if_pos (.inl c1)] at h;exact h
  clear HE0;go_enter Tryz.func69,Tryz.ntmps69;go_wp2_with fail;rw [←hW1];clear hW1
  go_wp2_with (first
   |(go_at_call 105;with_reducible refine (HA.o _ (by assumption)).mono ?_;rintro e w5 ⟨rfl,b5⟩;have y0:=(HX.o.1.call b5).cell 0 rfl;have y1:=(HX.o.1.call b5).cell 1 rfl;have y2:=(HX.o.1.call b5).cell 2 rfl))
  go_ret;exact ⟨ret_i HE.o.symm,HS.o _ (by assumption)⟩
 by_cases c2:m<(ins.length:Int)
 ·have HE:Hid (oneB ⟨op,ins,p⟩ count=7):=by have h:=HE0.o;rw [if_pos (.inr (.inl c2))] at h;exact h
  clear HE0;go_enter Tryz.func69,Tryz.ntmps69;go_wp2_with fail;rw [←hW1];clear hW1
  go_wp2_with (first
   |(go_at_call 105;with_reducible refine (HA.o _ (by assumption)).mono ?_;rintro e w5 ⟨rfl,b5⟩;have y0:=(HX.o.1.call b5).cell 0 rfl;have y1:=(HX.o.1.call b5).cell 1 rfl;have y2:=(HX.o.1.call b5).cell 2 rfl))
  go_ret;exact ⟨ret_i HE.o.symm,HS.o _ (by assumption)⟩
 have c2':¬m<(ins.length:Int):=c2
 cases c3:((p.length:Int)==pp) with
 |false=>
  have HE:Hid (oneB ⟨op,ins,p⟩ count=7):=by have h:=HE0.o;rw [if_pos (.inr (.inr c3))] at h;exact h
  have c4:((p.length:Int) != pp)=true:=by simp [bne,c3]
  clear HE0 c3;go_enter Tryz.func69,Tryz.ntmps69;go_wp2_with fail;rw [←hW1];clear hW1
  go_wp2_with (first
   |(go_at_call 105;with_reducible refine (HA.o _ (by assumption)).mono ?_;rintro e w5 ⟨rfl,b5⟩;have y0:=(HX.o.1.call b5).cell 0 rfl;have y1:=(HX.o.1.call b5).cell 1 rfl;have y2:=(HX.o.1.call b5).cell 2 rfl))
  go_ret;exact ⟨ret_i HE.o.symm,HS.o _ (by assumption)⟩
 |true=>
  have HP:Hid ((p.length:Int)=pp):=eq_of_beq c3;have HE1:Hid (oneB ⟨op,ins,p⟩ count=if q=false then 8 else if r=false then 3 else 0):=by
   have h:=HE0.o;rw [if_neg (by rintro (h|h|h);exact c1 h;exact c2 h;rw [c3] at h;cases h)] at h;exact h
  have c4:((p.length:Int) != pp)=false:=by simp [bne,c3]
  clear HE0 c3
  cases q with
  |false=>
   have HE:Hid (oneB ⟨op,ins,p⟩ count=8):=HE1.o;clear HE1;go_enter Tryz.func69,Tryz.ntmps69;go_wp2_with fail;rw [←hW1];clear hW1
   go_wp2_with (first
    |(go_at_call 105;with_reducible refine (HA.o _ (by assumption)).mono ?_;rintro e w5 ⟨rfl,b5⟩;have y0:=(HX.o.1.call b5).cell 0 rfl;have y1:=(HX.o.1.call b5).cell 1 rfl;have y2:=(HX.o.1.call b5).cell 2 rfl)
    |(go_at_call 106;with_reducible refine (HN.o _ (by assumption)).mono ?_;rintro e w6 ⟨rfl,b6⟩;have z0:=(HX.o.1.call b6).cell 0 rfl;have z1:=(HX.o.1.call b6).cell 1 rfl;have z2:=(HX.o.1.call b6).cell 2 rfl))
   go_ret;exact ⟨ret_i HE.o.symm,HS.o _ (by assumption)⟩
  |true=>
   cases r with
   |false=>
    have HE:Hid (oneB ⟨op,ins,p⟩ count=3):=HE1.o;clear HE1;go_enter Tryz.func69,Tryz.ntmps69;go_wp2_with fail;rw [←hW1];clear hW1
    go_wp2_with (first
     |(go_at_call 105;with_reducible refine (HA.o _ (by assumption)).mono ?_;rintro e w5 ⟨rfl,b5⟩;have y0:=(HX.o.1.call b5).cell 0 rfl;have y1:=(HX.o.1.call b5).cell 1 rfl;have y2:=(HX.o.1.call b5).cell 2 rfl)
     |(go_at_call 106;with_reducible refine (HN.o _ (by assumption)).mono ?_;rintro e w6 ⟨rfl,b6⟩;have z0:=(HX.o.1.call b6).cell 0 rfl;have z1:=(HX.o.1.call b6).cell 1 rfl;have z2:=(HX.o.1.call b6).cell 2 rfl)
     |(go_at_call 107;with_reducible refine (HB.o _ (by assumption) HP.o).mono ?_;rintro e w7 ⟨rfl,b7⟩))
    go_ret;exact ⟨ret_i HE.o.symm,HS.o _ (by assumption)⟩
   |true=>
    have HE:Hid (oneB ⟨op,ins,p⟩ count=0):=HE1.o;clear HE1;go_enter Tryz.func69,Tryz.ntmps69;go_wp2_with fail;rw [←hW1];clear hW1
    go_wp2_with (first
     |(go_at_call 105;with_reducible refine (HA.o _ (by assumption)).mono ?_;rintro e w5 ⟨rfl,b5⟩;have y0:=(HX.o.1.call b5).cell 0 rfl;have y1:=(HX.o.1.call b5).cell 1 rfl;have y2:=(HX.o.1.call b5).cell 2 rfl)
     |(go_at_call 106;with_reducible refine (HN.o _ (by assumption)).mono ?_;rintro e w6 ⟨rfl,b6⟩;have z0:=(HX.o.1.call b6).cell 0 rfl;have z1:=(HX.o.1.call b6).cell 1 rfl;have z2:=(HX.o.1.call b6).cell 2 rfl)
     |(go_at_call 107;with_reducible refine (HB.o _ (by assumption) HP.o).mono ?_;rintro e w7 ⟨rfl,b7⟩))
    go_ret;exact ⟨ret_i HE.o.symm,HS.o _ (by assumption)⟩
def badB:List Nd→Nat→Int
 |[],_=>0
 |x::xs,n=>if oneB x n=0 then badB xs n else oneB x n
theorem badB_zero:∀ (nds:List Nd) (n:Nat),(∀ q,q<nds.length→oneB (nds.getD q Nd.none) n=0)→badB nds n=0
 |[],_,_=>rfl
 |x::xs,n,h=>by
  have h0:oneB x n=0:=h 0 (by simp);unfold badB;rw [if_pos h0];exact badB_zero xs n fun q hq=>by have:=h (q+1) (by simpa using hq);simpa using this
theorem badB_at:∀ (nds:List Nd) (n j:Nat),j<nds.length→(∀ q,q<j→oneB (nds.getD q Nd.none) n=0)→oneB (nds.getD j Nd.none) n≠0→badB nds n=oneB (nds.getD j Nd.none) n
 |[],_,_,hj,_,_=>by simp at hj
 |x::xs,n,0,_,_,h=>by
  have h0:oneB x n≠0:=h;unfold badB;rw [if_neg h0];rfl
 |x::xs,n,j+1,hj,h,hne=>by
  have h0:oneB x n=0:=h 0 (by omega);unfold badB;rw [if_pos h0];have:=badB_at xs n j (by simpa using hj) (fun q hq=>by have:=h (q+1) (by omega);simpa using this) (by simpa using hne)
  simpa using this
theorem badB_iff (nds:List Nd) (n:Nat):badB nds n=0↔∀ q,q<nds.length→oneB (nds.getD q Nd.none) n=0:=by
 refine ⟨?_,badB_zero nds n⟩
 induction nds with
 |nil=>intro _ q hq;simp at hq
 |cons x xs ih=>
  intro h q hq;unfold badB at h;by_cases h0:oneB x n=0
  ·rw [if_pos h0] at h
   cases q with
   |zero=>exact h0
   |succ q=>simpa using ih h q (by simpa using hq)
  ·rw [if_neg h0] at h;exact absurd h h0
def chkB (nds:List Nd) (out:Int):Int:=
 if nds.length<1∨256<nds.length then 3
 else if badB nds nds.length≠0 then badB nds nds.length
 else if out<0∨(nds.length:Int)≤out then 8
 else if (ord (insOf nds)).length<nds.length then 6 else 0
theorem check_c (B:Nat) (nv:Value) (nds:List Nd) (out:Int) (w:World) (hm:nds.length≤999) (hl:∀ i,i<nds.length→(nds.getD i Nd.none).ins.length≤1000) (ht:Tabs w) (hg:Gr B w nv nds) (hB:B≤w.heap.size):
  Calls Tryz.prog 40 #[.agg #[nv,Y J out]] w (PPost w (Y J (chkB nds out))):=by
 obtain ⟨ga,gc,rfl⟩:=hg.isSl;have hgl:=hg.len_le;have X:=Box.new w [O ga nds.length gc,Y J out] 33;have B1:Below w.heap.size w (w.alloc (.cells #[O ga nds.length gc,Y J out] 33)):=below_alloc _ _;obtain ⟨W1,hW1⟩:∃ W,W=w.alloc (.cells #[O ga nds.length gc,Y J out] 33):=⟨_,rfl⟩;rw [←hW1] at X B1;have b11:Below W1.heap.size W1 W1:=Below.refl _ _;have HX:Hid (Box W1 w.heap.size [O ga nds.length gc,Y J out]):=X;have HS:Hid (∀ W,Below W1.heap.size W1 W→Below w.heap.size w W):=fun W hb=>B1.trans (hb.mono B1.size);have HG:Hid (∀ W,Below W1.heap.size W1 W→Gr B W (O ga nds.length gc) nds∧B≤W.heap.size∧Tabs W):=fun W hb=>⟨hg.below (HS.o W hb) hB,Nat.le_trans hB (HS.o W hb).size,ht.below (HS.o W hb)⟩;have x0:=X.cell 0 rfl;have x1:=X.cell 1 rfl;have HL:Hid (nds.length≤999∧∀ i,i<nds.length→(nds.getD i Nd.none).ins.length≤1000):=⟨hm,hl⟩;have HO:Hid (∀ W,Below W1.heap.size W1 W→Calls Tryz.prog 69 #[] W fun _ _=>True)∨True:=.inr trivial;clear HO X B1 hg ht hl;by_cases c1:nds.length<1
 ·have c1':(nds.length:Int)<1:=by omega
  have HE:Hid (chkB nds out=3):=if_pos (.inl c1);clear c1;go_enter Tryz.func40,Tryz.ntmps40;go_wp2_with fail;rw [←hW1];clear hW1;go_wp2_with fail;go_ret;exact ⟨ret_i HE.o.symm,HS.o _ (by assumption)⟩
 by_cases c2:256<nds.length
 ·have c2':256<(nds.length:Int):=by omega
  have c1':¬(nds.length:Int)<1:=by omega
  have HE:Hid (chkB nds out=3):=if_pos (.inr c2);clear c1 c2;go_enter Tryz.func40,Tryz.ntmps40;go_wp2_with fail;rw [←hW1];clear hW1;go_wp2_with fail;go_ret;exact ⟨ret_i HE.o.symm,HS.o _ (by assumption)⟩
 have c1':¬(nds.length:Int)<1:=by omega
 have c2':¬256<(nds.length:Int):=by omega
 have e0:chkB nds out=if badB nds nds.length≠0 then badB nds nds.length else if out<0∨(nds.length:Int)≤out then 8 else if (ord (insOf nds)).length<nds.length then 6 else 0:=if_neg (by omega)
 have HE0:Hid (chkB nds out=if badB nds nds.length≠0 then badB nds nds.length else if out<0∨(nds.length:Int)≤out then 8 else if (ord (insOf nds)).length<nds.length then 6 else 0):=e0;clear e0 c1 c2;go_enter Tryz.func40,Tryz.ntmps40;go_wp2_with fail;rw [←hW1];clear hW1;go_wp2_with fail;go_loopw [3] (fun jv wr=>∃ j:Nat,j≤nds.length∧jv=Y J j∧Below W1.heap.size W1 wr∧Hid (∀ q,q<j→oneB (nds.getD q Nd.none) nds.length=0)) (fun jv _=>nds.length-(intOf jv).toNat)
 case atStart=>exact ⟨0,by omega,rfl,b11,fun q hq=>by omega⟩
 case round=>
  obtain ⟨j,hj,rfl,br,hall⟩:=hrel;clear b11;have y0:=(HX.o.call br).cell 0 rfl;have y1:=(HX.o.call br).cell 1 rfl;by_cases hjl:j<nds.length
  ·obtain ⟨b,o,cap,ia,ic,pa,pc,hv,hbB,hcap,hcm,k0,k1,k2,s1,s2⟩:=(HG.o _ br).1.node hjl;simp only [Value.slice.injEq] at hv;obtain ⟨rfl,_,rfl⟩:=hv;have hj0:(0:Int)≤(j:Int):=by omega
   have hj1:(j:Int)<(nds.length:Int):=by omega
   obtain ⟨op,hop⟩:∃ z,z=(nds.getD j Nd.none).op:=⟨_,rfl⟩;obtain ⟨il,hil⟩:∃ z,z=(nds.getD j Nd.none).ins.length:=⟨_,rfl⟩;obtain ⟨pl,hpl⟩:∃ z,z=(nds.getD j Nd.none).p.length:=⟨_,rfl⟩;obtain ⟨c,hc⟩:∃ z,z=oneB (nds.getD j Nd.none) nds.length:=⟨_,rfl⟩;have HO:Hid (∀ s:Kept wr.heap.size wr,Calls Tryz.prog 69 #[.agg #[Y J op,O ia il ic,O pa pl pc],Y J nds.length] s.w (PPost s.w (Y J c))):=fun s=>by
    have hlt:∀ b',b'<B→b'<s.w.heap.size:=fun b' hb'=>by
     have h1:=(HG.o _ br).2.1;have h2:=s.below.size;omega
    have hsm:Same (·<B) wr s.w:=fun b' hb'=>s.below.block b' (by have h1:=(HG.o _ br).2.1;have:b'<B:=hb';omega);have h:=one_c (F:=(·<B)) op (O ia (nds.getD j Nd.none).ins.length ic) (O pa (nds.getD j Nd.none).p.length pc) (nds.getD j Nd.none).ins (nds.getD j Nd.none).p nds.length s.w (by have:=HL.o.1;omega) ((HG.o _ br).2.2.below s.below) hlt (s1.same RInt.ok hsm) (s2.same RInt.ok hsm);have e:oneB ⟨op,(nds.getD j Nd.none).ins,(nds.getD j Nd.none).p⟩ nds.length=c:=by rw [hc,hop]
    rw [e,←hil,←hpl] at h;exact h
   rw [←hop] at k0;rw [←hil] at k1;rw [←hpl] at k2;have HC:Hid (c=oneB (nds.getD j Nd.none) nds.length):=hc;obtain ⟨f0,f1,f2,f3,f4⟩:=kept5 y0 y1 k0 k1 k2;unfold maxLen at hcm;clear s1 s2 hop hil hpl hc k0 k1 k2;go_wp2_with fail;refine wp_region_kept wr.heap.size (by kernel_rfl) (by kernel_rfl) ?_
   repeat (go_big_quiet_step (first
    |(go_at_call 69;with_reducible exact Calls.kept _ (U _) (HO.o _))))
   refine wpQuiet_nil ?_;rintro _ ⟨s,rfl⟩;have HB:Hid (Below W1.heap.size W1 s.w):=br.trans (s.below.mono br.size);by_cases hc0:c=0
   ·have c0:(c==0)=true:=by simp [hc0]
    have c0':(c != 0)=false:=by simp [hc0]
    have HA:Hid (∀ q,q<j+1→oneB (nds.getD q Nd.none) nds.length=0):=fun q hq=>by
     by_cases e:q=j
     ·rw [e,←HC.o];exact hc0
     ·exact hall.out q (by omega)
    clear hc0;go_wp2_with fail;go_roundw
    case rel=>exact ⟨j+1,by omega,by go_num,HB.o,HA⟩
    case measure=>simp [intOf];omega
   ·have c0:(c==0)=false:=by simp [hc0]
    have c0':(c != 0)=true:=by simp [hc0]
    have HE:Hid (chkB nds out=c):=by
     have e:badB nds nds.length=c:=by
      have h:=badB_at nds nds.length j hjl hall.out (by rw [←HC.o];exact hc0);rw [h,←HC.o]
     have h:=HE0.o;rw [e,if_pos hc0] at h;exact h
    clear hc0;go_wp2_with fail;go_ret;exact ⟨ret_i HE.o.symm,HS.o _ HB.o⟩
  ·have ej:j=nds.length:=by omega
   subst ej;have e1:chkB nds out=if out<0∨(nds.length:Int)≤out then 8 else if (ord (insOf nds)).length<nds.length then 6 else 0:=by
    have h:=HE0.o;rw [badB_zero nds nds.length hall.out,if_neg (by simp)] at h;exact h
   by_cases d1:out<0
   ·have HE:Hid (chkB nds out=8):=by rw [e1];exact if_pos (.inl d1)
    clear e1;go_wp2_with fail;go_ret;exact ⟨ret_i HE.o.symm,HS.o _ br⟩
   ·by_cases d2:(nds.length:Int)≤out
    ·have HE:Hid (chkB nds out=8):=by rw [e1];exact if_pos (.inr d2)
     clear e1;go_wp2_with fail;go_ret;exact ⟨ret_i HE.o.symm,HS.o _ br⟩
    ·have HR:Hid (∀ W,Below W1.heap.size W1 W→Calls Tryz.prog 70 #[.agg #[O ga nds.length gc,Y J out]] W fun e w'=>e=.returned (.bool (decide ((ord (insOf nds)).length<nds.length)))∧Below W1.heap.size W1 w'):=fun W hb=>
      up hb (rround_c B _ nds out W HL.o.1 HL.o.2 (HG.o W hb).1 (HG.o W hb).2.1) (U _)
     by_cases d3:(ord (insOf nds)).length<nds.length
     ·have HE:Hid (chkB nds out=6):=by rw [e1,if_neg (by omega)];exact if_pos d3
      rw [decide_eq_true d3] at HR;clear e1 d3
      go_wp2_with (first
       |(go_at_call 70;with_reducible refine (HR.o _ (by assumption)).mono ?_;rintro e w6 ⟨rfl,b6⟩))
      go_ret;exact ⟨ret_i HE.o.symm,HS.o _ (by assumption)⟩
     ·have HE:Hid (chkB nds out=0):=by rw [e1,if_neg (by omega)];exact if_neg d3
      rw [decide_eq_false d3] at HR;clear e1 d3
      go_wp2_with (first
       |(go_at_call 70;with_reducible refine (HR.o _ (by assumption)).mono ?_;rintro e w6 ⟨rfl,b6⟩))
      go_ret;exact ⟨ret_i HE.o.symm,HS.o _ (by assumption)⟩
end Go.Proofs.YtgodhpampaleeaaGreatDoor
