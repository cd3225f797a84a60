/- Texts joined: Aa. -/
import Derived.WalkKit
import Derived.WalkSpells
import Derived.WalkLawsBesides
import Derived.Lib.Hide
import Derived.ProofKit
import Derived.OpenShut
import Derived.ChangeOld
import Derived.Deep.QuietTactic
import Derived.BigQuiet
import Derived.Test.YtgodhpampaleeaaGreatDoorRows
import Derived.Deep.RegionWith
import Derived.Deep.DrawnRows
import Derived.Deep.AppendLies
import Derived.Laws.OwnMore
import Derived.OneCell
import Derived.Deep.RegionLaw
open Go.Value renaming int→Y,slice→J
open Go.IntKind renaming i64→X
open Nat renaming le_refl→Z,le_trans→O,lt_of_lt_of_le→U
open List renaming getElem?_eq_getElem→V,getElem?_eq_some_iff→M,getD_eq_getElem?_getD→S,range→z
open Bool renaming and_eq_true→A
set_option maxRecDepth 4000
set_option maxHeartbeats 3200000
set_option linter.unusedVariables false
namespace Go.Bx
open Go.RowKit
def Box (w:World) (b:Nat) (cs:List Value):Prop:=∃ t,w.heap[b]?=some (.cells cs.toArray t (0,0))
theorem Box.lt {w:World} {b:Nat} {cs:List Value} (h:Box w b cs):b<w.heap.size:=by
 obtain ⟨t,h⟩:=h;exact (Array.getElem?_eq_some_iff.1 h).1
theorem Box.cell {w:World} {b:Nat} {cs:List Value} (h:Box w b cs) (i:Nat) {v:Value} (hv:cs[i]?=some v):w.cell? ⟨b,i,none⟩=some v:=by
 obtain ⟨t,h⟩:=h;simp [World.cell?,h,hv]
theorem Box.frozen {w:World} {b:Nat} {cs:List Value} (h:Box w b cs) (i:Nat):w.frozen? ⟨b,i,none⟩=false:=by
 obtain ⟨t,h⟩:=h;simp [World.frozen?,h]
theorem Box.of_block {w w':World} {b:Nat} {cs:List Value} (h:Box w b cs) (e:w'.heap[b]?=w.heap[b]?):Box w' b cs:=by
 obtain ⟨t,h⟩:=h;exact ⟨t,e.trans h⟩
theorem Box.below {W w:World} {b:Nat} {cs:List Value} (h:Box W b cs) {B:Nat} (hb:Below B W w) (hlt:b<B):Box w b cs:=h.of_block (hb.block b hlt)
theorem Box.call {W w:World} {b:Nat} {cs:List Value} (h:Box W b cs) (hb:Below W.heap.size W w):Box w b cs:=h.below hb h.lt
theorem Box.alloc {w:World} {b:Nat} {cs:List Value} (h:Box w b cs) (o:Obj):Box (w.alloc o) b cs:=h.of_block (Below.heap_alloc _ _ _ h.lt)
theorem Box.set {w:World} {b:Nat} {cs:List Value} (h:Box w b cs) {p:Addr} (hp:b≠p.block) (v:Value):Box (w.setCell p v) b cs:=h.of_block (Below.heap_setCell _ _ _ _ hp)
theorem Box.new (w:World) (cs:List Value) (t:TypeId):Box (w.alloc (.cells cs.toArray t)) w.heap.size cs:=by
 refine ⟨t,?_⟩;show (w.heap.push _)[w.heap.size]?=_
 simp
theorem Box.self {w:World} {b:Nat} {cs:List Value} (h:Box w b cs) (i:Nat) (v:Value):Box (w.setCell ⟨b,i,none⟩ v) b (cs.set i v):=by
 obtain ⟨t,h⟩:=h;refine ⟨t,?_⟩;simp [World.setCell,Array.getElem?_modify,h]
theorem cell_alloc_lt {w:World} {a:Addr} {v:Value} (h:w.cell? a=some v) (o:Obj):(w.alloc o).cell? a=some v:=by
 have hlt:a.block<w.heap.size:=by
  unfold World.cell? at h
  split at h
  ·rename_i c _ _ he;exact (Array.getElem?_eq_some_iff.1 he).1
  ·cases h
 rw [World.cell?_of_block (w:=w) (Below.heap_alloc w o a.block hlt)];exact h
theorem size_alloc (w:World) (o:Obj):(w.alloc o).heap.size=w.heap.size+1:=by
 show (w.heap.push o).size=_
 simp
theorem size_set (w:World) (p:Addr) (v:Value):(w.setCell p v).heap.size=w.heap.size:=by simp [World.setCell]
def PPost (w:World) (v:Value) (e:Ending) (w':World):Prop:=e=.returned v∧Below w.heap.size w w'
def TPost (W:World) (e:Ending) (W':World):Prop:=e=.returned (.bool true)∧Below W.heap.size W W'
theorem ret_b {a b:Bool} (h:a=b):Ending.returned (.bool a)=.returned (.bool b):=by rw [h]
theorem ret_i {a b:Int} (h:a=b):Ending.returned (Y X a)=.returned (Y X b):=by rw [h]
def Same (F:Nat→Prop) (w w':World):Prop:=∀ b,F b→w'.heap[b]?=w.heap[b]?
theorem Same.refl (F:Nat→Prop) (w:World):Same F w w:=fun _ _=>rfl
theorem Same.trans {F:Nat→Prop} {a b c:World} (h:Same F a b) (k:Same F b c):Same F a c:=fun i hi=>(k i hi).trans (h i hi)
theorem Same.of_below {B:Nat} {F:Nat→Prop} {w w':World} (h:Below B w w') (hF:∀ b,F b→b<B):Same F w w':=fun b hb=>h.block b (hF b hb)
theorem Same.cell {F:Nat→Prop} {w w':World} (h:Same F w w') {b:Nat} (hb:F b) (o:Nat):w'.cell? ⟨b,o,none⟩=w.cell? ⟨b,o,none⟩:=World.cell?_of_block (w:=w) (h b hb)
abbrev Rep (α:Type):=(Nat→Prop)→World→List Value→α→Prop
def Rep.Ok {α:Type} (E:Rep α):Prop:=(∀ F w w' cs x,Same F w w'→E F w cs x→E F w' cs x)∧(∀ (F G:Nat→Prop) w cs x,(∀ b,F b→G b)→E F w cs x→E G w cs x)
theorem Rep.Ok.same {α:Type} {E:Rep α} (h:E.Ok) {F:Nat→Prop} {w w':World} {cs:List Value} {x:α} (hs:Same F w w') (he:E F w cs x):E F w' cs x:=h.1 _ _ _ _ _ hs he
theorem Rep.Ok.mono {α:Type} {E:Rep α} (h:E.Ok) {F G:Nat→Prop} {w:World} {cs:List Value} {x:α} (hg:∀ b,F b→G b) (he:E F w cs x):E G w cs x:=h.2 _ _ _ _ _ hg he
def In64 (n:Int):Prop := -9223372036854775808≤n∧n≤9223372036854775807
def RInt:Rep Int:=fun _ _ cs n=>cs=[Y X n]∧In64 n
def RU8:Rep Int:=fun _ _ cs n=>cs=[.int .u8 n]∧0≤n∧n≤255
def RBool:Rep Bool:=fun _ _ cs b=>cs=[.bool b]
theorem RInt.ok:RInt.Ok:=⟨fun _ _ _ _ _ _ h=>h,fun _ _ _ _ _ _ h=>h⟩
def LiesAt (w:World) (b o:Nat) (cs:List Value):Prop:=∀ j u,cs[j]?=some u→w.cell? ⟨b,o+j,none⟩=some u
theorem LiesAt.same {F:Nat→Prop} {w w':World} {b o:Nat} {cs:List Value} (h:LiesAt w b o cs) (hs:Same F w w') (hb:F b):LiesAt w' b o cs:=fun j u hu=>(hs.cell hb _).trans (h j u hu)
def SlOf {α:Type} (E:Rep α) (sz:Nat) (F:Nat→Prop) (w:World) (v:Value) (xs:List α):Prop:=
 ∃ a cap,v=J a xs.length cap∧xs.length≤cap∧cap≤maxLen∧
  (xs=[]∨∃ b o,a=some ⟨b,o,none⟩∧F b∧∀ i x,xs[i]?=some x→∃ cs,cs.length=sz∧LiesAt w b (o+i*sz) cs∧E F w cs x)
def RSl {α:Type} (E:Rep α) (sz:Nat):Rep (List α):=fun F w cs xs=>∃ v,cs=[v]∧SlOf E sz F w v xs
theorem SlOf.same {α:Type} {E:Rep α} {sz:Nat} (hE:E.Ok) {F:Nat→Prop} {w w':World} {v:Value} {xs:List α} (hs:Same F w w') (h:SlOf E sz F w v xs):SlOf E sz F w' v xs:=by
 obtain ⟨a,cap,hv,h1,h2,h3⟩:=h;refine ⟨a,cap,hv,h1,h2,?_⟩
 rcases h3 with h3|⟨b,o,ha,hF,h3⟩
 ·exact .inl h3
 ·refine .inr ⟨b,o,ha,hF,fun i x hx=>?_⟩;obtain ⟨cs,hl,hc,he⟩:=h3 i x hx;exact ⟨cs,hl,hc.same hs hF,hE.same hs he⟩
theorem SlOf.mono {α:Type} {E:Rep α} {sz:Nat} (hE:E.Ok) {F G:Nat→Prop} {w:World} {v:Value} {xs:List α} (hg:∀ b,F b→G b) (h:SlOf E sz F w v xs):SlOf E sz G w v xs:=by
 obtain ⟨a,cap,hv,h1,h2,h3⟩:=h;refine ⟨a,cap,hv,h1,h2,?_⟩
 rcases h3 with h3|⟨b,o,ha,hF,h3⟩
 ·exact .inl h3
 ·refine .inr ⟨b,o,ha,hg b hF,fun i x hx=>?_⟩;obtain ⟨cs,hl,hc,he⟩:=h3 i x hx;exact ⟨cs,hl,hc,hE.mono hg he⟩
theorem SlOf.len_le {α:Type} {E:Rep α} {sz:Nat} {F:Nat→Prop} {w:World} {v:Value} {xs:List α} (h:SlOf E sz F w v xs):xs.length≤9223372036854775807:=by
 obtain ⟨a,cap,hv,h1,h2,h3⟩:=h;unfold maxLen at h2;omega
theorem SlOf.ints {F:Nat→Prop} {w:World} {v:Value} {xs:List Int} (h:SlOf RInt 1 F w v xs):
  ∃ a cap,v=J a xs.length cap∧xs.length≤cap∧cap≤maxLen∧(∀ x∈xs,In64 x)∧
   ∀ i,i<xs.length→∃ b o,a=some ⟨b,o,none⟩∧F b∧∀ j,j<xs.length→w.cell? ⟨b,o+j,none⟩=some (Y X (xs.getD j 0)):=by
 obtain ⟨a,cap,hv,h1,h2,h3⟩:=h;refine ⟨a,cap,hv,h1,h2,?_,?_⟩
 ·intro x hx
  rcases h3 with h3|⟨b,o,ha,hF,h3⟩
  ·subst h3;cases hx
  ·obtain ⟨i,hi⟩:=List.getElem?_of_mem hx;obtain ⟨cs,_,_,he⟩:=h3 i x hi;exact he.2
 ·intro i hi
  rcases h3 with h3|⟨b,o,ha,hF,h3⟩
  ·subst h3;simp at hi
  ·refine ⟨b,o,ha,hF,fun j hj=>?_⟩;have hx:xs[j]?=some xs[j]:=V hj;obtain ⟨cs,hl,hc,he⟩:=h3 j _ hx;obtain ⟨rfl,_⟩:=he;have:=hc 0 (Y X xs[j]) rfl;simp only [Nat.mul_one,Nat.add_zero] at this;rw [this];simp [hj]
theorem owns_below {w w':World} {base:Nat} {e:TypeId} {size:Nat} {v:Value} {n:Nat} {xs:List Value} (h:w.ownsRow base e size v n xs) {B:Nat} (hb:Below B w w') (hB:w.heap.size≤B):w'.ownsRow base e size v n xs:=by
 refine ⟨h.1,?_⟩
 rcases h.2 with hn|⟨g,cap,cur,rfl,hbg,hgg,rest⟩
 ·exact .inl hn
 ·refine .inr ⟨g,cap,cur,rfl,hbg,?_,rest⟩;have:=(Array.getElem?_eq_some_iff.1 hgg).1;rw [hb.block g (by omega)];exact hgg
theorem Box.grown {w w':World} {b:Nat} {cs:List Value} {base:Nat} {e:TypeId} {size:Nat} {v:Value} {n:Nat} {xs:List Value} (h:Box w b cs) (hg:w.grownBy w' v.ownBlock) (ho:w.ownsRow base e size v n xs) (hlt:b<base):Box w' b cs:=by
 refine h.of_block (hg.block b h.lt ?_);intro hc;have:=(ho.lt b hc.symm).1;omega
theorem Box.grown' {w w':World} {b:Nat} {cs:List Value} {row:Option Nat} (h:Box w b cs) (hg:w.grownBy w' row) (hne:row≠some b):Box w' b cs:=
 h.of_block (hg.block b h.lt fun hc=>hne hc.symm)
theorem below_grown {B:Nat} {a w w':World} {base:Nat} {e:TypeId} {size:Nat} {v:Value} {n:Nat} {xs:List Value} (h:Below B a w) (hg:w.grownBy w' v.ownBlock) (ho:w.ownsRow base e size v n xs) (hB:B≤base) (hs:B≤w.heap.size):Below B a w':=
 h.grown hg hs fun k hk=>O hB (ho.lt k hk).1
theorem owns_set {w:World} {base:Nat} {e:TypeId} {size:Nat} {v:Value} {n:Nat} {xs:List Value} (h:w.ownsRow base e size v n xs) {p:Addr} (hp:p.block<base) (u:Value):(w.setCell p u).ownsRow base e size v n xs:=ownsRow_setCell_below h hp u
section
variable {H:Type} {enc:TypeId×Value→H} {P:Program} {W:World}
def Reads {α:Type} (enc:TypeId×Value→H) (P:Program) (W:World) (t:TypeId) (E:Rep α):Prop:=
 ∀ (fuel:Nat) (cs:List Value) (x:DataW H×List MemPlace),DataW.trod enc P W 0 (fun _=>true) true fuel t cs=some x→∃ y,E (·<W.heap.size) W cs y
theorem wf64 {n:Int} (h:(Lit.int .i64 n).wf=true):In64 n:=by
 have h1:decide (IntKind.i64.min≤n∧n≤IntKind.i64.max)=true:=by simpa [Lit.wf] using h
 have h2:IntKind.i64.min≤n∧n≤IntKind.i64.max:=of_decide_eq_true h1;exact h2
theorem wf8 {n:Int} (h:(Lit.int .u8 n).wf=true):0≤n∧n≤255:=by
 have h1:decide (IntKind.u8.min≤n∧n≤IntKind.u8.max)=true:=by simpa [Lit.wf] using h
 have h2:IntKind.u8.min≤n∧n≤IntKind.u8.max:=of_decide_eq_true h1;exact h2
theorem reads_int {t:TypeId} (ht:P.underlying t=some (.int .i64)):Reads enc P W t RInt:=fun fuel cs x h=>by
 obtain ⟨n,rfl,_,hw⟩:=DataW.trod_int ht h;exact ⟨n,rfl,wf64 hw⟩
theorem reads_u8 {t:TypeId} (ht:P.underlying t=some (.int .u8)):Reads enc P W t RU8:=fun fuel cs x h=>by
 obtain ⟨n,rfl,_,hw⟩:=DataW.trod_int ht h;exact ⟨n,rfl,wf8 hw⟩
theorem reads_bool {t:TypeId} (ht:P.underlying t=some .bool):Reads enc P W t RBool:=fun fuel cs x h=>by
 obtain ⟨b,rfl,_⟩:=DataW.trod_bool ht h;exact ⟨b,rfl⟩
theorem lt_of_cell {w:World} {a:Addr} {v:Value} (h:w.cell? a=some v):a.block<w.heap.size:=by
 unfold World.cell? at h
 split at h
 ·rename_i c _ _ he;exact (Array.getElem?_eq_some_iff.1 he).1
 ·cases h
theorem list_of {α:Type} {p:Nat→α→Prop} (n:Nat) (h:∀ i,i<n→∃ x,p i x):∃ xs:List α,xs.length=n∧∀ i x,xs[i]?=some x→p i x:=by
 induction n with
 |zero=>exact ⟨[],rfl,fun i x hx=>by simp at hx⟩
 |succ n ih=>
  obtain ⟨xs,hl,hx⟩:=ih fun i hi=>h i (by omega);obtain ⟨y,hy⟩:=h n (by omega);refine ⟨xs++[y],by simp [hl],fun i x hi=>?_⟩;by_cases hin:i<n
  ·rw [List.getElem?_append_left (by omega)] at hi;exact hx i x hi
  ·have hlt:i<(xs++[y]).length:=(M.1 hi).1;simp [hl] at hlt;have:i=n:=by omega
   subst this;rw [List.getElem?_append_right (by omega),hl] at hi;simp at hi;subst hi;exact hy
theorem reads_slice {α:Type} {t e:TypeId} {E:Rep α} {sz:Nat} (ht:P.underlying t=some (.slice e)) (hsz:P.cellsOf e=sz) (hpos:0<sz) (he:Reads enc P W e E):
  Reads enc P W t (RSl E sz):=fun fuel cs x h=>by
 rcases DataW.trod_slice ht h with ⟨rfl,_⟩|⟨a,len,cap,elems,rest,n,_,rfl,_,hb,hl,hm,hlen,hel,_⟩
 ·exact ⟨[],_,rfl,none,0,rfl,Z _,by decide,.inl rfl⟩
 ·have hall:∀ i,i<len→∃ y:α,∃ cs,cs.length=sz∧(∀ j u,cs[j]?=some u→W.cell? ((a.add (i*sz)).add j)=some u)∧E (·<W.heap.size) W cs y:=by
   intro i hi;have h1:=hel i hi;rw [hsz] at h1;rw [V (by omega),Option.bind_eq_some_iff] at h1;obtain ⟨cs,hcs,hr⟩:=h1;obtain ⟨y,hy⟩:=he n cs _ hr;have hc:=World.cells?_some hcs;refine ⟨y,cs,hc.2.1,fun j u hu=>?_,hy⟩;have hj:j<sz:=by
    have:=(M.1 hu).1;have:=hc.2.1;omega
   exact (hc.2.2 j hj).trans hu
  obtain ⟨xs,hxl,hx⟩:=list_of len hall;refine ⟨xs,_,rfl,some a,cap,by rw [hxl],by omega,hm,?_⟩;by_cases h0:len=0
  ·left;exact List.eq_nil_of_length_eq_zero (by omega)
  ·right;obtain ⟨b,o,spot⟩:=a;have hspot:spot=none∧b<W.heap.size:=by
    obtain ⟨y,cs,hcl,hc,_⟩:=hall 0 (by omega);have hu:cs[0]?=some cs[0]:=V (by omega);have:=hc 0 _ hu;simp only [Nat.zero_mul,Addr.add,if_true] at this;exact ⟨World.cell?_spot this,lt_of_cell this⟩
   obtain ⟨rfl,hlt⟩:=hspot;refine ⟨b,o,rfl,hlt,fun i x hi=>?_⟩;obtain ⟨cs,hcl,hc,hE⟩:=hx i x hi;refine ⟨cs,hcl,fun j u hu=>?_,hE⟩;have:=hc j u hu;rw [Go.WideShapes.add_plain,Go.WideShapes.add_plain] at this;exact this
theorem reads_field {α:Type} {t:TypeId} {fs:Array Field} {fuel:Nat} {cs:List Value} {x:DataW H×List MemPlace} (ht:P.underlying t=some (.struct fs))
  (h:DataW.trod enc P W 0 (fun _=>true) true fuel t cs=some x) (i:Nat) {ft:TypeId} {off n:Nat} (hi:(fs[i]?).map (fun f=>(f.type,f.offset))=some (ft,off)) (hn:P.cellsOf ft=n) {E:Rep α} (he:Reads enc P W ft E):
  ∃ y,E (·<W.heap.size) W ((cs.drop off).take n) y:=by
 obtain ⟨f,hf0,hfe⟩:=Option.map_eq_some_iff.1 hi;simp only [Prod.mk.injEq] at hfe;obtain ⟨rfl,rfl⟩:=hfe;subst hn;obtain ⟨xs,n,_,_,hl,hxl,hf⟩:=DataW.trod_struct ht h;have h1:=hf i f hf0;have hlt:i<xs.length:=by rw [hxl];exact (Array.getElem?_eq_some_iff.1 hf0).1
 rw [V hlt] at h1;exact he n _ _ h1
theorem struct_len {t:TypeId} {fs:Array Field} {fuel:Nat} {cs:List Value} {x:DataW H×List MemPlace} (ht:P.underlying t=some (.struct fs))
  (h:DataW.trod enc P W 0 (fun _=>true) true fuel t cs=some x):cs.length=P.cellsOf t:=(DataW.trod_struct ht h).choose_spec.choose_spec.2.2.1
theorem arg_struct {t:TypeId} {fs:Array Field} {base:Nat} {v:Value} (ht:P.underlying t=some (.struct fs)) (hv:Value.okWide P W .any base t v):∃ cs:Array Value,v=.agg cs:=by
 unfold Value.okWide at hv;rw [ht] at hv;obtain ⟨cs,h,_⟩:=hv;exact ⟨cs,h⟩
theorem agg_of {v:Value} {cs:Array Value} {l:List Value} (h:v=.agg cs) (hl:v.cells.toList=l):v=.agg l.toArray:=by
 subst h;simp [Value.cells] at hl;subst hl
 simp
end
def Kept (n:Nat) (w:World):={W:World // Below n w W}
def Kept.w {n:Nat} {w:World} (s:Kept n w):World:=s.1
theorem Kept.below {n:Nat} {w:World} (s:Kept n w):Below n w s.w:=s.2
theorem Kept.cell {n:Nat} {w:World} (s:Kept n w) {a:Addr} {v:Value} (h:w.cell? a=some v) (hlt:a.block<n):s.w.cell? a=some v:=(s.below.cell hlt).trans h
theorem Kept.at {w:World} (s:Kept w.heap.size w) {a:Addr} {v:Value} (h:w.cell? a=some v):s.w.cell? a=some v:=s.cell h (lt_of_cell h)
instance {n:Nat} {w:World}:Nonempty (Kept n w):=⟨⟨w,Below.refl _ _⟩⟩
theorem wp_region_kept {P:Program} {id:Nat} {Q:Exit→Act→World→Prop} {a:Act} {w:World} {l:List Oper} (n:Nat) (hm:P.follows .mixedOrders=true) (hB:Region.lexB .any l.toArray=true)
  (h:wpQuiet P l.toArray (fun w'=>∃ s:Kept n w,w'=s.w) (fun a'=>∀ w',(∃ s:Kept n w,w'=s.w)→Q .normal a' w') l a):(Code.region id l.toArray true).wp P Q a w:=
 wp_region_quiet (C:=fun w'=>∃ s:Kept n w,w'=s.w) hm hB ⟨⟨w.drew,(Below.refl _ w).drew⟩,rfl⟩ (by simpa using h)
theorem Calls.kept {P:Program} {f:FuncId} {args:Array Value} {n:Nat} {w:World} (s:Kept n w) (hn:n≤w.heap.size) {v:Value} (h:Calls P f args s.w (PPost s.w v)):
  Calls P f args s.w fun e w''=>e=.returned v∧∃ s':Kept n w,w''=s'.w:=
 h.mono fun _ w'' ⟨he,hb⟩=>⟨he,⟨w'',s.below.trans (hb.mono (O hn s.below.size))⟩,rfl⟩
def gives (P:Program) (o:Oper) (ev:Operand→Value) (w:World) (R:Value→World→Prop):Prop:=
 match (execOp ev o).run P w with
 |.ok (.value v) w'=>R v w'
 |.ok .skip w'=>R undef w'
 |.ok (.enter f args) w'=>Calls P f args w' (fun e w''=>∃ v,e=.returned v∧R v w'')
 |_=>False
def stepsTo (P:Program) (ops:Array Oper) (o:Oper) (a:Act) (w:World) (R:Value→World→Prop):Prop:=
 if Region.wanted o (yielded ops a.tmps)=true then gives P o a.eval w R else R undef w
def upd {α:Type} (L:Nat→α) (i:Nat) (v:α):Nat→α:=fun j=>if j=i then v else L j
def fr (L:Nat→Bool) (vs:Nat→Value):List Oper→Nat→Act→Act
 |[],_,a=>a
 |o::l,k,a=>fr L vs l (k+1) (if L k=true then a.put o.dst (vs k) else a)
def depB (o:Oper) (j:Nat):Bool:=o.after.any fun e=>Region.binds .any e&&e.on==j
def monoB (l:List Oper):Bool:=
 Region.noSelect l.toArray &&
 (z l.length).all fun i=>match l[i]? with
  |none=>false
  |some oi=>(oi.after.all fun e=>!Region.binds .any e||decide (e.on<i)) &&
    (i+1==l.length||(z l.length).any fun j=>decide (i<j)&&match l[j]? with
     |some oj=>depB oj i
     |none=>false) &&
    (z l.length).all fun j=>match l[j]? with
     |none=>false
     |some oj=>match oj.dst with
      |none=>true
      |some d=>(i==j||oi.dst != some d)&&(!(oi.looksAt l.toArray).contains d||depB oi j)
theorem gives_put {P:Program} {o:Oper} {a:Act} {w:World} {R:Value→World→Prop} {K:Act→World→Prop} {Q:Exit→Act→World→Prop} (h:gives P o a.eval w R) (hK:∀ v w',R v w'→K (a.put o.dst v) w'):o.wp P a w K Q:=by
 unfold gives at h;unfold Oper.wp;generalize (execOp a.eval o).run P w=r at *
 cases r with
 |ok n w'=>
  cases n<;>simp only [] at h<;>simp only [Oper.upon]
  case value u=>exact hK _ _ h
  case skip=>exact hK _ _ h
  case enter f args=>exact h.mono fun e w'' ⟨v,he,hr⟩=>by subst he;exact hK _ _ hr
 |halt x w'=>cases h
theorem gives_mono {P:Program} {o:Oper} {ev:Operand→Value} {w:World} {R R':Value→World→Prop} (h:gives P o ev w R) (hR:∀ v w',R v w'→R' v w'):gives P o ev w R':=by
 unfold gives at *;generalize (execOp ev o).run P w=r at *
 cases r with
 |ok n w'=>
  cases n<;>simp only [] at h ⊢
  case value u=>exact hR _ _ h
  case skip=>exact hR _ _ h
  case enter f args=>exact h.mono fun e w'' ⟨v,he,hr⟩=>⟨v,he,hR _ _ hr⟩
 |halt x w'=>cases h
theorem fr_congr {L L':Nat→Bool} {vs vs':Nat→Value}:∀ (l:List Oper) (k:Nat) (a:Act),(∀ j,k≤j→L j=L' j∧vs j=vs' j)→fr L vs l k a=fr L' vs' l k a
 |[],_,_,_=>rfl
 |o::l,k,a,h=>by
  have h0:=h k (Z _);simp only [fr,h0.1,h0.2];exact fr_congr l (k+1) _ fun j hj=>h j (by omega)
theorem fr_put {L:Nat→Bool} {vs:Nat→Value} {d:Option Tmp} {v:Value}:∀ (l:List Oper) (k:Nat) (a:Act),(∀ o∈l,∀ t,d=some t→o.dst≠some t)→fr L vs l k (a.put d v)=(fr L vs l k a).put d v
 |[],_,_,_=>rfl
 |o::l,k,a,h=>by
  simp only [fr];rw [←fr_put l (k+1) _ fun o' ho'=>h o' (List.mem_cons_of_mem _ ho')]
  split
  ·rw [Act.put_comm a v (vs k) (h o List.mem_cons_self)]
  ·rfl
theorem fr_step {L:Nat→Bool} {vs:Nat→Value} {v:Value}:∀ (l:List Oper) (k i:Nat) (a:Act) (o:Oper),l[i]?=some o→L (k+i)=false→(∀ j o',l[j]?=some o'→j≠i→∀ t,o.dst=some t→o'.dst≠some t)→
  fr (upd L (k+i) true) (upd vs (k+i) v) l k a=(fr L vs l k a).put o.dst v
 |[],_,_,_,_,h,_,_=>by simp at h
 |x::l,k,0,a,o,h,hL,hd=>by
  simp at h;subst h;have e:L k=false:=hL;simp only [fr,Nat.add_zero,upd,e,if_true,Bool.false_eq_true,if_false];rw [fr_congr (L':=L) (vs':=vs) l (k+1) _ fun j hj=>by
   have:j≠k:=by omega
   exact ⟨if_neg this,if_neg this⟩]
  exact fr_put l (k+1) a fun o' ho'=>by
   obtain ⟨j,hj⟩:=List.getElem?_of_mem ho';exact hd (j+1) o' (by simpa using hj) (by omega)
 |x::l,k,i+1,a,o,h,hL,hd=>by
  have hk:k≠k+(i+1):=by omega
  simp only [fr];have e1:upd L (k+(i+1)) true k=L k:=if_neg hk;have e2:upd vs (k+(i+1)) v k=vs k:=if_neg hk;rw [e1,e2,show k+(i+1)=(k+1)+i by omega];exact fr_step l (k+1) i _ o (by simpa using h) (by rw [←hL];congr 1;omega) fun j o' hj hne=>hd (j+1) o' (by simpa using hj) (by omega)
theorem put_at {a a':Act} {t:Tmp} (h:a.tmps[t]?=a'.tmps[t]?) (d:Option Tmp) (v:Value):(a.put d v).tmps[t]?=(a'.put d v).tmps[t]?:=by
 cases d with
 |none=>exact h
 |some d=>
  simp only [Act.put,Array.getElem?_setIfInBounds];by_cases e:d=t
  ·subst e;simp only [if_true]
   rcases Nat.lt_or_ge d a.tmps.size with h1|h1
   ·rcases Nat.lt_or_ge d a'.tmps.size with h2|h2
    ·simp [h1,h2]
    ·rw [Array.getElem?_eq_none h2,Array.getElem?_eq_getElem h1] at h;cases h
   ·rcases Nat.lt_or_ge d a'.tmps.size with h2|h2
    ·rw [Array.getElem?_eq_none h1,Array.getElem?_eq_getElem h2] at h;cases h
    ·simp [Nat.not_lt.2 h1,Nat.not_lt.2 h2]
  ·simp only [e,if_false];exact h
theorem put_off {a:Act} {t:Tmp} (d:Option Tmp) (v:Value) (h:d≠some t):(a.put d v).tmps[t]?=a.tmps[t]?:=by
 cases d with
 |none=>rfl
 |some d=>
  have:d≠t:=fun e=>h (by rw [e]);simp [Act.put,this]
theorem fr_at {L L':Nat→Bool} {vs:Nat→Value} {t:Tmp}:∀ (l:List Oper) (k:Nat) (a a':Act),a.tmps[t]?=a'.tmps[t]?→(∀ j o,l[j]?=some o→o.dst=some t→L (k+j)=L' (k+j))→(fr L vs l k a).tmps[t]?=(fr L' vs l k a').tmps[t]?
 |[],_,_,_,h,_=>h
 |o::l,k,a,a',h,hd=>by
  simp only [fr];refine fr_at l (k+1) _ _ ?_ fun j o' hj ho'=>by
   have:=hd (j+1) o' (by simpa using hj) ho';rw [show k+(j+1)=k+1+j by omega] at this;exact this
  by_cases e:o.dst=some t
  ·have:=hd 0 o rfl e;rw [Nat.add_zero] at this;rw [this]
   split
   ·exact put_at h _ _
   ·exact h
  ·split<;>split
   ·rw [put_off _ _ e,put_off _ _ e];exact h
   ·rw [put_off _ _ e];exact h
   ·rw [put_off _ _ e];exact h
   ·exact h
theorem exec_same {ops:Array Oper} (o:Oper) (hs:∀ cs b,o.op≠.select cs b) {a a':Act} (h:∀ t∈o.looksAt ops,a.tmps[t]?=a'.tmps[t]?):execOp a.eval o=execOp a'.eval o:=
 execOp_congr o hs fun x hx=>by
  cases x with
  |tmp t=>simp only [Act.eval,Array.getD_eq_getD_getElem?];rw [h t (List.mem_append_left _ (List.mem_filterMap.2 ⟨.tmp t,by simpa using hx,rfl⟩))]
  |_=>rfl
theorem wanted_same {ops:Array Oper} (o:Oper) {a a':Act} (h:∀ t∈o.looksAt ops,a.tmps[t]?=a'.tmps[t]?):Region.wanted o (yielded ops a.tmps)=Region.wanted o (yielded ops a'.tmps):=by
 unfold Region.wanted;cases hg:o.guard with
 |none=>rfl
 |some gw=>
  obtain ⟨g,want⟩:=gw;have hy:yielded ops a.tmps g=yielded ops a'.tmps g:=by
   unfold yielded;cases ht:(ops[g]?).bind (·.dst) with
   |none=>rfl
   |some t=>
    simp only [Option.bind_some];rw [h t (by simp [Oper.looksAt,hg,ht])]
  simp only [hy]
theorem steps_same {P:Program} {ops:Array Oper} (o:Oper) (hs:∀ cs b,o.op≠.select cs b) {a a':Act} {w:World} {R:Value→World→Prop} (h:∀ t∈o.looksAt ops,a.tmps[t]?=a'.tmps[t]?) (k:stepsTo P ops o a w R):stepsTo P ops o a' w R:=by
 unfold stepsTo gives at *;rw [exec_same o hs h,wanted_same o h] at k;exact k
theorem any_done {P:Program} {md:Region.Mode} {ops:Array Oper} {Q:Exit→Act→World→Prop} {listed:Array Bool} {a:Act} {w:World} (h:Region.ready md ops listed=[]) (hq:Q .normal a w):∀ fuel,wpAny P md ops Q fuel listed a w
 |0=>⟨h,hq⟩
 |_+1=>⟨fun _=>hq,fun i hi=>by rw [h] at hi;cases hi⟩
theorem countP_one {f g:Nat→Bool} {i:Nat} (hf:f i=true) (hg:g i=false) (hne:∀ j,j≠i→g j=f j):∀ n,i<n→(z n).countP g+1=(z n).countP f
 |0,h=>by omega
 |n+1,h=>by
  rw [List.range_succ,List.countP_append,List.countP_append];by_cases e:i=n
  ·subst e;have:(z i).countP g=(z i).countP f:=List.countP_congr fun x hx=>by
    have:=List.mem_range.1 hx;rw [hne x (by omega)]
   simp [this,hf,hg]
  ·have:=countP_one hf hg hne n (by omega);have e2:[n].countP g=[n].countP f:=by simp [List.countP_cons,hne n (fun x=>e x.symm)]
   rw [e2];omega
section
variable {P:Program} {Q:Exit→Act→World→Prop} {a0:Act} {w0:World} {l:List Oper}
structure Shut (p:Prop):Prop where
 out:p
def OpOk (P:Program) (l:List Oper) (a0:Act) (w0:World) (T:Nat→Value→World→Prop) (i:Nat):Prop:=
 ∀ o,l[i]?=some o→∀ vs w,Below w0.heap.size w0 w→(∀ j,depB o j=true→T j (vs j) w)→stepsTo P l.toArray o (fr (fun _=>true) vs l 0 a0) w (fun v w'=>T i v w'∧Below w.heap.size w w')
theorem mono_any (T:Nat→Value→World→Prop) (k:Nat) (last:Oper) (hl:l[k]?=some last) (hlen:l.length=k+1) (hsel:Region.noSelect l.toArray=true)
  (hacyc:∀ i oi,l[i]?=some oi→∀ e∈oi.after,Region.binds .any e=true→e.on<i)
  (hcl:∀ i,i<k→∃ j oj,i<j∧l[j]?=some oj∧depB oj i=true)
  (hdst:∀ i j oi oj d,l[i]?=some oi→l[j]?=some oj→oj.dst=some d→(i=j∨oi.dst≠some d)∧(d∈oi.looksAt l.toArray→depB oi j=true))
  (hstab:∀ i v w w',T i v w→Below w.heap.size w w'→T i v w')
  (hop:∀ i,i<k→OpOk P l a0 w0 T i)
  (hlast:∀ vs w,Below w0.heap.size w0 w→(∀ i,i<k→T i (vs i) w)→stepsTo P l.toArray last (fr (fun j=>decide (j<k)) vs l 0 a0) w (fun v w'=>Q .normal ((fr (fun j=>decide (j<k)) vs l 0 a0).put last.dst v) w')):
  ∀ (fuel:Nat) (listed:Array Bool) (vs:Nat→Value) (w:World),listed.size=l.length→
   (∀ i oi,l[i]?=some oi→listed.getD i false=true→∀ e∈oi.after,Region.binds .any e=true→listed.getD e.on false=true)→
   listed.getD k false=false→(∀ i,i<k→listed.getD i false=true→T i (vs i) w)→Below w0.heap.size w0 w→(z l.length).countP (fun i=>!listed.getD i false)≤fuel→
   wpAny P .any l.toArray Q fuel listed (fr (fun j=>listed.getD j false) vs l 0 a0) w:=by
 intro fuel
 induction fuel with
 |zero=>
  intro listed vs w hsz hdown hk hT hw hf;have:0<(z l.length).countP (fun i=>!listed.getD i false):=List.countP_pos_iff.2 ⟨k,List.mem_range.2 (by omega),by simp [hk]⟩;omega
 |succ fuel ih=>
  intro listed vs w hsz hdown hk hT hw hf;have hgd:∀ j,j<l.length→listed.getD j true=listed.getD j false:=fun j hj=>by
   rw [←hsz] at hj;simp [hj]
  have hout:∀ j,l.length≤j→listed.getD j false=false:=fun j hj=>by
   rw [←hsz] at hj;simp [Array.getElem?_eq_none hj]
  have hselo:∀ (j:Nat) (o:Oper) cs b,l[j]?=some o→o.op≠.select cs b:=fun j o cs b ho=>Region.noSelect_spec hsel j o cs b (by simpa using ho);refine ⟨fun h=>?_,fun i hi=>?_⟩
  ·exfalso
   -- the least that has not come up may come up
   have hex:∃ m,m≤k∧listed.getD m false=false∧∀ j,j<m→listed.getD j false=true:=by
    clear h hT hw hf hdown;have:∀ n,(∃ m,m≤n∧listed.getD m false=false∧∀ j,j<m→listed.getD j false=true)∨∀ j,j≤n→listed.getD j false=true:=by
     intro n
     induction n with
     |zero=>
      cases e:listed.getD 0 false with
      |false=>exact .inl ⟨0,Z _,e,fun j hj=>by omega⟩
      |true=>exact .inr fun j hj=>by rw [show j=0 by omega];exact e
     |succ n ihn=>
      rcases ihn with ⟨m,hm,h1,h2⟩|h1
      ·exact .inl ⟨m,by omega,h1,h2⟩
      ·cases e:listed.getD (n+1) false with
       |false=>exact .inl ⟨n+1,Z _,e,fun j hj=>h1 j (by omega)⟩
       |true=>
        refine .inr fun j hj=>?_;by_cases hjn:j≤n
        ·exact h1 j hjn
        ·rw [show j=n+1 by omega];exact e
    rcases this k with h2|h2
    ·exact h2
    ·rw [h2 k (Z _)] at hk;cases hk
   obtain ⟨m,hm,h1,h2⟩:=hex;obtain ⟨o,ho⟩:∃ o,l[m]?=some o:=⟨_,V (by omega)⟩;have:m∈Region.ready .any l.toArray listed:=mem_ready.2 ⟨by rw [hgd m (by omega)];exact h1,o,by simpa using ho,fun e he hb=>h2 _ (hacyc m o ho e he hb)⟩;rw [h] at this
   cases this
  ·obtain ⟨hun,o,ho',hdeps⟩:=mem_ready.1 hi;have ho:l[i]?=some o:=by simpa using ho'
   have hil:i<l.length:=(M.1 ho).1;rw [hgd i hil] at hun;have hdep:∀ j,depB o j=true→listed.getD j false=true:=fun j hj=>by
    unfold depB at hj;rw [Array.any_eq_true'] at hj;obtain ⟨e,he,hb⟩:=hj;simp only [A,beq_iff_eq] at hb;rw [←hb.2];exact hdeps e he hb.1
   have hlooks:∀ (L':Nat→Bool),(∀ j,depB o j=true→L' j=true)→∀ t∈o.looksAt l.toArray,(fr L' vs l 0 a0).tmps[t]?=(fr (fun j=>listed.getD j false) vs l 0 a0).tmps[t]?:=fun L' hL' t ht=>
    fr_at l 0 a0 a0 rfl fun j oj hj hd=>by
     have hd2:=(hdst i j o oj t ho hj hd).2 ht;rw [Nat.zero_add,hL' j hd2,hdep j hd2]
   by_cases hik:i=k
   ·subst hik;rw [hl] at ho;cases ho
    have hall:∀ n j,i-j≤n→j<i→listed.getD j false=true:=by
     intro n
     induction n with
     |zero=>intro j h1 h2;omega
     |succ n ihn=>
      intro j h1 h2;obtain ⟨m,om,hm,hom,hd⟩:=hcl j h2;have hml:m<l.length:=(M.1 hom).1;by_cases e:m=i
      ·subst e;rw [hl] at hom;cases hom
       exact hdep j hd
      ·have:=ihn m (by omega) (by omega);unfold depB at hd;rw [Array.any_eq_true'] at hd;obtain ⟨e',he,hb⟩:=hd;simp only [A,beq_iff_eq] at hb;rw [←hb.2];exact hdown m om hom this e' he hb.1
    have hL:∀ j,listed.getD j false=decide (j<i):=fun j=>by
     by_cases h1:j<i
     ·rw [hall i j (by omega) h1];simp [h1]
     ·rw [decide_eq_false h1];by_cases h2:j=i
      ·rw [h2];exact hun
      ·exact hout j (by omega)
    have hfr:fr (fun j=>listed.getD j false) vs l 0 a0=fr (fun j=>decide (j<i)) vs l 0 a0:=fr_congr l 0 a0 fun j _=>⟨hL j,rfl⟩;rw [hfr];have hs:=hlast vs w hw (fun j hj=>hT j hj (hall i j (by omega) hj));have hdone:∀ a w',Q .normal a w'→wpAny P .any l.toArray Q fuel (listed.setIfInBounds i true) a w':=fun a w' hq=>any_done (by
     rw [List.eq_nil_iff_forall_not_mem];intro j hj;obtain ⟨h1,oj,hoj,_⟩:=mem_ready.1 hj;by_cases e:i=j
     ·subst e;have:i<listed.size:=by omega
      simp [this] at h1
     ·rw [getD_set_ne true e] at h1;have hjl:j<l.length:=(M.1 (by simpa using hoj)).1;rw [hgd j hjl,hall i j (by omega) (by omega)] at h1;cases h1) hq fuel
    unfold wpOp;simp only [ho'];unfold stepsTo at hs
    split
    ·rename_i hw';simp only [hw',if_true] at hs;exact .inl (gives_put hs fun v w' h=>hdone _ _ h)
    ·rename_i hw';simp only [hw'] at hs;exact hdone _ _ hs
   ·have hs0:=hop i (by omega) o ho vs w hw (fun j hj=>hT j (by
     unfold depB at hj;rw [Array.any_eq_true'] at hj;obtain ⟨e,he,hb⟩:=hj;simp only [A,beq_iff_eq] at hb;have:=hacyc i o ho e he hb.1;omega) (hdep j hj))
    have hs:=steps_same o (fun cs b=>hselo i o cs b ho) (hlooks (fun _=>true) fun _ _=>rfl) hs0;have hnext:∀ v w',T i v w'∧Below w.heap.size w w'→wpAny P .any l.toArray Q fuel (listed.setIfInBounds i true) ((fr (fun j=>listed.getD j false) vs l 0 a0).put o.dst v) w':=by
     intro v w' ⟨hTv,hb⟩;have hset:∀ j,(listed.setIfInBounds i true).getD j false=upd (fun j=>listed.getD j false) i true j:=fun j=>by
      by_cases e:i=j
      ·subst e;have:i<listed.size:=by omega
       simp [this,upd]
      ·rw [getD_set_ne false e];exact (if_neg fun h=>e h.symm).symm
     have hfr:fr (fun j=>(listed.setIfInBounds i true).getD j false) (upd vs i v) l 0 a0=(fr (fun j=>listed.getD j false) vs l 0 a0).put o.dst v:=by
      rw [fr_congr (L':=upd (fun j=>listed.getD j false) (0+i) true) (vs':=upd vs (0+i) v) l 0 a0 fun j _=>by rw [Nat.zero_add];exact ⟨hset j,rfl⟩];exact fr_step l 0 i a0 o ho (by rw [Nat.zero_add];exact hun) fun j o' hj hne t ht=>by
       rcases (hdst j i o' o t hj ho ht).1 with h|h
       ·exact absurd h hne
       ·exact h
     rw [←hfr];refine ih _ _ w' (by simpa using hsz) ?_ ?_ ?_ (hw.trans (hb.mono hw.size)) ?_
     ·intro j oj hj hlj e he hbd;rw [hset] at hlj;rw [hset];by_cases e1:e.on=i
      ·exact if_pos e1
      ·rw [show upd (fun j=>listed.getD j false) i true e.on=listed.getD e.on false from if_neg e1];by_cases e2:j=i
       ·subst e2;rw [ho] at hj;cases hj
        exact hdeps e he hbd
       ·rw [show upd (fun j=>listed.getD j false) i true j=listed.getD j false from if_neg e2] at hlj;exact hdown j oj hj hlj e he hbd
     ·rw [hset];rw [show upd (fun j=>listed.getD j false) i true k=listed.getD k false from if_neg fun h=>hik h.symm];exact hk
     ·intro j hj hlj;by_cases e:j=i
      ·subst e;rw [show upd vs j v j=v from if_pos rfl];exact hTv
      ·rw [show upd vs i v j=vs j from if_neg e];rw [hset,show upd (fun j=>listed.getD j false) i true j=listed.getD j false from if_neg e] at hlj;exact hstab j _ w w' (hT j hj hlj) hb
     ·have:=countP_one (f:=fun i=>!listed.getD i false) (g:=fun j=>!(listed.setIfInBounds i true).getD j false) (i:=i) (by simp only [hun];rfl) (by simp only [hset,upd,if_true];rfl) (fun j hj=>by
       simp only [hset];rw [show upd (fun j=>listed.getD j false) i true j=listed.getD j false from if_neg hj]) l.length hil
      omega
    unfold wpOp;simp only [ho'];unfold stepsTo at hs
    split
    ·rename_i hw';simp only [hw',if_true] at hs;exact .inl (gives_put hs hnext)
    ·rename_i hw';simp only [hw'] at hs;exact hnext _ _ hs
theorem wp_region_mono {id:Nat} (T:Nat→Value→World→Prop) (k:Nat) (last:Oper) (hl:l[k]?=some last) (hlen:l.length=k+1) (hm:P.follows .mixedOrders=true) (hB:monoB l=true)
  (hstab:∀ i v w w',T i v w→Below w.heap.size w w'→T i v w')
  (hop:∀ i,i<k→OpOk P l a0 w0 T i)
  (hlast:∀ vs w,Below w0.heap.size w0 w→(∀ i,i<k→T i (vs i) w)→Shut (stepsTo P l.toArray last (fr (fun j=>decide (j<k)) vs l 0 a0) w (fun v w'=>Q .normal ((fr (fun j=>decide (j<k)) vs l 0 a0).put last.dst v) w'))):
  (Code.region id l.toArray true).wp P Q a0 w0:=by
 unfold monoB at hB;rw [A,List.all_eq_true] at hB;obtain ⟨hsel,hB⟩:=hB;have hB1:∀ i oi,l[i]?=some oi→_:=fun i oi hi=>by
  have:=hB i (List.mem_range.2 (M.1 hi).1);simp only [hi,A] at this;exact this
 refine wp_region_any hm ?_;have hfr:a0=fr (fun j=>(Array.replicate l.length false).getD j false) (fun _=>undef) l 0 a0:=by
  have hgen:∀ (l':List Oper) (k:Nat) (a:Act),a=fr (fun j=>(Array.replicate l.length false).getD j false) (fun _=>undef) l' k a:=by
   intro l'
   induction l' with
   |nil=>intro _ _;rfl
   |cons o l' ih=>
    intro k a;have:(Array.replicate l.length false).getD k false=false:=by
     rcases Nat.lt_or_ge k l.length with h|h
     ·simp [h]
     ·simp [Array.getElem?_eq_none (xs:=Array.replicate l.length false) (i:=k) (by simpa using h)]
    simp only [fr,this,Bool.false_eq_true,if_false];exact ih (k+1) a
  exact hgen l 0 a0
 have hrep:∀ j,(Array.replicate l.length false).getD j false=false:=fun k=>by
  rcases Nat.lt_or_ge k l.length with h|h
  ·simp [h]
  ·simp [Array.getElem?_eq_none (xs:=Array.replicate l.length false) (i:=k) (by simpa using h)]
 have hmain:=mono_any (P:=P) (Q:=Q) (a0:=a0) (w0:=w0) T k last hl hlen hsel ?_ ?_ ?_ hstab hop (fun vs w h1 h2=>(hlast vs w h1 h2).out) l.length (Array.replicate l.length false) (fun _=>undef) {w0 with drawn:=w0.drawn+1} (by simp)
  (fun i _ _ h=>by rw [hrep i] at h;cases h) (hrep k) (fun i _ h=>by rw [hrep i] at h;cases h) ((Below.refl _ w0).drew) (by
   have:=List.countP_le_length (p:=fun i=>!(Array.replicate l.length false).getD i false) (l:=z l.length)
   simpa using this)
 ·rw [←hfr] at hmain
  simpa using hmain
 ·intro i oi hi e he hb;have:=(hB1 i oi hi).1.1;rw [Array.all_eq_true'] at this;have:=this e he
  simpa [hb] using this
 ·intro i hi;have:=(hB1 i l[i] (V (by omega))).1.2;simp only [Bool.or_eq_true,beq_iff_eq,List.any_eq_true,A,decide_eq_true_eq] at this
  rcases this with h|⟨j,_,h1,h2⟩
  ·omega
  ·split at h2
   ·rename_i oj hj;exact ⟨j,oj,h1,hj,h2⟩
   ·cases h2
 ·intro i j oi oj d hi hj hd;have:=(hB1 i oi hi).2;rw [List.all_eq_true] at this;have:=this j (List.mem_range.2 (M.1 hj).1);simp only [hj,hd,A,Bool.or_eq_true,beq_iff_eq,bne_iff_ne,Bool.not_eq_true',List.contains_eq_mem,decide_eq_false_iff_not,ne_eq] at this;refine ⟨this.1,fun hm=>?_⟩
  rcases this.2 with h|h
  ·exact absurd hm (by simpa using h)
  ·exact h
theorem fr_off {L:Nat→Bool} {vs:Nat→Value} {t:Tmp}:∀ (l:List Oper) (k:Nat) (a:Act),(∀ o∈l,o.dst≠some t)→(fr L vs l k a).tmps[t]?=a.tmps[t]?
 |[],_,_,_=>rfl
 |o::l,k,a,h=>by
  simp only [fr];rw [fr_off l (k+1) _ fun o' ho'=>h o' (List.mem_cons_of_mem _ ho')]
  split
  ·exact put_off _ _ (h o List.mem_cons_self)
  ·rfl
theorem put_size (a:Act) (d:Option Tmp) (v:Value):(a.put d v).tmps.size=a.tmps.size:=by cases d<;>simp [Act.put]
theorem fr_of {L:Nat→Bool} {vs:Nat→Value} {d:Tmp}:∀ (l:List Oper) (k j:Nat) (a:Act) (oj:Oper),l[j]?=some oj→oj.dst=some d→L (k+j)=true→(∀ i o',l[i]?=some o'→i≠j→o'.dst≠some d)→d<a.tmps.size→(fr L vs l k a).tmps[d]?=some (vs (k+j))
 |[],_,_,_,_,h,_,_,_,_=>by simp at h
 |o::l,k,0,a,oj,h,hd,hL,hne,hlt=>by
  simp at h;subst h;have e:L k=true:=hL;simp only [fr,e,if_true];rw [fr_off l (k+1) _ fun o' ho'=>by
   obtain ⟨i,hi⟩:=List.getElem?_of_mem ho';exact hne (i+1) o' (by simpa using hi) (by omega)]
  rw [hd];simp [Act.put,hlt]
 |o::l,k,j+1,a,oj,h,hd,hL,hne,hlt=>by
  simp only [fr];rw [fr_of l (k+1) j _ oj (by simpa using h) hd (by rw [←hL];congr 1;omega) (fun i o' hi hn=>hne (i+1) o' (by simpa using hi) (by omega)) (by split<;>first|exact hlt|(rw [put_size];exact hlt))]
  congr 2;omega
def Each (p:Nat→Prop):Nat→Prop
 |0=>True
 |n+1=>Each p n∧p n
end
theorem ready_nil {md:Region.Mode} {l:List Oper} {listed:Array Bool} (hsz:listed.size=l.length) (hall:∀ j,j<l.length→listed.getD j false=true):Region.ready md l.toArray listed=[]:=by
 rw [List.eq_nil_iff_forall_not_mem];intro j hj;obtain ⟨h1,oj,hoj,_⟩:=mem_ready.1 hj;have hjl:j<l.length:=(M.1 (by simpa using hoj)).1;have h2:=hall j hjl;rw [←hsz] at hjl;simp [hjl] at h1 h2;rw [h2] at h1;cases h1
section
variable {P:Program} {Q:Exit→Act→World→Prop} {a0:Act} {w0:World} {l:List Oper}
def OpIs (P:Program) (l:List Oper) (a0:Act) (I:World→Prop) (T:Nat→Value→World→Prop) (i:Nat):Prop:=
 ∀ o,l[i]?=some o→∀ vs w,I w→(∀ j,depB o j=true→T j (vs j) w)→stepsTo P l.toArray o (fr (fun _=>true) vs l 0 a0) w (fun v w'=>T i v w'∧I w'∧∀ j u,j≠i→T j u w→T j u w')
end
section
variable {P:Program} {Q:Exit→Act→World→Prop} {a0:Act} {w0:World} {l:List Oper}
end
end Go.Bx
namespace Go.Hp
def sw (h:List Int) (i j:Nat):List Int:=(h.set i (h.getD j 0)).set j (h.getD i 0)
theorem sw_len (h:List Int) (i j:Nat):(sw h i j).length=h.length:=by simp [sw]
theorem getD_set (xs:List Int) (i k:Nat) (x:Int) (hi:i<xs.length):(xs.set i x).getD k 0=if k=i then x else xs.getD k 0:=by
 by_cases e:k=i
 ·subst e;simp [hi]
 ·rw [if_neg e];have:i≠k:=fun h=>e h.symm;simp [S,this]
theorem sw_get (h:List Int) (i j k:Nat) (hi:i<h.length) (hj:j<h.length):(sw h i j).getD k 0=if k=j then h.getD i 0 else if k=i then h.getD j 0 else h.getD k 0:=by
 unfold sw;rw [getD_set _ _ _ _ (by simpa using hj),getD_set _ _ _ _ hi]
theorem sw_perm (h:List Int) (i j:Nat) (hi:i<h.length) (hj:j<h.length):(sw h i j).Perm h:=by
 rw [List.perm_iff_count];intro a;unfold sw;have e1:h.getD i 0=h[i]:=by simp [S,hi]
 have e2:h.getD j 0=h[j]:=by simp [S,hj]
 rw [e1,e2];by_cases e:i=j
 ·subst e
  simp
 ·rw [List.count_set (by simpa using hj),List.count_set hi];have e3:(h.set i h[j])[j]'(by simpa using hj)=h[j]:=by simp [e]
  rw [e3];have h1:h[i]==a→1≤h.count a:=fun hh=>by
   have:a∈h:=by rw [←(beq_iff_eq.1 hh)];exact List.getElem_mem hi
   exact List.count_pos_iff.2 this
  by_cases a1:(h[i]==a)=true
  ·have:=h1 a1;by_cases a2:(h[j]==a)=true
   ·simp [a1,a2];omega
   ·simp [a1,a2];omega
  ·by_cases a2:(h[j]==a)=true
   ·simp [a1,a2]
   ·simp [a1,a2]
def par (i:Nat):Nat:=(i-1)/2
def IsHeap (h:List Int):Prop:=∀ i,0<i→i<h.length→h.getD (par i) 0≤h.getD i 0
def UpInv (h:List Int) (j:Nat):Prop:=j<h.length∧(∀ i,0<i→i<h.length→i≠j→h.getD (par i) 0≤h.getD i 0)∧∀ c,0<c→c<h.length→par c=j→0<j→h.getD (par j) 0≤h.getD c 0
theorem up_start {h:List Int} (hh:IsHeap h) (x:Int):UpInv (h++[x]) h.length:=by
 have hg:∀ k,k<h.length→(h++[x]).getD k 0=h.getD k 0:=fun k hk=>by simp [S,List.getElem?_append_left hk]
 refine ⟨by simp,fun i h0 hi hne=>?_,fun c h0 hc hp _=>?_⟩
 ·simp at hi;rw [hg i (by omega),hg (par i) (by unfold par;omega)];exact hh i h0 (by omega)
 ·simp at hc;unfold par at hp;omega
theorem up_step {h:List Int} {j:Nat} (hi:UpInv h j) (h0:0<j) (hlt:h.getD j 0<h.getD (par j) 0):UpInv (sw h (par j) j) (par j):=by
 obtain ⟨hj,h1,h2⟩:=hi;have hp:par j<h.length:=by unfold par;omega
 have hpj:par j<j:=by unfold par;omega
 refine ⟨by rw [sw_len];exact hp,fun i i0 hi hne=>?_,fun c c0 hc hpc hpp=>?_⟩
 ·rw [sw_len] at hi;rw [sw_get _ _ _ _ hp hj,sw_get _ _ _ _ hp hj];by_cases e:i=j
  ·subst e;rw [if_neg (by omega),if_pos rfl,if_pos rfl];omega
  ·rw [if_neg e,if_neg hne];by_cases e2:par i=j
   ·rw [if_pos e2];exact h2 i i0 hi e2 h0
   ·rw [if_neg e2];by_cases e3:par i=par j
    ·rw [if_pos e3];have:=h1 i i0 hi e;rw [e3] at this;omega
    ·rw [if_neg e3];exact h1 i i0 hi e
 ·rw [sw_len] at hc;have hpp':par (par j)<par j:=by unfold par at hpp ⊢;omega
  rw [sw_get _ _ _ _ hp hj,sw_get _ _ _ _ hp hj,if_neg (by omega),if_neg (by omega)];have hb:h.getD (par (par j)) 0≤h.getD (par j) 0:=h1 (par j) hpp hp (by omega);by_cases e:c=j
  ·rw [if_pos e];exact hb
  ·rw [if_neg e,if_neg (by intro e2;rw [e2] at hpc;omega)];have:=h1 c c0 hc e;rw [hpc] at this;omega
theorem up_exit {h:List Int} {j:Nat} (hi:UpInv h j) (he:j=0∨h.getD (par j) 0≤h.getD j 0):IsHeap h:=by
 obtain ⟨hj,h1,h2⟩:=hi;intro i i0 hil;by_cases e:i=j
 ·subst e
  rcases he with he|he
  ·omega
  ·exact he
 ·exact h1 i i0 hil e
theorem heap_min {h:List Int} (hh:IsHeap h):∀ i,i<h.length→h.getD 0 0≤h.getD i 0:=by
 intro i
 induction i using Nat.strongRecOn with
 |ind i ih=>
  intro hi;by_cases e:i=0
  ·subst e;exact Int.le_refl _
  ·have h1:=hh i (by omega) hi;have h2:=ih (par i) (by unfold par;omega) (by unfold par;omega);omega
def DownInv (h:List Int) (n i:Nat):Prop:=n≤h.length∧(∀ c,0<c→c<n→par c≠i→h.getD (par c) 0≤h.getD c 0)∧∀ c,0<c→c<n→par c=i→0<i→h.getD (par i) 0≤h.getD c 0
theorem down_start {h:List Int} (hh:IsHeap h) {n:Nat} (hn:h.length=n+1):DownInv (sw h 0 n) n 0:=by
 refine ⟨by rw [sw_len];omega,fun c c0 hc hp=>?_,fun c _ _ _ h0=>by omega⟩;have hp0:0<par c:=by omega
 have hpc:par c<c:=by unfold par;omega
 rw [sw_get _ _ _ _ (by omega) (by omega),sw_get _ _ _ _ (by omega) (by omega),if_neg (by omega),if_neg (by omega),if_neg (by omega),if_neg (by omega)];exact hh c c0 (by omega)
theorem down_step {h:List Int} {n i c:Nat} (hi:DownInv h n i) (c0:0<c) (hc:c<n) (hp:par c=i) (hlt:h.getD c 0<h.getD i 0) (hmin:∀ d,0<d→d<n→par d=i→h.getD c 0≤h.getD d 0):DownInv (sw h i c) n c:=by
 obtain ⟨hn,h1,h2⟩:=hi;have hic:i<c:=by unfold par at hp;omega
 have hil:i<h.length:=by omega
 have hcl:c<h.length:=by omega
 refine ⟨by rw [sw_len];exact hn,fun d d0 hd hpd=>?_,fun d d0 hd hpd _=>?_⟩
 ·rw [sw_get _ _ _ _ hil hcl,sw_get _ _ _ _ hil hcl];rw [if_neg hpd];by_cases e:d=c
  ·subst e;rw [if_pos hp,if_pos rfl];omega
  ·rw [if_neg e];by_cases e2:par d=i
   ·rw [if_pos e2,if_neg (by intro e3;subst e3;unfold par at e2;omega)];exact hmin d d0 hd e2
   ·rw [if_neg e2];by_cases e3:d=i
    ·subst e3;rw [if_pos rfl];exact h2 c c0 hc hp d0
    ·rw [if_neg e3];exact h1 d d0 hd e2
 ·have hpc:par c=i:=hp;rw [sw_get _ _ _ _ hil hcl,sw_get _ _ _ _ hil hcl,hpc,if_neg (by omega),if_pos rfl];have hdc:c<d:=by unfold par at hpd;omega
  rw [if_neg (by omega),if_neg (by omega)];have:=h1 d d0 hd (by omega);rw [hpd] at this;exact this
theorem down_exit {h:List Int} {n i:Nat} (hi:DownInv h n i) (he:∀ c,0<c→c<n→par c=i→h.getD i 0≤h.getD c 0):IsHeap (h.take n):=by
 obtain ⟨hn,h1,h2⟩:=hi;have hg:∀ k,k<n→(h.take n).getD k 0=h.getD k 0:=fun k hk=>by simp [S,hk]
 intro c c0 hc;have hc':c<n:=by simp at hc;omega
 rw [hg c hc',hg (par c) (by unfold par;omega)];by_cases e:par c=i
 ·rw [e];exact he c c0 hc' e
 ·exact h1 c c0 hc' e
end Go.Hp
namespace Go.Od
def once:List Int→Nat→List Nat→List Nat
 |[],_,seen=>seen
 |x::xs,n,seen=>if 0≤x∧x<n∧x.toNat∉seen then once xs n (seen++[x.toNat]) else once xs n seen
def inp (ins:List (List Int)) (i:Nat):List Nat:=once (ins.getD i []) ins.length []
theorem once_spec (xs:List Int) (n:Nat):∀ seen:List Nat,seen.Nodup→(once xs n seen).Nodup∧∀ k,k∈once xs n seen↔k∈seen∨(k<n∧(k:Int)∈xs):=by
 induction xs with
 |nil=>intro seen hs;exact ⟨hs,fun k=>by simp [once]⟩
 |cons x xs ih=>
  intro seen hs;unfold once
  split
  ·rename_i h;obtain ⟨h0,h1,h2⟩:=h;obtain ⟨i1,i2⟩:=ih (seen++[x.toNat]) (by
    rw [List.nodup_append];exact ⟨hs,by simp,fun a ha b hb=>by simp at hb;subst hb;intro e;subst e;exact h2 ha⟩)
   refine ⟨i1,fun k=>?_⟩;rw [i2];rw [List.mem_append,List.mem_singleton,List.mem_cons];constructor
   ·rintro ((h|h)|⟨h,h'⟩)
    ·exact .inl h
    ·exact .inr ⟨by omega,.inl (by omega)⟩
    ·exact .inr ⟨h,.inr h'⟩
   ·rintro (h|⟨h,h'|h'⟩)
    ·exact .inl (.inl h)
    ·exact .inl (.inr (by omega))
    ·exact .inr ⟨h,h'⟩
  ·rename_i h;obtain ⟨i1,i2⟩:=ih seen hs;refine ⟨i1,fun k=>?_⟩;rw [i2];simp only [List.mem_cons];constructor
   ·rintro (h'|⟨h',h''⟩)
    ·exact .inl h'
    ·exact .inr ⟨h',.inr h''⟩
   ·rintro (h'|⟨h',h''|h''⟩)
    ·exact .inl h'
    ·left;by_cases hk:k∈seen
     ·exact hk
     ·exact absurd ⟨by omega,by omega,by rw [←h''];simpa using hk⟩ h
    ·exact .inr ⟨h',h''⟩
theorem inp_nodup (ins:List (List Int)) (i:Nat):(inp ins i).Nodup:=(once_spec _ _ [] List.nodup_nil).1
theorem inp_mem (ins:List (List Int)) (i k:Nat):k∈inp ins i↔k<ins.length∧(k:Int)∈ins.getD i []:=by
 have:=(once_spec (ins.getD i []) ins.length [] List.nodup_nil).2 k
 simpa [inp] using this
def rdy (ins:List (List Int)) (out:List Nat) (i:Nat):Bool:=decide (i∉out)&&(inp ins i).all fun k=>decide (k∈out)
def least (ins:List (List Int)) (out:List Nat):Option Nat:=(z ins.length).find? (rdy ins out)
def ordN (ins:List (List Int)):Nat→List Nat→List Nat
 |0,out=>out
 |f+1,out=>match least ins out with
  |none=>out
  |some b=>ordN ins f (out++[b])
def ord (ins:List (List Int)):List Nat:=ordN ins ins.length []
theorem rdy_iff (ins:List (List Int)) (out:List Nat) (i:Nat):rdy ins out i=true↔i∉out∧∀ k∈inp ins i,k∈out:=by
 unfold rdy;simp only [A,decide_eq_true_eq,List.all_eq_true]
theorem find_range {n:Nat} {p:Nat→Bool} {b:Nat} (hb:b<n) (hp:p b=true) (hl:∀ j,j<b→p j=false):(z n).find? p=some b:=by
 rw [List.find?_eq_some_iff_getElem];refine ⟨hp,b,by simpa using hb,by simp,fun j hj=>?_⟩;simp [hl j hj]
theorem least_some {ins:List (List Int)} {out:List Nat} {b:Nat} (hb:b<ins.length) (hr:rdy ins out b=true) (hl:∀ j,j<b→rdy ins out j=false):least ins out=some b:=find_range hb hr hl
theorem least_none {ins:List (List Int)} {out:List Nat} (h:∀ j,j<ins.length→rdy ins out j=false):least ins out=none:=by
 unfold least;rw [List.find?_eq_none];intro j hj;simp [h j (List.mem_range.1 hj)]
theorem ordN_none {ins:List (List Int)} {out:List Nat} (h:least ins out=none):∀ f,ordN ins f out=out
 |0=>rfl
 |f+1=>by simp [ordN,h]
theorem ordN_some {ins:List (List Int)} {out:List Nat} {b:Nat} (h:least ins out=some b) (f:Nat):ordN ins (f+1) out=ordN ins f (out++[b]):=by simp [ordN,h]
def lf (ins:List (List Int)) (out:List Nat) (i:Nat):Nat:=((inp ins i).filter fun k=>decide (k∉out)).length
theorem lf_zero (ins:List (List Int)) (out:List Nat) (i:Nat):lf ins out i=0↔∀ k∈inp ins i,k∈out:=by
 unfold lf;rw [List.length_eq_zero_iff,List.filter_eq_nil_iff];constructor
 ·intro h k hk;have:=h k hk
  simpa using this
 ·intro h k hk;have:=h k hk
  simpa using this
theorem lf_keep {ins:List (List Int)} {out:List Nat} {i k:Nat} (h:k∉inp ins i):lf ins (out++[k]) i=lf ins out i:=by
 unfold lf
 congr 1
 apply List.filter_congr;intro j hj;have:j≠k:=fun e=>h (e▸hj);simp [this]
theorem lf_step {ins:List (List Int)} {out:List Nat} {i k:Nat} (h:k∈inp ins i) (hk:k∉out):lf ins (out++[k]) i+1=lf ins out i:=by
 unfold lf;have hn:=inp_nodup ins i;generalize inp ins i=l at *
 induction l with
 |nil=>cases h
 |cons x l ih=>
  rw [List.nodup_cons] at hn;by_cases e:x=k
  ·subst e;have e1:(l.filter fun j=>decide (j∉out++[x]))=l.filter fun j=>decide (j∉out):=List.filter_congr fun j hj=>by
    have:j≠x:=fun e=>hn.1 (e▸hj);simp [this]
   rw [List.filter_cons_of_neg (by simp),List.filter_cons_of_pos (by simpa using hk),e1];rfl
  ·have hkl:k∈l:=by
    rcases List.mem_cons.1 h with h|h
    ·exact absurd h.symm e
    ·exact h
   have:=ih hkl hn.2;by_cases hx:x∈out
   ·rw [List.filter_cons_of_neg (by simp [hx]),List.filter_cons_of_neg (by simp [hx])];exact this
   ·rw [List.filter_cons_of_pos (by simp [hx,e]),List.filter_cons_of_pos (by simp [hx])];simp only [List.length_cons];omega
structure KInv (ins:List (List Int)) (m:Nat) (out h:List Nat) (left:Nat→Int):Prop where
 len:out.length=m
 told:ordN ins ins.length []=ordN ins (ins.length-m) out
 bound:∀ i∈out,i<ins.length
 nodup:out.Nodup
 closed:∀ i∈out,∀ k∈inp ins i,k∈out
 lft:∀ i,i<ins.length→left i=lf ins out i
 hnd:h.Nodup
 heap:∀ i,i∈h↔i<ins.length∧i∉out∧left i=0
theorem len_le {n:Nat} {l:List Nat} (hn:l.Nodup) (hb:∀ i∈l,i<n):l.length≤n:=by
 have:=List.Nodup.length_le_of_subset hn (fun i hi=>List.mem_range.2 (hb i hi):l ⊆ z n)
 simpa using this
theorem KInv.rdy {ins:List (List Int)} {m:Nat} {out h:List Nat} {left:Nat→Int} (I:KInv ins m out h left) (i:Nat) (hi:i<ins.length):Od.rdy ins out i=true↔i∈h:=by
 rw [rdy_iff,I.heap,I.lft i hi,←lf_zero];constructor
 ·rintro ⟨h1,h2⟩;exact ⟨hi,h1,by rw [h2];rfl⟩
 ·rintro ⟨_,h1,h2⟩;exact ⟨h1,by omega⟩
theorem KInv.done {ins:List (List Int)} {m:Nat} {out:List Nat} {left:Nat→Int} (I:KInv ins m out [] left):ord ins=out:=by
 unfold ord;rw [I.told];exact ordN_none (least_none fun j hj=>by
  cases e:Od.rdy ins out j with
  |false=>rfl
  |true=>have:=(I.rdy j hj).1 e;cases this) _
structure KMid (ins:List (List Int)) (m:Nat) (out:List Nat) (k:Nat) (us:List Nat) (j:Nat) (h:List Nat) (left:Nat→Int):Prop where
 len:out.length=m
 told:ordN ins ins.length []=ordN ins (ins.length-(m+1)) (out++[k])
 bound:∀ i∈out++[k],i<ins.length
 nodup:(out++[k]).Nodup
 closed:∀ i∈out++[k],∀ x∈inp ins i,x∈out
 usm:∀ i,i∈us↔i<ins.length∧k∈inp ins i
 usnd:us.Nodup
 lft:∀ i,i<ins.length→left i=if i∈us.take j then (lf ins (out++[k]) i:Int) else lf ins out i
 hnd:h.Nodup
 heap:∀ i,i∈h↔i<ins.length∧i∉out++[k]∧left i=0
theorem KInv.pop {ins:List (List Int)} {m:Nat} {out h h':List Nat} {left:Nat→Int} {k:Nat} {us:List Nat} (I:KInv ins m out h left) (hk:k∈h) (hmin:∀ i∈h,k≤i) (hp:h.Perm (k::h')) (hus:∀ i,i∈us↔i<ins.length∧k∈inp ins i) (husn:us.Nodup):
  KMid ins m out k us 0 h' left:=by
 obtain ⟨hkl,hko,hk0⟩:=(I.heap k).1 hk;have hr:=(I.rdy k hkl).2 hk;have hrd:=(rdy_iff ins out k).1 hr;have hleast:Od.least ins out=some k:=least_some hkl hr fun j hj=>by
  cases e:Od.rdy ins out j with
  |false=>rfl
  |true=>have:=hmin j ((I.rdy j (by omega)).1 e);omega
 have hnd2:(out++[k]).Nodup:=by
  rw [List.nodup_append];exact ⟨I.nodup,by simp,fun a ha b hb=>by simp at hb;subst hb;intro e;subst e;exact hko ha⟩
 have hb2:∀ i∈out++[k],i<ins.length:=fun i hi=>by
  rcases List.mem_append.1 hi with h|h
  ·exact I.bound i h
  ·simp at h;omega
 have hm:m+1≤ins.length:=by
  have:=len_le hnd2 hb2;simp at this;have:=I.len;omega
 have hnk:(k::h').Nodup:=hp.nodup_iff.1 I.hnd;rw [List.nodup_cons] at hnk;exact {
  len:=I.len
  told:=by
   rw [I.told,show ins.length-m=(ins.length-(m+1))+1 by omega];exact ordN_some hleast _
  bound:=hb2
  nodup:=hnd2
  closed:=fun i hi x hx=>by
   rcases List.mem_append.1 hi with h|h
   ·exact I.closed i h x hx
   ·simp at h;subst h;exact hrd.2 x hx
  usm:=hus
  usnd:=husn
  lft:=fun i hi=>by simp;exact I.lft i hi
  hnd:=hnk.2
  heap:=fun i=>by
   have h1:=I.heap i;have h2:=hp.mem_iff (a:=i);rw [List.mem_cons] at h2;constructor
   ·intro hi;obtain ⟨a,b,c⟩:=h1.1 (h2.2 (.inr hi));refine ⟨a,?_,c⟩;rw [List.mem_append];rintro (h|h)
    ·exact b h
    ·simp at h;subst h;exact hnk.1 hi
   ·rintro ⟨a,b,c⟩;rw [List.mem_append] at b
    rcases h2.1 (h1.2 ⟨a,fun h=>b (.inl h),c⟩) with h|h
    ·exact absurd (.inr (by simp [h])) b
    ·exact h}
theorem take_mem {us:List Nat} (hn:us.Nodup) {j:Nat} {u:Nat} (hu:us[j]?=some u) (i:Nat):i∈us.take (j+1)↔i∈us.take j∨i=u:=by
 rw [List.take_succ_eq_append_getElem (M.1 hu).1,List.mem_append,List.mem_singleton,(M.1 hu).2]
theorem not_take {us:List Nat} (hn:us.Nodup) {j:Nat} {u:Nat} (hu:us[j]?=some u):u∉us.take j:=by
 intro h;obtain ⟨q,hq,e⟩:=List.mem_iff_getElem.1 h;rw [List.length_take] at hq;rw [List.getElem_take] at e;have hj:=M.1 hu;have:=List.pairwise_iff_getElem.1 hn q j (by omega) hj.1 (by omega);rw [e,hj.2] at this;exact this rfl
theorem KMid.step {ins:List (List Int)} {m:Nat} {out h h':List Nat} {left left':Nat→Int} {k j u:Nat} {us:List Nat} (I:KMid ins m out k us j h left) (hu:us[j]?=some u)
  (hl:∀ i,i<ins.length→left' i=if i=u then left u-1 else left i) (hh:if left u-1=0 then h'.Perm (u::h) else h'=h):1≤left u∧u<ins.length∧KMid ins m out k us (j+1) h' left':=by
 have hum:u∈us:=List.mem_of_getElem? hu;obtain ⟨hul,hku⟩:=(I.usm u).1 hum;have hnt:=not_take I.usnd hu;have hlu:=I.lft u hul;rw [if_neg hnt] at hlu;have hko:k∉out:=by
  have:=I.nodup;rw [List.nodup_append] at this;exact fun h=>this.2.2 k h k (by simp) rfl
 have hstep:=lf_step hku hko;have huo:u∉out++[k]:=by
  intro h;have:=I.closed u h k hku;exact hko this
 refine ⟨by omega,hul,?_⟩;have hlft:∀ i,i<ins.length→left' i=if i∈us.take (j+1) then (lf ins (out++[k]) i:Int) else lf ins out i:=by
  intro i hi;rw [hl i hi];by_cases e:i=u
  ·subst e;rw [if_pos rfl,if_pos ((take_mem I.usnd hu i).2 (.inr rfl))];omega
  ·rw [if_neg e,I.lft i hi];by_cases e2:i∈us.take j
   ·rw [if_pos e2,if_pos ((take_mem I.usnd hu i).2 (.inl e2))]
   ·rw [if_neg e2,if_neg (fun h=>by
     rcases (take_mem I.usnd hu i).1 h with h|h
     ·exact e2 h
     ·exact e h)]
 have hnew:left' u=left u-1:=by rw [hl u hul,if_pos rfl]
 have huh:u∉h:=fun h=>by have:=((I.heap u).1 h).2.2;omega
 refine {len:=I.len,told:=I.told,bound:=I.bound,nodup:=I.nodup,closed:=I.closed,usm:=I.usm,usnd:=I.usnd,lft:=hlft,hnd:=?_,heap:=fun i=>?_}
 ·by_cases e:left u-1=0
  ·rw [if_pos e] at hh;exact hh.nodup_iff.2 (List.nodup_cons.2 ⟨huh,I.hnd⟩)
  ·rw [if_neg e] at hh;rw [hh];exact I.hnd
 ·by_cases e:left u-1=0
  ·rw [if_pos e] at hh;rw [hh.mem_iff,List.mem_cons,I.heap i];by_cases ei:i=u
   ·subst ei;constructor
    ·intro _;exact ⟨hul,huo,by omega⟩
    ·intro _;exact .inl rfl
   ·constructor
    ·rintro (h|⟨a,b,c⟩)
     ·exact absurd h ei
     ·exact ⟨a,b,by rw [hl i a,if_neg ei];exact c⟩
    ·rintro ⟨a,b,c⟩;rw [hl i a,if_neg ei] at c;exact .inr ⟨a,b,c⟩
  ·rw [if_neg e] at hh;rw [hh,I.heap i];by_cases ei:i=u
   ·subst ei;constructor
    ·rintro ⟨_,_,c⟩;omega
    ·rintro ⟨_,_,c⟩;omega
   ·constructor
    ·rintro ⟨a,b,c⟩;exact ⟨a,b,by rw [hl i a,if_neg ei];exact c⟩
    ·rintro ⟨a,b,c⟩;rw [hl i a,if_neg ei] at c;exact ⟨a,b,c⟩
theorem KMid.fin {ins:List (List Int)} {m:Nat} {out h:List Nat} {left:Nat→Int} {k:Nat} {us:List Nat} (I:KMid ins m out k us us.length h left):KInv ins (m+1) (out++[k]) h left where
 len:=by simp [I.len]
 told:=I.told
 bound:=I.bound
 nodup:=I.nodup
 closed:=fun i hi x hx=>List.mem_append_left _ (I.closed i hi x hx)
 lft:=fun i hi=>by
  rw [I.lft i hi,List.take_length];by_cases e:i∈us
  ·rw [if_pos e]
  ·rw [if_neg e,lf_keep fun h=>e ((I.usm i).2 ⟨hi,h⟩)]
 hnd:=I.hnd
 heap:=I.heap
theorem KInv.start {ins:List (List Int)} {h:List Nat} {left:Nat→Int} (hl:∀ i,i<ins.length→left i=(inp ins i).length) (hn:h.Nodup) (hh:∀ i,i∈h↔i<ins.length∧(inp ins i).length=0):KInv ins 0 [] h left where
 len:=rfl
 told:=rfl
 bound:=fun i hi=>by cases hi
 nodup:=List.nodup_nil
 closed:=fun i hi=>by cases hi
 lft:=fun i hi=>by
  rw [hl i hi];unfold lf;rw [List.filter_eq_self.2 fun a _=>by simp]
 hnd:=hn
 heap:=fun i=>by
  rw [hh i];constructor
  ·rintro ⟨a,b⟩;exact ⟨a,by simp,by rw [hl i a,b];rfl⟩
  ·rintro ⟨a,_,c⟩;rw [hl i a] at c;exact ⟨a,by omega⟩
end Go.Od
namespace Go.Proofs.YtgodhpampaleeaaGreatDoor
open Go.RowKit Go.Bx
attribute [local go_sem ↓] Go.wp_at_zero Go.wp_at_succ
def OwnP (w:World) (B:Nat) (v:Value) (xs:List Int):Prop:=w.ownsRow B 3 1 v xs.length (xs.map (Value.int .i64))
theorem OwnP.below {w w':World} {B:Nat} {v:Value} {xs:List Int} (h:OwnP w B v xs) (hb:Below w.heap.size w w'):OwnP w' B v xs:=owns_below h hb (Z _)
theorem OwnP.form {w:World} {B:Nat} {v:Value} {gs:List Int} (h:OwnP w B v gs):(v=J none 0 0∧gs=[])∨∃ g cap,v=J (some ⟨g,0,none⟩) gs.length cap∧B≤g∧g<w.heap.size∧gs.length≤cap∧cap≤maxLen∧
  (∃ cur,w.heap[g]?=some (.cells cur 3 (0,0)))∧(∀ j,w.frozen? ⟨g,j,none⟩=false)∧∀ j,j<gs.length→w.cell? ⟨g,j,none⟩=some (Y X (gs.getD j 0)):=by
 have h':w.ownsRow B 3 1 v gs.length (gs.map (Value.int .i64)):=h
 rcases h'.2 with ⟨hv,hn⟩|⟨g,cap,cur,hv,hB,hblk,hle,hcap,hsz,htk⟩
 ·exact .inl ⟨hv,List.eq_nil_of_length_eq_zero hn⟩
 ·subst hv;refine .inr ⟨g,cap,rfl,hB,(Array.getElem?_eq_some_iff.1 hblk).1,hle,hcap,⟨cur,hblk⟩,World.ownsRow.frozenAt h',fun j hj=>?_⟩;rw [World.ownsRow.cellAt h' j (by omega)];simp [hj]
theorem len_c (a:Option Addr) (n c:Nat) (w:World):Calls Tryz.prog 111 #[J a n c] w (PPost w (Y X n)):=by
 go_enter Tryz.func111,Tryz.ntmps111;go_wp2_with fail;go_ret;exact ⟨rfl,Below.refl _ _⟩
theorem less_c (g c n:Nat) (x y:Int) (i j:Nat) (w:World) (hi:i<n) (hj:j<n) (hm:n≤1000) (h1:w.cell? ⟨g,i,none⟩=some (Y X x)) (h2:w.cell? ⟨g,j,none⟩=some (Y X y)):
  Calls Tryz.prog 153 #[J (some ⟨g,0,none⟩) n c,Y X i,Y X j] w (PPost w (.bool (decide (x<y)))):=by
 have hi0:(0:Int)≤(i:Int):=by omega
 have hi1:(i:Int)<(n:Int):=by omega
 have hj0:(0:Int)≤(j:Int):=by omega
 have hj1:(j:Int)<(n:Int):=by omega
 go_enter Tryz.func153,Tryz.ntmps153;go_wp2_with fail
 go_quiet (fail)
 go_wp2_with fail;go_ret;exact ⟨rfl,below_drewN (Below.refl _ _) _⟩
def SwPost (w:World) (g:Nat) (i j:Nat) (x y:Int) (e:Ending) (w':World):Prop:=e=.returned (.tuple #[])∧∃ n,w'=((w.setCell ⟨g,i,none⟩ (Y X y)).setCell ⟨g,j,none⟩ (Y X x)).drewN n
theorem swap_c (g c n:Nat) (x y:Int) (i j:Nat) (w:World) (hi:i<n) (hj:j<n) (hm:n≤1000) (h1:w.cell? ⟨g,i,none⟩=some (Y X x)) (h2:w.cell? ⟨g,j,none⟩=some (Y X y)) (hf:∀ k,w.frozen? ⟨g,k,none⟩=false) (hne:i≠j):
  Calls Tryz.prog 156 #[J (some ⟨g,0,none⟩) n c,Y X i,Y X j] w (SwPost w g i j x y):=by
 have hi0:(0:Int)≤(i:Int):=by omega
 have hi1:(i:Int)<(n:Int):=by omega
 have hj0:(0:Int)≤(j:Int):=by omega
 have hj1:(j:Int)<(n:Int):=by omega
 have f1:=hf i;have f2:=hf j;clear hf;go_enter Tryz.func156,Tryz.ntmps156;go_wp2_with fail;have d1:(w.setCell ⟨g,i,none⟩ (Y X y)).cell? ⟨g,j,none⟩=some (Y X y):=by
  exact (World.cell?_setCell_other _ ⟨g,i,none⟩ ⟨g,j,none⟩ _ (by intro h;have:=congrArg Addr.off h;simp at this;omega)).trans h2
 have d2:(w.setCell ⟨g,i,none⟩ (Y X y)).frozen? ⟨g,j,none⟩=false:=by simpa using f2
 go_region
 all_goals
  go_end0
  exact ⟨rfl,1,rfl⟩
theorem swap_same (g c n:Nat) (x:Int) (w:World) (hi:0<n) (hm:n≤1000) (h1:w.cell? ⟨g,0,none⟩=some (Y X x)) (hf:∀ k,w.frozen? ⟨g,k,none⟩=false):
  Calls Tryz.prog 156 #[J (some ⟨g,0,none⟩) n c,Y X 0,Y X 0] w (SwPost w g 0 0 x x):=by
 have hi1:(0:Int)<(n:Int):=by omega
 have f1:=hf 0;clear hf;go_enter Tryz.func156,Tryz.ntmps156;go_wp2_with fail
 go_region
 all_goals
  go_end0
  exact ⟨rfl,1,rfl⟩
theorem infoI:(Tryz.prog.info? 3).map (fun i=>(i.zero,i.size,i.bytes))=some (some (Y X 0),1,8):=by kernel_rfl
theorem OwnP.alloc {w:World} {B:Nat} {v:Value} {xs:List Int} (h:OwnP w B v xs) (o:Obj):OwnP (w.alloc o) B v xs:=World.ownsRow.alloc h o
theorem OwnP.drew {w:World} {B:Nat} {v:Value} {xs:List Int} (h:OwnP w B v xs):OwnP w.drew B v xs:=h
theorem OwnP.row {w:World} {B n:Nat} {v:Value} {xs:List Int} (hn:xs.length=n) (h:OwnP w B v xs):w.ownsRow B 3 1 v n (xs.map (Value.int .i64)):=hn▸h
structure HFr (nb:Nat) (v:Value) (w w':World):Prop where
 os:w'.os=w.os
 tape:w'.tape=w.tape
 output:w'.output=w.output
 size:w.heap.size≤w'.heap.size
 block:∀ k,k<w.heap.size→k≠nb→v.ownBlock≠some k→w'.heap[k]?=w.heap[k]?
def HpIs (W:World) (nb B:Nat) (v:Value) (xs:List Int):Prop:=OwnP W B v xs∧W.heap[nb]?=some (.cells #[v] 133 (0,0))∧v.ownBlock≠some nb
theorem own_set_ne {w:World} {B:Nat} {v:Value} {n:Nat} {xs:List Value} (h:w.ownsRow B 3 1 v n xs) {p:Addr} (hp:v.ownBlock≠some p.block) (u:Value):(w.setCell p u).ownsRow B 3 1 v n xs:=by
 refine ⟨h.1,?_⟩
 rcases h.2 with hn|⟨g,cap,cur,rfl,hB,hb,rest⟩
 ·exact .inl hn
 ·refine .inr ⟨g,cap,cur,rfl,hB,?_,rest⟩;rw [Below.heap_setCell _ _ _ _ fun e=>hp (by rw [←e];rfl)];exact hb
theorem cell_newP (W:World) (x:Value) (t:TypeId):(W.alloc (.cells #[x] t)).cell? ⟨W.heap.size,0,none⟩=some x:=(Box.new W [x] t).cell 0 rfl
theorem news_one {W:World} {b:Nat} {x:Value} (h:W.cell? ⟨b,0,none⟩=some x):∀ j u,[x][j]?=some u→W.cell? ((⟨b,0,none⟩:Addr).add j)=some u:=by
 intro j u hu
 cases j with
 |zero=>simp at hu;subst hu;simpa [Addr.add] using h
 |succ j=>simp at hu
theorem ta_int (x:Int) (w:World):(Instr.typeAssert (.iface 3 (Y X x)) 20 3 false).run Tryz.prog w=.ok (Y X x) w:=by kernel_rfl
def PuPost (w:World) (nb B:Nat) (v:Value) (xs:List Int) (x:Int) (e:Ending) (w':World):Prop:=e=.returned (.tuple #[])∧∃ a c,HpIs w' nb B (J a (xs++[x]).length c) (xs++[x])∧HFr nb v w w'∧(∀ k,(Value.slice a (xs++[x]).length c).ownBlock=some k→v.ownBlock=some k∨w.heap.size≤k)
theorem HFr.trans {nb:Nat} {v v':Value} {w w' w'':World} (h:HFr nb v w w') (k:HFr nb v' w' w'') (hv:∀ k,v'.ownBlock=some k→v.ownBlock=some k∨w.heap.size≤k):HFr nb v w w'':=
 ⟨k.os.trans h.os,k.tape.trans h.tape,k.output.trans h.output,O h.size k.size,fun b hb hn ho=>(k.block b (U hb h.size) hn fun e=>by
  rcases hv b e with e|e
  ·exact ho e
  ·omega).trans (h.block b hb hn ho)⟩
section
variable {w W1 w7:World} {nb B n c g1 c1:Nat} {v:Value} {xs:List Int} {x:Int}
theorem pu_box (hh:HpIs w nb B v xs) (hb:Below w.heap.size w W1) (hg:W1.grownBy w7 v.ownBlock):w7.heap[nb]?=some (.cells #[v] 133 (0,0)):=by
 have hlt:=(Array.getElem?_eq_some_iff.1 hh.2.1).1;have hne:v.ownBlock≠some nb:=hh.2.2;exact ((hg.block nb (U hlt hb.size) fun hc=>hne hc.symm).trans (hb.block nb hlt)).trans hh.2.1
theorem pu_fin (hh:HpIs w nb B v xs) (hn:xs.length=n) (hb:Below w.heap.size w W1) (hown:w7.ownsRow B 3 1 (J (some ⟨g1,0,none⟩) (n+1) c1) (n+1) (xs.map (Value.int .i64)++[Y X x])) (hg:W1.grownBy w7 v.ownBlock) (hat:v.ownBlock=some g1∨g1=W1.heap.size):
  PuPost w nb B v xs x (.returned (.tuple #[])) (w7.setCell ⟨nb,0,none⟩ (J (some ⟨g1,0,none⟩) (n+1) c1)):=by
 have hbox:=pu_box hh hb hg;have hlt:=(Array.getElem?_eq_some_iff.1 hh.2.1).1;have hnl:(xs++[x]).length=n+1:=by simp [hn]
 have hB:∀ k,v.ownBlock=some k→B≤k:=fun k hk=>(World.ownsRow.lt hh.1 k hk).1;have hne1:(Value.slice (some ⟨g1,0,none⟩) (n+1) c1).ownBlock≠some nb:=fun e=>by
  simp [Value.ownBlock] at e;subst e
  rcases hat with h|h
  ·exact hh.2.2 h
  ·have:=hb.size;omega
 refine ⟨rfl,some ⟨g1,0,none⟩,c1,⟨?_,?_,by rw [hnl];exact hne1⟩,⟨hg.os.trans hb.os,hg.tape.trans hb.tape,hg.output.trans hb.output,by rw [size_set];exact O hb.size hg.size,fun k hk hkn hko=>?_⟩,fun k hk=>?_⟩
 ·have:OwnP w7 B (J (some ⟨g1,0,none⟩) (n+1) c1) (xs++[x]):=by
   unfold OwnP;rw [hnl,List.map_append];exact hown
  rw [hnl];exact own_set_ne this hne1 _
 ·rw [hnl];have:=hbox;simp [World.setCell,Array.getElem?_modify,this]
 ·rw [Below.heap_setCell _ _ _ _ hkn,hg.block k (U hk hb.size) (fun hc=>hko hc.symm),hb.block k hk]
 ·simp [Value.ownBlock] at hk;subst hk
  rcases hat with h|h
  ·exact .inl h
  ·exact .inr (by rw [h];exact hb.size)
end
theorem push_c (nb B n c:Nat) (a:Option Addr) (xs:List Int) (x:Int) (w:World) (hn:xs.length=n) (hm:xs.length≤1000) (hh:HpIs w nb B (J a n c) xs) (hB:B≤w.heap.size):
  Calls Tryz.prog 155 #[.pointer (some ⟨nb,0,none⟩),.iface 3 (Y X x)] w (PuPost w nb B (J a n c) xs x):=by
 have bx:Box w nb [J a n c]:=⟨_,hh.2.1⟩;have c0:=bx.cell 0 rfl;have f0:=bx.frozen 0;obtain ⟨i3,hi3,hz0,hz1,hz2⟩:=info_parts infoI;have e0:=fun o=>(bx.alloc o).cell 0 rfl;have ta:=ta_int x;have HH:Hid (HpIs w nb B (J a n c) xs∧xs.length=n):=⟨hh,hn⟩;have HM:Hid (n+1≤maxLen∧(n+1)*8≤140737488355328):=by constructor<;>(try unfold maxLen)<;>omega
 clear bx hh hn hm;go_enter Tryz.func155,Tryz.ntmps155;go_wp2_with fail
 go_region_law
  (first
  |(refine step_append_lies _ rfl _ _ 133 rfl B 3 i3 (Y X 0) 1 8 Tryz.underlying133 hi3 hz0 hz1 hz2 rfl (by decide) (J a n c) n _ rfl (OwnP.row (w:=_) (B:=B) (v:=J a n c) (xs:=xs) HH.out.2 (by repeat' (first|assumption|exact HH.out.1.1|(with_reducible refine OwnP.alloc ?_ _)|(with_reducible refine OwnP.drew ?_)))) _ 1 1 [Y X x] rfl rfl (news_one (by first|assumption|(simp;done))) (by simp [Value.oneCell']) (by decide) HM.out.1 HM.out.2 (by first|assumption|omega|(simp;omega)) _ rfl ?_;intro g1 c1 w7 hown7 hgrow7 hat7 hlt7;have hbx:=pu_box HH.out.1 ((by repeat' (first|assumption|(with_reducible exact Below.refl _ _)|(with_reducible refine Below.drew ?_)|(with_reducible refine Below.alloc ?_ ?_ _)|(simp;done)|(simp;omega))):Below w.heap.size w _) hgrow7;have bx7:Box w7 nb [J a n c]:=⟨_,hbx⟩;have q0:=bx7.cell 0 rfl;have q1:=bx7.frozen 0;have HFIN:Hid (PuPost w nb B (J a n c) xs x (.returned (.tuple #[])) (w7.setCell ⟨nb,0,none⟩ (J (some ⟨g1,0,none⟩) (n+1) c1))):=pu_fin HH.out.1 HH.out.2 ((by repeat' (first|assumption|(with_reducible exact Below.refl _ _)|(with_reducible refine Below.drew ?_)|(with_reducible refine Below.alloc ?_ ?_ _)|(simp;done)|(simp;omega))):Below w.heap.size w _) hown7 hgrow7 hat7;clear hown7 hgrow7 hat7 hbx bx7))
 all_goals
  go_end0
  exact HFIN.out
theorem OwnP.stored {w:World} {B g cap n:Nat} {gs:List Int} (hn:gs.length=n) (h:OwnP w B (J (some ⟨g,0,none⟩) n cap) gs) (j:Nat) (x:Int):OwnP (w.setCell ⟨g,j,none⟩ (Y X x)) B (J (some ⟨g,0,none⟩) n cap) (gs.set j x):=by
 subst hn;have:=(World.ownsRow.stored h j (Y X x)).1;unfold OwnP;rw [List.length_set,List.map_set];exact this
theorem HpIs.sw {W:World} {nb B g c n:Nat} {hs:List Int} (hn:hs.length=n) (h:HpIs W nb B (J (some ⟨g,0,none⟩) n c) hs) (i j:Nat) (k:Nat):
  HpIs (((W.setCell ⟨g,i,none⟩ (Y X (hs.getD j 0))).setCell ⟨g,j,none⟩ (Y X (hs.getD i 0))).drewN k) nb B (J (some ⟨g,0,none⟩) n c) (Hp.sw hs i j):=by
 have hg:=(World.ownsRow.lt h.1 g rfl).1;have hne:nb≠g:=fun e=>h.2.2 (by rw [e];rfl);refine ⟨(h.1.stored hn i _).stored (by simpa using hn) j _,?_,h.2.2⟩;show (World.setCell _ _ _).heap[nb]?=_;rw [Below.heap_setCell _ _ _ _ hne,Below.heap_setCell _ _ _ _ hne];exact h.2.1
theorem HFr.sw {W:World} {nb g c n:Nat} (i j:Nat) (x y:Value) (k:Nat):HFr nb (J (some ⟨g,0,none⟩) n c) W (((W.setCell ⟨g,i,none⟩ x).setCell ⟨g,j,none⟩ y).drewN k):=
 ⟨rfl,rfl,rfl,by show _≤(World.setCell _ _ _).heap.size;rw [size_set,size_set];exact Z _,fun b hb hn ho=>by
  have hne:b≠g:=fun e=>ho (by rw [e];rfl);show (World.setCell _ _ _).heap[b]?=_;rw [Below.heap_setCell _ _ _ _ hne,Below.heap_setCell _ _ _ _ hne]⟩
theorem HFr.below {nb:Nat} {v:Value} {w w':World} (h:Below w.heap.size w w'):HFr nb v w w':=⟨h.os,h.tape,h.output,h.size,fun k hk _ _=>h.block k hk⟩
theorem HpIs.below {W W':World} {nb B:Nat} {v:Value} {hs:List Int} (h:HpIs W nb B v hs) (hb:Below W.heap.size W W'):HpIs W' nb B v hs:=⟨h.1.below hb,(hb.block nb (Array.getElem?_eq_some_iff.1 h.2.1).1).trans h.2.1,h.2.2⟩
end Go.Proofs.YtgodhpampaleeaaGreatDoor
namespace Go.Proofs.YtgodhpampaleeaaGreatDoor
open Go.RowKit Go.Bx Go.Hp
attribute [local go_sem ↓] Go.wp_at_zero Go.wp_at_succ
theorem meth_parts {P:Program} {t:TypeId} {name:String} {f:FuncId} {b:Bool} (h:((P.info? t).bind fun i=>i.methods.find? (·.name==name)).map (fun m=>(m.path.size,m.func))=some (0,some (f,b))):
  ∃ i m,P.info? t=some i∧i.methods.find? (·.name==name)=some m∧m.path=#[]∧m.func=some (f,b):=by
 cases hi:P.info? t with
 |none=>rw [hi] at h;cases h
 |some i=>
  rw [hi] at h;simp only [Option.bind_some] at h;cases hm:i.methods.find? (·.name==name) with
  |none=>rw [hm] at h;cases h
  |some m=>
   rw [hm] at h;simp only [Option.map_some,Option.some.injEq,Prod.mk.injEq] at h;exact ⟨i,m,rfl,hm,Array.eq_empty_of_size_eq_zero h.1,h.2⟩
theorem m_less : ((Tryz.prog.info? 132).bind fun i => i.methods.find? (·.name == "Less")).map (fun m => (m.path.size, m.func)) = some (0, some (153, false)) := by kernel_rfl
theorem m_len : ((Tryz.prog.info? 132).bind fun i => i.methods.find? (·.name == "Len")).map (fun m => (m.path.size, m.func)) = some (0, some (111, false)) := by kernel_rfl
theorem m_swap : ((Tryz.prog.info? 132).bind fun i => i.methods.find? (·.name == "Swap")).map (fun m => (m.path.size, m.func)) = some (0, some (156, false)) := by kernel_rfl
theorem m_push : ((Tryz.prog.info? 132).bind fun i => i.methods.find? (·.name == "Push")).map (fun m => (m.path.size, m.func)) = some (0, some (155, true)) := by kernel_rfl
theorem m_pop : ((Tryz.prog.info? 132).bind fun i => i.methods.find? (·.name == "Pop")).map (fun m => (m.path.size, m.func)) = some (0, some (154, true)) := by kernel_rfl
theorem nil_chk (a:Addr) (s m:String) (w:World):(Builtin.ssaWrapNilChk_ #[132] 132 #[.pointer (some a),strVal s,strVal m]).run Tryz.prog w=.ok (.pointer (some a)) w:=rfl
theorem load_places (nb:Nat) (v:Value) (w:World) (h:w.cell? ⟨nb,0,none⟩=some v):(loadVar 133 ⟨nb,0,none⟩).run Tryz.prog w=.ok v w:=by
 simp [loadVar,h,go_sem]
theorem method_val (fuel nb:Nat) (v:Value) (name:String) (f:FuncId) (w:World) (hm:((Tryz.prog.info? 132).bind fun i=>i.methods.find? (·.name==name)).map (fun m=>(m.path.size,m.func))=some (0,some (f,false))) (h:w.cell? ⟨nb,0,none⟩=some v):
  (method (fuel+1) 132 (.pointer (some ⟨nb,0,none⟩)) name).run Tryz.prog w=.ok (f,v) w:=by
 obtain ⟨i,m,hi,hm,h1,h2⟩:=meth_parts hm;have hl:=load_places nb v w h;have hn:=fun s m=>nil_chk ⟨nb,0,none⟩ s m w;unfold method;simp [typeInfo,hi,hm,h1,h2,follow,receiverAt,Place.get,run_underlying Tryz.underlying132,hl,hn,asAddr]
theorem method_ptr (fuel nb:Nat) (name:String) (f:FuncId) (w:World) (hm:((Tryz.prog.info? 132).bind fun i=>i.methods.find? (·.name==name)).map (fun m=>(m.path.size,m.func))=some (0,some (f,true))):
  (method (fuel+1) 132 (.pointer (some ⟨nb,0,none⟩)) name).run Tryz.prog w=.ok (f,.pointer (some ⟨nb,0,none⟩)) w:=by
 obtain ⟨i,m,hi,hm,h1,h2⟩:=meth_parts hm;unfold method;simp [typeInfo,hi,hm,h1,h2,follow,receiverAt,Place.get,run_underlying Tryz.underlying132]
def UpPost (w:World) (nb B:Nat) (v:Value) (xs:List Int) (e:Ending) (w':World):Prop:=e=.returned (.tuple #[])∧∃ hs,IsHeap hs∧hs.Perm xs∧HpIs w' nb B v hs∧HFr nb v w w'
theorem HFr.refl (nb:Nat) (v:Value) (w:World):HFr nb v w w:=⟨rfl,rfl,rfl,Z _,fun _ _ _ _=>rfl⟩
theorem up_c (nb B g c n:Nat) (xs:List Int) (j:Nat) (w:World) (hn:xs.length=n) (hm:n≤1000) (hh:HpIs w nb B (J (some ⟨g,0,none⟩) n c) xs) (hu:UpInv xs j):
  Calls Tryz.prog 124 #[.iface 132 (.pointer (some ⟨nb,0,none⟩)),Y X j] w (UpPost w nb B (J (some ⟨g,0,none⟩) n c) xs):=by
 go_enter Tryz.func124,Tryz.ntmps124;go_wp2_with fail;go_loopw [1] (fun jv wr=>∃ (j:Nat) (hs:List Int),jv=Y X j∧UpInv hs j∧hs.Perm xs∧HpIs wr nb B (J (some ⟨g,0,none⟩) n c) hs∧HFr nb (J (some ⟨g,0,none⟩) n c) w wr) (fun jv _=>(intOf jv).toNat)
 case atStart=>exact ⟨j,xs,rfl,hu,List.Perm.refl _,hh,HFr.refl _ _ _⟩
 case round=>
  obtain ⟨j,hs,rfl,hu,hp,hh,hf⟩:=hrel;have hjl:=hu.1;have hln:hs.length=n:=hp.length_eq.trans hn;have bx:Box wr nb [J (some ⟨g,0,none⟩) n c]:=⟨_,hh.2.1⟩;have c0:=bx.cell 0 rfl;obtain ⟨hc,hfz⟩:(∀ k,k<hs.length→wr.cell? ⟨g,k,none⟩=some (Y X (hs.getD k 0)))∧∀ k,wr.frozen? ⟨g,k,none⟩=false:=by
   rcases hh.1.form with ⟨h,_⟩|⟨g',cap,h,_,_,_,_,_,h2,h3⟩
   ·cases h
   ·cases h;exact ⟨h3,h2⟩
  by_cases h0:j=0
  ·subst h0;have HE:Hid (UpPost w nb B (J (some ⟨g,0,none⟩) n c) xs (.returned (.tuple #[])) wr):=⟨rfl,hs,up_exit hu (.inl rfl),hp,hh,hf⟩;clear hu hp hh hf hc hfz;go_wp2_with fail
   go_end0
   exact HE.out
  ·have hpl:par j<j:=by unfold par;omega
   have hpj:((j:Int)-1)/2=((par j:Nat):Int):=by unfold par;omega
   have hd:(((par j:Nat):Int)==(j:Int))=false:=by simp;omega
   have hml := method_val (100 + 178) nb (J (some ⟨g, 0, none⟩) n c) "Less" _ wr m_less c0;have HU:Hid (UpInv hs j∧hs.Perm xs∧HpIs wr nb B (J (some ⟨g,0,none⟩) n c) hs∧HFr nb (J (some ⟨g,0,none⟩) n c) w wr):=⟨hu,hp,hh,hf⟩;have h1:=hc j hjl;have h2:=hc (par j) (by omega);clear hu hp hh hf hc;go_wp2_with fail;refine (less_c g c n _ _ j (par j) wr (by omega) (by omega) hm h1 h2).mono ?_;rintro e w2 ⟨rfl,hb2⟩;obtain ⟨lt,hlt⟩:∃ lt,lt=decide (hs.getD j 0<hs.getD (par j) 0):=⟨_,rfl⟩;have HL:Hid (lt=decide (hs.getD j 0<hs.getD (par j) 0)):=hlt;rw [←hlt];clear hlt;have hh2:=HU.out.2.2.1.below hb2;have bx2:Box w2 nb [J (some ⟨g,0,none⟩) n c]:=⟨_,hh2.2.1⟩;have c2:=bx2.cell 0 rfl;have hv:∀ k,(Value.slice (some ⟨g,0,none⟩) n c).ownBlock=some k→(Value.slice (some ⟨g,0,none⟩) n c).ownBlock=some k∨w.heap.size≤k:=fun k h=>.inl h;have hf2:=HU.out.2.2.2.trans (HFr.below hb2) hv
   cases lt
   ·have HE:Hid (UpPost w nb B (J (some ⟨g,0,none⟩) n c) xs (.returned (.tuple #[])) w2):=⟨rfl,hs,up_exit HU.out.1 (.inr (by have:=of_decide_eq_false HL.out.symm;omega)),HU.out.2.1,hh2,hf2⟩;clear hh2 hf2 hb2 h1 h2 hml bx2 hv;go_wp2_with fail
    go_end0
    exact HE.out
   ·have hms := method_val (100 + 178) nb (J (some ⟨g, 0, none⟩) n c) "Swap" _ w2 m_swap c2;have e1:=(hb2.cell (lt_of_cell h1)).trans h1;have e2:=(hb2.cell (lt_of_cell h2)).trans h2;have hfz2:∀ k,w2.frozen? ⟨g,k,none⟩=false:=by
     rcases hh2.1.form with ⟨h,_⟩|⟨g',cap,h,_,_,_,_,_,h2,h3⟩
     ·cases h
     ·cases h;exact h2
    have H2:Hid (HpIs w2 nb B (J (some ⟨g,0,none⟩) n c) hs∧HFr nb (J (some ⟨g,0,none⟩) n c) w w2):=⟨hh2,hf2⟩;clear hh2 hf2 hb2 h1 h2 hml bx2 c0 hfz;go_wp2_with fail;refine (swap_c g c n _ _ (par j) j w2 (by omega) (by omega) hm e2 e1 hfz2 (by omega)).mono ?_;rintro e w3 ⟨rfl,k,rfl⟩;have K1:=HpIs.sw hln H2.out.1 (par j) j k;have K2:=H2.out.2.trans (HFr.sw (par j) j (Y X (hs.getD j 0)) (Y X (hs.getD (par j) 0)) k) hv;have K3:=up_step HU.out.1 (by omega) (of_decide_eq_true HL.out.symm);have K4:=(sw_perm hs (par j) j (by omega) hjl).trans HU.out.2.1;have HK:Hid (HpIs _ _ _ _ _∧HFr _ _ _ _∧UpInv _ _∧List.Perm _ _):=⟨K1,K2,K3,K4⟩;clear K1 K2 K3 K4 hms e1 e2 hfz2 c2;go_wp2_with fail;go_roundw
    case rel=>exact ⟨par j,Hp.sw hs (par j) j,by first|rfl|(rw [hpj]),HK.out.2.2.1,HK.out.2.2.2,HK.out.1,HK.out.2.1⟩
    case measure=>simp [intOf];omega
def HhPost (w:World) (nb B:Nat) (v:Value) (xs:List Int) (x:Int) (e:Ending) (w':World):Prop:=e=.returned (.tuple #[])∧∃ a c hs,IsHeap hs∧hs.Perm (xs++[x])∧HpIs w' nb B (J a hs.length c) hs∧HFr nb v w w'∧(∀ k,(Value.slice a hs.length c).ownBlock=some k→v.ownBlock=some k∨w.heap.size≤k)
theorem hpush_c (nb B n c:Nat) (a:Option Addr) (xs:List Int) (x:Int) (w:World) (hn:xs.length=n) (hm:n<1000) (hh:HpIs w nb B (J a n c) xs) (hB:B≤w.heap.size) (hp:IsHeap xs):
  Calls Tryz.prog 109 #[.iface 132 (.pointer (some ⟨nb,0,none⟩)),.iface 3 (Y X x)] w (HhPost w nb B (J a n c) xs x):=by
 have hmp := method_ptr (100 + 178) nb "Push" _ w m_push;have HH:Hid (HpIs w nb B (J a n c) xs):=hh;clear hh;go_enter Tryz.func109,Tryz.ntmps109;go_wp2_with fail;refine (push_c nb B n c a xs x w hn (by omega) HH.out hB).mono ?_;rintro e w2 ⟨rfl,a2,c2,hh2,hf2,hk2⟩;have hnl:(xs++[x]).length=n+1:=by simp [hn]
 have hup:=up_start hp x;rw [hn] at hup;obtain ⟨g2,rfl⟩:∃ g2,a2=some ⟨g2,0,none⟩:=by
  rcases hh2.1.form with ⟨h,h'⟩|⟨g',cap,h,_⟩
  ·simp at h'
  ·cases h;exact ⟨_,rfl⟩
 rw [hnl] at hh2 hk2;have bx2:Box w2 nb [J (some ⟨g2,0,none⟩) (n+1) c2]:=⟨_,hh2.2.1⟩;have c0:=bx2.cell 0 rfl;have hml := method_val (100 + 178) nb (J (some ⟨g2, 0, none⟩) (n + 1) c2) "Len" _ w2 m_len c0;have H2:Hid (HpIs w2 nb B (J (some ⟨g2,0,none⟩) (n+1) c2) (xs++[x])∧HFr nb (J a n c) w w2∧(∀ k,(Value.slice (some ⟨g2,0,none⟩) (n+1) c2).ownBlock=some k→(Value.slice a n c).ownBlock=some k∨w.heap.size≤k)∧UpInv (xs++[x]) n):=⟨hh2,hf2,hk2,hup⟩;clear hh2 hf2 hk2 hup bx2 hmp;go_wp2_with fail;refine (len_c (some ⟨g2,0,none⟩) (n+1) c2 w2).mono ?_;rintro e w3 ⟨rfl,hb3⟩;have hh3:=H2.out.1.below hb3;have e1:((n+1:Nat):Int)-1=(n:Int):=by omega
 clear c0 hml;go_wp2_with fail;have hnl':(xs++[x]).length=n+1:=by simp [hn]
 refine (up_c nb B g2 c2 (n+1) (xs++[x]) n w3 hnl' (by omega) hh3 H2.out.2.2.2).mono ?_;rintro e w4 ⟨rfl,hs,q1,q2,q3,q4⟩;have hl4:hs.length=n+1:=q2.length_eq.trans hnl';have HE:Hid (HhPost w nb B (J a n c) xs x (.returned (.tuple #[])) w4):=⟨rfl,some ⟨g2,0,none⟩,c2,hs,q1,q2,by rw [hl4];exact q3,(H2.out.2.1.trans (HFr.below hb3) H2.out.2.2.1).trans q4 H2.out.2.2.1,by rw [hl4];exact H2.out.2.2.1⟩;clear q1 q2 q3 q4 hl4 hb3 hh3;go_wp2_with fail
 go_end0
 exact HE.out
theorem HpIs.cell {W:World} {nb B:Nat} {v:Value} {hs:List Int} (h:HpIs W nb B v hs):W.cell? ⟨nb,0,none⟩=some v:=(show Box W nb [v] from ⟨_,h.2.1⟩).cell 0 rfl
theorem HpIs.at {W:World} {nb B g n c:Nat} {hs:List Int} (h:HpIs W nb B (J (some ⟨g,0,none⟩) n c) hs) {j:Nat} (hj:j<hs.length):W.cell? ⟨g,j,none⟩=some (Y X (hs.getD j 0)):=by
 rcases h.1.form with ⟨h,_⟩|⟨g',cap,h,_,_,_,_,_,h2,h3⟩
 ·cases h
 ·cases h;exact h3 j hj
theorem HpIs.frz {W:World} {nb B g n c:Nat} {hs:List Int} (h:HpIs W nb B (J (some ⟨g,0,none⟩) n c) hs):∀ k,W.frozen? ⟨g,k,none⟩=false:=by
 rcases h.1.form with ⟨h,_⟩|⟨g',cap,h,_,_,_,_,_,h2,h3⟩
 ·cases h
 ·cases h;exact h2
def DnPost (w:World) (nb B n:Nat) (v:Value) (xs:List Int) (w':World):Prop:=∃ hs,IsHeap (hs.take n)∧hs.Perm xs∧hs.getD n 0=xs.getD n 0∧HpIs w' nb B v hs∧HFr nb v w w'
theorem down_c (nb B g c N n:Nat) (xs:List Int) (w:World) (hn:xs.length=N) (hN:N=n+1) (hm:N≤1000) (hh:HpIs w nb B (J (some ⟨g,0,none⟩) N c) xs) (hu:DownInv xs n 0):
  Calls Tryz.prog 125 #[.iface 132 (.pointer (some ⟨nb,0,none⟩)),Y X 0,Y X n] w (fun e w'=>∃ b,e=.returned (.bool b)∧DnPost w nb B n (J (some ⟨g,0,none⟩) N c) xs w'):=by
 have HN:Hid (N=n+1):=hN;clear hN;go_enter Tryz.func125,Tryz.ntmps125;go_wp2_with fail;go_loopw [7] (fun iv wr=>∃ (i:Nat) (hs:List Int),i≤n∧iv=Y X i∧DownInv hs n i∧hs.Perm xs∧hs.getD n 0=xs.getD n 0∧HpIs wr nb B (J (some ⟨g,0,none⟩) N c) hs∧HFr nb (J (some ⟨g,0,none⟩) N c) w wr) (fun iv _=>n-(intOf iv).toNat)
 case atStart=>exact ⟨0,xs,by omega,rfl,hu,List.Perm.refl _,rfl,hh,HFr.refl _ _ _⟩
 case round=>
  obtain ⟨i,hs,hin,rfl,hu,hp,hlast,hh,hf⟩:=hrel;have HLN:Hid (hs.length=N):=hp.length_eq.trans hn;have D:Hid (DownInv hs n i∧hs.Perm xs∧hs.getD n 0=xs.getD n 0∧HpIs wr nb B (J (some ⟨g,0,none⟩) N c) hs∧HFr nb (J (some ⟨g,0,none⟩) N c) w wr):=⟨hu,hp,hlast,hh,hf⟩;have hNn:n<N:=by have:=HN.out;omega
  obtain ⟨k1,hk1⟩:∃ k1:Nat,k1=2*i+1:=⟨_,rfl⟩;have e1:2*(i:Int)+1=(k1:Int):=by omega
  have HK1:Hid (k1=2*i+1):=hk1;clear hu hp hlast hh hf hk1;by_cases hA:n≤k1
  ·have hA1:(n:Int)≤(k1:Int):=by omega
   have HE:Hid (DnPost w nb B n (J (some ⟨g,0,none⟩) N c) xs wr):=⟨hs,down_exit D.out.1 (fun d d0 hd hp=>by unfold par at hp;have:=HK1.out;omega),D.out.2.1,D.out.2.2.1,D.out.2.2.2.1,D.out.2.2.2.2⟩;clear D;go_wp2_with fail;go_ret;exact ⟨_,rfl,HE.out⟩
  ·have hA1:(k1:Int)<(n:Int):=by omega
   obtain ⟨k2,hk2⟩:∃ k2:Nat,k2=k1+1:=⟨_,rfl⟩;have e2:(k1:Int)+1=(k2:Int):=by omega
   have HK2:Hid (k2=k1+1):=hk2;clear hk2;by_cases hB2:k2<n
   ·have hB1:(k2:Int)<(n:Int):=by omega
    have hml := method_val (100 + 178) nb (J (some ⟨g, 0, none⟩) N c) "Less" _ wr m_less (HpIs.cell D.out.2.2.2.1);have y1:=HpIs.at D.out.2.2.2.1 (j:=k1) (by have:=HLN.out;omega);have y2:=HpIs.at D.out.2.2.2.1 (j:=k2) (by have:=HLN.out;omega);go_wp2_with fail;refine (less_c g c N _ _ k2 k1 wr (by omega) (by omega) (by omega) y2 y1).mono ?_;rintro e W ⟨rfl,hb5⟩;obtain ⟨l2,hl2⟩:∃ l2,l2=decide (hs.getD k2 0<hs.getD k1 0):=⟨_,rfl⟩;have HL2:Hid (l2=decide (hs.getD k2 0<hs.getD k1 0)):=hl2;rw [←hl2];clear hl2;have D0:=D.out;have D:Hid (DownInv hs n i∧hs.Perm xs∧hs.getD n 0=xs.getD n 0∧HpIs W nb B (J (some ⟨g,0,none⟩) N c) hs∧HFr nb (J (some ⟨g,0,none⟩) N c) w W):=⟨D0.1,D0.2.1,D0.2.2.1,D0.2.2.2.1.below hb5,D0.2.2.2.2.trans (HFr.below hb5) fun k h=>.inl h⟩;clear D0 hb5 y1 y2 hml
    cases l2
    ·have HCN:Hid (0<k1∧k1<n∧par k1=i∧∀ d,0<d→d<n→par d=i→hs.getD k1 0≤hs.getD d 0):=by
      refine ⟨by have:=HK1.out;omega,by omega,by have:=HK1.out;unfold par;omega,fun d d0 hd hp=>?_⟩;have h:d=k1∨d=k2:=by have:=HK1.out;have:=HK2.out;unfold par at hp;omega
      rcases h with h|h
      ·subst h;exact Int.le_refl _
      ·subst h;have:=of_decide_eq_false HL2.out.symm;omega
     have hmlC := method_val (100 + 178) nb (J (some ⟨g, 0, none⟩) N c) "Less" _ W m_less (HpIs.cell D.out.2.2.2.1);have x1:=HpIs.at D.out.2.2.2.1 (j:=k1) (by have:=HLN.out;have:=HCN.out.2.1;omega);have x2:=HpIs.at D.out.2.2.2.1 (j:=i) (by have:=HLN.out;omega);go_wp2_with fail;refine (less_c g c N _ _ k1 i W (by have:=HCN.out.2.1;omega) (by omega) (by omega) x1 x2).mono ?_;rintro e w6 ⟨rfl,hb6⟩;obtain ⟨lt,hlt⟩:∃ lt,lt=decide (hs.getD k1 0<hs.getD i 0):=⟨_,rfl⟩;have HL:Hid (lt=decide (hs.getD k1 0<hs.getD i 0)):=hlt;rw [←hlt];clear hlt;have E:Hid (DownInv hs n i∧hs.Perm xs∧hs.getD n 0=xs.getD n 0∧HpIs w6 nb B (J (some ⟨g,0,none⟩) N c) hs∧HFr nb (J (some ⟨g,0,none⟩) N c) w w6):=⟨D.out.1,D.out.2.1,D.out.2.2.1,D.out.2.2.2.1.below hb6,D.out.2.2.2.2.trans (HFr.below hb6) fun k h=>.inl h⟩;clear D hb6 x1 x2 hmlC
     cases lt
     ·have HE:Hid (DnPost w nb B n (J (some ⟨g,0,none⟩) N c) xs w6):=⟨hs,down_exit E.out.1 (fun d d0 hd hp=>by have:=HCN.out.2.2.2 d d0 hd hp;have:=of_decide_eq_false HL.out.symm;omega),E.out.2.1,E.out.2.2.1,E.out.2.2.2.1,E.out.2.2.2.2⟩;clear E;go_wp2_with fail;go_ret;exact ⟨_,rfl,HE.out⟩
     ·have hms := method_val (100 + 178) nb (J (some ⟨g, 0, none⟩) N c) "Swap" _ w6 m_swap (HpIs.cell E.out.2.2.2.1);have x3:=HpIs.at E.out.2.2.2.1 (j:=k1) (by have:=HLN.out;have:=HCN.out.2.1;omega);have x4:=HpIs.at E.out.2.2.2.1 (j:=i) (by have:=HLN.out;omega);have hfz:=HpIs.frz E.out.2.2.2.1;go_wp2_with fail;refine (swap_c g c N _ _ i k1 w6 (by omega) (by have:=HCN.out.2.1;omega) (by omega) x4 x3 hfz (by have:=HCN.out;have h:par k1=i:=this.2.2.1;have h0:0<k1:=this.1;unfold par at h;omega)).mono ?_;rintro e w7 ⟨rfl,k,rfl⟩;have K1:=HpIs.sw HLN.out E.out.2.2.2.1 i k1 k;have K2:=E.out.2.2.2.2.trans (HFr.sw (n:=N) (c:=c) i k1 (Y X (hs.getD k1 0)) (Y X (hs.getD i 0)) k) fun k h=>.inl h;have K3:=down_step E.out.1 HCN.out.1 HCN.out.2.1 HCN.out.2.2.1 (of_decide_eq_true HL.out.symm) HCN.out.2.2.2;have hci:i<k1:=by have h:par k1=i:=HCN.out.2.2.1;have h0:=HCN.out.1;unfold par at h;omega
      have hcn:=HCN.out.2.1;have K4:=(sw_perm hs i k1 (by have:=HLN.out;omega) (by have:=HLN.out;omega)).trans E.out.2.1;have K5:(sw hs i k1).getD n 0=xs.getD n 0:=by rw [sw_get _ _ _ _ (by have:=HLN.out;omega) (by have:=HLN.out;omega),if_neg (by omega),if_neg (by omega)];exact E.out.2.2.1
      have HK:Hid (HpIs _ _ _ _ _∧HFr _ _ _ _∧DownInv _ _ _∧List.Perm _ _∧_):=⟨K1,K2,K3,K4,K5⟩;clear K1 K2 K3 K4 K5 hms x3 x4 hfz E;go_wp2_with fail;go_roundw
      case rel=>exact ⟨k1,sw hs i k1,by omega,rfl,HK.out.2.2.1,HK.out.2.2.2.1,HK.out.2.2.2.2,HK.out.1,HK.out.2.1⟩
      case measure=>simp [intOf];omega
    ·have HCN:Hid (0<k2∧k2<n∧par k2=i∧∀ d,0<d→d<n→par d=i→hs.getD k2 0≤hs.getD d 0):=by
      refine ⟨by have:=HK2.out;omega,by omega,by have:=HK1.out;have:=HK2.out;unfold par;omega,fun d d0 hd hp=>?_⟩;have h:d=k1∨d=k2:=by have:=HK1.out;have:=HK2.out;unfold par at hp;omega
      rcases h with h|h
      ·subst h;have:=of_decide_eq_true HL2.out.symm;omega
      ·subst h;exact Int.le_refl _
     have hmlC := method_val (100 + 178) nb (J (some ⟨g, 0, none⟩) N c) "Less" _ W m_less (HpIs.cell D.out.2.2.2.1);have x1:=HpIs.at D.out.2.2.2.1 (j:=k2) (by have:=HLN.out;have:=HCN.out.2.1;omega);have x2:=HpIs.at D.out.2.2.2.1 (j:=i) (by have:=HLN.out;omega);go_wp2_with fail;refine (less_c g c N _ _ k2 i W (by have:=HCN.out.2.1;omega) (by omega) (by omega) x1 x2).mono ?_;rintro e w6 ⟨rfl,hb6⟩;obtain ⟨lt,hlt⟩:∃ lt,lt=decide (hs.getD k2 0<hs.getD i 0):=⟨_,rfl⟩;have HL:Hid (lt=decide (hs.getD k2 0<hs.getD i 0)):=hlt;rw [←hlt];clear hlt;have E:Hid (DownInv hs n i∧hs.Perm xs∧hs.getD n 0=xs.getD n 0∧HpIs w6 nb B (J (some ⟨g,0,none⟩) N c) hs∧HFr nb (J (some ⟨g,0,none⟩) N c) w w6):=⟨D.out.1,D.out.2.1,D.out.2.2.1,D.out.2.2.2.1.below hb6,D.out.2.2.2.2.trans (HFr.below hb6) fun k h=>.inl h⟩;clear D hb6 x1 x2 hmlC
     cases lt
     ·have HE:Hid (DnPost w nb B n (J (some ⟨g,0,none⟩) N c) xs w6):=⟨hs,down_exit E.out.1 (fun d d0 hd hp=>by have:=HCN.out.2.2.2 d d0 hd hp;have:=of_decide_eq_false HL.out.symm;omega),E.out.2.1,E.out.2.2.1,E.out.2.2.2.1,E.out.2.2.2.2⟩;clear E;go_wp2_with fail;go_ret;exact ⟨_,rfl,HE.out⟩
     ·have hms := method_val (100 + 178) nb (J (some ⟨g, 0, none⟩) N c) "Swap" _ w6 m_swap (HpIs.cell E.out.2.2.2.1);have x3:=HpIs.at E.out.2.2.2.1 (j:=k2) (by have:=HLN.out;have:=HCN.out.2.1;omega);have x4:=HpIs.at E.out.2.2.2.1 (j:=i) (by have:=HLN.out;omega);have hfz:=HpIs.frz E.out.2.2.2.1;go_wp2_with fail;refine (swap_c g c N _ _ i k2 w6 (by omega) (by have:=HCN.out.2.1;omega) (by omega) x4 x3 hfz (by have:=HCN.out;have h:par k2=i:=this.2.2.1;have h0:0<k2:=this.1;unfold par at h;omega)).mono ?_;rintro e w7 ⟨rfl,k,rfl⟩;have K1:=HpIs.sw HLN.out E.out.2.2.2.1 i k2 k;have K2:=E.out.2.2.2.2.trans (HFr.sw (n:=N) (c:=c) i k2 (Y X (hs.getD k2 0)) (Y X (hs.getD i 0)) k) fun k h=>.inl h;have K3:=down_step E.out.1 HCN.out.1 HCN.out.2.1 HCN.out.2.2.1 (of_decide_eq_true HL.out.symm) HCN.out.2.2.2;have hci:i<k2:=by have h:par k2=i:=HCN.out.2.2.1;have h0:=HCN.out.1;unfold par at h;omega
      have hcn:=HCN.out.2.1;have K4:=(sw_perm hs i k2 (by have:=HLN.out;omega) (by have:=HLN.out;omega)).trans E.out.2.1;have K5:(sw hs i k2).getD n 0=xs.getD n 0:=by rw [sw_get _ _ _ _ (by have:=HLN.out;omega) (by have:=HLN.out;omega),if_neg (by omega),if_neg (by omega)];exact E.out.2.2.1
      have HK:Hid (HpIs _ _ _ _ _∧HFr _ _ _ _∧DownInv _ _ _∧List.Perm _ _∧_):=⟨K1,K2,K3,K4,K5⟩;clear K1 K2 K3 K4 K5 hms x3 x4 hfz E;go_wp2_with fail;go_roundw
      case rel=>exact ⟨k2,sw hs i k2,by omega,rfl,HK.out.2.2.1,HK.out.2.2.2.1,HK.out.2.2.2.2,HK.out.1,HK.out.2.1⟩
      case measure=>simp [intOf];omega
   ·have hB1:¬(k2:Int)<(n:Int):=by omega
    have hB3:decide ((k2:Int)<(n:Int))=false:=decide_eq_false hB1;have HCN:Hid (0<k1∧k1<n∧par k1=i∧∀ d,0<d→d<n→par d=i→hs.getD k1 0≤hs.getD d 0):=by
     refine ⟨by have:=HK1.out;omega,by omega,by have:=HK1.out;unfold par;omega,fun d d0 hd hp=>?_⟩;have h:d=k1:=by have:=HK1.out;have:=HK2.out;unfold par at hp;omega
     subst h;exact Int.le_refl _
    obtain ⟨W,hW⟩:∃ W,W=wr:=⟨_,rfl⟩;subst hW;have hmlC := method_val (100 + 178) nb (J (some ⟨g, 0, none⟩) N c) "Less" _ W m_less (HpIs.cell D.out.2.2.2.1);have x1:=HpIs.at D.out.2.2.2.1 (j:=k1) (by have:=HLN.out;have:=HCN.out.2.1;omega);have x2:=HpIs.at D.out.2.2.2.1 (j:=i) (by have:=HLN.out;omega);go_wp2_with fail;refine (less_c g c N _ _ k1 i W (by have:=HCN.out.2.1;omega) (by omega) (by omega) x1 x2).mono ?_;rintro e w6 ⟨rfl,hb6⟩;obtain ⟨lt,hlt⟩:∃ lt,lt=decide (hs.getD k1 0<hs.getD i 0):=⟨_,rfl⟩;have HL:Hid (lt=decide (hs.getD k1 0<hs.getD i 0)):=hlt;rw [←hlt];clear hlt;have E:Hid (DownInv hs n i∧hs.Perm xs∧hs.getD n 0=xs.getD n 0∧HpIs w6 nb B (J (some ⟨g,0,none⟩) N c) hs∧HFr nb (J (some ⟨g,0,none⟩) N c) w w6):=⟨D.out.1,D.out.2.1,D.out.2.2.1,D.out.2.2.2.1.below hb6,D.out.2.2.2.2.trans (HFr.below hb6) fun k h=>.inl h⟩;clear D hb6 x1 x2 hmlC
    cases lt
    ·have HE:Hid (DnPost w nb B n (J (some ⟨g,0,none⟩) N c) xs w6):=⟨hs,down_exit E.out.1 (fun d d0 hd hp=>by have:=HCN.out.2.2.2 d d0 hd hp;have:=of_decide_eq_false HL.out.symm;omega),E.out.2.1,E.out.2.2.1,E.out.2.2.2.1,E.out.2.2.2.2⟩;clear E;go_wp2_with fail;go_ret;exact ⟨_,rfl,HE.out⟩
    ·have hms := method_val (100 + 178) nb (J (some ⟨g, 0, none⟩) N c) "Swap" _ w6 m_swap (HpIs.cell E.out.2.2.2.1);have x3:=HpIs.at E.out.2.2.2.1 (j:=k1) (by have:=HLN.out;have:=HCN.out.2.1;omega);have x4:=HpIs.at E.out.2.2.2.1 (j:=i) (by have:=HLN.out;omega);have hfz:=HpIs.frz E.out.2.2.2.1;go_wp2_with fail;refine (swap_c g c N _ _ i k1 w6 (by omega) (by have:=HCN.out.2.1;omega) (by omega) x4 x3 hfz (by have:=HCN.out;have h:par k1=i:=this.2.2.1;have h0:0<k1:=this.1;unfold par at h;omega)).mono ?_;rintro e w7 ⟨rfl,k,rfl⟩;have K1:=HpIs.sw HLN.out E.out.2.2.2.1 i k1 k;have K2:=E.out.2.2.2.2.trans (HFr.sw (n:=N) (c:=c) i k1 (Y X (hs.getD k1 0)) (Y X (hs.getD i 0)) k) fun k h=>.inl h;have K3:=down_step E.out.1 HCN.out.1 HCN.out.2.1 HCN.out.2.2.1 (of_decide_eq_true HL.out.symm) HCN.out.2.2.2;have hci:i<k1:=by have h:par k1=i:=HCN.out.2.2.1;have h0:=HCN.out.1;unfold par at h;omega
     have hcn:=HCN.out.2.1;have K4:=(sw_perm hs i k1 (by have:=HLN.out;omega) (by have:=HLN.out;omega)).trans E.out.2.1;have K5:(sw hs i k1).getD n 0=xs.getD n 0:=by rw [sw_get _ _ _ _ (by have:=HLN.out;omega) (by have:=HLN.out;omega),if_neg (by omega),if_neg (by omega)];exact E.out.2.2.1
     have HK:Hid (HpIs _ _ _ _ _∧HFr _ _ _ _∧DownInv _ _ _∧List.Perm _ _∧_):=⟨K1,K2,K3,K4,K5⟩;clear K1 K2 K3 K4 K5 hms x3 x4 hfz E;go_wp2_with fail;go_roundw
     case rel=>exact ⟨k1,sw hs i k1,by omega,rfl,HK.out.2.2.1,HK.out.2.2.2.1,HK.out.2.2.2.2,HK.out.1,HK.out.2.1⟩
     case measure=>simp [intOf];omega
theorem OwnP.less {w:World} {B g c N n:Nat} {hs:List Int} (hN:hs.length=N) (hn:n≤N) (h:OwnP w B (J (some ⟨g,0,none⟩) N c) hs):OwnP w B (J (some ⟨g,0,none⟩) n c) (hs.take n):=by
 have hl:(hs.take n).length=n:=by rw [List.length_take];omega
 unfold OwnP at h ⊢;rw [hl];refine ⟨by simp;omega,?_⟩
 rcases h.2 with ⟨h',_⟩|⟨g',cap,cur,hv,hB,hblk,hle,hcap,hsz,htk⟩
 ·cases h'
 ·simp only [Value.slice.injEq,Option.some.injEq,Addr.mk.injEq,and_true] at hv;obtain ⟨rfl,_,rfl⟩:=hv;refine .inr ⟨g,c,cur,rfl,hB,hblk,by omega,hcap,hsz,?_⟩;rw [List.map_take,←htk,List.take_take]
  congr 1
  omega
def PoPost (w:World) (nb B g c n:Nat) (v:Value) (hs:List Int) (e:Ending) (w':World):Prop:=e=.returned (.iface 3 (Y X (hs.getD n 0)))∧HpIs w' nb B (J (some ⟨g,0,none⟩) n c) (hs.take n)∧HFr nb v w w'
theorem ppop_c (nb B g c N n:Nat) (hs:List Int) (w:World) (hl:hs.length=N) (hN:N=n+1) (hm:N≤1000) (hh:HpIs w nb B (J (some ⟨g,0,none⟩) N c) hs):
  Calls Tryz.prog 154 #[.pointer (some ⟨nb,0,none⟩)] w (PoPost w nb B g c n (J (some ⟨g,0,none⟩) N c) hs):=by
 have bx:Box w nb [J (some ⟨g,0,none⟩) N c]:=⟨_,hh.2.1⟩;have c0:=bx.cell 0 rfl;have f0:=bx.frozen 0;have c1:=HpIs.at hh (j:=n) (by omega);have hcap:N≤c:=by
  rcases hh.1.form with ⟨h,_⟩|⟨g',cap,h,_,_,h2,_⟩
  ·cases h
  ·cases h;omega
 have HH:Hid (PoPost w nb B g c n (J (some ⟨g,0,none⟩) N c) hs (.returned (.iface 3 (Y X (hs.getD n 0)))) (w.setCell ⟨nb,0,none⟩ (J (some ⟨g,0,none⟩) n c))):=by
  have hg:=(World.ownsRow.lt hh.1 g rfl).1;refine ⟨rfl,⟨own_set_ne (hh.1.less hl (by omega)) (by exact hh.2.2) _,?_,hh.2.2⟩,⟨rfl,rfl,rfl,by rw [size_set];exact Z _,fun k hk hkn hko=>Below.heap_setCell _ _ _ _ hkn⟩⟩;simp [World.setCell,Array.getElem?_modify,hh.2.1]
 generalize hs.getD n 0=x at *;have e1:(N:Int)-1=(n:Int):=by omega
 have hn0:(0:Int)≤(n:Int):=by omega
 have hn1:(n:Int)<(N:Int):=by omega
 have hn2:(n:Int)≤(c:Int):=by omega
 have hN':Hid (N=n+1):=hN;clear bx hh hl hN hcap;go_enter Tryz.func154,Tryz.ntmps154;go_wp2_with fail;go_ret;exact HH.out
theorem take_perm (hs:List Int) (n:Nat) (h:hs.length=n+1):(hs.getD n 0::hs.take n).Perm hs:=by
 have e:hs.take n++[hs.getD n 0]=hs:=by
  have h1:=List.take_succ_eq_append_getElem (l:=hs) (i:=n) (by omega);rw [List.take_of_length_le (by omega)] at h1;rw [show hs.getD n 0=hs[n] by simp [S,show n<hs.length by omega]];exact h1.symm
 have:=(List.perm_append_singleton (hs.getD n 0) (hs.take n)).symm;rw [e] at this;exact this
def HoPost (w:World) (nb B g c n:Nat) (v:Value) (xs:List Int) (e:Ending) (w':World):Prop:=e=.returned (.iface 3 (Y X (xs.getD 0 0)))∧∃ hs,IsHeap hs∧(xs.getD 0 0::hs).Perm xs∧HpIs w' nb B (J (some ⟨g,0,none⟩) n c) hs∧HFr nb v w w'
theorem hpop_c (nb B g c N n:Nat) (xs:List Int) (w:World) (hl:xs.length=N) (hN:N=n+1) (hm:N≤1000) (hh:HpIs w nb B (J (some ⟨g,0,none⟩) N c) xs) (hp:IsHeap xs):
  Calls Tryz.prog 112 #[.iface 132 (.pointer (some ⟨nb,0,none⟩))] w (HoPost w nb B g c n (J (some ⟨g,0,none⟩) N c) xs):=by
 have hml := method_val (100 + 178) nb (J (some ⟨g, 0, none⟩) N c) "Len" _ w m_len (HpIs.cell hh);have HH:Hid (HpIs w nb B (J (some ⟨g,0,none⟩) N c) xs∧IsHeap xs∧xs.length=n+1∧N=n+1):=⟨hh,hp,by omega,hN⟩;have e1:(N:Int)-1=(n:Int):=by omega
 have hnN:n<N:=by omega
 clear hh hp hl hN;go_enter Tryz.func112,Tryz.ntmps112;go_wp2_with fail;refine (len_c (some ⟨g,0,none⟩) N c w).mono ?_;rintro e w2 ⟨rfl,hb2⟩;have hh2:=HH.out.1.below hb2;have hms := method_val (100 + 178) nb (J (some ⟨g, 0, none⟩) N c) "Swap" _ w2 m_swap (HpIs.cell hh2);have hsw:Hid (Calls Tryz.prog 156 #[J (some ⟨g,0,none⟩) N c,Y X 0,Y X n] w2 (SwPost w2 g 0 n (xs.getD 0 0) (xs.getD n 0))):=by
  have x0:=HpIs.at hh2 (j:=0) (by have:=HH.out.2.2.1;omega);have xn:=HpIs.at hh2 (j:=n) (by have:=HH.out.2.2.1;omega);by_cases h0:n=0
  ·have e0:=HH.out.2.2.2;subst h0;exact swap_same g c N _ w2 (by omega) hm x0 (HpIs.frz hh2)
  ·exact swap_c g c N _ _ 0 n w2 (by omega) hnN hm x0 xn (HpIs.frz hh2) (fun e=>h0 e.symm)
 have H2:Hid (HpIs w2 nb B (J (some ⟨g,0,none⟩) N c) xs∧HFr nb (J (some ⟨g,0,none⟩) N c) w w2):=⟨hh2,HFr.below hb2⟩;clear hml hh2 hb2;go_wp2_with fail;refine hsw.out.mono ?_;rintro e w3 ⟨rfl,k,rfl⟩;have K1:=HpIs.sw (by rw [HH.out.2.2.1,HH.out.2.2.2]) H2.out.1 0 n k;have K2:=H2.out.2.trans (HFr.sw (n:=N) (c:=c) 0 n (Y X (xs.getD n 0)) (Y X (xs.getD 0 0)) k) fun k h=>.inl h;have K3:=down_start HH.out.2.1 HH.out.2.2.1;have K4:(sw xs 0 n).getD n 0=xs.getD 0 0:=by rw [sw_get _ _ _ _ (by have:=HH.out.2.2.1;omega) (by have:=HH.out.2.2.1;omega),if_pos rfl]
 have HK:Hid (HpIs _ _ _ _ _∧HFr _ _ _ _∧DownInv _ _ _∧_):=⟨K1,K2,K3,K4⟩;have hperm:=sw_perm xs 0 n (by have:=HH.out.2.2.1;omega) (by have:=HH.out.2.2.1;omega);clear K1 K2 K3 K4 hms hsw H2;go_wp2_with fail;refine (down_c nb B g c N n (sw xs 0 n) _ (by rw [sw_len,HH.out.2.2.1,HH.out.2.2.2]) HH.out.2.2.2 hm HK.out.1 HK.out.2.2.1).mono ?_;rintro e w4 ⟨bb,rfl,hs,q1,q2,q3,q4,q5⟩;have hmp := method_ptr (100 + 178) nb "Pop" _ w4 m_pop;have hl4:hs.length=N:=q2.length_eq.trans (by rw [sw_len,HH.out.2.2.1,HH.out.2.2.2]);have H4:Hid (IsHeap (hs.take n)∧hs.Perm xs∧hs.getD n 0=xs.getD 0 0∧HpIs w4 nb B (J (some ⟨g,0,none⟩) N c) hs∧HFr nb (J (some ⟨g,0,none⟩) N c) w w4∧hs.length=N):=⟨q1,q2.trans hperm,q3.trans HK.out.2.2.2,q4,HK.out.2.1.trans q5 fun k h=>.inl h,hl4⟩;clear q1 q2 q3 q4 q5 hperm HK hl4;go_wp2_with fail;refine (ppop_c nb B g c N n hs w4 H4.out.2.2.2.2.2 HH.out.2.2.2 hm H4.out.2.2.2.1).mono ?_;rintro e w5 ⟨rfl,r1,r2⟩;have HE:Hid (HoPost w nb B g c n (J (some ⟨g,0,none⟩) N c) xs (.returned (.iface 3 (Y X (xs.getD 0 0)))) w5):=by
  refine ⟨rfl,hs.take n,H4.out.1,?_,r1,H4.out.2.2.2.2.1.trans r2 fun k h=>.inl h⟩;have:=(take_perm hs n (by rw [H4.out.2.2.2.2.2,HH.out.2.2.2])).trans H4.out.2.1;rw [H4.out.2.2.1] at this;exact this
 rw [H4.out.2.2.1];clear r1 r2 hmp;go_wp2_with fail;go_ret;exact HE.out
end Go.Proofs.YtgodhpampaleeaaGreatDoor
