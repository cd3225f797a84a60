/- Texts joined: Ad Ae Af Ai Fo. -/
import Derived.Test.YtgodhpampaleeaaGreatDoorM01
import Derived.Lib.MinMax
import Derived.Laws.Rows
import Derived.Test.YtgodhpampaleeaaGreatDoorM04
import Derived.Test.YtgodhpampaleeaaGreatDoorM03
import Derived.Test.YtgodhpampaleeaaGreatDoorM02
import Derived.OrdersIn
import Derived.RangeFuncBox
import Derived.RangeFuncWrites
import Derived.RangeFuncNested
import Derived.RangeFuncBound
import Derived.RangeFuncCalls
import Derived.RangeFuncLeaves
import Derived.Shelf.Abstract
import Derived.OwnWalkIn
import Derived.TacticsInMore
import Derived.LoopNIn
import Derived.LoopIn
import Derived.Laws.StructEq
import Derived.Test.YtgodhpampaleeaaGreatDoorRows
import Derived.ProofKit
import Derived.LaidMore
import Derived.LaidLaws
import Derived.OpenShut
import Derived.Stop.Joined
import Derived.Laws.ComplexArith
open Go.Value renaming int→X
open Go.IntKind renaming i64→J
open Nat renaming le_refl→Z,zero_add→E
open Bool renaming and_eq_true→U
open Go.Lib renaming hid→V
set_option maxRecDepth 4000
set_option maxHeartbeats 3200000
set_option linter.unusedVariables false
namespace Go.Proofs.YtgodhpampaleeaaGreatDoor
open Go.RowKit Go.Bx Go.Od Go.Hp
attribute [local go_sem ↓] Go.wp_at_zero Go.wp_at_succ
structure Rc where
 x0:Int
 y0:Int
 x1:Int
 y1:Int
def Rc.zero:Rc:=⟨0,0,0,0⟩
abbrev rv (r:Rc):Value:=.agg #[X J r.x0,X J r.y0,X J r.x1,X J r.y1]
def Rc.emp (r:Rc):Bool:=decide (r.x1≤r.x0)||decide (r.y1≤r.y0)
abbrev cs4 (x0 y0 x1 y1:Int):Array Value:=#[X J x0,X J y0,X J x1,X J y1]
theorem box4 {W:World} {b:Nat} {x0 y0 x1 y1:Int} (h:Box W b (qI x0 y0 x1 y1)):W.cell? ⟨b,0,none⟩=some (X J x0)∧W.cell? ⟨b,1,none⟩=some (X J y0)∧W.cell? ⟨b,2,none⟩=some (X J x1)∧W.cell? ⟨b,3,none⟩=some (X J y1):=
 ⟨h.cell 0 rfl,h.cell 1 rfl,h.cell 2 rfl,h.cell 3 rfl⟩
theorem below_new (w:World) (o:Obj):Below w.heap.size w (w.alloc o):=(Below.refl _ _).alloc (Z _) o
theorem empty_c (x0 y0 x1 y1:Int) (w:World):Calls Tryz.prog 43 #[rv ⟨x0,y0,x1,y1⟩] w (PPost w (.bool (Rc.emp ⟨x0,y0,x1,y1⟩))):=by
 by_cases h:x1≤x0
 ·have hd:decide (x1≤x0)=true:=decide_eq_true h;have HE:Hid (Rc.emp ⟨x0,y0,x1,y1⟩=true):=by
   have:Rc.emp ⟨x0,y0,x1,y1⟩=true:=by simp [Rc.emp,h]
   exact this
  clear h;go_enter Tryz.func43,Tryz.ntmps43;go_wp2_with fail;go_ret;exact ⟨ret_b HE.o.symm,below_new _ _⟩
 ·have hd:decide (x1≤x0)=false:=decide_eq_false h;have HE:Hid (Rc.emp ⟨x0,y0,x1,y1⟩=decide (y1≤y0)):=by
   have:Rc.emp ⟨x0,y0,x1,y1⟩=decide (y1≤y0):=by simp [Rc.emp,h]
   exact this
  clear h;go_enter Tryz.func43,Tryz.ntmps43;go_wp2_with fail;go_ret;exact ⟨ret_b HE.o.symm,below_new _ _⟩
def joinR (a b:Rc):Rc:=if a.emp then (if b.emp then Rc.zero else b) else if b.emp then a else ⟨min a.x0 b.x0,min a.y0 b.y0,max a.x1 b.x1,max a.y1 b.y1⟩
abbrev cl4 (r:Rc):List Value:=(qI r.x0 r.y0 r.x1 r.y1)
def J3 (w W:World) (a b r:Rc):Prop:=Box W w.heap.size (cl4 a)∧Box W (w.heap.size+1) (cl4 b)∧Box W (w.heap.size+2) (cl4 r)∧Below w.heap.size w W
theorem J3.call {w W W':World} {a b r:Rc} (h:J3 w W a b r) (hb:Below W.heap.size W W'):J3 w W' a b r:=⟨h.1.call hb,h.2.1.call hb,h.2.2.1.call hb,h.2.2.2.trans (hb.mono h.2.2.2.size)⟩
theorem J3.new (w:World) (a b r:Rc) (t:TypeId):J3 w (((w.alloc (.cells (cl4 a).toArray t)).alloc (.cells (cl4 b).toArray t)).alloc (.cells (cl4 r).toArray t)) a b r:=by
 have h1:=Box.new (w.alloc (.cells (cl4 a).toArray t)) (cl4 b) t;have h2:=Box.new ((w.alloc (.cells (cl4 a).toArray t)).alloc (.cells (cl4 b).toArray t)) (cl4 r) t;rw [size_alloc] at h1;rw [size_alloc,size_alloc] at h2;exact ⟨((Box.new w (cl4 a) t).alloc _).alloc _,h1.alloc _,h2,((below_new w _).alloc (by rw [size_alloc];omega) _).alloc (by rw [size_alloc,size_alloc];omega) _⟩
theorem J3.cells {w W:World} {a b r:Rc} (h:J3 w W a b r):
  W.cell? ⟨w.heap.size,0,none⟩=some (X J a.x0)∧W.cell? ⟨w.heap.size,1,none⟩=some (X J a.y0)∧W.cell? ⟨w.heap.size,2,none⟩=some (X J a.x1)∧W.cell? ⟨w.heap.size,3,none⟩=some (X J a.y1)∧
  W.cell? ⟨w.heap.size+1,0,none⟩=some (X J b.x0)∧W.cell? ⟨w.heap.size+1,1,none⟩=some (X J b.y0)∧W.cell? ⟨w.heap.size+1,2,none⟩=some (X J b.x1)∧W.cell? ⟨w.heap.size+1,3,none⟩=some (X J b.y1)∧
  W.cell? ⟨w.heap.size+1+1,0,none⟩=some (X J r.x0)∧W.cell? ⟨w.heap.size+1+1,1,none⟩=some (X J r.y0)∧W.cell? ⟨w.heap.size+1+1,2,none⟩=some (X J r.x1)∧W.cell? ⟨w.heap.size+1+1,3,none⟩=some (X J r.y1)∧
  W.frozen? ⟨w.heap.size+1+1,0,none⟩=false∧W.frozen? ⟨w.heap.size+1+1,1,none⟩=false∧W.frozen? ⟨w.heap.size+1+1,2,none⟩=false∧W.frozen? ⟨w.heap.size+1+1,3,none⟩=false:=
 ⟨h.1.cell 0 rfl,h.1.cell 1 rfl,h.1.cell 2 rfl,h.1.cell 3 rfl,h.2.1.cell 0 rfl,h.2.1.cell 1 rfl,h.2.1.cell 2 rfl,h.2.1.cell 3 rfl,h.2.2.1.cell 0 rfl,h.2.2.1.cell 1 rfl,h.2.2.1.cell 2 rfl,h.2.2.1.cell 3 rfl,h.2.2.1.frozen 0,h.2.2.1.frozen 1,h.2.2.1.frozen 2,h.2.2.1.frozen 3⟩
theorem J3.set4 {w W:World} {a b r:Rc} (h:J3 w W a b r) (u0 u1 u2 u3:Value):Below w.heap.size w ((((W.setCell ⟨w.heap.size+1+1,0,none⟩ u0).setCell ⟨w.heap.size+1+1,1,none⟩ u1).setCell ⟨w.heap.size+1+1,2,none⟩ u2).setCell ⟨w.heap.size+1+1,3,none⟩ u3):=
 (((h.2.2.2.setCell (by simp;omega) _).setCell (by simp;omega) _).setCell (by simp;omega) _).setCell (by simp;omega) _
theorem set4_box {W:World} {g:Nat} {r:Rc} (h:Box W g (cl4 r)) (x0 y0 x1 y1:Int):Box ((((W.setCell ⟨g,0,none⟩ (X J x0)).setCell ⟨g,1,none⟩ (X J y0)).setCell ⟨g,2,none⟩ (X J x1)).setCell ⟨g,3,none⟩ (X J y1)) g (cl4 ⟨x0,y0,x1,y1⟩):=
 (((h.self 0 _).self 1 _).self 2 _).self 3 _
theorem ret_rect {fn:Func} {p:Tmp} (h:fn.results=#[.cell p 25]) {a:Act} {W:World} {g:Nat} {r:Rc} {R:Ending→World→Prop} (hp:a.tmps.getD p undef=.pointer (some ⟨g,0,none⟩)) (hx:Box W g (cl4 r)) (hd:a.defers=[]) (hR:R (.returned (rv r)) W):bodyPost Tryz.prog fn R .ret a W:=by
 obtain ⟨t,ht⟩:=hx;exact bodyPost_ret_by (results_cell_row h a.tmps W g t _ (0,0) _ hp ht Tryz.underlying24 rfl (by kernel_rfl)) hd hR
theorem joinR_tt {a b:Rc} (ha:a.emp=true) (hb:b.emp=true):joinR a b=Rc.zero:=by unfold joinR;rw [if_pos ha,if_pos hb]
theorem joinR_tf {a b:Rc} (ha:a.emp=true) (hb:b.emp=false):joinR a b=b:=by unfold joinR;rw [if_pos ha,hb];rfl
theorem joinR_ft {a b:Rc} (ha:a.emp=false) (hb:b.emp=true):joinR a b=a:=by unfold joinR;rw [ha,hb];rfl
theorem joinR_ff {a b:Rc} (ha:a.emp=false) (hb:b.emp=false):joinR a b=⟨min a.x0 b.x0,min a.y0 b.y0,max a.x1 b.x1,max a.y1 b.y1⟩:=by unfold joinR;rw [ha,hb];rfl
theorem join_c (a b:Rc) (w:World):Calls Tryz.prog 31 #[rv a,rv b] w (PPost w (rv (joinR a b))):=by
 obtain ⟨x0,y0,x1,y1⟩:=a;obtain ⟨x2,y2,x3,y3⟩:=b;have J0:Hid (J3 w (((w.alloc (.cells (cs4 x0 y0 x1 y1) 25)).alloc (.cells (cs4 x2 y2 x3 y3) 25)).alloc (.cells (cs4 0 0 0 0) 25)) ⟨x0,y0,x1,y1⟩ ⟨x2,y2,x3,y3⟩ ⟨0,0,0,0⟩):=J3.new w ⟨x0,y0,x1,y1⟩ ⟨x2,y2,x3,y3⟩ ⟨0,0,0,0⟩ 25;go_enter Tryz.func31,Tryz.ntmps31;go_wp2_with fail;generalize (((w.alloc (.cells (cs4 x0 y0 x1 y1) 25)).alloc (.cells (cs4 x2 y2 x3 y3) 25)).alloc (.cells (cs4 0 0 0 0) 25))=W0 at *;refine (empty_c x0 y0 x1 y1 W0).mono ?_;rintro e W1 ⟨rfl,hb1⟩;have J1:=V (J0.out.call hb1);clear hb1 J0;obtain ⟨a0,a1,a2,a3,b0,b1,b2,b3,r0,r1,r2,r3,f0,f1,f2,f3⟩:=J1.out.cells;cases ha:Rc.emp ⟨x0,y0,x1,y1⟩ with
 |true=>
  go_wp2_with fail;refine (empty_c x2 y2 x3 y3 W1).mono ?_;rintro e W2 ⟨rfl,hb2⟩;have J2:=V (J1.out.call hb2);clear hb2 a0 a1 a2 a3 b0 b1 b2 b3 r0 r1 r2 r3 f0 f1 f2 f3;obtain ⟨a0,a1,a2,a3,b0,b1,b2,b3,r0,r1,r2,r3,f0,f1,f2,f3⟩:=J2.out.cells;cases hb:Rc.emp ⟨x2,y2,x3,y3⟩ with
  |true=>
   have HJ:Hid (joinR ⟨x0,y0,x1,y1⟩ ⟨x2,y2,x3,y3⟩=⟨0,0,0,0⟩):=joinR_tt ha hb;clear ha hb;go_wp2_with fail;exact ret_rect rfl rfl (set4_box J2.out.2.2.1 _ _ _ _) rfl ⟨by rw [HJ.o],J2.out.set4 _ _ _ _⟩
  |false=>
   have HJ:Hid (joinR ⟨x0,y0,x1,y1⟩ ⟨x2,y2,x3,y3⟩=⟨x2,y2,x3,y3⟩):=joinR_tf ha hb;clear hb;go_wp2_with fail;refine (empty_c x0 y0 x1 y1 W2).mono ?_;rintro e W3 ⟨rfl,hb3⟩;have J3:=V (J2.out.call hb3);clear hb3 a0 a1 a2 a3 b0 b1 b2 b3 r0 r1 r2 r3 f0 f1 f2 f3;obtain ⟨a0,a1,a2,a3,b0,b1,b2,b3,r0,r1,r2,r3,f0,f1,f2,f3⟩:=J3.out.cells;rw [ha];clear ha;go_wp2_with fail;exact ret_rect rfl rfl (set4_box J3.out.2.2.1 _ _ _ _) rfl ⟨by rw [HJ.o],J3.out.set4 _ _ _ _⟩
 |false=>
  go_wp2_with fail;refine (empty_c x0 y0 x1 y1 W1).mono ?_;rintro e W2 ⟨rfl,hb2⟩;have J2:=V (J1.out.call hb2);clear hb2 a0 a1 a2 a3 b0 b1 b2 b3 r0 r1 r2 r3 f0 f1 f2 f3;obtain ⟨a0,a1,a2,a3,b0,b1,b2,b3,r0,r1,r2,r3,f0,f1,f2,f3⟩:=J2.out.cells;have HA:Hid (Rc.emp ⟨x0,y0,x1,y1⟩=false):=ha;rw [ha];clear ha;go_wp2_with fail;refine (empty_c x2 y2 x3 y3 W2).mono ?_;rintro e W3 ⟨rfl,hb3⟩;have J3:=V (J2.out.call hb3);clear hb3 a0 a1 a2 a3 b0 b1 b2 b3 r0 r1 r2 r3 f0 f1 f2 f3;obtain ⟨a0,a1,a2,a3,b0,b1,b2,b3,r0,r1,r2,r3,f0,f1,f2,f3⟩:=J3.out.cells;cases hb:Rc.emp ⟨x2,y2,x3,y3⟩ with
  |true=>
   have HJ:Hid (joinR ⟨x0,y0,x1,y1⟩ ⟨x2,y2,x3,y3⟩=⟨x0,y0,x1,y1⟩):=joinR_ft HA.o hb;clear hb;go_wp2_with fail;exact ret_rect rfl rfl (set4_box J3.out.2.2.1 _ _ _ _) rfl ⟨by rw [HJ.o],J3.out.set4 _ _ _ _⟩
  |false=>
   have HJ:Hid (joinR ⟨x0,y0,x1,y1⟩ ⟨x2,y2,x3,y3⟩=⟨min x0 x2,min y0 y2,max x1 x3,max y1 y3⟩):=joinR_ff HA.o hb;clear hb;go_wp2_with fail;exact ret_rect rfl rfl (set4_box J3.out.2.2.1 _ _ _ _) rfl ⟨by rw [HJ.o],J3.out.set4 _ _ _ _⟩
def boxR (r:Rc):Rc:=if r.emp then Rc.zero else r
def meetR (a b:Rc):Rc:=boxR ⟨max a.x0 b.x0,max a.y0 b.y0,min a.x1 b.x1,min a.y1 b.y1⟩
theorem meet_c (a b:Rc) (w:World):Calls Tryz.prog 17 #[rv a,rv b] w (PPost w (rv (meetR a b))):=by
 obtain ⟨x0,y0,x1,y1⟩:=a;obtain ⟨x2,y2,x3,y3⟩:=b;have J0:Hid (J3 w (((w.alloc (.cells (cs4 x0 y0 x1 y1) 25)).alloc (.cells (cs4 x2 y2 x3 y3) 25)).alloc (.cells (cs4 0 0 0 0) 25)) ⟨x0,y0,x1,y1⟩ ⟨x2,y2,x3,y3⟩ ⟨0,0,0,0⟩):=J3.new w ⟨x0,y0,x1,y1⟩ ⟨x2,y2,x3,y3⟩ ⟨0,0,0,0⟩ 25;go_enter Tryz.func17,Tryz.ntmps17;go_wp2_with fail;have HB:Hid (Below w.heap.size w (((w.alloc (.cells (cs4 x0 y0 x1 y1) 25)).alloc (.cells (cs4 x2 y2 x3 y3) 25)).alloc (.cells (cs4 0 0 0 0) 25))∧(((w.alloc (.cells (cs4 x0 y0 x1 y1) 25)).alloc (.cells (cs4 x2 y2 x3 y3) 25)).alloc (.cells (cs4 0 0 0 0) 25)).heap.size=w.heap.size+1+1+1):=⟨J0.out.2.2.2,by simp⟩;generalize (((w.alloc (.cells (cs4 x0 y0 x1 y1) 25)).alloc (.cells (cs4 x2 y2 x3 y3) 25)).alloc (.cells (cs4 0 0 0 0) 25))=W0 at *;have Y:=Box.new W0 (cl4 ⟨max x0 x2,max y0 y2,min x1 x3,min y1 y3⟩) 25;rw [HB.o.2] at Y;have J1:Hid (J3 w (W0.alloc (.cells (cs4 (max x0 x2) (max y0 y2) (min x1 x3) (min y1 y3)) 25)) ⟨x0,y0,x1,y1⟩ ⟨x2,y2,x3,y3⟩ ⟨0,0,0,0⟩∧Box (W0.alloc (.cells (cs4 (max x0 x2) (max y0 y2) (min x1 x3) (min y1 y3)) 25)) (w.heap.size+1+1+1) (cl4 ⟨max x0 x2,max y0 y2,min x1 x3,min y1 y3⟩)):=⟨J0.out.call (below_new _ _),Y⟩;clear Y J0 HB;generalize W0.alloc (.cells (cs4 (max x0 x2) (max y0 y2) (min x1 x3) (min y1 y3)) 25)=W1 at *;refine (empty_c _ _ _ _ W1).mono ?_;rintro e W2 ⟨rfl,hb2⟩;have J2:Hid (J3 w W2 ⟨x0,y0,x1,y1⟩ ⟨x2,y2,x3,y3⟩ ⟨0,0,0,0⟩∧Box W2 (w.heap.size+1+1+1) (cl4 ⟨max x0 x2,max y0 y2,min x1 x3,min y1 y3⟩)):=⟨J1.out.1.call hb2,J1.out.2.call hb2⟩;clear hb2 J1;obtain ⟨a0,a1,a2,a3,b0,b1,b2,b3,r0,r1,r2,r3,f0,f1,f2,f3⟩:=J2.out.1.cells;have m0:=J2.out.2.cell 0 rfl;have m1:=J2.out.2.cell 1 rfl;have m2:=J2.out.2.cell 2 rfl;have m3:=J2.out.2.cell 3 rfl;cases ha:Rc.emp ⟨max x0 x2,max y0 y2,min x1 x3,min y1 y3⟩ with
 |true=>
  have HJ:Hid (meetR ⟨x0,y0,x1,y1⟩ ⟨x2,y2,x3,y3⟩=⟨0,0,0,0⟩):=by
   have:meetR ⟨x0,y0,x1,y1⟩ ⟨x2,y2,x3,y3⟩=⟨0,0,0,0⟩:=by unfold meetR boxR;rw [ha];rfl
   exact this
  clear ha;go_wp2_with fail;exact ret_rect rfl rfl (set4_box J2.out.1.2.2.1 _ _ _ _) rfl ⟨by rw [HJ.o],J2.out.1.set4 _ _ _ _⟩
 |false=>
  have HJ:Hid (meetR ⟨x0,y0,x1,y1⟩ ⟨x2,y2,x3,y3⟩=⟨max x0 x2,max y0 y2,min x1 x3,min y1 y3⟩):=by
   have:meetR ⟨x0,y0,x1,y1⟩ ⟨x2,y2,x3,y3⟩=⟨max x0 x2,max y0 y2,min x1 x3,min y1 y3⟩:=by unfold meetR boxR;rw [ha];rfl
   exact this
  clear ha;go_wp2_with fail;exact ret_rect rfl rfl (set4_box J2.out.1.2.2.1 _ _ _ _) rfl ⟨by rw [HJ.o],J2.out.1.set4 _ _ _ _⟩
theorem J2new (w:World) (a b:Rc) (t:TypeId):Box ((w.alloc (.cells (cl4 a).toArray t)).alloc (.cells (cl4 b).toArray t)) w.heap.size (cl4 a)∧Box ((w.alloc (.cells (cl4 a).toArray t)).alloc (.cells (cl4 b).toArray t)) (w.heap.size+1) (cl4 b)∧Below w.heap.size w ((w.alloc (.cells (cl4 a).toArray t)).alloc (.cells (cl4 b).toArray t)):=by
 have h1:=Box.new (w.alloc (.cells (cl4 a).toArray t)) (cl4 b) t;rw [size_alloc] at h1;exact ⟨(Box.new w (cl4 a) t).alloc _,h1,(below_new w _).alloc (by rw [size_alloc];omega) _⟩
end Go.Proofs.YtgodhpampaleeaaGreatDoor
namespace Go.Bx
open Go.RowKit
theorem fr_congr2 {L L':Nat→Bool} {vs vs':Nat→Value}:∀ (l:List Oper) (k:Nat) (a:Act),(∀ j,k≤j→L j=L' j∧(L j=true→vs j=vs' j))→fr L vs l k a=fr L' vs' l k a
 |[],_,_,_=>rfl
 |o::l,k,a,h=>by
  have h0:=h k (Z _);have e:(if L k=true then a.put o.dst (vs k) else a)=(if L' k=true then a.put o.dst (vs' k) else a):=by
   rw [←h0.1];by_cases hl:L k=true
   ·rw [if_pos hl,if_pos hl,h0.2 hl]
   ·rw [if_neg hl,if_neg hl]
  simp only [fr];rw [e];exact fr_congr2 l (k+1) _ fun j hj=>h j (by omega)
theorem put_at2 {a a':Act} {t:Tmp} (h:a.tmps[t]?=a'.tmps[t]?) (d:Option Tmp) (v v':Value) (hv:d=some t→v=v'):(a.put d v).tmps[t]?=(a'.put d v').tmps[t]?:=by
 by_cases e:d=some t
 ·rw [hv e];exact put_at h d v'
 ·rw [put_off _ _ e,put_off _ _ e];exact h
theorem fr_at2 {L L':Nat→Bool} {vs vs':Nat→Value} {t:Tmp}:∀ (l:List Oper) (k:Nat) (a a':Act),a.tmps[t]?=a'.tmps[t]?→(∀ j o,l[j]?=some o→o.dst=some t→L (k+j)=L' (k+j)∧vs (k+j)=vs' (k+j))→(fr L vs l k a).tmps[t]?=(fr L' vs' l k a').tmps[t]?
 |[],_,_,_,h,_=>h
 |o::l,k,a,a',h,hd=>by
  simp only [fr];refine fr_at2 l (k+1) _ _ ?_ fun j o' hj ho'=>by
   have:=hd (j+1) o' (by simpa using hj) ho';rw [show k+(j+1)=k+1+j by omega] at this;exact this
  by_cases e:o.dst=some t
  ·have h2:=hd 0 o rfl e;rw [Nat.add_zero] at h2;rw [h2.1]
   split
   ·exact put_at2 h _ _ _ fun _=>h2.2
   ·exact h
  ·split<;>split
   ·rw [put_off _ _ e,put_off _ _ e];exact h
   ·rw [put_off _ _ e];exact h
   ·rw [put_off _ _ e];exact h
   ·exact h
section
variable {P:Program} {Q:Exit→Act→World→Prop} {a0:Act} {w0:World} {l:List Oper} {C:World→Prop}
theorem quiet_vals {R:Act→Prop} (hdst:∀ (i j:Nat) (oi oj:Oper),l[i]?=some oi→l[j]?=some oj→i≠j→∀ t,oi.dst=some t→oj.dst≠some t):∀ (m:List Oper) (i:Nat) (vs0:Nat→Value),(∀ j,j<m.length→m[j]?=l[i+j]?)→
  wpQuiet P l.toArray C R m (fr (fun q=>decide (q<i)) vs0 l 0 a0)→
  ∃ vs,(∀ j,j<i→vs j=vs0 j)∧(∀ j,i≤j→j<i+m.length→∀ o,l[j]?=some o→YieldsIn P l.toArray C o (vs j) (fr (fun q=>decide (q<j)) vs l 0 a0))∧R (fr (fun q=>decide (q<i+m.length)) vs l 0 a0)
 |[],i,vs0,_,h=>⟨vs0,fun _ _=>rfl,fun j h1 h2=>by simp at h2;omega,by simpa [wpQuiet] using h⟩
 |o::m,i,vs0,hm,h=>by
  have ho:l[i]?=some o:=by have:=hm 0 (by simp);simpa using this.symm
  have hq:qOp P l.toArray C i (wpQuiet P l.toArray C R m) (fr (fun q=>decide (q<i)) vs0 l 0 a0):=by
   unfold qOp;simp only [List.getElem?_toArray,ho];exact h
  obtain ⟨v,hy,hrest⟩:=yieldsIn_of_qOp (by simpa using ho) hq;have hput:(fr (fun q=>decide (q<i)) vs0 l 0 a0).put o.dst v=fr (fun q=>decide (q<i+1)) (upd vs0 i v) l 0 a0:=by
   have h1:=fr_step (L:=fun q=>decide (q<i)) (vs:=vs0) (v:=v) l 0 i a0 o ho (by simp) fun j o' hj hne t ht=>hdst i j o o' ho hj (fun e=>hne e.symm) t ht;rw [←h1,E];refine fr_congr2 l 0 a0 fun j _=>⟨?_,fun _=>rfl⟩;unfold upd;by_cases e:j=i
   ·subst e;simp
   ·simp only [e,if_false];exact decide_eq_decide.2 (by omega)
  rw [hput] at hrest;obtain ⟨vs,h1,h2,h3⟩:=quiet_vals hdst m (i+1) (upd vs0 i v) (fun j hj=>by have:=hm (j+1) (by simpa using hj);simp at this;rw [this];congr 1;omega) hrest;have hvi:vs i=v:=by rw [h1 i (by omega)];simp [upd]
  have hold:∀ j,j<i→vs j=vs0 j:=fun j hj=>by rw [h1 j (by omega)];simp [upd,show j≠i by omega]
  refine ⟨vs,hold,fun j hij hj o' ho'=>?_,?_⟩
  ·by_cases e:j=i
   ·subst e;rw [ho] at ho';cases ho'
    rw [hvi,fr_congr2 (L':=fun q=>decide (q<j)) (vs':=vs0) l 0 a0 fun q _=>⟨rfl,fun hq=>hold q (of_decide_eq_true hq)⟩];exact hy
   ·exact h2 j (by omega) (by simp at hj;omega) o' ho'
  ·rw [List.length_cons,show i+(m.length+1)=i+1+m.length by omega];exact h3
theorem wp_region_kept_last {id:Nat} (n k:Nat) (last:Oper) (hl:l[k]?=some last) (hlen:l.length=k+1) (hm:P.follows .mixedOrders=true) (hB:monoB l=true)
  (h:wpQuiet P l.toArray (fun w'=>∃ s:Kept n w0,w'=s.w) (fun a'=>∀ s:Kept n w0,Shut (stepsTo P l.toArray last a' s.w (fun v w'=>Q .normal (a'.put last.dst v) w'))) (l.take k) a0):(Code.region id l.toArray true).wp P Q a0 w0:=by
 have hB':=hB;unfold monoB at hB';rw [U,List.all_eq_true] at hB';have hB1:∀ i oi,l[i]?=some oi→_:=fun i oi hi=>by
  have:=hB'.2 i (List.mem_range.2 (List.getElem?_eq_some_iff.1 hi).1);simp only [hi,U] at this;exact this
 have hd2:∀ i j oi oj d,l[i]?=some oi→l[j]?=some oj→oj.dst=some d→(i=j∨oi.dst≠some d)∧(d∈oi.looksAt l.toArray→depB oi j=true):=fun i j oi oj d hi hj hd=>by
  have:=(hB1 i oi hi).2;rw [List.all_eq_true] at this;have:=this j (List.mem_range.2 (List.getElem?_eq_some_iff.1 hj).1);simp only [hj,hd,U,Bool.or_eq_true,beq_iff_eq,bne_iff_ne,ne_eq] at this;refine ⟨this.1,fun hm=>?_⟩
  rcases this.2 with h|h
  ·rw [Bool.not_eq_true'] at h;have hc:(oi.looksAt l.toArray).contains d=true:=by simpa using hm
   rw [hc] at h;cases h
  ·exact h
 have hacyc:∀ i oi,l[i]?=some oi→∀ j,depB oi j=true→j<i:=fun i oi hi j hj=>by
  have h1:=(hB1 i oi hi).1.1;rw [Array.all_eq_true'] at h1;unfold depB at hj;rw [Array.any_eq_true'] at hj;obtain ⟨e,he,hb⟩:=hj;simp only [U,beq_iff_eq] at hb;have:=h1 e he;simp [hb.1] at this;omega
 have hsel:∀ (j:Nat) (o:Oper) cs b,l[j]?=some o→o.op≠.select cs b:=fun j o cs b ho=>Region.noSelect_spec hB'.1 j o cs b (by simpa using ho);have hfr:a0=fr (fun q=>decide (q<0)) (fun _=>undef) l 0 a0:=by
  have hgen:∀ (l':List Oper) (k:Nat) (a:Act),a=fr (fun q=>decide (q<0)) (fun _=>undef) l' k a:=by
   intro l'
   induction l' with
   |nil=>intro _ _;rfl
   |cons o l' ih=>
    intro k a;simp only [fr,Nat.not_lt_zero,decide_false,Bool.false_eq_true,if_false];exact ih (k+1) a
  exact hgen l 0 a0
 rw [hfr] at h;obtain ⟨vs,_,hy,hR⟩:=quiet_vals (a0:=a0) (fun i j oi oj hi hj hne t ht=>by
  rcases (hd2 j i oj oi t hj hi ht).1 with h|h
  ·exact absurd h.symm hne
  ·exact h) (l.take k) 0 (fun _=>undef) (fun j hj=>by rw [E,List.getElem?_take_of_lt (by rw [List.length_take] at hj;omega)]) h
 have hk:(l.take k).length=k:=by rw [List.length_take];omega
 rw [E,hk] at hR;rw [hk] at hy;refine wp_region_last (fun w'=>∃ s:Kept n w0,w'=s.w) (fun i v _=>v=vs i) k last hl hlen hm hB ⟨⟨w0.drew,(Below.refl _ w0).drew⟩,rfl⟩ (fun i hi o ho vs' W hC hdep=>?_) (fun vs' W hC hT=>?_)
 ·have hyi:=hy i (Nat.zero_le _) (by omega) o ho;have hlooks:∀ t∈o.looksAt l.toArray,(fr (fun q=>decide (q<i)) vs l 0 a0).tmps[t]?=(fr (fun _=>true) vs' l 0 a0).tmps[t]?:=fun t ht=>
   fr_at2 l 0 a0 a0 rfl fun j oj hj hd=>by
    have hd3:=(hd2 i j o oj t ho hj hd).2 ht;rw [E];exact ⟨decide_eq_true (hacyc i o ho j hd3),(hdep j hd3).symm⟩
  refine steps_same o (fun cs b=>hsel i o cs b ho) hlooks ?_;unfold stepsTo
  rcases hyi with ⟨hw,hv⟩|⟨hw,hv⟩
  ·rw [if_pos hw];have h1:=hv W hC;unfold Oper.quietAt at h1;unfold gives;generalize (execOp (fr (fun q=>decide (q<i)) vs l 0 a0).eval o).run P W=r at *
   cases r with
   |ok nx w'=>
    cases nx<;>simp only [Oper.quietUpon] at h1 ⊢
    case value u=>obtain ⟨e1,e2⟩:=h1;rw [e1,e2];exact ⟨rfl,hC,fun _ _ _ h=>h⟩
    case skip=>obtain ⟨e1,e2⟩:=h1;rw [e1];exact ⟨e2.symm,hC,fun _ _ _ h=>h⟩
    case enter f args=>
     obtain ⟨e1,hc⟩:=h1;rw [e1];exact hc.mono fun e w'' ⟨he,hw''⟩=>⟨_,he,rfl,hw'',fun _ _ _ h=>h⟩
   |halt x w'=>simp only [Oper.quietUpon] at h1
  ·rw [if_neg (by rw [hw];simp)];exact ⟨hv.symm,hC,fun _ _ _ h=>h⟩
 ·obtain ⟨s,rfl⟩:=hC;have:=hR s;rw [fr_congr2 (L':=fun j=>decide (j<k)) (vs':=vs') l 0 a0 fun q _=>⟨rfl,fun hq=>(hT q (of_decide_eq_true hq)).symm⟩] at this;exact this
end
end Go.Bx
namespace Go.Proofs.YtgodhpampaleeaaGreatDoor
open Go.RowKit Go.Bx Go.Od Go.Hp
attribute [local go_sem ↓] Go.wp_at_zero Go.wp_at_succ
theorem steps_plain {P:Program} {ops:Array Oper} {o:Oper} {a:Act} {w:World} {R:Value→World→Prop} (hg:o.guard=none) (h:gives P o a.eval w R):stepsTo P ops o a w R:=by
 unfold stepsTo;rw [if_pos (by simp [Region.wanted,hg])];exact h
def Pl (x:Int):Prop := -4398046511104≤x∧x≤4398046511104
def movedR (e b:Int):Int:=if e=4398046511104∨e = -4398046511104 then e else e+b
theorem moved_c (e b:Int) (w:World) (he:Pl e) (hb : -4398046511104≤b∧b≤4398046511104):Calls Tryz.prog 45 #[X J e,X J b] w fun x w'=>x=.returned (X J (movedR e b))∧w'=w:=by
 unfold Pl at he;by_cases h1:e=4398046511104
 ·subst h1;have HE:Hid (movedR 4398046511104 b=4398046511104):=by
   have:movedR 4398046511104 b=4398046511104:=if_pos (.inl rfl);exact this
  go_enter Tryz.func45,Tryz.ntmps45;go_wp2_with fail;go_ret;exact ⟨ret_i HE.o.symm,rfl⟩
 ·by_cases h2:e = -4398046511104
  ·subst h2;have HE:Hid (movedR (-4398046511104) b = -4398046511104):=by
    have:movedR (-4398046511104) b = -4398046511104:=if_pos (.inr rfl);exact this
   go_enter Tryz.func45,Tryz.ntmps45;go_wp2_with fail;go_ret;exact ⟨ret_i HE.o.symm,rfl⟩
  ·have HE:Hid (movedR e b=e+b):=by
    have:movedR e b=e+b:=if_neg (fun h=>h.elim h1 h2);exact this
   have d1:(e==4398046511104)=false:=beq_eq_false_iff_ne.2 h1;have d2:(e == -4398046511104)=false:=beq_eq_false_iff_ne.2 h2;go_enter Tryz.func45,Tryz.ntmps45;go_wp2_with fail;go_ret;exact ⟨ret_i HE.o.symm,rfl⟩
def clip (x:Int):Int:=max (-4398046511104) (min x 4398046511104)
def clipR (r:Rc):Rc:=⟨clip r.x0,clip r.y0,clip r.x1,clip r.y1⟩
def clipJ (r:Rc) (j:Nat):Rc:=⟨if 0<j then clip r.x0 else r.x0,if 1<j then clip r.y0 else r.y0,if 2<j then clip r.x1 else r.x1,if 3<j then clip r.y1 else r.y1⟩
theorem cut_c (n r p:Nat) (x:Rc) (w:World) (hn:n≤r) (hp:p≠r) (hr:Box w r (cl4 x)) (hq:Box w p [.pointer (some ⟨r,0,none⟩),.pointer (some ⟨r,1,none⟩),.pointer (some ⟨r,2,none⟩),.pointer (some ⟨r,3,none⟩)]):
  Calls Tryz.prog 79 #[.slice (some ⟨p,0,none⟩) 4 4] w fun e w'=>(∃ v,e=.returned v)∧Box w' r (cl4 (clipR x))∧(∀ b cs,b≠r→Box w b cs→Box w' b cs)∧Below n w w':=by
 have H0:Hid (Box w r (cl4 (clipJ x 0))∧(∀ b cs,b≠r→Box w b cs→Box w b cs)∧Below n w w∧n≤r):=⟨hr,fun _ _ _ h=>h,Below.refl _ _,hn⟩;have HP:Hid (p≠r∧Box w p [.pointer (some ⟨r,0,none⟩),.pointer (some ⟨r,1,none⟩),.pointer (some ⟨r,2,none⟩),.pointer (some ⟨r,3,none⟩)]):=⟨hp,hq⟩;clear hr hq hn hp;go_enter Tryz.func79,Tryz.ntmps79;go_wp2_with fail;go_loopw [6] (fun jv wr=>∃ j:Nat,j≤4∧jv=X J j∧Box wr r (cl4 (clipJ x j))∧(∀ b cs,b≠r→Box w b cs→Box wr b cs)∧Below n w wr∧n≤r) (fun jv _=>4-(intOf jv).toNat)
 case atStart=>exact ⟨0,by omega,rfl,H0.o⟩
 case round=>
  obtain ⟨j,hj,rfl,hr,hq,hb,hn⟩:=hrel;clear H0;have p0:=(hq p _ HP.o.1 HP.o.2).cell 0 rfl;have p1:=(hq p _ HP.o.1 HP.o.2).cell 1 rfl;have p2:=(hq p _ HP.o.1 HP.o.2).cell 2 rfl;have p3:=(hq p _ HP.o.1 HP.o.2).cell 3 rfl;have HB:Hid (Below n w wr∧n≤r∧∀ b cs,b≠r→Box w b cs→Box wr b cs):=⟨hb,hn,hq⟩
  match j,hj with
  |0,_=>
   have c0:wr.cell? ⟨r,0,none⟩=some (X J x.x0):=hr.cell 0 rfl;have f0:=hr.frozen 0;have HE:Hid (Box (wr.setCell ⟨r,0,none⟩ (X J (clip x.x0))) r (cl4 (clipJ x 1))):=hr.self 0 _;clear hr hq hb hn;go_wp2_with fail;go_roundw
   case rel=>exact ⟨1,by omega,by go_num,HE.o,(fun b cs hne h=>(HB.o.2.2 b cs hne h).set (p:=⟨r,0,none⟩) hne _),HB.o.1.setCell (p:=⟨r,0,none⟩) HB.o.2.1 _,HB.o.2.1⟩
   case measure=>simp [intOf]
  |1,_=>
   have c0:wr.cell? ⟨r,1,none⟩=some (X J x.y0):=hr.cell 1 rfl;have f0:=hr.frozen 1;have HE:Hid (Box (wr.setCell ⟨r,1,none⟩ (X J (clip x.y0))) r (cl4 (clipJ x 2))):=hr.self 1 _;clear hr hq hb hn;go_wp2_with fail;go_roundw
   case rel=>exact ⟨2,by omega,by go_num,HE.o,(fun b cs hne h=>(HB.o.2.2 b cs hne h).set (p:=⟨r,1,none⟩) hne _),HB.o.1.setCell (p:=⟨r,1,none⟩) HB.o.2.1 _,HB.o.2.1⟩
   case measure=>simp [intOf]
  |2,_=>
   have c0:wr.cell? ⟨r,2,none⟩=some (X J x.x1):=hr.cell 2 rfl;have f0:=hr.frozen 2;have HE:Hid (Box (wr.setCell ⟨r,2,none⟩ (X J (clip x.x1))) r (cl4 (clipJ x 3))):=hr.self 2 _;clear hr hq hb hn;go_wp2_with fail;go_roundw
   case rel=>exact ⟨3,by omega,by go_num,HE.o,(fun b cs hne h=>(HB.o.2.2 b cs hne h).set (p:=⟨r,2,none⟩) hne _),HB.o.1.setCell (p:=⟨r,2,none⟩) HB.o.2.1 _,HB.o.2.1⟩
   case measure=>simp [intOf]
  |3,_=>
   have c0:wr.cell? ⟨r,3,none⟩=some (X J x.y1):=hr.cell 3 rfl;have f0:=hr.frozen 3;have HE:Hid (Box (wr.setCell ⟨r,3,none⟩ (X J (clip x.y1))) r (cl4 (clipJ x 4))):=hr.self 3 _;clear hr hq hb hn;go_wp2_with fail;go_roundw
   case rel=>exact ⟨4,by omega,by go_num,HE.o,(fun b cs hne h=>(HB.o.2.2 b cs hne h).set (p:=⟨r,3,none⟩) hne _),HB.o.1.setCell (p:=⟨r,3,none⟩) HB.o.2.1 _,HB.o.2.1⟩
   case measure=>simp [intOf]
  |4,_=>
   have HE:Hid (Box wr r (cl4 (clipR x))):=hr;clear hr hq hb hn;go_wp2_with fail
   go_end0
   exact ⟨⟨_,rfl⟩,HE.o,HB.o.2.2,HB.o.1⟩
  |j+5,hj=>omega
def whR (r:Rc):Rc:=boxR (clipR r)
theorem whole_c (r:Rc) (w:World):Calls Tryz.prog 44 #[rv r] w (PPost w (rv (whR r))):=by
 obtain ⟨x0,y0,x1,y1⟩:=r;have J0:Hid (Box ((w.alloc (.cells (cs4 x0 y0 x1 y1) 25)).alloc (.cells (cs4 0 0 0 0) 25)) w.heap.size (cl4 ⟨x0,y0,x1,y1⟩)∧Box ((w.alloc (.cells (cs4 x0 y0 x1 y1) 25)).alloc (.cells (cs4 0 0 0 0) 25)) (w.heap.size+1) (cl4 ⟨0,0,0,0⟩)∧Below w.heap.size w ((w.alloc (.cells (cs4 x0 y0 x1 y1) 25)).alloc (.cells (cs4 0 0 0 0) 25))):=J2new w ⟨x0,y0,x1,y1⟩ ⟨0,0,0,0⟩ 25;have HS:Hid (((w.alloc (.cells (cs4 x0 y0 x1 y1) 25)).alloc (.cells (cs4 0 0 0 0) 25)).heap.size=w.heap.size+1+1):=by
  have:((w.alloc (.cells (cs4 x0 y0 x1 y1) 25)).alloc (.cells (cs4 0 0 0 0) 25)).heap.size=w.heap.size+1+1:=by simp
  exact this
 go_enter Tryz.func44,Tryz.ntmps44;go_wp2_with fail;generalize ((w.alloc (.cells (cs4 x0 y0 x1 y1) 25)).alloc (.cells (cs4 0 0 0 0) 25))=W0 at *;have P0:=Box.new W0 [.pointer (some ⟨w.heap.size,0,none⟩),.pointer (some ⟨w.heap.size,1,none⟩),.pointer (some ⟨w.heap.size,2,none⟩),.pointer (some ⟨w.heap.size,3,none⟩)] 111;rw [HS.o] at P0;have hb1:=below_new W0 (.cells #[.pointer (some ⟨w.heap.size,0,none⟩),.pointer (some ⟨w.heap.size,1,none⟩),.pointer (some ⟨w.heap.size,2,none⟩),.pointer (some ⟨w.heap.size,3,none⟩)] 111);have J1:Hid (Box (W0.alloc (.cells #[.pointer (some ⟨w.heap.size,0,none⟩),.pointer (some ⟨w.heap.size,1,none⟩),.pointer (some ⟨w.heap.size,2,none⟩),.pointer (some ⟨w.heap.size,3,none⟩)] 111)) w.heap.size (cl4 ⟨x0,y0,x1,y1⟩)∧Box (W0.alloc (.cells #[.pointer (some ⟨w.heap.size,0,none⟩),.pointer (some ⟨w.heap.size,1,none⟩),.pointer (some ⟨w.heap.size,2,none⟩),.pointer (some ⟨w.heap.size,3,none⟩)] 111)) (w.heap.size+1) (cl4 ⟨0,0,0,0⟩)∧Below w.heap.size w (W0.alloc (.cells #[.pointer (some ⟨w.heap.size,0,none⟩),.pointer (some ⟨w.heap.size,1,none⟩),.pointer (some ⟨w.heap.size,2,none⟩),.pointer (some ⟨w.heap.size,3,none⟩)] 111))):=⟨J0.out.1.call hb1,J0.out.2.1.call hb1,J0.out.2.2.trans (hb1.mono J0.out.2.2.size)⟩;have J2:Hid (Box (W0.alloc (.cells #[.pointer (some ⟨w.heap.size,0,none⟩),.pointer (some ⟨w.heap.size,1,none⟩),.pointer (some ⟨w.heap.size,2,none⟩),.pointer (some ⟨w.heap.size,3,none⟩)] 111)) (w.heap.size+1+1) [.pointer (some ⟨w.heap.size,0,none⟩),.pointer (some ⟨w.heap.size,1,none⟩),.pointer (some ⟨w.heap.size,2,none⟩),.pointer (some ⟨w.heap.size,3,none⟩)]):=P0;clear P0 hb1 J0 HS;generalize (W0.alloc (.cells #[.pointer (some ⟨w.heap.size,0,none⟩),.pointer (some ⟨w.heap.size,1,none⟩),.pointer (some ⟨w.heap.size,2,none⟩),.pointer (some ⟨w.heap.size,3,none⟩)] 111))=W1 at *;refine (cut_c w.heap.size w.heap.size (w.heap.size+1+1) ⟨x0,y0,x1,y1⟩ W1 (Z _) (by omega) J1.out.1 J2.out).mono ?_;rintro e W2 ⟨⟨v,rfl⟩,hr2,hk2,hb2⟩;have J3:Hid (Box W2 w.heap.size (cl4 (clipR ⟨x0,y0,x1,y1⟩))∧Box W2 (w.heap.size+1) (cl4 ⟨0,0,0,0⟩)∧Below w.heap.size w W2):=⟨hr2,hk2 _ _ (by omega) J1.out.2.1,J1.out.2.2.trans hb2⟩;clear hr2 hk2 hb2 J1 J2;have a0:W2.cell? ⟨w.heap.size,0,none⟩=some (X J (clip x0)):=J3.out.1.cell 0 rfl;have a1:W2.cell? ⟨w.heap.size,1,none⟩=some (X J (clip y0)):=J3.out.1.cell 1 rfl;have a2:W2.cell? ⟨w.heap.size,2,none⟩=some (X J (clip x1)):=J3.out.1.cell 2 rfl;have a3:W2.cell? ⟨w.heap.size,3,none⟩=some (X J (clip y1)):=J3.out.1.cell 3 rfl;have HW:Hid (whR ⟨x0,y0,x1,y1⟩=boxR ⟨clip x0,clip y0,clip x1,clip y1⟩):=by
  have:whR ⟨x0,y0,x1,y1⟩=boxR ⟨clip x0,clip y0,clip x1,clip y1⟩:=rfl;exact this
 obtain ⟨z0,hz0⟩:∃ z,z=clip x0:=⟨_,rfl⟩;obtain ⟨z1,hz1⟩:∃ z,z=clip y0:=⟨_,rfl⟩;obtain ⟨z2,hz2⟩:∃ z,z=clip x1:=⟨_,rfl⟩;obtain ⟨z3,hz3⟩:∃ z,z=clip y1:=⟨_,rfl⟩;have J4:Hid (Box W2 w.heap.size (cl4 ⟨z0,z1,z2,z3⟩)∧Box W2 (w.heap.size+1) (cl4 ⟨0,0,0,0⟩)∧Below w.heap.size w W2):=by rw [hz0,hz1,hz2,hz3];exact J3.out
 rw [←hz0] at a0 HW;rw [←hz1] at a1 HW;rw [←hz2] at a2 HW;rw [←hz3] at a3 HW;clear hz0 hz1 hz2 hz3 J3;go_wp2_with fail;refine (empty_c z0 z1 z2 z3 W2).mono ?_;rintro e W3 ⟨rfl,hb3⟩;have J5:Hid (Box W3 w.heap.size (cl4 ⟨z0,z1,z2,z3⟩)∧Box W3 (w.heap.size+1) (cl4 ⟨0,0,0,0⟩)∧Below w.heap.size w W3):=⟨J4.out.1.call hb3,J4.out.2.1.call hb3,J4.out.2.2.trans (hb3.mono J4.out.2.2.size)⟩;clear a0 a1 a2 a3 hb3 J4;have a0:=J5.out.1.cell 0 rfl;have a1:=J5.out.1.cell 1 rfl;have a2:=J5.out.1.cell 2 rfl;have a3:=J5.out.1.cell 3 rfl;have r0:=J5.out.2.1.cell 0 rfl;have r1:=J5.out.2.1.cell 1 rfl;have r2:=J5.out.2.1.cell 2 rfl;have r3:=J5.out.2.1.cell 3 rfl;have f0:=J5.out.2.1.frozen 0;have f1:=J5.out.2.1.frozen 1;have f2:=J5.out.2.1.frozen 2;have f3:=J5.out.2.1.frozen 3;have hB4:∀ u0 u1 u2 u3:Value,Below w.heap.size w ((((W3.setCell ⟨w.heap.size+1,0,none⟩ u0).setCell ⟨w.heap.size+1,1,none⟩ u1).setCell ⟨w.heap.size+1,2,none⟩ u2).setCell ⟨w.heap.size+1,3,none⟩ u3):=fun u0 u1 u2 u3=>
  (((J5.out.2.2.setCell (by simp) _).setCell (by simp) _).setCell (by simp) _).setCell (by simp) _
 have HB4:Hid _:=hB4;clear hB4;cases he:Rc.emp ⟨z0,z1,z2,z3⟩ with
 |true=>
  have HJ:Hid (whR ⟨x0,y0,x1,y1⟩=⟨0,0,0,0⟩):=by
   have:whR ⟨x0,y0,x1,y1⟩=⟨0,0,0,0⟩:=by rw [HW.o];unfold boxR;rw [he];rfl
   exact this
  clear he;go_wp2_with fail;exact ret_rect rfl rfl (set4_box J5.out.2.1 _ _ _ _) rfl ⟨by rw [HJ.o],HB4.o _ _ _ _⟩
 |false=>
  have HJ:Hid (whR ⟨x0,y0,x1,y1⟩=⟨z0,z1,z2,z3⟩):=by
   have:whR ⟨x0,y0,x1,y1⟩=⟨z0,z1,z2,z3⟩:=by rw [HW.o];unfold boxR;rw [he];rfl
   exact this
  clear he;go_wp2_with fail;exact ret_rect rfl rfl (set4_box J5.out.2.1 _ _ _ _) rfl ⟨by rw [HJ.o],HB4.o _ _ _ _⟩
def J2 (w W:World) (a:Rc):Prop:=Box W w.heap.size (cl4 a)∧Box W (w.heap.size+1) (cl4 ⟨0,0,0,0⟩)∧Below w.heap.size w W
theorem J2.call {w W W':World} {a:Rc} (h:J2 w W a) (hb:Below W.heap.size W W'):J2 w W' a:=⟨h.1.call hb,h.2.1.call hb,h.2.2.trans (hb.mono h.2.2.size)⟩
theorem J2.cells {w W:World} {a:Rc} (h:J2 w W a):
  W.cell? ⟨w.heap.size,0,none⟩=some (X J a.x0)∧W.cell? ⟨w.heap.size,1,none⟩=some (X J a.y0)∧W.cell? ⟨w.heap.size,2,none⟩=some (X J a.x1)∧W.cell? ⟨w.heap.size,3,none⟩=some (X J a.y1)∧
  W.cell? ⟨w.heap.size+1,0,none⟩=some (X J 0)∧W.cell? ⟨w.heap.size+1,1,none⟩=some (X J 0)∧W.cell? ⟨w.heap.size+1,2,none⟩=some (X J 0)∧W.cell? ⟨w.heap.size+1,3,none⟩=some (X J 0)∧
  W.frozen? ⟨w.heap.size+1,0,none⟩=false∧W.frozen? ⟨w.heap.size+1,1,none⟩=false∧W.frozen? ⟨w.heap.size+1,2,none⟩=false∧W.frozen? ⟨w.heap.size+1,3,none⟩=false:=
 ⟨h.1.cell 0 rfl,h.1.cell 1 rfl,h.1.cell 2 rfl,h.1.cell 3 rfl,h.2.1.cell 0 rfl,h.2.1.cell 1 rfl,h.2.1.cell 2 rfl,h.2.1.cell 3 rfl,h.2.1.frozen 0,h.2.1.frozen 1,h.2.1.frozen 2,h.2.1.frozen 3⟩
theorem J2.set4 {w W:World} {a:Rc} (h:J2 w W a) (u0 u1 u2 u3:Value):Below w.heap.size w ((((W.setCell ⟨w.heap.size+1,0,none⟩ u0).setCell ⟨w.heap.size+1,1,none⟩ u1).setCell ⟨w.heap.size+1,2,none⟩ u2).setCell ⟨w.heap.size+1,3,none⟩ u3):=
 (((h.2.2.setCell (by simp) _).setCell (by simp) _).setCell (by simp) _).setCell (by simp) _
theorem moved_p {e b:Int} (w:World) (he:Pl e) (hb : -4398046511104≤b∧b≤4398046511104):Calls Tryz.prog 45 #[X J e,X J b] w (PPost w (X J (movedR e b))):=
 (moved_c e b w he hb).mono fun _ _ ⟨h1,h2⟩=>⟨h1,h2▸Below.refl _ _⟩
def RcP (r:Rc):Prop:=Pl r.x0∧Pl r.y0∧Pl r.x1∧Pl r.y1
def moveR (r:Rc) (dx dy:Int):Rc:=if r.emp then Rc.zero else whR ⟨movedR r.x0 dx,movedR r.y0 dy,movedR r.x1 dx,movedR r.y1 dy⟩
theorem move_c (r:Rc) (dx dy:Int) (w:World) (hr:RcP r) (hx : -4398046511104≤dx∧dx≤4398046511104) (hy : -4398046511104≤dy∧dy≤4398046511104):
  Calls Tryz.prog 18 #[rv r,X J dx,X J dy] w (PPost w (rv (moveR r dx dy))):=by
 obtain ⟨x0,y0,x1,y1⟩:=r;have J0:Hid (J2 w ((w.alloc (.cells (cs4 x0 y0 x1 y1) 25)).alloc (.cells (cs4 0 0 0 0) 25)) ⟨x0,y0,x1,y1⟩):=J2new w ⟨x0,y0,x1,y1⟩ ⟨0,0,0,0⟩ 25;have HR:Hid (Pl x0∧Pl y0∧Pl x1∧Pl y1∧(-4398046511104≤dx∧dx≤4398046511104)∧(-4398046511104≤dy∧dy≤4398046511104)):=⟨hr.1,hr.2.1,hr.2.2.1,hr.2.2.2,hx,hy⟩;clear hr hx hy;go_enter Tryz.func18,Tryz.ntmps18;go_wp2_with fail;generalize ((w.alloc (.cells (cs4 x0 y0 x1 y1) 25)).alloc (.cells (cs4 0 0 0 0) 25))=W0 at *;refine (empty_c x0 y0 x1 y1 W0).mono ?_;rintro e W1 ⟨rfl,hb1⟩;have J1:=V (J0.out.call hb1);clear hb1 J0;obtain ⟨a0,a1,a2,a3,r0,r1,r2,r3,f0,f1,f2,f3⟩:=J1.out.cells;cases he:Rc.emp ⟨x0,y0,x1,y1⟩ with
 |true=>
  have HJ:Hid (moveR ⟨x0,y0,x1,y1⟩ dx dy=⟨0,0,0,0⟩):=by
   have:moveR ⟨x0,y0,x1,y1⟩ dx dy=⟨0,0,0,0⟩:=by unfold moveR;rw [he];rfl
   exact this
  clear he;go_wp2_with fail;exact ret_rect rfl rfl (set4_box J1.out.2.1 _ _ _ _) rfl ⟨by rw [HJ.o],J1.out.set4 _ _ _ _⟩
 |false=>
  have HJ:Hid (moveR ⟨x0,y0,x1,y1⟩ dx dy=whR ⟨movedR x0 dx,movedR y0 dy,movedR x1 dx,movedR y1 dy⟩):=by
   have:moveR ⟨x0,y0,x1,y1⟩ dx dy=whR ⟨movedR x0 dx,movedR y0 dy,movedR x1 dx,movedR y1 dy⟩:=by unfold moveR;rw [he];rfl
   exact this
  clear he;obtain ⟨k0,k1,k2,k3⟩:=kept4 a0 a1 a2 a3;have M0:Hid (∀ s:Kept W1.heap.size W1,Calls Tryz.prog 45 #[X J x0,X J dx] s.w (PPost s.w (X J (movedR x0 dx)))):=fun s=>moved_p s.w HR.o.1 HR.o.2.2.2.2.1;have M1:Hid (∀ s:Kept W1.heap.size W1,Calls Tryz.prog 45 #[X J y0,X J dy] s.w (PPost s.w (X J (movedR y0 dy)))):=fun s=>moved_p s.w HR.o.2.1 HR.o.2.2.2.2.2;have M2:Hid (∀ s:Kept W1.heap.size W1,Calls Tryz.prog 45 #[X J x1,X J dx] s.w (PPost s.w (X J (movedR x1 dx)))):=fun s=>moved_p s.w HR.o.2.2.1 HR.o.2.2.2.2.1;have M3:Hid (∀ s:Kept W1.heap.size W1,Calls Tryz.prog 45 #[X J y1,X J dy] s.w (PPost s.w (X J (movedR y1 dy)))):=fun s=>moved_p s.w HR.o.2.2.2.1 HR.o.2.2.2.2.2;generalize movedR x0 dx=m0 at *;generalize movedR y0 dy=m1 at *;generalize movedR x1 dx=m2 at *;generalize movedR y1 dy=m3 at *;obtain ⟨q,hq⟩:∃ q,q=whR ⟨m0,m1,m2,m3⟩:=⟨_,rfl⟩;have M4:Hid (∀ s:Kept W1.heap.size W1,Calls Tryz.prog 44 #[.agg #[X J m0,X J m1,X J m2,X J m3]] s.w (PPost s.w (.agg #[X J q.x0,X J q.y0,X J q.x1,X J q.y1]))):=fun s=>by
   rw [hq];exact whole_c ⟨m0,m1,m2,m3⟩ s.w
  rw [←hq] at HJ;clear hq r0 r1 r2 r3 f0 f1 f2 f3;go_wp2_with fail;clear a0 a1 a2 a3;refine wp_region_kept_last W1.heap.size 18 _ rfl rfl (by kernel_rfl) (by kernel_rfl) ?_;simp only [List.take_succ_cons,List.take_zero]
  repeat (go_big_quiet_step (first|(go_at_call 45;with_reducible exact Calls.kept _ (Z _) (M0.o _))|(go_at_call 45;with_reducible exact Calls.kept _ (Z _) (M1.o _))|(go_at_call 45;with_reducible exact Calls.kept _ (Z _) (M2.o _))|(go_at_call 45;with_reducible exact Calls.kept _ (Z _) (M3.o _))|(go_at_call 44;with_reducible exact Calls.kept _ (Z _) (M4.o _))))
  refine wpQuiet_nil ?_;intro s;have J5:=V (J1.out.call s.below);obtain ⟨a0,a1,a2,a3,r0,r1,r2,r3,f0,f1,f2,f3⟩:=J5.out.cells;refine ⟨steps_plain rfl (gives_mono (R:=fun v w'=>v=undef∧w'=(((s.w.setCell ⟨w.heap.size+1,0,none⟩ (X J q.x0)).setCell ⟨w.heap.size+1,1,none⟩ (X J q.y0)).setCell ⟨w.heap.size+1,2,none⟩ (X J q.x1)).setCell ⟨w.heap.size+1,3,none⟩ (X J q.y1)) ?_ ?_)⟩
  ·simp [gives,go_sem,r0,r1,r2,r3,f0,f1,f2,f3]
  ·rintro _ _ ⟨rfl,rfl⟩;clear k0 k1 k2 k3;go_wp2_with fail;exact ret_rect rfl rfl (set4_box J5.out.2.1 _ _ _ _) rfl ⟨by rw [HJ.o],J5.out.set4 _ _ _ _⟩
def growR (r:Rc) (a b c d:Int):Rc:=if r.emp then Rc.zero else whR ⟨r.x0-a,r.y0-b,r.x1+c,r.y1+d⟩
theorem grow_c (r:Rc) (a b c d:Int) (w:World) (hr:RcP r) (ha:0≤a∧a≤4398046511104) (hb:0≤b∧b≤4398046511104) (hc:0≤c∧c≤4398046511104) (hd:0≤d∧d≤4398046511104):
  Calls Tryz.prog 72 #[rv r,X J a,X J b,X J c,X J d] w (PPost w (rv (growR r a b c d))):=by
 obtain ⟨x0,y0,x1,y1⟩:=r;have J0:Hid (J2 w ((w.alloc (.cells (cs4 x0 y0 x1 y1) 25)).alloc (.cells (cs4 0 0 0 0) 25)) ⟨x0,y0,x1,y1⟩):=J2new w ⟨x0,y0,x1,y1⟩ ⟨0,0,0,0⟩ 25;obtain ⟨p0,p1,p2,p3⟩:=hr;unfold Pl at p0 p1 p2 p3;dsimp only at p0 p1 p2 p3;go_enter Tryz.func72,Tryz.ntmps72;go_wp2_with fail;generalize ((w.alloc (.cells (cs4 x0 y0 x1 y1) 25)).alloc (.cells (cs4 0 0 0 0) 25))=W0 at *;refine (empty_c x0 y0 x1 y1 W0).mono ?_;rintro e W1 ⟨rfl,hb1⟩;have J1:=V (J0.out.call hb1);clear hb1 J0;obtain ⟨a0,a1,a2,a3,r0,r1,r2,r3,f0,f1,f2,f3⟩:=J1.out.cells;cases he:Rc.emp ⟨x0,y0,x1,y1⟩ with
 |true=>
  have HJ:Hid (growR ⟨x0,y0,x1,y1⟩ a b c d=⟨0,0,0,0⟩):=by
   have:growR ⟨x0,y0,x1,y1⟩ a b c d=⟨0,0,0,0⟩:=by unfold growR;rw [he];rfl
   exact this
  clear he;go_wp2_with fail;exact ret_rect rfl rfl (set4_box J1.out.2.1 _ _ _ _) rfl ⟨by rw [HJ.o],J1.out.set4 _ _ _ _⟩
 |false=>
  have HJ:Hid (growR ⟨x0,y0,x1,y1⟩ a b c d=whR ⟨x0-a,y0-b,x1+c,y1+d⟩):=by
   have:growR ⟨x0,y0,x1,y1⟩ a b c d=whR ⟨x0-a,y0-b,x1+c,y1+d⟩:=by unfold growR;rw [he];rfl
   exact this
  clear he;go_wp2_with fail;refine (whole_c ⟨x0-a,y0-b,x1+c,y1+d⟩ W1).mono ?_;rintro e W2 ⟨rfl,hb2⟩;have J3:=V (J1.out.call hb2);obtain ⟨q,hq⟩:∃ q,q=whR ⟨x0-a,y0-b,x1+c,y1+d⟩:=⟨_,rfl⟩;rw [←hq] at HJ ⊢;clear hq hb2 a0 a1 a2 a3 r0 r1 r2 r3 f0 f1 f2 f3 J1;obtain ⟨a0,a1,a2,a3,r0,r1,r2,r3,f0,f1,f2,f3⟩:=J3.out.cells;go_wp2_with fail;exact ret_rect rfl rfl (set4_box J3.out.2.1 _ _ _ _) rfl ⟨by rw [HJ.o],J3.out.set4 _ _ _ _⟩
def pbox (p:List Int):Rc:=⟨p.getD 0 0,p.getD 1 0,p.getD 2 0,p.getD 3 0⟩
theorem sl_cells {F:Nat→Prop} {w:World} {v:Value} {p:List Int} (h:SlOf RInt 1 F w v p) (h0:0<p.length):∃ b o c,v=.slice (some ⟨b,o,none⟩) p.length c∧F b∧(∀ j,j<p.length→w.cell? ⟨b,o+j,none⟩=some (X J (p.getD j 0)))∧p.length≤c∧c≤maxLen:=by
 obtain ⟨a,cap,rfl,hcap,hcm,hin,hcell⟩:=h.ints;obtain ⟨b,o,rfl,hF,hc⟩:=hcell 0 h0;exact ⟨b,o,cap,rfl,hF,hc,hcap,hcm⟩
structure PaOk (nd:Nd):Prop where
 mv:nd.op=1∨nd.op=11→2≤nd.p.length∧(-1048576≤nd.p.getD 0 0∧nd.p.getD 0 0≤1048576)∧(-1048576≤nd.p.getD 1 0∧nd.p.getD 1 0≤1048576)
 gr:nd.op=2∨nd.op=3∨nd.op=4→2≤nd.p.length∧(0≤nd.p.getD 0 0∧nd.p.getD 0 0≤255)∧(0≤nd.p.getD 1 0∧nd.p.getD 1 0≤255)
 bx:nd.op=12∨nd.op=10→4≤nd.p.length∧RcP (pbox nd.p)
 sh:nd.op=11→4≤nd.p.length∧(0≤nd.p.getD 2 0∧nd.p.getD 2 0≤255)∧(0≤nd.p.getD 3 0∧nd.p.getD 3 0≤255)
theorem clip_pl (x:Int):Pl (clip x):=by unfold Pl clip;omega
theorem zero_pl:RcP Rc.zero:=by refine ⟨?_,?_,?_,?_⟩<;>(unfold Pl Rc.zero;dsimp only;omega)
theorem boxR_pl {r:Rc} (h:RcP r):RcP (boxR r):=by
 unfold boxR
 split
 ·exact zero_pl
 ·exact h
theorem whR_pl (r:Rc):RcP (whR r):=boxR_pl ⟨clip_pl _,clip_pl _,clip_pl _,clip_pl _⟩
theorem moveR_pl (r:Rc) (a b:Int):RcP (moveR r a b):=by
 unfold moveR
 split
 ·exact zero_pl
 ·exact whR_pl _
theorem growR_pl (r:Rc) (a b c d:Int):RcP (growR r a b c d):=by
 unfold growR
 split
 ·exact zero_pl
 ·exact whR_pl _
theorem joinR_pl {a b:Rc} (ha:RcP a) (hb:RcP b):RcP (joinR a b):=by
 unfold joinR
 split
 ·split
  ·exact zero_pl
  ·exact hb
 ·split
  ·exact ha
  ·obtain ⟨a0,a1,a2,a3⟩:=ha;obtain ⟨b0,b1,b2,b3⟩:=hb;unfold Pl at *;refine ⟨?_,?_,?_,?_⟩<;>(unfold Pl;dsimp only;omega)
theorem meetR_pl {a b:Rc} (ha:RcP a) (hb:RcP b):RcP (meetR a b):=by
 refine boxR_pl ?_;obtain ⟨a0,a1,a2,a3⟩:=ha;obtain ⟨b0,b1,b2,b3⟩:=hb;unfold Pl at *;refine ⟨?_,?_,?_,?_⟩<;>(unfold Pl;dsimp only;omega)
def N3 (w W:World) (op:Int) (iv pv:Value) (a:Rc):Prop:=Box W w.heap.size [X J op,iv,pv]∧Box W (w.heap.size+1) (cl4 a)∧Box W (w.heap.size+2) (cl4 ⟨0,0,0,0⟩)∧Below w.heap.size w W
def rcs:List Rc→List Value
 |[]=>[]
 |r::rs=>X J r.x0::X J r.y0::X J r.x1::X J r.y1::rcs rs
theorem rcs_get:∀ (rs:List Rc) (i:Nat) (r:Rc),rs[i]?=some r→(rcs rs)[i*4]?=some (X J r.x0)∧(rcs rs)[i*4+1]?=some (X J r.y0)∧(rcs rs)[i*4+2]?=some (X J r.x1)∧(rcs rs)[i*4+3]?=some (X J r.y1)
 |[],i,r,h=>by simp at h
 |a::rs,0,r,h=>by simp at h;subst h;exact ⟨rfl,rfl,rfl,rfl⟩
 |a::rs,i+1,r,h=>by
  have:=rcs_get rs i r (by simpa using h);rw [show (i+1)*4=i*4+1+1+1+1 by omega,show i*4+1+1+1+1+1=i*4+1+1+1+1+1 by rfl,show i*4+1+1+1+1+2=i*4+2+1+1+1+1 by omega,show i*4+1+1+1+1+3=i*4+3+1+1+1+1 by omega]
  simpa [rcs] using this
theorem rcs_set:∀ (rs:List Rc) (i:Nat) (r:Rc),(((((rcs rs).set (i*4) (X J r.x0)).set (i*4+1) (X J r.y0)).set (i*4+2) (X J r.x1)).set (i*4+3) (X J r.y1))=rcs (rs.set i r)
 |[],i,r=>by simp [rcs]
 |a::rs,0,r=>rfl
 |a::rs,i+1,r=>by
  have:=rcs_set rs i r;rw [show (i+1)*4=i*4+1+1+1+1 by omega,show i*4+1+1+1+1+2=i*4+2+1+1+1+1 by omega,show i*4+1+1+1+1+3=i*4+3+1+1+1+1 by omega];simp only [rcs,List.set_cons_succ];rw [this]
theorem rbox_get {W:World} {O:Nat} {rs:List Rc} (h:Box W O (rcs rs)) {i:Nat} {r:Rc} (hi:rs[i]?=some r):W.cell? ⟨O,i*4,none⟩=some (X J r.x0)∧W.cell? ⟨O,i*4+1,none⟩=some (X J r.y0)∧W.cell? ⟨O,i*4+2,none⟩=some (X J r.x1)∧W.cell? ⟨O,i*4+3,none⟩=some (X J r.y1):=by
 obtain ⟨h0,h1,h2,h3⟩:=rcs_get rs i r hi;exact ⟨h.cell _ h0,h.cell _ h1,h.cell _ h2,h.cell _ h3⟩
theorem rcs_zero (n:Nat):(madeCells (Value.agg #[X J 0,X J 0,X J 0,X J 0]).cells (n*4)).toList=rcs (List.replicate n Rc.zero):=by
 have e:rcs (List.replicate n Rc.zero)=List.replicate (n*4) (X J 0):=by
  induction n with
  |zero=>rfl
  |succ n ih=>
   rw [List.replicate_succ,show (n+1)*4=n*4+1+1+1+1 by omega,List.replicate_succ,List.replicate_succ,List.replicate_succ,List.replicate_succ,←ih];rfl
 rw [e];apply List.ext_getElem?;intro j;by_cases hj:j<n*4
 ·have h4:j%4<4:=Nat.mod_lt _ (by omega);have:∀ k,k<4→([X J 0,X J 0,X J 0,X J 0]:List Value)[k]?.getD default=X J 0:=by
   intro k hk
   match k,hk with
   |0,_=>rfl
   |1,_=>rfl
   |2,_=>rfl
   |3,_=>rfl
  simp [madeCells,hj,Value.cells];exact this _ h4
 ·simp [madeCells,hj]
theorem box_own4 {w:World} {B n b:Nat} {e:TypeId} {xs:List Value} (h:w.ownsRow B e 4 (.slice (some ⟨b,0,none⟩) n n) n xs):Box w b xs:=by
 rcases h.2 with ⟨h,_⟩|⟨g,cap,cur,h1,_,hb,_,_,hs,ht⟩
 ·cases h
 ·cases h1
  refine ⟨e,?_⟩;rw [hb];have:cur.toList=xs:=by rw [←ht,List.take_of_length_le (by simp;omega)]
  subst this
  simp
theorem infoRc:(Tryz.prog.info? 25).map (fun i=>(i.zero,i.size,i.bytes))=some (some (.agg #[X J 0,X J 0,X J 0,X J 0]),4,32):=by kernel_rfl
end Go.Proofs.YtgodhpampaleeaaGreatDoor
namespace Go.Bx
open Go.RowKit
section
variable {P:Program} {Q:Exit→Act→World→Prop} {a0:Act} {w0:World} {l:List Oper} {F:Fence} {N:Nat}
end
end Go.Bx
namespace Go.Proofs.YtgodhpampaleeaaGreatDoor
open Go.RowKit Go.Bx Go.Od Go.Hp Go.Shelf
section
attribute [local go_sem] Oper.semAt_some
end
variable {w W W':World} {nv:Value} {out n:Nat} {want s:Rc} {f:Nat→Rc}
theorem results_tmp_cell {P:Program} {fn:Func} {u p:Tmp} {ty:TypeId} (h:fn.results=#[.tmp u,.cell p ty]) (tmps:Array Value) (w:World) (g:Nat) (t:TypeId) (cs:Array Value) (fr:Nat×Nat) (d:TypeDesc)
  (hp:tmps.getD p undef=.pointer (some ⟨g,0,none⟩)) (hg:w.heap[g]?=some (.cells cs t fr))
  (hu:P.underlying ty=some d) (hd:(match d with|.struct _|.array _ _=>true|_=>false)=true) (hi:(P.info? ty).map (·.size)=some cs.size):
  (results fn tmps).run P w=.ok (.tuple #[tmps.getD u undef,.agg cs]) w:=by
 have hp':tmps[p]?.getD undef=.pointer (some ⟨g,0,none⟩):=by simpa using hp
 simp [results,h,hp',asAddr,run_loadVar_row w g t ty cs fr d hg hu hd hi]
section
attribute [local go_sem] Oper.semAt_some
end
end Go.Proofs.YtgodhpampaleeaaGreatDoor
namespace Go.Proofs.YtgodhpampaleeaaGreatDoor
open Go.RowKit Go.Bx Go.Od Go.Hp
attribute [local go_sem ↓] Go.wp_at_zero Go.wp_at_succ
def rightB (nds:List Nd) (out:Int):Bool:=fewB nds 12&&(chkB nds out==0)
structure GoodN (nds:List Nd) (out:Int):Prop where
 few:nds.length≤100
 short:∀ i,i<nds.length→(nds.getD i Nd.none).ins.length≤1000
 pos:0<nds.length
 outs:0≤out∧out<nds.length
 full:∀ i,i<nds.length→i∈ord (insOf nds)
 pa:∀ i,i<nds.length→PaOk (nds.getD i Nd.none)
 rng:∀ i,i<nds.length→∀ x∈(nds.getD i Nd.none).ins,-1≤x∧x<nds.length
theorem pa_of {nd:Nd} {n:Nat} (h:oneB nd n=0):PaOk nd∧∀ x∈nd.ins,-1≤x∧x<n:=by
 unfold oneB at h
 split at h
 ·cases h
 rename_i h1
 split at h
 ·cases h
 rename_i h2
 split at h
 ·cases h
 rename_i h3
 split at h
 ·cases h
 rename_i h4;have hp:(nd.p.length:Int)=parL.getD nd.op.toNat 0:=by
  have:¬((nd.p.length:Int)==parL.getD nd.op.toNat 0)=false:=fun e=>h2 (.inr (.inr e))
  simpa using this
 have hb:bndB nd.op nd.p=true:=by simpa using h4
 have hn:nearB nd.ins 0 nd.ins.length (-1) ((n:Int)-1)=true:=by simpa using h3
 rw [nearB_iff] at hn;clear h h1 h2 h3 h4;refine ⟨⟨fun e=>?_,fun e=>?_,fun e=>?_,fun e=>?_⟩,fun x hx=>?_⟩
 ·rcases e with e|e
  ·rw [e] at hp hb;have hl:(nd.p.length:Int)=2:=hp;unfold bndB at hb;rw [if_pos rfl,nearB_iff] at hb;exact ⟨by omega,hb 0 (by omega) (by omega),hb 1 (by omega) (by omega)⟩
  ·rw [e] at hp hb;have hl:(nd.p.length:Int)=8:=hp;have hb:(nearB nd.p 0 2 (-1048576) 1048576&&(nearB nd.p 2 4 0 255&&pixB nd.p 4))=true:=hb;simp only [U,nearB_iff] at hb;exact ⟨by omega,hb.1 0 (by omega) (by omega),hb.1 1 (by omega) (by omega)⟩
 ·have hl:(nd.p.length:Int)=2:=by rcases e with e|e|e<;>(rw [e] at hp;exact hp)
  have hb:nearB nd.p 0 2 0 255=true:=by rcases e with e|e|e<;>(rw [e] at hb;exact hb)
  rw [nearB_iff] at hb;exact ⟨by omega,hb 0 (by omega) (by omega),hb 1 (by omega) (by omega)⟩
 ·have hl:(nd.p.length:Int)=4:=by rcases e with e|e<;>(rw [e] at hp;exact hp)
  have hb:nearB nd.p 0 4 (-1048576) 1048576=true:=by
   rcases e with e|e
   ·rw [e] at hb;exact hb
   ·rw [e] at hb;have hb:(nearB nd.p 0 4 (-1048576) 1048576&&(decide (nd.p.getD 0 0<nd.p.getD 2 0)&&(decide (nd.p.getD 1 0<nd.p.getD 3 0)&&(decide (nd.p.getD 2 0-nd.p.getD 0 0≤4096)&&decide (nd.p.getD 3 0-nd.p.getD 1 0≤4096)))))=true:=hb;rw [U] at hb;exact hb.1
  rw [nearB_iff] at hb;refine ⟨by omega,?_,?_,?_,?_⟩
  ·have:=hb 0 (by omega) (by omega);unfold Pl pbox;dsimp only;omega
  ·have:=hb 1 (by omega) (by omega);unfold Pl pbox;dsimp only;omega
  ·have:=hb 2 (by omega) (by omega);unfold Pl pbox;dsimp only;omega
  ·have:=hb 3 (by omega) (by omega);unfold Pl pbox;dsimp only;omega
 ·rw [e] at hp hb;have hl:(nd.p.length:Int)=8:=hp;have hb:(nearB nd.p 0 2 (-1048576) 1048576&&(nearB nd.p 2 4 0 255&&pixB nd.p 4))=true:=hb;simp only [U,nearB_iff] at hb;exact ⟨by omega,hb.2.1 2 (by omega) (by omega),hb.2.1 3 (by omega) (by omega)⟩
 ·obtain ⟨j,hj,rfl⟩:=List.mem_iff_getElem.1 hx;have:=hn j (by omega) hj;rw [List.getD_eq_getElem?_getD,List.getElem?_eq_getElem hj,Option.getD_some] at this;omega
theorem goodN_of {nds:List Nd} {out:Int} (h:rightB nds out=true):GoodN nds out:=by
 unfold rightB at h;rw [U] at h;obtain ⟨h1,h2⟩:=few_of h.1 (by omega);have hc:=eq_of_beq h.2;unfold chkB at hc;by_cases c1:nds.length<1∨256<nds.length
 ·rw [if_pos c1] at hc;omega
 ·rw [if_neg c1] at hc;by_cases c2:badB nds nds.length≠0
  ·rw [if_pos c2] at hc;exact absurd hc c2
  ·rw [if_neg c2] at hc;have hbad:∀ q,q<nds.length→oneB (nds.getD q Nd.none) nds.length=0:=(badB_iff _ _).1 (by simpa using c2);by_cases c3:out<0∨(nds.length:Int)≤out
   ·rw [if_pos c3] at hc;omega
   ·rw [if_neg c3] at hc;by_cases c4:(ord (insOf nds)).length<nds.length
    ·rw [if_pos c4] at hc;omega
    ·refine ⟨h1,h2,by omega,by omega,fun i hi=>?_,fun i hi=>(pa_of (hbad i hi)).1,fun i hi=>(pa_of (hbad i hi)).2⟩;have h5:=ord_len (insOf nds);rw [insOf_len] at h5;exact (ord_full (insOf nds)).1 (by rw [insOf_len];omega) i (by rw [insOf_len];exact hi)
end Go.Proofs.YtgodhpampaleeaaGreatDoor
namespace Go.Proofs.YtgodhpampaleeaaGreatDoor
open Go.RowKit Go.Bx Go.Od Go.Hp
def WiS (a b:Rc):Prop:=a.emp=true∨(b.x0≤a.x0∧b.y0≤a.y0∧a.x1≤b.x1∧a.y1≤b.y1)
theorem emp_iff (r:Rc):r.emp=true↔r.x1≤r.x0∨r.y1≤r.y0:=by simp [Rc.emp]
theorem nemp_iff (r:Rc):r.emp=false↔r.x0<r.x1∧r.y0<r.y1:=by simp [Rc.emp]
theorem WiS.refl (a:Rc):WiS a a:=.inr ⟨Int.le_refl _,Int.le_refl _,Int.le_refl _,Int.le_refl _⟩
theorem join_l (a b:Rc):WiS a (joinR a b):=by
 cases ha:a.emp with
 |true=>exact .inl ha
 |false=>
  cases hb:b.emp with
  |true=>rw [joinR_ft ha hb];exact WiS.refl _
  |false=>rw [joinR_ff ha hb];refine .inr ⟨?_,?_,?_,?_⟩<;>(dsimp only;omega)
theorem join_r (a b:Rc):WiS b (joinR a b):=by
 cases hb:b.emp with
 |true=>exact .inl hb
 |false=>
  cases ha:a.emp with
  |true=>rw [joinR_tf ha hb];exact WiS.refl _
  |false=>rw [joinR_ff ha hb];refine .inr ⟨?_,?_,?_,?_⟩<;>(dsimp only;omega)
def there (s:(Nat→Rc)×Rc) (x:Int):Rc:=if x = -1 then s.2 else s.1 x.toNat
end Go.Proofs.YtgodhpampaleeaaGreatDoor
namespace Go.Proofs.YtgodhpampaleeaaGreatDoor
open Go.RowKit Go.Bx Go.Od Go.Hp
attribute [local go_sem ↓] Go.wp_at_zero Go.wp_at_succ
theorem less03_c (a b:Int) (w:World):Calls Tryz.prog 48 #[X J a,X J b] w (PPost w (X J (min a b))):=by
 by_cases h:a<b
 ·have HE:Hid (min a b=a):=by
   have:min a b=a:=by omega
   exact this
  go_enter Tryz.func48,Tryz.ntmps48;go_wp2_with fail;go_ret;exact ⟨ret_i HE.o.symm,Below.refl _ _⟩
 ·have HE:Hid (min a b=b):=by
   have:min a b=b:=by omega
   exact this
  go_enter Tryz.func48,Tryz.ntmps48;go_wp2_with fail;go_ret;exact ⟨ret_i HE.o.symm,Below.refl _ _⟩
theorem more03_c (a b:Int) (w:World):Calls Tryz.prog 47 #[X J a,X J b] w (PPost w (X J (max a b))):=by
 by_cases h:b<a
 ·have HE:Hid (max a b=a):=by
   have:max a b=a:=by omega
   exact this
  go_enter Tryz.func47,Tryz.ntmps47;go_wp2_with fail;go_ret;exact ⟨ret_i HE.o.symm,Below.refl _ _⟩
 ·have HE:Hid (max a b=b):=by
   have:max a b=b:=by omega
   exact this
  go_enter Tryz.func47,Tryz.ntmps47;go_wp2_with fail;go_ret;exact ⟨ret_i HE.o.symm,Below.refl _ _⟩
theorem rempty_c (r:Rc) (w:World):Calls Tryz.prog 19 #[rv r] w (PPost w (.bool r.emp)):=by
 obtain ⟨x0,y0,x1,y1⟩:=r;have HX:Hid (Box (w.alloc (.cells (cs4 x0 y0 x1 y1) 25)) w.heap.size (cl4 ⟨x0,y0,x1,y1⟩)∧Below w.heap.size w (w.alloc (.cells (cs4 x0 y0 x1 y1) 25))):=⟨Box.new w _ _,below_new _ _⟩;obtain ⟨d0,h0⟩:∃ d,decide (x0<x1)=d:=⟨_,rfl⟩;obtain ⟨d1,h1⟩:∃ d,decide (y0<y1)=d:=⟨_,rfl⟩;have HE:Hid (Rc.emp ⟨x0,y0,x1,y1⟩=!(d0&&d1)):=by
  have:Rc.emp ⟨x0,y0,x1,y1⟩=!(d0&&d1):=by
   rw [←h0,←h1];unfold Rc.emp;dsimp only;by_cases e0:x0<x1<;>by_cases e1:y0<y1<;>simp [e0,e1]<;>omega
  exact this
 cases d0 with
 |false=>
  go_enter Tryz.func19,Tryz.ntmps19;go_wp2_with fail;go_ret;exact ⟨ret_b HE.o.symm,HX.o.2⟩
 |true=>
  cases d1 with
  |false=>
   go_enter Tryz.func19,Tryz.ntmps19;go_wp2_with fail;go_ret;exact ⟨ret_b HE.o.symm,HX.o.2⟩
  |true=>
   go_enter Tryz.func19,Tryz.ntmps19;go_wp2_with fail;go_ret;exact ⟨ret_b HE.o.symm,HX.o.2⟩
def hasR (r:Rc) (x y:Int):Bool:=decide (r.x0≤x)&&(decide (x<r.x1)&&(decide (r.y0≤y)&&decide (y<r.y1)))
theorem has03_c (r:Rc) (x y:Int) (w:World):Calls Tryz.prog 10 #[rv r,X J x,X J y] w (PPost w (.bool (hasR r x y))):=by
 obtain ⟨x0,y0,x1,y1⟩:=r;have HX:Hid (Box (w.alloc (.cells (cs4 x0 y0 x1 y1) 25)) w.heap.size (cl4 ⟨x0,y0,x1,y1⟩)∧Below w.heap.size w (w.alloc (.cells (cs4 x0 y0 x1 y1) 25))):=⟨Box.new w _ _,below_new _ _⟩;obtain ⟨d0,h0⟩:∃ d,decide (x0≤x)=d:=⟨_,rfl⟩;obtain ⟨d1,h1⟩:∃ d,decide (x<x1)=d:=⟨_,rfl⟩;obtain ⟨d2,h2⟩:∃ d,decide (y0≤y)=d:=⟨_,rfl⟩;obtain ⟨d3,h3⟩:∃ d,decide (y<y1)=d:=⟨_,rfl⟩;have HE:Hid (hasR ⟨x0,y0,x1,y1⟩ x y=(d0&&(d1&&(d2&&d3)))):=by
  have:hasR ⟨x0,y0,x1,y1⟩ x y=(d0&&(d1&&(d2&&d3))):=by unfold hasR;rw [h0,h1,h2,h3]
  exact this
 cases d0 with
 |false=>
  go_enter Tryz.func10,Tryz.ntmps10;go_wp2_with fail;go_ret;exact ⟨ret_b HE.o.symm,HX.o.2⟩
 |true=>
  cases d1 with
  |false=>
   go_enter Tryz.func10,Tryz.ntmps10;go_wp2_with fail;go_ret;exact ⟨ret_b HE.o.symm,HX.o.2⟩
  |true=>
   cases d2 with
   |false=>
    go_enter Tryz.func10,Tryz.ntmps10;go_wp2_with fail;go_ret;exact ⟨ret_b HE.o.symm,HX.o.2⟩
   |true=>
    cases d3 with
    |false=>
     go_enter Tryz.func10,Tryz.ntmps10;go_wp2_with fail;go_ret;exact ⟨ret_b HE.o.symm,HX.o.2⟩
    |true=>
     go_enter Tryz.func10,Tryz.ntmps10;go_wp2_with fail;go_ret;exact ⟨ret_b HE.o.symm,HX.o.2⟩
theorem some03_c (x0 y0 x1 y1:Int) (w:World):Calls Tryz.prog 46 #[X J x0,X J y0,X J x1,X J y1] w (PPost w (rv (boxR ⟨x0,y0,x1,y1⟩))):=by
 have HX:Hid (Box ((w.alloc (.cells (cs4 0 0 0 0) 25)).alloc (.cells (cs4 x0 y0 x1 y1) 25)) w.heap.size (cl4 ⟨0,0,0,0⟩)∧Box ((w.alloc (.cells (cs4 0 0 0 0) 25)).alloc (.cells (cs4 x0 y0 x1 y1) 25)) (w.heap.size+1) (cl4 ⟨x0,y0,x1,y1⟩)∧Below w.heap.size w ((w.alloc (.cells (cs4 0 0 0 0) 25)).alloc (.cells (cs4 x0 y0 x1 y1) 25))):=J2new w ⟨0,0,0,0⟩ ⟨x0,y0,x1,y1⟩ 25;go_enter Tryz.func46,Tryz.ntmps46;go_wp2_with fail;generalize ((w.alloc (.cells (cs4 0 0 0 0) 25)).alloc (.cells (cs4 x0 y0 x1 y1) 25))=W0 at *;refine (rempty_c ⟨x0,y0,x1,y1⟩ W0).mono ?_;rintro e W1 ⟨rfl,hb1⟩;have H1:Hid (Box W1 w.heap.size (cl4 ⟨0,0,0,0⟩)∧Box W1 (w.heap.size+1) (cl4 ⟨x0,y0,x1,y1⟩)∧Below w.heap.size w W1):=⟨HX.o.1.call hb1,HX.o.2.1.call hb1,HX.o.2.2.trans (hb1.mono HX.o.2.2.size)⟩;clear hb1 HX;obtain ⟨a0,a1,a2,a3⟩:=box4 H1.o.1;obtain ⟨b0,b1,b2,b3⟩:=box4 H1.o.2.1;have f0:=H1.o.1.frozen 0;have f1:=H1.o.1.frozen 1;have f2:=H1.o.1.frozen 2;have f3:=H1.o.1.frozen 3;have HS:Hid (∀ u0 u1 u2 u3:Value,Below w.heap.size w ((((W1.setCell ⟨w.heap.size,0,none⟩ u0).setCell ⟨w.heap.size,1,none⟩ u1).setCell ⟨w.heap.size,2,none⟩ u2).setCell ⟨w.heap.size,3,none⟩ u3)):=fun u0 u1 u2 u3=>(((H1.o.2.2.setCell (by simp) _).setCell (by simp) _).setCell (by simp) _).setCell (by simp) _;cases he:Rc.emp ⟨x0,y0,x1,y1⟩ with
 |true=>
  have HE:Hid (boxR ⟨x0,y0,x1,y1⟩=⟨0,0,0,0⟩):=if_pos he;clear he;go_wp2_with fail;exact ret_rect rfl rfl (set4_box H1.o.1 _ _ _ _) rfl ⟨by rw [HE.o],HS.o _ _ _ _⟩
 |false=>
  have HE:Hid (boxR ⟨x0,y0,x1,y1⟩=⟨x0,y0,x1,y1⟩):=by
   have:boxR ⟨x0,y0,x1,y1⟩=⟨x0,y0,x1,y1⟩:=by unfold boxR;rw [he];rfl
   exact this
  clear he;go_wp2_with fail;exact ret_rect rfl rfl (set4_box H1.o.1 _ _ _ _) rfl ⟨by rw [HE.o],HS.o _ _ _ _⟩
def refWi (a b:Rc):Bool:=a.emp||(hasR b a.x0 a.y0&&hasR b (a.x1-1) (a.y1-1))
theorem rwithin_c (a b:Rc) (w:World) (ha:RcP a):Calls Tryz.prog 83 #[rv a,rv b] w (PPost w (.bool (refWi a b))):=by
 obtain ⟨x0,y0,x1,y1⟩:=a;obtain ⟨x2,y2,x3,y3⟩:=b;obtain ⟨p0,p1,p2,p3⟩:=ha;unfold Pl at p0 p1 p2 p3;dsimp only at p0 p1 p2 p3;have J0:Hid (Box ((w.alloc (.cells (cs4 x0 y0 x1 y1) 25)).alloc (.cells (cs4 x2 y2 x3 y3) 25)) w.heap.size (cl4 ⟨x0,y0,x1,y1⟩)∧Box ((w.alloc (.cells (cs4 x0 y0 x1 y1) 25)).alloc (.cells (cs4 x2 y2 x3 y3) 25)) (w.heap.size+1) (cl4 ⟨x2,y2,x3,y3⟩)∧Below w.heap.size w ((w.alloc (.cells (cs4 x0 y0 x1 y1) 25)).alloc (.cells (cs4 x2 y2 x3 y3) 25))):=J2new w ⟨x0,y0,x1,y1⟩ ⟨x2,y2,x3,y3⟩ 25;obtain ⟨d0,h0⟩:∃ d,Rc.emp ⟨x0,y0,x1,y1⟩=d:=⟨_,rfl⟩;obtain ⟨d1,h1⟩:∃ d,hasR ⟨x2,y2,x3,y3⟩ x0 y0=d:=⟨_,rfl⟩;obtain ⟨d2,h2⟩:∃ d,hasR ⟨x2,y2,x3,y3⟩ (x1-1) (y1-1)=d:=⟨_,rfl⟩;have HE:Hid (refWi ⟨x0,y0,x1,y1⟩ ⟨x2,y2,x3,y3⟩=(d0||(d1&&d2))):=by
  have:refWi ⟨x0,y0,x1,y1⟩ ⟨x2,y2,x3,y3⟩=(d0||(d1&&d2)):=by unfold refWi;rw [h0,h1,h2]
  exact this
 have HN:Hid (∀ (W:World),Calls Tryz.prog 19 #[rv ⟨x0,y0,x1,y1⟩] W (PPost W (.bool d0))∧Calls Tryz.prog 10 #[rv ⟨x2,y2,x3,y3⟩,X J x0,X J y0] W (PPost W (.bool d1))∧Calls Tryz.prog 10 #[rv ⟨x2,y2,x3,y3⟩,X J (x1-1),X J (y1-1)] W (PPost W (.bool d2))):=fun W=>by
  rw [←h0,←h1,←h2];exact ⟨rempty_c _ W,has03_c _ _ _ W,has03_c _ _ _ W⟩
 clear h0 h1 h2;go_enter Tryz.func83,Tryz.ntmps83;go_wp2_with fail;generalize ((w.alloc (.cells (cs4 x0 y0 x1 y1) 25)).alloc (.cells (cs4 x2 y2 x3 y3) 25))=W0 at *;refine ((HN.o _).1).mono ?_;rintro e W1 ⟨rfl,hb1⟩;have J1:Hid (Box W1 w.heap.size (cl4 ⟨x0,y0,x1,y1⟩)∧Box W1 (w.heap.size+1) (cl4 ⟨x2,y2,x3,y3⟩)∧Below w.heap.size w W1):=⟨J0.out.1.call hb1,J0.out.2.1.call hb1,J0.out.2.2.trans (hb1.mono J0.out.2.2.size)⟩;clear hb1 J0
 cases d0 with
 |true=>
  go_wp2_with fail;go_ret;exact ⟨ret_b HE.o.symm,J1.out.2.2⟩
 |false=>
  obtain ⟨a0,a1,a2,a3⟩:=box4 J1.out.1;obtain ⟨b0,b1,b2,b3⟩:=box4 J1.out.2.1;go_wp2_with fail;refine ((HN.o _).2.1).mono ?_;rintro e W2 ⟨rfl,hb2⟩;have J2:Hid (Box W2 w.heap.size (cl4 ⟨x0,y0,x1,y1⟩)∧Box W2 (w.heap.size+1) (cl4 ⟨x2,y2,x3,y3⟩)∧Below w.heap.size w W2):=⟨J1.out.1.call hb2,J1.out.2.1.call hb2,J1.out.2.2.trans (hb2.mono J1.out.2.2.size)⟩;clear hb2 J1 a0 a1 a2 a3 b0 b1 b2 b3
  cases d1 with
  |false=>
   go_wp2_with fail;go_ret;exact ⟨ret_b HE.o.symm,J2.out.2.2⟩
  |true=>
   obtain ⟨a0,a1,a2,a3⟩:=box4 J2.out.1;obtain ⟨b0,b1,b2,b3⟩:=box4 J2.out.2.1;go_wp2_with fail;refine ((HN.o _).2.2).mono ?_;rintro e W3 ⟨rfl,hb3⟩;have HB:Hid (Below w.heap.size w W3):=J2.out.2.2.trans (hb3.mono J2.out.2.2.size);clear hb3 J2 a0 a1 a2 a3 b0 b1 b2 b3;go_wp2_with fail;go_ret;exact ⟨ret_b HE.o.symm,HB.o⟩
theorem rjoin_c (a b:Rc) (w:World):Calls Tryz.prog 81 #[rv a,rv b] w (PPost w (rv (joinR a b))):=by
 obtain ⟨x0,y0,x1,y1⟩:=a;obtain ⟨x2,y2,x3,y3⟩:=b;have J0:Hid (J3 w (((w.alloc (.cells (cs4 x0 y0 x1 y1) 25)).alloc (.cells (cs4 x2 y2 x3 y3) 25)).alloc (.cells (cs4 0 0 0 0) 25)) ⟨x0,y0,x1,y1⟩ ⟨x2,y2,x3,y3⟩ ⟨0,0,0,0⟩):=J3.new w ⟨x0,y0,x1,y1⟩ ⟨x2,y2,x3,y3⟩ ⟨0,0,0,0⟩ 25;go_enter Tryz.func81,Tryz.ntmps81;go_wp2_with fail;generalize (((w.alloc (.cells (cs4 x0 y0 x1 y1) 25)).alloc (.cells (cs4 x2 y2 x3 y3) 25)).alloc (.cells (cs4 0 0 0 0) 25))=W0 at *;refine (rempty_c ⟨x0,y0,x1,y1⟩ W0).mono ?_;rintro e W1 ⟨rfl,hb1⟩;have J1:=V (J0.out.call hb1);clear hb1 J0;obtain ⟨a0,a1,a2,a3,b0,b1,b2,b3,r0,r1,r2,r3,f0,f1,f2,f3⟩:=J1.out.cells;cases ha:Rc.emp ⟨x0,y0,x1,y1⟩ with
 |true=>
  have HJ:Hid (joinR ⟨x0,y0,x1,y1⟩ ⟨x2,y2,x3,y3⟩=boxR ⟨x2,y2,x3,y3⟩):=by
   have:joinR ⟨x0,y0,x1,y1⟩ ⟨x2,y2,x3,y3⟩=boxR ⟨x2,y2,x3,y3⟩:=by unfold joinR;rw [if_pos ha];rfl
   exact this
  obtain ⟨q,hq⟩:∃ q,q=boxR ⟨x2,y2,x3,y3⟩:=⟨_,rfl⟩;have HS:Hid (∀ W,Calls Tryz.prog 46 #[X J x2,X J y2,X J x3,X J y3] W (PPost W (rv q))):=fun W=>by rw [hq];exact some03_c _ _ _ _ W
  have HJ2:Hid (joinR ⟨x0,y0,x1,y1⟩ ⟨x2,y2,x3,y3⟩=q):=by
   have:=HJ.o;rw [←hq] at this;exact this
  clear ha hq HJ;go_wp2_with fail;refine (HS.o _).mono ?_;rintro e W2 ⟨rfl,hb2⟩;have J2:=V (J1.out.call hb2);clear hb2 a0 a1 a2 a3 b0 b1 b2 b3 r0 r1 r2 r3 f0 f1 f2 f3;obtain ⟨a0,a1,a2,a3,b0,b1,b2,b3,r0,r1,r2,r3,f0,f1,f2,f3⟩:=J2.out.cells;go_wp2_with fail;exact ret_rect rfl rfl (set4_box J2.out.2.2.1 _ _ _ _) rfl ⟨by rw [HJ2.o],J2.out.set4 _ _ _ _⟩
 |false=>
  have HA:Hid (Rc.emp ⟨x0,y0,x1,y1⟩=false):=ha;clear ha;go_wp2_with fail;refine (rempty_c ⟨x2,y2,x3,y3⟩ W1).mono ?_;rintro e W2 ⟨rfl,hb2⟩;have J2:=V (J1.out.call hb2);clear hb2 a0 a1 a2 a3 b0 b1 b2 b3 r0 r1 r2 r3 f0 f1 f2 f3 J1;obtain ⟨a0,a1,a2,a3,b0,b1,b2,b3,r0,r1,r2,r3,f0,f1,f2,f3⟩:=J2.out.cells;cases hb:Rc.emp ⟨x2,y2,x3,y3⟩ with
  |true=>
   have HJ:Hid (joinR ⟨x0,y0,x1,y1⟩ ⟨x2,y2,x3,y3⟩=⟨x0,y0,x1,y1⟩):=joinR_ft HA.o hb;clear hb;go_wp2_with fail;exact ret_rect rfl rfl (set4_box J2.out.2.2.1 _ _ _ _) rfl ⟨by rw [HJ.o],J2.out.set4 _ _ _ _⟩
  |false=>
   obtain ⟨q0,e0⟩:∃ q,q=min x0 x2:=⟨_,rfl⟩;obtain ⟨q1,e1⟩:∃ q,q=min y0 y2:=⟨_,rfl⟩;obtain ⟨q2,e2⟩:∃ q,q=max x1 x3:=⟨_,rfl⟩;obtain ⟨q3,e3⟩:∃ q,q=max y1 y3:=⟨_,rfl⟩;have HJ:Hid (joinR ⟨x0,y0,x1,y1⟩ ⟨x2,y2,x3,y3⟩=⟨q0,q1,q2,q3⟩):=by
    have:joinR ⟨x0,y0,x1,y1⟩ ⟨x2,y2,x3,y3⟩=⟨q0,q1,q2,q3⟩:=by rw [e0,e1,e2,e3];exact joinR_ff HA.o hb
    exact this
   have HBX:Hid (boxR ⟨q0,q1,q2,q3⟩=⟨q0,q1,q2,q3⟩):=by
    have:boxR ⟨q0,q1,q2,q3⟩=⟨q0,q1,q2,q3⟩:=by
     have hne:Rc.emp ⟨q0,q1,q2,q3⟩=false:=by
      have h1:=(nemp_iff _).1 HA.o;have h2:=(nemp_iff _).1 hb;rw [nemp_iff];dsimp only at *;omega
     unfold boxR;rw [hne];rfl
    exact this
   have HN:Hid (∀ s:Kept W2.heap.size W2,Calls Tryz.prog 48 #[X J x0,X J x2] s.w (PPost s.w (X J q0))∧Calls Tryz.prog 48 #[X J y0,X J y2] s.w (PPost s.w (X J q1))∧Calls Tryz.prog 47 #[X J x1,X J x3] s.w (PPost s.w (X J q2))∧Calls Tryz.prog 47 #[X J y1,X J y3] s.w (PPost s.w (X J q3))∧Calls Tryz.prog 46 #[X J q0,X J q1,X J q2,X J q3] s.w (PPost s.w (rv ⟨q0,q1,q2,q3⟩))):=fun s=>by
    refine ⟨by rw [e0];exact less03_c _ _ _,by rw [e1];exact less03_c _ _ _,by rw [e2];exact more03_c _ _ _,by rw [e3];exact more03_c _ _ _,?_⟩;have:=some03_c q0 q1 q2 q3 s.w;rw [HBX.o] at this;exact this
   obtain ⟨k0,k1,k2,k3,k4,k5,k6,k7⟩:=kept8 a0 a1 a2 a3 b0 b1 b2 b3;clear hb e0 e1 e2 e3 a0 a1 a2 a3 b0 b1 b2 b3 r0 r1 r2 r3 f0 f1 f2 f3;go_wp2_with fail;refine wp_region_kept_last W2.heap.size 21 _ rfl rfl (by kernel_rfl) (by kernel_rfl) ?_;simp only [List.take_succ_cons,List.take_zero]
   repeat (go_big_quiet_step (first
    |(go_at_call 48;with_reducible exact Calls.kept _ (Z _) (HN.o _).1)
    |(go_at_call 48;with_reducible exact Calls.kept _ (Z _) (HN.o _).2.1)
    |(go_at_call 47;with_reducible exact Calls.kept _ (Z _) (HN.o _).2.2.1)
    |(go_at_call 47;with_reducible exact Calls.kept _ (Z _) (HN.o _).2.2.2.1)
    |(go_at_call 46;with_reducible exact Calls.kept _ (Z _) (HN.o _).2.2.2.2)))
   refine wpQuiet_nil ?_;intro s;have J5:=V (J2.out.call s.below);obtain ⟨_,_,_,_,_,_,_,_,r0,r1,r2,r3,f0,f1,f2,f3⟩:=J5.out.cells;refine ⟨steps_plain rfl (gives_mono (R:=fun v w'=>v=undef∧w'=(((s.w.setCell ⟨w.heap.size+1+1,0,none⟩ (X J q0)).setCell ⟨w.heap.size+1+1,1,none⟩ (X J q1)).setCell ⟨w.heap.size+1+1,2,none⟩ (X J q2)).setCell ⟨w.heap.size+1+1,3,none⟩ (X J q3)) ?_ ?_)⟩
   ·simp [gives,go_sem,r0,r1,r2,r3,f0,f1,f2,f3]
   ·rintro _ _ ⟨rfl,rfl⟩;clear k0 k1 k2 k3 k4 k5 k6 k7;go_wp2_with fail;exact ret_rect rfl rfl (set4_box J5.out.2.2.1 _ _ _ _) rfl ⟨by rw [HJ.o],J5.out.set4 _ _ _ _⟩
theorem struct_Rect:Tryz.prog.underlying 25=some (.struct (Tryz.prog.fieldsOf 25)):=by kernel_rfl
theorem stood_Rect:Tryz.prog.stoodInHeld 25=false:=by kernel_rfl
theorem fields_Rect : (Tryz.prog.fieldsOf 25).toList.map (fun f => (decide (f.name = "_"), f.type, f.offset)) = [(false, 3, 0), (false, 3, 1), (false, 3, 2), (false, 3, 3)] := by kernel_rfl
theorem eqRect (a b c d:Int) (w:World):(Op.equalIn 10000 25 (.agg #[X J a,X J b,X J c,X J d]) (.agg #[X J a,X J b,X J c,X J d])).run Tryz.prog w=.ok true w:=by
 rw [run_equalIn_struct w 9999 25 _ _ struct_Rect stood_Rect];have hf:=fields_Rect;generalize (Tryz.prog.fieldsOf 25).toList=l at hf ⊢
 rcases l with _|⟨f,_|⟨g,_|⟨h,_|⟨k,_|⟨e,l⟩⟩⟩⟩⟩
 ·simp at hf
 ·simp at hf
 ·simp at hf
 ·simp at hf
 rotate_left
 ·simp at hf
 ·simp only [List.map_cons,List.map_nil,List.cons.injEq,Prod.mk.injEq,and_true,decide_eq_false_iff_not] at hf;obtain ⟨⟨a1,a2,a3⟩,⟨b1,b2,b3⟩,⟨c1,c2,c3⟩,d1,d2,d3⟩:=hf;unfold Op.eqFields;rw [a2,a3,if_pos a1];unfold Op.eqFields;rw [b2,b3,if_pos b1];unfold Op.eqFields;rw [c2,c3,if_pos c1];unfold Op.eqFields;rw [d2,d3,if_pos d1];unfold Op.eqFields
  go_simp
theorem eqlR (a b c d:Int) (w:World):(binOp .eql 25 (.agg #[X J a,X J b,X J c,X J d]) (.agg #[X J a,X J b,X J c,X J d])).run Tryz.prog w=.ok (.bool true) w:=by
 rw [run_eql_struct,eqRect];rfl
theorem sl_box {W:World} {b B n:Nat} {xs:List Int} (h:Box W b (xs.map (Value.int .i64))) (hn:n=xs.length) (hx:∀ x∈xs,In64 x) (hb:b<B) (hl:n≤maxLen):SlOf RInt 1 (·<B) W (.slice (some ⟨b,0,none⟩) n n) xs:=by
 subst hn;refine ⟨_,xs.length,rfl,Z _,hl,.inr ⟨b,0,rfl,hb,fun i x hi=>?_⟩⟩;refine ⟨[X J x],rfl,fun j u hu=>?_,rfl,hx x (List.mem_of_getElem? hi)⟩
 cases j with
 |zero=>
  simp at hu;subst hu;simp only [Nat.mul_one,E,Nat.add_zero];exact h.cell i (by simp [hi])
 |succ j=>simp at hu
theorem in_small {x:Int} (h : -1000≤x∧x≤1000):In64 x:=by unfold In64;omega
end Go.Proofs.YtgodhpampaleeaaGreatDoor
namespace Go.Proofs.YtgodhpampaleeaaGreatDoor
open Go.ChangeShapes Go.WideShapes Go.ChangeAt Go.RowKit
def laid3 : List (String × DataW Unit) := [("gouache/gouacheref12.least", Rows.laid_gouache_gouacheref12_least), ("gouache/gouacheref12.most", Rows.laid_gouache_gouacheref12_most), ("gouache/gouacheref12.params", Rows.laid_gouache_gouacheref12_params)]
theorem tab_at {W:World} {H:Type} {enc:TypeId×Value→H} {sp:Addr→Bool} {held:Bool} {name:String} {g:Nat} {cs:Array Value} {L:List Int} {fuel:Nat} {q:List MemPlace} (hg:Tryz.prog.globalNamed name=some g) (hv:W.var? Tryz.prog name=some cs)
  (hd:DataW.trod enc Tryz.prog W 0 (fun _=>true) held fuel 147 cs.toList=some (.agg (L.map fun x=>.lit (.int .i64 x)),q)):∀ j:Nat,j<13→W.cell? ⟨g,j,none⟩=some (.int .i64 (L.getD j 0)):=by
 obtain ⟨xs,m,rfl,hx1,hlen,hn,hel⟩:=DataW.trod_array Tryz.underlying147 hd;intro j hj;have h1:=hel j hj;have c3:Tryz.prog.cellsOf 3=1:=by kernel_rfl
 rw [c3,Nat.mul_one] at h1;have hxj:xs[j]?=some xs[j]:=List.getElem?_eq_getElem (by omega);rw [hxj] at h1;obtain ⟨k,e1,e2,_⟩:=DataW.trod_int Tryz.underlying3 h1;simp only [Prod.mk.injEq,DataW.agg.injEq] at hx1;have e3:=congrArg (fun l=>l[j]?) hx1.1;simp only [List.getElem?_map,hxj,Option.map_some,e2] at e3;have hk:L[j]?=some k:=by
  cases h:L[j]? with
  |none=>rw [h] at e3;cases e3
  |some y=>
   rw [h] at e3;simp only [Option.map_some,Option.some.injEq,DataW.lit.injEq,Lit.int.injEq,true_and] at e3;rw [e3]
 rw [World.var?_cell hg hv j];have e4:cs.toList[j]?=some (X J k):=by
  have:=congrArg (fun l=>l[0]?) e1
  simpa using this
 rw [List.getD_eq_getElem?_getD,hk]
 simpa using e4
theorem gLeast : Tryz.prog.globalNamed "gouache/gouacheref12.least" = some 0 := by kernel_rfl
theorem gMost : Tryz.prog.globalNamed "gouache/gouacheref12.most" = some 1 := by kernel_rfl
theorem gParams : Tryz.prog.globalNamed "gouache/gouacheref12.params" = some 2 := by kernel_rfl
theorem tLeast:(Tryz.prog.globals[0]?).map (·.type)=some 147:=by kernel_rfl
theorem tMost:(Tryz.prog.globals[1]?).map (·.type)=some 147:=by kernel_rfl
theorem tParams:(Tryz.prog.globals[2]?).map (·.type)=some 147:=by kernel_rfl
theorem tabs_laid {W:World} (h:laidMetH Tryz.prog laid3 W):Tabs W:=by
 rw [MakeChecks.laidMetH_plain _ _ _ (by kernel_rfl)] at h;obtain ⟨ps,⟨g0,t0,cs0,f0,p0,q0,hg0,ht0,hv0,hd0,⟨g1,t1,cs1,f1,p1,q1,hg1,ht1,hv1,hd1,⟨g2,t2,cs2,f2,p2,q2,hg2,ht2,hv2,hd2,_⟩,_⟩,_⟩,_⟩:=h;obtain rfl:=Option.some.inj (gLeast.symm.trans hg0);obtain rfl:=Option.some.inj (gMost.symm.trans hg1);obtain rfl:=Option.some.inj (gParams.symm.trans hg2);obtain rfl:=Option.some.inj (tLeast.symm.trans ht0);obtain rfl:=Option.some.inj (tMost.symm.trans ht1);obtain rfl:=Option.some.inj (tParams.symm.trans ht2);exact fun j hj=>⟨tab_at (L:=leastL) (sp:=fun _=>true) hg0 hv0 hd0 j hj,tab_at (L:=mostL) (sp:=fun _=>true) hg1 hv1 hd1 j hj,tab_at (L:=parL) (sp:=fun _=>true) hg2 hv2 hd2 j hj⟩
theorem door_met (os:Os) (args:Array Value):laidMetH Tryz.prog laid3 ((World.doorLaid Tryz.prog 400 os).forCall (fun _ _=>0) ⟨#[],args,[]⟩).memory:=
 laidMetH_of_parts3 (fuel:=8) (laidMet_of_run' 8 (by kernel_rfl) (by kernel_rfl)) (by kernel_rfl) (by kernel_rfl)
end Go.Proofs.YtgodhpampaleeaaGreatDoor
namespace Go.Fl
open Ieee
def IsI (b:Nat) (n:Int):Prop:=
 ∃ (s:Bool) (m p:Nat),double.read b=.number s m (-(p:Int))∧m=n.natAbs*2^p∧(n≠0→s=decide (n<0))∧p≤1074
theorem log2_mul_pow (n p:Nat) (h:n≠0):(n*2^p).log2=n.log2+p:=by
 have h2:n*2^p≠0:=Nat.mul_ne_zero h (Nat.ne_of_gt (Nat.two_pow_pos p));apply (Nat.log2_eq_iff h2).2;have a:=Nat.log2_self_le h;have b:=(Nat.log2_lt h).1 (Nat.lt_succ_self n.log2);constructor
 ·rw [Nat.pow_add];exact Nat.mul_le_mul_right _ a
 ·rw [show n.log2+p+1=(n.log2+1)+p from by omega,Nat.pow_add];exact Nat.mul_lt_mul_of_pos_right b (Nat.two_pow_pos p)
theorem cut_exact (way:Toward) (neg:Bool) (N d:Nat):way.cut neg (N*2^d) d=N:=by
 unfold Toward.cut;by_cases h:N=0
 ·subst h
  simp
  cases way<;>simp
 ·have hm:min d ((N*2^d).log2+2)=d:=by rw [log2_mul_pow N d h];omega
  have hp:=Nat.two_pow_pos d;simp only [hm,Nat.one_shiftLeft,Nat.mul_mod_left,Nat.mul_div_cancel _ hp]
  cases way<;>simp
theorem read_word (s:Bool) (k l:Nat) (hk:2^52≤k) (hk2:k<2^53) (hl:l≤1074):
  double.read (double.word s (l*2^52+k))=.number s k (-1074+(l:Int)):=by
 have e1:double.signWeight=2^63:=rfl;have e2:double.binade=2^52:=rfl;have e3:double.infRung=2047*2^52:=rfl;have e4:double.leastPlace = -1074:=rfl;have hr:l*2^52+k<2^63:=by omega
 have hw1:double.word s (l*2^52+k)/2^63%2=s.toNat:=by
  unfold Format.word;rw [e1];cases s<;>simp<;>omega
 have hw2:double.word s (l*2^52+k)%2^63=l*2^52+k:=by
  unfold Format.word;rw [e1];cases s<;>simp<;>omega
 unfold Format.read;simp only [e1,e2,e3,e4,hw1,hw2];rw [if_neg (by omega),if_pos (by omega)];have a:2^52+(l*2^52+k)%2^52=k:=by omega
 have b:(l*2^52+k)/2^52-1=l:=by omega
 rw [a,b]
 cases s<;>simp
theorem read_zero (s:Bool):double.read (double.word s 0)=.number s 0 (-1074):=by
 cases s<;>rfl
theorem write_int (s:Bool) (n:Int) (p:Nat) (hn:n.natAbs<2^53) (hs:n≠0→s=decide (n<0)):
  IsI (double.write (.number s (n.natAbs*2^p) (-(p:Int)))) n:=by
 by_cases h:n=0
 ·subst h;obtain ⟨k,hk⟩:∃ k:Nat,k=1074:=⟨_,rfl⟩;refine ⟨s,0,k,?_,(Nat.zero_mul _).symm,fun h=>absurd rfl h,by omega⟩;have e:double.write (.number s ((0:Int).natAbs*2^p) (-(p:Int)))=double.word s 0:=by
   simp [Format.write,Format.nearest]
  rw [e,hk];exact read_zero s
 ·have hN:n.natAbs≠0:=by omega
  generalize hNe:n.natAbs=N at *;have hL:N.log2≤52:=by
   have:=(Nat.log2_lt hN).2 hn;omega
  refine ⟨s,N*2^(52-N.log2),52-N.log2,?_,by rw [hNe],hs,by omega⟩;have hmag:N*2^p≠0:=Nat.mul_ne_zero hN (Nat.ne_of_gt (Nat.two_pow_pos p));have e4:double.leastPlace = -1074:=rfl;have e2:double.binade=2^52:=rfl;have e3:double.infRung=2047*2^52:=rfl;have e5:double.fractionBits=52:=rfl;unfold Format.write Format.nearest;simp only [hmag,if_false,log2_mul_pow N p hN,e4,e2,e3,e5];have hlast:max (-(p:Int)+((N.log2+p:Nat):Int)-(52:Nat)) (-1074)=(N.log2:Int)-52:=by omega
  rw [hlast];have hkept:Toward.even.cut s ((N*2^p) <<< (-(p:Int)-((N.log2:Int)-52)).toNat) ((N.log2:Int)-52 - -(p:Int)).toNat=N*2^(52-N.log2):=by
   by_cases hc:52-N.log2≤p
   ·have h1:(-(p:Int)-((N.log2:Int)-52)).toNat=0:=by omega
    have h2:((N.log2:Int)-52 - -(p:Int)).toNat=p-(52-N.log2):=by omega
    rw [h1,h2,Nat.shiftLeft_zero];have:N*2^p=(N*2^(52-N.log2))*2^(p-(52-N.log2)):=by
     rw [Nat.mul_assoc,←Nat.pow_add];congr 2;omega
    rw [this,cut_exact]
   ·have h1:(-(p:Int)-((N.log2:Int)-52)).toNat=52-N.log2-p:=by omega
    have h2:((N.log2:Int)-52 - -(p:Int)).toNat=0:=by omega
    rw [h1,h2,Nat.shiftLeft_eq];have:N*2^p*2^(52-N.log2-p)=(N*2^(52-N.log2))*2^0:=by
     rw [Nat.mul_assoc,←Nat.pow_add,Nat.pow_zero,Nat.mul_one];congr 2;omega
    rw [this,cut_exact]
  rw [hkept];have hk1:2^52≤N*2^(52-N.log2):=by
   have a:=Nat.log2_self_le hN;have:=Nat.mul_le_mul_right (2^(52-N.log2)) a;rw [←Nat.pow_add,show N.log2+(52-N.log2)=52 from by omega] at this;exact this
  have hk2:N*2^(52-N.log2)<2^53:=by
   have b:=(Nat.log2_lt hN).1 (Nat.lt_succ_self N.log2);have:=Nat.mul_lt_mul_of_pos_right b (Nat.two_pow_pos (52-N.log2));rw [←Nat.pow_add,show N.log2.succ+(52-N.log2)=53 from by omega] at this;exact this
  have hl:((N.log2:Int)-52 - -1074).toNat=N.log2+1022:=by omega
  rw [hl];generalize N*2^(52-N.log2)=K at hk1 hk2;generalize hl2:N.log2+1022=l;have hl3:l≤1074:=by omega
  have hmin:min (l*2^52+K) (2047*2^52)=l*2^52+K:=by
   apply Nat.min_eq_left;omega
  rw [hmin,read_word s _ _ hk1 hk2 hl3]
  congr 1
  omega
theorem signed_eq (s:Bool) (n:Int) (m p up:Nat) (hm:m=n.natAbs*2^p) (hs:n≠0→s=decide (n<0)):
  signed s m up=n*2^(p+up):=by
 subst hm;unfold signed;have e:((n.natAbs*2^p) <<< up:Nat)=n.natAbs*2^(p+up):=by
  rw [Nat.shiftLeft_eq,Nat.mul_assoc,←Nat.pow_add]
 rw [e];by_cases h:n=0
 ·subst h;cases s<;>simp
 ·have hs':=hs h;by_cases hneg:n<0
  ·simp [hneg] at hs';subst hs';simp only [if_true];rw [Int.natCast_mul,Int.natCast_pow];have:(n.natAbs:Int) = -n:=by omega
   rw [this,Int.neg_mul,Int.neg_neg];rfl
  ·simp [hneg] at hs';subst hs';simp only [Bool.false_eq_true,if_false];rw [Int.natCast_mul,Int.natCast_pow];have:(n.natAbs:Int)=n:=by omega
   rw [this];rfl
theorem of_int (n:Int) (hn:n.natAbs<2^53):IsI (FloatKind.f64.nearest n) n:=by
 have:=write_int (decide (n<0)) n 0 hn (fun _=>rfl);rw [Nat.pow_zero,Nat.mul_one] at this;exact this
theorem natAbs_scale (n:Int) (p:Nat):(n*2^p).natAbs=n.natAbs*2^p:=by
 rw [Int.natAbs_mul,Int.natAbs_pow];rfl
theorem scale_pos (p:Nat):(0:Int)<2^p:=by
 have:=Nat.two_pow_pos p;exact_mod_cast this
theorem scale_neg_iff (n:Int) (p:Nat):n*2^p<0↔n<0:=by
 have:=scale_pos p;constructor
 ·intro h;refine Int.not_le.1 fun h0=>?_;have:=Int.mul_nonneg h0 (Int.le_of_lt this);omega
 ·intro h;exact Int.mul_neg_of_neg_of_pos h this
theorem scale_zero_iff (n:Int) (p:Nat):n*2^p=0↔n=0:=by
 have:=scale_pos p;constructor
 ·intro h
  rcases Int.mul_eq_zero.1 h with h|h
  ·exact h
  ·omega
 ·intro h;simp [h]
theorem mul_int {x y:Nat} {a b:Int} (hx:IsI x a) (hy:IsI y b) (hb:(a*b).natAbs<2^53):
  ∃ r,floatBits .mul .f64 x y=some r∧IsI r (a*b):=by
 obtain ⟨s,m,p,hr,hm,hs,_⟩:=hx;obtain ⟨t,n,q,hr2,hn,ht,_⟩:=hy;refine ⟨_,?_,write_int (s ^^ t) (a*b) (p+q) hb ?_⟩
 ·show double.mul x y=_;unfold Format.mul;rw [hr,hr2];simp only [Datum.product,Option.map_some]
  congr 3
  ·rw [hm,hn,Int.natAbs_mul,Nat.pow_add];ac_rfl
  ·omega
 ·intro h0;have ha:a≠0:=fun h=>h0 (by simp [h]);have hb0:b≠0:=fun h=>h0 (by simp [h]);rw [hs ha,ht hb0];by_cases h1:a<0<;>by_cases h2:b<0
  ·have:=Int.mul_pos_of_neg_of_neg h1 h2;simp [h1,h2];omega
  ·have:=Int.mul_neg_of_neg_of_pos h1 (show 0<b by omega);simp [h1,h2,this]
  ·have:=Int.mul_neg_of_pos_of_neg (show 0<a by omega) h2;simp [h1,h2,this]
  ·have:=Int.mul_pos (show 0<a by omega) (show 0<b by omega);simp [h1,h2];omega
theorem sum_int {s t:Bool} {m n p q:Nat} {a b:Int} (hm:m=a.natAbs*2^p) (hs:a≠0→s=decide (a<0)) (hn:n=b.natAbs*2^q) (ht:b≠0→t=decide (b<0))
  (hb:(a+b).natAbs<2^53):
  ∃ d,(Datum.number s m (-(p:Int))).sum (.number t n (-(q:Int)))=some d∧IsI (double.write d) (a+b):=by
 have hbase:min (-(p:Int)) (-(q:Int)) = -((max p q:Nat):Int):=by omega
 simp only [Datum.sum,hbase];have e1:(-(p:Int) - -((max p q:Nat):Int)).toNat=max p q-p:=by omega
 have e2:(-(q:Int) - -((max p q:Nat):Int)).toNat=max p q-q:=by omega
 rw [e1,e2,signed_eq s a m p _ hm hs,signed_eq t b n q _ hn ht];have e3:p+(max p q-p)=max p q:=by omega
 have e4:q+(max p q-q)=max p q:=by omega
 rw [e3,e4,←Int.add_mul];refine ⟨_,rfl,?_⟩;rw [natAbs_scale];apply write_int _ _ _ hb;intro h0;have:¬((a+b)*2^max p q=0):=fun h=>h0 ((scale_zero_iff _ _).1 h);rw [if_neg this]
 congr 1
 exact propext (scale_neg_iff _ _)
theorem add_int {x y:Nat} {a b:Int} (hx:IsI x a) (hy:IsI y b) (hb:(a+b).natAbs<2^53):
  ∃ r,floatBits .add .f64 x y=some r∧IsI r (a+b):=by
 obtain ⟨s,m,p,hr,hm,hs,_⟩:=hx;obtain ⟨t,n,q,hr2,hn,ht,_⟩:=hy;obtain ⟨d,hd,hi⟩:=sum_int hm hs hn ht hb;refine ⟨_,?_,hi⟩;show double.add x y=_;unfold Format.add;rw [hr,hr2,hd];rfl
theorem sub_int {x y:Nat} {a b:Int} (hx:IsI x a) (hy:IsI y b) (hb:(a-b).natAbs<2^53):
  ∃ r,floatBits .sub .f64 x y=some r∧IsI r (a-b):=by
 obtain ⟨s,m,p,hr,hm,hs,_⟩:=hx;obtain ⟨t,n,q,hr2,hn,ht,_⟩:=hy;have ht':(-b)≠0→(!t)=decide (-b<0):=by
  intro h;rw [ht (by omega)];by_cases h1:b<0
  ·simp [h1];omega
  ·simp [h1];omega
 obtain ⟨d,hd,hi⟩:=sum_int (b := -b) hm hs (show n=(-b).natAbs*2^q by rw [hn,Int.natAbs_neg]) ht' (by rw [←Int.sub_eq_add_neg];exact hb);refine ⟨_,?_,by rw [Int.sub_eq_add_neg];exact hi⟩;show double.sub x y=_;unfold Format.sub;rw [hr,hr2];simp only [Datum.opposite];rw [hd];rfl
theorem to_int {x:Nat} {a:Int} (hx:IsI x a) (h1 : -9223372036854775808≤a) (h2:a≤9223372036854775807):floatToIntVal .f64 x .i64=some a:=by
 obtain ⟨s,m,p,hr,hm,hs,_⟩:=hx;unfold floatToIntVal FloatKind.decode;rw [show FloatKind.f64.format=double from rfl,hr];have e:(Datum.number s m (-(p:Int))).toInt .zero=some a:=by
  unfold Datum.toInt Datum.integral;have e1:(-(p:Int)).toNat=0:=by omega
  have e2:(-(-(p:Int))).toNat=p:=by omega
  simp only [e1,e2,Nat.shiftLeft_zero];rw [hm,cut_exact,signed_eq s a a.natAbs 0 0 (by simp) hs]
  simp
 rw [e];simp only;rw [if_pos];exact ⟨h1,h2⟩
def IsC (re im:Nat) (a b:Int):Prop:=IsI re a∧IsI im b
theorem zero_int:IsI 0 0:=by
 obtain ⟨k,hk⟩:∃ k:Nat,k=1074:=⟨_,rfl⟩;exact ⟨false,0,k,by rw [hk];exact read_zero false,(Nat.zero_mul _).symm,fun h=>absurd rfl h,by omega⟩
theorem one_int:IsI 4607182418800017408 1:=⟨false,4503599627370496,52,by decide +kernel,by decide +kernel,fun _=>by decide,by omega⟩
theorem cmul {x y u v:Nat} {a b c d:Int} (h1:IsC x y a b) (h2:IsC u v c d) (hac:(a*c).natAbs<2^53) (hbd:(b*d).natAbs<2^53) (had:(a*d).natAbs<2^53) (hbc:(b*c).natAbs<2^53)
  (hre:(a*c-b*d).natAbs<2^53) (him:(a*d+b*c).natAbs<2^53):
  ∃ re im,cMulBits x y u v=some (re,im)∧IsC re im (a*c-b*d) (a*d+b*c):=by
 obtain ⟨r1,e1,i1⟩:=mul_int h1.1 h2.1 hac;obtain ⟨r2,e2,i2⟩:=mul_int h1.2 h2.2 hbd;obtain ⟨r3,e3,i3⟩:=mul_int h1.1 h2.2 had;obtain ⟨r4,e4,i4⟩:=mul_int h1.2 h2.1 hbc;obtain ⟨r5,e5,i5⟩:=sub_int i1 i2 hre;obtain ⟨r6,e6,i6⟩:=add_int i3 i4 him;exact ⟨r5,r6,by simp [cMulBits,e1,e2,e3,e4,e5,e6],i5,i6⟩
theorem csub {x y u v:Nat} {a b c d:Int} (h1:IsC x y a b) (h2:IsC u v c d) (hre:(a-c).natAbs<2^53) (him:(b-d).natAbs<2^53):
  ∃ re im,cSumBits .sub .f64 x y u v=some (re,im)∧IsC re im (a-c) (b-d):=by
 obtain ⟨r1,e1,i1⟩:=sub_int h1.1 h2.1 hre;obtain ⟨r2,e2,i2⟩:=sub_int h1.2 h2.2 him;exact ⟨r1,r2,by simp [cSumBits,e1,e2],i1,i2⟩
end Go.Fl
