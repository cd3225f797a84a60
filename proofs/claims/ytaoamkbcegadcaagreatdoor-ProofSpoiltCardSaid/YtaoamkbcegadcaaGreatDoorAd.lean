/- Texts joined: XRc XRd XTail XRe XRf XNo XNp XNq. -/
import Derived.Test.YtaoamkbcegadcaaGreatDoorAa
import Derived.Lib.MinMax
import Derived.Laws.Rows
import Derived.Test.YtaoamkbcegadcaaGreatDoorAc
import Derived.Test.YtaoamkbcegadcaaGreatDoorAb
set_option maxRecDepth 4000
/- Layer 3: rectangles. -/
namespace Go.Proofs.YtaoamkbcegadcaaGreatDoor
open Go.RowKit Go.Bx Go.Od Go.Hp
attribute [local go_sem ↓] Go.wp_at_zero Go.wp_at_succ
set_option linter.unusedVariables false

structure Rc where
  x0 : Int
  y0 : Int
  x1 : Int
  y1 : Int
def Rc.zero : Rc := ⟨0,0,0,0⟩
abbrev rv (r : Rc) : Value := .agg #[.int .i64 r.x0,.int .i64 r.y0,.int .i64 r.x1,.int .i64 r.y1]
def Rc.emp (r : Rc) : Bool := decide (r.x1 ≤ r.x0) || decide (r.y1 ≤ r.y0)
abbrev cs4 (x0 y0 x1 y1 : Int) : Array Value := #[.int .i64 x0,.int .i64 y0,.int .i64 x1,.int .i64 y1]
theorem box4 {W : World} {b : Nat} {x0 y0 x1 y1 : Int} (h : Box W b [.int .i64 x0,.int .i64 y0,.int .i64 x1,.int .i64 y1]) : W.cell? ⟨b,0,none⟩ = some (.int .i64 x0) ∧ W.cell? ⟨b,1,none⟩ = some (.int .i64 y0) ∧ W.cell? ⟨b,2,none⟩ = some (.int .i64 x1) ∧ W.cell? ⟨b,3,none⟩ = some (.int .i64 y1) :=
  ⟨h.cell 0 rfl,h.cell 1 rfl,h.cell 2 rfl,h.cell 3 rfl⟩
theorem below_new (w : World) (o : Obj) : Below w.heap.size w (w.alloc o) := (Below.refl _ _).alloc (Nat.le_refl _) o
theorem empty_c (x0 y0 x1 y1 : Int) (w : World) : Calls Tryz.prog 30 #[rv ⟨x0,y0,x1,y1⟩] w (PPost w (.bool (Rc.emp ⟨x0,y0,x1,y1⟩))) := by
  by_cases h : x1 ≤ x0
  · have hd : decide (x1 ≤ x0) = true := decide_eq_true h
    have HE : Hid (Rc.emp ⟨x0,y0,x1,y1⟩ = true) := by
      have : Rc.emp ⟨x0,y0,x1,y1⟩ = true := by simp [Rc.emp,h]
      exact this
    clear h
    go_enter Tryz.func30,Tryz.ntmps30
    go_wp2_with fail
    go_ret
    exact ⟨ret_b HE.out.symm,below_new _ _⟩
  · have hd : decide (x1 ≤ x0) = false := decide_eq_false h
    have HE : Hid (Rc.emp ⟨x0,y0,x1,y1⟩ = decide (y1 ≤ y0)) := by
      have : Rc.emp ⟨x0,y0,x1,y1⟩ = decide (y1 ≤ y0) := by simp [Rc.emp,h]
      exact this
    clear h
    go_enter Tryz.func30,Tryz.ntmps30
    go_wp2_with fail
    go_ret
    exact ⟨ret_b HE.out.symm,below_new _ _⟩
def joinR (a b : Rc) : Rc := if a.emp then (if b.emp then Rc.zero else b) else if b.emp then a else ⟨min a.x0 b.x0,min a.y0 b.y0,max a.x1 b.x1,max a.y1 b.y1⟩
end Go.Proofs.YtaoamkbcegadcaaGreatDoor
/- Layer 3: Join, Meet, Within. -/
namespace Go.Proofs.YtaoamkbcegadcaaGreatDoor
open Go.RowKit Go.Bx Go.Od Go.Hp
attribute [local go_sem ↓] Go.wp_at_zero Go.wp_at_succ
set_option linter.unusedVariables false

abbrev cl4 (r : Rc) : List Value := [.int .i64 r.x0,.int .i64 r.y0,.int .i64 r.x1,.int .i64 r.y1]
def J3 (w W : World) (a b r : Rc) : Prop := Box W w.heap.size (cl4 a) ∧ Box W (w.heap.size + 1) (cl4 b) ∧ Box W (w.heap.size + 2) (cl4 r) ∧ Below w.heap.size w W
theorem J3.call {w W W' : World} {a b r : Rc} (h : J3 w W a b r) (hb : Below W.heap.size W W') : J3 w W' a b r := ⟨h.1.call hb,h.2.1.call hb,h.2.2.1.call hb,h.2.2.2.trans (hb.mono h.2.2.2.size)⟩
theorem J3.new (w : World) (a b r : Rc) (t : TypeId) : J3 w (((w.alloc (.cells (cl4 a).toArray t)).alloc (.cells (cl4 b).toArray t)).alloc (.cells (cl4 r).toArray t)) a b r := by
  have h1 := Box.new (w.alloc (.cells (cl4 a).toArray t)) (cl4 b) t
  have h2 := Box.new ((w.alloc (.cells (cl4 a).toArray t)).alloc (.cells (cl4 b).toArray t)) (cl4 r) t
  rw [size_alloc] at h1
  rw [size_alloc,size_alloc] at h2
  exact ⟨((Box.new w (cl4 a) t).alloc _).alloc _,h1.alloc _,h2,((below_new w _).alloc (by rw [size_alloc]; omega) _).alloc (by rw [size_alloc,size_alloc]; omega) _⟩
theorem J3.cells {w W : World} {a b r : Rc} (h : J3 w W a b r) :
    W.cell? ⟨w.heap.size,0,none⟩ = some (.int .i64 a.x0) ∧ W.cell? ⟨w.heap.size,1,none⟩ = some (.int .i64 a.y0) ∧ W.cell? ⟨w.heap.size,2,none⟩ = some (.int .i64 a.x1) ∧ W.cell? ⟨w.heap.size,3,none⟩ = some (.int .i64 a.y1) ∧
    W.cell? ⟨w.heap.size + 1,0,none⟩ = some (.int .i64 b.x0) ∧ W.cell? ⟨w.heap.size + 1,1,none⟩ = some (.int .i64 b.y0) ∧ W.cell? ⟨w.heap.size + 1,2,none⟩ = some (.int .i64 b.x1) ∧ W.cell? ⟨w.heap.size + 1,3,none⟩ = some (.int .i64 b.y1) ∧
    W.cell? ⟨w.heap.size + 1 + 1,0,none⟩ = some (.int .i64 r.x0) ∧ W.cell? ⟨w.heap.size + 1 + 1,1,none⟩ = some (.int .i64 r.y0) ∧ W.cell? ⟨w.heap.size + 1 + 1,2,none⟩ = some (.int .i64 r.x1) ∧ W.cell? ⟨w.heap.size + 1 + 1,3,none⟩ = some (.int .i64 r.y1) ∧
    W.frozen? ⟨w.heap.size + 1 + 1,0,none⟩ = false ∧ W.frozen? ⟨w.heap.size + 1 + 1,1,none⟩ = false ∧ W.frozen? ⟨w.heap.size + 1 + 1,2,none⟩ = false ∧ W.frozen? ⟨w.heap.size + 1 + 1,3,none⟩ = false :=
  ⟨h.1.cell 0 rfl,h.1.cell 1 rfl,h.1.cell 2 rfl,h.1.cell 3 rfl,h.2.1.cell 0 rfl,h.2.1.cell 1 rfl,h.2.1.cell 2 rfl,h.2.1.cell 3 rfl,h.2.2.1.cell 0 rfl,h.2.2.1.cell 1 rfl,h.2.2.1.cell 2 rfl,h.2.2.1.cell 3 rfl,h.2.2.1.frozen 0,h.2.2.1.frozen 1,h.2.2.1.frozen 2,h.2.2.1.frozen 3⟩
theorem J3.set4 {w W : World} {a b r : Rc} (h : J3 w W a b r) (u0 u1 u2 u3 : Value) : Below w.heap.size w ((((W.setCell ⟨w.heap.size + 1 + 1,0,none⟩ u0).setCell ⟨w.heap.size + 1 + 1,1,none⟩ u1).setCell ⟨w.heap.size + 1 + 1,2,none⟩ u2).setCell ⟨w.heap.size + 1 + 1,3,none⟩ u3) :=
  (((h.2.2.2.setCell (by simp; omega) _).setCell (by simp; omega) _).setCell (by simp; omega) _).setCell (by simp; omega) _
theorem set4_box {W : World} {g : Nat} {r : Rc} (h : Box W g (cl4 r)) (x0 y0 x1 y1 : Int) : Box ((((W.setCell ⟨g,0,none⟩ (.int .i64 x0)).setCell ⟨g,1,none⟩ (.int .i64 y0)).setCell ⟨g,2,none⟩ (.int .i64 x1)).setCell ⟨g,3,none⟩ (.int .i64 y1)) g (cl4 ⟨x0,y0,x1,y1⟩) :=
  (((h.self 0 _).self 1 _).self 2 _).self 3 _
theorem ret_rect {fn : Func} {p : Tmp} (h : fn.results = #[.cell p 26]) {a : Act} {W : World} {g : Nat} {r : Rc} {R : Ending → World → Prop} (hp : a.tmps.getD p undef = .pointer (some ⟨g,0,none⟩)) (hx : Box W g (cl4 r)) (hd : a.defers = []) (hR : R (.returned (rv r)) W) : bodyPost Tryz.prog fn R .ret a W := by
  obtain ⟨t,ht⟩ := hx
  exact bodyPost_ret_by (results_cell_row h a.tmps W g t _ (0,0) _ hp ht Tryz.underlying25 rfl (by kernel_rfl)) hd hR
theorem joinR_tt {a b : Rc} (ha : a.emp = true) (hb : b.emp = true) : joinR a b = Rc.zero := by unfold joinR; rw [if_pos ha,if_pos hb]
theorem joinR_tf {a b : Rc} (ha : a.emp = true) (hb : b.emp = false) : joinR a b = b := by unfold joinR; rw [if_pos ha,hb]; rfl
theorem joinR_ft {a b : Rc} (ha : a.emp = false) (hb : b.emp = true) : joinR a b = a := by unfold joinR; rw [ha,hb]; rfl
theorem joinR_ff {a b : Rc} (ha : a.emp = false) (hb : b.emp = false) : joinR a b = ⟨min a.x0 b.x0,min a.y0 b.y0,max a.x1 b.x1,max a.y1 b.y1⟩ := by unfold joinR; rw [ha,hb]; rfl
set_option maxHeartbeats 3200000 in
theorem join_c (a b : Rc) (w : World) : Calls Tryz.prog 29 #[rv a,rv b] w (PPost w (rv (joinR a b))) := by
  obtain ⟨x0,y0,x1,y1⟩ := a
  obtain ⟨x2,y2,x3,y3⟩ := b
  have J0 : Hid (J3 w (((w.alloc (.cells (cs4 x0 y0 x1 y1) 26)).alloc (.cells (cs4 x2 y2 x3 y3) 26)).alloc (.cells (cs4 0 0 0 0) 26)) ⟨x0,y0,x1,y1⟩ ⟨x2,y2,x3,y3⟩ ⟨0,0,0,0⟩) := J3.new w ⟨x0,y0,x1,y1⟩ ⟨x2,y2,x3,y3⟩ ⟨0,0,0,0⟩ 26
  go_enter Tryz.func29,Tryz.ntmps29
  go_wp2_with fail
  generalize (((w.alloc (.cells (cs4 x0 y0 x1 y1) 26)).alloc (.cells (cs4 x2 y2 x3 y3) 26)).alloc (.cells (cs4 0 0 0 0) 26)) = W0 at *
  refine (empty_c x0 y0 x1 y1 W0).mono ?_; rintro e W1 ⟨rfl,hb1⟩
  have J1 : Hid (J3 w W1 ⟨x0,y0,x1,y1⟩ ⟨x2,y2,x3,y3⟩ ⟨0,0,0,0⟩) := J0.out.call hb1
  clear hb1 J0
  obtain ⟨a0,a1,a2,a3,b0,b1,b2,b3,r0,r1,r2,r3,f0,f1,f2,f3⟩ := J1.out.cells
  cases ha : Rc.emp ⟨x0,y0,x1,y1⟩ with
  | true =>
    go_wp2_with fail
    refine (empty_c x2 y2 x3 y3 W1).mono ?_; rintro e W2 ⟨rfl,hb2⟩
    have J2 : Hid (J3 w W2 ⟨x0,y0,x1,y1⟩ ⟨x2,y2,x3,y3⟩ ⟨0,0,0,0⟩) := J1.out.call hb2
    clear hb2 a0 a1 a2 a3 b0 b1 b2 b3 r0 r1 r2 r3 f0 f1 f2 f3
    obtain ⟨a0,a1,a2,a3,b0,b1,b2,b3,r0,r1,r2,r3,f0,f1,f2,f3⟩ := J2.out.cells
    cases hb : Rc.emp ⟨x2,y2,x3,y3⟩ with
    | true =>
      have HJ : Hid (joinR ⟨x0,y0,x1,y1⟩ ⟨x2,y2,x3,y3⟩ = ⟨0,0,0,0⟩) := joinR_tt ha hb
      clear ha hb
      go_wp2_with fail
      exact ret_rect rfl rfl (set4_box J2.out.2.2.1 _ _ _ _) rfl ⟨by rw [HJ.out],J2.out.set4 _ _ _ _⟩
    | false =>
      have HJ : Hid (joinR ⟨x0,y0,x1,y1⟩ ⟨x2,y2,x3,y3⟩ = ⟨x2,y2,x3,y3⟩) := joinR_tf ha hb
      clear hb
      go_wp2_with fail
      refine (empty_c x0 y0 x1 y1 W2).mono ?_; rintro e W3 ⟨rfl,hb3⟩
      have J3 : Hid (J3 w W3 ⟨x0,y0,x1,y1⟩ ⟨x2,y2,x3,y3⟩ ⟨0,0,0,0⟩) := J2.out.call hb3
      clear hb3 a0 a1 a2 a3 b0 b1 b2 b3 r0 r1 r2 r3 f0 f1 f2 f3
      obtain ⟨a0,a1,a2,a3,b0,b1,b2,b3,r0,r1,r2,r3,f0,f1,f2,f3⟩ := J3.out.cells
      rw [ha]
      clear ha
      go_wp2_with fail
      exact ret_rect rfl rfl (set4_box J3.out.2.2.1 _ _ _ _) rfl ⟨by rw [HJ.out],J3.out.set4 _ _ _ _⟩
  | false =>
    go_wp2_with fail
    refine (empty_c x0 y0 x1 y1 W1).mono ?_; rintro e W2 ⟨rfl,hb2⟩
    have J2 : Hid (J3 w W2 ⟨x0,y0,x1,y1⟩ ⟨x2,y2,x3,y3⟩ ⟨0,0,0,0⟩) := J1.out.call hb2
    clear hb2 a0 a1 a2 a3 b0 b1 b2 b3 r0 r1 r2 r3 f0 f1 f2 f3
    obtain ⟨a0,a1,a2,a3,b0,b1,b2,b3,r0,r1,r2,r3,f0,f1,f2,f3⟩ := J2.out.cells
    have HA : Hid (Rc.emp ⟨x0,y0,x1,y1⟩ = false) := ha
    rw [ha]
    clear ha
    go_wp2_with fail
    refine (empty_c x2 y2 x3 y3 W2).mono ?_; rintro e W3 ⟨rfl,hb3⟩
    have J3 : Hid (J3 w W3 ⟨x0,y0,x1,y1⟩ ⟨x2,y2,x3,y3⟩ ⟨0,0,0,0⟩) := J2.out.call hb3
    clear hb3 a0 a1 a2 a3 b0 b1 b2 b3 r0 r1 r2 r3 f0 f1 f2 f3
    obtain ⟨a0,a1,a2,a3,b0,b1,b2,b3,r0,r1,r2,r3,f0,f1,f2,f3⟩ := J3.out.cells
    cases hb : Rc.emp ⟨x2,y2,x3,y3⟩ with
    | true =>
      have HJ : Hid (joinR ⟨x0,y0,x1,y1⟩ ⟨x2,y2,x3,y3⟩ = ⟨x0,y0,x1,y1⟩) := joinR_ft HA.out hb
      clear hb
      go_wp2_with fail
      exact ret_rect rfl rfl (set4_box J3.out.2.2.1 _ _ _ _) rfl ⟨by rw [HJ.out],J3.out.set4 _ _ _ _⟩
    | false =>
      have HJ : Hid (joinR ⟨x0,y0,x1,y1⟩ ⟨x2,y2,x3,y3⟩ = ⟨min x0 x2,min y0 y2,max x1 x3,max y1 y3⟩) := joinR_ff HA.out hb
      clear hb
      go_wp2_with fail
      exact ret_rect rfl rfl (set4_box J3.out.2.2.1 _ _ _ _) rfl ⟨by rw [HJ.out],J3.out.set4 _ _ _ _⟩
/-! ### Meet -/
def boxR (r : Rc) : Rc := if r.emp then Rc.zero else r
def meetR (a b : Rc) : Rc := boxR ⟨max a.x0 b.x0,max a.y0 b.y0,min a.x1 b.x1,min a.y1 b.y1⟩
set_option maxHeartbeats 3200000 in
theorem meet_c (a b : Rc) (w : World) : Calls Tryz.prog 85 #[rv a,rv b] w (PPost w (rv (meetR a b))) := by
  obtain ⟨x0,y0,x1,y1⟩ := a
  obtain ⟨x2,y2,x3,y3⟩ := b
  have J0 : Hid (J3 w (((w.alloc (.cells (cs4 x0 y0 x1 y1) 26)).alloc (.cells (cs4 x2 y2 x3 y3) 26)).alloc (.cells (cs4 0 0 0 0) 26)) ⟨x0,y0,x1,y1⟩ ⟨x2,y2,x3,y3⟩ ⟨0,0,0,0⟩) := J3.new w ⟨x0,y0,x1,y1⟩ ⟨x2,y2,x3,y3⟩ ⟨0,0,0,0⟩ 26
  go_enter Tryz.func85,Tryz.ntmps85
  go_wp2_with fail
  have HB : Hid (Below w.heap.size w (((w.alloc (.cells (cs4 x0 y0 x1 y1) 26)).alloc (.cells (cs4 x2 y2 x3 y3) 26)).alloc (.cells (cs4 0 0 0 0) 26)) ∧ (((w.alloc (.cells (cs4 x0 y0 x1 y1) 26)).alloc (.cells (cs4 x2 y2 x3 y3) 26)).alloc (.cells (cs4 0 0 0 0) 26)).heap.size = w.heap.size + 1 + 1 + 1) := ⟨J0.out.2.2.2,by simp⟩
  generalize (((w.alloc (.cells (cs4 x0 y0 x1 y1) 26)).alloc (.cells (cs4 x2 y2 x3 y3) 26)).alloc (.cells (cs4 0 0 0 0) 26)) = W0 at *
  have Y := Box.new W0 (cl4 ⟨max x0 x2,max y0 y2,min x1 x3,min y1 y3⟩) 26
  rw [HB.out.2] at Y
  have J1 : Hid (J3 w (W0.alloc (.cells (cs4 (max x0 x2) (max y0 y2) (min x1 x3) (min y1 y3)) 26)) ⟨x0,y0,x1,y1⟩ ⟨x2,y2,x3,y3⟩ ⟨0,0,0,0⟩ ∧ Box (W0.alloc (.cells (cs4 (max x0 x2) (max y0 y2) (min x1 x3) (min y1 y3)) 26)) (w.heap.size + 1 + 1 + 1) (cl4 ⟨max x0 x2,max y0 y2,min x1 x3,min y1 y3⟩)) := ⟨J0.out.call (below_new _ _),Y⟩
  clear Y J0 HB
  generalize W0.alloc (.cells (cs4 (max x0 x2) (max y0 y2) (min x1 x3) (min y1 y3)) 26) = W1 at *
  refine (empty_c _ _ _ _ W1).mono ?_; rintro e W2 ⟨rfl,hb2⟩
  have J2 : Hid (J3 w W2 ⟨x0,y0,x1,y1⟩ ⟨x2,y2,x3,y3⟩ ⟨0,0,0,0⟩ ∧ Box W2 (w.heap.size + 1 + 1 + 1) (cl4 ⟨max x0 x2,max y0 y2,min x1 x3,min y1 y3⟩)) := ⟨J1.out.1.call hb2,J1.out.2.call hb2⟩
  clear hb2 J1
  obtain ⟨a0,a1,a2,a3,b0,b1,b2,b3,r0,r1,r2,r3,f0,f1,f2,f3⟩ := J2.out.1.cells
  have m0 := J2.out.2.cell 0 rfl
  have m1 := J2.out.2.cell 1 rfl
  have m2 := J2.out.2.cell 2 rfl
  have m3 := J2.out.2.cell 3 rfl
  cases ha : Rc.emp ⟨max x0 x2,max y0 y2,min x1 x3,min y1 y3⟩ with
  | true =>
    have HJ : Hid (meetR ⟨x0,y0,x1,y1⟩ ⟨x2,y2,x3,y3⟩ = ⟨0,0,0,0⟩) := by
      have : meetR ⟨x0,y0,x1,y1⟩ ⟨x2,y2,x3,y3⟩ = ⟨0,0,0,0⟩ := by unfold meetR boxR; rw [ha]; rfl
      exact this
    clear ha
    go_wp2_with fail
    exact ret_rect rfl rfl (set4_box J2.out.1.2.2.1 _ _ _ _) rfl ⟨by rw [HJ.out],J2.out.1.set4 _ _ _ _⟩
  | false =>
    have HJ : Hid (meetR ⟨x0,y0,x1,y1⟩ ⟨x2,y2,x3,y3⟩ = ⟨max x0 x2,max y0 y2,min x1 x3,min y1 y3⟩) := by
      have : meetR ⟨x0,y0,x1,y1⟩ ⟨x2,y2,x3,y3⟩ = ⟨max x0 x2,max y0 y2,min x1 x3,min y1 y3⟩ := by unfold meetR boxR; rw [ha]; rfl
      exact this
    clear ha
    go_wp2_with fail
    exact ret_rect rfl rfl (set4_box J2.out.1.2.2.1 _ _ _ _) rfl ⟨by rw [HJ.out],J2.out.1.set4 _ _ _ _⟩
/-! ### Within -/
def wiR (a b : Rc) : Bool := a.emp || (decide (b.x0 ≤ a.x0) && decide (b.y0 ≤ a.y0) && decide (a.x1 ≤ b.x1) && decide (a.y1 ≤ b.y1))
theorem J2new (w : World) (a b : Rc) (t : TypeId) : Box ((w.alloc (.cells (cl4 a).toArray t)).alloc (.cells (cl4 b).toArray t)) w.heap.size (cl4 a) ∧ Box ((w.alloc (.cells (cl4 a).toArray t)).alloc (.cells (cl4 b).toArray t)) (w.heap.size + 1) (cl4 b) ∧ Below w.heap.size w ((w.alloc (.cells (cl4 a).toArray t)).alloc (.cells (cl4 b).toArray t)) := by
  have h1 := Box.new (w.alloc (.cells (cl4 a).toArray t)) (cl4 b) t
  rw [size_alloc] at h1
  exact ⟨(Box.new w (cl4 a) t).alloc _,h1,(below_new w _).alloc (by rw [size_alloc]; omega) _⟩
set_option maxHeartbeats 3200000 in
theorem within_c (a b : Rc) (w : World) : Calls Tryz.prog 39 #[rv a,rv b] w (PPost w (.bool (wiR a b))) := by
  obtain ⟨x0,y0,x1,y1⟩ := a
  obtain ⟨x2,y2,x3,y3⟩ := b
  have J0 : Hid (Box ((w.alloc (.cells (cs4 x0 y0 x1 y1) 26)).alloc (.cells (cs4 x2 y2 x3 y3) 26)) w.heap.size (cl4 ⟨x0,y0,x1,y1⟩) ∧ Box ((w.alloc (.cells (cs4 x0 y0 x1 y1) 26)).alloc (.cells (cs4 x2 y2 x3 y3) 26)) (w.heap.size + 1) (cl4 ⟨x2,y2,x3,y3⟩) ∧ Below w.heap.size w ((w.alloc (.cells (cs4 x0 y0 x1 y1) 26)).alloc (.cells (cs4 x2 y2 x3 y3) 26))) := J2new w ⟨x0,y0,x1,y1⟩ ⟨x2,y2,x3,y3⟩ 26
  go_enter Tryz.func39,Tryz.ntmps39
  go_wp2_with fail
  generalize ((w.alloc (.cells (cs4 x0 y0 x1 y1) 26)).alloc (.cells (cs4 x2 y2 x3 y3) 26)) = W0 at *
  refine (empty_c x0 y0 x1 y1 W0).mono ?_; rintro e W1 ⟨rfl,hb1⟩
  have J1 : Hid (Box W1 w.heap.size (cl4 ⟨x0,y0,x1,y1⟩) ∧ Box W1 (w.heap.size + 1) (cl4 ⟨x2,y2,x3,y3⟩) ∧ Below w.heap.size w W1) := ⟨J0.out.1.call hb1,J0.out.2.1.call hb1,J0.out.2.2.trans (hb1.mono J0.out.2.2.size)⟩
  clear hb1 J0
  have a0 := J1.out.1.cell 0 rfl
  have a1 := J1.out.1.cell 1 rfl
  have a2 := J1.out.1.cell 2 rfl
  have a3 := J1.out.1.cell 3 rfl
  have b0 := J1.out.2.1.cell 0 rfl
  have b1 := J1.out.2.1.cell 1 rfl
  have b2 := J1.out.2.1.cell 2 rfl
  have b3 := J1.out.2.1.cell 3 rfl
  cases ha : Rc.emp ⟨x0,y0,x1,y1⟩ with
  | true =>
    have HJ : Hid (wiR ⟨x0,y0,x1,y1⟩ ⟨x2,y2,x3,y3⟩ = true) := by
      have : wiR ⟨x0,y0,x1,y1⟩ ⟨x2,y2,x3,y3⟩ = true := by unfold wiR; rw [ha]; rfl
      exact this
    clear ha
    go_wp2_with fail
    go_ret
    exact ⟨ret_b HJ.out.symm,J1.out.2.2⟩
  | false =>
    have HJ : Hid (wiR ⟨x0,y0,x1,y1⟩ ⟨x2,y2,x3,y3⟩ = (decide (x2 ≤ x0) && decide (y2 ≤ y0) && decide (x1 ≤ x3) && decide (y1 ≤ y3))) := by
      have : wiR ⟨x0,y0,x1,y1⟩ ⟨x2,y2,x3,y3⟩ = (decide (x2 ≤ x0) && decide (y2 ≤ y0) && decide (x1 ≤ x3) && decide (y1 ≤ y3)) := by unfold wiR; rw [ha]; rfl
      exact this
    clear ha
    obtain ⟨d0,hd0⟩ : ∃ d,decide (x2 ≤ x0) = d := ⟨_,rfl⟩
    obtain ⟨d1,hd1⟩ : ∃ d,decide (y2 ≤ y0) = d := ⟨_,rfl⟩
    obtain ⟨d2,hd2⟩ : ∃ d,decide (x1 ≤ x3) = d := ⟨_,rfl⟩
    obtain ⟨d3,hd3⟩ : ∃ d,decide (y1 ≤ y3) = d := ⟨_,rfl⟩
    rw [hd0,hd1,hd2,hd3] at HJ
    cases d0 with
    | false =>
      go_wp2_with fail
      go_ret
      exact ⟨ret_b HJ.out.symm,J1.out.2.2⟩
    | true =>
      cases d1 with
      | false =>
        go_wp2_with fail
        go_ret
        exact ⟨ret_b HJ.out.symm,J1.out.2.2⟩
      | true =>
        cases d2 with
        | false =>
          go_wp2_with fail
          go_ret
          exact ⟨ret_b HJ.out.symm,J1.out.2.2⟩
        | true =>
          go_wp2_with fail
          go_ret
          exact ⟨ret_b HJ.out.symm,J1.out.2.2⟩
end Go.Proofs.YtaoamkbcegadcaaGreatDoor
/- A region that draws its order, whose operations read and whose callees turn nothing that was there, but for the last one, which waits for all the others: one walk, in the order of the text; the last one at its end. Plain: no program. -/
namespace Go.Bx
open Go.RowKit
set_option linter.unusedVariables false

theorem fr_congr2 {L L' : Nat → Bool} {vs vs' : Nat → Value} : ∀ (l : List Oper) (k : Nat) (a : Act),(∀ j,k ≤ j → L j = L' j ∧ (L j = true → vs j = vs' j)) → fr L vs l k a = fr L' vs' l k a
  | [],_,_,_ => rfl
  | o :: l,k,a,h => by
    have h0 := h k (Nat.le_refl _)
    have e : (if L k = true then a.put o.dst (vs k) else a) = (if L' k = true then a.put o.dst (vs' k) else a) := by
      rw [← h0.1]
      by_cases hl : L k = true
      · rw [if_pos hl,if_pos hl,h0.2 hl]
      · rw [if_neg hl,if_neg hl]
    simp only [fr]
    rw [e]
    exact fr_congr2 l (k + 1) _ fun j hj => h j (by omega)
theorem put_at2 {a a' : Act} {t : Tmp} (h : a.tmps[t]? = a'.tmps[t]?) (d : Option Tmp) (v v' : Value) (hv : d = some t → v = v') : (a.put d v).tmps[t]? = (a'.put d v').tmps[t]? := by
  by_cases e : d = some t
  · rw [hv e]; exact put_at h d v'
  · rw [put_off _ _ e,put_off _ _ e]; exact h
theorem fr_at2 {L L' : Nat → Bool} {vs vs' : Nat → Value} {t : Tmp} : ∀ (l : List Oper) (k : Nat) (a a' : Act),a.tmps[t]? = a'.tmps[t]? → (∀ j o,l[j]? = some o → o.dst = some t → L (k + j) = L' (k + j) ∧ vs (k + j) = vs' (k + j)) → (fr L vs l k a).tmps[t]? = (fr L' vs' l k a').tmps[t]?
  | [],_,_,_,h,_ => h
  | o :: l,k,a,a',h,hd => by
    simp only [fr]
    refine fr_at2 l (k + 1) _ _ ?_ fun j o' hj ho' => by
      have := hd (j + 1) o' (by simpa using hj) ho'
      rw [show k + (j + 1) = k + 1 + j by omega] at this
      exact this
    by_cases e : o.dst = some t
    · have h2 := hd 0 o rfl e
      rw [Nat.add_zero] at h2
      rw [h2.1]
      split
      · exact put_at2 h _ _ _ fun _ => h2.2
      · exact h
    · split <;> split
      · rw [put_off _ _ e,put_off _ _ e]; exact h
      · rw [put_off _ _ e]; exact h
      · rw [put_off _ _ e]; exact h
      · exact h
section
variable {P : Program} {Q : Exit → Act → World → Prop} {a0 : Act} {w0 : World} {l : List Oper} {C : World → Prop}
theorem quiet_vals {R : Act → Prop} (hdst : ∀ (i j : Nat) (oi oj : Oper),l[i]? = some oi → l[j]? = some oj → i ≠ j → ∀ t,oi.dst = some t → oj.dst ≠ some t) : ∀ (m : List Oper) (i : Nat) (vs0 : Nat → Value),(∀ j,j < m.length → m[j]? = l[i + j]?) →
    wpQuiet P l.toArray C R m (fr (fun q => decide (q < i)) vs0 l 0 a0) →
    ∃ vs,(∀ j,j < i → vs j = vs0 j) ∧ (∀ j,i ≤ j → j < i + m.length → ∀ o,l[j]? = some o → YieldsIn P l.toArray C o (vs j) (fr (fun q => decide (q < j)) vs l 0 a0)) ∧ R (fr (fun q => decide (q < i + m.length)) vs l 0 a0)
  | [],i,vs0,_,h => ⟨vs0,fun _ _ => rfl,fun j h1 h2 => by simp at h2; omega,by simpa [wpQuiet] using h⟩
  | o :: m,i,vs0,hm,h => by
    have ho : l[i]? = some o := by have := hm 0 (by simp); simpa using this.symm
    have hq : qOp P l.toArray C i (wpQuiet P l.toArray C R m) (fr (fun q => decide (q < i)) vs0 l 0 a0) := by
      unfold qOp
      simp only [List.getElem?_toArray,ho]
      exact h
    obtain ⟨v,hy,hrest⟩ := yieldsIn_of_qOp (by simpa using ho) hq
    have hput : (fr (fun q => decide (q < i)) vs0 l 0 a0).put o.dst v = fr (fun q => decide (q < i + 1)) (upd vs0 i v) l 0 a0 := by
      have h1 := fr_step (L := fun q => decide (q < i)) (vs := vs0) (v := v) l 0 i a0 o ho (by simp) fun j o' hj hne t ht => hdst i j o o' ho hj (fun e => hne e.symm) t ht
      rw [← h1,Nat.zero_add]
      refine fr_congr2 l 0 a0 fun j _ => ⟨?_,fun _ => rfl⟩
      unfold upd
      by_cases e : j = i
      · subst e; simp
      · simp only [e,if_false]
        exact decide_eq_decide.2 (by omega)
    rw [hput] at hrest
    obtain ⟨vs,h1,h2,h3⟩ := quiet_vals hdst m (i + 1) (upd vs0 i v) (fun j hj => by have := hm (j + 1) (by simpa using hj); simp at this; rw [this]; congr 1; omega) hrest
    have hvi : vs i = v := by rw [h1 i (by omega)]; simp [upd]
    have hold : ∀ j,j < i → vs j = vs0 j := fun j hj => by rw [h1 j (by omega)]; simp [upd,show j ≠ i by omega]
    refine ⟨vs,hold,fun j hij hj o' ho' => ?_,?_⟩
    · by_cases e : j = i
      · subst e
        rw [ho] at ho'
        cases ho'
        rw [hvi,fr_congr2 (L' := fun q => decide (q < j)) (vs' := vs0) l 0 a0 fun q _ => ⟨rfl,fun hq => hold q (of_decide_eq_true hq)⟩]
        exact hy
      · exact h2 j (by omega) (by simp at hj; omega) o' ho'
    · rw [List.length_cons,show i + (m.length + 1) = i + 1 + m.length by omega]
      exact h3
theorem wp_region_kept_last {id : Nat} (n k : Nat) (last : Oper) (hl : l[k]? = some last) (hlen : l.length = k + 1) (hm : P.follows .mixedOrders = true) (hB : monoB l = true)
    (h : wpQuiet P l.toArray (fun w' => ∃ s : Kept n w0,w' = s.w) (fun a' => ∀ s : Kept n w0,Shut (stepsTo P l.toArray last a' s.w (fun v w' => Q .normal (a'.put last.dst v) w'))) (l.take k) a0) : (Code.region id l.toArray true).wp P Q a0 w0 := by
  have hB' := hB
  unfold monoB at hB'
  rw [Bool.and_eq_true,List.all_eq_true] at hB'
  have hB1 : ∀ i oi,l[i]? = some oi → _ := fun i oi hi => by
    have := hB'.2 i (List.mem_range.2 (List.getElem?_eq_some_iff.1 hi).1)
    simp only [hi,Bool.and_eq_true] at this
    exact this
  have hd2 : ∀ i j oi oj d,l[i]? = some oi → l[j]? = some oj → oj.dst = some d → (i = j ∨ oi.dst ≠ some d) ∧ (d ∈ oi.looksAt l.toArray → depB oi j = true) := fun i j oi oj d hi hj hd => by
    have := (hB1 i oi hi).2
    rw [List.all_eq_true] at this
    have := this j (List.mem_range.2 (List.getElem?_eq_some_iff.1 hj).1)
    simp only [hj,hd,Bool.and_eq_true,Bool.or_eq_true,beq_iff_eq,bne_iff_ne,ne_eq] at this
    refine ⟨this.1,fun hm => ?_⟩
    rcases this.2 with h | h
    · rw [Bool.not_eq_true'] at h
      have hc : (oi.looksAt l.toArray).contains d = true := by simpa using hm
      rw [hc] at h
      cases h
    · exact h
  have hacyc : ∀ i oi,l[i]? = some oi → ∀ j,depB oi j = true → j < i := fun i oi hi j hj => by
    have h1 := (hB1 i oi hi).1.1
    rw [Array.all_eq_true'] at h1
    unfold depB at hj
    rw [Array.any_eq_true'] at hj
    obtain ⟨e,he,hb⟩ := hj
    simp only [Bool.and_eq_true,beq_iff_eq] at hb
    have := h1 e he
    simp [hb.1] at this
    omega
  have hsel : ∀ (j : Nat) (o : Oper) cs b,l[j]? = some o → o.op ≠ .select cs b := fun j o cs b ho => Region.noSelect_spec hB'.1 j o cs b (by simpa using ho)
  have hfr : a0 = fr (fun q => decide (q < 0)) (fun _ => undef) l 0 a0 := by
    have hgen : ∀ (l' : List Oper) (k : Nat) (a : Act),a = fr (fun q => decide (q < 0)) (fun _ => undef) l' k a := by
      intro l'
      induction l' with
      | nil => intro _ _; rfl
      | cons o l' ih =>
        intro k a
        simp only [fr,Nat.not_lt_zero,decide_false,Bool.false_eq_true,if_false]
        exact ih (k + 1) a
    exact hgen l 0 a0
  rw [hfr] at h
  obtain ⟨vs,_,hy,hR⟩ := quiet_vals (a0 := a0) (fun i j oi oj hi hj hne t ht => by
    rcases (hd2 j i oj oi t hj hi ht).1 with h | h
    · exact absurd h.symm hne
    · exact h) (l.take k) 0 (fun _ => undef) (fun j hj => by rw [Nat.zero_add,List.getElem?_take_of_lt (by rw [List.length_take] at hj; omega)]) h
  have hk : (l.take k).length = k := by rw [List.length_take]; omega
  rw [Nat.zero_add,hk] at hR
  rw [hk] at hy
  refine wp_region_last (fun w' => ∃ s : Kept n w0,w' = s.w) (fun i v _ => v = vs i) k last hl hlen hm hB ⟨⟨w0.drew,(Below.refl _ w0).drew⟩,rfl⟩ (fun i hi o ho vs' W hC hdep => ?_) (fun vs' W hC hT => ?_)
  · have hyi := hy i (Nat.zero_le _) (by omega) o ho
    have hlooks : ∀ t ∈ o.looksAt l.toArray,(fr (fun q => decide (q < i)) vs l 0 a0).tmps[t]? = (fr (fun _ => true) vs' l 0 a0).tmps[t]? := fun t ht =>
      fr_at2 l 0 a0 a0 rfl fun j oj hj hd => by
        have hd3 := (hd2 i j o oj t ho hj hd).2 ht
        rw [Nat.zero_add]
        exact ⟨decide_eq_true (hacyc i o ho j hd3),(hdep j hd3).symm⟩
    refine steps_same o (fun cs b => hsel i o cs b ho) hlooks ?_
    unfold stepsTo
    rcases hyi with ⟨hw,hv⟩ | ⟨hw,hv⟩
    · rw [if_pos hw]
      have h1 := hv W hC
      unfold Oper.quietAt at h1
      unfold gives
      generalize (execOp (fr (fun q => decide (q < i)) vs l 0 a0).eval o).run P W = r at *
      cases r with
      | ok nx w' =>
        cases nx <;> simp only [Oper.quietUpon] at h1 ⊢
        case value u => obtain ⟨e1,e2⟩ := h1; rw [e1,e2]; exact ⟨rfl,hC,fun _ _ _ h => h⟩
        case skip => obtain ⟨e1,e2⟩ := h1; rw [e1]; exact ⟨e2.symm,hC,fun _ _ _ h => h⟩
        case enter f args =>
          obtain ⟨e1,hc⟩ := h1
          rw [e1]
          exact hc.mono fun e w'' ⟨he,hw''⟩ => ⟨_,he,rfl,hw'',fun _ _ _ h => h⟩
      | halt x w' => simp only [Oper.quietUpon] at h1
    · rw [if_neg (by rw [hw]; simp)]
      exact ⟨hv.symm,hC,fun _ _ _ h => h⟩
  · obtain ⟨s,rfl⟩ := hC
    have := hR s
    rw [fr_congr2 (L' := fun j => decide (j < k)) (vs' := vs') l 0 a0 fun q _ => ⟨rfl,fun hq => (hT q (of_decide_eq_true hq)).symm⟩] at this
    exact this
end
end Go.Bx
/- Layer 3: moved, cut, whole, Move, Grow. -/
namespace Go.Proofs.YtaoamkbcegadcaaGreatDoor
open Go.RowKit Go.Bx Go.Od Go.Hp
attribute [local go_sem ↓] Go.wp_at_zero Go.wp_at_succ
set_option linter.unusedVariables false

theorem steps_plain {P : Program} {ops : Array Oper} {o : Oper} {a : Act} {w : World} {R : Value → World → Prop} (hg : o.guard = none) (h : gives P o a.eval w R) : stepsTo P ops o a w R := by
  unfold stepsTo
  rw [if_pos (by simp [Region.wanted,hg])]
  exact h
def Pl (x : Int) : Prop := -4398046511104 ≤ x ∧ x ≤ 4398046511104
def movedR (e b : Int) : Int := if e = 4398046511104 ∨ e = -4398046511104 then e else e + b
theorem moved_c (e b : Int) (w : World) (he : Pl e) (hb : -4398046511104 ≤ b ∧ b ≤ 4398046511104) : Calls Tryz.prog 99 #[.int .i64 e,.int .i64 b] w fun x w' => x = .returned (.int .i64 (movedR e b)) ∧ w' = w := by
  unfold Pl at he
  by_cases h1 : e = 4398046511104
  · subst h1
    have HE : Hid (movedR 4398046511104 b = 4398046511104) := by
      have : movedR 4398046511104 b = 4398046511104 := if_pos (.inl rfl)
      exact this
    go_enter Tryz.func99,Tryz.ntmps99
    go_wp2_with fail
    go_ret
    exact ⟨ret_i HE.out.symm,rfl⟩
  · by_cases h2 : e = -4398046511104
    · subst h2
      have HE : Hid (movedR (-4398046511104) b = -4398046511104) := by
        have : movedR (-4398046511104) b = -4398046511104 := if_pos (.inr rfl)
        exact this
      go_enter Tryz.func99,Tryz.ntmps99
      go_wp2_with fail
      go_ret
      exact ⟨ret_i HE.out.symm,rfl⟩
    · have HE : Hid (movedR e b = e + b) := by
        have : movedR e b = e + b := if_neg (fun h => h.elim h1 h2)
        exact this
      have d1 : (e == 4398046511104) = false := beq_eq_false_iff_ne.2 h1
      have d2 : (e == -4398046511104) = false := beq_eq_false_iff_ne.2 h2
      go_enter Tryz.func99,Tryz.ntmps99
      go_wp2_with fail
      go_ret
      exact ⟨ret_i HE.out.symm,rfl⟩
def clip (x : Int) : Int := max (-4398046511104) (min x 4398046511104)
def clipR (r : Rc) : Rc := ⟨clip r.x0,clip r.y0,clip r.x1,clip r.y1⟩
def clipJ (r : Rc) (j : Nat) : Rc := ⟨if 0 < j then clip r.x0 else r.x0,if 1 < j then clip r.y0 else r.y0,if 2 < j then clip r.x1 else r.x1,if 3 < j then clip r.y1 else r.y1⟩
set_option maxHeartbeats 3200000 in
theorem cut_c (n r p : Nat) (x : Rc) (w : World) (hn : n ≤ r) (hp : p ≠ r) (hr : Box w r (cl4 x)) (hq : Box w p [.pointer (some ⟨r,0,none⟩),.pointer (some ⟨r,1,none⟩),.pointer (some ⟨r,2,none⟩),.pointer (some ⟨r,3,none⟩)]) :
    Calls Tryz.prog 106 #[.slice (some ⟨p,0,none⟩) 4 4] w fun e w' => (∃ v,e = .returned v) ∧ Box w' r (cl4 (clipR x)) ∧ (∀ b cs,b ≠ r → Box w b cs → Box w' b cs) ∧ Below n w w' := by
  have H0 : Hid (Box w r (cl4 (clipJ x 0)) ∧ (∀ b cs,b ≠ r → Box w b cs → Box w b cs) ∧ Below n w w ∧ n ≤ r) := ⟨hr,fun _ _ _ h => h,Below.refl _ _,hn⟩
  have HP : Hid (p ≠ r ∧ Box w p [.pointer (some ⟨r,0,none⟩),.pointer (some ⟨r,1,none⟩),.pointer (some ⟨r,2,none⟩),.pointer (some ⟨r,3,none⟩)]) := ⟨hp,hq⟩
  clear hr hq hn hp
  go_enter Tryz.func106,Tryz.ntmps106
  go_wp2_with fail
  go_loopw [6] (fun jv wr => ∃ j : Nat,j ≤ 4 ∧ jv = .int .i64 j ∧ Box wr r (cl4 (clipJ x j)) ∧ (∀ b cs,b ≠ r → Box w b cs → Box wr b cs) ∧ Below n w wr ∧ n ≤ r) (fun jv _ => 4 - (intOf jv).toNat)
  case atStart => exact ⟨0,by omega,rfl,H0.out⟩
  case round =>
    obtain ⟨j,hj,rfl,hr,hq,hb,hn⟩ := hrel
    clear H0
    have p0 := (hq p _ HP.out.1 HP.out.2).cell 0 rfl
    have p1 := (hq p _ HP.out.1 HP.out.2).cell 1 rfl
    have p2 := (hq p _ HP.out.1 HP.out.2).cell 2 rfl
    have p3 := (hq p _ HP.out.1 HP.out.2).cell 3 rfl
    have HB : Hid (Below n w wr ∧ n ≤ r ∧ ∀ b cs,b ≠ r → Box w b cs → Box wr b cs) := ⟨hb,hn,hq⟩
    match j,hj with
    | 0,_ =>
      have c0 : wr.cell? ⟨r,0,none⟩ = some (.int .i64 x.x0) := hr.cell 0 rfl
      have f0 := hr.frozen 0
      have HE : Hid (Box (wr.setCell ⟨r,0,none⟩ (.int .i64 (clip x.x0))) r (cl4 (clipJ x 1))) := hr.self 0 _
      clear hr hq hb hn
      go_wp2_with fail
      go_roundw
      case rel => exact ⟨1,by omega,by go_num,HE.out,(fun b cs hne h => (HB.out.2.2 b cs hne h).set (p := ⟨r,0,none⟩) hne _),HB.out.1.setCell (p := ⟨r,0,none⟩) HB.out.2.1 _,HB.out.2.1⟩
      case measure => simp [intOf]
    | 1,_ =>
      have c0 : wr.cell? ⟨r,1,none⟩ = some (.int .i64 x.y0) := hr.cell 1 rfl
      have f0 := hr.frozen 1
      have HE : Hid (Box (wr.setCell ⟨r,1,none⟩ (.int .i64 (clip x.y0))) r (cl4 (clipJ x 2))) := hr.self 1 _
      clear hr hq hb hn
      go_wp2_with fail
      go_roundw
      case rel => exact ⟨2,by omega,by go_num,HE.out,(fun b cs hne h => (HB.out.2.2 b cs hne h).set (p := ⟨r,1,none⟩) hne _),HB.out.1.setCell (p := ⟨r,1,none⟩) HB.out.2.1 _,HB.out.2.1⟩
      case measure => simp [intOf]
    | 2,_ =>
      have c0 : wr.cell? ⟨r,2,none⟩ = some (.int .i64 x.x1) := hr.cell 2 rfl
      have f0 := hr.frozen 2
      have HE : Hid (Box (wr.setCell ⟨r,2,none⟩ (.int .i64 (clip x.x1))) r (cl4 (clipJ x 3))) := hr.self 2 _
      clear hr hq hb hn
      go_wp2_with fail
      go_roundw
      case rel => exact ⟨3,by omega,by go_num,HE.out,(fun b cs hne h => (HB.out.2.2 b cs hne h).set (p := ⟨r,2,none⟩) hne _),HB.out.1.setCell (p := ⟨r,2,none⟩) HB.out.2.1 _,HB.out.2.1⟩
      case measure => simp [intOf]
    | 3,_ =>
      have c0 : wr.cell? ⟨r,3,none⟩ = some (.int .i64 x.y1) := hr.cell 3 rfl
      have f0 := hr.frozen 3
      have HE : Hid (Box (wr.setCell ⟨r,3,none⟩ (.int .i64 (clip x.y1))) r (cl4 (clipJ x 4))) := hr.self 3 _
      clear hr hq hb hn
      go_wp2_with fail
      go_roundw
      case rel => exact ⟨4,by omega,by go_num,HE.out,(fun b cs hne h => (HB.out.2.2 b cs hne h).set (p := ⟨r,3,none⟩) hne _),HB.out.1.setCell (p := ⟨r,3,none⟩) HB.out.2.1 _,HB.out.2.1⟩
      case measure => simp [intOf]
    | 4,_ =>
      have HE : Hid (Box wr r (cl4 (clipR x))) := hr
      clear hr hq hb hn
      go_wp2_with fail
      go_end0
      exact ⟨⟨_,rfl⟩,HE.out,HB.out.2.2,HB.out.1⟩
    | j + 5,hj => omega
/-! ### whole -/
def whR (r : Rc) : Rc := boxR (clipR r)
set_option maxHeartbeats 3200000 in
theorem whole_c (r : Rc) (w : World) : Calls Tryz.prog 98 #[rv r] w (PPost w (rv (whR r))) := by
  obtain ⟨x0,y0,x1,y1⟩ := r
  have J0 : Hid (Box ((w.alloc (.cells (cs4 x0 y0 x1 y1) 26)).alloc (.cells (cs4 0 0 0 0) 26)) w.heap.size (cl4 ⟨x0,y0,x1,y1⟩) ∧ Box ((w.alloc (.cells (cs4 x0 y0 x1 y1) 26)).alloc (.cells (cs4 0 0 0 0) 26)) (w.heap.size + 1) (cl4 ⟨0,0,0,0⟩) ∧ Below w.heap.size w ((w.alloc (.cells (cs4 x0 y0 x1 y1) 26)).alloc (.cells (cs4 0 0 0 0) 26))) := J2new w ⟨x0,y0,x1,y1⟩ ⟨0,0,0,0⟩ 26
  have HS : Hid (((w.alloc (.cells (cs4 x0 y0 x1 y1) 26)).alloc (.cells (cs4 0 0 0 0) 26)).heap.size = w.heap.size + 1 + 1) := by
    have : ((w.alloc (.cells (cs4 x0 y0 x1 y1) 26)).alloc (.cells (cs4 0 0 0 0) 26)).heap.size = w.heap.size + 1 + 1 := by simp
    exact this
  go_enter Tryz.func98,Tryz.ntmps98
  go_wp2_with fail
  generalize ((w.alloc (.cells (cs4 x0 y0 x1 y1) 26)).alloc (.cells (cs4 0 0 0 0) 26)) = W0 at *
  have P0 := Box.new W0 [.pointer (some ⟨w.heap.size,0,none⟩),.pointer (some ⟨w.heap.size,1,none⟩),.pointer (some ⟨w.heap.size,2,none⟩),.pointer (some ⟨w.heap.size,3,none⟩)] 150
  rw [HS.out] at P0
  have hb1 := below_new W0 (.cells #[.pointer (some ⟨w.heap.size,0,none⟩),.pointer (some ⟨w.heap.size,1,none⟩),.pointer (some ⟨w.heap.size,2,none⟩),.pointer (some ⟨w.heap.size,3,none⟩)] 150)
  have J1 : Hid (Box (W0.alloc (.cells #[.pointer (some ⟨w.heap.size,0,none⟩),.pointer (some ⟨w.heap.size,1,none⟩),.pointer (some ⟨w.heap.size,2,none⟩),.pointer (some ⟨w.heap.size,3,none⟩)] 150)) w.heap.size (cl4 ⟨x0,y0,x1,y1⟩) ∧ Box (W0.alloc (.cells #[.pointer (some ⟨w.heap.size,0,none⟩),.pointer (some ⟨w.heap.size,1,none⟩),.pointer (some ⟨w.heap.size,2,none⟩),.pointer (some ⟨w.heap.size,3,none⟩)] 150)) (w.heap.size + 1) (cl4 ⟨0,0,0,0⟩) ∧ Below w.heap.size w (W0.alloc (.cells #[.pointer (some ⟨w.heap.size,0,none⟩),.pointer (some ⟨w.heap.size,1,none⟩),.pointer (some ⟨w.heap.size,2,none⟩),.pointer (some ⟨w.heap.size,3,none⟩)] 150))) := ⟨J0.out.1.call hb1,J0.out.2.1.call hb1,J0.out.2.2.trans (hb1.mono J0.out.2.2.size)⟩
  have J2 : Hid (Box (W0.alloc (.cells #[.pointer (some ⟨w.heap.size,0,none⟩),.pointer (some ⟨w.heap.size,1,none⟩),.pointer (some ⟨w.heap.size,2,none⟩),.pointer (some ⟨w.heap.size,3,none⟩)] 150)) (w.heap.size + 1 + 1) [.pointer (some ⟨w.heap.size,0,none⟩),.pointer (some ⟨w.heap.size,1,none⟩),.pointer (some ⟨w.heap.size,2,none⟩),.pointer (some ⟨w.heap.size,3,none⟩)]) := P0
  clear P0 hb1 J0 HS
  generalize (W0.alloc (.cells #[.pointer (some ⟨w.heap.size,0,none⟩),.pointer (some ⟨w.heap.size,1,none⟩),.pointer (some ⟨w.heap.size,2,none⟩),.pointer (some ⟨w.heap.size,3,none⟩)] 150)) = W1 at *
  refine (cut_c w.heap.size w.heap.size (w.heap.size + 1 + 1) ⟨x0,y0,x1,y1⟩ W1 (Nat.le_refl _) (by omega) J1.out.1 J2.out).mono ?_; rintro e W2 ⟨⟨v,rfl⟩,hr2,hk2,hb2⟩
  have J3 : Hid (Box W2 w.heap.size (cl4 (clipR ⟨x0,y0,x1,y1⟩)) ∧ Box W2 (w.heap.size + 1) (cl4 ⟨0,0,0,0⟩) ∧ Below w.heap.size w W2) := ⟨hr2,hk2 _ _ (by omega) J1.out.2.1,J1.out.2.2.trans hb2⟩
  clear hr2 hk2 hb2 J1 J2
  have a0 : W2.cell? ⟨w.heap.size,0,none⟩ = some (.int .i64 (clip x0)) := J3.out.1.cell 0 rfl
  have a1 : W2.cell? ⟨w.heap.size,1,none⟩ = some (.int .i64 (clip y0)) := J3.out.1.cell 1 rfl
  have a2 : W2.cell? ⟨w.heap.size,2,none⟩ = some (.int .i64 (clip x1)) := J3.out.1.cell 2 rfl
  have a3 : W2.cell? ⟨w.heap.size,3,none⟩ = some (.int .i64 (clip y1)) := J3.out.1.cell 3 rfl
  have HW : Hid (whR ⟨x0,y0,x1,y1⟩ = boxR ⟨clip x0,clip y0,clip x1,clip y1⟩) := by
    have : whR ⟨x0,y0,x1,y1⟩ = boxR ⟨clip x0,clip y0,clip x1,clip y1⟩ := rfl
    exact this
  obtain ⟨z0,hz0⟩ : ∃ z,z = clip x0 := ⟨_,rfl⟩
  obtain ⟨z1,hz1⟩ : ∃ z,z = clip y0 := ⟨_,rfl⟩
  obtain ⟨z2,hz2⟩ : ∃ z,z = clip x1 := ⟨_,rfl⟩
  obtain ⟨z3,hz3⟩ : ∃ z,z = clip y1 := ⟨_,rfl⟩
  have J4 : Hid (Box W2 w.heap.size (cl4 ⟨z0,z1,z2,z3⟩) ∧ Box W2 (w.heap.size + 1) (cl4 ⟨0,0,0,0⟩) ∧ Below w.heap.size w W2) := by rw [hz0,hz1,hz2,hz3]; exact J3.out
  rw [← hz0] at a0 HW
  rw [← hz1] at a1 HW
  rw [← hz2] at a2 HW
  rw [← hz3] at a3 HW
  clear hz0 hz1 hz2 hz3 J3
  go_wp2_with fail
  refine (empty_c z0 z1 z2 z3 W2).mono ?_; rintro e W3 ⟨rfl,hb3⟩
  have J5 : Hid (Box W3 w.heap.size (cl4 ⟨z0,z1,z2,z3⟩) ∧ Box W3 (w.heap.size + 1) (cl4 ⟨0,0,0,0⟩) ∧ Below w.heap.size w W3) := ⟨J4.out.1.call hb3,J4.out.2.1.call hb3,J4.out.2.2.trans (hb3.mono J4.out.2.2.size)⟩
  clear a0 a1 a2 a3 hb3 J4
  have a0 := J5.out.1.cell 0 rfl
  have a1 := J5.out.1.cell 1 rfl
  have a2 := J5.out.1.cell 2 rfl
  have a3 := J5.out.1.cell 3 rfl
  have r0 := J5.out.2.1.cell 0 rfl
  have r1 := J5.out.2.1.cell 1 rfl
  have r2 := J5.out.2.1.cell 2 rfl
  have r3 := J5.out.2.1.cell 3 rfl
  have f0 := J5.out.2.1.frozen 0
  have f1 := J5.out.2.1.frozen 1
  have f2 := J5.out.2.1.frozen 2
  have f3 := J5.out.2.1.frozen 3
  have hB4 : ∀ u0 u1 u2 u3 : Value,Below w.heap.size w ((((W3.setCell ⟨w.heap.size + 1,0,none⟩ u0).setCell ⟨w.heap.size + 1,1,none⟩ u1).setCell ⟨w.heap.size + 1,2,none⟩ u2).setCell ⟨w.heap.size + 1,3,none⟩ u3) := fun u0 u1 u2 u3 =>
    (((J5.out.2.2.setCell (by simp) _).setCell (by simp) _).setCell (by simp) _).setCell (by simp) _
  have HB4 : Hid _ := hB4
  clear hB4
  cases he : Rc.emp ⟨z0,z1,z2,z3⟩ with
  | true =>
    have HJ : Hid (whR ⟨x0,y0,x1,y1⟩ = ⟨0,0,0,0⟩) := by
      have : whR ⟨x0,y0,x1,y1⟩ = ⟨0,0,0,0⟩ := by rw [HW.out]; unfold boxR; rw [he]; rfl
      exact this
    clear he
    go_wp2_with fail
    exact ret_rect rfl rfl (set4_box J5.out.2.1 _ _ _ _) rfl ⟨by rw [HJ.out],HB4.out _ _ _ _⟩
  | false =>
    have HJ : Hid (whR ⟨x0,y0,x1,y1⟩ = ⟨z0,z1,z2,z3⟩) := by
      have : whR ⟨x0,y0,x1,y1⟩ = ⟨z0,z1,z2,z3⟩ := by rw [HW.out]; unfold boxR; rw [he]; rfl
      exact this
    clear he
    go_wp2_with fail
    exact ret_rect rfl rfl (set4_box J5.out.2.1 _ _ _ _) rfl ⟨by rw [HJ.out],HB4.out _ _ _ _⟩
end Go.Proofs.YtaoamkbcegadcaaGreatDoor
/- Layer 3: Move, Grow. -/
namespace Go.Proofs.YtaoamkbcegadcaaGreatDoor
open Go.RowKit Go.Bx Go.Od Go.Hp
attribute [local go_sem ↓] Go.wp_at_zero Go.wp_at_succ
set_option linter.unusedVariables false

def J2 (w W : World) (a : Rc) : Prop := Box W w.heap.size (cl4 a) ∧ Box W (w.heap.size + 1) (cl4 ⟨0,0,0,0⟩) ∧ Below w.heap.size w W
theorem J2.call {w W W' : World} {a : Rc} (h : J2 w W a) (hb : Below W.heap.size W W') : J2 w W' a := ⟨h.1.call hb,h.2.1.call hb,h.2.2.trans (hb.mono h.2.2.size)⟩
theorem J2.cells {w W : World} {a : Rc} (h : J2 w W a) :
    W.cell? ⟨w.heap.size,0,none⟩ = some (.int .i64 a.x0) ∧ W.cell? ⟨w.heap.size,1,none⟩ = some (.int .i64 a.y0) ∧ W.cell? ⟨w.heap.size,2,none⟩ = some (.int .i64 a.x1) ∧ W.cell? ⟨w.heap.size,3,none⟩ = some (.int .i64 a.y1) ∧
    W.cell? ⟨w.heap.size + 1,0,none⟩ = some (.int .i64 0) ∧ W.cell? ⟨w.heap.size + 1,1,none⟩ = some (.int .i64 0) ∧ W.cell? ⟨w.heap.size + 1,2,none⟩ = some (.int .i64 0) ∧ W.cell? ⟨w.heap.size + 1,3,none⟩ = some (.int .i64 0) ∧
    W.frozen? ⟨w.heap.size + 1,0,none⟩ = false ∧ W.frozen? ⟨w.heap.size + 1,1,none⟩ = false ∧ W.frozen? ⟨w.heap.size + 1,2,none⟩ = false ∧ W.frozen? ⟨w.heap.size + 1,3,none⟩ = false :=
  ⟨h.1.cell 0 rfl,h.1.cell 1 rfl,h.1.cell 2 rfl,h.1.cell 3 rfl,h.2.1.cell 0 rfl,h.2.1.cell 1 rfl,h.2.1.cell 2 rfl,h.2.1.cell 3 rfl,h.2.1.frozen 0,h.2.1.frozen 1,h.2.1.frozen 2,h.2.1.frozen 3⟩
theorem J2.set4 {w W : World} {a : Rc} (h : J2 w W a) (u0 u1 u2 u3 : Value) : Below w.heap.size w ((((W.setCell ⟨w.heap.size + 1,0,none⟩ u0).setCell ⟨w.heap.size + 1,1,none⟩ u1).setCell ⟨w.heap.size + 1,2,none⟩ u2).setCell ⟨w.heap.size + 1,3,none⟩ u3) :=
  (((h.2.2.setCell (by simp) _).setCell (by simp) _).setCell (by simp) _).setCell (by simp) _
theorem moved_p {e b : Int} (w : World) (he : Pl e) (hb : -4398046511104 ≤ b ∧ b ≤ 4398046511104) : Calls Tryz.prog 99 #[.int .i64 e,.int .i64 b] w (PPost w (.int .i64 (movedR e b))) :=
  (moved_c e b w he hb).mono fun _ _ ⟨h1,h2⟩ => ⟨h1,h2 ▸ Below.refl _ _⟩
def RcP (r : Rc) : Prop := Pl r.x0 ∧ Pl r.y0 ∧ Pl r.x1 ∧ Pl r.y1
def moveR (r : Rc) (dx dy : Int) : Rc := if r.emp then Rc.zero else whR ⟨movedR r.x0 dx,movedR r.y0 dy,movedR r.x1 dx,movedR r.y1 dy⟩
set_option maxRecDepth 4000 in
set_option maxHeartbeats 3200000 in
theorem move_c (r : Rc) (dx dy : Int) (w : World) (hr : RcP r) (hx : -4398046511104 ≤ dx ∧ dx ≤ 4398046511104) (hy : -4398046511104 ≤ dy ∧ dy ≤ 4398046511104) :
    Calls Tryz.prog 83 #[rv r,.int .i64 dx,.int .i64 dy] w (PPost w (rv (moveR r dx dy))) := by
  obtain ⟨x0,y0,x1,y1⟩ := r
  have J0 : Hid (J2 w ((w.alloc (.cells (cs4 x0 y0 x1 y1) 26)).alloc (.cells (cs4 0 0 0 0) 26)) ⟨x0,y0,x1,y1⟩) := J2new w ⟨x0,y0,x1,y1⟩ ⟨0,0,0,0⟩ 26
  have HR : Hid (Pl x0 ∧ Pl y0 ∧ Pl x1 ∧ Pl y1 ∧ (-4398046511104 ≤ dx ∧ dx ≤ 4398046511104) ∧ (-4398046511104 ≤ dy ∧ dy ≤ 4398046511104)) := ⟨hr.1,hr.2.1,hr.2.2.1,hr.2.2.2,hx,hy⟩
  clear hr hx hy
  go_enter Tryz.func83,Tryz.ntmps83
  go_wp2_with fail
  generalize ((w.alloc (.cells (cs4 x0 y0 x1 y1) 26)).alloc (.cells (cs4 0 0 0 0) 26)) = W0 at *
  refine (empty_c x0 y0 x1 y1 W0).mono ?_; rintro e W1 ⟨rfl,hb1⟩
  have J1 : Hid (J2 w W1 ⟨x0,y0,x1,y1⟩) := J0.out.call hb1
  clear hb1 J0
  obtain ⟨a0,a1,a2,a3,r0,r1,r2,r3,f0,f1,f2,f3⟩ := J1.out.cells
  cases he : Rc.emp ⟨x0,y0,x1,y1⟩ with
  | true =>
    have HJ : Hid (moveR ⟨x0,y0,x1,y1⟩ dx dy = ⟨0,0,0,0⟩) := by
      have : moveR ⟨x0,y0,x1,y1⟩ dx dy = ⟨0,0,0,0⟩ := by unfold moveR; rw [he]; rfl
      exact this
    clear he
    go_wp2_with fail
    exact ret_rect rfl rfl (set4_box J1.out.2.1 _ _ _ _) rfl ⟨by rw [HJ.out],J1.out.set4 _ _ _ _⟩
  | false =>
    have HJ : Hid (moveR ⟨x0,y0,x1,y1⟩ dx dy = whR ⟨movedR x0 dx,movedR y0 dy,movedR x1 dx,movedR y1 dy⟩) := by
      have : moveR ⟨x0,y0,x1,y1⟩ dx dy = whR ⟨movedR x0 dx,movedR y0 dy,movedR x1 dx,movedR y1 dy⟩ := by unfold moveR; rw [he]; rfl
      exact this
    clear he
    have k0 := fun s : Kept W1.heap.size W1 => s.at a0
    have k1 := fun s : Kept W1.heap.size W1 => s.at a1
    have k2 := fun s : Kept W1.heap.size W1 => s.at a2
    have k3 := fun s : Kept W1.heap.size W1 => s.at a3
    have M0 : Hid (∀ s : Kept W1.heap.size W1,Calls Tryz.prog 99 #[.int .i64 x0,.int .i64 dx] s.w (PPost s.w (.int .i64 (movedR x0 dx)))) := fun s => moved_p s.w HR.out.1 HR.out.2.2.2.2.1
    have M1 : Hid (∀ s : Kept W1.heap.size W1,Calls Tryz.prog 99 #[.int .i64 y0,.int .i64 dy] s.w (PPost s.w (.int .i64 (movedR y0 dy)))) := fun s => moved_p s.w HR.out.2.1 HR.out.2.2.2.2.2
    have M2 : Hid (∀ s : Kept W1.heap.size W1,Calls Tryz.prog 99 #[.int .i64 x1,.int .i64 dx] s.w (PPost s.w (.int .i64 (movedR x1 dx)))) := fun s => moved_p s.w HR.out.2.2.1 HR.out.2.2.2.2.1
    have M3 : Hid (∀ s : Kept W1.heap.size W1,Calls Tryz.prog 99 #[.int .i64 y1,.int .i64 dy] s.w (PPost s.w (.int .i64 (movedR y1 dy)))) := fun s => moved_p s.w HR.out.2.2.2.1 HR.out.2.2.2.2.2
    generalize movedR x0 dx = m0 at *
    generalize movedR y0 dy = m1 at *
    generalize movedR x1 dx = m2 at *
    generalize movedR y1 dy = m3 at *
    obtain ⟨q,hq⟩ : ∃ q,q = whR ⟨m0,m1,m2,m3⟩ := ⟨_,rfl⟩
    have M4 : Hid (∀ s : Kept W1.heap.size W1,Calls Tryz.prog 98 #[.agg #[.int .i64 m0,.int .i64 m1,.int .i64 m2,.int .i64 m3]] s.w (PPost s.w (.agg #[.int .i64 q.x0,.int .i64 q.y0,.int .i64 q.x1,.int .i64 q.y1]))) := fun s => by
      rw [hq]
      exact whole_c ⟨m0,m1,m2,m3⟩ s.w
    rw [← hq] at HJ
    clear hq r0 r1 r2 r3 f0 f1 f2 f3
    go_wp2_with fail
    clear a0 a1 a2 a3
    refine wp_region_kept_last W1.heap.size 18 _ rfl rfl (by kernel_rfl) (by kernel_rfl) ?_
    simp only [List.take_succ_cons,List.take_zero]
    repeat (go_big_quiet_step (first | (go_at_call 99; with_reducible exact Calls.kept _ (Nat.le_refl _) (M0.out _)) | (go_at_call 99; with_reducible exact Calls.kept _ (Nat.le_refl _) (M1.out _)) | (go_at_call 99; with_reducible exact Calls.kept _ (Nat.le_refl _) (M2.out _)) | (go_at_call 99; with_reducible exact Calls.kept _ (Nat.le_refl _) (M3.out _)) | (go_at_call 98; with_reducible exact Calls.kept _ (Nat.le_refl _) (M4.out _))))
    refine wpQuiet_nil ?_
    intro s
    have J5 : Hid (J2 w s.w ⟨x0,y0,x1,y1⟩) := J1.out.call s.below
    obtain ⟨a0,a1,a2,a3,r0,r1,r2,r3,f0,f1,f2,f3⟩ := J5.out.cells
    refine ⟨steps_plain rfl (gives_mono (R := fun v w' => v = undef ∧ w' = (((s.w.setCell ⟨w.heap.size + 1,0,none⟩ (.int .i64 q.x0)).setCell ⟨w.heap.size + 1,1,none⟩ (.int .i64 q.y0)).setCell ⟨w.heap.size + 1,2,none⟩ (.int .i64 q.x1)).setCell ⟨w.heap.size + 1,3,none⟩ (.int .i64 q.y1)) ?_ ?_)⟩
    · simp [gives,go_sem,r0,r1,r2,r3,f0,f1,f2,f3]
    · rintro _ _ ⟨rfl,rfl⟩
      clear k0 k1 k2 k3
      go_wp2_with fail
      exact ret_rect rfl rfl (set4_box J5.out.2.1 _ _ _ _) rfl ⟨by rw [HJ.out],J5.out.set4 _ _ _ _⟩
def growR (r : Rc) (a b c d : Int) : Rc := if r.emp then Rc.zero else whR ⟨r.x0 - a,r.y0 - b,r.x1 + c,r.y1 + d⟩
set_option maxHeartbeats 3200000 in
theorem grow_c (r : Rc) (a b c d : Int) (w : World) (hr : RcP r) (ha : 0 ≤ a ∧ a ≤ 4398046511104) (hb : 0 ≤ b ∧ b ≤ 4398046511104) (hc : 0 ≤ c ∧ c ≤ 4398046511104) (hd : 0 ≤ d ∧ d ≤ 4398046511104) :
    Calls Tryz.prog 84 #[rv r,.int .i64 a,.int .i64 b,.int .i64 c,.int .i64 d] w (PPost w (rv (growR r a b c d))) := by
  obtain ⟨x0,y0,x1,y1⟩ := r
  have J0 : Hid (J2 w ((w.alloc (.cells (cs4 x0 y0 x1 y1) 26)).alloc (.cells (cs4 0 0 0 0) 26)) ⟨x0,y0,x1,y1⟩) := J2new w ⟨x0,y0,x1,y1⟩ ⟨0,0,0,0⟩ 26
  obtain ⟨p0,p1,p2,p3⟩ := hr
  unfold Pl at p0 p1 p2 p3
  dsimp only at p0 p1 p2 p3
  go_enter Tryz.func84,Tryz.ntmps84
  go_wp2_with fail
  generalize ((w.alloc (.cells (cs4 x0 y0 x1 y1) 26)).alloc (.cells (cs4 0 0 0 0) 26)) = W0 at *
  refine (empty_c x0 y0 x1 y1 W0).mono ?_; rintro e W1 ⟨rfl,hb1⟩
  have J1 : Hid (J2 w W1 ⟨x0,y0,x1,y1⟩) := J0.out.call hb1
  clear hb1 J0
  obtain ⟨a0,a1,a2,a3,r0,r1,r2,r3,f0,f1,f2,f3⟩ := J1.out.cells
  cases he : Rc.emp ⟨x0,y0,x1,y1⟩ with
  | true =>
    have HJ : Hid (growR ⟨x0,y0,x1,y1⟩ a b c d = ⟨0,0,0,0⟩) := by
      have : growR ⟨x0,y0,x1,y1⟩ a b c d = ⟨0,0,0,0⟩ := by unfold growR; rw [he]; rfl
      exact this
    clear he
    go_wp2_with fail
    exact ret_rect rfl rfl (set4_box J1.out.2.1 _ _ _ _) rfl ⟨by rw [HJ.out],J1.out.set4 _ _ _ _⟩
  | false =>
    have HJ : Hid (growR ⟨x0,y0,x1,y1⟩ a b c d = whR ⟨x0 - a,y0 - b,x1 + c,y1 + d⟩) := by
      have : growR ⟨x0,y0,x1,y1⟩ a b c d = whR ⟨x0 - a,y0 - b,x1 + c,y1 + d⟩ := by unfold growR; rw [he]; rfl
      exact this
    clear he
    go_wp2_with fail
    refine (whole_c ⟨x0 - a,y0 - b,x1 + c,y1 + d⟩ W1).mono ?_; rintro e W2 ⟨rfl,hb2⟩
    have J3 : Hid (J2 w W2 ⟨x0,y0,x1,y1⟩) := J1.out.call hb2
    obtain ⟨q,hq⟩ : ∃ q,q = whR ⟨x0 - a,y0 - b,x1 + c,y1 + d⟩ := ⟨_,rfl⟩
    rw [← hq] at HJ ⊢
    clear hq hb2 a0 a1 a2 a3 r0 r1 r2 r3 f0 f1 f2 f3 J1
    obtain ⟨a0,a1,a2,a3,r0,r1,r2,r3,f0,f1,f2,f3⟩ := J3.out.cells
    go_wp2_with fail
    exact ret_rect rfl rfl (set4_box J3.out.2.1 _ _ _ _) rfl ⟨by rw [HJ.out],J3.out.set4 _ _ _ _⟩
end Go.Proofs.YtaoamkbcegadcaaGreatDoor
/- Layer 14: need.box, need.one. -/
namespace Go.Proofs.YtaoamkbcegadcaaGreatDoor
open Go.RowKit Go.Bx Go.Od Go.Hp
attribute [local go_sem ↓] Go.wp_at_zero Go.wp_at_succ
set_option linter.unusedVariables false

def pbox (p : List Int) : Rc := ⟨p.getD 0 0,p.getD 1 0,p.getD 2 0,p.getD 3 0⟩
theorem sl_cells {F : Nat → Prop} {w : World} {v : Value} {p : List Int} (h : SlOf RInt 1 F w v p) (h0 : 0 < p.length) : ∃ b o c,v = .slice (some ⟨b,o,none⟩) p.length c ∧ F b ∧ (∀ j,j < p.length → w.cell? ⟨b,o + j,none⟩ = some (.int .i64 (p.getD j 0))) ∧ p.length ≤ c ∧ c ≤ maxLen := by
  obtain ⟨a,cap,rfl,hcap,hcm,hin,hcell⟩ := h.ints
  obtain ⟨b,o,rfl,hF,hc⟩ := hcell 0 h0
  exact ⟨b,o,cap,rfl,hF,hc,hcap,hcm⟩
set_option maxRecDepth 4000 in
set_option maxHeartbeats 3200000 in
theorem pbox_c {F : Nat → Prop} (v : Value) (p : List Int) (w : World) (h : SlOf RInt 1 F w v p) (h4 : 4 ≤ p.length) : Calls Tryz.prog 86 #[v] w (PPost w (rv (pbox p))) := by
  obtain ⟨b,o,c,rfl,hF,hc,hcap,hcm⟩ := sl_cells h (by omega)
  have c0 := hc 0 (by omega)
  have c1 := hc 1 (by omega)
  have c2 := hc 2 (by omega)
  have c3 := hc 3 (by omega)
  rw [Nat.add_zero] at c0
  obtain ⟨q0,hq0⟩ : ∃ q,q = p.getD 0 0 := ⟨_,rfl⟩
  obtain ⟨q1,hq1⟩ : ∃ q,q = p.getD 1 0 := ⟨_,rfl⟩
  obtain ⟨q2,hq2⟩ : ∃ q,q = p.getD 2 0 := ⟨_,rfl⟩
  obtain ⟨q3,hq3⟩ : ∃ q,q = p.getD 3 0 := ⟨_,rfl⟩
  have HQ : Hid (pbox p = ⟨q0,q1,q2,q3⟩) := by
    have : pbox p = ⟨q0,q1,q2,q3⟩ := by unfold pbox; rw [hq0,hq1,hq2,hq3]
    exact this
  rw [← hq0] at c0
  rw [← hq1] at c1
  rw [← hq2] at c2
  rw [← hq3] at c3
  obtain ⟨n,hn⟩ : ∃ n,n = p.length := ⟨_,rfl⟩
  rw [← hn] at h4 hcap ⊢
  have R0 := Box.new w (cl4 ⟨0,0,0,0⟩) 26
  have HB : Hid (Box (w.alloc (.cells (cs4 0 0 0 0) 26)) w.heap.size (cl4 ⟨0,0,0,0⟩) ∧ Below w.heap.size w (w.alloc (.cells (cs4 0 0 0 0) 26))) := ⟨R0,below_new _ _⟩
  have d0 := cell_alloc_lt c0 (.cells (cs4 0 0 0 0) 26)
  have d1 := cell_alloc_lt c1 (.cells (cs4 0 0 0 0) 26)
  have d2 := cell_alloc_lt c2 (.cells (cs4 0 0 0 0) 26)
  have d3 := cell_alloc_lt c3 (.cells (cs4 0 0 0 0) 26)
  unfold maxLen at hcm
  clear hq0 hq1 hq2 hq3 hn hc h c0 c1 c2 c3 R0
  go_enter Tryz.func86,Tryz.ntmps86
  go_wp2_with fail
  generalize w.alloc (.cells (cs4 0 0 0 0) 26) = W1 at *
  have k0 := fun s : Kept W1.heap.size W1 => s.at d0
  have k1 := fun s : Kept W1.heap.size W1 => s.at d1
  have k2 := fun s : Kept W1.heap.size W1 => s.at d2
  have k3 := fun s : Kept W1.heap.size W1 => s.at d3
  clear d0 d1 d2 d3
  refine wp_region_kept_last W1.heap.size 13 _ rfl rfl (by kernel_rfl) (by kernel_rfl) ?_
  simp only [List.take_succ_cons,List.take_zero]
  repeat (go_big_quiet_step (fail))
  refine wpQuiet_nil ?_
  intro s
  have J5 : Hid (Box s.w w.heap.size (cl4 ⟨0,0,0,0⟩) ∧ Below w.heap.size w s.w) := ⟨HB.out.1.call s.below,HB.out.2.trans (s.below.mono HB.out.2.size)⟩
  have r0 := J5.out.1.cell 0 rfl
  have r1 := J5.out.1.cell 1 rfl
  have r2 := J5.out.1.cell 2 rfl
  have r3 := J5.out.1.cell 3 rfl
  have f0 := J5.out.1.frozen 0
  have f1 := J5.out.1.frozen 1
  have f2 := J5.out.1.frozen 2
  have f3 := J5.out.1.frozen 3
  refine ⟨steps_plain rfl (gives_mono (R := fun v w' => v = undef ∧ w' = (((s.w.setCell ⟨w.heap.size,0,none⟩ (.int .i64 q0)).setCell ⟨w.heap.size,1,none⟩ (.int .i64 q1)).setCell ⟨w.heap.size,2,none⟩ (.int .i64 q2)).setCell ⟨w.heap.size,3,none⟩ (.int .i64 q3)) ?_ ?_)⟩
  · simp [gives,go_sem,r0,r1,r2,r3,f0,f1,f2,f3]
  · rintro _ _ ⟨rfl,rfl⟩
    clear k0 k1 k2 k3
    go_wp2_with fail
    exact ret_rect rfl rfl (set4_box J5.out.1 _ _ _ _) rfl ⟨by rw [HQ.out],(((J5.out.2.setCell (by simp) _).setCell (by simp) _).setCell (by simp) _).setCell (by simp) _⟩
def oneN (nd : Nd) (want : Rc) : Rc :=
  if nd.op = 1 then moveR want (-(nd.p.getD 0 0)) (-(nd.p.getD 1 0))
  else if nd.op = 2 ∨ nd.op = 3 ∨ nd.op = 4 then growR want (nd.p.getD 0 0) (nd.p.getD 1 0) (nd.p.getD 0 0) (nd.p.getD 1 0)
  else if nd.op = 12 then meetR want (pbox nd.p)
  else if nd.op = 10 then (if wiR want (pbox nd.p) then want else pbox nd.p)
  else if nd.op = 11 then joinR want (growR (moveR want (-(nd.p.getD 0 0)) (-(nd.p.getD 1 0))) (nd.p.getD 2 0) (nd.p.getD 3 0) (nd.p.getD 2 0) (nd.p.getD 3 0))
  else want
structure PaOk (nd : Nd) : Prop where
  mv : nd.op = 1 ∨ nd.op = 11 → 2 ≤ nd.p.length ∧ (-1048576 ≤ nd.p.getD 0 0 ∧ nd.p.getD 0 0 ≤ 1048576) ∧ (-1048576 ≤ nd.p.getD 1 0 ∧ nd.p.getD 1 0 ≤ 1048576)
  gr : nd.op = 2 ∨ nd.op = 3 ∨ nd.op = 4 → 2 ≤ nd.p.length ∧ (0 ≤ nd.p.getD 0 0 ∧ nd.p.getD 0 0 ≤ 255) ∧ (0 ≤ nd.p.getD 1 0 ∧ nd.p.getD 1 0 ≤ 255)
  bx : nd.op = 12 ∨ nd.op = 10 → 4 ≤ nd.p.length ∧ RcP (pbox nd.p)
  sh : nd.op = 11 → 4 ≤ nd.p.length ∧ (0 ≤ nd.p.getD 2 0 ∧ nd.p.getD 2 0 ≤ 255) ∧ (0 ≤ nd.p.getD 3 0 ∧ nd.p.getD 3 0 ≤ 255)
theorem clip_pl (x : Int) : Pl (clip x) := by unfold Pl clip; omega
theorem zero_pl : RcP Rc.zero := by refine ⟨?_,?_,?_,?_⟩ <;> (unfold Pl Rc.zero; dsimp only; omega)
theorem boxR_pl {r : Rc} (h : RcP r) : RcP (boxR r) := by
  unfold boxR
  split
  · exact zero_pl
  · exact h
theorem whR_pl (r : Rc) : RcP (whR r) := boxR_pl ⟨clip_pl _,clip_pl _,clip_pl _,clip_pl _⟩
theorem moveR_pl (r : Rc) (a b : Int) : RcP (moveR r a b) := by
  unfold moveR
  split
  · exact zero_pl
  · exact whR_pl _
theorem growR_pl (r : Rc) (a b c d : Int) : RcP (growR r a b c d) := by
  unfold growR
  split
  · exact zero_pl
  · exact whR_pl _
theorem joinR_pl {a b : Rc} (ha : RcP a) (hb : RcP b) : RcP (joinR a b) := by
  unfold joinR
  split
  · split
    · exact zero_pl
    · exact hb
  · split
    · exact ha
    · obtain ⟨a0,a1,a2,a3⟩ := ha
      obtain ⟨b0,b1,b2,b3⟩ := hb
      unfold Pl at *
      refine ⟨?_,?_,?_,?_⟩ <;> (unfold Pl; dsimp only; omega)
theorem meetR_pl {a b : Rc} (ha : RcP a) (hb : RcP b) : RcP (meetR a b) := by
  refine boxR_pl ?_
  obtain ⟨a0,a1,a2,a3⟩ := ha
  obtain ⟨b0,b1,b2,b3⟩ := hb
  unfold Pl at *
  refine ⟨?_,?_,?_,?_⟩ <;> (unfold Pl; dsimp only; omega)
theorem oneN_pl {nd : Nd} {r : Rc} (h : PaOk nd) (hr : RcP r) : RcP (oneN nd r) := by
  unfold oneN
  split
  · exact moveR_pl _ _ _
  · split
    · exact growR_pl _ _ _ _ _
    · split
      · exact meetR_pl hr (h.bx (.inl (by assumption))).2
      · split
        · split
          · exact hr
          · exact (h.bx (.inr (by assumption))).2
        · split
          · exact joinR_pl hr (growR_pl _ _ _ _ _)
          · exact hr
end Go.Proofs.YtaoamkbcegadcaaGreatDoor
/- Layer 14: need.one. (Printed by tools/mk_one.py.) -/
namespace Go.Proofs.YtaoamkbcegadcaaGreatDoor
open Go.RowKit Go.Bx Go.Od Go.Hp
attribute [local go_sem ↓] Go.wp_at_zero Go.wp_at_succ
set_option linter.unusedVariables false

def N3 (w W : World) (op : Int) (iv pv : Value) (a : Rc) : Prop := Box W w.heap.size [.int .i64 op,iv,pv] ∧ Box W (w.heap.size + 1) (cl4 a) ∧ Box W (w.heap.size + 2) (cl4 ⟨0,0,0,0⟩) ∧ Below w.heap.size w W
theorem N3.call {w W W' : World} {op : Int} {iv pv : Value} {a : Rc} (h : N3 w W op iv pv a) (hb : Below W.heap.size W W') : N3 w W' op iv pv a := ⟨h.1.call hb,h.2.1.call hb,h.2.2.1.call hb,h.2.2.2.trans (hb.mono h.2.2.2.size)⟩
theorem N3.new (w : World) (op : Int) (iv pv : Value) (a : Rc) (t1 t2 : TypeId) : N3 w (((w.alloc (.cells #[.int .i64 op,iv,pv] t1)).alloc (.cells (cl4 a).toArray t2)).alloc (.cells (cl4 ⟨0,0,0,0⟩).toArray t2)) op iv pv a := by
  have h0 := Box.new w [.int .i64 op,iv,pv] t1
  have h1 := Box.new (w.alloc (.cells #[.int .i64 op,iv,pv] t1)) (cl4 a) t2
  have h2 := Box.new ((w.alloc (.cells #[.int .i64 op,iv,pv] t1)).alloc (.cells (cl4 a).toArray t2)) (cl4 ⟨0,0,0,0⟩) t2
  rw [size_alloc] at h1
  rw [size_alloc,size_alloc] at h2
  exact ⟨(h0.alloc _).alloc _,h1.alloc _,h2,((below_new w _).alloc (by rw [size_alloc]; omega) _).alloc (by rw [size_alloc,size_alloc]; omega) _⟩
theorem N3.newr (w : World) (op : Int) (iv pv : Value) (a r : Rc) (t1 t2 : TypeId) : Box (((w.alloc (.cells #[.int .i64 op,iv,pv] t1)).alloc (.cells (cl4 a).toArray t2)).alloc (.cells (cl4 r).toArray t2)) (w.heap.size + 1 + 1) (cl4 r) ∧ Below w.heap.size w (((w.alloc (.cells #[.int .i64 op,iv,pv] t1)).alloc (.cells (cl4 a).toArray t2)).alloc (.cells (cl4 r).toArray t2)) := by
  have h2 := Box.new ((w.alloc (.cells #[.int .i64 op,iv,pv] t1)).alloc (.cells (cl4 a).toArray t2)) (cl4 r) t2
  rw [size_alloc,size_alloc] at h2
  exact ⟨h2,((below_new w _).alloc (by rw [size_alloc]; omega) _).alloc (by rw [size_alloc,size_alloc]; omega) _⟩
theorem N3.cells {w W : World} {op : Int} {iv pv : Value} {a : Rc} (h : N3 w W op iv pv a) :
    (W.cell? ⟨w.heap.size,0,none⟩ = some (.int .i64 op) ∧ W.cell? ⟨w.heap.size,1,none⟩ = some iv ∧ W.cell? ⟨w.heap.size,2,none⟩ = some pv) ∧
    (W.cell? ⟨w.heap.size + 1,0,none⟩ = some (.int .i64 a.x0) ∧ W.cell? ⟨w.heap.size + 1,1,none⟩ = some (.int .i64 a.y0) ∧ W.cell? ⟨w.heap.size + 1,2,none⟩ = some (.int .i64 a.x1) ∧ W.cell? ⟨w.heap.size + 1,3,none⟩ = some (.int .i64 a.y1)) ∧
    (W.cell? ⟨w.heap.size + 1 + 1,0,none⟩ = some (.int .i64 0) ∧ W.cell? ⟨w.heap.size + 1 + 1,1,none⟩ = some (.int .i64 0) ∧ W.cell? ⟨w.heap.size + 1 + 1,2,none⟩ = some (.int .i64 0) ∧ W.cell? ⟨w.heap.size + 1 + 1,3,none⟩ = some (.int .i64 0)) ∧
    (W.frozen? ⟨w.heap.size + 1 + 1,0,none⟩ = false ∧ W.frozen? ⟨w.heap.size + 1 + 1,1,none⟩ = false ∧ W.frozen? ⟨w.heap.size + 1 + 1,2,none⟩ = false ∧ W.frozen? ⟨w.heap.size + 1 + 1,3,none⟩ = false) :=
  ⟨⟨h.1.cell 0 rfl,h.1.cell 1 rfl,h.1.cell 2 rfl⟩,⟨h.2.1.cell 0 rfl,h.2.1.cell 1 rfl,h.2.1.cell 2 rfl,h.2.1.cell 3 rfl⟩,⟨h.2.2.1.cell 0 rfl,h.2.2.1.cell 1 rfl,h.2.2.1.cell 2 rfl,h.2.2.1.cell 3 rfl⟩,⟨h.2.2.1.frozen 0,h.2.2.1.frozen 1,h.2.2.1.frozen 2,h.2.2.1.frozen 3⟩⟩
theorem N3.set4 {w W : World} {op : Int} {iv pv : Value} {a : Rc} (h : N3 w W op iv pv a) (u0 u1 u2 u3 : Value) : Below w.heap.size w ((((W.setCell ⟨w.heap.size + 1 + 1,0,none⟩ u0).setCell ⟨w.heap.size + 1 + 1,1,none⟩ u1).setCell ⟨w.heap.size + 1 + 1,2,none⟩ u2).setCell ⟨w.heap.size + 1 + 1,3,none⟩ u3) :=
  (((h.2.2.2.setCell (by simp; omega) _).setCell (by simp; omega) _).setCell (by simp; omega) _).setCell (by simp; omega) _
set_option maxRecDepth 4000 in
set_option maxHeartbeats 6400000 in
theorem needone_c (op : Int) (iv pv : Value) (ins p : List Int) (want : Rc) (w : World) {F : Nat → Prop} (hF : ∀ b,F b → b < w.heap.size) (hp : SlOf RInt 1 F w pv p) (hiv : ∃ a n c,iv = .slice a n c) (hok : PaOk ⟨op,ins,p⟩) (hw : RcP want) :
    Calls Tryz.prog 71 #[.agg #[.int .i64 op,iv,pv],rv want] w (PPost w (rv (oneN ⟨op,ins,p⟩ want))) := by
  obtain ⟨ia,im,ic,rfl⟩ := hiv
  have hp' := hp
  obtain ⟨pa,pc,hpv,_,_⟩ := hp'
  subst hpv
  have HP : Hid (SlOf RInt 1 F w (.slice pa p.length pc) p ∧ (∀ b,F b → b < w.heap.size) ∧ PaOk ⟨op,ins,p⟩ ∧ RcP want) := ⟨hp,hF,hok,hw⟩
  clear hp hF hok hw
  obtain ⟨x0,y0,x1,y1⟩ := want
  have J0 : Hid (N3 w (((w.alloc (.cells #[.int .i64 op,.slice ia im ic,.slice pa p.length pc] 44)).alloc (.cells (cs4 x0 y0 x1 y1) 26)).alloc (.cells (cs4 0 0 0 0) 26)) op (.slice ia im ic) (.slice pa p.length pc) ⟨x0,y0,x1,y1⟩) := N3.new w op (.slice ia im ic) (.slice pa p.length pc) ⟨x0,y0,x1,y1⟩ 44 26
  by_cases h1 : op = 1
  · subst h1
    obtain ⟨l2,⟨b0,b1⟩,b2,b3⟩ := HP.out.2.2.1.mv (.inl rfl)
    dsimp only at l2 b0 b1 b2 b3
    go_enter Tryz.func71,Tryz.ntmps71
    go_wp2_with fail
    generalize (((w.alloc (.cells #[.int .i64 1,.slice ia im ic,.slice pa p.length pc] 44)).alloc (.cells (cs4 x0 y0 x1 y1) 26)).alloc (.cells (cs4 0 0 0 0) 26)) = W1 at *
    obtain ⟨b,o,c,hv,hFb,hc,hcap,hcm⟩ := sl_cells HP.out.1 (by omega)
    simp only [Value.slice.injEq] at hv
    obtain ⟨rfl,_,rfl⟩ := hv
    unfold maxLen at hcm
    obtain ⟨n,hn⟩ : ∃ n,n = p.length := ⟨_,rfl⟩
    have h0' := hc 0 (by omega)
    rw [Nat.add_zero] at h0'
    have c0 := (J0.out.2.2.2.cell (p := ⟨b,o,none⟩) (HP.out.2.1 b hFb)).trans h0'
    clear h0'
    obtain ⟨q0,hq0⟩ : ∃ q,q = p.getD 0 0 := ⟨_,rfl⟩
    rw [← hq0] at c0
    have h1' := hc 1 (by omega)
    have c1 := (J0.out.2.2.2.cell (p := ⟨b,o + 1,none⟩) (HP.out.2.1 b hFb)).trans h1'
    clear h1'
    obtain ⟨q1,hq1⟩ : ∃ q,q = p.getD 1 0 := ⟨_,rfl⟩
    rw [← hq1] at c1
    rw [← hq0] at b0 b1
    rw [← hq1] at b2 b3
    obtain ⟨q,hq⟩ : ∃ q,q = moveR ⟨x0,y0,x1,y1⟩ (-q0) (-q1) := ⟨_,rfl⟩
    have HJ : Hid (oneN ⟨1,ins,p⟩ ⟨x0,y0,x1,y1⟩ = q) := by
      have : oneN ⟨1,ins,p⟩ ⟨x0,y0,x1,y1⟩ = q := by rw [hq,hq0,hq1]; rfl
      exact this
    have M0 : Hid (∀ s : Kept W1.heap.size W1,Calls Tryz.prog 83 #[.agg #[.int .i64 x0,.int .i64 y0,.int .i64 x1,.int .i64 y1],.int .i64 (-q0),.int .i64 (-q1)] s.w (PPost s.w (.agg #[.int .i64 q.x0,.int .i64 q.y0,.int .i64 q.x1,.int .i64 q.y1]))) := fun s => by
      rw [hq]
      exact move_c ⟨x0,y0,x1,y1⟩ (-q0) (-q1) s.w HP.out.2.2.2 (by omega) (by omega)
    rw [← hn] at l2 hcap J0 ⊢
    obtain ⟨⟨g0,g1,g2⟩,⟨a0,a1,a2,a3⟩,_,_⟩ := J0.out.cells
    have k0 := fun s : Kept W1.heap.size W1 => s.at g0
    have k1 := fun s : Kept W1.heap.size W1 => s.at g1
    have k2 := fun s : Kept W1.heap.size W1 => s.at g2
    have k3 := fun s : Kept W1.heap.size W1 => s.at a0
    have k4 := fun s : Kept W1.heap.size W1 => s.at a1
    have k5 := fun s : Kept W1.heap.size W1 => s.at a2
    have k6 := fun s : Kept W1.heap.size W1 => s.at a3
    have k7 := fun s : Kept W1.heap.size W1 => s.at c0
    have k8 := fun s : Kept W1.heap.size W1 => s.at c1
    clear hq0 hq1 hq c0 c1 hc hn g0 g1 g2 a0 a1 a2 a3
    go_wp2_with fail
    refine wp_region_kept_last W1.heap.size 12 _ rfl rfl (by kernel_rfl) (by kernel_rfl) ?_
    simp only [List.take_succ_cons,List.take_zero]
    repeat (go_big_quiet_step (first | (go_at_call 83; with_reducible exact Calls.kept _ (Nat.le_refl _) (M0.out _))))
    refine wpQuiet_nil ?_
    intro s
    have J5 : Hid (N3 w s.w 1 (.slice ia im ic) (.slice (some ⟨b,o,none⟩) n pc) ⟨x0,y0,x1,y1⟩) := J0.out.call s.below
    obtain ⟨_,_,⟨r0,r1,r2,r3⟩,f0,f1,f2,f3⟩ := J5.out.cells
    refine ⟨steps_plain rfl (gives_mono (R := fun v w' => v = undef ∧ w' = (((s.w.setCell ⟨w.heap.size + 1 + 1,0,none⟩ (.int .i64 q.x0)).setCell ⟨w.heap.size + 1 + 1,1,none⟩ (.int .i64 q.y0)).setCell ⟨w.heap.size + 1 + 1,2,none⟩ (.int .i64 q.x1)).setCell ⟨w.heap.size + 1 + 1,3,none⟩ (.int .i64 q.y1)) ?_ ?_)⟩
    · simp [gives,go_sem,r0,r1,r2,r3,f0,f1,f2,f3]
    · rintro _ _ ⟨rfl,rfl⟩
      clear k0 k1 k2 k3 k4 k5 k6 k7 k8
      go_wp2_with fail
      exact ret_rect rfl rfl (set4_box J5.out.2.2.1 _ _ _ _) rfl ⟨by rw [HJ.out],J5.out.set4 _ _ _ _⟩
  · skip
    by_cases h2 : op = 2
    · subst h2
      obtain ⟨l2,⟨b0,b1⟩,b2,b3⟩ := HP.out.2.2.1.gr (.inl rfl)
      dsimp only at l2 b0 b1 b2 b3
      go_enter Tryz.func71,Tryz.ntmps71
      go_wp2_with fail
      generalize (((w.alloc (.cells #[.int .i64 2,.slice ia im ic,.slice pa p.length pc] 44)).alloc (.cells (cs4 x0 y0 x1 y1) 26)).alloc (.cells (cs4 0 0 0 0) 26)) = W1 at *
      obtain ⟨b,o,c,hv,hFb,hc,hcap,hcm⟩ := sl_cells HP.out.1 (by omega)
      simp only [Value.slice.injEq] at hv
      obtain ⟨rfl,_,rfl⟩ := hv
      unfold maxLen at hcm
      obtain ⟨n,hn⟩ : ∃ n,n = p.length := ⟨_,rfl⟩
      have h0' := hc 0 (by omega)
      rw [Nat.add_zero] at h0'
      have c0 := (J0.out.2.2.2.cell (p := ⟨b,o,none⟩) (HP.out.2.1 b hFb)).trans h0'
      clear h0'
      obtain ⟨q0,hq0⟩ : ∃ q,q = p.getD 0 0 := ⟨_,rfl⟩
      rw [← hq0] at c0
      have h1' := hc 1 (by omega)
      have c1 := (J0.out.2.2.2.cell (p := ⟨b,o + 1,none⟩) (HP.out.2.1 b hFb)).trans h1'
      clear h1'
      obtain ⟨q1,hq1⟩ : ∃ q,q = p.getD 1 0 := ⟨_,rfl⟩
      rw [← hq1] at c1
      rw [← hq0] at b0 b1
      rw [← hq1] at b2 b3
      obtain ⟨q,hq⟩ : ∃ q,q = growR ⟨x0,y0,x1,y1⟩ q0 q1 q0 q1 := ⟨_,rfl⟩
      have HJ : Hid (oneN ⟨2,ins,p⟩ ⟨x0,y0,x1,y1⟩ = q) := by
        have : oneN ⟨2,ins,p⟩ ⟨x0,y0,x1,y1⟩ = q := by rw [hq,hq0,hq1]; rfl
        exact this
      have M0 : Hid (∀ s : Kept W1.heap.size W1,Calls Tryz.prog 84 #[.agg #[.int .i64 x0,.int .i64 y0,.int .i64 x1,.int .i64 y1],.int .i64 q0,.int .i64 q1,.int .i64 q0,.int .i64 q1] s.w (PPost s.w (.agg #[.int .i64 q.x0,.int .i64 q.y0,.int .i64 q.x1,.int .i64 q.y1]))) := fun s => by
        rw [hq]
        exact grow_c ⟨x0,y0,x1,y1⟩ q0 q1 q0 q1 s.w HP.out.2.2.2 (by omega) (by omega) (by omega) (by omega)
      rw [← hn] at l2 hcap J0 ⊢
      obtain ⟨⟨g0,g1,g2⟩,⟨a0,a1,a2,a3⟩,_,_⟩ := J0.out.cells
      have k0 := fun s : Kept W1.heap.size W1 => s.at g0
      have k1 := fun s : Kept W1.heap.size W1 => s.at g1
      have k2 := fun s : Kept W1.heap.size W1 => s.at g2
      have k3 := fun s : Kept W1.heap.size W1 => s.at a0
      have k4 := fun s : Kept W1.heap.size W1 => s.at a1
      have k5 := fun s : Kept W1.heap.size W1 => s.at a2
      have k6 := fun s : Kept W1.heap.size W1 => s.at a3
      have k7 := fun s : Kept W1.heap.size W1 => s.at c0
      have k8 := fun s : Kept W1.heap.size W1 => s.at c1
      clear hq0 hq1 hq c0 c1 hc hn g0 g1 g2 a0 a1 a2 a3
      go_wp2_with fail
      refine wp_region_kept_last W1.heap.size 18 _ rfl rfl (by kernel_rfl) (by kernel_rfl) ?_
      simp only [List.take_succ_cons,List.take_zero]
      repeat (go_big_quiet_step (first | (go_at_call 84; with_reducible exact Calls.kept _ (Nat.le_refl _) (M0.out _))))
      refine wpQuiet_nil ?_
      intro s
      have J5 : Hid (N3 w s.w 2 (.slice ia im ic) (.slice (some ⟨b,o,none⟩) n pc) ⟨x0,y0,x1,y1⟩) := J0.out.call s.below
      obtain ⟨_,_,⟨r0,r1,r2,r3⟩,f0,f1,f2,f3⟩ := J5.out.cells
      refine ⟨steps_plain rfl (gives_mono (R := fun v w' => v = undef ∧ w' = (((s.w.setCell ⟨w.heap.size + 1 + 1,0,none⟩ (.int .i64 q.x0)).setCell ⟨w.heap.size + 1 + 1,1,none⟩ (.int .i64 q.y0)).setCell ⟨w.heap.size + 1 + 1,2,none⟩ (.int .i64 q.x1)).setCell ⟨w.heap.size + 1 + 1,3,none⟩ (.int .i64 q.y1)) ?_ ?_)⟩
      · simp [gives,go_sem,r0,r1,r2,r3,f0,f1,f2,f3]
      · rintro _ _ ⟨rfl,rfl⟩
        clear k0 k1 k2 k3 k4 k5 k6 k7 k8
        go_wp2_with fail
        exact ret_rect rfl rfl (set4_box J5.out.2.2.1 _ _ _ _) rfl ⟨by rw [HJ.out],J5.out.set4 _ _ _ _⟩
    · skip
      by_cases h3 : op = 3
      · subst h3
        obtain ⟨l2,⟨b0,b1⟩,b2,b3⟩ := HP.out.2.2.1.gr (.inr (.inl rfl))
        dsimp only at l2 b0 b1 b2 b3
        go_enter Tryz.func71,Tryz.ntmps71
        go_wp2_with fail
        generalize (((w.alloc (.cells #[.int .i64 3,.slice ia im ic,.slice pa p.length pc] 44)).alloc (.cells (cs4 x0 y0 x1 y1) 26)).alloc (.cells (cs4 0 0 0 0) 26)) = W1 at *
        obtain ⟨b,o,c,hv,hFb,hc,hcap,hcm⟩ := sl_cells HP.out.1 (by omega)
        simp only [Value.slice.injEq] at hv
        obtain ⟨rfl,_,rfl⟩ := hv
        unfold maxLen at hcm
        obtain ⟨n,hn⟩ : ∃ n,n = p.length := ⟨_,rfl⟩
        have h0' := hc 0 (by omega)
        rw [Nat.add_zero] at h0'
        have c0 := (J0.out.2.2.2.cell (p := ⟨b,o,none⟩) (HP.out.2.1 b hFb)).trans h0'
        clear h0'
        obtain ⟨q0,hq0⟩ : ∃ q,q = p.getD 0 0 := ⟨_,rfl⟩
        rw [← hq0] at c0
        have h1' := hc 1 (by omega)
        have c1 := (J0.out.2.2.2.cell (p := ⟨b,o + 1,none⟩) (HP.out.2.1 b hFb)).trans h1'
        clear h1'
        obtain ⟨q1,hq1⟩ : ∃ q,q = p.getD 1 0 := ⟨_,rfl⟩
        rw [← hq1] at c1
        rw [← hq0] at b0 b1
        rw [← hq1] at b2 b3
        obtain ⟨q,hq⟩ : ∃ q,q = growR ⟨x0,y0,x1,y1⟩ q0 q1 q0 q1 := ⟨_,rfl⟩
        have HJ : Hid (oneN ⟨3,ins,p⟩ ⟨x0,y0,x1,y1⟩ = q) := by
          have : oneN ⟨3,ins,p⟩ ⟨x0,y0,x1,y1⟩ = q := by rw [hq,hq0,hq1]; rfl
          exact this
        have M0 : Hid (∀ s : Kept W1.heap.size W1,Calls Tryz.prog 84 #[.agg #[.int .i64 x0,.int .i64 y0,.int .i64 x1,.int .i64 y1],.int .i64 q0,.int .i64 q1,.int .i64 q0,.int .i64 q1] s.w (PPost s.w (.agg #[.int .i64 q.x0,.int .i64 q.y0,.int .i64 q.x1,.int .i64 q.y1]))) := fun s => by
          rw [hq]
          exact grow_c ⟨x0,y0,x1,y1⟩ q0 q1 q0 q1 s.w HP.out.2.2.2 (by omega) (by omega) (by omega) (by omega)
        rw [← hn] at l2 hcap J0 ⊢
        obtain ⟨⟨g0,g1,g2⟩,⟨a0,a1,a2,a3⟩,_,_⟩ := J0.out.cells
        have k0 := fun s : Kept W1.heap.size W1 => s.at g0
        have k1 := fun s : Kept W1.heap.size W1 => s.at g1
        have k2 := fun s : Kept W1.heap.size W1 => s.at g2
        have k3 := fun s : Kept W1.heap.size W1 => s.at a0
        have k4 := fun s : Kept W1.heap.size W1 => s.at a1
        have k5 := fun s : Kept W1.heap.size W1 => s.at a2
        have k6 := fun s : Kept W1.heap.size W1 => s.at a3
        have k7 := fun s : Kept W1.heap.size W1 => s.at c0
        have k8 := fun s : Kept W1.heap.size W1 => s.at c1
        clear hq0 hq1 hq c0 c1 hc hn g0 g1 g2 a0 a1 a2 a3
        go_wp2_with fail
        refine wp_region_kept_last W1.heap.size 18 _ rfl rfl (by kernel_rfl) (by kernel_rfl) ?_
        simp only [List.take_succ_cons,List.take_zero]
        repeat (go_big_quiet_step (first | (go_at_call 84; with_reducible exact Calls.kept _ (Nat.le_refl _) (M0.out _))))
        refine wpQuiet_nil ?_
        intro s
        have J5 : Hid (N3 w s.w 3 (.slice ia im ic) (.slice (some ⟨b,o,none⟩) n pc) ⟨x0,y0,x1,y1⟩) := J0.out.call s.below
        obtain ⟨_,_,⟨r0,r1,r2,r3⟩,f0,f1,f2,f3⟩ := J5.out.cells
        refine ⟨steps_plain rfl (gives_mono (R := fun v w' => v = undef ∧ w' = (((s.w.setCell ⟨w.heap.size + 1 + 1,0,none⟩ (.int .i64 q.x0)).setCell ⟨w.heap.size + 1 + 1,1,none⟩ (.int .i64 q.y0)).setCell ⟨w.heap.size + 1 + 1,2,none⟩ (.int .i64 q.x1)).setCell ⟨w.heap.size + 1 + 1,3,none⟩ (.int .i64 q.y1)) ?_ ?_)⟩
        · simp [gives,go_sem,r0,r1,r2,r3,f0,f1,f2,f3]
        · rintro _ _ ⟨rfl,rfl⟩
          clear k0 k1 k2 k3 k4 k5 k6 k7 k8
          go_wp2_with fail
          exact ret_rect rfl rfl (set4_box J5.out.2.2.1 _ _ _ _) rfl ⟨by rw [HJ.out],J5.out.set4 _ _ _ _⟩
      · skip
        by_cases h4 : op = 4
        · subst h4
          obtain ⟨l2,⟨b0,b1⟩,b2,b3⟩ := HP.out.2.2.1.gr (.inr (.inr rfl))
          dsimp only at l2 b0 b1 b2 b3
          go_enter Tryz.func71,Tryz.ntmps71
          go_wp2_with fail
          generalize (((w.alloc (.cells #[.int .i64 4,.slice ia im ic,.slice pa p.length pc] 44)).alloc (.cells (cs4 x0 y0 x1 y1) 26)).alloc (.cells (cs4 0 0 0 0) 26)) = W1 at *
          obtain ⟨b,o,c,hv,hFb,hc,hcap,hcm⟩ := sl_cells HP.out.1 (by omega)
          simp only [Value.slice.injEq] at hv
          obtain ⟨rfl,_,rfl⟩ := hv
          unfold maxLen at hcm
          obtain ⟨n,hn⟩ : ∃ n,n = p.length := ⟨_,rfl⟩
          have h0' := hc 0 (by omega)
          rw [Nat.add_zero] at h0'
          have c0 := (J0.out.2.2.2.cell (p := ⟨b,o,none⟩) (HP.out.2.1 b hFb)).trans h0'
          clear h0'
          obtain ⟨q0,hq0⟩ : ∃ q,q = p.getD 0 0 := ⟨_,rfl⟩
          rw [← hq0] at c0
          have h1' := hc 1 (by omega)
          have c1 := (J0.out.2.2.2.cell (p := ⟨b,o + 1,none⟩) (HP.out.2.1 b hFb)).trans h1'
          clear h1'
          obtain ⟨q1,hq1⟩ : ∃ q,q = p.getD 1 0 := ⟨_,rfl⟩
          rw [← hq1] at c1
          rw [← hq0] at b0 b1
          rw [← hq1] at b2 b3
          obtain ⟨q,hq⟩ : ∃ q,q = growR ⟨x0,y0,x1,y1⟩ q0 q1 q0 q1 := ⟨_,rfl⟩
          have HJ : Hid (oneN ⟨4,ins,p⟩ ⟨x0,y0,x1,y1⟩ = q) := by
            have : oneN ⟨4,ins,p⟩ ⟨x0,y0,x1,y1⟩ = q := by rw [hq,hq0,hq1]; rfl
            exact this
          have M0 : Hid (∀ s : Kept W1.heap.size W1,Calls Tryz.prog 84 #[.agg #[.int .i64 x0,.int .i64 y0,.int .i64 x1,.int .i64 y1],.int .i64 q0,.int .i64 q1,.int .i64 q0,.int .i64 q1] s.w (PPost s.w (.agg #[.int .i64 q.x0,.int .i64 q.y0,.int .i64 q.x1,.int .i64 q.y1]))) := fun s => by
            rw [hq]
            exact grow_c ⟨x0,y0,x1,y1⟩ q0 q1 q0 q1 s.w HP.out.2.2.2 (by omega) (by omega) (by omega) (by omega)
          rw [← hn] at l2 hcap J0 ⊢
          obtain ⟨⟨g0,g1,g2⟩,⟨a0,a1,a2,a3⟩,_,_⟩ := J0.out.cells
          have k0 := fun s : Kept W1.heap.size W1 => s.at g0
          have k1 := fun s : Kept W1.heap.size W1 => s.at g1
          have k2 := fun s : Kept W1.heap.size W1 => s.at g2
          have k3 := fun s : Kept W1.heap.size W1 => s.at a0
          have k4 := fun s : Kept W1.heap.size W1 => s.at a1
          have k5 := fun s : Kept W1.heap.size W1 => s.at a2
          have k6 := fun s : Kept W1.heap.size W1 => s.at a3
          have k7 := fun s : Kept W1.heap.size W1 => s.at c0
          have k8 := fun s : Kept W1.heap.size W1 => s.at c1
          clear hq0 hq1 hq c0 c1 hc hn g0 g1 g2 a0 a1 a2 a3
          go_wp2_with fail
          refine wp_region_kept_last W1.heap.size 18 _ rfl rfl (by kernel_rfl) (by kernel_rfl) ?_
          simp only [List.take_succ_cons,List.take_zero]
          repeat (go_big_quiet_step (first | (go_at_call 84; with_reducible exact Calls.kept _ (Nat.le_refl _) (M0.out _))))
          refine wpQuiet_nil ?_
          intro s
          have J5 : Hid (N3 w s.w 4 (.slice ia im ic) (.slice (some ⟨b,o,none⟩) n pc) ⟨x0,y0,x1,y1⟩) := J0.out.call s.below
          obtain ⟨_,_,⟨r0,r1,r2,r3⟩,f0,f1,f2,f3⟩ := J5.out.cells
          refine ⟨steps_plain rfl (gives_mono (R := fun v w' => v = undef ∧ w' = (((s.w.setCell ⟨w.heap.size + 1 + 1,0,none⟩ (.int .i64 q.x0)).setCell ⟨w.heap.size + 1 + 1,1,none⟩ (.int .i64 q.y0)).setCell ⟨w.heap.size + 1 + 1,2,none⟩ (.int .i64 q.x1)).setCell ⟨w.heap.size + 1 + 1,3,none⟩ (.int .i64 q.y1)) ?_ ?_)⟩
          · simp [gives,go_sem,r0,r1,r2,r3,f0,f1,f2,f3]
          · rintro _ _ ⟨rfl,rfl⟩
            clear k0 k1 k2 k3 k4 k5 k6 k7 k8
            go_wp2_with fail
            exact ret_rect rfl rfl (set4_box J5.out.2.2.1 _ _ _ _) rfl ⟨by rw [HJ.out],J5.out.set4 _ _ _ _⟩
        · skip
          by_cases h12 : op = 12
          · subst h12
            obtain ⟨l4,hbx⟩ := HP.out.2.2.1.bx (.inl rfl)
            dsimp only at l4 hbx
            go_enter Tryz.func71,Tryz.ntmps71
            go_wp2_with fail
            generalize (((w.alloc (.cells #[.int .i64 12,.slice ia im ic,.slice pa p.length pc] 44)).alloc (.cells (cs4 x0 y0 x1 y1) 26)).alloc (.cells (cs4 0 0 0 0) 26)) = W1 at *
            obtain ⟨q,hq⟩ : ∃ q,q = meetR ⟨x0,y0,x1,y1⟩ (pbox p) := ⟨_,rfl⟩
            obtain ⟨t,ht⟩ : ∃ t,t = pbox p := ⟨_,rfl⟩
            have HJ : Hid (oneN ⟨12,ins,p⟩ ⟨x0,y0,x1,y1⟩ = q) := by
              have : oneN ⟨12,ins,p⟩ ⟨x0,y0,x1,y1⟩ = q := by rw [hq]; rfl
              exact this
            have M0 : Hid (∀ s : Kept W1.heap.size W1,Calls Tryz.prog 86 #[.slice pa p.length pc] s.w (PPost s.w (.agg #[.int .i64 t.x0,.int .i64 t.y0,.int .i64 t.x1,.int .i64 t.y1]))) := fun s => by
              rw [ht]
              exact pbox_c _ p s.w (HP.out.1.same RInt.ok (Same.of_below (J0.out.2.2.2.trans (s.below.mono J0.out.2.2.2.size)) HP.out.2.1)) l4
            have M1 : Hid (∀ s : Kept W1.heap.size W1,Calls Tryz.prog 85 #[.agg #[.int .i64 x0,.int .i64 y0,.int .i64 x1,.int .i64 y1],.agg #[.int .i64 t.x0,.int .i64 t.y0,.int .i64 t.x1,.int .i64 t.y1]] s.w (PPost s.w (.agg #[.int .i64 q.x0,.int .i64 q.y0,.int .i64 q.x1,.int .i64 q.y1]))) := fun s => by
              rw [hq,ht]
              exact meet_c ⟨x0,y0,x1,y1⟩ (pbox p) s.w
            obtain ⟨⟨g0,g1,g2⟩,⟨a0,a1,a2,a3⟩,_,_⟩ := J0.out.cells
            have k0 := fun s : Kept W1.heap.size W1 => s.at g0
            have k1 := fun s : Kept W1.heap.size W1 => s.at g1
            have k2 := fun s : Kept W1.heap.size W1 => s.at g2
            have k3 := fun s : Kept W1.heap.size W1 => s.at a0
            have k4 := fun s : Kept W1.heap.size W1 => s.at a1
            have k5 := fun s : Kept W1.heap.size W1 => s.at a2
            have k6 := fun s : Kept W1.heap.size W1 => s.at a3
            clear hq ht hbx g0 g1 g2 a0 a1 a2 a3
            go_wp2_with fail
            refine wp_region_kept_last W1.heap.size 5 _ rfl rfl (by kernel_rfl) (by kernel_rfl) ?_
            simp only [List.take_succ_cons,List.take_zero]
            repeat (go_big_quiet_step (first | (go_at_call 86; with_reducible exact Calls.kept _ (Nat.le_refl _) (M0.out _)) | (go_at_call 85; with_reducible exact Calls.kept _ (Nat.le_refl _) (M1.out _))))
            refine wpQuiet_nil ?_
            intro s
            have J5 : Hid (N3 w s.w 12 (.slice ia im ic) (.slice pa p.length pc) ⟨x0,y0,x1,y1⟩) := J0.out.call s.below
            obtain ⟨_,_,⟨r0,r1,r2,r3⟩,f0,f1,f2,f3⟩ := J5.out.cells
            refine ⟨steps_plain rfl (gives_mono (R := fun v w' => v = undef ∧ w' = (((s.w.setCell ⟨w.heap.size + 1 + 1,0,none⟩ (.int .i64 q.x0)).setCell ⟨w.heap.size + 1 + 1,1,none⟩ (.int .i64 q.y0)).setCell ⟨w.heap.size + 1 + 1,2,none⟩ (.int .i64 q.x1)).setCell ⟨w.heap.size + 1 + 1,3,none⟩ (.int .i64 q.y1)) ?_ ?_)⟩
            · simp [gives,go_sem,r0,r1,r2,r3,f0,f1,f2,f3]
            · rintro _ _ ⟨rfl,rfl⟩
              clear k0 k1 k2 k3 k4 k5 k6
              go_wp2_with fail
              exact ret_rect rfl rfl (set4_box J5.out.2.2.1 _ _ _ _) rfl ⟨by rw [HJ.out],J5.out.set4 _ _ _ _⟩
          · skip
            by_cases h10 : op = 10
            · subst h10
              obtain ⟨l4,hbx⟩ := HP.out.2.2.1.bx (.inr rfl)
              dsimp only at l4 hbx
              go_enter Tryz.func71,Tryz.ntmps71
              go_wp2_with fail
              generalize (((w.alloc (.cells #[.int .i64 10,.slice ia im ic,.slice pa p.length pc] 44)).alloc (.cells (cs4 x0 y0 x1 y1) 26)).alloc (.cells (cs4 0 0 0 0) 26)) = W1 at *
              obtain ⟨t,ht⟩ : ∃ t,t = pbox p := ⟨_,rfl⟩
              obtain ⟨d,hd⟩ : ∃ d,d = wiR ⟨x0,y0,x1,y1⟩ t := ⟨_,rfl⟩
              have HJ : Hid (oneN ⟨10,ins,p⟩ ⟨x0,y0,x1,y1⟩ = if d then ⟨x0,y0,x1,y1⟩ else t) := by
                have : oneN ⟨10,ins,p⟩ ⟨x0,y0,x1,y1⟩ = if d then ⟨x0,y0,x1,y1⟩ else t := by rw [hd,ht]; rfl
                exact this
              have M0 : Hid (∀ s : Kept W1.heap.size W1,Calls Tryz.prog 86 #[.slice pa p.length pc] s.w (PPost s.w (.agg #[.int .i64 t.x0,.int .i64 t.y0,.int .i64 t.x1,.int .i64 t.y1]))) := fun s => by
                rw [ht]
                exact pbox_c _ p s.w (HP.out.1.same RInt.ok (Same.of_below (J0.out.2.2.2.trans (s.below.mono J0.out.2.2.2.size)) HP.out.2.1)) l4
              have M1 : Hid (∀ s : Kept W1.heap.size W1,Calls Tryz.prog 39 #[.agg #[.int .i64 x0,.int .i64 y0,.int .i64 x1,.int .i64 y1],.agg #[.int .i64 t.x0,.int .i64 t.y0,.int .i64 t.x1,.int .i64 t.y1]] s.w (PPost s.w (.bool d))) := fun s => by
                rw [hd]
                exact within_c ⟨x0,y0,x1,y1⟩ t s.w
              obtain ⟨⟨g0,g1,g2⟩,⟨a0,a1,a2,a3⟩,_,_⟩ := J0.out.cells
              have k0 := fun s : Kept W1.heap.size W1 => s.at g0
              have k1 := fun s : Kept W1.heap.size W1 => s.at g1
              have k2 := fun s : Kept W1.heap.size W1 => s.at g2
              have k3 := fun s : Kept W1.heap.size W1 => s.at a0
              have k4 := fun s : Kept W1.heap.size W1 => s.at a1
              have k5 := fun s : Kept W1.heap.size W1 => s.at a2
              have k6 := fun s : Kept W1.heap.size W1 => s.at a3
              clear hd ht hbx g0 g1 g2 a0 a1 a2 a3
              go_wp2_with fail
              refine wp_region_kept W1.heap.size (by kernel_rfl) (by kernel_rfl) ?_
              repeat (go_big_quiet_step (first | (go_at_call 86; with_reducible exact Calls.kept _ (Nat.le_refl _) (M0.out _)) | (go_at_call 39; with_reducible exact Calls.kept _ (Nat.le_refl _) (M1.out _))))
              refine wpQuiet_nil ?_
              rintro _ ⟨s,rfl⟩
              have J5 : Hid (N3 w s.w 10 (.slice ia im ic) (.slice pa p.length pc) ⟨x0,y0,x1,y1⟩) := J0.out.call s.below
              obtain ⟨⟨g0,g1,g2⟩,⟨a0,a1,a2,a3⟩,⟨r0,r1,r2,r3⟩,f0,f1,f2,f3⟩ := J5.out.cells
              clear k0 k1 k2 k3 k4 k5 k6
              cases d with
              | true =>
                go_wp2_with fail
                exact ret_rect rfl rfl (set4_box J5.out.2.2.1 _ _ _ _) rfl ⟨by rw [HJ.out]; rfl,J5.out.set4 _ _ _ _⟩
              | false =>
                have MM := M0.out s
                go_wp2_with fail
                refine Calls.mono MM ?_; rintro e W3 ⟨rfl,hb3⟩
                have J6 : Hid (N3 w W3 10 (.slice ia im ic) (.slice pa p.length pc) ⟨x0,y0,x1,y1⟩) := J5.out.call hb3
                clear g0 g1 g2 a0 a1 a2 a3 r0 r1 r2 r3 f0 f1 f2 f3 hb3 MM
                obtain ⟨⟨g0,g1,g2⟩,⟨a0,a1,a2,a3⟩,⟨r0,r1,r2,r3⟩,f0,f1,f2,f3⟩ := J6.out.cells
                go_wp2_with fail
                exact ret_rect rfl rfl (set4_box J6.out.2.2.1 _ _ _ _) rfl ⟨by rw [HJ.out]; rfl,J6.out.set4 _ _ _ _⟩
            · skip
              by_cases h11 : op = 11
              · subst h11
                obtain ⟨l2,⟨b0,b1⟩,b2,b3⟩ := HP.out.2.2.1.mv (.inr rfl)
                obtain ⟨l4,⟨b4,b5⟩,b6,b7⟩ := HP.out.2.2.1.sh rfl
                dsimp only at l2 b0 b1 b2 b3 l4 b4 b5 b6 b7
                go_enter Tryz.func71,Tryz.ntmps71
                go_wp2_with fail
                generalize (((w.alloc (.cells #[.int .i64 11,.slice ia im ic,.slice pa p.length pc] 44)).alloc (.cells (cs4 x0 y0 x1 y1) 26)).alloc (.cells (cs4 0 0 0 0) 26)) = W1 at *
                obtain ⟨b,o,c,hv,hFb,hc,hcap,hcm⟩ := sl_cells HP.out.1 (by omega)
                simp only [Value.slice.injEq] at hv
                obtain ⟨rfl,_,rfl⟩ := hv
                unfold maxLen at hcm
                obtain ⟨n,hn⟩ : ∃ n,n = p.length := ⟨_,rfl⟩
                have h0' := hc 0 (by omega)
                rw [Nat.add_zero] at h0'
                have c0 := (J0.out.2.2.2.cell (p := ⟨b,o,none⟩) (HP.out.2.1 b hFb)).trans h0'
                clear h0'
                obtain ⟨q0,hq0⟩ : ∃ q,q = p.getD 0 0 := ⟨_,rfl⟩
                rw [← hq0] at c0
                have h1' := hc 1 (by omega)
                have c1 := (J0.out.2.2.2.cell (p := ⟨b,o + 1,none⟩) (HP.out.2.1 b hFb)).trans h1'
                clear h1'
                obtain ⟨q1,hq1⟩ : ∃ q,q = p.getD 1 0 := ⟨_,rfl⟩
                rw [← hq1] at c1
                have h2' := hc 2 (by omega)
                have c2 := (J0.out.2.2.2.cell (p := ⟨b,o + 2,none⟩) (HP.out.2.1 b hFb)).trans h2'
                clear h2'
                obtain ⟨q2,hq2⟩ : ∃ q,q = p.getD 2 0 := ⟨_,rfl⟩
                rw [← hq2] at c2
                have h3' := hc 3 (by omega)
                have c3 := (J0.out.2.2.2.cell (p := ⟨b,o + 3,none⟩) (HP.out.2.1 b hFb)).trans h3'
                clear h3'
                obtain ⟨q3,hq3⟩ : ∃ q,q = p.getD 3 0 := ⟨_,rfl⟩
                rw [← hq3] at c3
                rw [← hq0] at b0 b1
                rw [← hq1] at b2 b3
                rw [← hq2] at b4 b5
                rw [← hq3] at b6 b7
                obtain ⟨q,hq⟩ : ∃ q,q = joinR ⟨x0,y0,x1,y1⟩ (growR (moveR ⟨x0,y0,x1,y1⟩ (-q0) (-q1)) q2 q3 q2 q3) := ⟨_,rfl⟩
                obtain ⟨t,ht⟩ : ∃ t,t = moveR ⟨x0,y0,x1,y1⟩ (-q0) (-q1) := ⟨_,rfl⟩
                obtain ⟨u,hu⟩ : ∃ u,u = growR t q2 q3 q2 q3 := ⟨_,rfl⟩
                have HJ : Hid (oneN ⟨11,ins,p⟩ ⟨x0,y0,x1,y1⟩ = q) := by
                  have : oneN ⟨11,ins,p⟩ ⟨x0,y0,x1,y1⟩ = q := by rw [hq,hq0,hq1,hq2,hq3]; rfl
                  exact this
                have M0 : Hid (∀ s : Kept W1.heap.size W1,Calls Tryz.prog 83 #[.agg #[.int .i64 x0,.int .i64 y0,.int .i64 x1,.int .i64 y1],.int .i64 (-q0),.int .i64 (-q1)] s.w (PPost s.w (.agg #[.int .i64 t.x0,.int .i64 t.y0,.int .i64 t.x1,.int .i64 t.y1]))) := fun s => by
                  rw [ht]
                  exact move_c ⟨x0,y0,x1,y1⟩ (-q0) (-q1) s.w HP.out.2.2.2 (by omega) (by omega)
                have M1 : Hid (∀ s : Kept W1.heap.size W1,Calls Tryz.prog 84 #[.agg #[.int .i64 t.x0,.int .i64 t.y0,.int .i64 t.x1,.int .i64 t.y1],.int .i64 q2,.int .i64 q3,.int .i64 q2,.int .i64 q3] s.w (PPost s.w (.agg #[.int .i64 u.x0,.int .i64 u.y0,.int .i64 u.x1,.int .i64 u.y1]))) := fun s => by
                  rw [hu]
                  exact grow_c t q2 q3 q2 q3 s.w (by rw [ht]; exact moveR_pl _ _ _) (by omega) (by omega) (by omega) (by omega)
                have M2 : Hid (∀ s : Kept W1.heap.size W1,Calls Tryz.prog 29 #[.agg #[.int .i64 x0,.int .i64 y0,.int .i64 x1,.int .i64 y1],.agg #[.int .i64 u.x0,.int .i64 u.y0,.int .i64 u.x1,.int .i64 u.y1]] s.w (PPost s.w (.agg #[.int .i64 q.x0,.int .i64 q.y0,.int .i64 q.x1,.int .i64 q.y1]))) := fun s => by
                  rw [hq,← ht,← hu]
                  exact join_c ⟨x0,y0,x1,y1⟩ u s.w
                rw [← hn] at l2 l4 hcap J0 ⊢
                obtain ⟨⟨g0,g1,g2⟩,⟨a0,a1,a2,a3⟩,_,_⟩ := J0.out.cells
                have k0 := fun s : Kept W1.heap.size W1 => s.at g0
                have k1 := fun s : Kept W1.heap.size W1 => s.at g1
                have k2 := fun s : Kept W1.heap.size W1 => s.at g2
                have k3 := fun s : Kept W1.heap.size W1 => s.at a0
                have k4 := fun s : Kept W1.heap.size W1 => s.at a1
                have k5 := fun s : Kept W1.heap.size W1 => s.at a2
                have k6 := fun s : Kept W1.heap.size W1 => s.at a3
                have k7 := fun s : Kept W1.heap.size W1 => s.at c0
                have k8 := fun s : Kept W1.heap.size W1 => s.at c1
                have k9 := fun s : Kept W1.heap.size W1 => s.at c2
                have k10 := fun s : Kept W1.heap.size W1 => s.at c3
                clear hq0 hq1 hq2 hq3 hq ht hu c0 c1 c2 c3 hc hn g0 g1 g2 a0 a1 a2 a3
                go_wp2_with fail
                refine wp_region_kept_last W1.heap.size 31 _ rfl rfl (by kernel_rfl) (by kernel_rfl) ?_
                simp only [List.take_succ_cons,List.take_zero]
                repeat (go_big_quiet_step (first | (go_at_call 83; with_reducible exact Calls.kept _ (Nat.le_refl _) (M0.out _)) | (go_at_call 84; with_reducible exact Calls.kept _ (Nat.le_refl _) (M1.out _)) | (go_at_call 29; with_reducible exact Calls.kept _ (Nat.le_refl _) (M2.out _))))
                refine wpQuiet_nil ?_
                intro s
                have J5 : Hid (N3 w s.w 11 (.slice ia im ic) (.slice (some ⟨b,o,none⟩) n pc) ⟨x0,y0,x1,y1⟩) := J0.out.call s.below
                obtain ⟨_,_,⟨r0,r1,r2,r3⟩,f0,f1,f2,f3⟩ := J5.out.cells
                refine ⟨steps_plain rfl (gives_mono (R := fun v w' => v = undef ∧ w' = (((s.w.setCell ⟨w.heap.size + 1 + 1,0,none⟩ (.int .i64 q.x0)).setCell ⟨w.heap.size + 1 + 1,1,none⟩ (.int .i64 q.y0)).setCell ⟨w.heap.size + 1 + 1,2,none⟩ (.int .i64 q.x1)).setCell ⟨w.heap.size + 1 + 1,3,none⟩ (.int .i64 q.y1)) ?_ ?_)⟩
                · simp [gives,go_sem,r0,r1,r2,r3,f0,f1,f2,f3]
                · rintro _ _ ⟨rfl,rfl⟩
                  clear k0 k1 k2 k3 k4 k5 k6 k7 k8 k9 k10
                  go_wp2_with fail
                  exact ret_rect rfl rfl (set4_box J5.out.2.2.1 _ _ _ _) rfl ⟨by rw [HJ.out],J5.out.set4 _ _ _ _⟩
              · skip
                have HJ : Hid (oneN ⟨op,ins,p⟩ ⟨x0,y0,x1,y1⟩ = ⟨x0,y0,x1,y1⟩) := by
                  have : oneN ⟨op,ins,p⟩ ⟨x0,y0,x1,y1⟩ = ⟨x0,y0,x1,y1⟩ := by unfold oneN; rw [if_neg h1,if_neg (by rintro (h | h | h); exact h2 h; exact h3 h; exact h4 h),if_neg h12,if_neg h10,if_neg h11]
                  exact this
                have d1 : (op == 1) = false := beq_eq_false_iff_ne.2 h1
                have d2 : (op == 2) = false := beq_eq_false_iff_ne.2 h2
                have d3 : (op == 3) = false := beq_eq_false_iff_ne.2 h3
                have d4 : (op == 4) = false := beq_eq_false_iff_ne.2 h4
                have d12 : (op == 12) = false := beq_eq_false_iff_ne.2 h12
                have d10 : (op == 10) = false := beq_eq_false_iff_ne.2 h10
                have d11 : (op == 11) = false := beq_eq_false_iff_ne.2 h11
                clear h1 h2 h3 h4 h12 h10 h11
                have HN := N3.newr w op (.slice ia im ic) (.slice pa p.length pc) ⟨x0,y0,x1,y1⟩ ⟨x0,y0,x1,y1⟩ 44 26
                have HNN : Hid _ := HN
                clear HN J0
                go_enter Tryz.func71,Tryz.ntmps71
                go_wp2_with fail
                exact ret_rect rfl rfl HNN.out.1 rfl ⟨by rw [HJ.out],HNN.out.2⟩
end Go.Proofs.YtaoamkbcegadcaaGreatDoor
/- Layer 14: need.Of; rows of rectangles. -/
namespace Go.Proofs.YtaoamkbcegadcaaGreatDoor
open Go.RowKit Go.Bx Go.Od Go.Hp
attribute [local go_sem ↓] Go.wp_at_zero Go.wp_at_succ
set_option linter.unusedVariables false

def rcs : List Rc → List Value
  | [] => []
  | r :: rs => .int .i64 r.x0 :: .int .i64 r.y0 :: .int .i64 r.x1 :: .int .i64 r.y1 :: rcs rs
theorem rcs_len : ∀ rs : List Rc,(rcs rs).length = rs.length * 4
  | [] => rfl
  | r :: rs => by simp [rcs,rcs_len rs]; omega
theorem rcs_get : ∀ (rs : List Rc) (i : Nat) (r : Rc),rs[i]? = some r → (rcs rs)[i * 4]? = some (.int .i64 r.x0) ∧ (rcs rs)[i * 4 + 1]? = some (.int .i64 r.y0) ∧ (rcs rs)[i * 4 + 2]? = some (.int .i64 r.x1) ∧ (rcs rs)[i * 4 + 3]? = some (.int .i64 r.y1)
  | [],i,r,h => by simp at h
  | a :: rs,0,r,h => by simp at h; subst h; exact ⟨rfl,rfl,rfl,rfl⟩
  | a :: rs,i + 1,r,h => by
    have := rcs_get rs i r (by simpa using h)
    rw [show (i + 1) * 4 = i * 4 + 1 + 1 + 1 + 1 by omega,show i * 4 + 1 + 1 + 1 + 1 + 1 = i * 4 + 1 + 1 + 1 + 1 + 1 by rfl,show i * 4 + 1 + 1 + 1 + 1 + 2 = i * 4 + 2 + 1 + 1 + 1 + 1 by omega,show i * 4 + 1 + 1 + 1 + 1 + 3 = i * 4 + 3 + 1 + 1 + 1 + 1 by omega]
    simpa [rcs] using this
theorem rcs_set : ∀ (rs : List Rc) (i : Nat) (r : Rc),(((((rcs rs).set (i * 4) (.int .i64 r.x0)).set (i * 4 + 1) (.int .i64 r.y0)).set (i * 4 + 2) (.int .i64 r.x1)).set (i * 4 + 3) (.int .i64 r.y1)) = rcs (rs.set i r)
  | [],i,r => by simp [rcs]
  | a :: rs,0,r => rfl
  | a :: rs,i + 1,r => by
    have := rcs_set rs i r
    rw [show (i + 1) * 4 = i * 4 + 1 + 1 + 1 + 1 by omega,show i * 4 + 1 + 1 + 1 + 1 + 2 = i * 4 + 2 + 1 + 1 + 1 + 1 by omega,show i * 4 + 1 + 1 + 1 + 1 + 3 = i * 4 + 3 + 1 + 1 + 1 + 1 by omega]
    simp only [rcs,List.set_cons_succ]
    rw [this]
theorem rbox_set {W : World} {O : Nat} {rs : List Rc} (h : Box W O (rcs rs)) (i : Nat) (r : Rc) : Box ((((W.setCell ⟨O,i * 4,none⟩ (.int .i64 r.x0)).setCell ⟨O,i * 4 + 1,none⟩ (.int .i64 r.y0)).setCell ⟨O,i * 4 + 2,none⟩ (.int .i64 r.x1)).setCell ⟨O,i * 4 + 3,none⟩ (.int .i64 r.y1)) O (rcs (rs.set i r)) := by
  rw [← rcs_set]
  exact (((h.self _ _).self _ _).self _ _).self _ _
theorem rbox_get {W : World} {O : Nat} {rs : List Rc} (h : Box W O (rcs rs)) {i : Nat} {r : Rc} (hi : rs[i]? = some r) : W.cell? ⟨O,i * 4,none⟩ = some (.int .i64 r.x0) ∧ W.cell? ⟨O,i * 4 + 1,none⟩ = some (.int .i64 r.y0) ∧ W.cell? ⟨O,i * 4 + 2,none⟩ = some (.int .i64 r.x1) ∧ W.cell? ⟨O,i * 4 + 3,none⟩ = some (.int .i64 r.y1) := by
  obtain ⟨h0,h1,h2,h3⟩ := rcs_get rs i r hi
  exact ⟨h.cell _ h0,h.cell _ h1,h.cell _ h2,h.cell _ h3⟩
theorem rcs_zero (n : Nat) : (madeCells (Value.agg #[.int .i64 0,.int .i64 0,.int .i64 0,.int .i64 0]).cells (n * 4)).toList = rcs (List.replicate n Rc.zero) := by
  have e : rcs (List.replicate n Rc.zero) = List.replicate (n * 4) (.int .i64 0) := by
    induction n with
    | zero => rfl
    | succ n ih =>
      rw [List.replicate_succ,show (n + 1) * 4 = n * 4 + 1 + 1 + 1 + 1 by omega,List.replicate_succ,List.replicate_succ,List.replicate_succ,List.replicate_succ,← ih]
      rfl
  rw [e]
  apply List.ext_getElem?
  intro j
  by_cases hj : j < n * 4
  · have h4 : j % 4 < 4 := Nat.mod_lt _ (by omega)
    have : ∀ k,k < 4 → ([Value.int .i64 0,.int .i64 0,.int .i64 0,.int .i64 0] : List Value)[k]?.getD default = .int .i64 0 := by
      intro k hk
      match k,hk with
      | 0,_ => rfl
      | 1,_ => rfl
      | 2,_ => rfl
      | 3,_ => rfl
    simp [madeCells,hj,Value.cells]
    exact this _ h4
  · simp [madeCells,hj]
theorem box_own4 {w : World} {B n b : Nat} {e : TypeId} {xs : List Value} (h : w.ownsRow B e 4 (.slice (some ⟨b,0,none⟩) n n) n xs) : Box w b xs := by
  rcases h.2 with ⟨h,_⟩ | ⟨g,cap,cur,h1,_,hb,_,_,hs,ht⟩
  · cases h
  · cases h1
    refine ⟨e,?_⟩
    rw [hb]
    have : cur.toList = xs := by rw [← ht,List.take_of_length_le (by simp; omega)]
    subst this
    simp
theorem infoRc : (Tryz.prog.info? 26).map (fun i => (i.zero,i.size,i.bytes)) = some (some (.agg #[.int .i64 0,.int .i64 0,.int .i64 0,.int .i64 0]),4,32) := by kernel_rfl
def ofR (nd : Nd) (want : Rc) : Rc := if want.emp then Rc.zero else oneN nd want
def OfPost (w : World) (m : Nat) (r : Rc) (e : Ending) (w' : World) : Prop := ∃ O,w.heap.size ≤ O ∧ e = .returned (.slice (some ⟨O,0,none⟩) m m) ∧ Box w' O (rcs (List.replicate m r)) ∧ Below w.heap.size w w'
def half (m i : Nat) (r : Rc) : List Rc := (List.range m).map fun j => if j < i then r else Rc.zero
theorem half_zero (m : Nat) (r : Rc) : half m 0 r = List.replicate m Rc.zero := by
  apply List.ext_getElem?
  intro j
  by_cases hj : j < m
  · simp [half,hj]
  · simp [half,hj]
theorem half_end (m : Nat) (r : Rc) : half m m r = List.replicate m r := by
  apply List.ext_getElem?
  intro j
  by_cases hj : j < m
  · simp [half,hj]
  · simp [half,hj]
theorem half_set (m i : Nat) (r : Rc) : (half m i r).set i r = half m (i + 1) r := by
  apply List.ext_getElem?
  intro j
  by_cases hj : j < m
  · by_cases e : j = i
    · subst e
      rw [List.getElem?_set_self (by simp [half]; exact hj)]
      simp [half,hj]
    · rw [List.getElem?_set_ne (fun h => e h.symm)]
      simp [half,hj,show (j < i + 1) ↔ j < i by omega]
  · rw [List.getElem?_eq_none (by simp [half]; omega),List.getElem?_eq_none (by simp [half]; omega)]
set_option maxRecDepth 4000 in
set_option maxHeartbeats 3200000 in
theorem needof_c (op : Int) (iv pv : Value) (ins p : List Int) (want : Rc) (w : World) {F : Nat → Prop} (hF : ∀ b,F b → b < w.heap.size) (hp : SlOf RInt 1 F w pv p) (hi : SlOf RInt 1 F w iv ins) (hil : ins.length ≤ 1000) (hok : PaOk ⟨op,ins,p⟩) (hw : RcP want) :
    Calls Tryz.prog 49 #[.agg #[.int .i64 op,iv,pv],rv want] w (OfPost w ins.length (ofR ⟨op,ins,p⟩ want)) := by
  have hi' := hi
  have hp' := hp
  obtain ⟨ia,ic,hiv,hic1,hicm,_⟩ := hi'
  obtain ⟨pa,pc,hpv,_,_⟩ := hp'
  subst hiv hpv
  have HP : Hid (SlOf RInt 1 F w (.slice pa p.length pc) p ∧ (∀ b,F b → b < w.heap.size) ∧ PaOk ⟨op,ins,p⟩ ∧ RcP want) := ⟨hp,hF,hok,hw⟩
  obtain ⟨iR,hiR,hz0,hz1,hz2⟩ := info_parts infoRc
  clear hp hi hF hok hw
  obtain ⟨x0,y0,x1,y1⟩ := want
  have h0 := Box.new w [.int .i64 op,.slice ia ins.length ic,.slice pa p.length pc] 44
  have h1 := Box.new (w.alloc (.cells #[.int .i64 op,.slice ia ins.length ic,.slice pa p.length pc] 44)) (cl4 ⟨x0,y0,x1,y1⟩) 26
  rw [size_alloc] at h1
  have J0 : Hid (Box ((w.alloc (.cells #[.int .i64 op,.slice ia ins.length ic,.slice pa p.length pc] 44)).alloc (.cells (cs4 x0 y0 x1 y1) 26)) w.heap.size [.int .i64 op,.slice ia ins.length ic,.slice pa p.length pc] ∧ Box ((w.alloc (.cells #[.int .i64 op,.slice ia ins.length ic,.slice pa p.length pc] 44)).alloc (.cells (cs4 x0 y0 x1 y1) 26)) (w.heap.size + 1) (cl4 ⟨x0,y0,x1,y1⟩) ∧ Below w.heap.size w ((w.alloc (.cells #[.int .i64 op,.slice ia ins.length ic,.slice pa p.length pc] 44)).alloc (.cells (cs4 x0 y0 x1 y1) 26))) :=
    ⟨h0.alloc _,h1,(below_new w _).alloc (by rw [size_alloc]; omega) _⟩
  clear h0 h1
  go_enter Tryz.func49,Tryz.ntmps49
  go_wp2_with (at_make; refine wpList_make_full _ rfl _ _ 63 rfl (w.heap.size + 2) 26 iR (.agg #[.int .i64 0,.int .i64 0,.int .i64 0,.int .i64 0]) 4 Tryz.underlying63 hiR hz0 hz1 .i64 .i64 _ _ ins.length rfl rfl rfl rfl (by rw [hz2]; omega) (by unfold maxLen; omega) (by simp) ?_; intro w2 hown2 hgrow2; have HO : Hid (w2.ownsRow (w.heap.size + 2) 26 4 (.slice (some ⟨w.heap.size + 1 + 1,0,none⟩) ins.length ins.length) ins.length (madeCells (Value.agg #[.int .i64 0,.int .i64 0,.int .i64 0,.int .i64 0]).cells (ins.length * 4)).toList ∧ ((w.alloc (.cells #[.int .i64 op,.slice ia ins.length ic,.slice pa p.length pc] 44)).alloc (.cells (cs4 x0 y0 x1 y1) 26)).grownBy w2 none) := ⟨by simpa using hown2,hgrow2⟩; clear hown2 hgrow2; have J2 : Hid (Box w2 w.heap.size [.int .i64 op,.slice ia ins.length ic,.slice pa p.length pc] ∧ Box w2 (w.heap.size + 1) (cl4 ⟨x0,y0,x1,y1⟩) ∧ Box w2 (w.heap.size + 1 + 1) (rcs (half ins.length 0 (oneN ⟨op,ins,p⟩ ⟨x0,y0,x1,y1⟩))) ∧ Below w.heap.size w w2) := ⟨J0.out.1.grown' HO.out.2 (by simp),J0.out.2.1.grown' HO.out.2 (by simp),by rw [half_zero,← rcs_zero]; exact box_own4 HO.out.1,J0.out.2.2.grown HO.out.2 J0.out.2.2.size (fun k hk => by cases hk)⟩; clear HO; have a0 := J2.out.2.1.cell 0 rfl; have a1 := J2.out.2.1.cell 1 rfl; have a2 := J2.out.2.1.cell 2 rfl; have a3 := J2.out.2.1.cell 3 rfl)
  refine (empty_c x0 y0 x1 y1 w2).mono ?_; rintro e W1 ⟨rfl,hb1⟩
  have J3 : Hid (Box W1 w.heap.size [.int .i64 op,.slice ia ins.length ic,.slice pa p.length pc] ∧ Box W1 (w.heap.size + 1) (cl4 ⟨x0,y0,x1,y1⟩) ∧ Box W1 (w.heap.size + 1 + 1) (rcs (half ins.length 0 (oneN ⟨op,ins,p⟩ ⟨x0,y0,x1,y1⟩))) ∧ Below w.heap.size w W1) := ⟨J2.out.1.call hb1,J2.out.2.1.call hb1,J2.out.2.2.1.call hb1,J2.out.2.2.2.trans (hb1.mono J2.out.2.2.2.size)⟩
  clear hb1 J0 J2 a0 a1 a2 a3
  cases he : Rc.emp ⟨x0,y0,x1,y1⟩ with
  | true =>
    have HE : Hid (OfPost w ins.length (ofR ⟨op,ins,p⟩ ⟨x0,y0,x1,y1⟩) (.returned (.slice (some ⟨w.heap.size + 1 + 1,0,none⟩) ins.length ins.length)) W1) := by
      refine ⟨_,by omega,rfl,?_,J3.out.2.2.2⟩
      have : ofR ⟨op,ins,p⟩ ⟨x0,y0,x1,y1⟩ = Rc.zero := by unfold ofR; rw [he]; rfl
      rw [this,← half_zero _ (oneN ⟨op,ins,p⟩ ⟨x0,y0,x1,y1⟩)]
      exact J3.out.2.2.1
    clear he
    go_wp2_with fail
    go_ret
    exact HE.out
  | false =>
    have HR : Hid (ofR ⟨op,ins,p⟩ ⟨x0,y0,x1,y1⟩ = oneN ⟨op,ins,p⟩ ⟨x0,y0,x1,y1⟩) := by
      have : ofR ⟨op,ins,p⟩ ⟨x0,y0,x1,y1⟩ = oneN ⟨op,ins,p⟩ ⟨x0,y0,x1,y1⟩ := by unfold ofR; rw [he]; rfl
      exact this
    clear he
    go_wp2_with fail
    go_loopw [16] (fun jv wr => ∃ j : Nat,j ≤ ins.length ∧ jv = .int .i64 j ∧ Box wr w.heap.size [.int .i64 op,.slice ia ins.length ic,.slice pa p.length pc] ∧ Box wr (w.heap.size + 1) (cl4 ⟨x0,y0,x1,y1⟩) ∧ Box wr (w.heap.size + 1 + 1) (rcs (half ins.length j (oneN ⟨op,ins,p⟩ ⟨x0,y0,x1,y1⟩))) ∧ Below w.heap.size w wr) (fun jv _ => ins.length - (intOf jv).toNat)
    case atStart => exact ⟨0,Nat.zero_le _,rfl,J3.out⟩
    case round =>
      obtain ⟨j,hj,rfl,hr⟩ := hrel
      have HRR : Hid (Box wr w.heap.size [.int .i64 op,.slice ia ins.length ic,.slice pa p.length pc] ∧ Box wr (w.heap.size + 1) (cl4 ⟨x0,y0,x1,y1⟩) ∧ Box wr (w.heap.size + 1 + 1) (rcs (half ins.length j (oneN ⟨op,ins,p⟩ ⟨x0,y0,x1,y1⟩))) ∧ Below w.heap.size w wr) := hr
      clear J3 hr
      by_cases hjl : j < ins.length
      · have a0 := HRR.out.2.1.cell 0 rfl
        have a1 := HRR.out.2.1.cell 1 rfl
        have a2 := HRR.out.2.1.cell 2 rfl
        have a3 := HRR.out.2.1.cell 3 rfl
        have n0 := HRR.out.1.cell 0 rfl
        have n1 := HRR.out.1.cell 1 rfl
        have n2 := HRR.out.1.cell 2 rfl
        have hj0 : (0 : Int) ≤ (j : Int) := by omega
        have hj1 : (j : Int) < (ins.length : Int) := by omega
        go_wp2_with fail
        refine (needone_c op (.slice ia ins.length ic) (.slice pa p.length pc) ins p ⟨x0,y0,x1,y1⟩ wr (fun b hb => Nat.lt_of_lt_of_le (HP.out.2.1 b hb) HRR.out.2.2.2.size) (HP.out.1.same RInt.ok (Same.of_below HRR.out.2.2.2 HP.out.2.1)) ⟨_,_,_,rfl⟩ HP.out.2.2.1 HP.out.2.2.2).mono ?_; rintro e W2 ⟨rfl,hb2⟩
        have H2 : Hid (Box W2 w.heap.size [.int .i64 op,.slice ia ins.length ic,.slice pa p.length pc] ∧ Box W2 (w.heap.size + 1) (cl4 ⟨x0,y0,x1,y1⟩) ∧ Box W2 (w.heap.size + 1 + 1) (rcs (half ins.length j (oneN ⟨op,ins,p⟩ ⟨x0,y0,x1,y1⟩))) ∧ Below w.heap.size w W2) := ⟨HRR.out.1.call hb2,HRR.out.2.1.call hb2,HRR.out.2.2.1.call hb2,HRR.out.2.2.2.trans (hb2.mono HRR.out.2.2.2.size)⟩
        clear hb2 a0 a1 a2 a3 n0 n1 n2 HRR
        have hz : (half ins.length j (oneN ⟨op,ins,p⟩ ⟨x0,y0,x1,y1⟩))[j]? = some Rc.zero := by simp [half,hjl]
        obtain ⟨o0,o1,o2,o3⟩ := rbox_get H2.out.2.2.1 hz
        have f0 := H2.out.2.2.1.frozen (j * 4)
        have f1 := H2.out.2.2.1.frozen (j * 4 + 1)
        have f2 := H2.out.2.2.1.frozen (j * 4 + 2)
        have f3 := H2.out.2.2.1.frozen (j * 4 + 3)
        obtain ⟨q,hq⟩ : ∃ q,q = oneN ⟨op,ins,p⟩ ⟨x0,y0,x1,y1⟩ := ⟨_,rfl⟩
        have HQ : Hid (q = oneN ⟨op,ins,p⟩ ⟨x0,y0,x1,y1⟩) := hq
        rw [← hq] at H2 ⊢
        have H3 : Hid (Box ((((W2.setCell ⟨w.heap.size + 1 + 1,j * 4,none⟩ (.int .i64 q.x0)).setCell ⟨w.heap.size + 1 + 1,j * 4 + 1,none⟩ (.int .i64 q.y0)).setCell ⟨w.heap.size + 1 + 1,j * 4 + 2,none⟩ (.int .i64 q.x1)).setCell ⟨w.heap.size + 1 + 1,j * 4 + 3,none⟩ (.int .i64 q.y1)) w.heap.size [.int .i64 op,.slice ia ins.length ic,.slice pa p.length pc] ∧ Box ((((W2.setCell ⟨w.heap.size + 1 + 1,j * 4,none⟩ (.int .i64 q.x0)).setCell ⟨w.heap.size + 1 + 1,j * 4 + 1,none⟩ (.int .i64 q.y0)).setCell ⟨w.heap.size + 1 + 1,j * 4 + 2,none⟩ (.int .i64 q.x1)).setCell ⟨w.heap.size + 1 + 1,j * 4 + 3,none⟩ (.int .i64 q.y1)) (w.heap.size + 1) (cl4 ⟨x0,y0,x1,y1⟩) ∧
            Box ((((W2.setCell ⟨w.heap.size + 1 + 1,j * 4,none⟩ (.int .i64 q.x0)).setCell ⟨w.heap.size + 1 + 1,j * 4 + 1,none⟩ (.int .i64 q.y0)).setCell ⟨w.heap.size + 1 + 1,j * 4 + 2,none⟩ (.int .i64 q.x1)).setCell ⟨w.heap.size + 1 + 1,j * 4 + 3,none⟩ (.int .i64 q.y1)) (w.heap.size + 1 + 1) (rcs (half ins.length (j + 1) q)) ∧ Below w.heap.size w ((((W2.setCell ⟨w.heap.size + 1 + 1,j * 4,none⟩ (.int .i64 q.x0)).setCell ⟨w.heap.size + 1 + 1,j * 4 + 1,none⟩ (.int .i64 q.y0)).setCell ⟨w.heap.size + 1 + 1,j * 4 + 2,none⟩ (.int .i64 q.x1)).setCell ⟨w.heap.size + 1 + 1,j * 4 + 3,none⟩ (.int .i64 q.y1))) := by
          refine ⟨(((H2.out.1.set (by simp; omega) _).set (by simp; omega) _).set (by simp; omega) _).set (by simp; omega) _,(((H2.out.2.1.set (by simp) _).set (by simp) _).set (by simp) _).set (by simp) _,?_,(((H2.out.2.2.2.setCell (by simp; omega) _).setCell (by simp; omega) _).setCell (by simp; omega) _).setCell (by simp; omega) _⟩
          rw [← half_set]
          exact rbox_set H2.out.2.2.1 j q
        clear hq hz H2
        go_wp2_with fail
        go_roundw
        case rel => exact ⟨j + 1,by omega,by go_num,by rw [← HQ.out]; exact H3.out⟩
        case measure => simp [intOf]; omega
      · have ej : j = ins.length := by omega
        subst ej
        have HE : Hid (OfPost w ins.length (ofR ⟨op,ins,p⟩ ⟨x0,y0,x1,y1⟩) (.returned (.slice (some ⟨w.heap.size + 1 + 1,0,none⟩) ins.length ins.length)) wr) := by
          refine ⟨_,by omega,rfl,?_,HRR.out.2.2.2⟩
          rw [HR.out,← half_end]
          exact HRR.out.2.2.1
        go_wp2_with fail
        go_ret
        exact HE.out
end Go.Proofs.YtaoamkbcegadcaaGreatDoor
