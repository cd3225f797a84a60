/- Texts joined: XRc XRd XTail XRe XRf XNo XNp XNq. -/
import Derived.Test.YtgodhpampaleeaaDoorAa
import Derived.Lib.MinMax
import Derived.Laws.Rows
import Derived.Test.YtgodhpampaleeaaDoorAc
import Derived.Test.YtgodhpampaleeaaDoorAb
set_option maxRecDepth 4000
/- Layer 3: rectangles. -/
namespace Go.Proofs.YtgodhpampaleeaaDoor
open Go.RowKit Go.Bx Go.Od Go.Hp
attribute [local go_sem ↓] Go.wp_at_zero Go.wp_at_succ
set_option linter.unusedVariables false

structure Rc where
  x0 : Int
  y0 : Int
  x1 : Int
  y1 : Int
def Rc.zero : Rc := ⟨0, 0, 0, 0⟩
abbrev rv (r : Rc) : Value := .agg #[.int .i64 r.x0, .int .i64 r.y0, .int .i64 r.x1, .int .i64 r.y1]
def Rc.emp (r : Rc) : Bool := decide (r.x1 ≤ r.x0) || decide (r.y1 ≤ r.y0)
abbrev cs4 (x0 y0 x1 y1 : Int) : Array Value := #[.int .i64 x0, .int .i64 y0, .int .i64 x1, .int .i64 y1]
theorem box4 {W : World} {b : Nat} {x0 y0 x1 y1 : Int} (h : Box W b [.int .i64 x0, .int .i64 y0, .int .i64 x1, .int .i64 y1]) : W.cell? ⟨b, 0, none⟩ = some (.int .i64 x0) ∧ W.cell? ⟨b, 1, none⟩ = some (.int .i64 y0) ∧ W.cell? ⟨b, 2, none⟩ = some (.int .i64 x1) ∧ W.cell? ⟨b, 3, none⟩ = some (.int .i64 y1) :=
  ⟨h.cell 0 rfl, h.cell 1 rfl, h.cell 2 rfl, h.cell 3 rfl⟩
theorem below_new (w : World) (o : Obj) : Below w.heap.size w (w.alloc o) := (Below.refl _ _).alloc (Nat.le_refl _) o
theorem empty_c (x0 y0 x1 y1 : Int) (w : World) : Calls Tryd.prog 38 #[rv ⟨x0, y0, x1, y1⟩] w (PPost w (.bool (Rc.emp ⟨x0, y0, x1, y1⟩))) := by
  by_cases h : x1 ≤ x0
  · have hd : decide (x1 ≤ x0) = true := decide_eq_true h
    have HE : Hid (Rc.emp ⟨x0, y0, x1, y1⟩ = true) := by
      have : Rc.emp ⟨x0, y0, x1, y1⟩ = true := by simp [Rc.emp, h]
      exact this
    clear h
    go_enter Tryd.func38, Tryd.ntmps38
    go_wp2_with fail
    go_ret
    exact ⟨ret_b HE.out.symm, below_new _ _⟩
  · have hd : decide (x1 ≤ x0) = false := decide_eq_false h
    have HE : Hid (Rc.emp ⟨x0, y0, x1, y1⟩ = decide (y1 ≤ y0)) := by
      have : Rc.emp ⟨x0, y0, x1, y1⟩ = decide (y1 ≤ y0) := by simp [Rc.emp, h]
      exact this
    clear h
    go_enter Tryd.func38, Tryd.ntmps38
    go_wp2_with fail
    go_ret
    exact ⟨ret_b HE.out.symm, below_new _ _⟩
def joinR (a b : Rc) : Rc := if a.emp then (if b.emp then Rc.zero else b) else if b.emp then a else ⟨min a.x0 b.x0, min a.y0 b.y0, max a.x1 b.x1, max a.y1 b.y1⟩
end Go.Proofs.YtgodhpampaleeaaDoor
/- Layer 3: Join, Meet, Within. -/
namespace Go.Proofs.YtgodhpampaleeaaDoor
open Go.RowKit Go.Bx Go.Od Go.Hp
attribute [local go_sem ↓] Go.wp_at_zero Go.wp_at_succ
set_option linter.unusedVariables false

abbrev cl4 (r : Rc) : List Value := [.int .i64 r.x0, .int .i64 r.y0, .int .i64 r.x1, .int .i64 r.y1]
def J3 (w W : World) (a b r : Rc) : Prop := Box W w.heap.size (cl4 a) ∧ Box W (w.heap.size + 1) (cl4 b) ∧ Box W (w.heap.size + 2) (cl4 r) ∧ Below w.heap.size w W
theorem J3.call {w W W' : World} {a b r : Rc} (h : J3 w W a b r) (hb : Below W.heap.size W W') : J3 w W' a b r := ⟨h.1.call hb, h.2.1.call hb, h.2.2.1.call hb, h.2.2.2.trans (hb.mono h.2.2.2.size)⟩
theorem J3.new (w : World) (a b r : Rc) (t : TypeId) : J3 w (((w.alloc (.cells (cl4 a).toArray t)).alloc (.cells (cl4 b).toArray t)).alloc (.cells (cl4 r).toArray t)) a b r := by
  have h1 := Box.new (w.alloc (.cells (cl4 a).toArray t)) (cl4 b) t
  have h2 := Box.new ((w.alloc (.cells (cl4 a).toArray t)).alloc (.cells (cl4 b).toArray t)) (cl4 r) t
  rw [size_alloc] at h1
  rw [size_alloc, size_alloc] at h2
  exact ⟨((Box.new w (cl4 a) t).alloc _).alloc _, h1.alloc _, h2, ((below_new w _).alloc (by rw [size_alloc]; omega) _).alloc (by rw [size_alloc, size_alloc]; omega) _⟩
theorem J3.cells {w W : World} {a b r : Rc} (h : J3 w W a b r) :
    W.cell? ⟨w.heap.size, 0, none⟩ = some (.int .i64 a.x0) ∧ W.cell? ⟨w.heap.size, 1, none⟩ = some (.int .i64 a.y0) ∧ W.cell? ⟨w.heap.size, 2, none⟩ = some (.int .i64 a.x1) ∧ W.cell? ⟨w.heap.size, 3, none⟩ = some (.int .i64 a.y1) ∧
    W.cell? ⟨w.heap.size + 1, 0, none⟩ = some (.int .i64 b.x0) ∧ W.cell? ⟨w.heap.size + 1, 1, none⟩ = some (.int .i64 b.y0) ∧ W.cell? ⟨w.heap.size + 1, 2, none⟩ = some (.int .i64 b.x1) ∧ W.cell? ⟨w.heap.size + 1, 3, none⟩ = some (.int .i64 b.y1) ∧
    W.cell? ⟨w.heap.size + 1 + 1, 0, none⟩ = some (.int .i64 r.x0) ∧ W.cell? ⟨w.heap.size + 1 + 1, 1, none⟩ = some (.int .i64 r.y0) ∧ W.cell? ⟨w.heap.size + 1 + 1, 2, none⟩ = some (.int .i64 r.x1) ∧ W.cell? ⟨w.heap.size + 1 + 1, 3, none⟩ = some (.int .i64 r.y1) ∧
    W.frozen? ⟨w.heap.size + 1 + 1, 0, none⟩ = false ∧ W.frozen? ⟨w.heap.size + 1 + 1, 1, none⟩ = false ∧ W.frozen? ⟨w.heap.size + 1 + 1, 2, none⟩ = false ∧ W.frozen? ⟨w.heap.size + 1 + 1, 3, none⟩ = false :=
  ⟨h.1.cell 0 rfl, h.1.cell 1 rfl, h.1.cell 2 rfl, h.1.cell 3 rfl, h.2.1.cell 0 rfl, h.2.1.cell 1 rfl, h.2.1.cell 2 rfl, h.2.1.cell 3 rfl, h.2.2.1.cell 0 rfl, h.2.2.1.cell 1 rfl, h.2.2.1.cell 2 rfl, h.2.2.1.cell 3 rfl, h.2.2.1.frozen 0, h.2.2.1.frozen 1, h.2.2.1.frozen 2, h.2.2.1.frozen 3⟩
/-- four stores to a block above -/
theorem J3.set4 {w W : World} {a b r : Rc} (h : J3 w W a b r) (u0 u1 u2 u3 : Value) : Below w.heap.size w ((((W.setCell ⟨w.heap.size + 1 + 1, 0, none⟩ u0).setCell ⟨w.heap.size + 1 + 1, 1, none⟩ u1).setCell ⟨w.heap.size + 1 + 1, 2, none⟩ u2).setCell ⟨w.heap.size + 1 + 1, 3, none⟩ u3) :=
  (((h.2.2.2.setCell (by simp; omega) _).setCell (by simp; omega) _).setCell (by simp; omega) _).setCell (by simp; omega) _
theorem set4_box {W : World} {g : Nat} {r : Rc} (h : Box W g (cl4 r)) (x0 y0 x1 y1 : Int) : Box ((((W.setCell ⟨g, 0, none⟩ (.int .i64 x0)).setCell ⟨g, 1, none⟩ (.int .i64 y0)).setCell ⟨g, 2, none⟩ (.int .i64 x1)).setCell ⟨g, 3, none⟩ (.int .i64 y1)) g (cl4 ⟨x0, y0, x1, y1⟩) :=
  (((h.self 0 _).self 1 _).self 2 _).self 3 _
theorem ret_rect {fn : Func} {p : Tmp} (h : fn.results = #[.cell p 25]) {a : Act} {W : World} {g : Nat} {r : Rc} {R : Ending → World → Prop} (hp : a.tmps.getD p undef = .pointer (some ⟨g, 0, none⟩)) (hx : Box W g (cl4 r)) (hd : a.defers = []) (hR : R (.returned (rv r)) W) : bodyPost Tryd.prog fn R .ret a W := by
  obtain ⟨t, ht⟩ := hx
  exact bodyPost_ret_by (results_cell_row h a.tmps W g t _ (0, 0) _ hp ht Tryd.underlying24 rfl (by kernel_rfl)) hd hR
theorem joinR_tt {a b : Rc} (ha : a.emp = true) (hb : b.emp = true) : joinR a b = Rc.zero := by unfold joinR; rw [if_pos ha, if_pos hb]
theorem joinR_tf {a b : Rc} (ha : a.emp = true) (hb : b.emp = false) : joinR a b = b := by unfold joinR; rw [if_pos ha, hb]; rfl
theorem joinR_ft {a b : Rc} (ha : a.emp = false) (hb : b.emp = true) : joinR a b = a := by unfold joinR; rw [ha, hb]; rfl
theorem joinR_ff {a b : Rc} (ha : a.emp = false) (hb : b.emp = false) : joinR a b = ⟨min a.x0 b.x0, min a.y0 b.y0, max a.x1 b.x1, max a.y1 b.y1⟩ := by unfold joinR; rw [ha, hb]; rfl
set_option maxHeartbeats 3200000 in
theorem join_c (a b : Rc) (w : World) : Calls Tryd.prog 21 #[rv a, rv b] w (PPost w (rv (joinR a b))) := by
  obtain ⟨x0, y0, x1, y1⟩ := a
  obtain ⟨x2, y2, x3, y3⟩ := b
  have J0 : Hid (J3 w (((w.alloc (.cells (cs4 x0 y0 x1 y1) 25)).alloc (.cells (cs4 x2 y2 x3 y3) 25)).alloc (.cells (cs4 0 0 0 0) 25)) ⟨x0, y0, x1, y1⟩ ⟨x2, y2, x3, y3⟩ ⟨0, 0, 0, 0⟩) := J3.new w ⟨x0, y0, x1, y1⟩ ⟨x2, y2, x3, y3⟩ ⟨0, 0, 0, 0⟩ 25
  go_enter Tryd.func21, Tryd.ntmps21
  go_wp2_with fail
  generalize (((w.alloc (.cells (cs4 x0 y0 x1 y1) 25)).alloc (.cells (cs4 x2 y2 x3 y3) 25)).alloc (.cells (cs4 0 0 0 0) 25)) = W0 at *
  refine (empty_c x0 y0 x1 y1 W0).mono ?_; rintro e W1 ⟨rfl, hb1⟩
  have J1 : Hid (J3 w W1 ⟨x0, y0, x1, y1⟩ ⟨x2, y2, x3, y3⟩ ⟨0, 0, 0, 0⟩) := J0.out.call hb1
  clear hb1 J0
  obtain ⟨a0, a1, a2, a3, b0, b1, b2, b3, r0, r1, r2, r3, f0, f1, f2, f3⟩ := J1.out.cells
  cases ha : Rc.emp ⟨x0, y0, x1, y1⟩ with
  | true =>
    go_wp2_with fail
    refine (empty_c x2 y2 x3 y3 W1).mono ?_; rintro e W2 ⟨rfl, hb2⟩
    have J2 : Hid (J3 w W2 ⟨x0, y0, x1, y1⟩ ⟨x2, y2, x3, y3⟩ ⟨0, 0, 0, 0⟩) := J1.out.call hb2
    clear hb2 a0 a1 a2 a3 b0 b1 b2 b3 r0 r1 r2 r3 f0 f1 f2 f3
    obtain ⟨a0, a1, a2, a3, b0, b1, b2, b3, r0, r1, r2, r3, f0, f1, f2, f3⟩ := J2.out.cells
    cases hb : Rc.emp ⟨x2, y2, x3, y3⟩ with
    | true =>
      have HJ : Hid (joinR ⟨x0, y0, x1, y1⟩ ⟨x2, y2, x3, y3⟩ = ⟨0, 0, 0, 0⟩) := joinR_tt ha hb
      clear ha hb
      go_wp2_with fail
      exact ret_rect rfl rfl (set4_box J2.out.2.2.1 _ _ _ _) rfl ⟨by rw [HJ.out], J2.out.set4 _ _ _ _⟩
    | false =>
      have HJ : Hid (joinR ⟨x0, y0, x1, y1⟩ ⟨x2, y2, x3, y3⟩ = ⟨x2, y2, x3, y3⟩) := joinR_tf ha hb
      clear hb
      go_wp2_with fail
      refine (empty_c x0 y0 x1 y1 W2).mono ?_; rintro e W3 ⟨rfl, hb3⟩
      have J3 : Hid (J3 w W3 ⟨x0, y0, x1, y1⟩ ⟨x2, y2, x3, y3⟩ ⟨0, 0, 0, 0⟩) := J2.out.call hb3
      clear hb3 a0 a1 a2 a3 b0 b1 b2 b3 r0 r1 r2 r3 f0 f1 f2 f3
      obtain ⟨a0, a1, a2, a3, b0, b1, b2, b3, r0, r1, r2, r3, f0, f1, f2, f3⟩ := J3.out.cells
      rw [ha]
      clear ha
      go_wp2_with fail
      exact ret_rect rfl rfl (set4_box J3.out.2.2.1 _ _ _ _) rfl ⟨by rw [HJ.out], J3.out.set4 _ _ _ _⟩
  | false =>
    go_wp2_with fail
    refine (empty_c x0 y0 x1 y1 W1).mono ?_; rintro e W2 ⟨rfl, hb2⟩
    have J2 : Hid (J3 w W2 ⟨x0, y0, x1, y1⟩ ⟨x2, y2, x3, y3⟩ ⟨0, 0, 0, 0⟩) := J1.out.call hb2
    clear hb2 a0 a1 a2 a3 b0 b1 b2 b3 r0 r1 r2 r3 f0 f1 f2 f3
    obtain ⟨a0, a1, a2, a3, b0, b1, b2, b3, r0, r1, r2, r3, f0, f1, f2, f3⟩ := J2.out.cells
    have HA : Hid (Rc.emp ⟨x0, y0, x1, y1⟩ = false) := ha
    rw [ha]
    clear ha
    go_wp2_with fail
    refine (empty_c x2 y2 x3 y3 W2).mono ?_; rintro e W3 ⟨rfl, hb3⟩
    have J3 : Hid (J3 w W3 ⟨x0, y0, x1, y1⟩ ⟨x2, y2, x3, y3⟩ ⟨0, 0, 0, 0⟩) := J2.out.call hb3
    clear hb3 a0 a1 a2 a3 b0 b1 b2 b3 r0 r1 r2 r3 f0 f1 f2 f3
    obtain ⟨a0, a1, a2, a3, b0, b1, b2, b3, r0, r1, r2, r3, f0, f1, f2, f3⟩ := J3.out.cells
    cases hb : Rc.emp ⟨x2, y2, x3, y3⟩ with
    | true =>
      have HJ : Hid (joinR ⟨x0, y0, x1, y1⟩ ⟨x2, y2, x3, y3⟩ = ⟨x0, y0, x1, y1⟩) := joinR_ft HA.out hb
      clear hb
      go_wp2_with fail
      exact ret_rect rfl rfl (set4_box J3.out.2.2.1 _ _ _ _) rfl ⟨by rw [HJ.out], J3.out.set4 _ _ _ _⟩
    | false =>
      have HJ : Hid (joinR ⟨x0, y0, x1, y1⟩ ⟨x2, y2, x3, y3⟩ = ⟨min x0 x2, min y0 y2, max x1 x3, max y1 y3⟩) := joinR_ff HA.out hb
      clear hb
      go_wp2_with fail
      exact ret_rect rfl rfl (set4_box J3.out.2.2.1 _ _ _ _) rfl ⟨by rw [HJ.out], J3.out.set4 _ _ _ _⟩
/-! ### Meet -/
def boxR (r : Rc) : Rc := if r.emp then Rc.zero else r
def meetR (a b : Rc) : Rc := boxR ⟨max a.x0 b.x0, max a.y0 b.y0, min a.x1 b.x1, min a.y1 b.y1⟩
set_option maxHeartbeats 3200000 in
theorem meet_c (a b : Rc) (w : World) : Calls Tryd.prog 24 #[rv a, rv b] w (PPost w (rv (meetR a b))) := by
  obtain ⟨x0, y0, x1, y1⟩ := a
  obtain ⟨x2, y2, x3, y3⟩ := b
  have J0 : Hid (J3 w (((w.alloc (.cells (cs4 x0 y0 x1 y1) 25)).alloc (.cells (cs4 x2 y2 x3 y3) 25)).alloc (.cells (cs4 0 0 0 0) 25)) ⟨x0, y0, x1, y1⟩ ⟨x2, y2, x3, y3⟩ ⟨0, 0, 0, 0⟩) := J3.new w ⟨x0, y0, x1, y1⟩ ⟨x2, y2, x3, y3⟩ ⟨0, 0, 0, 0⟩ 25
  go_enter Tryd.func24, Tryd.ntmps24
  go_wp2_with fail
  have HB : Hid (Below w.heap.size w (((w.alloc (.cells (cs4 x0 y0 x1 y1) 25)).alloc (.cells (cs4 x2 y2 x3 y3) 25)).alloc (.cells (cs4 0 0 0 0) 25)) ∧ (((w.alloc (.cells (cs4 x0 y0 x1 y1) 25)).alloc (.cells (cs4 x2 y2 x3 y3) 25)).alloc (.cells (cs4 0 0 0 0) 25)).heap.size = w.heap.size + 1 + 1 + 1) := ⟨J0.out.2.2.2, by simp⟩
  generalize (((w.alloc (.cells (cs4 x0 y0 x1 y1) 25)).alloc (.cells (cs4 x2 y2 x3 y3) 25)).alloc (.cells (cs4 0 0 0 0) 25)) = W0 at *
  have Y := Box.new W0 (cl4 ⟨max x0 x2, max y0 y2, min x1 x3, min y1 y3⟩) 25
  rw [HB.out.2] at Y
  have J1 : Hid (J3 w (W0.alloc (.cells (cs4 (max x0 x2) (max y0 y2) (min x1 x3) (min y1 y3)) 25)) ⟨x0, y0, x1, y1⟩ ⟨x2, y2, x3, y3⟩ ⟨0, 0, 0, 0⟩ ∧ Box (W0.alloc (.cells (cs4 (max x0 x2) (max y0 y2) (min x1 x3) (min y1 y3)) 25)) (w.heap.size + 1 + 1 + 1) (cl4 ⟨max x0 x2, max y0 y2, min x1 x3, min y1 y3⟩)) := ⟨J0.out.call (below_new _ _), Y⟩
  clear Y J0 HB
  generalize W0.alloc (.cells (cs4 (max x0 x2) (max y0 y2) (min x1 x3) (min y1 y3)) 25) = W1 at *
  refine (empty_c _ _ _ _ W1).mono ?_; rintro e W2 ⟨rfl, hb2⟩
  have J2 : Hid (J3 w W2 ⟨x0, y0, x1, y1⟩ ⟨x2, y2, x3, y3⟩ ⟨0, 0, 0, 0⟩ ∧ Box W2 (w.heap.size + 1 + 1 + 1) (cl4 ⟨max x0 x2, max y0 y2, min x1 x3, min y1 y3⟩)) := ⟨J1.out.1.call hb2, J1.out.2.call hb2⟩
  clear hb2 J1
  obtain ⟨a0, a1, a2, a3, b0, b1, b2, b3, r0, r1, r2, r3, f0, f1, f2, f3⟩ := J2.out.1.cells
  have m0 := J2.out.2.cell 0 rfl
  have m1 := J2.out.2.cell 1 rfl
  have m2 := J2.out.2.cell 2 rfl
  have m3 := J2.out.2.cell 3 rfl
  cases ha : Rc.emp ⟨max x0 x2, max y0 y2, min x1 x3, min y1 y3⟩ with
  | true =>
    have HJ : Hid (meetR ⟨x0, y0, x1, y1⟩ ⟨x2, y2, x3, y3⟩ = ⟨0, 0, 0, 0⟩) := by
      have : meetR ⟨x0, y0, x1, y1⟩ ⟨x2, y2, x3, y3⟩ = ⟨0, 0, 0, 0⟩ := by unfold meetR boxR; rw [ha]; rfl
      exact this
    clear ha
    go_wp2_with fail
    exact ret_rect rfl rfl (set4_box J2.out.1.2.2.1 _ _ _ _) rfl ⟨by rw [HJ.out], J2.out.1.set4 _ _ _ _⟩
  | false =>
    have HJ : Hid (meetR ⟨x0, y0, x1, y1⟩ ⟨x2, y2, x3, y3⟩ = ⟨max x0 x2, max y0 y2, min x1 x3, min y1 y3⟩) := by
      have : meetR ⟨x0, y0, x1, y1⟩ ⟨x2, y2, x3, y3⟩ = ⟨max x0 x2, max y0 y2, min x1 x3, min y1 y3⟩ := by unfold meetR boxR; rw [ha]; rfl
      exact this
    clear ha
    go_wp2_with fail
    exact ret_rect rfl rfl (set4_box J2.out.1.2.2.1 _ _ _ _) rfl ⟨by rw [HJ.out], J2.out.1.set4 _ _ _ _⟩
/-! ### Within -/
def wiR (a b : Rc) : Bool := a.emp || (decide (b.x0 ≤ a.x0) && decide (b.y0 ≤ a.y0) && decide (a.x1 ≤ b.x1) && decide (a.y1 ≤ b.y1))
theorem J2new (w : World) (a b : Rc) (t : TypeId) : Box ((w.alloc (.cells (cl4 a).toArray t)).alloc (.cells (cl4 b).toArray t)) w.heap.size (cl4 a) ∧ Box ((w.alloc (.cells (cl4 a).toArray t)).alloc (.cells (cl4 b).toArray t)) (w.heap.size + 1) (cl4 b) ∧ Below w.heap.size w ((w.alloc (.cells (cl4 a).toArray t)).alloc (.cells (cl4 b).toArray t)) := by
  have h1 := Box.new (w.alloc (.cells (cl4 a).toArray t)) (cl4 b) t
  rw [size_alloc] at h1
  exact ⟨(Box.new w (cl4 a) t).alloc _, h1, (below_new w _).alloc (by rw [size_alloc]; omega) _⟩
end Go.Proofs.YtgodhpampaleeaaDoor
/- A region that draws its order, whose operations read and whose callees turn nothing that was there, but for the last one, which waits for all the others: one walk, in the order of the text; the last one at its end. Plain: no program. -/
namespace Go.Bx
open Go.RowKit
set_option linter.unusedVariables false

theorem fr_congr2 {L L' : Nat → Bool} {vs vs' : Nat → Value} : ∀ (l : List Oper) (k : Nat) (a : Act), (∀ j, k ≤ j → L j = L' j ∧ (L j = true → vs j = vs' j)) → fr L vs l k a = fr L' vs' l k a
  | [], _, _, _ => rfl
  | o :: l, k, a, h => by
    have h0 := h k (Nat.le_refl _)
    have e : (if L k = true then a.put o.dst (vs k) else a) = (if L' k = true then a.put o.dst (vs' k) else a) := by
      rw [← h0.1]
      by_cases hl : L k = true
      · rw [if_pos hl, if_pos hl, h0.2 hl]
      · rw [if_neg hl, if_neg hl]
    simp only [fr]
    rw [e]
    exact fr_congr2 l (k + 1) _ fun j hj => h j (by omega)
theorem put_at2 {a a' : Act} {t : Tmp} (h : a.tmps[t]? = a'.tmps[t]?) (d : Option Tmp) (v v' : Value) (hv : d = some t → v = v') : (a.put d v).tmps[t]? = (a'.put d v').tmps[t]? := by
  by_cases e : d = some t
  · rw [hv e]; exact put_at h d v'
  · rw [put_off _ _ e, put_off _ _ e]; exact h
theorem fr_at2 {L L' : Nat → Bool} {vs vs' : Nat → Value} {t : Tmp} : ∀ (l : List Oper) (k : Nat) (a a' : Act), a.tmps[t]? = a'.tmps[t]? → (∀ j o, l[j]? = some o → o.dst = some t → L (k + j) = L' (k + j) ∧ vs (k + j) = vs' (k + j)) → (fr L vs l k a).tmps[t]? = (fr L' vs' l k a').tmps[t]?
  | [], _, _, _, h, _ => h
  | o :: l, k, a, a', h, hd => by
    simp only [fr]
    refine fr_at2 l (k + 1) _ _ ?_ fun j o' hj ho' => by
      have := hd (j + 1) o' (by simpa using hj) ho'
      rw [show k + (j + 1) = k + 1 + j by omega] at this
      exact this
    by_cases e : o.dst = some t
    · have h2 := hd 0 o rfl e
      rw [Nat.add_zero] at h2
      rw [h2.1]
      split
      · exact put_at2 h _ _ _ fun _ => h2.2
      · exact h
    · split <;> split
      · rw [put_off _ _ e, put_off _ _ e]; exact h
      · rw [put_off _ _ e]; exact h
      · rw [put_off _ _ e]; exact h
      · exact h
section
variable {P : Program} {Q : Exit → Act → World → Prop} {a0 : Act} {w0 : World} {l : List Oper} {C : World → Prop}
theorem quiet_vals {R : Act → Prop} (hdst : ∀ (i j : Nat) (oi oj : Oper), l[i]? = some oi → l[j]? = some oj → i ≠ j → ∀ t, oi.dst = some t → oj.dst ≠ some t) : ∀ (m : List Oper) (i : Nat) (vs0 : Nat → Value), (∀ j, j < m.length → m[j]? = l[i + j]?) →
    wpQuiet P l.toArray C R m (fr (fun q => decide (q < i)) vs0 l 0 a0) →
    ∃ vs, (∀ j, j < i → vs j = vs0 j) ∧ (∀ j, i ≤ j → j < i + m.length → ∀ o, l[j]? = some o → YieldsIn P l.toArray C o (vs j) (fr (fun q => decide (q < j)) vs l 0 a0)) ∧ R (fr (fun q => decide (q < i + m.length)) vs l 0 a0)
  | [], i, vs0, _, h => ⟨vs0, fun _ _ => rfl, fun j h1 h2 => by simp at h2; omega, by simpa [wpQuiet] using h⟩
  | o :: m, i, vs0, hm, h => by
    have ho : l[i]? = some o := by have := hm 0 (by simp); simpa using this.symm
    have hq : qOp P l.toArray C i (wpQuiet P l.toArray C R m) (fr (fun q => decide (q < i)) vs0 l 0 a0) := by
      unfold qOp
      simp only [List.getElem?_toArray, ho]
      exact h
    obtain ⟨v, hy, hrest⟩ := yieldsIn_of_qOp (by simpa using ho) hq
    have hput : (fr (fun q => decide (q < i)) vs0 l 0 a0).put o.dst v = fr (fun q => decide (q < i + 1)) (upd vs0 i v) l 0 a0 := by
      have h1 := fr_step (L := fun q => decide (q < i)) (vs := vs0) (v := v) l 0 i a0 o ho (by simp) fun j o' hj hne t ht => hdst i j o o' ho hj (fun e => hne e.symm) t ht
      rw [← h1, Nat.zero_add]
      refine fr_congr2 l 0 a0 fun j _ => ⟨?_, fun _ => rfl⟩
      unfold upd
      by_cases e : j = i
      · subst e; simp
      · simp only [e, if_false]
        exact decide_eq_decide.2 (by omega)
    rw [hput] at hrest
    obtain ⟨vs, h1, h2, h3⟩ := quiet_vals hdst m (i + 1) (upd vs0 i v) (fun j hj => by have := hm (j + 1) (by simpa using hj); simp at this; rw [this]; congr 1; omega) hrest
    have hvi : vs i = v := by rw [h1 i (by omega)]; simp [upd]
    have hold : ∀ j, j < i → vs j = vs0 j := fun j hj => by rw [h1 j (by omega)]; simp [upd, show j ≠ i by omega]
    refine ⟨vs, hold, fun j hij hj o' ho' => ?_, ?_⟩
    · by_cases e : j = i
      · subst e
        rw [ho] at ho'
        cases ho'
        rw [hvi, fr_congr2 (L' := fun q => decide (q < j)) (vs' := vs0) l 0 a0 fun q _ => ⟨rfl, fun hq => hold q (of_decide_eq_true hq)⟩]
        exact hy
      · exact h2 j (by omega) (by simp at hj; omega) o' ho'
    · rw [List.length_cons, show i + (m.length + 1) = i + 1 + m.length by omega]
      exact h3
/-- **the region, walked once, its last operation at the end** -/
theorem wp_region_kept_last {id : Nat} (n k : Nat) (last : Oper) (hl : l[k]? = some last) (hlen : l.length = k + 1) (hm : P.follows .mixedOrders = true) (hB : monoB l = true)
    (h : wpQuiet P l.toArray (fun w' => ∃ s : Kept n w0, w' = s.w) (fun a' => ∀ s : Kept n w0, Shut (stepsTo P l.toArray last a' s.w (fun v w' => Q .normal (a'.put last.dst v) w'))) (l.take k) a0) : (Code.region id l.toArray true).wp P Q a0 w0 := by
  have hB' := hB
  unfold monoB at hB'
  rw [Bool.and_eq_true, List.all_eq_true] at hB'
  have hB1 : ∀ i oi, l[i]? = some oi → _ := fun i oi hi => by
    have := hB'.2 i (List.mem_range.2 (List.getElem?_eq_some_iff.1 hi).1)
    simp only [hi, Bool.and_eq_true] at this
    exact this
  have hd2 : ∀ i j oi oj d, l[i]? = some oi → l[j]? = some oj → oj.dst = some d → (i = j ∨ oi.dst ≠ some d) ∧ (d ∈ oi.looksAt l.toArray → depB oi j = true) := fun i j oi oj d hi hj hd => by
    have := (hB1 i oi hi).2
    rw [List.all_eq_true] at this
    have := this j (List.mem_range.2 (List.getElem?_eq_some_iff.1 hj).1)
    simp only [hj, hd, Bool.and_eq_true, Bool.or_eq_true, beq_iff_eq, bne_iff_ne, ne_eq] at this
    refine ⟨this.1, fun hm => ?_⟩
    rcases this.2 with h | h
    · rw [Bool.not_eq_true'] at h
      have hc : (oi.looksAt l.toArray).contains d = true := by simpa using hm
      rw [hc] at h
      cases h
    · exact h
  have hacyc : ∀ i oi, l[i]? = some oi → ∀ j, depB oi j = true → j < i := fun i oi hi j hj => by
    have h1 := (hB1 i oi hi).1.1
    rw [Array.all_eq_true'] at h1
    unfold depB at hj
    rw [Array.any_eq_true'] at hj
    obtain ⟨e, he, hb⟩ := hj
    simp only [Bool.and_eq_true, beq_iff_eq] at hb
    have := h1 e he
    simp [hb.1] at this
    omega
  have hsel : ∀ (j : Nat) (o : Oper) cs b, l[j]? = some o → o.op ≠ .select cs b := fun j o cs b ho => Region.noSelect_spec hB'.1 j o cs b (by simpa using ho)
  have hfr : a0 = fr (fun q => decide (q < 0)) (fun _ => undef) l 0 a0 := by
    have hgen : ∀ (l' : List Oper) (k : Nat) (a : Act), a = fr (fun q => decide (q < 0)) (fun _ => undef) l' k a := by
      intro l'
      induction l' with
      | nil => intro _ _; rfl
      | cons o l' ih =>
        intro k a
        simp only [fr, Nat.not_lt_zero, decide_false, Bool.false_eq_true, if_false]
        exact ih (k + 1) a
    exact hgen l 0 a0
  rw [hfr] at h
  obtain ⟨vs, _, hy, hR⟩ := quiet_vals (a0 := a0) (fun i j oi oj hi hj hne t ht => by
    rcases (hd2 j i oj oi t hj hi ht).1 with h | h
    · exact absurd h.symm hne
    · exact h) (l.take k) 0 (fun _ => undef) (fun j hj => by rw [Nat.zero_add, List.getElem?_take_of_lt (by rw [List.length_take] at hj; omega)]) h
  have hk : (l.take k).length = k := by rw [List.length_take]; omega
  rw [Nat.zero_add, hk] at hR
  rw [hk] at hy
  refine wp_region_last (fun w' => ∃ s : Kept n w0, w' = s.w) (fun i v _ => v = vs i) k last hl hlen hm hB ⟨⟨w0.drew, (Below.refl _ w0).drew⟩, rfl⟩ (fun i hi o ho vs' W hC hdep => ?_) (fun vs' W hC hT => ?_)
  · have hyi := hy i (Nat.zero_le _) (by omega) o ho
    have hlooks : ∀ t ∈ o.looksAt l.toArray, (fr (fun q => decide (q < i)) vs l 0 a0).tmps[t]? = (fr (fun _ => true) vs' l 0 a0).tmps[t]? := fun t ht =>
      fr_at2 l 0 a0 a0 rfl fun j oj hj hd => by
        have hd3 := (hd2 i j o oj t ho hj hd).2 ht
        rw [Nat.zero_add]
        exact ⟨decide_eq_true (hacyc i o ho j hd3), (hdep j hd3).symm⟩
    refine steps_same o (fun cs b => hsel i o cs b ho) hlooks ?_
    unfold stepsTo
    rcases hyi with ⟨hw, hv⟩ | ⟨hw, hv⟩
    · rw [if_pos hw]
      have h1 := hv W hC
      unfold Oper.quietAt at h1
      unfold gives
      generalize (execOp (fr (fun q => decide (q < i)) vs l 0 a0).eval o).run P W = r at *
      cases r with
      | ok nx w' =>
        cases nx <;> simp only [Oper.quietUpon] at h1 ⊢
        case value u => obtain ⟨e1, e2⟩ := h1; rw [e1, e2]; exact ⟨rfl, hC, fun _ _ _ h => h⟩
        case skip => obtain ⟨e1, e2⟩ := h1; rw [e1]; exact ⟨e2.symm, hC, fun _ _ _ h => h⟩
        case enter f args =>
          obtain ⟨e1, hc⟩ := h1
          rw [e1]
          exact hc.mono fun e w'' ⟨he, hw''⟩ => ⟨_, he, rfl, hw'', fun _ _ _ h => h⟩
      | halt x w' => simp only [Oper.quietUpon] at h1
    · rw [if_neg (by rw [hw]; simp)]
      exact ⟨hv.symm, hC, fun _ _ _ h => h⟩
  · obtain ⟨s, rfl⟩ := hC
    have := hR s
    rw [fr_congr2 (L' := fun j => decide (j < k)) (vs' := vs') l 0 a0 fun q _ => ⟨rfl, fun hq => (hT q (of_decide_eq_true hq)).symm⟩] at this
    exact this
end
end Go.Bx
/- Layer 3: moved, cut, whole, Move, Grow. -/
namespace Go.Proofs.YtgodhpampaleeaaDoor
open Go.RowKit Go.Bx Go.Od Go.Hp
attribute [local go_sem ↓] Go.wp_at_zero Go.wp_at_succ
set_option linter.unusedVariables false

theorem steps_plain {P : Program} {ops : Array Oper} {o : Oper} {a : Act} {w : World} {R : Value → World → Prop} (hg : o.guard = none) (h : gives P o a.eval w R) : stepsTo P ops o a w R := by
  unfold stepsTo
  rw [if_pos (by simp [Region.wanted, hg])]
  exact h
def Pl (x : Int) : Prop := -4398046511104 ≤ x ∧ x ≤ 4398046511104
def movedR (e b : Int) : Int := if e = 4398046511104 ∨ e = -4398046511104 then e else e + b
theorem moved_c (e b : Int) (w : World) (he : Pl e) (hb : -4398046511104 ≤ b ∧ b ≤ 4398046511104) : Calls Tryd.prog 43 #[.int .i64 e, .int .i64 b] w fun x w' => x = .returned (.int .i64 (movedR e b)) ∧ w' = w := by
  unfold Pl at he
  by_cases h1 : e = 4398046511104
  · subst h1
    have HE : Hid (movedR 4398046511104 b = 4398046511104) := by
      have : movedR 4398046511104 b = 4398046511104 := if_pos (.inl rfl)
      exact this
    go_enter Tryd.func43, Tryd.ntmps43
    go_wp2_with fail
    go_ret
    exact ⟨ret_i HE.out.symm, rfl⟩
  · by_cases h2 : e = -4398046511104
    · subst h2
      have HE : Hid (movedR (-4398046511104) b = -4398046511104) := by
        have : movedR (-4398046511104) b = -4398046511104 := if_pos (.inr rfl)
        exact this
      go_enter Tryd.func43, Tryd.ntmps43
      go_wp2_with fail
      go_ret
      exact ⟨ret_i HE.out.symm, rfl⟩
    · have HE : Hid (movedR e b = e + b) := by
        have : movedR e b = e + b := if_neg (fun h => h.elim h1 h2)
        exact this
      have d1 : (e == 4398046511104) = false := beq_eq_false_iff_ne.2 h1
      have d2 : (e == -4398046511104) = false := beq_eq_false_iff_ne.2 h2
      go_enter Tryd.func43, Tryd.ntmps43
      go_wp2_with fail
      go_ret
      exact ⟨ret_i HE.out.symm, rfl⟩
def clip (x : Int) : Int := max (-4398046511104) (min x 4398046511104)
def clipR (r : Rc) : Rc := ⟨clip r.x0, clip r.y0, clip r.x1, clip r.y1⟩
def clipJ (r : Rc) (j : Nat) : Rc := ⟨if 0 < j then clip r.x0 else r.x0, if 1 < j then clip r.y0 else r.y0, if 2 < j then clip r.x1 else r.x1, if 3 < j then clip r.y1 else r.y1⟩
set_option maxHeartbeats 3200000 in
theorem cut_c (n r p : Nat) (x : Rc) (w : World) (hn : n ≤ r) (hp : p ≠ r) (hr : Box w r (cl4 x)) (hq : Box w p [.pointer (some ⟨r, 0, none⟩), .pointer (some ⟨r, 1, none⟩), .pointer (some ⟨r, 2, none⟩), .pointer (some ⟨r, 3, none⟩)]) :
    Calls Tryd.prog 58 #[.slice (some ⟨p, 0, none⟩) 4 4] w fun e w' => (∃ v, e = .returned v) ∧ Box w' r (cl4 (clipR x)) ∧ (∀ b cs, b ≠ r → Box w b cs → Box w' b cs) ∧ Below n w w' := by
  have H0 : Hid (Box w r (cl4 (clipJ x 0)) ∧ (∀ b cs, b ≠ r → Box w b cs → Box w b cs) ∧ Below n w w ∧ n ≤ r) := ⟨hr, fun _ _ _ h => h, Below.refl _ _, hn⟩
  have HP : Hid (p ≠ r ∧ Box w p [.pointer (some ⟨r, 0, none⟩), .pointer (some ⟨r, 1, none⟩), .pointer (some ⟨r, 2, none⟩), .pointer (some ⟨r, 3, none⟩)]) := ⟨hp, hq⟩
  clear hr hq hn hp
  go_enter Tryd.func58, Tryd.ntmps58
  go_wp2_with fail
  go_loopw [6] (fun jv wr => ∃ j : Nat, j ≤ 4 ∧ jv = .int .i64 j ∧ Box wr r (cl4 (clipJ x j)) ∧ (∀ b cs, b ≠ r → Box w b cs → Box wr b cs) ∧ Below n w wr ∧ n ≤ r) (fun jv _ => 4 - (intOf jv).toNat)
  case atStart => exact ⟨0, by omega, rfl, H0.out⟩
  case round =>
    obtain ⟨j, hj, rfl, hr, hq, hb, hn⟩ := hrel
    clear H0
    have p0 := (hq p _ HP.out.1 HP.out.2).cell 0 rfl
    have p1 := (hq p _ HP.out.1 HP.out.2).cell 1 rfl
    have p2 := (hq p _ HP.out.1 HP.out.2).cell 2 rfl
    have p3 := (hq p _ HP.out.1 HP.out.2).cell 3 rfl
    have HB : Hid (Below n w wr ∧ n ≤ r ∧ ∀ b cs, b ≠ r → Box w b cs → Box wr b cs) := ⟨hb, hn, hq⟩
    match j, hj with
    | 0, _ =>
      have c0 : wr.cell? ⟨r, 0, none⟩ = some (.int .i64 x.x0) := hr.cell 0 rfl
      have f0 := hr.frozen 0
      have HE : Hid (Box (wr.setCell ⟨r, 0, none⟩ (.int .i64 (clip x.x0))) r (cl4 (clipJ x 1))) := hr.self 0 _
      clear hr hq hb hn
      go_wp2_with fail
      go_roundw
      case rel => exact ⟨1, by omega, by go_num, HE.out, (fun b cs hne h => (HB.out.2.2 b cs hne h).set (p := ⟨r, 0, none⟩) hne _), HB.out.1.setCell (p := ⟨r, 0, none⟩) HB.out.2.1 _, HB.out.2.1⟩
      case measure => simp [intOf]
    | 1, _ =>
      have c0 : wr.cell? ⟨r, 1, none⟩ = some (.int .i64 x.y0) := hr.cell 1 rfl
      have f0 := hr.frozen 1
      have HE : Hid (Box (wr.setCell ⟨r, 1, none⟩ (.int .i64 (clip x.y0))) r (cl4 (clipJ x 2))) := hr.self 1 _
      clear hr hq hb hn
      go_wp2_with fail
      go_roundw
      case rel => exact ⟨2, by omega, by go_num, HE.out, (fun b cs hne h => (HB.out.2.2 b cs hne h).set (p := ⟨r, 1, none⟩) hne _), HB.out.1.setCell (p := ⟨r, 1, none⟩) HB.out.2.1 _, HB.out.2.1⟩
      case measure => simp [intOf]
    | 2, _ =>
      have c0 : wr.cell? ⟨r, 2, none⟩ = some (.int .i64 x.x1) := hr.cell 2 rfl
      have f0 := hr.frozen 2
      have HE : Hid (Box (wr.setCell ⟨r, 2, none⟩ (.int .i64 (clip x.x1))) r (cl4 (clipJ x 3))) := hr.self 2 _
      clear hr hq hb hn
      go_wp2_with fail
      go_roundw
      case rel => exact ⟨3, by omega, by go_num, HE.out, (fun b cs hne h => (HB.out.2.2 b cs hne h).set (p := ⟨r, 2, none⟩) hne _), HB.out.1.setCell (p := ⟨r, 2, none⟩) HB.out.2.1 _, HB.out.2.1⟩
      case measure => simp [intOf]
    | 3, _ =>
      have c0 : wr.cell? ⟨r, 3, none⟩ = some (.int .i64 x.y1) := hr.cell 3 rfl
      have f0 := hr.frozen 3
      have HE : Hid (Box (wr.setCell ⟨r, 3, none⟩ (.int .i64 (clip x.y1))) r (cl4 (clipJ x 4))) := hr.self 3 _
      clear hr hq hb hn
      go_wp2_with fail
      go_roundw
      case rel => exact ⟨4, by omega, by go_num, HE.out, (fun b cs hne h => (HB.out.2.2 b cs hne h).set (p := ⟨r, 3, none⟩) hne _), HB.out.1.setCell (p := ⟨r, 3, none⟩) HB.out.2.1 _, HB.out.2.1⟩
      case measure => simp [intOf]
    | 4, _ =>
      have HE : Hid (Box wr r (cl4 (clipR x))) := hr
      clear hr hq hb hn
      go_wp2_with fail
      go_end0
      exact ⟨⟨_, rfl⟩, HE.out, HB.out.2.2, HB.out.1⟩
    | j + 5, hj => omega
/-! ### whole -/
def whR (r : Rc) : Rc := boxR (clipR r)
set_option maxHeartbeats 3200000 in
theorem whole_c (r : Rc) (w : World) : Calls Tryd.prog 42 #[rv r] w (PPost w (rv (whR r))) := by
  obtain ⟨x0, y0, x1, y1⟩ := r
  have J0 : Hid (Box ((w.alloc (.cells (cs4 x0 y0 x1 y1) 25)).alloc (.cells (cs4 0 0 0 0) 25)) w.heap.size (cl4 ⟨x0, y0, x1, y1⟩) ∧ Box ((w.alloc (.cells (cs4 x0 y0 x1 y1) 25)).alloc (.cells (cs4 0 0 0 0) 25)) (w.heap.size + 1) (cl4 ⟨0, 0, 0, 0⟩) ∧ Below w.heap.size w ((w.alloc (.cells (cs4 x0 y0 x1 y1) 25)).alloc (.cells (cs4 0 0 0 0) 25))) := J2new w ⟨x0, y0, x1, y1⟩ ⟨0, 0, 0, 0⟩ 25
  have HS : Hid (((w.alloc (.cells (cs4 x0 y0 x1 y1) 25)).alloc (.cells (cs4 0 0 0 0) 25)).heap.size = w.heap.size + 1 + 1) := by
    have : ((w.alloc (.cells (cs4 x0 y0 x1 y1) 25)).alloc (.cells (cs4 0 0 0 0) 25)).heap.size = w.heap.size + 1 + 1 := by simp
    exact this
  go_enter Tryd.func42, Tryd.ntmps42
  go_wp2_with fail
  generalize ((w.alloc (.cells (cs4 x0 y0 x1 y1) 25)).alloc (.cells (cs4 0 0 0 0) 25)) = W0 at *
  have P0 := Box.new W0 [.pointer (some ⟨w.heap.size, 0, none⟩), .pointer (some ⟨w.heap.size, 1, none⟩), .pointer (some ⟨w.heap.size, 2, none⟩), .pointer (some ⟨w.heap.size, 3, none⟩)] 92
  rw [HS.out] at P0
  have hb1 := below_new W0 (.cells #[.pointer (some ⟨w.heap.size, 0, none⟩), .pointer (some ⟨w.heap.size, 1, none⟩), .pointer (some ⟨w.heap.size, 2, none⟩), .pointer (some ⟨w.heap.size, 3, none⟩)] 92)
  have J1 : Hid (Box (W0.alloc (.cells #[.pointer (some ⟨w.heap.size, 0, none⟩), .pointer (some ⟨w.heap.size, 1, none⟩), .pointer (some ⟨w.heap.size, 2, none⟩), .pointer (some ⟨w.heap.size, 3, none⟩)] 92)) w.heap.size (cl4 ⟨x0, y0, x1, y1⟩) ∧ Box (W0.alloc (.cells #[.pointer (some ⟨w.heap.size, 0, none⟩), .pointer (some ⟨w.heap.size, 1, none⟩), .pointer (some ⟨w.heap.size, 2, none⟩), .pointer (some ⟨w.heap.size, 3, none⟩)] 92)) (w.heap.size + 1) (cl4 ⟨0, 0, 0, 0⟩) ∧ Below w.heap.size w (W0.alloc (.cells #[.pointer (some ⟨w.heap.size, 0, none⟩), .pointer (some ⟨w.heap.size, 1, none⟩), .pointer (some ⟨w.heap.size, 2, none⟩), .pointer (some ⟨w.heap.size, 3, none⟩)] 92))) := ⟨J0.out.1.call hb1, J0.out.2.1.call hb1, J0.out.2.2.trans (hb1.mono J0.out.2.2.size)⟩
  have J2 : Hid (Box (W0.alloc (.cells #[.pointer (some ⟨w.heap.size, 0, none⟩), .pointer (some ⟨w.heap.size, 1, none⟩), .pointer (some ⟨w.heap.size, 2, none⟩), .pointer (some ⟨w.heap.size, 3, none⟩)] 92)) (w.heap.size + 1 + 1) [.pointer (some ⟨w.heap.size, 0, none⟩), .pointer (some ⟨w.heap.size, 1, none⟩), .pointer (some ⟨w.heap.size, 2, none⟩), .pointer (some ⟨w.heap.size, 3, none⟩)]) := P0
  clear P0 hb1 J0 HS
  generalize (W0.alloc (.cells #[.pointer (some ⟨w.heap.size, 0, none⟩), .pointer (some ⟨w.heap.size, 1, none⟩), .pointer (some ⟨w.heap.size, 2, none⟩), .pointer (some ⟨w.heap.size, 3, none⟩)] 92)) = W1 at *
  refine (cut_c w.heap.size w.heap.size (w.heap.size + 1 + 1) ⟨x0, y0, x1, y1⟩ W1 (Nat.le_refl _) (by omega) J1.out.1 J2.out).mono ?_; rintro e W2 ⟨⟨v, rfl⟩, hr2, hk2, hb2⟩
  have J3 : Hid (Box W2 w.heap.size (cl4 (clipR ⟨x0, y0, x1, y1⟩)) ∧ Box W2 (w.heap.size + 1) (cl4 ⟨0, 0, 0, 0⟩) ∧ Below w.heap.size w W2) := ⟨hr2, hk2 _ _ (by omega) J1.out.2.1, J1.out.2.2.trans hb2⟩
  clear hr2 hk2 hb2 J1 J2
  have a0 : W2.cell? ⟨w.heap.size, 0, none⟩ = some (.int .i64 (clip x0)) := J3.out.1.cell 0 rfl
  have a1 : W2.cell? ⟨w.heap.size, 1, none⟩ = some (.int .i64 (clip y0)) := J3.out.1.cell 1 rfl
  have a2 : W2.cell? ⟨w.heap.size, 2, none⟩ = some (.int .i64 (clip x1)) := J3.out.1.cell 2 rfl
  have a3 : W2.cell? ⟨w.heap.size, 3, none⟩ = some (.int .i64 (clip y1)) := J3.out.1.cell 3 rfl
  have HW : Hid (whR ⟨x0, y0, x1, y1⟩ = boxR ⟨clip x0, clip y0, clip x1, clip y1⟩) := by
    have : whR ⟨x0, y0, x1, y1⟩ = boxR ⟨clip x0, clip y0, clip x1, clip y1⟩ := rfl
    exact this
  obtain ⟨z0, hz0⟩ : ∃ z, z = clip x0 := ⟨_, rfl⟩
  obtain ⟨z1, hz1⟩ : ∃ z, z = clip y0 := ⟨_, rfl⟩
  obtain ⟨z2, hz2⟩ : ∃ z, z = clip x1 := ⟨_, rfl⟩
  obtain ⟨z3, hz3⟩ : ∃ z, z = clip y1 := ⟨_, rfl⟩
  have J4 : Hid (Box W2 w.heap.size (cl4 ⟨z0, z1, z2, z3⟩) ∧ Box W2 (w.heap.size + 1) (cl4 ⟨0, 0, 0, 0⟩) ∧ Below w.heap.size w W2) := by rw [hz0, hz1, hz2, hz3]; exact J3.out
  rw [← hz0] at a0 HW
  rw [← hz1] at a1 HW
  rw [← hz2] at a2 HW
  rw [← hz3] at a3 HW
  clear hz0 hz1 hz2 hz3 J3
  go_wp2_with fail
  refine (empty_c z0 z1 z2 z3 W2).mono ?_; rintro e W3 ⟨rfl, hb3⟩
  have J5 : Hid (Box W3 w.heap.size (cl4 ⟨z0, z1, z2, z3⟩) ∧ Box W3 (w.heap.size + 1) (cl4 ⟨0, 0, 0, 0⟩) ∧ Below w.heap.size w W3) := ⟨J4.out.1.call hb3, J4.out.2.1.call hb3, J4.out.2.2.trans (hb3.mono J4.out.2.2.size)⟩
  clear a0 a1 a2 a3 hb3 J4
  have a0 := J5.out.1.cell 0 rfl
  have a1 := J5.out.1.cell 1 rfl
  have a2 := J5.out.1.cell 2 rfl
  have a3 := J5.out.1.cell 3 rfl
  have r0 := J5.out.2.1.cell 0 rfl
  have r1 := J5.out.2.1.cell 1 rfl
  have r2 := J5.out.2.1.cell 2 rfl
  have r3 := J5.out.2.1.cell 3 rfl
  have f0 := J5.out.2.1.frozen 0
  have f1 := J5.out.2.1.frozen 1
  have f2 := J5.out.2.1.frozen 2
  have f3 := J5.out.2.1.frozen 3
  have hB4 : ∀ u0 u1 u2 u3 : Value, Below w.heap.size w ((((W3.setCell ⟨w.heap.size + 1, 0, none⟩ u0).setCell ⟨w.heap.size + 1, 1, none⟩ u1).setCell ⟨w.heap.size + 1, 2, none⟩ u2).setCell ⟨w.heap.size + 1, 3, none⟩ u3) := fun u0 u1 u2 u3 =>
    (((J5.out.2.2.setCell (by simp) _).setCell (by simp) _).setCell (by simp) _).setCell (by simp) _
  have HB4 : Hid _ := hB4
  clear hB4
  cases he : Rc.emp ⟨z0, z1, z2, z3⟩ with
  | true =>
    have HJ : Hid (whR ⟨x0, y0, x1, y1⟩ = ⟨0, 0, 0, 0⟩) := by
      have : whR ⟨x0, y0, x1, y1⟩ = ⟨0, 0, 0, 0⟩ := by rw [HW.out]; unfold boxR; rw [he]; rfl
      exact this
    clear he
    go_wp2_with fail
    exact ret_rect rfl rfl (set4_box J5.out.2.1 _ _ _ _) rfl ⟨by rw [HJ.out], HB4.out _ _ _ _⟩
  | false =>
    have HJ : Hid (whR ⟨x0, y0, x1, y1⟩ = ⟨z0, z1, z2, z3⟩) := by
      have : whR ⟨x0, y0, x1, y1⟩ = ⟨z0, z1, z2, z3⟩ := by rw [HW.out]; unfold boxR; rw [he]; rfl
      exact this
    clear he
    go_wp2_with fail
    exact ret_rect rfl rfl (set4_box J5.out.2.1 _ _ _ _) rfl ⟨by rw [HJ.out], HB4.out _ _ _ _⟩
end Go.Proofs.YtgodhpampaleeaaDoor
/- Layer 3: Move, Grow. -/
namespace Go.Proofs.YtgodhpampaleeaaDoor
open Go.RowKit Go.Bx Go.Od Go.Hp
attribute [local go_sem ↓] Go.wp_at_zero Go.wp_at_succ
set_option linter.unusedVariables false

/-- a rectangle boxed, a result behind it -/
def J2 (w W : World) (a : Rc) : Prop := Box W w.heap.size (cl4 a) ∧ Box W (w.heap.size + 1) (cl4 ⟨0, 0, 0, 0⟩) ∧ Below w.heap.size w W
theorem J2.call {w W W' : World} {a : Rc} (h : J2 w W a) (hb : Below W.heap.size W W') : J2 w W' a := ⟨h.1.call hb, h.2.1.call hb, h.2.2.trans (hb.mono h.2.2.size)⟩
theorem J2.cells {w W : World} {a : Rc} (h : J2 w W a) :
    W.cell? ⟨w.heap.size, 0, none⟩ = some (.int .i64 a.x0) ∧ W.cell? ⟨w.heap.size, 1, none⟩ = some (.int .i64 a.y0) ∧ W.cell? ⟨w.heap.size, 2, none⟩ = some (.int .i64 a.x1) ∧ W.cell? ⟨w.heap.size, 3, none⟩ = some (.int .i64 a.y1) ∧
    W.cell? ⟨w.heap.size + 1, 0, none⟩ = some (.int .i64 0) ∧ W.cell? ⟨w.heap.size + 1, 1, none⟩ = some (.int .i64 0) ∧ W.cell? ⟨w.heap.size + 1, 2, none⟩ = some (.int .i64 0) ∧ W.cell? ⟨w.heap.size + 1, 3, none⟩ = some (.int .i64 0) ∧
    W.frozen? ⟨w.heap.size + 1, 0, none⟩ = false ∧ W.frozen? ⟨w.heap.size + 1, 1, none⟩ = false ∧ W.frozen? ⟨w.heap.size + 1, 2, none⟩ = false ∧ W.frozen? ⟨w.heap.size + 1, 3, none⟩ = false :=
  ⟨h.1.cell 0 rfl, h.1.cell 1 rfl, h.1.cell 2 rfl, h.1.cell 3 rfl, h.2.1.cell 0 rfl, h.2.1.cell 1 rfl, h.2.1.cell 2 rfl, h.2.1.cell 3 rfl, h.2.1.frozen 0, h.2.1.frozen 1, h.2.1.frozen 2, h.2.1.frozen 3⟩
theorem J2.set4 {w W : World} {a : Rc} (h : J2 w W a) (u0 u1 u2 u3 : Value) : Below w.heap.size w ((((W.setCell ⟨w.heap.size + 1, 0, none⟩ u0).setCell ⟨w.heap.size + 1, 1, none⟩ u1).setCell ⟨w.heap.size + 1, 2, none⟩ u2).setCell ⟨w.heap.size + 1, 3, none⟩ u3) :=
  (((h.2.2.setCell (by simp) _).setCell (by simp) _).setCell (by simp) _).setCell (by simp) _
theorem moved_p {e b : Int} (w : World) (he : Pl e) (hb : -4398046511104 ≤ b ∧ b ≤ 4398046511104) : Calls Tryd.prog 43 #[.int .i64 e, .int .i64 b] w (PPost w (.int .i64 (movedR e b))) :=
  (moved_c e b w he hb).mono fun _ _ ⟨h1, h2⟩ => ⟨h1, h2 ▸ Below.refl _ _⟩
def RcP (r : Rc) : Prop := Pl r.x0 ∧ Pl r.y0 ∧ Pl r.x1 ∧ Pl r.y1
def moveR (r : Rc) (dx dy : Int) : Rc := if r.emp then Rc.zero else whR ⟨movedR r.x0 dx, movedR r.y0 dy, movedR r.x1 dx, movedR r.y1 dy⟩
set_option maxRecDepth 4000 in
set_option maxHeartbeats 3200000 in
theorem move_c (r : Rc) (dx dy : Int) (w : World) (hr : RcP r) (hx : -4398046511104 ≤ dx ∧ dx ≤ 4398046511104) (hy : -4398046511104 ≤ dy ∧ dy ≤ 4398046511104) :
    Calls Tryd.prog 25 #[rv r, .int .i64 dx, .int .i64 dy] w (PPost w (rv (moveR r dx dy))) := by
  obtain ⟨x0, y0, x1, y1⟩ := r
  have J0 : Hid (J2 w ((w.alloc (.cells (cs4 x0 y0 x1 y1) 25)).alloc (.cells (cs4 0 0 0 0) 25)) ⟨x0, y0, x1, y1⟩) := J2new w ⟨x0, y0, x1, y1⟩ ⟨0, 0, 0, 0⟩ 25
  have HR : Hid (Pl x0 ∧ Pl y0 ∧ Pl x1 ∧ Pl y1 ∧ (-4398046511104 ≤ dx ∧ dx ≤ 4398046511104) ∧ (-4398046511104 ≤ dy ∧ dy ≤ 4398046511104)) := ⟨hr.1, hr.2.1, hr.2.2.1, hr.2.2.2, hx, hy⟩
  clear hr hx hy
  go_enter Tryd.func25, Tryd.ntmps25
  go_wp2_with fail
  generalize ((w.alloc (.cells (cs4 x0 y0 x1 y1) 25)).alloc (.cells (cs4 0 0 0 0) 25)) = W0 at *
  refine (empty_c x0 y0 x1 y1 W0).mono ?_; rintro e W1 ⟨rfl, hb1⟩
  have J1 : Hid (J2 w W1 ⟨x0, y0, x1, y1⟩) := J0.out.call hb1
  clear hb1 J0
  obtain ⟨a0, a1, a2, a3, r0, r1, r2, r3, f0, f1, f2, f3⟩ := J1.out.cells
  cases he : Rc.emp ⟨x0, y0, x1, y1⟩ with
  | true =>
    have HJ : Hid (moveR ⟨x0, y0, x1, y1⟩ dx dy = ⟨0, 0, 0, 0⟩) := by
      have : moveR ⟨x0, y0, x1, y1⟩ dx dy = ⟨0, 0, 0, 0⟩ := by unfold moveR; rw [he]; rfl
      exact this
    clear he
    go_wp2_with fail
    exact ret_rect rfl rfl (set4_box J1.out.2.1 _ _ _ _) rfl ⟨by rw [HJ.out], J1.out.set4 _ _ _ _⟩
  | false =>
    have HJ : Hid (moveR ⟨x0, y0, x1, y1⟩ dx dy = whR ⟨movedR x0 dx, movedR y0 dy, movedR x1 dx, movedR y1 dy⟩) := by
      have : moveR ⟨x0, y0, x1, y1⟩ dx dy = whR ⟨movedR x0 dx, movedR y0 dy, movedR x1 dx, movedR y1 dy⟩ := by unfold moveR; rw [he]; rfl
      exact this
    clear he
    have k0 := fun s : Kept W1.heap.size W1 => s.at a0
    have k1 := fun s : Kept W1.heap.size W1 => s.at a1
    have k2 := fun s : Kept W1.heap.size W1 => s.at a2
    have k3 := fun s : Kept W1.heap.size W1 => s.at a3
    have M0 : Hid (∀ s : Kept W1.heap.size W1, Calls Tryd.prog 43 #[.int .i64 x0, .int .i64 dx] s.w (PPost s.w (.int .i64 (movedR x0 dx)))) := fun s => moved_p s.w HR.out.1 HR.out.2.2.2.2.1
    have M1 : Hid (∀ s : Kept W1.heap.size W1, Calls Tryd.prog 43 #[.int .i64 y0, .int .i64 dy] s.w (PPost s.w (.int .i64 (movedR y0 dy)))) := fun s => moved_p s.w HR.out.2.1 HR.out.2.2.2.2.2
    have M2 : Hid (∀ s : Kept W1.heap.size W1, Calls Tryd.prog 43 #[.int .i64 x1, .int .i64 dx] s.w (PPost s.w (.int .i64 (movedR x1 dx)))) := fun s => moved_p s.w HR.out.2.2.1 HR.out.2.2.2.2.1
    have M3 : Hid (∀ s : Kept W1.heap.size W1, Calls Tryd.prog 43 #[.int .i64 y1, .int .i64 dy] s.w (PPost s.w (.int .i64 (movedR y1 dy)))) := fun s => moved_p s.w HR.out.2.2.2.1 HR.out.2.2.2.2.2
    generalize movedR x0 dx = m0 at *
    generalize movedR y0 dy = m1 at *
    generalize movedR x1 dx = m2 at *
    generalize movedR y1 dy = m3 at *
    obtain ⟨q, hq⟩ : ∃ q, q = whR ⟨m0, m1, m2, m3⟩ := ⟨_, rfl⟩
    have M4 : Hid (∀ s : Kept W1.heap.size W1, Calls Tryd.prog 42 #[.agg #[.int .i64 m0, .int .i64 m1, .int .i64 m2, .int .i64 m3]] s.w (PPost s.w (.agg #[.int .i64 q.x0, .int .i64 q.y0, .int .i64 q.x1, .int .i64 q.y1]))) := fun s => by
      rw [hq]
      exact whole_c ⟨m0, m1, m2, m3⟩ s.w
    rw [← hq] at HJ
    clear hq r0 r1 r2 r3 f0 f1 f2 f3
    go_wp2_with fail
    clear a0 a1 a2 a3
    refine wp_region_kept_last W1.heap.size 18 _ rfl rfl (by kernel_rfl) (by kernel_rfl) ?_
    simp only [List.take_succ_cons, List.take_zero]
    repeat (go_big_quiet_step (first | (go_at_call 43; with_reducible exact Calls.kept _ (Nat.le_refl _) (M0.out _)) | (go_at_call 43; with_reducible exact Calls.kept _ (Nat.le_refl _) (M1.out _)) | (go_at_call 43; with_reducible exact Calls.kept _ (Nat.le_refl _) (M2.out _)) | (go_at_call 43; with_reducible exact Calls.kept _ (Nat.le_refl _) (M3.out _)) | (go_at_call 42; with_reducible exact Calls.kept _ (Nat.le_refl _) (M4.out _))))
    refine wpQuiet_nil ?_
    intro s
    have J5 : Hid (J2 w s.w ⟨x0, y0, x1, y1⟩) := J1.out.call s.below
    obtain ⟨a0, a1, a2, a3, r0, r1, r2, r3, f0, f1, f2, f3⟩ := J5.out.cells
    refine ⟨steps_plain rfl (gives_mono (R := fun v w' => v = undef ∧ w' = (((s.w.setCell ⟨w.heap.size + 1, 0, none⟩ (.int .i64 q.x0)).setCell ⟨w.heap.size + 1, 1, none⟩ (.int .i64 q.y0)).setCell ⟨w.heap.size + 1, 2, none⟩ (.int .i64 q.x1)).setCell ⟨w.heap.size + 1, 3, none⟩ (.int .i64 q.y1)) ?_ ?_)⟩
    · simp [gives, go_sem, r0, r1, r2, r3, f0, f1, f2, f3]
    · rintro _ _ ⟨rfl, rfl⟩
      clear k0 k1 k2 k3
      go_wp2_with fail
      exact ret_rect rfl rfl (set4_box J5.out.2.1 _ _ _ _) rfl ⟨by rw [HJ.out], J5.out.set4 _ _ _ _⟩
def growR (r : Rc) (a b c d : Int) : Rc := if r.emp then Rc.zero else whR ⟨r.x0 - a, r.y0 - b, r.x1 + c, r.y1 + d⟩
set_option maxHeartbeats 3200000 in
theorem grow_c (r : Rc) (a b c d : Int) (w : World) (hr : RcP r) (ha : 0 ≤ a ∧ a ≤ 4398046511104) (hb : 0 ≤ b ∧ b ≤ 4398046511104) (hc : 0 ≤ c ∧ c ≤ 4398046511104) (hd : 0 ≤ d ∧ d ≤ 4398046511104) :
    Calls Tryd.prog 52 #[rv r, .int .i64 a, .int .i64 b, .int .i64 c, .int .i64 d] w (PPost w (rv (growR r a b c d))) := by
  obtain ⟨x0, y0, x1, y1⟩ := r
  have J0 : Hid (J2 w ((w.alloc (.cells (cs4 x0 y0 x1 y1) 25)).alloc (.cells (cs4 0 0 0 0) 25)) ⟨x0, y0, x1, y1⟩) := J2new w ⟨x0, y0, x1, y1⟩ ⟨0, 0, 0, 0⟩ 25
  obtain ⟨p0, p1, p2, p3⟩ := hr
  unfold Pl at p0 p1 p2 p3
  dsimp only at p0 p1 p2 p3
  go_enter Tryd.func52, Tryd.ntmps52
  go_wp2_with fail
  generalize ((w.alloc (.cells (cs4 x0 y0 x1 y1) 25)).alloc (.cells (cs4 0 0 0 0) 25)) = W0 at *
  refine (empty_c x0 y0 x1 y1 W0).mono ?_; rintro e W1 ⟨rfl, hb1⟩
  have J1 : Hid (J2 w W1 ⟨x0, y0, x1, y1⟩) := J0.out.call hb1
  clear hb1 J0
  obtain ⟨a0, a1, a2, a3, r0, r1, r2, r3, f0, f1, f2, f3⟩ := J1.out.cells
  cases he : Rc.emp ⟨x0, y0, x1, y1⟩ with
  | true =>
    have HJ : Hid (growR ⟨x0, y0, x1, y1⟩ a b c d = ⟨0, 0, 0, 0⟩) := by
      have : growR ⟨x0, y0, x1, y1⟩ a b c d = ⟨0, 0, 0, 0⟩ := by unfold growR; rw [he]; rfl
      exact this
    clear he
    go_wp2_with fail
    exact ret_rect rfl rfl (set4_box J1.out.2.1 _ _ _ _) rfl ⟨by rw [HJ.out], J1.out.set4 _ _ _ _⟩
  | false =>
    have HJ : Hid (growR ⟨x0, y0, x1, y1⟩ a b c d = whR ⟨x0 - a, y0 - b, x1 + c, y1 + d⟩) := by
      have : growR ⟨x0, y0, x1, y1⟩ a b c d = whR ⟨x0 - a, y0 - b, x1 + c, y1 + d⟩ := by unfold growR; rw [he]; rfl
      exact this
    clear he
    go_wp2_with fail
    refine (whole_c ⟨x0 - a, y0 - b, x1 + c, y1 + d⟩ W1).mono ?_; rintro e W2 ⟨rfl, hb2⟩
    have J3 : Hid (J2 w W2 ⟨x0, y0, x1, y1⟩) := J1.out.call hb2
    obtain ⟨q, hq⟩ : ∃ q, q = whR ⟨x0 - a, y0 - b, x1 + c, y1 + d⟩ := ⟨_, rfl⟩
    rw [← hq] at HJ ⊢
    clear hq hb2 a0 a1 a2 a3 r0 r1 r2 r3 f0 f1 f2 f3 J1
    obtain ⟨a0, a1, a2, a3, r0, r1, r2, r3, f0, f1, f2, f3⟩ := J3.out.cells
    go_wp2_with fail
    exact ret_rect rfl rfl (set4_box J3.out.2.1 _ _ _ _) rfl ⟨by rw [HJ.out], J3.out.set4 _ _ _ _⟩
end Go.Proofs.YtgodhpampaleeaaDoor
/- Layer 14: need.box, need.one. -/
namespace Go.Proofs.YtgodhpampaleeaaDoor
open Go.RowKit Go.Bx Go.Od Go.Hp
attribute [local go_sem ↓] Go.wp_at_zero Go.wp_at_succ
set_option linter.unusedVariables false

def pbox (p : List Int) : Rc := ⟨p.getD 0 0, p.getD 1 0, p.getD 2 0, p.getD 3 0⟩
/-- the first cells of a list -/
theorem sl_cells {F : Nat → Prop} {w : World} {v : Value} {p : List Int} (h : SlOf RInt 1 F w v p) (h0 : 0 < p.length) : ∃ b o c, v = .slice (some ⟨b, o, none⟩) p.length c ∧ F b ∧ (∀ j, j < p.length → w.cell? ⟨b, o + j, none⟩ = some (.int .i64 (p.getD j 0))) ∧ p.length ≤ c ∧ c ≤ maxLen := by
  obtain ⟨a, cap, rfl, hcap, hcm, hin, hcell⟩ := h.ints
  obtain ⟨b, o, rfl, hF, hc⟩ := hcell 0 h0
  exact ⟨b, o, cap, rfl, hF, hc, hcap, hcm⟩
/-- what a node needs of an input -/
def oneN (nd : Nd) (want : Rc) : Rc :=
  if nd.op = 1 then moveR want (-(nd.p.getD 0 0)) (-(nd.p.getD 1 0))
  else if nd.op = 2 ∨ nd.op = 3 ∨ nd.op = 4 then growR want (nd.p.getD 0 0) (nd.p.getD 1 0) (nd.p.getD 0 0) (nd.p.getD 1 0)
  else if nd.op = 12 then meetR want (pbox nd.p)
  else if nd.op = 10 then (if wiR want (pbox nd.p) then want else pbox nd.p)
  else if nd.op = 11 then joinR want (growR (moveR want (-(nd.p.getD 0 0)) (-(nd.p.getD 1 0))) (nd.p.getD 2 0) (nd.p.getD 3 0) (nd.p.getD 2 0) (nd.p.getD 3 0))
  else want
/-- its parameters are right -/
structure PaOk (nd : Nd) : Prop where
  mv : nd.op = 1 ∨ nd.op = 11 → 2 ≤ nd.p.length ∧ (-1048576 ≤ nd.p.getD 0 0 ∧ nd.p.getD 0 0 ≤ 1048576) ∧ (-1048576 ≤ nd.p.getD 1 0 ∧ nd.p.getD 1 0 ≤ 1048576)
  gr : nd.op = 2 ∨ nd.op = 3 ∨ nd.op = 4 → 2 ≤ nd.p.length ∧ (0 ≤ nd.p.getD 0 0 ∧ nd.p.getD 0 0 ≤ 255) ∧ (0 ≤ nd.p.getD 1 0 ∧ nd.p.getD 1 0 ≤ 255)
  bx : nd.op = 12 ∨ nd.op = 10 → 4 ≤ nd.p.length ∧ RcP (pbox nd.p)
  sh : nd.op = 11 → 4 ≤ nd.p.length ∧ (0 ≤ nd.p.getD 2 0 ∧ nd.p.getD 2 0 ≤ 255) ∧ (0 ≤ nd.p.getD 3 0 ∧ nd.p.getD 3 0 ≤ 255)
theorem clip_pl (x : Int) : Pl (clip x) := by unfold Pl clip; omega
theorem zero_pl : RcP Rc.zero := by refine ⟨?_, ?_, ?_, ?_⟩ <;> (unfold Pl Rc.zero; dsimp only; omega)
theorem boxR_pl {r : Rc} (h : RcP r) : RcP (boxR r) := by
  unfold boxR
  split
  · exact zero_pl
  · exact h
theorem whR_pl (r : Rc) : RcP (whR r) := boxR_pl ⟨clip_pl _, clip_pl _, clip_pl _, clip_pl _⟩
theorem moveR_pl (r : Rc) (a b : Int) : RcP (moveR r a b) := by
  unfold moveR
  split
  · exact zero_pl
  · exact whR_pl _
theorem growR_pl (r : Rc) (a b c d : Int) : RcP (growR r a b c d) := by
  unfold growR
  split
  · exact zero_pl
  · exact whR_pl _
theorem joinR_pl {a b : Rc} (ha : RcP a) (hb : RcP b) : RcP (joinR a b) := by
  unfold joinR
  split
  · split
    · exact zero_pl
    · exact hb
  · split
    · exact ha
    · obtain ⟨a0, a1, a2, a3⟩ := ha
      obtain ⟨b0, b1, b2, b3⟩ := hb
      unfold Pl at *
      refine ⟨?_, ?_, ?_, ?_⟩ <;> (unfold Pl; dsimp only; omega)
theorem meetR_pl {a b : Rc} (ha : RcP a) (hb : RcP b) : RcP (meetR a b) := by
  refine boxR_pl ?_
  obtain ⟨a0, a1, a2, a3⟩ := ha
  obtain ⟨b0, b1, b2, b3⟩ := hb
  unfold Pl at *
  refine ⟨?_, ?_, ?_, ?_⟩ <;> (unfold Pl; dsimp only; omega)
theorem oneN_pl {nd : Nd} {r : Rc} (h : PaOk nd) (hr : RcP r) : RcP (oneN nd r) := by
  unfold oneN
  split
  · exact moveR_pl _ _ _
  · split
    · exact growR_pl _ _ _ _ _
    · split
      · exact meetR_pl hr (h.bx (.inl (by assumption))).2
      · split
        · split
          · exact hr
          · exact (h.bx (.inr (by assumption))).2
        · split
          · exact joinR_pl hr (growR_pl _ _ _ _ _)
          · exact hr
end Go.Proofs.YtgodhpampaleeaaDoor
/- Layer 14: need.one. (Printed by tools/mk_one.py.) -/
namespace Go.Proofs.YtgodhpampaleeaaDoor
open Go.RowKit Go.Bx Go.Od Go.Hp
attribute [local go_sem ↓] Go.wp_at_zero Go.wp_at_succ
set_option linter.unusedVariables false

/-- a node boxed, a rectangle, a result behind them -/
def N3 (w W : World) (op : Int) (iv pv : Value) (a : Rc) : Prop := Box W w.heap.size [.int .i64 op, iv, pv] ∧ Box W (w.heap.size + 1) (cl4 a) ∧ Box W (w.heap.size + 2) (cl4 ⟨0, 0, 0, 0⟩) ∧ Below w.heap.size w W
theorem N3.call {w W W' : World} {op : Int} {iv pv : Value} {a : Rc} (h : N3 w W op iv pv a) (hb : Below W.heap.size W W') : N3 w W' op iv pv a := ⟨h.1.call hb, h.2.1.call hb, h.2.2.1.call hb, h.2.2.2.trans (hb.mono h.2.2.2.size)⟩
theorem N3.new (w : World) (op : Int) (iv pv : Value) (a : Rc) (t1 t2 : TypeId) : N3 w (((w.alloc (.cells #[.int .i64 op, iv, pv] t1)).alloc (.cells (cl4 a).toArray t2)).alloc (.cells (cl4 ⟨0, 0, 0, 0⟩).toArray t2)) op iv pv a := by
  have h0 := Box.new w [.int .i64 op, iv, pv] t1
  have h1 := Box.new (w.alloc (.cells #[.int .i64 op, iv, pv] t1)) (cl4 a) t2
  have h2 := Box.new ((w.alloc (.cells #[.int .i64 op, iv, pv] t1)).alloc (.cells (cl4 a).toArray t2)) (cl4 ⟨0, 0, 0, 0⟩) t2
  rw [size_alloc] at h1
  rw [size_alloc, size_alloc] at h2
  exact ⟨(h0.alloc _).alloc _, h1.alloc _, h2, ((below_new w _).alloc (by rw [size_alloc]; omega) _).alloc (by rw [size_alloc, size_alloc]; omega) _⟩
theorem N3.newr (w : World) (op : Int) (iv pv : Value) (a r : Rc) (t1 t2 : TypeId) : Box (((w.alloc (.cells #[.int .i64 op, iv, pv] t1)).alloc (.cells (cl4 a).toArray t2)).alloc (.cells (cl4 r).toArray t2)) (w.heap.size + 1 + 1) (cl4 r) ∧ Below w.heap.size w (((w.alloc (.cells #[.int .i64 op, iv, pv] t1)).alloc (.cells (cl4 a).toArray t2)).alloc (.cells (cl4 r).toArray t2)) := by
  have h2 := Box.new ((w.alloc (.cells #[.int .i64 op, iv, pv] t1)).alloc (.cells (cl4 a).toArray t2)) (cl4 r) t2
  rw [size_alloc, size_alloc] at h2
  exact ⟨h2, ((below_new w _).alloc (by rw [size_alloc]; omega) _).alloc (by rw [size_alloc, size_alloc]; omega) _⟩
theorem N3.cells {w W : World} {op : Int} {iv pv : Value} {a : Rc} (h : N3 w W op iv pv a) :
    (W.cell? ⟨w.heap.size, 0, none⟩ = some (.int .i64 op) ∧ W.cell? ⟨w.heap.size, 1, none⟩ = some iv ∧ W.cell? ⟨w.heap.size, 2, none⟩ = some pv) ∧
    (W.cell? ⟨w.heap.size + 1, 0, none⟩ = some (.int .i64 a.x0) ∧ W.cell? ⟨w.heap.size + 1, 1, none⟩ = some (.int .i64 a.y0) ∧ W.cell? ⟨w.heap.size + 1, 2, none⟩ = some (.int .i64 a.x1) ∧ W.cell? ⟨w.heap.size + 1, 3, none⟩ = some (.int .i64 a.y1)) ∧
    (W.cell? ⟨w.heap.size + 1 + 1, 0, none⟩ = some (.int .i64 0) ∧ W.cell? ⟨w.heap.size + 1 + 1, 1, none⟩ = some (.int .i64 0) ∧ W.cell? ⟨w.heap.size + 1 + 1, 2, none⟩ = some (.int .i64 0) ∧ W.cell? ⟨w.heap.size + 1 + 1, 3, none⟩ = some (.int .i64 0)) ∧
    (W.frozen? ⟨w.heap.size + 1 + 1, 0, none⟩ = false ∧ W.frozen? ⟨w.heap.size + 1 + 1, 1, none⟩ = false ∧ W.frozen? ⟨w.heap.size + 1 + 1, 2, none⟩ = false ∧ W.frozen? ⟨w.heap.size + 1 + 1, 3, none⟩ = false) :=
  ⟨⟨h.1.cell 0 rfl, h.1.cell 1 rfl, h.1.cell 2 rfl⟩, ⟨h.2.1.cell 0 rfl, h.2.1.cell 1 rfl, h.2.1.cell 2 rfl, h.2.1.cell 3 rfl⟩, ⟨h.2.2.1.cell 0 rfl, h.2.2.1.cell 1 rfl, h.2.2.1.cell 2 rfl, h.2.2.1.cell 3 rfl⟩, ⟨h.2.2.1.frozen 0, h.2.2.1.frozen 1, h.2.2.1.frozen 2, h.2.2.1.frozen 3⟩⟩
theorem N3.set4 {w W : World} {op : Int} {iv pv : Value} {a : Rc} (h : N3 w W op iv pv a) (u0 u1 u2 u3 : Value) : Below w.heap.size w ((((W.setCell ⟨w.heap.size + 1 + 1, 0, none⟩ u0).setCell ⟨w.heap.size + 1 + 1, 1, none⟩ u1).setCell ⟨w.heap.size + 1 + 1, 2, none⟩ u2).setCell ⟨w.heap.size + 1 + 1, 3, none⟩ u3) :=
  (((h.2.2.2.setCell (by simp; omega) _).setCell (by simp; omega) _).setCell (by simp; omega) _).setCell (by simp; omega) _
end Go.Proofs.YtgodhpampaleeaaDoor
/- Layer 14: need.Of; rows of rectangles. -/
namespace Go.Proofs.YtgodhpampaleeaaDoor
open Go.RowKit Go.Bx Go.Od Go.Hp
attribute [local go_sem ↓] Go.wp_at_zero Go.wp_at_succ
set_option linter.unusedVariables false

/-- rows of rectangles, as cells -/
def rcs : List Rc → List Value
  | [] => []
  | r :: rs => .int .i64 r.x0 :: .int .i64 r.y0 :: .int .i64 r.x1 :: .int .i64 r.y1 :: rcs rs
theorem rcs_len : ∀ rs : List Rc, (rcs rs).length = rs.length * 4
  | [] => rfl
  | r :: rs => by simp [rcs, rcs_len rs]; omega
theorem rcs_get : ∀ (rs : List Rc) (i : Nat) (r : Rc), rs[i]? = some r → (rcs rs)[i * 4]? = some (.int .i64 r.x0) ∧ (rcs rs)[i * 4 + 1]? = some (.int .i64 r.y0) ∧ (rcs rs)[i * 4 + 2]? = some (.int .i64 r.x1) ∧ (rcs rs)[i * 4 + 3]? = some (.int .i64 r.y1)
  | [], i, r, h => by simp at h
  | a :: rs, 0, r, h => by simp at h; subst h; exact ⟨rfl, rfl, rfl, rfl⟩
  | a :: rs, i + 1, r, h => by
    have := rcs_get rs i r (by simpa using h)
    rw [show (i + 1) * 4 = i * 4 + 1 + 1 + 1 + 1 by omega, show i * 4 + 1 + 1 + 1 + 1 + 1 = i * 4 + 1 + 1 + 1 + 1 + 1 by rfl, show i * 4 + 1 + 1 + 1 + 1 + 2 = i * 4 + 2 + 1 + 1 + 1 + 1 by omega, show i * 4 + 1 + 1 + 1 + 1 + 3 = i * 4 + 3 + 1 + 1 + 1 + 1 by omega]
    simpa [rcs] using this
theorem rcs_set : ∀ (rs : List Rc) (i : Nat) (r : Rc), (((((rcs rs).set (i * 4) (.int .i64 r.x0)).set (i * 4 + 1) (.int .i64 r.y0)).set (i * 4 + 2) (.int .i64 r.x1)).set (i * 4 + 3) (.int .i64 r.y1)) = rcs (rs.set i r)
  | [], i, r => by simp [rcs]
  | a :: rs, 0, r => rfl
  | a :: rs, i + 1, r => by
    have := rcs_set rs i r
    rw [show (i + 1) * 4 = i * 4 + 1 + 1 + 1 + 1 by omega, show i * 4 + 1 + 1 + 1 + 1 + 2 = i * 4 + 2 + 1 + 1 + 1 + 1 by omega, show i * 4 + 1 + 1 + 1 + 1 + 3 = i * 4 + 3 + 1 + 1 + 1 + 1 by omega]
    simp only [rcs, List.set_cons_succ]
    rw [this]
/-- a rectangle of a row is stored -/
theorem rbox_set {W : World} {O : Nat} {rs : List Rc} (h : Box W O (rcs rs)) (i : Nat) (r : Rc) : Box ((((W.setCell ⟨O, i * 4, none⟩ (.int .i64 r.x0)).setCell ⟨O, i * 4 + 1, none⟩ (.int .i64 r.y0)).setCell ⟨O, i * 4 + 2, none⟩ (.int .i64 r.x1)).setCell ⟨O, i * 4 + 3, none⟩ (.int .i64 r.y1)) O (rcs (rs.set i r)) := by
  rw [← rcs_set]
  exact (((h.self _ _).self _ _).self _ _).self _ _
theorem rbox_get {W : World} {O : Nat} {rs : List Rc} (h : Box W O (rcs rs)) {i : Nat} {r : Rc} (hi : rs[i]? = some r) : W.cell? ⟨O, i * 4, none⟩ = some (.int .i64 r.x0) ∧ W.cell? ⟨O, i * 4 + 1, none⟩ = some (.int .i64 r.y0) ∧ W.cell? ⟨O, i * 4 + 2, none⟩ = some (.int .i64 r.x1) ∧ W.cell? ⟨O, i * 4 + 3, none⟩ = some (.int .i64 r.y1) := by
  obtain ⟨h0, h1, h2, h3⟩ := rcs_get rs i r hi
  exact ⟨h.cell _ h0, h.cell _ h1, h.cell _ h2, h.cell _ h3⟩
theorem rcs_zero (n : Nat) : (madeCells (Value.agg #[.int .i64 0, .int .i64 0, .int .i64 0, .int .i64 0]).cells (n * 4)).toList = rcs (List.replicate n Rc.zero) := by
  have e : rcs (List.replicate n Rc.zero) = List.replicate (n * 4) (.int .i64 0) := by
    induction n with
    | zero => rfl
    | succ n ih =>
      rw [List.replicate_succ, show (n + 1) * 4 = n * 4 + 1 + 1 + 1 + 1 by omega, List.replicate_succ, List.replicate_succ, List.replicate_succ, List.replicate_succ, ← ih]
      rfl
  rw [e]
  apply List.ext_getElem?
  intro j
  by_cases hj : j < n * 4
  · have h4 : j % 4 < 4 := Nat.mod_lt _ (by omega)
    have : ∀ k, k < 4 → ([Value.int .i64 0, .int .i64 0, .int .i64 0, .int .i64 0] : List Value)[k]?.getD default = .int .i64 0 := by
      intro k hk
      match k, hk with
      | 0, _ => rfl
      | 1, _ => rfl
      | 2, _ => rfl
      | 3, _ => rfl
    simp [madeCells, hj, Value.cells]
    exact this _ h4
  · simp [madeCells, hj]
theorem box_own4 {w : World} {B n b : Nat} {e : TypeId} {xs : List Value} (h : w.ownsRow B e 4 (.slice (some ⟨b, 0, none⟩) n n) n xs) : Box w b xs := by
  rcases h.2 with ⟨h, _⟩ | ⟨g, cap, cur, h1, _, hb, _, _, hs, ht⟩
  · cases h
  · cases h1
    refine ⟨e, ?_⟩
    rw [hb]
    have : cur.toList = xs := by rw [← ht, List.take_of_length_le (by simp; omega)]
    subst this
    simp
theorem infoRc : (Tryd.prog.info? 25).map (fun i => (i.zero, i.size, i.bytes)) = some (some (.agg #[.int .i64 0, .int .i64 0, .int .i64 0, .int .i64 0]), 4, 32) := by kernel_rfl
def ofR (nd : Nd) (want : Rc) : Rc := if want.emp then Rc.zero else oneN nd want
def OfPost (w : World) (m : Nat) (r : Rc) (e : Ending) (w' : World) : Prop := ∃ O, w.heap.size ≤ O ∧ e = .returned (.slice (some ⟨O, 0, none⟩) m m) ∧ Box w' O (rcs (List.replicate m r)) ∧ Below w.heap.size w w'
/-- half done -/
def half (m i : Nat) (r : Rc) : List Rc := (List.range m).map fun j => if j < i then r else Rc.zero
theorem half_zero (m : Nat) (r : Rc) : half m 0 r = List.replicate m Rc.zero := by
  apply List.ext_getElem?
  intro j
  by_cases hj : j < m
  · simp [half, hj]
  · simp [half, hj]
theorem half_end (m : Nat) (r : Rc) : half m m r = List.replicate m r := by
  apply List.ext_getElem?
  intro j
  by_cases hj : j < m
  · simp [half, hj]
  · simp [half, hj]
theorem half_set (m i : Nat) (r : Rc) : (half m i r).set i r = half m (i + 1) r := by
  apply List.ext_getElem?
  intro j
  by_cases hj : j < m
  · by_cases e : j = i
    · subst e
      rw [List.getElem?_set_self (by simp [half]; exact hj)]
      simp [half, hj]
    · rw [List.getElem?_set_ne (fun h => e h.symm)]
      simp [half, hj, show (j < i + 1) ↔ j < i by omega]
  · rw [List.getElem?_eq_none (by simp [half]; omega), List.getElem?_eq_none (by simp [half]; omega)]
end Go.Proofs.YtgodhpampaleeaaDoor
