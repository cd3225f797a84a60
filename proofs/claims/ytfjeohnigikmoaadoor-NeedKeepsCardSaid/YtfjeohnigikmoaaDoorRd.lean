/- Layer 3: Join, Meet, Within. -/
import Derived.Test.YtfjeohnigikmoaaDoorRc
import Derived.Lib.MinMax
import Derived.Laws.Rows
namespace Go.Proofs.YtfjeohnigikmoaaDoor
open Go.RowKit Go.Bx Go.Od Go.Hp
attribute [local go_sem ↓] Go.wp_at_zero Go.wp_at_succ
set_option linter.unusedVariables false

abbrev cl4 (r : Rc) : List Value := [.int .i64 r.x0, .int .i64 r.y0, .int .i64 r.x1, .int .i64 r.y1]
def J3 (w W : World) (a b r : Rc) : Prop := Box W w.heap.size (cl4 a) ∧ Box W (w.heap.size + 1) (cl4 b) ∧ Box W (w.heap.size + 2) (cl4 r) ∧ Below w.heap.size w W
theorem J3.call {w W W' : World} {a b r : Rc} (h : J3 w W a b r) (hb : Below W.heap.size W W') : J3 w W' a b r := ⟨h.1.call hb, h.2.1.call hb, h.2.2.1.call hb, h.2.2.2.trans (hb.mono h.2.2.2.size)⟩
theorem J3.new (w : World) (a b r : Rc) (t : TypeId) : J3 w (((w.alloc (.cells (cl4 a).toArray t)).alloc (.cells (cl4 b).toArray t)).alloc (.cells (cl4 r).toArray t)) a b r := by
  have h1 := Box.new (w.alloc (.cells (cl4 a).toArray t)) (cl4 b) t
  have h2 := Box.new ((w.alloc (.cells (cl4 a).toArray t)).alloc (.cells (cl4 b).toArray t)) (cl4 r) t
  rw [size_alloc] at h1
  rw [size_alloc, size_alloc] at h2
  exact ⟨((Box.new w (cl4 a) t).alloc _).alloc _, h1.alloc _, h2, ((below_new w _).alloc (by rw [size_alloc]; omega) _).alloc (by rw [size_alloc, size_alloc]; omega) _⟩
theorem J3.cells {w W : World} {a b r : Rc} (h : J3 w W a b r) :
    W.cell? ⟨w.heap.size, 0, none⟩ = some (.int .i64 a.x0) ∧ W.cell? ⟨w.heap.size, 1, none⟩ = some (.int .i64 a.y0) ∧ W.cell? ⟨w.heap.size, 2, none⟩ = some (.int .i64 a.x1) ∧ W.cell? ⟨w.heap.size, 3, none⟩ = some (.int .i64 a.y1) ∧
    W.cell? ⟨w.heap.size + 1, 0, none⟩ = some (.int .i64 b.x0) ∧ W.cell? ⟨w.heap.size + 1, 1, none⟩ = some (.int .i64 b.y0) ∧ W.cell? ⟨w.heap.size + 1, 2, none⟩ = some (.int .i64 b.x1) ∧ W.cell? ⟨w.heap.size + 1, 3, none⟩ = some (.int .i64 b.y1) ∧
    W.cell? ⟨w.heap.size + 1 + 1, 0, none⟩ = some (.int .i64 r.x0) ∧ W.cell? ⟨w.heap.size + 1 + 1, 1, none⟩ = some (.int .i64 r.y0) ∧ W.cell? ⟨w.heap.size + 1 + 1, 2, none⟩ = some (.int .i64 r.x1) ∧ W.cell? ⟨w.heap.size + 1 + 1, 3, none⟩ = some (.int .i64 r.y1) ∧
    W.frozen? ⟨w.heap.size + 1 + 1, 0, none⟩ = false ∧ W.frozen? ⟨w.heap.size + 1 + 1, 1, none⟩ = false ∧ W.frozen? ⟨w.heap.size + 1 + 1, 2, none⟩ = false ∧ W.frozen? ⟨w.heap.size + 1 + 1, 3, none⟩ = false :=
  ⟨h.1.cell 0 rfl, h.1.cell 1 rfl, h.1.cell 2 rfl, h.1.cell 3 rfl, h.2.1.cell 0 rfl, h.2.1.cell 1 rfl, h.2.1.cell 2 rfl, h.2.1.cell 3 rfl, h.2.2.1.cell 0 rfl, h.2.2.1.cell 1 rfl, h.2.2.1.cell 2 rfl, h.2.2.1.cell 3 rfl, h.2.2.1.frozen 0, h.2.2.1.frozen 1, h.2.2.1.frozen 2, h.2.2.1.frozen 3⟩
/-- four stores to a block above -/
theorem J3.set4 {w W : World} {a b r : Rc} (h : J3 w W a b r) (u0 u1 u2 u3 : Value) : Below w.heap.size w ((((W.setCell ⟨w.heap.size + 1 + 1, 0, none⟩ u0).setCell ⟨w.heap.size + 1 + 1, 1, none⟩ u1).setCell ⟨w.heap.size + 1 + 1, 2, none⟩ u2).setCell ⟨w.heap.size + 1 + 1, 3, none⟩ u3) :=
  (((h.2.2.2.setCell (by simp; omega) _).setCell (by simp; omega) _).setCell (by simp; omega) _).setCell (by simp; omega) _
theorem set4_box {W : World} {g : Nat} {r : Rc} (h : Box W g (cl4 r)) (x0 y0 x1 y1 : Int) : Box ((((W.setCell ⟨g, 0, none⟩ (.int .i64 x0)).setCell ⟨g, 1, none⟩ (.int .i64 y0)).setCell ⟨g, 2, none⟩ (.int .i64 x1)).setCell ⟨g, 3, none⟩ (.int .i64 y1)) g (cl4 ⟨x0, y0, x1, y1⟩) :=
  (((h.self 0 _).self 1 _).self 2 _).self 3 _
theorem ret_rect {fn : Func} {p : Tmp} (h : fn.results = #[.cell p 26]) {a : Act} {W : World} {g : Nat} {r : Rc} {R : Ending → World → Prop} (hp : a.tmps.getD p undef = .pointer (some ⟨g, 0, none⟩)) (hx : Box W g (cl4 r)) (hd : a.defers = []) (hR : R (.returned (rv r)) W) : bodyPost Tryd.prog fn R .ret a W := by
  obtain ⟨t, ht⟩ := hx
  exact bodyPost_ret_by (results_cell_row h a.tmps W g t _ (0, 0) _ hp ht Tryd.underlying25 rfl (by kernel_rfl)) hd hR
theorem joinR_tt {a b : Rc} (ha : a.emp = true) (hb : b.emp = true) : joinR a b = Rc.zero := by unfold joinR; rw [if_pos ha, if_pos hb]
theorem joinR_tf {a b : Rc} (ha : a.emp = true) (hb : b.emp = false) : joinR a b = b := by unfold joinR; rw [if_pos ha, hb]; rfl
theorem joinR_ft {a b : Rc} (ha : a.emp = false) (hb : b.emp = true) : joinR a b = a := by unfold joinR; rw [ha, hb]; rfl
theorem joinR_ff {a b : Rc} (ha : a.emp = false) (hb : b.emp = false) : joinR a b = ⟨min a.x0 b.x0, min a.y0 b.y0, max a.x1 b.x1, max a.y1 b.y1⟩ := by unfold joinR; rw [ha, hb]; rfl
set_option maxHeartbeats 3200000 in
theorem join_c (a b : Rc) (w : World) : Calls Tryd.prog 19 #[rv a, rv b] w (PPost w (rv (joinR a b))) := by
  obtain ⟨x0, y0, x1, y1⟩ := a
  obtain ⟨x2, y2, x3, y3⟩ := b
  have J0 : Hid (J3 w (((w.alloc (.cells (cs4 x0 y0 x1 y1) 26)).alloc (.cells (cs4 x2 y2 x3 y3) 26)).alloc (.cells (cs4 0 0 0 0) 26)) ⟨x0, y0, x1, y1⟩ ⟨x2, y2, x3, y3⟩ ⟨0, 0, 0, 0⟩) := J3.new w ⟨x0, y0, x1, y1⟩ ⟨x2, y2, x3, y3⟩ ⟨0, 0, 0, 0⟩ 26
  go_enter Tryd.func19, Tryd.ntmps19
  go_wp2_with fail
  generalize (((w.alloc (.cells (cs4 x0 y0 x1 y1) 26)).alloc (.cells (cs4 x2 y2 x3 y3) 26)).alloc (.cells (cs4 0 0 0 0) 26)) = W0 at *
  refine (empty_c x0 y0 x1 y1 W0).mono ?_; rintro e W1 ⟨rfl, hb1⟩
  have J1 : Hid (J3 w W1 ⟨x0, y0, x1, y1⟩ ⟨x2, y2, x3, y3⟩ ⟨0, 0, 0, 0⟩) := J0.out.call hb1
  clear hb1 J0
  obtain ⟨a0, a1, a2, a3, b0, b1, b2, b3, r0, r1, r2, r3, f0, f1, f2, f3⟩ := J1.out.cells
  cases ha : Rc.emp ⟨x0, y0, x1, y1⟩ with
  | true =>
    go_wp2_with fail
    refine (empty_c x2 y2 x3 y3 W1).mono ?_; rintro e W2 ⟨rfl, hb2⟩
    have J2 : Hid (J3 w W2 ⟨x0, y0, x1, y1⟩ ⟨x2, y2, x3, y3⟩ ⟨0, 0, 0, 0⟩) := J1.out.call hb2
    clear hb2 a0 a1 a2 a3 b0 b1 b2 b3 r0 r1 r2 r3 f0 f1 f2 f3
    obtain ⟨a0, a1, a2, a3, b0, b1, b2, b3, r0, r1, r2, r3, f0, f1, f2, f3⟩ := J2.out.cells
    cases hb : Rc.emp ⟨x2, y2, x3, y3⟩ with
    | true =>
      have HJ : Hid (joinR ⟨x0, y0, x1, y1⟩ ⟨x2, y2, x3, y3⟩ = ⟨0, 0, 0, 0⟩) := joinR_tt ha hb
      clear ha hb
      go_wp2_with fail
      exact ret_rect rfl rfl (set4_box J2.out.2.2.1 _ _ _ _) rfl ⟨by rw [HJ.out], J2.out.set4 _ _ _ _⟩
    | false =>
      have HJ : Hid (joinR ⟨x0, y0, x1, y1⟩ ⟨x2, y2, x3, y3⟩ = ⟨x2, y2, x3, y3⟩) := joinR_tf ha hb
      clear hb
      go_wp2_with fail
      refine (empty_c x0 y0 x1 y1 W2).mono ?_; rintro e W3 ⟨rfl, hb3⟩
      have J3 : Hid (J3 w W3 ⟨x0, y0, x1, y1⟩ ⟨x2, y2, x3, y3⟩ ⟨0, 0, 0, 0⟩) := J2.out.call hb3
      clear hb3 a0 a1 a2 a3 b0 b1 b2 b3 r0 r1 r2 r3 f0 f1 f2 f3
      obtain ⟨a0, a1, a2, a3, b0, b1, b2, b3, r0, r1, r2, r3, f0, f1, f2, f3⟩ := J3.out.cells
      rw [ha]
      clear ha
      go_wp2_with fail
      exact ret_rect rfl rfl (set4_box J3.out.2.2.1 _ _ _ _) rfl ⟨by rw [HJ.out], J3.out.set4 _ _ _ _⟩
  | false =>
    go_wp2_with fail
    refine (empty_c x0 y0 x1 y1 W1).mono ?_; rintro e W2 ⟨rfl, hb2⟩
    have J2 : Hid (J3 w W2 ⟨x0, y0, x1, y1⟩ ⟨x2, y2, x3, y3⟩ ⟨0, 0, 0, 0⟩) := J1.out.call hb2
    clear hb2 a0 a1 a2 a3 b0 b1 b2 b3 r0 r1 r2 r3 f0 f1 f2 f3
    obtain ⟨a0, a1, a2, a3, b0, b1, b2, b3, r0, r1, r2, r3, f0, f1, f2, f3⟩ := J2.out.cells
    have HA : Hid (Rc.emp ⟨x0, y0, x1, y1⟩ = false) := ha
    rw [ha]
    clear ha
    go_wp2_with fail
    refine (empty_c x2 y2 x3 y3 W2).mono ?_; rintro e W3 ⟨rfl, hb3⟩
    have J3 : Hid (J3 w W3 ⟨x0, y0, x1, y1⟩ ⟨x2, y2, x3, y3⟩ ⟨0, 0, 0, 0⟩) := J2.out.call hb3
    clear hb3 a0 a1 a2 a3 b0 b1 b2 b3 r0 r1 r2 r3 f0 f1 f2 f3
    obtain ⟨a0, a1, a2, a3, b0, b1, b2, b3, r0, r1, r2, r3, f0, f1, f2, f3⟩ := J3.out.cells
    cases hb : Rc.emp ⟨x2, y2, x3, y3⟩ with
    | true =>
      have HJ : Hid (joinR ⟨x0, y0, x1, y1⟩ ⟨x2, y2, x3, y3⟩ = ⟨x0, y0, x1, y1⟩) := joinR_ft HA.out hb
      clear hb
      go_wp2_with fail
      exact ret_rect rfl rfl (set4_box J3.out.2.2.1 _ _ _ _) rfl ⟨by rw [HJ.out], J3.out.set4 _ _ _ _⟩
    | false =>
      have HJ : Hid (joinR ⟨x0, y0, x1, y1⟩ ⟨x2, y2, x3, y3⟩ = ⟨min x0 x2, min y0 y2, max x1 x3, max y1 y3⟩) := joinR_ff HA.out hb
      clear hb
      go_wp2_with fail
      exact ret_rect rfl rfl (set4_box J3.out.2.2.1 _ _ _ _) rfl ⟨by rw [HJ.out], J3.out.set4 _ _ _ _⟩
/-! ### Meet -/
def boxR (r : Rc) : Rc := if r.emp then Rc.zero else r
def meetR (a b : Rc) : Rc := boxR ⟨max a.x0 b.x0, max a.y0 b.y0, min a.x1 b.x1, min a.y1 b.y1⟩
set_option maxHeartbeats 3200000 in
theorem meet_c (a b : Rc) (w : World) : Calls Tryd.prog 41 #[rv a, rv b] w (PPost w (rv (meetR a b))) := by
  obtain ⟨x0, y0, x1, y1⟩ := a
  obtain ⟨x2, y2, x3, y3⟩ := b
  have J0 : Hid (J3 w (((w.alloc (.cells (cs4 x0 y0 x1 y1) 26)).alloc (.cells (cs4 x2 y2 x3 y3) 26)).alloc (.cells (cs4 0 0 0 0) 26)) ⟨x0, y0, x1, y1⟩ ⟨x2, y2, x3, y3⟩ ⟨0, 0, 0, 0⟩) := J3.new w ⟨x0, y0, x1, y1⟩ ⟨x2, y2, x3, y3⟩ ⟨0, 0, 0, 0⟩ 26
  go_enter Tryd.func41, Tryd.ntmps41
  go_wp2_with fail
  have HB : Hid (Below w.heap.size w (((w.alloc (.cells (cs4 x0 y0 x1 y1) 26)).alloc (.cells (cs4 x2 y2 x3 y3) 26)).alloc (.cells (cs4 0 0 0 0) 26)) ∧ (((w.alloc (.cells (cs4 x0 y0 x1 y1) 26)).alloc (.cells (cs4 x2 y2 x3 y3) 26)).alloc (.cells (cs4 0 0 0 0) 26)).heap.size = w.heap.size + 1 + 1 + 1) := ⟨J0.out.2.2.2, by simp⟩
  generalize (((w.alloc (.cells (cs4 x0 y0 x1 y1) 26)).alloc (.cells (cs4 x2 y2 x3 y3) 26)).alloc (.cells (cs4 0 0 0 0) 26)) = W0 at *
  have Y := Box.new W0 (cl4 ⟨max x0 x2, max y0 y2, min x1 x3, min y1 y3⟩) 26
  rw [HB.out.2] at Y
  have J1 : Hid (J3 w (W0.alloc (.cells (cs4 (max x0 x2) (max y0 y2) (min x1 x3) (min y1 y3)) 26)) ⟨x0, y0, x1, y1⟩ ⟨x2, y2, x3, y3⟩ ⟨0, 0, 0, 0⟩ ∧ Box (W0.alloc (.cells (cs4 (max x0 x2) (max y0 y2) (min x1 x3) (min y1 y3)) 26)) (w.heap.size + 1 + 1 + 1) (cl4 ⟨max x0 x2, max y0 y2, min x1 x3, min y1 y3⟩)) := ⟨J0.out.call (below_new _ _), Y⟩
  clear Y J0 HB
  generalize W0.alloc (.cells (cs4 (max x0 x2) (max y0 y2) (min x1 x3) (min y1 y3)) 26) = W1 at *
  refine (empty_c _ _ _ _ W1).mono ?_; rintro e W2 ⟨rfl, hb2⟩
  have J2 : Hid (J3 w W2 ⟨x0, y0, x1, y1⟩ ⟨x2, y2, x3, y3⟩ ⟨0, 0, 0, 0⟩ ∧ Box W2 (w.heap.size + 1 + 1 + 1) (cl4 ⟨max x0 x2, max y0 y2, min x1 x3, min y1 y3⟩)) := ⟨J1.out.1.call hb2, J1.out.2.call hb2⟩
  clear hb2 J1
  obtain ⟨a0, a1, a2, a3, b0, b1, b2, b3, r0, r1, r2, r3, f0, f1, f2, f3⟩ := J2.out.1.cells
  have m0 := J2.out.2.cell 0 rfl
  have m1 := J2.out.2.cell 1 rfl
  have m2 := J2.out.2.cell 2 rfl
  have m3 := J2.out.2.cell 3 rfl
  cases ha : Rc.emp ⟨max x0 x2, max y0 y2, min x1 x3, min y1 y3⟩ with
  | true =>
    have HJ : Hid (meetR ⟨x0, y0, x1, y1⟩ ⟨x2, y2, x3, y3⟩ = ⟨0, 0, 0, 0⟩) := by
      have : meetR ⟨x0, y0, x1, y1⟩ ⟨x2, y2, x3, y3⟩ = ⟨0, 0, 0, 0⟩ := by unfold meetR boxR; rw [ha]; rfl
      exact this
    clear ha
    go_wp2_with fail
    exact ret_rect rfl rfl (set4_box J2.out.1.2.2.1 _ _ _ _) rfl ⟨by rw [HJ.out], J2.out.1.set4 _ _ _ _⟩
  | false =>
    have HJ : Hid (meetR ⟨x0, y0, x1, y1⟩ ⟨x2, y2, x3, y3⟩ = ⟨max x0 x2, max y0 y2, min x1 x3, min y1 y3⟩) := by
      have : meetR ⟨x0, y0, x1, y1⟩ ⟨x2, y2, x3, y3⟩ = ⟨max x0 x2, max y0 y2, min x1 x3, min y1 y3⟩ := by unfold meetR boxR; rw [ha]; rfl
      exact this
    clear ha
    go_wp2_with fail
    exact ret_rect rfl rfl (set4_box J2.out.1.2.2.1 _ _ _ _) rfl ⟨by rw [HJ.out], J2.out.1.set4 _ _ _ _⟩
/-! ### Within -/
def wiR (a b : Rc) : Bool := a.emp || (decide (b.x0 ≤ a.x0) && decide (b.y0 ≤ a.y0) && decide (a.x1 ≤ b.x1) && decide (a.y1 ≤ b.y1))
theorem J2new (w : World) (a b : Rc) (t : TypeId) : Box ((w.alloc (.cells (cl4 a).toArray t)).alloc (.cells (cl4 b).toArray t)) w.heap.size (cl4 a) ∧ Box ((w.alloc (.cells (cl4 a).toArray t)).alloc (.cells (cl4 b).toArray t)) (w.heap.size + 1) (cl4 b) ∧ Below w.heap.size w ((w.alloc (.cells (cl4 a).toArray t)).alloc (.cells (cl4 b).toArray t)) := by
  have h1 := Box.new (w.alloc (.cells (cl4 a).toArray t)) (cl4 b) t
  rw [size_alloc] at h1
  exact ⟨(Box.new w (cl4 a) t).alloc _, h1, (below_new w _).alloc (by rw [size_alloc]; omega) _⟩
set_option maxHeartbeats 3200000 in
theorem within_c (a b : Rc) (w : World) : Calls Tryd.prog 43 #[rv a, rv b] w (PPost w (.bool (wiR a b))) := by
  obtain ⟨x0, y0, x1, y1⟩ := a
  obtain ⟨x2, y2, x3, y3⟩ := b
  have J0 : Hid (Box ((w.alloc (.cells (cs4 x0 y0 x1 y1) 26)).alloc (.cells (cs4 x2 y2 x3 y3) 26)) w.heap.size (cl4 ⟨x0, y0, x1, y1⟩) ∧ Box ((w.alloc (.cells (cs4 x0 y0 x1 y1) 26)).alloc (.cells (cs4 x2 y2 x3 y3) 26)) (w.heap.size + 1) (cl4 ⟨x2, y2, x3, y3⟩) ∧ Below w.heap.size w ((w.alloc (.cells (cs4 x0 y0 x1 y1) 26)).alloc (.cells (cs4 x2 y2 x3 y3) 26))) := J2new w ⟨x0, y0, x1, y1⟩ ⟨x2, y2, x3, y3⟩ 26
  go_enter Tryd.func43, Tryd.ntmps43
  go_wp2_with fail
  generalize ((w.alloc (.cells (cs4 x0 y0 x1 y1) 26)).alloc (.cells (cs4 x2 y2 x3 y3) 26)) = W0 at *
  refine (empty_c x0 y0 x1 y1 W0).mono ?_; rintro e W1 ⟨rfl, hb1⟩
  have J1 : Hid (Box W1 w.heap.size (cl4 ⟨x0, y0, x1, y1⟩) ∧ Box W1 (w.heap.size + 1) (cl4 ⟨x2, y2, x3, y3⟩) ∧ Below w.heap.size w W1) := ⟨J0.out.1.call hb1, J0.out.2.1.call hb1, J0.out.2.2.trans (hb1.mono J0.out.2.2.size)⟩
  clear hb1 J0
  have a0 := J1.out.1.cell 0 rfl
  have a1 := J1.out.1.cell 1 rfl
  have a2 := J1.out.1.cell 2 rfl
  have a3 := J1.out.1.cell 3 rfl
  have b0 := J1.out.2.1.cell 0 rfl
  have b1 := J1.out.2.1.cell 1 rfl
  have b2 := J1.out.2.1.cell 2 rfl
  have b3 := J1.out.2.1.cell 3 rfl
  cases ha : Rc.emp ⟨x0, y0, x1, y1⟩ with
  | true =>
    have HJ : Hid (wiR ⟨x0, y0, x1, y1⟩ ⟨x2, y2, x3, y3⟩ = true) := by
      have : wiR ⟨x0, y0, x1, y1⟩ ⟨x2, y2, x3, y3⟩ = true := by unfold wiR; rw [ha]; rfl
      exact this
    clear ha
    go_wp2_with fail
    go_ret
    exact ⟨ret_b HJ.out.symm, J1.out.2.2⟩
  | false =>
    have HJ : Hid (wiR ⟨x0, y0, x1, y1⟩ ⟨x2, y2, x3, y3⟩ = (decide (x2 ≤ x0) && decide (y2 ≤ y0) && decide (x1 ≤ x3) && decide (y1 ≤ y3))) := by
      have : wiR ⟨x0, y0, x1, y1⟩ ⟨x2, y2, x3, y3⟩ = (decide (x2 ≤ x0) && decide (y2 ≤ y0) && decide (x1 ≤ x3) && decide (y1 ≤ y3)) := by unfold wiR; rw [ha]; rfl
      exact this
    clear ha
    obtain ⟨d0, hd0⟩ : ∃ d, decide (x2 ≤ x0) = d := ⟨_, rfl⟩
    obtain ⟨d1, hd1⟩ : ∃ d, decide (y2 ≤ y0) = d := ⟨_, rfl⟩
    obtain ⟨d2, hd2⟩ : ∃ d, decide (x1 ≤ x3) = d := ⟨_, rfl⟩
    obtain ⟨d3, hd3⟩ : ∃ d, decide (y1 ≤ y3) = d := ⟨_, rfl⟩
    rw [hd0, hd1, hd2, hd3] at HJ
    cases d0 with
    | false =>
      go_wp2_with fail
      go_ret
      exact ⟨ret_b HJ.out.symm, J1.out.2.2⟩
    | true =>
      cases d1 with
      | false =>
        go_wp2_with fail
        go_ret
        exact ⟨ret_b HJ.out.symm, J1.out.2.2⟩
      | true =>
        cases d2 with
        | false =>
          go_wp2_with fail
          go_ret
          exact ⟨ret_b HJ.out.symm, J1.out.2.2⟩
        | true =>
          go_wp2_with fail
          go_ret
          exact ⟨ret_b HJ.out.symm, J1.out.2.2⟩
end Go.Proofs.YtfjeohnigikmoaaDoor
