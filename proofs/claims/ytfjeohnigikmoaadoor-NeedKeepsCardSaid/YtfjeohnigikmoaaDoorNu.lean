/- Layer 3, the document's answer: rectangles. -/
import Derived.Test.YtfjeohnigikmoaaDoorNt
namespace Go.Proofs.YtfjeohnigikmoaaDoor
open Go.RowKit Go.Bx Go.Od Go.Hp
attribute [local go_sem ↓] Go.wp_at_zero Go.wp_at_succ
set_option linter.unusedVariables false

def plB (x : Int) : Bool := decide (-4398046511104 ≤ x) && decide (x ≤ 4398046511104)
theorem plB_iff (x : Int) : plB x = true ↔ Pl x := by simp [plB, Pl]
theorem ret_i {a b : Int} (h : a = b) : Ending.returned (.int .i64 a) = .returned (.int .i64 b) := by rw [h]
theorem near03_c (x : Int) (w : World) : Calls Tryd.prog 18 #[.int .i64 x] w (PPost w (.bool (plB x))) := by
  obtain ⟨d0, h0⟩ : ∃ d, decide (-4398046511104 ≤ x) = d := ⟨_, rfl⟩
  obtain ⟨d1, h1⟩ : ∃ d, decide (x ≤ 4398046511104) = d := ⟨_, rfl⟩
  have HE : Hid (plB x = (d0 && d1)) := by
    have : plB x = (d0 && d1) := by unfold plB; rw [h0, h1]
    exact this
  cases d0 with
  | false =>
    go_enter Tryd.func18, Tryd.ntmps18
    go_wp2_with fail
    go_ret
    exact ⟨ret_b HE.out.symm, Below.refl _ _⟩
  | true =>
    cases d1 with
    | false =>
      go_enter Tryd.func18, Tryd.ntmps18
      go_wp2_with fail
      go_ret
      exact ⟨ret_b HE.out.symm, Below.refl _ _⟩
    | true =>
      go_enter Tryd.func18, Tryd.ntmps18
      go_wp2_with fail
      go_ret
      exact ⟨ret_b HE.out.symm, Below.refl _ _⟩
theorem less03_c (a b : Int) (w : World) : Calls Tryd.prog 28 #[.int .i64 a, .int .i64 b] w (PPost w (.int .i64 (min a b))) := by
  by_cases h : a < b
  · have HE : Hid (min a b = a) := by
      have : min a b = a := by omega
      exact this
    go_enter Tryd.func28, Tryd.ntmps28
    go_wp2_with fail
    go_ret
    exact ⟨ret_i HE.out.symm, Below.refl _ _⟩
  · have HE : Hid (min a b = b) := by
      have : min a b = b := by omega
      exact this
    go_enter Tryd.func28, Tryd.ntmps28
    go_wp2_with fail
    go_ret
    exact ⟨ret_i HE.out.symm, Below.refl _ _⟩
theorem more03_c (a b : Int) (w : World) : Calls Tryd.prog 29 #[.int .i64 a, .int .i64 b] w (PPost w (.int .i64 (max a b))) := by
  by_cases h : b < a
  · have HE : Hid (max a b = a) := by
      have : max a b = a := by omega
      exact this
    go_enter Tryd.func29, Tryd.ntmps29
    go_wp2_with fail
    go_ret
    exact ⟨ret_i HE.out.symm, Below.refl _ _⟩
  · have HE : Hid (max a b = b) := by
      have : max a b = b := by omega
      exact this
    go_enter Tryd.func29, Tryd.ntmps29
    go_wp2_with fail
    go_ret
    exact ⟨ret_i HE.out.symm, Below.refl _ _⟩
theorem rempty_c (r : Rc) (w : World) : Calls Tryd.prog 23 #[rv r] w (PPost w (.bool r.emp)) := by
  obtain ⟨x0, y0, x1, y1⟩ := r
  have HX : Hid (Box (w.alloc (.cells (cs4 x0 y0 x1 y1) 26)) w.heap.size (cl4 ⟨x0, y0, x1, y1⟩) ∧ Below w.heap.size w (w.alloc (.cells (cs4 x0 y0 x1 y1) 26))) := ⟨Box.new w _ _, below_new _ _⟩
  obtain ⟨d0, h0⟩ : ∃ d, decide (x0 < x1) = d := ⟨_, rfl⟩
  obtain ⟨d1, h1⟩ : ∃ d, decide (y0 < y1) = d := ⟨_, rfl⟩
  have HE : Hid (Rc.emp ⟨x0, y0, x1, y1⟩ = !(d0 && d1)) := by
    have : Rc.emp ⟨x0, y0, x1, y1⟩ = !(d0 && d1) := by
      rw [← h0, ← h1]
      unfold Rc.emp
      dsimp only
      by_cases e0 : x0 < x1 <;> by_cases e1 : y0 < y1 <;> simp [e0, e1] <;> omega
    exact this
  cases d0 with
  | false =>
    go_enter Tryd.func23, Tryd.ntmps23
    go_wp2_with fail
    go_ret
    exact ⟨ret_b HE.out.symm, HX.out.2⟩
  | true =>
    cases d1 with
    | false =>
      go_enter Tryd.func23, Tryd.ntmps23
      go_wp2_with fail
      go_ret
      exact ⟨ret_b HE.out.symm, HX.out.2⟩
    | true =>
      go_enter Tryd.func23, Tryd.ntmps23
      go_wp2_with fail
      go_ret
      exact ⟨ret_b HE.out.symm, HX.out.2⟩
def hasR (r : Rc) (x y : Int) : Bool := decide (r.x0 ≤ x) && (decide (x < r.x1) && (decide (r.y0 ≤ y) && decide (y < r.y1)))
theorem has03_c (r : Rc) (x y : Int) (w : World) : Calls Tryd.prog 24 #[rv r, .int .i64 x, .int .i64 y] w (PPost w (.bool (hasR r x y))) := by
  obtain ⟨x0, y0, x1, y1⟩ := r
  have HX : Hid (Box (w.alloc (.cells (cs4 x0 y0 x1 y1) 26)) w.heap.size (cl4 ⟨x0, y0, x1, y1⟩) ∧ Below w.heap.size w (w.alloc (.cells (cs4 x0 y0 x1 y1) 26))) := ⟨Box.new w _ _, below_new _ _⟩
  obtain ⟨d0, h0⟩ : ∃ d, decide (x0 ≤ x) = d := ⟨_, rfl⟩
  obtain ⟨d1, h1⟩ : ∃ d, decide (x < x1) = d := ⟨_, rfl⟩
  obtain ⟨d2, h2⟩ : ∃ d, decide (y0 ≤ y) = d := ⟨_, rfl⟩
  obtain ⟨d3, h3⟩ : ∃ d, decide (y < y1) = d := ⟨_, rfl⟩
  have HE : Hid (hasR ⟨x0, y0, x1, y1⟩ x y = (d0 && (d1 && (d2 && d3)))) := by
    have : hasR ⟨x0, y0, x1, y1⟩ x y = (d0 && (d1 && (d2 && d3))) := by unfold hasR; rw [h0, h1, h2, h3]
    exact this
  cases d0 with
  | false =>
    go_enter Tryd.func24, Tryd.ntmps24
    go_wp2_with fail
    go_ret
    exact ⟨ret_b HE.out.symm, HX.out.2⟩
  | true =>
    cases d1 with
    | false =>
      go_enter Tryd.func24, Tryd.ntmps24
      go_wp2_with fail
      go_ret
      exact ⟨ret_b HE.out.symm, HX.out.2⟩
    | true =>
      cases d2 with
      | false =>
        go_enter Tryd.func24, Tryd.ntmps24
        go_wp2_with fail
        go_ret
        exact ⟨ret_b HE.out.symm, HX.out.2⟩
      | true =>
        cases d3 with
        | false =>
          go_enter Tryd.func24, Tryd.ntmps24
          go_wp2_with fail
          go_ret
          exact ⟨ret_b HE.out.symm, HX.out.2⟩
        | true =>
          go_enter Tryd.func24, Tryd.ntmps24
          go_wp2_with fail
          go_ret
          exact ⟨ret_b HE.out.symm, HX.out.2⟩
theorem some03_c (x0 y0 x1 y1 : Int) (w : World) : Calls Tryd.prog 27 #[.int .i64 x0, .int .i64 y0, .int .i64 x1, .int .i64 y1] w (PPost w (rv (boxR ⟨x0, y0, x1, y1⟩))) := by
  have HX : Hid (Box ((w.alloc (.cells (cs4 0 0 0 0) 26)).alloc (.cells (cs4 x0 y0 x1 y1) 26)) w.heap.size (cl4 ⟨0, 0, 0, 0⟩) ∧ Box ((w.alloc (.cells (cs4 0 0 0 0) 26)).alloc (.cells (cs4 x0 y0 x1 y1) 26)) (w.heap.size + 1) (cl4 ⟨x0, y0, x1, y1⟩) ∧ Below w.heap.size w ((w.alloc (.cells (cs4 0 0 0 0) 26)).alloc (.cells (cs4 x0 y0 x1 y1) 26))) := J2new w ⟨0, 0, 0, 0⟩ ⟨x0, y0, x1, y1⟩ 26
  go_enter Tryd.func27, Tryd.ntmps27
  go_wp2_with fail
  generalize ((w.alloc (.cells (cs4 0 0 0 0) 26)).alloc (.cells (cs4 x0 y0 x1 y1) 26)) = W0 at *
  refine (rempty_c ⟨x0, y0, x1, y1⟩ W0).mono ?_; rintro e W1 ⟨rfl, hb1⟩
  have H1 : Hid (Box W1 w.heap.size (cl4 ⟨0, 0, 0, 0⟩) ∧ Box W1 (w.heap.size + 1) (cl4 ⟨x0, y0, x1, y1⟩) ∧ Below w.heap.size w W1) := ⟨HX.out.1.call hb1, HX.out.2.1.call hb1, HX.out.2.2.trans (hb1.mono HX.out.2.2.size)⟩
  clear hb1 HX
  obtain ⟨a0, a1, a2, a3⟩ := box4 H1.out.1
  obtain ⟨b0, b1, b2, b3⟩ := box4 H1.out.2.1
  have f0 := H1.out.1.frozen 0
  have f1 := H1.out.1.frozen 1
  have f2 := H1.out.1.frozen 2
  have f3 := H1.out.1.frozen 3
  have HS : Hid (∀ u0 u1 u2 u3 : Value, Below w.heap.size w ((((W1.setCell ⟨w.heap.size, 0, none⟩ u0).setCell ⟨w.heap.size, 1, none⟩ u1).setCell ⟨w.heap.size, 2, none⟩ u2).setCell ⟨w.heap.size, 3, none⟩ u3)) := fun u0 u1 u2 u3 => (((H1.out.2.2.setCell (by simp) _).setCell (by simp) _).setCell (by simp) _).setCell (by simp) _
  cases he : Rc.emp ⟨x0, y0, x1, y1⟩ with
  | true =>
    have HE : Hid (boxR ⟨x0, y0, x1, y1⟩ = ⟨0, 0, 0, 0⟩) := if_pos he
    clear he
    go_wp2_with fail
    exact ret_rect rfl rfl (set4_box H1.out.1 _ _ _ _) rfl ⟨by rw [HE.out], HS.out _ _ _ _⟩
  | false =>
    have HE : Hid (boxR ⟨x0, y0, x1, y1⟩ = ⟨x0, y0, x1, y1⟩) := by
      have : boxR ⟨x0, y0, x1, y1⟩ = ⟨x0, y0, x1, y1⟩ := by unfold boxR; rw [he]; rfl
      exact this
    clear he
    go_wp2_with fail
    exact ret_rect rfl rfl (set4_box H1.out.1 _ _ _ _) rfl ⟨by rw [HE.out], HS.out _ _ _ _⟩
def rightR (r : Rc) : Bool := plB r.x0 && (plB r.y0 && (plB r.x1 && plB r.y1))
theorem rightR_iff (r : Rc) : rightR r = true ↔ RcP r := by
  unfold rightR RcP
  simp only [Bool.and_eq_true, plB_iff]
set_option maxHeartbeats 1600000 in
theorem right03_c (r : Rc) (w : World) : Calls Tryd.prog 8 #[rv r] w (PPost w (.bool (rightR r))) := by
  obtain ⟨x0, y0, x1, y1⟩ := r
  have HX : Hid (Box (w.alloc (.cells (cs4 x0 y0 x1 y1) 26)) w.heap.size (cl4 ⟨x0, y0, x1, y1⟩) ∧ Below w.heap.size w (w.alloc (.cells (cs4 x0 y0 x1 y1) 26))) := ⟨Box.new w _ _, below_new _ _⟩
  obtain ⟨d0, h0⟩ : ∃ d, plB x0 = d := ⟨_, rfl⟩
  obtain ⟨d1, h1⟩ : ∃ d, plB y0 = d := ⟨_, rfl⟩
  obtain ⟨d2, h2⟩ : ∃ d, plB x1 = d := ⟨_, rfl⟩
  obtain ⟨d3, h3⟩ : ∃ d, plB y1 = d := ⟨_, rfl⟩
  have HE : Hid (rightR ⟨x0, y0, x1, y1⟩ = (d0 && (d1 && (d2 && d3)))) := by
    have : rightR ⟨x0, y0, x1, y1⟩ = (d0 && (d1 && (d2 && d3))) := by unfold rightR; rw [h0, h1, h2, h3]
    exact this
  have HN : Hid (∀ (W : World), Calls Tryd.prog 18 #[.int .i64 x0] W (PPost W (.bool d0)) ∧ Calls Tryd.prog 18 #[.int .i64 y0] W (PPost W (.bool d1)) ∧ Calls Tryd.prog 18 #[.int .i64 x1] W (PPost W (.bool d2)) ∧ Calls Tryd.prog 18 #[.int .i64 y1] W (PPost W (.bool d3))) := fun W => by
    rw [← h0, ← h1, ← h2, ← h3]
    exact ⟨near03_c _ W, near03_c _ W, near03_c _ W, near03_c _ W⟩
  clear h0 h1 h2 h3
  have g0 := HX.out.1.cell 0 rfl
  go_enter Tryd.func8, Tryd.ntmps8
  go_wp2_with fail
  refine ((HN.out _).1).mono ?_; rintro e W1 ⟨rfl, hb1⟩
  have H1 : Hid (Box W1 w.heap.size (cl4 ⟨x0, y0, x1, y1⟩) ∧ Below w.heap.size w W1) := ⟨HX.out.1.call hb1, HX.out.2.trans (hb1.mono HX.out.2.size)⟩
  clear hb1 HX g0
  have g1 := H1.out.1.cell 1 rfl
  cases d0 with
  | false =>
    go_wp2_with fail
    go_ret
    exact ⟨ret_b HE.out.symm, H1.out.2⟩
  | true =>
    go_wp2_with fail
    refine ((HN.out _).2.1).mono ?_; rintro e W2 ⟨rfl, hb2⟩
    have H2 : Hid (Box W2 w.heap.size (cl4 ⟨x0, y0, x1, y1⟩) ∧ Below w.heap.size w W2) := ⟨H1.out.1.call hb2, H1.out.2.trans (hb2.mono H1.out.2.size)⟩
    clear hb2 H1 g1
    have g2 := H2.out.1.cell 2 rfl
    cases d1 with
    | false =>
      go_wp2_with fail
      go_ret
      exact ⟨ret_b HE.out.symm, H2.out.2⟩
    | true =>
      go_wp2_with fail
      refine ((HN.out _).2.2.1).mono ?_; rintro e W3 ⟨rfl, hb3⟩
      have H3 : Hid (Box W3 w.heap.size (cl4 ⟨x0, y0, x1, y1⟩) ∧ Below w.heap.size w W3) := ⟨H2.out.1.call hb3, H2.out.2.trans (hb3.mono H2.out.2.size)⟩
      clear hb3 H2 g2
      have g3 := H3.out.1.cell 3 rfl
      cases d2 with
      | false =>
        go_wp2_with fail
        go_ret
        exact ⟨ret_b HE.out.symm, H3.out.2⟩
      | true =>
        go_wp2_with fail
        refine ((HN.out _).2.2.2).mono ?_; rintro e W4 ⟨rfl, hb4⟩
        have H4 : Hid (Box W4 w.heap.size (cl4 ⟨x0, y0, x1, y1⟩) ∧ Below w.heap.size w W4) := ⟨H3.out.1.call hb4, H3.out.2.trans (hb4.mono H3.out.2.size)⟩
        clear hb4 H3 g3
        go_wp2_with fail
        go_ret
        exact ⟨ret_b HE.out.symm, H4.out.2⟩
def refWi (a b : Rc) : Bool := a.emp || (hasR b a.x0 a.y0 && hasR b (a.x1 - 1) (a.y1 - 1))
theorem refWi_of {a b : Rc} (h : WiS a b) : refWi a b = true := by
  unfold refWi
  cases ea : a.emp with
  | true => rfl
  | false =>
    rw [nemp_iff] at ea
    have h : b.x0 ≤ a.x0 ∧ b.y0 ≤ a.y0 ∧ a.x1 ≤ b.x1 ∧ a.y1 ≤ b.y1 := by
      rcases h with h | h
      · rw [emp_iff] at h; omega
      · exact h
    unfold hasR
    simp only [Bool.false_or, Bool.and_eq_true, decide_eq_true_eq]
    omega
set_option maxHeartbeats 1600000 in
theorem rwithin_c (a b : Rc) (w : World) (ha : RcP a) : Calls Tryd.prog 11 #[rv a, rv b] w (PPost w (.bool (refWi a b))) := by
  obtain ⟨x0, y0, x1, y1⟩ := a
  obtain ⟨x2, y2, x3, y3⟩ := b
  obtain ⟨p0, p1, p2, p3⟩ := ha
  unfold Pl at p0 p1 p2 p3
  dsimp only at p0 p1 p2 p3
  have J0 : Hid (Box ((w.alloc (.cells (cs4 x0 y0 x1 y1) 26)).alloc (.cells (cs4 x2 y2 x3 y3) 26)) w.heap.size (cl4 ⟨x0, y0, x1, y1⟩) ∧ Box ((w.alloc (.cells (cs4 x0 y0 x1 y1) 26)).alloc (.cells (cs4 x2 y2 x3 y3) 26)) (w.heap.size + 1) (cl4 ⟨x2, y2, x3, y3⟩) ∧ Below w.heap.size w ((w.alloc (.cells (cs4 x0 y0 x1 y1) 26)).alloc (.cells (cs4 x2 y2 x3 y3) 26))) := J2new w ⟨x0, y0, x1, y1⟩ ⟨x2, y2, x3, y3⟩ 26
  obtain ⟨d0, h0⟩ : ∃ d, Rc.emp ⟨x0, y0, x1, y1⟩ = d := ⟨_, rfl⟩
  obtain ⟨d1, h1⟩ : ∃ d, hasR ⟨x2, y2, x3, y3⟩ x0 y0 = d := ⟨_, rfl⟩
  obtain ⟨d2, h2⟩ : ∃ d, hasR ⟨x2, y2, x3, y3⟩ (x1 - 1) (y1 - 1) = d := ⟨_, rfl⟩
  have HE : Hid (refWi ⟨x0, y0, x1, y1⟩ ⟨x2, y2, x3, y3⟩ = (d0 || (d1 && d2))) := by
    have : refWi ⟨x0, y0, x1, y1⟩ ⟨x2, y2, x3, y3⟩ = (d0 || (d1 && d2)) := by unfold refWi; rw [h0, h1, h2]
    exact this
  have HN : Hid (∀ (W : World), Calls Tryd.prog 23 #[rv ⟨x0, y0, x1, y1⟩] W (PPost W (.bool d0)) ∧ Calls Tryd.prog 24 #[rv ⟨x2, y2, x3, y3⟩, .int .i64 x0, .int .i64 y0] W (PPost W (.bool d1)) ∧ Calls Tryd.prog 24 #[rv ⟨x2, y2, x3, y3⟩, .int .i64 (x1 - 1), .int .i64 (y1 - 1)] W (PPost W (.bool d2))) := fun W => by
    rw [← h0, ← h1, ← h2]
    exact ⟨rempty_c _ W, has03_c _ _ _ W, has03_c _ _ _ W⟩
  clear h0 h1 h2
  go_enter Tryd.func11, Tryd.ntmps11
  go_wp2_with fail
  generalize ((w.alloc (.cells (cs4 x0 y0 x1 y1) 26)).alloc (.cells (cs4 x2 y2 x3 y3) 26)) = W0 at *
  refine ((HN.out _).1).mono ?_; rintro e W1 ⟨rfl, hb1⟩
  have J1 : Hid (Box W1 w.heap.size (cl4 ⟨x0, y0, x1, y1⟩) ∧ Box W1 (w.heap.size + 1) (cl4 ⟨x2, y2, x3, y3⟩) ∧ Below w.heap.size w W1) := ⟨J0.out.1.call hb1, J0.out.2.1.call hb1, J0.out.2.2.trans (hb1.mono J0.out.2.2.size)⟩
  clear hb1 J0
  cases d0 with
  | true =>
    go_wp2_with fail
    go_ret
    exact ⟨ret_b HE.out.symm, J1.out.2.2⟩
  | false =>
    obtain ⟨a0, a1, a2, a3⟩ := box4 J1.out.1
    obtain ⟨b0, b1, b2, b3⟩ := box4 J1.out.2.1
    go_wp2_with fail
    refine ((HN.out _).2.1).mono ?_; rintro e W2 ⟨rfl, hb2⟩
    have J2 : Hid (Box W2 w.heap.size (cl4 ⟨x0, y0, x1, y1⟩) ∧ Box W2 (w.heap.size + 1) (cl4 ⟨x2, y2, x3, y3⟩) ∧ Below w.heap.size w W2) := ⟨J1.out.1.call hb2, J1.out.2.1.call hb2, J1.out.2.2.trans (hb2.mono J1.out.2.2.size)⟩
    clear hb2 J1 a0 a1 a2 a3 b0 b1 b2 b3
    cases d1 with
    | false =>
      go_wp2_with fail
      go_ret
      exact ⟨ret_b HE.out.symm, J2.out.2.2⟩
    | true =>
      obtain ⟨a0, a1, a2, a3⟩ := box4 J2.out.1
      obtain ⟨b0, b1, b2, b3⟩ := box4 J2.out.2.1
      go_wp2_with fail
      refine ((HN.out _).2.2).mono ?_; rintro e W3 ⟨rfl, hb3⟩
      have HB : Hid (Below w.heap.size w W3) := J2.out.2.2.trans (hb3.mono J2.out.2.2.size)
      clear hb3 J2 a0 a1 a2 a3 b0 b1 b2 b3
      go_wp2_with fail
      go_ret
      exact ⟨ret_b HE.out.symm, HB.out⟩
set_option maxRecDepth 4000 in
set_option maxHeartbeats 3200000 in
theorem rjoin_c (a b : Rc) (w : World) : Calls Tryd.prog 13 #[rv a, rv b] w (PPost w (rv (joinR a b))) := by
  obtain ⟨x0, y0, x1, y1⟩ := a
  obtain ⟨x2, y2, x3, y3⟩ := b
  have J0 : Hid (J3 w (((w.alloc (.cells (cs4 x0 y0 x1 y1) 26)).alloc (.cells (cs4 x2 y2 x3 y3) 26)).alloc (.cells (cs4 0 0 0 0) 26)) ⟨x0, y0, x1, y1⟩ ⟨x2, y2, x3, y3⟩ ⟨0, 0, 0, 0⟩) := J3.new w ⟨x0, y0, x1, y1⟩ ⟨x2, y2, x3, y3⟩ ⟨0, 0, 0, 0⟩ 26
  go_enter Tryd.func13, Tryd.ntmps13
  go_wp2_with fail
  generalize (((w.alloc (.cells (cs4 x0 y0 x1 y1) 26)).alloc (.cells (cs4 x2 y2 x3 y3) 26)).alloc (.cells (cs4 0 0 0 0) 26)) = W0 at *
  refine (rempty_c ⟨x0, y0, x1, y1⟩ W0).mono ?_; rintro e W1 ⟨rfl, hb1⟩
  have J1 : Hid (J3 w W1 ⟨x0, y0, x1, y1⟩ ⟨x2, y2, x3, y3⟩ ⟨0, 0, 0, 0⟩) := J0.out.call hb1
  clear hb1 J0
  obtain ⟨a0, a1, a2, a3, b0, b1, b2, b3, r0, r1, r2, r3, f0, f1, f2, f3⟩ := J1.out.cells
  cases ha : Rc.emp ⟨x0, y0, x1, y1⟩ with
  | true =>
    have HJ : Hid (joinR ⟨x0, y0, x1, y1⟩ ⟨x2, y2, x3, y3⟩ = boxR ⟨x2, y2, x3, y3⟩) := by
      have : joinR ⟨x0, y0, x1, y1⟩ ⟨x2, y2, x3, y3⟩ = boxR ⟨x2, y2, x3, y3⟩ := by unfold joinR; rw [if_pos ha]; rfl
      exact this
    obtain ⟨q, hq⟩ : ∃ q, q = boxR ⟨x2, y2, x3, y3⟩ := ⟨_, rfl⟩
    have HS : Hid (∀ W, Calls Tryd.prog 27 #[.int .i64 x2, .int .i64 y2, .int .i64 x3, .int .i64 y3] W (PPost W (rv q))) := fun W => by rw [hq]; exact some03_c _ _ _ _ W
    have HJ2 : Hid (joinR ⟨x0, y0, x1, y1⟩ ⟨x2, y2, x3, y3⟩ = q) := by
      have := HJ.out
      rw [← hq] at this
      exact this
    clear ha hq HJ
    go_wp2_with fail
    refine (HS.out _).mono ?_; rintro e W2 ⟨rfl, hb2⟩
    have J2 : Hid (J3 w W2 ⟨x0, y0, x1, y1⟩ ⟨x2, y2, x3, y3⟩ ⟨0, 0, 0, 0⟩) := J1.out.call hb2
    clear hb2 a0 a1 a2 a3 b0 b1 b2 b3 r0 r1 r2 r3 f0 f1 f2 f3
    obtain ⟨a0, a1, a2, a3, b0, b1, b2, b3, r0, r1, r2, r3, f0, f1, f2, f3⟩ := J2.out.cells
    go_wp2_with fail
    exact ret_rect rfl rfl (set4_box J2.out.2.2.1 _ _ _ _) rfl ⟨by rw [HJ2.out], J2.out.set4 _ _ _ _⟩
  | false =>
    have HA : Hid (Rc.emp ⟨x0, y0, x1, y1⟩ = false) := ha
    clear ha
    go_wp2_with fail
    refine (rempty_c ⟨x2, y2, x3, y3⟩ W1).mono ?_; rintro e W2 ⟨rfl, hb2⟩
    have J2 : Hid (J3 w W2 ⟨x0, y0, x1, y1⟩ ⟨x2, y2, x3, y3⟩ ⟨0, 0, 0, 0⟩) := J1.out.call hb2
    clear hb2 a0 a1 a2 a3 b0 b1 b2 b3 r0 r1 r2 r3 f0 f1 f2 f3 J1
    obtain ⟨a0, a1, a2, a3, b0, b1, b2, b3, r0, r1, r2, r3, f0, f1, f2, f3⟩ := J2.out.cells
    cases hb : Rc.emp ⟨x2, y2, x3, y3⟩ with
    | true =>
      have HJ : Hid (joinR ⟨x0, y0, x1, y1⟩ ⟨x2, y2, x3, y3⟩ = ⟨x0, y0, x1, y1⟩) := joinR_ft HA.out hb
      clear hb
      go_wp2_with fail
      exact ret_rect rfl rfl (set4_box J2.out.2.2.1 _ _ _ _) rfl ⟨by rw [HJ.out], J2.out.set4 _ _ _ _⟩
    | false =>
      obtain ⟨q0, e0⟩ : ∃ q, q = min x0 x2 := ⟨_, rfl⟩
      obtain ⟨q1, e1⟩ : ∃ q, q = min y0 y2 := ⟨_, rfl⟩
      obtain ⟨q2, e2⟩ : ∃ q, q = max x1 x3 := ⟨_, rfl⟩
      obtain ⟨q3, e3⟩ : ∃ q, q = max y1 y3 := ⟨_, rfl⟩
      have HJ : Hid (joinR ⟨x0, y0, x1, y1⟩ ⟨x2, y2, x3, y3⟩ = ⟨q0, q1, q2, q3⟩) := by
        have : joinR ⟨x0, y0, x1, y1⟩ ⟨x2, y2, x3, y3⟩ = ⟨q0, q1, q2, q3⟩ := by rw [e0, e1, e2, e3]; exact joinR_ff HA.out hb
        exact this
      have HBX : Hid (boxR ⟨q0, q1, q2, q3⟩ = ⟨q0, q1, q2, q3⟩) := by
        have : boxR ⟨q0, q1, q2, q3⟩ = ⟨q0, q1, q2, q3⟩ := by
          have hne : Rc.emp ⟨q0, q1, q2, q3⟩ = false := by
            have h1 := (nemp_iff _).1 HA.out
            have h2 := (nemp_iff _).1 hb
            rw [nemp_iff]
            dsimp only at *
            omega
          unfold boxR; rw [hne]; rfl
        exact this
      have HN : Hid (∀ s : Kept W2.heap.size W2, Calls Tryd.prog 28 #[.int .i64 x0, .int .i64 x2] s.w (PPost s.w (.int .i64 q0)) ∧ Calls Tryd.prog 28 #[.int .i64 y0, .int .i64 y2] s.w (PPost s.w (.int .i64 q1)) ∧ Calls Tryd.prog 29 #[.int .i64 x1, .int .i64 x3] s.w (PPost s.w (.int .i64 q2)) ∧ Calls Tryd.prog 29 #[.int .i64 y1, .int .i64 y3] s.w (PPost s.w (.int .i64 q3)) ∧ Calls Tryd.prog 27 #[.int .i64 q0, .int .i64 q1, .int .i64 q2, .int .i64 q3] s.w (PPost s.w (rv ⟨q0, q1, q2, q3⟩))) := fun s => by
        refine ⟨by rw [e0]; exact less03_c _ _ _, by rw [e1]; exact less03_c _ _ _, by rw [e2]; exact more03_c _ _ _, by rw [e3]; exact more03_c _ _ _, ?_⟩
        have := some03_c q0 q1 q2 q3 s.w
        rw [HBX.out] at this
        exact this
      have k0 := fun s : Kept W2.heap.size W2 => s.at a0
      have k1 := fun s : Kept W2.heap.size W2 => s.at a1
      have k2 := fun s : Kept W2.heap.size W2 => s.at a2
      have k3 := fun s : Kept W2.heap.size W2 => s.at a3
      have k4 := fun s : Kept W2.heap.size W2 => s.at b0
      have k5 := fun s : Kept W2.heap.size W2 => s.at b1
      have k6 := fun s : Kept W2.heap.size W2 => s.at b2
      have k7 := fun s : Kept W2.heap.size W2 => s.at b3
      clear hb e0 e1 e2 e3 a0 a1 a2 a3 b0 b1 b2 b3 r0 r1 r2 r3 f0 f1 f2 f3
      go_wp2_with fail
      refine wp_region_kept_last W2.heap.size 21 _ rfl rfl (by kernel_rfl) (by kernel_rfl) ?_
      simp only [List.take_succ_cons, List.take_zero]
      repeat (go_big_quiet_step (first
        | (go_at_call 28; with_reducible exact Calls.kept _ (Nat.le_refl _) (HN.out _).1)
        | (go_at_call 28; with_reducible exact Calls.kept _ (Nat.le_refl _) (HN.out _).2.1)
        | (go_at_call 29; with_reducible exact Calls.kept _ (Nat.le_refl _) (HN.out _).2.2.1)
        | (go_at_call 29; with_reducible exact Calls.kept _ (Nat.le_refl _) (HN.out _).2.2.2.1)
        | (go_at_call 27; with_reducible exact Calls.kept _ (Nat.le_refl _) (HN.out _).2.2.2.2)))
      refine wpQuiet_nil ?_
      intro s
      have J5 : Hid (J3 w s.w ⟨x0, y0, x1, y1⟩ ⟨x2, y2, x3, y3⟩ ⟨0, 0, 0, 0⟩) := J2.out.call s.below
      obtain ⟨_, _, _, _, _, _, _, _, r0, r1, r2, r3, f0, f1, f2, f3⟩ := J5.out.cells
      refine ⟨steps_plain rfl (gives_mono (R := fun v w' => v = undef ∧ w' = (((s.w.setCell ⟨w.heap.size + 1 + 1, 0, none⟩ (.int .i64 q0)).setCell ⟨w.heap.size + 1 + 1, 1, none⟩ (.int .i64 q1)).setCell ⟨w.heap.size + 1 + 1, 2, none⟩ (.int .i64 q2)).setCell ⟨w.heap.size + 1 + 1, 3, none⟩ (.int .i64 q3)) ?_ ?_)⟩
      · simp [gives, go_sem, r0, r1, r2, r3, f0, f1, f2, f3]
      · rintro _ _ ⟨rfl, rfl⟩
        clear k0 k1 k2 k3 k4 k5 k6 k7
        go_wp2_with fail
        exact ret_rect rfl rfl (set4_box J5.out.2.2.1 _ _ _ _) rfl ⟨by rw [HJ.out], J5.out.set4 _ _ _ _⟩
theorem of14_c (x0 y0 x1 y1 : Int) (w : World) : Calls Tryd.prog 14 #[.int .i64 x0, .int .i64 y0, .int .i64 x1, .int .i64 y1] w (PPost w (rv ⟨x0, y0, x1, y1⟩)) := by
  have HX : Hid (Box (w.alloc (.cells (cs4 x0 y0 x1 y1) 26)) w.heap.size (cl4 ⟨x0, y0, x1, y1⟩) ∧ Below w.heap.size w (w.alloc (.cells (cs4 x0 y0 x1 y1) 26))) := ⟨Box.new w _ _, below_new _ _⟩
  go_enter Tryd.func14, Tryd.ntmps14
  go_wp2_with fail
  exact ret_rect rfl rfl HX.out.1 rfl ⟨rfl, HX.out.2⟩
end Go.Proofs.YtfjeohnigikmoaaDoor
