/- Texts joined: XYr. -/
import Derived.Test.YtaoamkbcegadcaaGreatDoorYo
set_option maxRecDepth 4000
/- Layer 19: the law's own 'right'. (Printed by mk_yr.py.) -/
namespace Go.Proofs.YtaoamkbcegadcaaGreatDoor
open Go.RowKit Go.Bx Go.Od Go.Hp
attribute [local go_sem ↓] Go.wp_at_zero Go.wp_at_succ
set_option linter.unusedVariables false

/-- is what is wanted right? -/
def wantB (r : Rc) : Bool := !(r.emp || (decide (r.x0 < -16777216) || (decide (r.y0 < -16777216) || (decide (r.x1 > 16777216) || decide (r.y1 > 16777216)))))
def rightP (nds : List Nd) (out : Int) (want : Rc) : Bool := wantB want && rightB nds out
theorem plOk_of {nds : List Nd} {out : Int} {want : Rc} (h : rightP nds out want = true) : PlOk nds out want := by
  unfold rightP at h
  rw [Bool.and_eq_true] at h
  obtain ⟨h1, h2⟩ := h
  unfold wantB at h1
  simp only [Bool.not_eq_true', Bool.or_eq_false_iff, decide_eq_false_iff_not] at h1
  obtain ⟨he, a0, a1, a2, a3⟩ := h1
  have h3 := (emp_ff want).1 he
  exact ⟨sgood_of h2, goodN_of h2, by unfold RcP Pl; omega, he⟩
/-- a graph and what is wanted, boxed -/
def WB (w W : World) (a b : Value) (r : Rc) : Prop := Box W w.heap.size [a, b] ∧ Box W (w.heap.size + 1) (cl4 r) ∧ Below w.heap.size w W
theorem WB.new (w : World) (a b : Value) (r : Rc) (t1 t2 : TypeId) : WB w ((w.alloc (.cells #[a, b] t1)).alloc (.cells (cs4 r.x0 r.y0 r.x1 r.y1) t2)) a b r := by
  have h0 := Box.new w [a, b] t1
  have h1 := Box.new (w.alloc (.cells #[a, b] t1)) (cl4 r) t2
  simp only [size_alloc] at h1
  have b0 := below_new w (.cells #[a, b] t1)
  exact ⟨h0.alloc _, h1, b0.alloc b0.size _⟩
theorem WB.call {w W W' : World} {a b : Value} {r : Rc} (h : WB w W a b r) (hb : Below W.heap.size W W') : WB w W' a b r := ⟨h.1.call hb, h.2.1.call hb, h.2.2.trans (hb.mono h.2.2.size)⟩
set_option maxRecDepth 4000 in
set_option maxHeartbeats 6400000 in
theorem right19_c (B : Nat) (nv : Value) (nds : List Nd) (out : Int) (want : Rc) (w : World) (ht : Tabs w) (hg : Gr B w nv nds) (hB : B ≤ w.heap.size) :
    Calls Tryz.prog 7 #[.agg #[nv, .int .i64 out], rv want] w (PPost w (.bool (rightP nds out want))) := by
  have HG : Hid (Gr B w nv nds ∧ Tabs w) := ⟨hg, ht⟩
  obtain ⟨ga, gc, rfl⟩ := hg.isSl
  obtain ⟨x0, y0, x1, y1⟩ := want
  obtain ⟨f, hf⟩ : ∃ f, f = fewB nds 12 := ⟨_, rfl⟩
  have HF : Hid (f = fewB nds 12) := hf
  have H1 : Hid (WB w ((w.alloc (.cells #[.slice ga nds.length gc, .int .i64 out] 24)).alloc (.cells (cs4 x0 y0 x1 y1) 26)) (.slice ga nds.length gc) (.int .i64 out) ⟨x0, y0, x1, y1⟩) := WB.new w _ _ ⟨x0, y0, x1, y1⟩ _ _
  obtain ⟨eb, heb⟩ : ∃ e, e = Rc.emp ⟨x0, y0, x1, y1⟩ := ⟨_, rfl⟩
  have HW : Hid (rightP nds out ⟨x0, y0, x1, y1⟩ = (!(eb || (decide (x0 < -16777216) || (decide (y0 < -16777216) || (decide (x1 > 16777216) || decide (y1 > 16777216))))) && rightB nds out)) := by
    have : rightP nds out ⟨x0, y0, x1, y1⟩ = (!(eb || (decide (x0 < -16777216) || (decide (y0 < -16777216) || (decide (x1 > 16777216) || decide (y1 > 16777216))))) && rightB nds out) := by rw [heb]; rfl
    exact this
  obtain ⟨RB, hRB⟩ : ∃ r, r = rightP nds out ⟨x0, y0, x1, y1⟩ := ⟨_, rfl⟩
  rw [← hRB] at HW ⊢
  have hemp := rempty_c ⟨x0, y0, x1, y1⟩
  rw [← heb] at hemp
  clear hg ht hf heb hRB
  go_enter Tryz.func7, Tryz.ntmps7
  go_wp2_with fail
  generalize ((w.alloc (.cells #[.slice ga nds.length gc, .int .i64 out] 24)).alloc (.cells (cs4 x0 y0 x1 y1) 26)) = W1 at *
  obtain ⟨c0, c1, c2, c3⟩ := box4 H1.out.2.1
  go_wp2_with fail
  refine (hemp W1).mono ?_; rintro e w2 ⟨rfl, hb2⟩
  have H2 : Hid (WB w w2 (.slice ga nds.length gc) (.int .i64 out) ⟨x0, y0, x1, y1⟩) := H1.out.call hb2
  clear c0 c1 c2 c3 hemp hb2 H1
  obtain ⟨c0, c1, c2, c3⟩ := box4 H2.out.2.1
  cases eb with
  | true =>
    have HE : Hid (RB = false) := by
      have : RB = false := by rw [HW.out]; rfl
      exact this
    go_wp2_with fail
    go_ret
    exact ⟨ret_b HE.out.symm, H2.out.2.2⟩
  | false =>
  by_cases h0 : x0 < -16777216
  · have d0 : decide (x0 < -16777216) = true := decide_eq_true h0
    have HE : Hid (RB = false) := by
      have : RB = false := by rw [HW.out, d0]; simp
      exact this
    clear h0
    go_wp2_with fail
    go_ret
    exact ⟨ret_b HE.out.symm, H2.out.2.2⟩
  have d0 : decide (x0 < -16777216) = false := decide_eq_false h0
  clear h0
  by_cases h1 : y0 < -16777216
  · have d1 : decide (y0 < -16777216) = true := decide_eq_true h1
    have HE : Hid (RB = false) := by
      have : RB = false := by rw [HW.out, d0, d1]; simp
      exact this
    clear h1
    go_wp2_with fail
    go_ret
    exact ⟨ret_b HE.out.symm, H2.out.2.2⟩
  have d1 : decide (y0 < -16777216) = false := decide_eq_false h1
  clear h1
  by_cases h2 : x1 > 16777216
  · have d2 : decide (x1 > 16777216) = true := decide_eq_true h2
    have HE : Hid (RB = false) := by
      have : RB = false := by rw [HW.out, d0, d1, d2]; simp
      exact this
    clear h2
    go_wp2_with fail
    go_ret
    exact ⟨ret_b HE.out.symm, H2.out.2.2⟩
  have d2 : decide (x1 > 16777216) = false := decide_eq_false h2
  clear h2
  by_cases h3 : y1 > 16777216
  · have d3 : decide (y1 > 16777216) = true := decide_eq_true h3
    have HE : Hid (RB = false) := by
      have : RB = false := by rw [HW.out, d0, d1, d2, d3]; simp
      exact this
    clear h3
    go_wp2_with fail
    go_ret
    exact ⟨ret_b HE.out.symm, H2.out.2.2⟩
  have d3 : decide (y1 > 16777216) = false := decide_eq_false h3
  clear h3
  have HR : Hid (RB = rightB nds out) := by
    have : RB = rightB nds out := by rw [HW.out, d0, d1, d2, d3]; simp
    exact this
  have g0 := H2.out.1.cell 0 rfl
  have g1 := H2.out.1.cell 1 rfl
  clear HW
  go_wp2_with fail
  clear c0 c1 c2 c3 d0 d1 d2 d3 g0 g1
  refine (rfew_c B _ nds out 12 w2 (by omega) (HG.out.1.below (H2.out.2.2.mono hB) (Nat.le_refl _))).mono ?_; rintro e w3 ⟨rfl, hb3⟩
  have H3 : Hid (WB w w3 (.slice ga nds.length gc) (.int .i64 out) ⟨x0, y0, x1, y1⟩) := H2.out.call hb3
  have g0 := H3.out.1.cell 0 rfl
  have g1 := H3.out.1.cell 1 rfl
  rw [← HF.out]
  clear hb3 H2
  cases f with
  | false =>
    have HE : Hid (RB = false) := by
      have : RB = false := by rw [HR.out]; unfold rightB; rw [← HF.out]; rfl
      exact this
    go_wp2_with fail
    go_ret
    exact ⟨ret_b HE.out.symm, H3.out.2.2⟩
  | true =>
    obtain ⟨h1, h2⟩ := few_of HF.out.symm (by omega)
    have HN : Hid (∀ i, i < nds.length → (nds.getD i Nd.none).ins.length ≤ 1000) := h2
    clear h2
    go_wp2_with fail
    refine (check_c B _ nds out w3 (by omega) HN.out (HG.out.2.below H3.out.2.2) (HG.out.1.below (H3.out.2.2.mono hB) (Nat.le_refl _)) (Nat.le_trans hB H3.out.2.2.size)).mono ?_; rintro e w4 ⟨rfl, hb4⟩
    have HB4 : Hid (Below w.heap.size w w4) := H3.out.2.2.trans (hb4.mono H3.out.2.2.size)
    obtain ⟨c, hc⟩ : ∃ c, c = chkB nds out := ⟨_, rfl⟩
    rw [← hc]
    have HE : Hid (RB = (c == 0)) := by
      have : RB = (c == 0) := by rw [HR.out]; unfold rightB; rw [← HF.out, hc]; rfl
      exact this
    clear hb4 g0 g1 hc HN
    go_wp2_with fail
    go_ret
    exact ⟨ret_b HE.out.symm, HB4.out⟩
end Go.Proofs.YtaoamkbcegadcaaGreatDoor
