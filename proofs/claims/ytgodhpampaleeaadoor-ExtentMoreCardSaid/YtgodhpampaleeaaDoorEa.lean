/- Texts joined: XEa. -/
import Derived.Test.YtgodhpampaleeaaDoorEr
import Derived.Test.YtgodhpampaleeaaDoorBag
set_option maxRecDepth 4000
/- Layer 13: the small functions of fore. (Printed by mk_ea.py.) -/
namespace Go.Proofs.YtgodhpampaleeaaDoor
open Go.RowKit Go.Bx Go.Od Go.Hp
attribute [local go_sem ↓] Go.wp_at_zero Go.wp_at_succ
set_option linter.unusedVariables false

set_option maxRecDepth 4000 in
set_option maxHeartbeats 3200000 in
theorem fbox_c {F : Nat → Prop} (v : Value) (p : List Int) (w : World) (h : SlOf RInt 1 F w v p) (h4 : 4 ≤ p.length) : Calls Tryd.prog 56 #[v] w (PPost w (rv (pbox p))) := by
  obtain ⟨b, o, c, rfl, hF, hc, hcap, hcm⟩ := sl_cells h (by omega)
  have c0 := hc 0 (by omega)
  have c1 := hc 1 (by omega)
  have c2 := hc 2 (by omega)
  have c3 := hc 3 (by omega)
  rw [Nat.add_zero] at c0
  obtain ⟨q0, hq0⟩ : ∃ q, q = p.getD 0 0 := ⟨_, rfl⟩
  obtain ⟨q1, hq1⟩ : ∃ q, q = p.getD 1 0 := ⟨_, rfl⟩
  obtain ⟨q2, hq2⟩ : ∃ q, q = p.getD 2 0 := ⟨_, rfl⟩
  obtain ⟨q3, hq3⟩ : ∃ q, q = p.getD 3 0 := ⟨_, rfl⟩
  have HQ : Hid (pbox p = ⟨q0, q1, q2, q3⟩) := by
    have : pbox p = ⟨q0, q1, q2, q3⟩ := by unfold pbox; rw [hq0, hq1, hq2, hq3]
    exact this
  rw [← hq0] at c0
  rw [← hq1] at c1
  rw [← hq2] at c2
  rw [← hq3] at c3
  obtain ⟨n, hn⟩ : ∃ n, n = p.length := ⟨_, rfl⟩
  rw [← hn] at h4 hcap ⊢
  have R0 := Box.new w (cl4 ⟨0, 0, 0, 0⟩) 25
  have HB : Hid (Box (w.alloc (.cells (cs4 0 0 0 0) 25)) w.heap.size (cl4 ⟨0, 0, 0, 0⟩) ∧ Below w.heap.size w (w.alloc (.cells (cs4 0 0 0 0) 25))) := ⟨R0, below_new _ _⟩
  have d0 := cell_alloc_lt c0 (.cells (cs4 0 0 0 0) 25)
  have d1 := cell_alloc_lt c1 (.cells (cs4 0 0 0 0) 25)
  have d2 := cell_alloc_lt c2 (.cells (cs4 0 0 0 0) 25)
  have d3 := cell_alloc_lt c3 (.cells (cs4 0 0 0 0) 25)
  unfold maxLen at hcm
  clear hq0 hq1 hq2 hq3 hn hc h c0 c1 c2 c3 R0
  go_enter Tryd.func56, Tryd.ntmps56
  go_wp2_with fail
  generalize w.alloc (.cells (cs4 0 0 0 0) 25) = W1 at *
  have k0 := fun s : Kept W1.heap.size W1 => s.at d0
  have k1 := fun s : Kept W1.heap.size W1 => s.at d1
  have k2 := fun s : Kept W1.heap.size W1 => s.at d2
  have k3 := fun s : Kept W1.heap.size W1 => s.at d3
  clear d0 d1 d2 d3
  refine wp_region_kept_last W1.heap.size 13 _ rfl rfl (by kernel_rfl) (by kernel_rfl) ?_
  simp only [List.take_succ_cons, List.take_zero]
  repeat (go_big_quiet_step (fail))
  refine wpQuiet_nil ?_
  intro s
  have J5 : Hid (Box s.w w.heap.size (cl4 ⟨0, 0, 0, 0⟩) ∧ Below w.heap.size w s.w) := ⟨HB.out.1.call s.below, HB.out.2.trans (s.below.mono HB.out.2.size)⟩
  have r0 := J5.out.1.cell 0 rfl
  have r1 := J5.out.1.cell 1 rfl
  have r2 := J5.out.1.cell 2 rfl
  have r3 := J5.out.1.cell 3 rfl
  have f0 := J5.out.1.frozen 0
  have f1 := J5.out.1.frozen 1
  have f2 := J5.out.1.frozen 2
  have f3 := J5.out.1.frozen 3
  refine ⟨steps_plain rfl (gives_mono (R := fun v w' => v = undef ∧ w' = (((s.w.setCell ⟨w.heap.size, 0, none⟩ (.int .i64 q0)).setCell ⟨w.heap.size, 1, none⟩ (.int .i64 q1)).setCell ⟨w.heap.size, 2, none⟩ (.int .i64 q2)).setCell ⟨w.heap.size, 3, none⟩ (.int .i64 q3)) ?_ ?_)⟩
  · simp [gives, go_sem, r0, r1, r2, r3, f0, f1, f2, f3]
  · rintro _ _ ⟨rfl, rfl⟩
    clear k0 k1 k2 k3
    go_wp2_with fail
    exact ret_rect rfl rfl (set4_box J5.out.1 _ _ _ _) rfl ⟨by rw [HQ.out], (((J5.out.2.setCell (by simp) _).setCell (by simp) _).setCell (by simp) _).setCell (by simp) _⟩
theorem planeAll_c (w : World) : Calls Tryd.prog 50 #[] w (PPost w (rv planeR)) := by
  have H0 : Hid (Bag w (w.alloc (.cells (cs4 (-4398046511104) (-4398046511104) 4398046511104 4398046511104) 25)) [(w.heap.size, cl4 planeR)]) := bag1 w (cl4 planeR) _
  go_enter Tryd.func50, Tryd.ntmps50
  go_wp2_with fail
  exact ret_rect rfl rfl (r := planeR) (H0.out.box 0 rfl) rfl ⟨rfl, H0.out.below⟩
theorem fwhole_c (b : Bool) (w : World) : Calls Tryd.prog 57 #[.bool b] w (PPost w (rv (if b = true then planeR else Rc.zero))) := by
  have H0 : Hid (Bag w (w.alloc (.cells (cs4 0 0 0 0) 25)) [(w.heap.size, cl4 ⟨0, 0, 0, 0⟩)]) := bag1 w (cl4 ⟨0, 0, 0, 0⟩) _
  cases b with
  | false =>
    go_enter Tryd.func57, Tryd.ntmps57
    go_wp2_with fail
    exact ret_rect rfl rfl (r := Rc.zero) (H0.out.box 0 rfl) rfl ⟨rfl, H0.out.below⟩
  | true =>
    have HP : Hid (rv (if true = true then planeR else Rc.zero) = rv planeR) := by
      have : rv (if true = true then planeR else Rc.zero) = rv planeR := by rw [if_pos rfl]
      exact this
    go_enter Tryd.func57, Tryd.ntmps57
    go_wp2_with fail
    generalize w.alloc (.cells (cs4 0 0 0 0) 25) = W0 at *
    go_wp2_with fail
    refine (planeAll_c _).mono ?_; rintro e W1 ⟨rfl, hb1⟩
    have H1 : Hid (Bag w W1 [(w.heap.size, cl4 ⟨0, 0, 0, 0⟩)]) := H0.out.call hb1
    have r0 := H1.out.cell 0 rfl 0 rfl
    have r1 := H1.out.cell 0 rfl 1 rfl
    have r2 := H1.out.cell 0 rfl 2 rfl
    have r3 := H1.out.cell 0 rfl 3 rfl
    have f0 := H1.out.frozen 0 rfl 0
    have f1 := H1.out.frozen 0 rfl 1
    have f2 := H1.out.frozen 0 rfl 2
    have f3 := H1.out.frozen 0 rfl 3
    clear hb1
    go_wp2_with fail
    have H2 := H1.out.set4 0 rfl (.int .i64 planeR.x0) (.int .i64 planeR.y0) (.int .i64 planeR.x1) (.int .i64 planeR.y1)
    exact ret_rect rfl rfl (g := w.heap.size) (r := planeR) (H2.box 0 rfl) rfl ⟨rfl, H2.below⟩
theorem fsome_c (r : Rc) (w : World) : Calls Tryd.prog 53 #[rv r] w (PPost w (rv (someR r))) := by
  obtain ⟨x0, y0, x1, y1⟩ := r
  have H0 : Hid (Bag w ((w.alloc (.cells (cs4 x0 y0 x1 y1) 25)).alloc (.cells (cs4 0 0 0 0) 25)) [(w.heap.size, cl4 ⟨x0, y0, x1, y1⟩), (w.heap.size + 1, cl4 ⟨0, 0, 0, 0⟩)]) := bag2 w (cl4 ⟨x0, y0, x1, y1⟩) (cl4 ⟨0, 0, 0, 0⟩) _ _
  obtain ⟨q, hq⟩ : ∃ q, q = someR ⟨x0, y0, x1, y1⟩ := ⟨_, rfl⟩
  have HJ : Hid (∀ W, Calls Tryd.prog 21 #[rv ⟨x0, y0, x1, y1⟩, rv ⟨0, 0, 0, 0⟩] W (PPost W (rv q))) := fun W => by rw [hq]; exact join_c _ _ W
  rw [← hq]
  clear hq
  go_enter Tryd.func53, Tryd.ntmps53
  go_wp2_with fail
  generalize ((w.alloc (.cells (cs4 x0 y0 x1 y1) 25)).alloc (.cells (cs4 0 0 0 0) 25)) = W0 at *
  have a0 := H0.out.cell 0 rfl 0 rfl
  have a1 := H0.out.cell 0 rfl 1 rfl
  have a2 := H0.out.cell 0 rfl 2 rfl
  have a3 := H0.out.cell 0 rfl 3 rfl
  go_wp2_with fail
  refine (HJ.out _).mono ?_; rintro e W1 ⟨rfl, hb1⟩
  have H1 : Hid (Bag w W1 [(w.heap.size, cl4 ⟨x0, y0, x1, y1⟩), (w.heap.size + 1, cl4 ⟨0, 0, 0, 0⟩)]) := H0.out.call hb1
  clear a0 a1 a2 a3 hb1
  have r0 := H1.out.cell 1 rfl 0 rfl
  have r1 := H1.out.cell 1 rfl 1 rfl
  have r2 := H1.out.cell 1 rfl 2 rfl
  have r3 := H1.out.cell 1 rfl 3 rfl
  have f0 := H1.out.frozen 1 rfl 0
  have f1 := H1.out.frozen 1 rfl 1
  have f2 := H1.out.frozen 1 rfl 2
  have f3 := H1.out.frozen 1 rfl 3
  go_wp2_with fail
  have H2 := H1.out.set4 1 rfl (.int .i64 q.x0) (.int .i64 q.y0) (.int .i64 q.x1) (.int .i64 q.y1)
  exact ret_rect (g := w.heap.size + 1) rfl rfl (r := q) (H2.box 1 rfl) rfl ⟨rfl, H2.below⟩
end Go.Proofs.YtgodhpampaleeaaDoor
