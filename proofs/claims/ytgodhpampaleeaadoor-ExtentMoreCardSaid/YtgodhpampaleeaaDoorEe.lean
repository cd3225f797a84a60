/- Texts joined: XEe. -/
import Derived.Test.YtgodhpampaleeaaDoorEc
import Derived.Test.YtgodhpampaleeaaDoorEd
set_option maxRecDepth 4000
/- Layer 13: fore.Reach. (Printed by mk_ee.py.) -/
namespace Go.Proofs.YtgodhpampaleeaaDoor
open Go.RowKit Go.Bx Go.Od Go.Hp
attribute [local go_sem ↓] Go.wp_at_zero Go.wp_at_succ
set_option linter.unusedVariables false

set_option maxRecDepth 4000 in
set_option maxHeartbeats 6400000 in
theorem reach1_c (iv pv lv : Value) (ins p : List Int) (rs : List Rc) (w : World) {F : Nat → Prop} (hF : ∀ b, F b → b < w.heap.size) (hp : SlOf RInt 1 F w pv p) (hiv : ∃ a n c, iv = .slice a n c) (hl : SlOf RRc 4 F w lv rs) (hok : RaOk ⟨1, ins, p⟩) (hlen : rs.length = ins.length) (hpl : ∀ r ∈ rs, RcP r) :
    Calls Tryd.prog 41 #[.agg #[.int .i64 1, iv, pv], lv] w (PPost w (rv (reachN ⟨1, ins, p⟩ rs))) := by
  obtain ⟨ia, im, ic, rfl⟩ := hiv
  obtain ⟨R, hR⟩ : ∃ R, R = reachN ⟨1, ins, p⟩ rs := ⟨_, rfl⟩
  rw [← hR]
  have hone : ins.length = 1 := hok.sin (by simp)
  obtain ⟨lb, lo, lc, rfl, hFl, hlcap, hlcm, hrc⟩ := rcl_first hl (by omega)
  obtain ⟨q, hq, e0', e1', e2', e3'⟩ := hrc 0 (by omega)
  simp only [Nat.zero_mul, Nat.add_zero] at e0' e1' e2' e3'
  have hz : rs.getD 0 Rc.zero = q := by simp [hq]
  have hqp : RcP q := hpl q (List.mem_of_getElem? hq)
  obtain ⟨x0, y0, x1, y1⟩ := q
  dsimp only at e0' e1' e2' e3'
  rw [hlen, hone] at hlcap ⊢
  have hll := hF lb hFl
  obtain ⟨l2, ⟨b00, b01⟩, b10, b11⟩ := hok.pa.mv (.inl rfl)
  dsimp only at l2 b00 b01 b10 b11
  obtain ⟨b, o, c, rfl, hFb, hc, hcap, hcm⟩ := sl_cells hp (by omega)
  have hlt := hF b hFb
  have c0' := hc 0 (by omega)
  rw [Nat.add_zero] at c0'
  obtain ⟨q0, hq0⟩ : ∃ q, q = p.getD 0 0 := ⟨_, rfl⟩
  rw [← hq0] at c0'
  have c1' := hc 1 (by omega)
  obtain ⟨q1, hq1⟩ : ∃ q, q = p.getD 1 0 := ⟨_, rfl⟩
  rw [← hq1] at c1'
  rw [← hq0] at b00 b01
  rw [← hq1] at b10 b11
  obtain ⟨m, hm⟩ : ∃ m, m = p.length := ⟨_, rfl⟩
  rw [← hm] at hcap l2 ⊢
  have HRR : Hid (R = moveR ⟨x0, y0, x1, y1⟩ q0 q1) := by
    have : R = moveR ⟨x0, y0, x1, y1⟩ q0 q1 := by rw [hR, ← hz, hq0, hq1]; rfl
    exact this
  have H0 : Hid (Bag w ((w.alloc (.cells #[.int .i64 1, .slice ia im ic, .slice (some ⟨b, o, none⟩) m c] 48)).alloc (.cells (cs4 0 0 0 0) 25)) [(w.heap.size, [.int .i64 1, .slice ia im ic, .slice (some ⟨b, o, none⟩) m c]), (w.heap.size + 1, cl4 ⟨0, 0, 0, 0⟩)]) := bag2 w [.int .i64 1, .slice ia im ic, .slice (some ⟨b, o, none⟩) m c] (cl4 ⟨0, 0, 0, 0⟩) _ _
  have HQ : Hid (RcP ⟨x0, y0, x1, y1⟩) := hqp
  unfold maxLen at hcm hlcm
  clear hp hF hl hok hpl hR hc hm hq0 hq1 hrc hz hqp hq hlen hone
  go_enter Tryd.func41, Tryd.ntmps41
  go_wp2_with fail
  generalize ((w.alloc (.cells #[.int .i64 1, .slice ia im ic, .slice (some ⟨b, o, none⟩) m c] 48)).alloc (.cells (cs4 0 0 0 0) 25)) = W1 at *
  have e0 := (H0.out.below.cell (p := ⟨lb, lo, none⟩) hll).trans e0'
  have e1 := (H0.out.below.cell (p := ⟨lb, lo + 1, none⟩) hll).trans e1'
  have e2 := (H0.out.below.cell (p := ⟨lb, lo + 2, none⟩) hll).trans e2'
  have e3 := (H0.out.below.cell (p := ⟨lb, lo + 3, none⟩) hll).trans e3'
  have c0 := (H0.out.below.cell (p := ⟨b, o, none⟩) hlt).trans c0'
  have c1 := (H0.out.below.cell (p := ⟨b, o + 1, none⟩) hlt).trans c1'
  have M0 : Hid (∀ s : Kept W1.heap.size W1, Calls Tryd.prog 25 #[.agg #[.int .i64 x0, .int .i64 y0, .int .i64 x1, .int .i64 y1], .int .i64 q0, .int .i64 q1] s.w (PPost s.w (.agg #[.int .i64 R.x0, .int .i64 R.y0, .int .i64 R.x1, .int .i64 R.y1]))) := fun s => by
    rw [HRR.out]; exact move_c ⟨x0, y0, x1, y1⟩ q0 q1 s.w HQ.out (by omega) (by omega)
  clear e0' e1' e2' e3' c0' c1'
  have g0 := H0.out.cell 0 rfl 0 rfl
  have g1 := H0.out.cell 0 rfl 1 rfl
  have g2 := H0.out.cell 0 rfl 2 rfl
  have k0 := fun s : Kept W1.heap.size W1 => s.at g0
  have k1 := fun s : Kept W1.heap.size W1 => s.at g1
  have k2 := fun s : Kept W1.heap.size W1 => s.at g2
  have k3 := fun s : Kept W1.heap.size W1 => s.at e0
  have k4 := fun s : Kept W1.heap.size W1 => s.at e1
  have k5 := fun s : Kept W1.heap.size W1 => s.at e2
  have k6 := fun s : Kept W1.heap.size W1 => s.at e3
  have k7 := fun s : Kept W1.heap.size W1 => s.at c0
  have k8 := fun s : Kept W1.heap.size W1 => s.at c1
  clear g0 g1 g2 e0 e1 e2 e3 c0 c1
  go_wp2_with fail
  refine wp_region_kept_last W1.heap.size 12 _ rfl rfl (by kernel_rfl) (by kernel_rfl) ?_
  simp only [List.take_succ_cons, List.take_zero]
  repeat (go_big_quiet_step (first | (go_at_call 25; with_reducible exact Calls.kept _ (Nat.le_refl _) (M0.out _))))
  refine wpQuiet_nil ?_
  intro s
  have H2 : Hid (Bag w s.w [(w.heap.size, [.int .i64 1, .slice ia im ic, .slice (some ⟨b, o, none⟩) m c]), (w.heap.size + 1, cl4 ⟨0, 0, 0, 0⟩)]) := H0.out.call s.below
  obtain ⟨r0, r1, r2, r3⟩ := box4 (H2.out.box 1 rfl)
  have f0 := H2.out.frozen 1 rfl 0
  have f1 := H2.out.frozen 1 rfl 1
  have f2 := H2.out.frozen 1 rfl 2
  have f3 := H2.out.frozen 1 rfl 3
  refine ⟨steps_plain rfl (gives_mono (R := fun v w' => v = undef ∧ w' = (((s.w.setCell ⟨w.heap.size + 1, 0, none⟩ (.int .i64 R.x0)).setCell ⟨w.heap.size + 1, 1, none⟩ (.int .i64 R.y0)).setCell ⟨w.heap.size + 1, 2, none⟩ (.int .i64 R.x1)).setCell ⟨w.heap.size + 1, 3, none⟩ (.int .i64 R.y1)) (by simp [gives, go_sem, r0, r1, r2, r3, f0, f1, f2, f3]) ?_)⟩
  rintro _ _ ⟨rfl, rfl⟩
  clear k0 k1 k2 k3 k4 k5 k6 k7 k8
  go_wp2_with fail
  have H3 := H2.out.set4 1 rfl (.int .i64 R.x0) (.int .i64 R.y0) (.int .i64 R.x1) (.int .i64 R.y1)
  exact ret_rect (g := w.heap.size + 1) (r := R) rfl rfl (H3.box 1 rfl) rfl ⟨rfl, H3.below⟩
set_option maxRecDepth 4000 in
set_option maxHeartbeats 6400000 in
theorem reach2_c (iv pv lv : Value) (ins p : List Int) (rs : List Rc) (w : World) {F : Nat → Prop} (hF : ∀ b, F b → b < w.heap.size) (hp : SlOf RInt 1 F w pv p) (hiv : ∃ a n c, iv = .slice a n c) (hl : SlOf RRc 4 F w lv rs) (hok : RaOk ⟨2, ins, p⟩) (hlen : rs.length = ins.length) (hpl : ∀ r ∈ rs, RcP r) :
    Calls Tryd.prog 41 #[.agg #[.int .i64 2, iv, pv], lv] w (PPost w (rv (reachN ⟨2, ins, p⟩ rs))) := by
  obtain ⟨ia, im, ic, rfl⟩ := hiv
  obtain ⟨R, hR⟩ : ∃ R, R = reachN ⟨2, ins, p⟩ rs := ⟨_, rfl⟩
  rw [← hR]
  have hone : ins.length = 1 := hok.sin (by simp)
  obtain ⟨lb, lo, lc, rfl, hFl, hlcap, hlcm, hrc⟩ := rcl_first hl (by omega)
  obtain ⟨q, hq, e0', e1', e2', e3'⟩ := hrc 0 (by omega)
  simp only [Nat.zero_mul, Nat.add_zero] at e0' e1' e2' e3'
  have hz : rs.getD 0 Rc.zero = q := by simp [hq]
  have hqp : RcP q := hpl q (List.mem_of_getElem? hq)
  obtain ⟨x0, y0, x1, y1⟩ := q
  dsimp only at e0' e1' e2' e3'
  rw [hlen, hone] at hlcap ⊢
  have hll := hF lb hFl
  obtain ⟨l2, ⟨b00, b01⟩, b10, b11⟩ := hok.pa.gr (.inl rfl)
  dsimp only at l2 b00 b01 b10 b11
  obtain ⟨b, o, c, rfl, hFb, hc, hcap, hcm⟩ := sl_cells hp (by omega)
  have hlt := hF b hFb
  have c0' := hc 0 (by omega)
  rw [Nat.add_zero] at c0'
  obtain ⟨q0, hq0⟩ : ∃ q, q = p.getD 0 0 := ⟨_, rfl⟩
  rw [← hq0] at c0'
  have c1' := hc 1 (by omega)
  obtain ⟨q1, hq1⟩ : ∃ q, q = p.getD 1 0 := ⟨_, rfl⟩
  rw [← hq1] at c1'
  rw [← hq0] at b00 b01
  rw [← hq1] at b10 b11
  obtain ⟨m, hm⟩ : ∃ m, m = p.length := ⟨_, rfl⟩
  rw [← hm] at hcap l2 ⊢
  have HRR : Hid (R = growR ⟨x0, y0, x1, y1⟩ q0 q1 q0 q1) := by
    have : R = growR ⟨x0, y0, x1, y1⟩ q0 q1 q0 q1 := by rw [hR, ← hz, hq0, hq1]; rfl
    exact this
  have H0 : Hid (Bag w ((w.alloc (.cells #[.int .i64 2, .slice ia im ic, .slice (some ⟨b, o, none⟩) m c] 48)).alloc (.cells (cs4 0 0 0 0) 25)) [(w.heap.size, [.int .i64 2, .slice ia im ic, .slice (some ⟨b, o, none⟩) m c]), (w.heap.size + 1, cl4 ⟨0, 0, 0, 0⟩)]) := bag2 w [.int .i64 2, .slice ia im ic, .slice (some ⟨b, o, none⟩) m c] (cl4 ⟨0, 0, 0, 0⟩) _ _
  have HQ : Hid (RcP ⟨x0, y0, x1, y1⟩) := hqp
  unfold maxLen at hcm hlcm
  clear hp hF hl hok hpl hR hc hm hq0 hq1 hrc hz hqp hq hlen hone
  go_enter Tryd.func41, Tryd.ntmps41
  go_wp2_with fail
  generalize ((w.alloc (.cells #[.int .i64 2, .slice ia im ic, .slice (some ⟨b, o, none⟩) m c] 48)).alloc (.cells (cs4 0 0 0 0) 25)) = W1 at *
  have e0 := (H0.out.below.cell (p := ⟨lb, lo, none⟩) hll).trans e0'
  have e1 := (H0.out.below.cell (p := ⟨lb, lo + 1, none⟩) hll).trans e1'
  have e2 := (H0.out.below.cell (p := ⟨lb, lo + 2, none⟩) hll).trans e2'
  have e3 := (H0.out.below.cell (p := ⟨lb, lo + 3, none⟩) hll).trans e3'
  have c0 := (H0.out.below.cell (p := ⟨b, o, none⟩) hlt).trans c0'
  have c1 := (H0.out.below.cell (p := ⟨b, o + 1, none⟩) hlt).trans c1'
  have M0 : Hid (∀ s : Kept W1.heap.size W1, Calls Tryd.prog 52 #[.agg #[.int .i64 x0, .int .i64 y0, .int .i64 x1, .int .i64 y1], .int .i64 q0, .int .i64 q1, .int .i64 q0, .int .i64 q1] s.w (PPost s.w (.agg #[.int .i64 R.x0, .int .i64 R.y0, .int .i64 R.x1, .int .i64 R.y1]))) := fun s => by
    rw [HRR.out]; exact grow_c ⟨x0, y0, x1, y1⟩ q0 q1 q0 q1 s.w HQ.out (by omega) (by omega) (by omega) (by omega)
  clear e0' e1' e2' e3' c0' c1'
  have g0 := H0.out.cell 0 rfl 0 rfl
  have g1 := H0.out.cell 0 rfl 1 rfl
  have g2 := H0.out.cell 0 rfl 2 rfl
  have k0 := fun s : Kept W1.heap.size W1 => s.at g0
  have k1 := fun s : Kept W1.heap.size W1 => s.at g1
  have k2 := fun s : Kept W1.heap.size W1 => s.at g2
  have k3 := fun s : Kept W1.heap.size W1 => s.at e0
  have k4 := fun s : Kept W1.heap.size W1 => s.at e1
  have k5 := fun s : Kept W1.heap.size W1 => s.at e2
  have k6 := fun s : Kept W1.heap.size W1 => s.at e3
  have k7 := fun s : Kept W1.heap.size W1 => s.at c0
  have k8 := fun s : Kept W1.heap.size W1 => s.at c1
  clear g0 g1 g2 e0 e1 e2 e3 c0 c1
  go_wp2_with fail
  refine wp_region_kept_last W1.heap.size 20 _ rfl rfl (by kernel_rfl) (by kernel_rfl) ?_
  simp only [List.take_succ_cons, List.take_zero]
  repeat (go_big_quiet_step (first | (go_at_call 52; with_reducible exact Calls.kept _ (Nat.le_refl _) (M0.out _))))
  refine wpQuiet_nil ?_
  intro s
  have H2 : Hid (Bag w s.w [(w.heap.size, [.int .i64 2, .slice ia im ic, .slice (some ⟨b, o, none⟩) m c]), (w.heap.size + 1, cl4 ⟨0, 0, 0, 0⟩)]) := H0.out.call s.below
  obtain ⟨r0, r1, r2, r3⟩ := box4 (H2.out.box 1 rfl)
  have f0 := H2.out.frozen 1 rfl 0
  have f1 := H2.out.frozen 1 rfl 1
  have f2 := H2.out.frozen 1 rfl 2
  have f3 := H2.out.frozen 1 rfl 3
  refine ⟨steps_plain rfl (gives_mono (R := fun v w' => v = undef ∧ w' = (((s.w.setCell ⟨w.heap.size + 1, 0, none⟩ (.int .i64 R.x0)).setCell ⟨w.heap.size + 1, 1, none⟩ (.int .i64 R.y0)).setCell ⟨w.heap.size + 1, 2, none⟩ (.int .i64 R.x1)).setCell ⟨w.heap.size + 1, 3, none⟩ (.int .i64 R.y1)) (by simp [gives, go_sem, r0, r1, r2, r3, f0, f1, f2, f3]) ?_)⟩
  rintro _ _ ⟨rfl, rfl⟩
  clear k0 k1 k2 k3 k4 k5 k6 k7 k8
  go_wp2_with fail
  have H3 := H2.out.set4 1 rfl (.int .i64 R.x0) (.int .i64 R.y0) (.int .i64 R.x1) (.int .i64 R.y1)
  exact ret_rect (g := w.heap.size + 1) (r := R) rfl rfl (H3.box 1 rfl) rfl ⟨rfl, H3.below⟩
set_option maxRecDepth 4000 in
set_option maxHeartbeats 6400000 in
theorem reach4_c (iv pv lv : Value) (ins p : List Int) (rs : List Rc) (w : World) {F : Nat → Prop} (hF : ∀ b, F b → b < w.heap.size) (hp : SlOf RInt 1 F w pv p) (hiv : ∃ a n c, iv = .slice a n c) (hl : SlOf RRc 4 F w lv rs) (hok : RaOk ⟨4, ins, p⟩) (hlen : rs.length = ins.length) (hpl : ∀ r ∈ rs, RcP r) :
    Calls Tryd.prog 41 #[.agg #[.int .i64 4, iv, pv], lv] w (PPost w (rv (reachN ⟨4, ins, p⟩ rs))) := by
  obtain ⟨ia, im, ic, rfl⟩ := hiv
  obtain ⟨R, hR⟩ : ∃ R, R = reachN ⟨4, ins, p⟩ rs := ⟨_, rfl⟩
  rw [← hR]
  have hone : ins.length = 1 := hok.sin (by simp)
  obtain ⟨lb, lo, lc, rfl, hFl, hlcap, hlcm, hrc⟩ := rcl_first hl (by omega)
  obtain ⟨q, hq, e0', e1', e2', e3'⟩ := hrc 0 (by omega)
  simp only [Nat.zero_mul, Nat.add_zero] at e0' e1' e2' e3'
  have hz : rs.getD 0 Rc.zero = q := by simp [hq]
  have hqp : RcP q := hpl q (List.mem_of_getElem? hq)
  obtain ⟨x0, y0, x1, y1⟩ := q
  dsimp only at e0' e1' e2' e3'
  rw [hlen, hone] at hlcap ⊢
  have hll := hF lb hFl
  obtain ⟨l2, ⟨b00, b01⟩, b10, b11⟩ := hok.pa.gr (.inr (.inr rfl))
  dsimp only at l2 b00 b01 b10 b11
  obtain ⟨b, o, c, rfl, hFb, hc, hcap, hcm⟩ := sl_cells hp (by omega)
  have hlt := hF b hFb
  have c0' := hc 0 (by omega)
  rw [Nat.add_zero] at c0'
  obtain ⟨q0, hq0⟩ : ∃ q, q = p.getD 0 0 := ⟨_, rfl⟩
  rw [← hq0] at c0'
  have c1' := hc 1 (by omega)
  obtain ⟨q1, hq1⟩ : ∃ q, q = p.getD 1 0 := ⟨_, rfl⟩
  rw [← hq1] at c1'
  rw [← hq0] at b00 b01
  rw [← hq1] at b10 b11
  obtain ⟨m, hm⟩ : ∃ m, m = p.length := ⟨_, rfl⟩
  rw [← hm] at hcap l2 ⊢
  have HRR : Hid (R = growR ⟨x0, y0, x1, y1⟩ q0 q1 q0 q1) := by
    have : R = growR ⟨x0, y0, x1, y1⟩ q0 q1 q0 q1 := by rw [hR, ← hz, hq0, hq1]; rfl
    exact this
  have H0 : Hid (Bag w ((w.alloc (.cells #[.int .i64 4, .slice ia im ic, .slice (some ⟨b, o, none⟩) m c] 48)).alloc (.cells (cs4 0 0 0 0) 25)) [(w.heap.size, [.int .i64 4, .slice ia im ic, .slice (some ⟨b, o, none⟩) m c]), (w.heap.size + 1, cl4 ⟨0, 0, 0, 0⟩)]) := bag2 w [.int .i64 4, .slice ia im ic, .slice (some ⟨b, o, none⟩) m c] (cl4 ⟨0, 0, 0, 0⟩) _ _
  have HQ : Hid (RcP ⟨x0, y0, x1, y1⟩) := hqp
  unfold maxLen at hcm hlcm
  clear hp hF hl hok hpl hR hc hm hq0 hq1 hrc hz hqp hq hlen hone
  go_enter Tryd.func41, Tryd.ntmps41
  go_wp2_with fail
  generalize ((w.alloc (.cells #[.int .i64 4, .slice ia im ic, .slice (some ⟨b, o, none⟩) m c] 48)).alloc (.cells (cs4 0 0 0 0) 25)) = W1 at *
  have e0 := (H0.out.below.cell (p := ⟨lb, lo, none⟩) hll).trans e0'
  have e1 := (H0.out.below.cell (p := ⟨lb, lo + 1, none⟩) hll).trans e1'
  have e2 := (H0.out.below.cell (p := ⟨lb, lo + 2, none⟩) hll).trans e2'
  have e3 := (H0.out.below.cell (p := ⟨lb, lo + 3, none⟩) hll).trans e3'
  have c0 := (H0.out.below.cell (p := ⟨b, o, none⟩) hlt).trans c0'
  have c1 := (H0.out.below.cell (p := ⟨b, o + 1, none⟩) hlt).trans c1'
  have M0 : Hid (∀ s : Kept W1.heap.size W1, Calls Tryd.prog 52 #[.agg #[.int .i64 x0, .int .i64 y0, .int .i64 x1, .int .i64 y1], .int .i64 q0, .int .i64 q1, .int .i64 q0, .int .i64 q1] s.w (PPost s.w (.agg #[.int .i64 R.x0, .int .i64 R.y0, .int .i64 R.x1, .int .i64 R.y1]))) := fun s => by
    rw [HRR.out]; exact grow_c ⟨x0, y0, x1, y1⟩ q0 q1 q0 q1 s.w HQ.out (by omega) (by omega) (by omega) (by omega)
  clear e0' e1' e2' e3' c0' c1'
  have g0 := H0.out.cell 0 rfl 0 rfl
  have g1 := H0.out.cell 0 rfl 1 rfl
  have g2 := H0.out.cell 0 rfl 2 rfl
  have k0 := fun s : Kept W1.heap.size W1 => s.at g0
  have k1 := fun s : Kept W1.heap.size W1 => s.at g1
  have k2 := fun s : Kept W1.heap.size W1 => s.at g2
  have k3 := fun s : Kept W1.heap.size W1 => s.at e0
  have k4 := fun s : Kept W1.heap.size W1 => s.at e1
  have k5 := fun s : Kept W1.heap.size W1 => s.at e2
  have k6 := fun s : Kept W1.heap.size W1 => s.at e3
  have k7 := fun s : Kept W1.heap.size W1 => s.at c0
  have k8 := fun s : Kept W1.heap.size W1 => s.at c1
  clear g0 g1 g2 e0 e1 e2 e3 c0 c1
  go_wp2_with fail
  refine wp_region_kept_last W1.heap.size 20 _ rfl rfl (by kernel_rfl) (by kernel_rfl) ?_
  simp only [List.take_succ_cons, List.take_zero]
  repeat (go_big_quiet_step (first | (go_at_call 52; with_reducible exact Calls.kept _ (Nat.le_refl _) (M0.out _))))
  refine wpQuiet_nil ?_
  intro s
  have H2 : Hid (Bag w s.w [(w.heap.size, [.int .i64 4, .slice ia im ic, .slice (some ⟨b, o, none⟩) m c]), (w.heap.size + 1, cl4 ⟨0, 0, 0, 0⟩)]) := H0.out.call s.below
  obtain ⟨r0, r1, r2, r3⟩ := box4 (H2.out.box 1 rfl)
  have f0 := H2.out.frozen 1 rfl 0
  have f1 := H2.out.frozen 1 rfl 1
  have f2 := H2.out.frozen 1 rfl 2
  have f3 := H2.out.frozen 1 rfl 3
  refine ⟨steps_plain rfl (gives_mono (R := fun v w' => v = undef ∧ w' = (((s.w.setCell ⟨w.heap.size + 1, 0, none⟩ (.int .i64 R.x0)).setCell ⟨w.heap.size + 1, 1, none⟩ (.int .i64 R.y0)).setCell ⟨w.heap.size + 1, 2, none⟩ (.int .i64 R.x1)).setCell ⟨w.heap.size + 1, 3, none⟩ (.int .i64 R.y1)) (by simp [gives, go_sem, r0, r1, r2, r3, f0, f1, f2, f3]) ?_)⟩
  rintro _ _ ⟨rfl, rfl⟩
  clear k0 k1 k2 k3 k4 k5 k6 k7 k8
  go_wp2_with fail
  have H3 := H2.out.set4 1 rfl (.int .i64 R.x0) (.int .i64 R.y0) (.int .i64 R.x1) (.int .i64 R.y1)
  exact ret_rect (g := w.heap.size + 1) (r := R) rfl rfl (H3.box 1 rfl) rfl ⟨rfl, H3.below⟩
set_option maxRecDepth 4000 in
set_option maxHeartbeats 6400000 in
theorem reach11_c (iv pv lv : Value) (ins p : List Int) (rs : List Rc) (w : World) {F : Nat → Prop} (hF : ∀ b, F b → b < w.heap.size) (hp : SlOf RInt 1 F w pv p) (hiv : ∃ a n c, iv = .slice a n c) (hl : SlOf RRc 4 F w lv rs) (hok : RaOk ⟨11, ins, p⟩) (hlen : rs.length = ins.length) (hpl : ∀ r ∈ rs, RcP r) :
    Calls Tryd.prog 41 #[.agg #[.int .i64 11, iv, pv], lv] w (PPost w (rv (reachN ⟨11, ins, p⟩ rs))) := by
  obtain ⟨ia, im, ic, rfl⟩ := hiv
  obtain ⟨R, hR⟩ : ∃ R, R = reachN ⟨11, ins, p⟩ rs := ⟨_, rfl⟩
  rw [← hR]
  have hone : ins.length = 1 := hok.sin (by simp)
  obtain ⟨lb, lo, lc, rfl, hFl, hlcap, hlcm, hrc⟩ := rcl_first hl (by omega)
  obtain ⟨q, hq, e0', e1', e2', e3'⟩ := hrc 0 (by omega)
  simp only [Nat.zero_mul, Nat.add_zero] at e0' e1' e2' e3'
  have hz : rs.getD 0 Rc.zero = q := by simp [hq]
  have hqp : RcP q := hpl q (List.mem_of_getElem? hq)
  obtain ⟨x0, y0, x1, y1⟩ := q
  dsimp only at e0' e1' e2' e3'
  rw [hlen, hone] at hlcap ⊢
  have hll := hF lb hFl
  obtain ⟨_, ⟨b00, b01⟩, b10, b11⟩ := hok.pa.mv (.inr rfl)
  obtain ⟨l2, ⟨b20, b21⟩, b30, b31⟩ := hok.pa.sh rfl
  dsimp only at l2 b00 b01 b10 b11 b20 b21 b30 b31
  obtain ⟨b, o, c, rfl, hFb, hc, hcap, hcm⟩ := sl_cells hp (by omega)
  have hlt := hF b hFb
  have c0' := hc 0 (by omega)
  rw [Nat.add_zero] at c0'
  obtain ⟨q0, hq0⟩ : ∃ q, q = p.getD 0 0 := ⟨_, rfl⟩
  rw [← hq0] at c0'
  have c1' := hc 1 (by omega)
  obtain ⟨q1, hq1⟩ : ∃ q, q = p.getD 1 0 := ⟨_, rfl⟩
  rw [← hq1] at c1'
  have c2' := hc 2 (by omega)
  obtain ⟨q2, hq2⟩ : ∃ q, q = p.getD 2 0 := ⟨_, rfl⟩
  rw [← hq2] at c2'
  have c3' := hc 3 (by omega)
  obtain ⟨q3, hq3⟩ : ∃ q, q = p.getD 3 0 := ⟨_, rfl⟩
  rw [← hq3] at c3'
  rw [← hq0] at b00 b01
  rw [← hq1] at b10 b11
  rw [← hq2] at b20 b21
  rw [← hq3] at b30 b31
  obtain ⟨m, hm⟩ : ∃ m, m = p.length := ⟨_, rfl⟩
  rw [← hm] at hcap l2 ⊢
  obtain ⟨mv, hmv⟩ : ∃ r, r = moveR ⟨x0, y0, x1, y1⟩ q0 q1 := ⟨_, rfl⟩
  obtain ⟨gv, hgv⟩ : ∃ r, r = growR mv q2 q3 q2 q3 := ⟨_, rfl⟩
  have HRR : Hid (R = joinR ⟨x0, y0, x1, y1⟩ gv ∧ mv = moveR ⟨x0, y0, x1, y1⟩ q0 q1 ∧ gv = growR mv q2 q3 q2 q3) := by
    have : R = joinR ⟨x0, y0, x1, y1⟩ gv := by rw [hR, hgv, hmv, ← hz, hq0, hq1, hq2, hq3]; rfl
    exact ⟨this, hmv, hgv⟩
  clear hmv hgv
  have H0 : Hid (Bag w ((w.alloc (.cells #[.int .i64 11, .slice ia im ic, .slice (some ⟨b, o, none⟩) m c] 48)).alloc (.cells (cs4 0 0 0 0) 25)) [(w.heap.size, [.int .i64 11, .slice ia im ic, .slice (some ⟨b, o, none⟩) m c]), (w.heap.size + 1, cl4 ⟨0, 0, 0, 0⟩)]) := bag2 w [.int .i64 11, .slice ia im ic, .slice (some ⟨b, o, none⟩) m c] (cl4 ⟨0, 0, 0, 0⟩) _ _
  have HQ : Hid (RcP ⟨x0, y0, x1, y1⟩) := hqp
  unfold maxLen at hcm hlcm
  clear hp hF hl hok hpl hR hc hm hq0 hq1 hq2 hq3 hrc hz hqp hq hlen hone
  go_enter Tryd.func41, Tryd.ntmps41
  go_wp2_with fail
  generalize ((w.alloc (.cells #[.int .i64 11, .slice ia im ic, .slice (some ⟨b, o, none⟩) m c] 48)).alloc (.cells (cs4 0 0 0 0) 25)) = W1 at *
  have e0 := (H0.out.below.cell (p := ⟨lb, lo, none⟩) hll).trans e0'
  have e1 := (H0.out.below.cell (p := ⟨lb, lo + 1, none⟩) hll).trans e1'
  have e2 := (H0.out.below.cell (p := ⟨lb, lo + 2, none⟩) hll).trans e2'
  have e3 := (H0.out.below.cell (p := ⟨lb, lo + 3, none⟩) hll).trans e3'
  have c0 := (H0.out.below.cell (p := ⟨b, o, none⟩) hlt).trans c0'
  have c1 := (H0.out.below.cell (p := ⟨b, o + 1, none⟩) hlt).trans c1'
  have c2 := (H0.out.below.cell (p := ⟨b, o + 2, none⟩) hlt).trans c2'
  have c3 := (H0.out.below.cell (p := ⟨b, o + 3, none⟩) hlt).trans c3'
  have M0 : Hid (∀ s : Kept W1.heap.size W1, Calls Tryd.prog 25 #[.agg #[.int .i64 x0, .int .i64 y0, .int .i64 x1, .int .i64 y1], .int .i64 q0, .int .i64 q1] s.w (PPost s.w (.agg #[.int .i64 mv.x0, .int .i64 mv.y0, .int .i64 mv.x1, .int .i64 mv.y1]))) := fun s => by
    rw [HRR.out.2.1]; exact move_c ⟨x0, y0, x1, y1⟩ q0 q1 s.w HQ.out (by omega) (by omega)
  have M1 : Hid (∀ s : Kept W1.heap.size W1, Calls Tryd.prog 52 #[.agg #[.int .i64 mv.x0, .int .i64 mv.y0, .int .i64 mv.x1, .int .i64 mv.y1], .int .i64 q2, .int .i64 q3, .int .i64 q2, .int .i64 q3] s.w (PPost s.w (.agg #[.int .i64 gv.x0, .int .i64 gv.y0, .int .i64 gv.x1, .int .i64 gv.y1]))) := fun s => by
    rw [HRR.out.2.2]; exact grow_c mv q2 q3 q2 q3 s.w (by rw [HRR.out.2.1]; exact moveR_pl _ _ _) (by omega) (by omega) (by omega) (by omega)
  have M2 : Hid (∀ s : Kept W1.heap.size W1, Calls Tryd.prog 21 #[.agg #[.int .i64 x0, .int .i64 y0, .int .i64 x1, .int .i64 y1], .agg #[.int .i64 gv.x0, .int .i64 gv.y0, .int .i64 gv.x1, .int .i64 gv.y1]] s.w (PPost s.w (.agg #[.int .i64 R.x0, .int .i64 R.y0, .int .i64 R.x1, .int .i64 R.y1]))) := fun s => by
    rw [HRR.out.1]; exact join_c ⟨x0, y0, x1, y1⟩ gv s.w
  clear e0' e1' e2' e3' c0' c1' c2' c3'
  have g0 := H0.out.cell 0 rfl 0 rfl
  have g1 := H0.out.cell 0 rfl 1 rfl
  have g2 := H0.out.cell 0 rfl 2 rfl
  have k0 := fun s : Kept W1.heap.size W1 => s.at g0
  have k1 := fun s : Kept W1.heap.size W1 => s.at g1
  have k2 := fun s : Kept W1.heap.size W1 => s.at g2
  have k3 := fun s : Kept W1.heap.size W1 => s.at e0
  have k4 := fun s : Kept W1.heap.size W1 => s.at e1
  have k5 := fun s : Kept W1.heap.size W1 => s.at e2
  have k6 := fun s : Kept W1.heap.size W1 => s.at e3
  have k7 := fun s : Kept W1.heap.size W1 => s.at c0
  have k8 := fun s : Kept W1.heap.size W1 => s.at c1
  have k9 := fun s : Kept W1.heap.size W1 => s.at c2
  have k10 := fun s : Kept W1.heap.size W1 => s.at c3
  clear g0 g1 g2 e0 e1 e2 e3 c0 c1 c2 c3
  go_wp2_with fail
  refine wp_region_kept_last W1.heap.size 33 _ rfl rfl (by kernel_rfl) (by kernel_rfl) ?_
  simp only [List.take_succ_cons, List.take_zero]
  repeat (go_big_quiet_step (first | (go_at_call 25; with_reducible exact Calls.kept _ (Nat.le_refl _) (M0.out _)) | (go_at_call 52; with_reducible exact Calls.kept _ (Nat.le_refl _) (M1.out _)) | (go_at_call 21; with_reducible exact Calls.kept _ (Nat.le_refl _) (M2.out _))))
  refine wpQuiet_nil ?_
  intro s
  have H2 : Hid (Bag w s.w [(w.heap.size, [.int .i64 11, .slice ia im ic, .slice (some ⟨b, o, none⟩) m c]), (w.heap.size + 1, cl4 ⟨0, 0, 0, 0⟩)]) := H0.out.call s.below
  obtain ⟨r0, r1, r2, r3⟩ := box4 (H2.out.box 1 rfl)
  have f0 := H2.out.frozen 1 rfl 0
  have f1 := H2.out.frozen 1 rfl 1
  have f2 := H2.out.frozen 1 rfl 2
  have f3 := H2.out.frozen 1 rfl 3
  refine ⟨steps_plain rfl (gives_mono (R := fun v w' => v = undef ∧ w' = (((s.w.setCell ⟨w.heap.size + 1, 0, none⟩ (.int .i64 R.x0)).setCell ⟨w.heap.size + 1, 1, none⟩ (.int .i64 R.y0)).setCell ⟨w.heap.size + 1, 2, none⟩ (.int .i64 R.x1)).setCell ⟨w.heap.size + 1, 3, none⟩ (.int .i64 R.y1)) (by simp [gives, go_sem, r0, r1, r2, r3, f0, f1, f2, f3]) ?_)⟩
  rintro _ _ ⟨rfl, rfl⟩
  clear k0 k1 k2 k3 k4 k5 k6 k7 k8 k9 k10
  go_wp2_with fail
  have H3 := H2.out.set4 1 rfl (.int .i64 R.x0) (.int .i64 R.y0) (.int .i64 R.x1) (.int .i64 R.y1)
  exact ret_rect (g := w.heap.size + 1) (r := R) rfl rfl (H3.box 1 rfl) rfl ⟨rfl, H3.below⟩
set_option maxRecDepth 4000 in
set_option maxHeartbeats 6400000 in
theorem reach12_c (iv pv lv : Value) (ins p : List Int) (rs : List Rc) (w : World) {F : Nat → Prop} (hF : ∀ b, F b → b < w.heap.size) (hp : SlOf RInt 1 F w pv p) (hiv : ∃ a n c, iv = .slice a n c) (hl : SlOf RRc 4 F w lv rs) (hok : RaOk ⟨12, ins, p⟩) (hlen : rs.length = ins.length) (hpl : ∀ r ∈ rs, RcP r) :
    Calls Tryd.prog 41 #[.agg #[.int .i64 12, iv, pv], lv] w (PPost w (rv (reachN ⟨12, ins, p⟩ rs))) := by
  obtain ⟨ia, im, ic, rfl⟩ := hiv
  obtain ⟨R, hR⟩ : ∃ R, R = reachN ⟨12, ins, p⟩ rs := ⟨_, rfl⟩
  rw [← hR]
  have hone : ins.length = 1 := hok.sin (by simp)
  obtain ⟨lb, lo, lc, rfl, hFl, hlcap, hlcm, hrc⟩ := rcl_first hl (by omega)
  obtain ⟨q, hq, e0', e1', e2', e3'⟩ := hrc 0 (by omega)
  simp only [Nat.zero_mul, Nat.add_zero] at e0' e1' e2' e3'
  have hz : rs.getD 0 Rc.zero = q := by simp [hq]
  have hqp : RcP q := hpl q (List.mem_of_getElem? hq)
  obtain ⟨x0, y0, x1, y1⟩ := q
  dsimp only at e0' e1' e2' e3'
  rw [hlen, hone] at hlcap ⊢
  have hll := hF lb hFl
  obtain ⟨l2, hbp⟩ := hok.pa.bx (.inl rfl)
  dsimp only at l2 hbp
  obtain ⟨pa, m, c, hpv⟩ : ∃ a n c, pv = .slice a n c := by obtain ⟨a, c, h, _⟩ := hp; exact ⟨a, _, c, h⟩
  obtain ⟨bx, hbx⟩ : ∃ r, r = pbox p := ⟨_, rfl⟩
  have HRR : Hid (R = meetR ⟨x0, y0, x1, y1⟩ bx) := by
    have : R = meetR ⟨x0, y0, x1, y1⟩ bx := by rw [hR, ← hz, hbx]; rfl
    exact this
  have HPV : Hid (SlOf RInt 1 F w (.slice pa m c) p ∧ (∀ b, F b → b < w.heap.size) ∧ 4 ≤ p.length ∧ bx = pbox p) := ⟨by rw [← hpv]; exact hp, hF, l2, hbx⟩
  rw [hpv]
  have H0 : Hid (Bag w ((w.alloc (.cells #[.int .i64 12, .slice ia im ic, .slice pa m c] 48)).alloc (.cells (cs4 0 0 0 0) 25)) [(w.heap.size, [.int .i64 12, .slice ia im ic, .slice pa m c]), (w.heap.size + 1, cl4 ⟨0, 0, 0, 0⟩)]) := bag2 w [.int .i64 12, .slice ia im ic, .slice pa m c] (cl4 ⟨0, 0, 0, 0⟩) _ _
  unfold maxLen at hlcm
  clear hp hpv hF hl hok hpl hR hbx hbp l2 hrc hz hqp hq hlen hone
  go_enter Tryd.func41, Tryd.ntmps41
  go_wp2_with fail
  generalize ((w.alloc (.cells #[.int .i64 12, .slice ia im ic, .slice pa m c] 48)).alloc (.cells (cs4 0 0 0 0) 25)) = W1 at *
  have e0 := (H0.out.below.cell (p := ⟨lb, lo, none⟩) hll).trans e0'
  have e1 := (H0.out.below.cell (p := ⟨lb, lo + 1, none⟩) hll).trans e1'
  have e2 := (H0.out.below.cell (p := ⟨lb, lo + 2, none⟩) hll).trans e2'
  have e3 := (H0.out.below.cell (p := ⟨lb, lo + 3, none⟩) hll).trans e3'
  have M0 : Hid (∀ s : Kept W1.heap.size W1, Calls Tryd.prog 56 #[.slice pa m c] s.w (PPost s.w (.agg #[.int .i64 bx.x0, .int .i64 bx.y0, .int .i64 bx.x1, .int .i64 bx.y1]))) := fun s => by
    rw [HPV.out.2.2.2]; exact fbox_c _ p s.w (HPV.out.1.same RInt.ok (Same.of_below (H0.out.below.trans (s.below.mono H0.out.below.size)) HPV.out.2.1)) HPV.out.2.2.1
  have M1 : Hid (∀ s : Kept W1.heap.size W1, Calls Tryd.prog 24 #[.agg #[.int .i64 x0, .int .i64 y0, .int .i64 x1, .int .i64 y1], .agg #[.int .i64 bx.x0, .int .i64 bx.y0, .int .i64 bx.x1, .int .i64 bx.y1]] s.w (PPost s.w (.agg #[.int .i64 R.x0, .int .i64 R.y0, .int .i64 R.x1, .int .i64 R.y1]))) := fun s => by
    rw [HRR.out]; exact meet_c ⟨x0, y0, x1, y1⟩ bx s.w
  clear e0' e1' e2' e3'
  have g0 := H0.out.cell 0 rfl 0 rfl
  have g1 := H0.out.cell 0 rfl 1 rfl
  have g2 := H0.out.cell 0 rfl 2 rfl
  have k0 := fun s : Kept W1.heap.size W1 => s.at g0
  have k1 := fun s : Kept W1.heap.size W1 => s.at g1
  have k2 := fun s : Kept W1.heap.size W1 => s.at g2
  have k3 := fun s : Kept W1.heap.size W1 => s.at e0
  have k4 := fun s : Kept W1.heap.size W1 => s.at e1
  have k5 := fun s : Kept W1.heap.size W1 => s.at e2
  have k6 := fun s : Kept W1.heap.size W1 => s.at e3
  clear g0 g1 g2 e0 e1 e2 e3
  go_wp2_with fail
  refine wp_region_kept_last W1.heap.size 7 _ rfl rfl (by kernel_rfl) (by kernel_rfl) ?_
  simp only [List.take_succ_cons, List.take_zero]
  repeat (go_big_quiet_step (first | (go_at_call 56; with_reducible exact Calls.kept _ (Nat.le_refl _) (M0.out _)) | (go_at_call 24; with_reducible exact Calls.kept _ (Nat.le_refl _) (M1.out _))))
  refine wpQuiet_nil ?_
  intro s
  have H2 : Hid (Bag w s.w [(w.heap.size, [.int .i64 12, .slice ia im ic, .slice pa m c]), (w.heap.size + 1, cl4 ⟨0, 0, 0, 0⟩)]) := H0.out.call s.below
  obtain ⟨r0, r1, r2, r3⟩ := box4 (H2.out.box 1 rfl)
  have f0 := H2.out.frozen 1 rfl 0
  have f1 := H2.out.frozen 1 rfl 1
  have f2 := H2.out.frozen 1 rfl 2
  have f3 := H2.out.frozen 1 rfl 3
  refine ⟨steps_plain rfl (gives_mono (R := fun v w' => v = undef ∧ w' = (((s.w.setCell ⟨w.heap.size + 1, 0, none⟩ (.int .i64 R.x0)).setCell ⟨w.heap.size + 1, 1, none⟩ (.int .i64 R.y0)).setCell ⟨w.heap.size + 1, 2, none⟩ (.int .i64 R.x1)).setCell ⟨w.heap.size + 1, 3, none⟩ (.int .i64 R.y1)) (by simp [gives, go_sem, r0, r1, r2, r3, f0, f1, f2, f3]) ?_)⟩
  rintro _ _ ⟨rfl, rfl⟩
  clear k0 k1 k2 k3 k4 k5 k6
  go_wp2_with fail
  have H3 := H2.out.set4 1 rfl (.int .i64 R.x0) (.int .i64 R.y0) (.int .i64 R.x1) (.int .i64 R.y1)
  exact ret_rect (g := w.heap.size + 1) (r := R) rfl rfl (H3.box 1 rfl) rfl ⟨rfl, H3.below⟩
set_option maxRecDepth 4000 in
set_option maxHeartbeats 6400000 in
theorem reach10_c (iv pv lv : Value) (ins p : List Int) (rs : List Rc) (w : World) {F : Nat → Prop} (hF : ∀ b, F b → b < w.heap.size) (hp : SlOf RInt 1 F w pv p) (hiv : ∃ a n c, iv = .slice a n c) (hl : SlOf RRc 4 F w lv rs) (hok : RaOk ⟨10, ins, p⟩) (hlen : rs.length = ins.length) (hpl : ∀ r ∈ rs, RcP r) :
    Calls Tryd.prog 41 #[.agg #[.int .i64 10, iv, pv], lv] w (PPost w (rv (reachN ⟨10, ins, p⟩ rs))) := by
  obtain ⟨ia, im, ic, rfl⟩ := hiv
  obtain ⟨R, hR⟩ : ∃ R, R = reachN ⟨10, ins, p⟩ rs := ⟨_, rfl⟩
  rw [← hR]
  have hone : ins.length = 1 := hok.sin (by simp)
  obtain ⟨lb, lo, lc, rfl, hFl, hlcap, hlcm, hrc⟩ := rcl_first hl (by omega)
  obtain ⟨q, hq, e0', e1', e2', e3'⟩ := hrc 0 (by omega)
  simp only [Nat.zero_mul, Nat.add_zero] at e0' e1' e2' e3'
  have hz : rs.getD 0 Rc.zero = q := by simp [hq]
  have hqp : RcP q := hpl q (List.mem_of_getElem? hq)
  obtain ⟨x0, y0, x1, y1⟩ := q
  dsimp only at e0' e1' e2' e3'
  rw [hlen, hone] at hlcap ⊢
  have hll := hF lb hFl
  obtain ⟨l2, hbp⟩ := hok.pa.bx (.inr rfl)
  dsimp only at l2 hbp
  obtain ⟨pa, m, c, hpv⟩ : ∃ a n c, pv = .slice a n c := by obtain ⟨a, c, h, _⟩ := hp; exact ⟨a, _, c, h⟩
  obtain ⟨bx, hbx⟩ : ∃ r, r = pbox p := ⟨_, rfl⟩
  obtain ⟨mt, hmt⟩ : ∃ r, r = meetR ⟨x0, y0, x1, y1⟩ bx := ⟨_, rfl⟩
  obtain ⟨em, hem⟩ : ∃ r, r = mt.emp := ⟨_, rfl⟩
  have HRR : Hid (R = (if (!em) = true then planeR else Rc.zero) ∧ mt = meetR ⟨x0, y0, x1, y1⟩ bx ∧ em = mt.emp) := by
    have : R = (if em = true then Rc.zero else planeR) := by rw [hR, hem, hmt, ← hz, hbx]; rfl
    refine ⟨?_, hmt, hem⟩
    rw [this]
    cases em <;> rfl
  clear hmt hem
  have HPV : Hid (SlOf RInt 1 F w (.slice pa m c) p ∧ (∀ b, F b → b < w.heap.size) ∧ 4 ≤ p.length ∧ bx = pbox p) := ⟨by rw [← hpv]; exact hp, hF, l2, hbx⟩
  rw [hpv]
  have H0 : Hid (Bag w ((w.alloc (.cells #[.int .i64 10, .slice ia im ic, .slice pa m c] 48)).alloc (.cells (cs4 0 0 0 0) 25)) [(w.heap.size, [.int .i64 10, .slice ia im ic, .slice pa m c]), (w.heap.size + 1, cl4 ⟨0, 0, 0, 0⟩)]) := bag2 w [.int .i64 10, .slice ia im ic, .slice pa m c] (cl4 ⟨0, 0, 0, 0⟩) _ _
  unfold maxLen at hlcm
  clear hp hpv hF hl hok hpl hR hbx hbp l2 hrc hz hqp hq hlen hone
  go_enter Tryd.func41, Tryd.ntmps41
  go_wp2_with fail
  generalize ((w.alloc (.cells #[.int .i64 10, .slice ia im ic, .slice pa m c] 48)).alloc (.cells (cs4 0 0 0 0) 25)) = W1 at *
  have e0 := (H0.out.below.cell (p := ⟨lb, lo, none⟩) hll).trans e0'
  have e1 := (H0.out.below.cell (p := ⟨lb, lo + 1, none⟩) hll).trans e1'
  have e2 := (H0.out.below.cell (p := ⟨lb, lo + 2, none⟩) hll).trans e2'
  have e3 := (H0.out.below.cell (p := ⟨lb, lo + 3, none⟩) hll).trans e3'
  have M0 : Hid (∀ s : Kept W1.heap.size W1, Calls Tryd.prog 56 #[.slice pa m c] s.w (PPost s.w (.agg #[.int .i64 bx.x0, .int .i64 bx.y0, .int .i64 bx.x1, .int .i64 bx.y1]))) := fun s => by
    rw [HPV.out.2.2.2]; exact fbox_c _ p s.w (HPV.out.1.same RInt.ok (Same.of_below (H0.out.below.trans (s.below.mono H0.out.below.size)) HPV.out.2.1)) HPV.out.2.2.1
  have M1 : Hid (∀ s : Kept W1.heap.size W1, Calls Tryd.prog 24 #[.agg #[.int .i64 x0, .int .i64 y0, .int .i64 x1, .int .i64 y1], .agg #[.int .i64 bx.x0, .int .i64 bx.y0, .int .i64 bx.x1, .int .i64 bx.y1]] s.w (PPost s.w (.agg #[.int .i64 mt.x0, .int .i64 mt.y0, .int .i64 mt.x1, .int .i64 mt.y1]))) := fun s => by
    rw [HRR.out.2.1]; exact meet_c ⟨x0, y0, x1, y1⟩ bx s.w
  have M2 : Hid (∀ s : Kept W1.heap.size W1, Calls Tryd.prog 38 #[.agg #[.int .i64 mt.x0, .int .i64 mt.y0, .int .i64 mt.x1, .int .i64 mt.y1]] s.w (PPost s.w (.bool em))) := fun s => by
    rw [HRR.out.2.2]; exact empty_c mt.x0 mt.y0 mt.x1 mt.y1 s.w
  have M3 : Hid (∀ s : Kept W1.heap.size W1, Calls Tryd.prog 57 #[.bool (!em)] s.w (PPost s.w (.agg #[.int .i64 R.x0, .int .i64 R.y0, .int .i64 R.x1, .int .i64 R.y1]))) := fun s => by
    rw [HRR.out.1]; exact fwhole_c (!em) s.w
  clear e0' e1' e2' e3'
  have g0 := H0.out.cell 0 rfl 0 rfl
  have g1 := H0.out.cell 0 rfl 1 rfl
  have g2 := H0.out.cell 0 rfl 2 rfl
  have k0 := fun s : Kept W1.heap.size W1 => s.at g0
  have k1 := fun s : Kept W1.heap.size W1 => s.at g1
  have k2 := fun s : Kept W1.heap.size W1 => s.at g2
  have k3 := fun s : Kept W1.heap.size W1 => s.at e0
  have k4 := fun s : Kept W1.heap.size W1 => s.at e1
  have k5 := fun s : Kept W1.heap.size W1 => s.at e2
  have k6 := fun s : Kept W1.heap.size W1 => s.at e3
  clear g0 g1 g2 e0 e1 e2 e3
  go_wp2_with fail
  refine wp_region_kept_last W1.heap.size 10 _ rfl rfl (by kernel_rfl) (by kernel_rfl) ?_
  simp only [List.take_succ_cons, List.take_zero]
  repeat (go_big_quiet_step (first | (go_at_call 56; with_reducible exact Calls.kept _ (Nat.le_refl _) (M0.out _)) | (go_at_call 24; with_reducible exact Calls.kept _ (Nat.le_refl _) (M1.out _)) | (go_at_call 38; with_reducible exact Calls.kept _ (Nat.le_refl _) (M2.out _)) | (go_at_call 57; with_reducible exact Calls.kept _ (Nat.le_refl _) (M3.out _))))
  refine wpQuiet_nil ?_
  intro s
  have H2 : Hid (Bag w s.w [(w.heap.size, [.int .i64 10, .slice ia im ic, .slice pa m c]), (w.heap.size + 1, cl4 ⟨0, 0, 0, 0⟩)]) := H0.out.call s.below
  obtain ⟨r0, r1, r2, r3⟩ := box4 (H2.out.box 1 rfl)
  have f0 := H2.out.frozen 1 rfl 0
  have f1 := H2.out.frozen 1 rfl 1
  have f2 := H2.out.frozen 1 rfl 2
  have f3 := H2.out.frozen 1 rfl 3
  refine ⟨steps_plain rfl (gives_mono (R := fun v w' => v = undef ∧ w' = (((s.w.setCell ⟨w.heap.size + 1, 0, none⟩ (.int .i64 R.x0)).setCell ⟨w.heap.size + 1, 1, none⟩ (.int .i64 R.y0)).setCell ⟨w.heap.size + 1, 2, none⟩ (.int .i64 R.x1)).setCell ⟨w.heap.size + 1, 3, none⟩ (.int .i64 R.y1)) (by simp [gives, go_sem, r0, r1, r2, r3, f0, f1, f2, f3]) ?_)⟩
  rintro _ _ ⟨rfl, rfl⟩
  clear k0 k1 k2 k3 k4 k5 k6
  go_wp2_with fail
  have H3 := H2.out.set4 1 rfl (.int .i64 R.x0) (.int .i64 R.y0) (.int .i64 R.x1) (.int .i64 R.y1)
  exact ret_rect (g := w.heap.size + 1) (r := R) rfl rfl (H3.box 1 rfl) rfl ⟨rfl, H3.below⟩
set_option maxRecDepth 4000 in
set_option maxHeartbeats 6400000 in
theorem reach3_c (iv pv lv : Value) (ins p : List Int) (rs : List Rc) (w : World) {F : Nat → Prop} (hF : ∀ b, F b → b < w.heap.size) (hp : SlOf RInt 1 F w pv p) (hiv : ∃ a n c, iv = .slice a n c) (hl : SlOf RRc 4 F w lv rs) (hok : RaOk ⟨3, ins, p⟩) (hlen : rs.length = ins.length) (hpl : ∀ r ∈ rs, RcP r) :
    Calls Tryd.prog 41 #[.agg #[.int .i64 3, iv, pv], lv] w (PPost w (rv (reachN ⟨3, ins, p⟩ rs))) := by
  obtain ⟨ia, im, ic, rfl⟩ := hiv
  obtain ⟨R, hR⟩ : ∃ R, R = reachN ⟨3, ins, p⟩ rs := ⟨_, rfl⟩
  rw [← hR]
  have hone : ins.length = 1 := hok.sin (by simp)
  obtain ⟨lb, lo, lc, rfl, hFl, hlcap, hlcm, hrc⟩ := rcl_first hl (by omega)
  obtain ⟨q, hq, e0', e1', e2', e3'⟩ := hrc 0 (by omega)
  simp only [Nat.zero_mul, Nat.add_zero] at e0' e1' e2' e3'
  have hz : rs.getD 0 Rc.zero = q := by simp [hq]
  have hqp : RcP q := hpl q (List.mem_of_getElem? hq)
  obtain ⟨x0, y0, x1, y1⟩ := q
  dsimp only at e0' e1' e2' e3'
  rw [hlen, hone] at hlcap ⊢
  have hll := hF lb hFl
  obtain ⟨pa, m, c, hpv⟩ : ∃ a n c, pv = .slice a n c := by obtain ⟨a, c, h, _⟩ := hp; exact ⟨a, _, c, h⟩
  have HRR : Hid (∀ W, Calls Tryd.prog 53 #[rv ⟨x0, y0, x1, y1⟩] W (PPost W (rv R))) := fun W => by
    have : R = someR ⟨x0, y0, x1, y1⟩ := by rw [hR, ← hz]; rfl
    rw [this]
    exact fsome_c _ W
  rw [hpv]
  have H0 : Hid (Bag w ((w.alloc (.cells #[.int .i64 3, .slice ia im ic, .slice pa m c] 48)).alloc (.cells (cs4 0 0 0 0) 25)) [(w.heap.size, [.int .i64 3, .slice ia im ic, .slice pa m c]), (w.heap.size + 1, cl4 ⟨0, 0, 0, 0⟩)]) := bag2 w [.int .i64 3, .slice ia im ic, .slice pa m c] (cl4 ⟨0, 0, 0, 0⟩) _ _
  unfold maxLen at hlcm
  clear hp hpv hF hl hok hpl hR hrc hz hqp hq hlen hone
  have e0 := cell_alloc_lt (cell_alloc_lt e0' (.cells #[.int .i64 3, .slice ia im ic, .slice pa m c] 48)) (.cells (cs4 0 0 0 0) 25)
  have e1 := cell_alloc_lt (cell_alloc_lt e1' (.cells #[.int .i64 3, .slice ia im ic, .slice pa m c] 48)) (.cells (cs4 0 0 0 0) 25)
  have e2 := cell_alloc_lt (cell_alloc_lt e2' (.cells #[.int .i64 3, .slice ia im ic, .slice pa m c] 48)) (.cells (cs4 0 0 0 0) 25)
  have e3 := cell_alloc_lt (cell_alloc_lt e3' (.cells #[.int .i64 3, .slice ia im ic, .slice pa m c] 48)) (.cells (cs4 0 0 0 0) 25)
  clear e0' e1' e2' e3'
  go_enter Tryd.func41, Tryd.ntmps41
  go_wp2_with fail
  generalize ((w.alloc (.cells #[.int .i64 3, .slice ia im ic, .slice pa m c] 48)).alloc (.cells (cs4 0 0 0 0) 25)) = W1 at *
  refine (HRR.out W1).mono ?_; rintro e W2 ⟨rfl, hb2⟩
  have H2 : Hid (Bag w W2 [(w.heap.size, [.int .i64 3, .slice ia im ic, .slice pa m c]), (w.heap.size + 1, cl4 ⟨0, 0, 0, 0⟩)]) := H0.out.call hb2
  clear e0 e1 e2 e3 hb2 H0
  obtain ⟨r0, r1, r2, r3⟩ := box4 (H2.out.box 1 rfl)
  have f0 := H2.out.frozen 1 rfl 0
  have f1 := H2.out.frozen 1 rfl 1
  have f2 := H2.out.frozen 1 rfl 2
  have f3 := H2.out.frozen 1 rfl 3
  go_wp2_with fail
  have H3 := H2.out.set4 1 rfl (.int .i64 R.x0) (.int .i64 R.y0) (.int .i64 R.x1) (.int .i64 R.y1)
  exact ret_rect (g := w.heap.size + 1) (r := R) rfl rfl (H3.box 1 rfl) rfl ⟨rfl, H3.below⟩
set_option maxRecDepth 4000 in
set_option maxHeartbeats 6400000 in
theorem reach5_c (iv pv lv : Value) (ins p : List Int) (rs : List Rc) (w : World) {F : Nat → Prop} (hF : ∀ b, F b → b < w.heap.size) (hp : SlOf RInt 1 F w pv p) (hiv : ∃ a n c, iv = .slice a n c) (hl : SlOf RRc 4 F w lv rs) (hok : RaOk ⟨5, ins, p⟩) (hlen : rs.length = ins.length) (hpl : ∀ r ∈ rs, RcP r) :
    Calls Tryd.prog 41 #[.agg #[.int .i64 5, iv, pv], lv] w (PPost w (rv (reachN ⟨5, ins, p⟩ rs))) := by
  obtain ⟨ia, im, ic, rfl⟩ := hiv
  obtain ⟨R, hR⟩ : ∃ R, R = reachN ⟨5, ins, p⟩ rs := ⟨_, rfl⟩
  rw [← hR]
  have hone : ins.length = 1 := hok.sin (by simp)
  obtain ⟨lb, lo, lc, rfl, hFl, hlcap, hlcm, hrc⟩ := rcl_first hl (by omega)
  obtain ⟨q, hq, e0', e1', e2', e3'⟩ := hrc 0 (by omega)
  simp only [Nat.zero_mul, Nat.add_zero] at e0' e1' e2' e3'
  have hz : rs.getD 0 Rc.zero = q := by simp [hq]
  have hqp : RcP q := hpl q (List.mem_of_getElem? hq)
  obtain ⟨x0, y0, x1, y1⟩ := q
  dsimp only at e0' e1' e2' e3'
  rw [hlen, hone] at hlcap ⊢
  have hll := hF lb hFl
  obtain ⟨hl20, hx20⟩ := hok.mt rfl
  dsimp only at hl20 hx20
  obtain ⟨b, o, c, hpv, hFb, hc, hcap, hcm⟩ := sl_cells hp (by omega)
  rw [hl20] at hpv
  obtain ⟨cb, hcb⟩ : ∃ x, x = calmB p := ⟨_, rfl⟩
  have HC : Hid (∀ W, Below w.heap.size w W → Calls Tryd.prog 54 #[.slice (some ⟨b, o, none⟩) 20 c] W (PPost W (.bool cb))) := fun W hb => by
    rw [hcb]
    have h := hp.same RInt.ok (Same.of_below hb hF)
    rw [hpv] at h
    exact calm_c _ p W h hl20 hx20
  have HRR : Hid (R = if cb = true then someR ⟨x0, y0, x1, y1⟩ else planeR) := by
    have : R = if cb = true then someR ⟨x0, y0, x1, y1⟩ else planeR := by rw [hR, ← hz, hcb]; rfl
    exact this
  rw [hpv]
  have H0 : Hid (Bag w ((w.alloc (.cells #[.int .i64 5, .slice ia im ic, .slice (some ⟨b, o, none⟩) 20 c] 48)).alloc (.cells (cs4 0 0 0 0) 25)) [(w.heap.size, [.int .i64 5, .slice ia im ic, .slice (some ⟨b, o, none⟩) 20 c]), (w.heap.size + 1, cl4 ⟨0, 0, 0, 0⟩)]) := bag2 w [.int .i64 5, .slice ia im ic, .slice (some ⟨b, o, none⟩) 20 c] (cl4 ⟨0, 0, 0, 0⟩) _ _
  unfold maxLen at hlcm hcm
  clear hp hpv hF hl hok hpl hR hrc hz hqp hq hlen hone hcb hc hl20 hx20
  have e0 := cell_alloc_lt (cell_alloc_lt e0' (.cells #[.int .i64 5, .slice ia im ic, .slice (some ⟨b, o, none⟩) 20 c] 48)) (.cells (cs4 0 0 0 0) 25)
  have e1 := cell_alloc_lt (cell_alloc_lt e1' (.cells #[.int .i64 5, .slice ia im ic, .slice (some ⟨b, o, none⟩) 20 c] 48)) (.cells (cs4 0 0 0 0) 25)
  have e2 := cell_alloc_lt (cell_alloc_lt e2' (.cells #[.int .i64 5, .slice ia im ic, .slice (some ⟨b, o, none⟩) 20 c] 48)) (.cells (cs4 0 0 0 0) 25)
  have e3 := cell_alloc_lt (cell_alloc_lt e3' (.cells #[.int .i64 5, .slice ia im ic, .slice (some ⟨b, o, none⟩) 20 c] 48)) (.cells (cs4 0 0 0 0) 25)
  clear e0' e1' e2' e3'
  cases cb with
  | true =>
    obtain rfl : R = someR ⟨x0, y0, x1, y1⟩ := HRR.out.trans (if_pos rfl)
    obtain ⟨R, hR⟩ : ∃ R, R = someR ⟨x0, y0, x1, y1⟩ := ⟨_, rfl⟩
    have HS : Hid (∀ W, Calls Tryd.prog 53 #[rv ⟨x0, y0, x1, y1⟩] W (PPost W (rv R))) := fun W => by rw [hR]; exact fsome_c _ W
    rw [← hR]
    clear HRR hR
    go_enter Tryd.func41, Tryd.ntmps41
    go_wp2_with fail
    generalize ((w.alloc (.cells #[.int .i64 5, .slice ia im ic, .slice (some ⟨b, o, none⟩) 20 c] 48)).alloc (.cells (cs4 0 0 0 0) 25)) = W1 at *
    refine (HC.out W1 H0.out.below).mono ?_; rintro e W3 ⟨rfl, hb3⟩
    have H1 : Hid (Bag w W3 [(w.heap.size, [.int .i64 5, .slice ia im ic, .slice (some ⟨b, o, none⟩) 20 c]), (w.heap.size + 1, cl4 ⟨0, 0, 0, 0⟩)]) := H0.out.call hb3
    have e0 := (hb3.cell (lt_of_cell e0)).trans e0
    have e1 := (hb3.cell (lt_of_cell e1)).trans e1
    have e2 := (hb3.cell (lt_of_cell e2)).trans e2
    have e3 := (hb3.cell (lt_of_cell e3)).trans e3
    clear hb3 H0 HC
    go_wp2_with fail
    refine (HS.out W3).mono ?_; rintro e W2 ⟨rfl, hb2⟩
    have H2 : Hid (Bag w W2 [(w.heap.size, [.int .i64 5, .slice ia im ic, .slice (some ⟨b, o, none⟩) 20 c]), (w.heap.size + 1, cl4 ⟨0, 0, 0, 0⟩)]) := H1.out.call hb2
    clear e0 e1 e2 e3 hb2 H1
    obtain ⟨r0, r1, r2, r3⟩ := box4 (H2.out.box 1 rfl)
    have f0 := H2.out.frozen 1 rfl 0
    have f1 := H2.out.frozen 1 rfl 1
    have f2 := H2.out.frozen 1 rfl 2
    have f3 := H2.out.frozen 1 rfl 3
    go_wp2_with fail
    have H3 := H2.out.set4 1 rfl (.int .i64 R.x0) (.int .i64 R.y0) (.int .i64 R.x1) (.int .i64 R.y1)
    exact ret_rect (g := w.heap.size + 1) (r := R) rfl rfl (H3.box 1 rfl) rfl ⟨rfl, H3.below⟩
  | false =>
    obtain rfl : R = planeR := HRR.out.trans (if_neg (by decide))
    clear HRR
    go_enter Tryd.func41, Tryd.ntmps41
    go_wp2_with fail
    generalize ((w.alloc (.cells #[.int .i64 5, .slice ia im ic, .slice (some ⟨b, o, none⟩) 20 c] 48)).alloc (.cells (cs4 0 0 0 0) 25)) = W1 at *
    refine (HC.out W1 H0.out.below).mono ?_; rintro e W3 ⟨rfl, hb3⟩
    have H1 : Hid (Bag w W3 [(w.heap.size, [.int .i64 5, .slice ia im ic, .slice (some ⟨b, o, none⟩) 20 c]), (w.heap.size + 1, cl4 ⟨0, 0, 0, 0⟩)]) := H0.out.call hb3
    clear hb3 H0 HC e0 e1 e2 e3
    go_wp2_with fail
    refine (planeAll_c W3).mono ?_; rintro e W2 ⟨rfl, hb2⟩
    have H2 : Hid (Bag w W2 [(w.heap.size, [.int .i64 5, .slice ia im ic, .slice (some ⟨b, o, none⟩) 20 c]), (w.heap.size + 1, cl4 ⟨0, 0, 0, 0⟩)]) := H1.out.call hb2
    clear hb2 H1
    obtain ⟨r0, r1, r2, r3⟩ := box4 (H2.out.box 1 rfl)
    have f0 := H2.out.frozen 1 rfl 0
    have f1 := H2.out.frozen 1 rfl 1
    have f2 := H2.out.frozen 1 rfl 2
    have f3 := H2.out.frozen 1 rfl 3
    go_wp2_with fail
    have H3 := H2.out.set4 1 rfl (.int .i64 planeR.x0) (.int .i64 planeR.y0) (.int .i64 planeR.x1) (.int .i64 planeR.y1)
    exact ret_rect (g := w.heap.size + 1) (r := planeR) rfl rfl (H3.box 1 rfl) rfl ⟨rfl, H3.below⟩
set_option maxRecDepth 4000 in
set_option maxHeartbeats 6400000 in
theorem reach6_c (iv pv lv : Value) (ins p : List Int) (rs : List Rc) (w : World) {F : Nat → Prop} (hF : ∀ b, F b → b < w.heap.size) (hp : SlOf RInt 1 F w pv p) (hiv : ∃ a n c, iv = .slice a n c) (hl : SlOf RRc 4 F w lv rs) (hok : RaOk ⟨6, ins, p⟩) (hlen : rs.length = ins.length) (hpl : ∀ r ∈ rs, RcP r) :
    Calls Tryd.prog 41 #[.agg #[.int .i64 6, iv, pv], lv] w (PPost w (rv (reachN ⟨6, ins, p⟩ rs))) := by
  obtain ⟨ia, im, ic, rfl⟩ := hiv
  obtain ⟨R, hR⟩ : ∃ R, R = reachN ⟨6, ins, p⟩ rs := ⟨_, rfl⟩
  rw [← hR]
  have HFL : Hid (∀ W, Below w.heap.size w W → Calls Tryd.prog 55 #[.agg #[.int .i64 6, .slice ia im ic, pv]] W (PPost W (rv R))) := fun W hb => by
    have : R = if floodB ⟨6, ins, p⟩ = true then Rc.zero else someR (pbox (p.drop 4)) := by rw [hR]; rfl
    rw [this]
    exact flooded_c _ pv ins p W (fun b h => Nat.lt_of_lt_of_le (hF b h) hb.size) (hp.same RInt.ok (Same.of_below hb hF)) ⟨_, _, _, rfl⟩ hok
  obtain ⟨pa, m, c, hpv⟩ : ∃ a n c, pv = .slice a n c := by obtain ⟨a, c, h, _⟩ := hp; exact ⟨a, _, c, h⟩
  rw [hpv] at HFL ⊢
  have H0 : Hid (Bag w ((w.alloc (.cells #[.int .i64 6, .slice ia im ic, .slice pa m c] 48)).alloc (.cells (cs4 0 0 0 0) 25)) [(w.heap.size, [.int .i64 6, .slice ia im ic, .slice pa m c]), (w.heap.size + 1, cl4 ⟨0, 0, 0, 0⟩)]) := bag2 w [.int .i64 6, .slice ia im ic, .slice pa m c] (cl4 ⟨0, 0, 0, 0⟩) _ _
  obtain ⟨la, ln, lc, hlv⟩ : ∃ a n c, lv = .slice a n c := by obtain ⟨a, c, h, _⟩ := hl; exact ⟨a, _, c, h⟩
  rw [hlv]
  clear hp hpv hlv hF hl hok hpl hR hlen
  go_enter Tryd.func41, Tryd.ntmps41
  go_wp2_with fail
  generalize ((w.alloc (.cells #[.int .i64 6, .slice ia im ic, .slice pa m c] 48)).alloc (.cells (cs4 0 0 0 0) 25)) = W1 at *
  refine (HFL.out W1 H0.out.below).mono ?_; rintro e W2 ⟨rfl, hb2⟩
  have H2 : Hid (Bag w W2 [(w.heap.size, [.int .i64 6, .slice ia im ic, .slice pa m c]), (w.heap.size + 1, cl4 ⟨0, 0, 0, 0⟩)]) := H0.out.call hb2
  clear hb2 H0 HFL
  obtain ⟨r0, r1, r2, r3⟩ := box4 (H2.out.box 1 rfl)
  have f0 := H2.out.frozen 1 rfl 0
  have f1 := H2.out.frozen 1 rfl 1
  have f2 := H2.out.frozen 1 rfl 2
  have f3 := H2.out.frozen 1 rfl 3
  go_wp2_with fail
  have H3 := H2.out.set4 1 rfl (.int .i64 R.x0) (.int .i64 R.y0) (.int .i64 R.x1) (.int .i64 R.y1)
  exact ret_rect (g := w.heap.size + 1) (r := R) rfl rfl (H3.box 1 rfl) rfl ⟨rfl, H3.below⟩
set_option maxRecDepth 4000 in
set_option maxHeartbeats 6400000 in
theorem reach7_c (iv pv lv : Value) (ins p : List Int) (rs : List Rc) (w : World) {F : Nat → Prop} (hF : ∀ b, F b → b < w.heap.size) (hp : SlOf RInt 1 F w pv p) (hiv : ∃ a n c, iv = .slice a n c) (hl : SlOf RRc 4 F w lv rs) (hok : RaOk ⟨7, ins, p⟩) (hlen : rs.length = ins.length) (hpl : ∀ r ∈ rs, RcP r) :
    Calls Tryd.prog 41 #[.agg #[.int .i64 7, iv, pv], lv] w (PPost w (rv (reachN ⟨7, ins, p⟩ rs))) := by
  obtain ⟨ia, im, ic, rfl⟩ := hiv
  obtain ⟨R, hR⟩ : ∃ R, R = reachN ⟨7, ins, p⟩ rs := ⟨_, rfl⟩
  rw [← hR]
  obtain ⟨pa, m, c, hpv⟩ : ∃ a n c, pv = .slice a n c := by obtain ⟨a, c, h, _⟩ := hp; exact ⟨a, _, c, h⟩
  rw [hpv]
  obtain ⟨la, lc, hlv, hlcap, hlcm, hlr⟩ := hl
  subst hlv
  have HRR : Hid (R = rs.foldl joinR Rc.zero) := by
    have : R = rs.foldl joinR Rc.zero := by rw [hR]; rfl
    exact this
  have HL : Hid (∀ W, Below w.heap.size w W → ∀ i, i < rs.length → ∃ lb lo q, la = some ⟨lb, lo, none⟩ ∧ rs[i]? = some q ∧ W.cell? ⟨lb, lo + i * 4, none⟩ = some (.int .i64 q.x0) ∧ W.cell? ⟨lb, lo + i * 4 + 1, none⟩ = some (.int .i64 q.y0) ∧ W.cell? ⟨lb, lo + i * 4 + 2, none⟩ = some (.int .i64 q.x1) ∧ W.cell? ⟨lb, lo + i * 4 + 3, none⟩ = some (.int .i64 q.y1)) := fun W hb i hi => by
    obtain ⟨lb, lo, lc', hv, hFl, _, _, hrc⟩ := rcl_first ⟨la, lc, rfl, hlcap, hlcm, hlr⟩ (Nat.lt_of_le_of_lt (Nat.zero_le _) hi)
    simp only [Value.slice.injEq] at hv
    obtain ⟨q, hq, e0, e1, e2, e3⟩ := hrc i hi
    refine ⟨lb, lo, q, hv.1, hq, ?_, ?_, ?_, ?_⟩
    · rw [hb.cell (lt_of_cell e0)]; exact e0
    · rw [hb.cell (lt_of_cell e1)]; exact e1
    · rw [hb.cell (lt_of_cell e2)]; exact e2
    · rw [hb.cell (lt_of_cell e3)]; exact e3
  have H0 : Hid (Bag w (((w.alloc (.cells #[.int .i64 7, .slice ia im ic, .slice pa m c] 48)).alloc (.cells (cs4 0 0 0 0) 25)).alloc (.cells (cs4 0 0 0 0) 25)) [(w.heap.size, [.int .i64 7, .slice ia im ic, .slice pa m c]), (w.heap.size + 1, cl4 ⟨0, 0, 0, 0⟩), (w.heap.size + 1 + 1, cl4 ((rs.take 0).foldl joinR Rc.zero))]) := bag3 w [.int .i64 7, .slice ia im ic, .slice pa m c] (cl4 ⟨0, 0, 0, 0⟩) (cl4 Rc.zero) _ _ _
  unfold maxLen at hlcm
  obtain ⟨n, hn⟩ : ∃ n, n = rs.length := ⟨_, rfl⟩
  have HN : Hid (n = rs.length) := Lib.hid hn
  rw [← hn] at hlcap ⊢
  clear hp hpv hF hok hpl hR hlr hn hlen
  go_enter Tryd.func41, Tryd.ntmps41
  go_wp2_with fail
  generalize (((w.alloc (.cells #[.int .i64 7, .slice ia im ic, .slice pa m c] 48)).alloc (.cells (cs4 0 0 0 0) 25)).alloc (.cells (cs4 0 0 0 0) 25)) = W0 at *
  go_loopw [127] (fun jv wr => ∃ j : Nat, j ≤ n ∧ jv = .int .i64 j ∧ Bag w wr [(w.heap.size, [.int .i64 7, .slice ia im ic, .slice pa m c]), (w.heap.size + 1, cl4 ⟨0, 0, 0, 0⟩), (w.heap.size + 1 + 1, cl4 ((rs.take j).foldl joinR Rc.zero))]) (fun jv _ => n - (intOf jv).toNat)
  case atStart => exact ⟨0, by omega, rfl, H0.out⟩
  case round =>
    obtain ⟨j, hj, rfl, hr⟩ := hrel
    have H1 : Hid (Bag w wr [(w.heap.size, [.int .i64 7, .slice ia im ic, .slice pa m c]), (w.heap.size + 1, cl4 ⟨0, 0, 0, 0⟩), (w.heap.size + 1 + 1, cl4 ((rs.take j).foldl joinR Rc.zero))]) := Lib.hid hr
    clear hr H0
    by_cases hjl : j < n
    · obtain ⟨lb, lo, q, hla, hq, e0, e1, e2, e3⟩ := HL.out wr H1.out.below j (by rw [← HN.out]; exact hjl)
      subst hla
      obtain ⟨a, ha⟩ : ∃ a, a = (rs.take j).foldl joinR Rc.zero := ⟨_, rfl⟩
      obtain ⟨z, hz⟩ : ∃ z, z = joinR a q := ⟨_, rfl⟩
      have HZ : Hid ((rs.take (j + 1)).foldl joinR Rc.zero = z) := by
        have : (rs.take (j + 1)).foldl joinR Rc.zero = z := by
          rw [hz, ha, List.take_add_one, hq]
          simp
        exact this
      have HJ : Hid (∀ W, Calls Tryd.prog 21 #[rv a, rv q] W (PPost W (rv z))) := fun W => by rw [hz]; exact join_c a q W
      have H2 : Hid (Bag w (wr.alloc (.cells #[.int .i64 q.x0, .int .i64 q.y0, .int .i64 q.x1, .int .i64 q.y1] 25)) [(w.heap.size, [.int .i64 7, .slice ia im ic, .slice pa m c]), (w.heap.size + 1, cl4 ⟨0, 0, 0, 0⟩), (w.heap.size + 1 + 1, cl4 a)]) := by
        rw [ha]
        exact H1.out.allocO _
      have a0 := H2.out.cell 2 rfl 0 rfl
      have a1 := H2.out.cell 2 rfl 1 rfl
      have a2 := H2.out.cell 2 rfl 2 rfl
      have a3 := H2.out.cell 2 rfl 3 rfl
      have hj0 : (0 : Int) ≤ (j : Int) := by omega
      have hj1 : (j : Int) < (n : Int) := by omega
      clear hq ha hz H1
      go_wp2_with fail
      refine (HJ.out _).mono ?_; rintro e W3 ⟨rfl, hb3⟩
      have H3 : Hid (Bag w W3 [(w.heap.size, [.int .i64 7, .slice ia im ic, .slice pa m c]), (w.heap.size + 1, cl4 ⟨0, 0, 0, 0⟩), (w.heap.size + 1 + 1, cl4 a)]) := H2.out.call hb3
      clear a0 a1 a2 a3 e0 e1 e2 e3 hb3 H2
      have a0 := H3.out.cell 2 rfl 0 rfl
      have a1 := H3.out.cell 2 rfl 1 rfl
      have a2 := H3.out.cell 2 rfl 2 rfl
      have a3 := H3.out.cell 2 rfl 3 rfl
      have f0 := H3.out.frozen 2 rfl 0
      have f1 := H3.out.frozen 2 rfl 1
      have f2 := H3.out.frozen 2 rfl 2
      have f3 := H3.out.frozen 2 rfl 3
      have H4 : Hid (Bag w ((((W3.setCell ⟨w.heap.size + 1 + 1, 0, none⟩ (.int .i64 z.x0)).setCell ⟨w.heap.size + 1 + 1, 1, none⟩ (.int .i64 z.y0)).setCell ⟨w.heap.size + 1 + 1, 2, none⟩ (.int .i64 z.x1)).setCell ⟨w.heap.size + 1 + 1, 3, none⟩ (.int .i64 z.y1)) [(w.heap.size, [.int .i64 7, .slice ia im ic, .slice pa m c]), (w.heap.size + 1, cl4 ⟨0, 0, 0, 0⟩), (w.heap.size + 1 + 1, cl4 ((rs.take (j + 1)).foldl joinR Rc.zero))]) := by
        rw [HZ.out]
        exact H3.out.set4 2 rfl _ _ _ _
      clear H3 HZ HJ
      go_wp2_with fail
      go_roundw
      case rel => exact ⟨j + 1, by omega, by go_num, H4.out⟩
      case measure => simp [intOf]; omega
    · have ej : j = n := by omega
      subst ej
      have H2 : Hid (Bag w wr [(w.heap.size, [.int .i64 7, .slice ia im ic, .slice pa m c]), (w.heap.size + 1, cl4 ⟨0, 0, 0, 0⟩), (w.heap.size + 1 + 1, cl4 R)]) := by
        have h := H1.out
        rw [HN.out, List.take_length, ← HRR.out] at h
        exact h
      have a0 := H2.out.cell 2 rfl 0 rfl
      have a1 := H2.out.cell 2 rfl 1 rfl
      have a2 := H2.out.cell 2 rfl 2 rfl
      have a3 := H2.out.cell 2 rfl 3 rfl
      obtain ⟨r0, r1, r2, r3⟩ := box4 (H2.out.box 1 rfl)
      have f0 := H2.out.frozen 1 rfl 0
      have f1 := H2.out.frozen 1 rfl 1
      have f2 := H2.out.frozen 1 rfl 2
      have f3 := H2.out.frozen 1 rfl 3
      go_wp2_with fail
      have H3 := H2.out.set4 1 rfl (.int .i64 R.x0) (.int .i64 R.y0) (.int .i64 R.x1) (.int .i64 R.y1)
      exact ret_rect (g := w.heap.size + 1) (r := R) rfl rfl (H3.box 1 rfl) rfl ⟨rfl, H3.below⟩
set_option maxRecDepth 4000 in
set_option maxHeartbeats 6400000 in
theorem reach8_c (iv pv lv : Value) (ins p : List Int) (rs : List Rc) (w : World) {F : Nat → Prop} (hF : ∀ b, F b → b < w.heap.size) (hp : SlOf RInt 1 F w pv p) (hiv : ∃ a n c, iv = .slice a n c) (hl : SlOf RRc 4 F w lv rs) (hok : RaOk ⟨8, ins, p⟩) (hlen : rs.length = ins.length) (hpl : ∀ r ∈ rs, RcP r) :
    Calls Tryd.prog 41 #[.agg #[.int .i64 8, iv, pv], lv] w (PPost w (rv (reachN ⟨8, ins, p⟩ rs))) := by
  obtain ⟨ia, im, ic, rfl⟩ := hiv
  obtain ⟨R, hR⟩ : ∃ R, R = reachN ⟨8, ins, p⟩ rs := ⟨_, rfl⟩
  rw [← hR]
  obtain ⟨pa, m, c, hpv⟩ : ∃ a n c, pv = .slice a n c := by obtain ⟨a, c, h, _⟩ := hp; exact ⟨a, _, c, h⟩
  rw [hpv]
  obtain ⟨la, lc, hlv, hlcap, hlcm, hlr⟩ := hl
  subst hlv
  have HRR : Hid (R = rs.foldl joinR Rc.zero) := by
    have : R = rs.foldl joinR Rc.zero := by rw [hR]; rfl
    exact this
  have HL : Hid (∀ W, Below w.heap.size w W → ∀ i, i < rs.length → ∃ lb lo q, la = some ⟨lb, lo, none⟩ ∧ rs[i]? = some q ∧ W.cell? ⟨lb, lo + i * 4, none⟩ = some (.int .i64 q.x0) ∧ W.cell? ⟨lb, lo + i * 4 + 1, none⟩ = some (.int .i64 q.y0) ∧ W.cell? ⟨lb, lo + i * 4 + 2, none⟩ = some (.int .i64 q.x1) ∧ W.cell? ⟨lb, lo + i * 4 + 3, none⟩ = some (.int .i64 q.y1)) := fun W hb i hi => by
    obtain ⟨lb, lo, lc', hv, hFl, _, _, hrc⟩ := rcl_first ⟨la, lc, rfl, hlcap, hlcm, hlr⟩ (Nat.lt_of_le_of_lt (Nat.zero_le _) hi)
    simp only [Value.slice.injEq] at hv
    obtain ⟨q, hq, e0, e1, e2, e3⟩ := hrc i hi
    refine ⟨lb, lo, q, hv.1, hq, ?_, ?_, ?_, ?_⟩
    · rw [hb.cell (lt_of_cell e0)]; exact e0
    · rw [hb.cell (lt_of_cell e1)]; exact e1
    · rw [hb.cell (lt_of_cell e2)]; exact e2
    · rw [hb.cell (lt_of_cell e3)]; exact e3
  have H0 : Hid (Bag w (((w.alloc (.cells #[.int .i64 8, .slice ia im ic, .slice pa m c] 48)).alloc (.cells (cs4 0 0 0 0) 25)).alloc (.cells (cs4 0 0 0 0) 25)) [(w.heap.size, [.int .i64 8, .slice ia im ic, .slice pa m c]), (w.heap.size + 1, cl4 ⟨0, 0, 0, 0⟩), (w.heap.size + 1 + 1, cl4 ((rs.take 0).foldl joinR Rc.zero))]) := bag3 w [.int .i64 8, .slice ia im ic, .slice pa m c] (cl4 ⟨0, 0, 0, 0⟩) (cl4 Rc.zero) _ _ _
  unfold maxLen at hlcm
  obtain ⟨n, hn⟩ : ∃ n, n = rs.length := ⟨_, rfl⟩
  have HN : Hid (n = rs.length) := Lib.hid hn
  rw [← hn] at hlcap ⊢
  clear hp hpv hF hok hpl hR hlr hn hlen
  go_enter Tryd.func41, Tryd.ntmps41
  go_wp2_with fail
  generalize (((w.alloc (.cells #[.int .i64 8, .slice ia im ic, .slice pa m c] 48)).alloc (.cells (cs4 0 0 0 0) 25)).alloc (.cells (cs4 0 0 0 0) 25)) = W0 at *
  go_loopw [127] (fun jv wr => ∃ j : Nat, j ≤ n ∧ jv = .int .i64 j ∧ Bag w wr [(w.heap.size, [.int .i64 8, .slice ia im ic, .slice pa m c]), (w.heap.size + 1, cl4 ⟨0, 0, 0, 0⟩), (w.heap.size + 1 + 1, cl4 ((rs.take j).foldl joinR Rc.zero))]) (fun jv _ => n - (intOf jv).toNat)
  case atStart => exact ⟨0, by omega, rfl, H0.out⟩
  case round =>
    obtain ⟨j, hj, rfl, hr⟩ := hrel
    have H1 : Hid (Bag w wr [(w.heap.size, [.int .i64 8, .slice ia im ic, .slice pa m c]), (w.heap.size + 1, cl4 ⟨0, 0, 0, 0⟩), (w.heap.size + 1 + 1, cl4 ((rs.take j).foldl joinR Rc.zero))]) := Lib.hid hr
    clear hr H0
    by_cases hjl : j < n
    · obtain ⟨lb, lo, q, hla, hq, e0, e1, e2, e3⟩ := HL.out wr H1.out.below j (by rw [← HN.out]; exact hjl)
      subst hla
      obtain ⟨a, ha⟩ : ∃ a, a = (rs.take j).foldl joinR Rc.zero := ⟨_, rfl⟩
      obtain ⟨z, hz⟩ : ∃ z, z = joinR a q := ⟨_, rfl⟩
      have HZ : Hid ((rs.take (j + 1)).foldl joinR Rc.zero = z) := by
        have : (rs.take (j + 1)).foldl joinR Rc.zero = z := by
          rw [hz, ha, List.take_add_one, hq]
          simp
        exact this
      have HJ : Hid (∀ W, Calls Tryd.prog 21 #[rv a, rv q] W (PPost W (rv z))) := fun W => by rw [hz]; exact join_c a q W
      have H2 : Hid (Bag w (wr.alloc (.cells #[.int .i64 q.x0, .int .i64 q.y0, .int .i64 q.x1, .int .i64 q.y1] 25)) [(w.heap.size, [.int .i64 8, .slice ia im ic, .slice pa m c]), (w.heap.size + 1, cl4 ⟨0, 0, 0, 0⟩), (w.heap.size + 1 + 1, cl4 a)]) := by
        rw [ha]
        exact H1.out.allocO _
      have a0 := H2.out.cell 2 rfl 0 rfl
      have a1 := H2.out.cell 2 rfl 1 rfl
      have a2 := H2.out.cell 2 rfl 2 rfl
      have a3 := H2.out.cell 2 rfl 3 rfl
      have hj0 : (0 : Int) ≤ (j : Int) := by omega
      have hj1 : (j : Int) < (n : Int) := by omega
      clear hq ha hz H1
      go_wp2_with fail
      refine (HJ.out _).mono ?_; rintro e W3 ⟨rfl, hb3⟩
      have H3 : Hid (Bag w W3 [(w.heap.size, [.int .i64 8, .slice ia im ic, .slice pa m c]), (w.heap.size + 1, cl4 ⟨0, 0, 0, 0⟩), (w.heap.size + 1 + 1, cl4 a)]) := H2.out.call hb3
      clear a0 a1 a2 a3 e0 e1 e2 e3 hb3 H2
      have a0 := H3.out.cell 2 rfl 0 rfl
      have a1 := H3.out.cell 2 rfl 1 rfl
      have a2 := H3.out.cell 2 rfl 2 rfl
      have a3 := H3.out.cell 2 rfl 3 rfl
      have f0 := H3.out.frozen 2 rfl 0
      have f1 := H3.out.frozen 2 rfl 1
      have f2 := H3.out.frozen 2 rfl 2
      have f3 := H3.out.frozen 2 rfl 3
      have H4 : Hid (Bag w ((((W3.setCell ⟨w.heap.size + 1 + 1, 0, none⟩ (.int .i64 z.x0)).setCell ⟨w.heap.size + 1 + 1, 1, none⟩ (.int .i64 z.y0)).setCell ⟨w.heap.size + 1 + 1, 2, none⟩ (.int .i64 z.x1)).setCell ⟨w.heap.size + 1 + 1, 3, none⟩ (.int .i64 z.y1)) [(w.heap.size, [.int .i64 8, .slice ia im ic, .slice pa m c]), (w.heap.size + 1, cl4 ⟨0, 0, 0, 0⟩), (w.heap.size + 1 + 1, cl4 ((rs.take (j + 1)).foldl joinR Rc.zero))]) := by
        rw [HZ.out]
        exact H3.out.set4 2 rfl _ _ _ _
      clear H3 HZ HJ
      go_wp2_with fail
      go_roundw
      case rel => exact ⟨j + 1, by omega, by go_num, H4.out⟩
      case measure => simp [intOf]; omega
    · have ej : j = n := by omega
      subst ej
      have H2 : Hid (Bag w wr [(w.heap.size, [.int .i64 8, .slice ia im ic, .slice pa m c]), (w.heap.size + 1, cl4 ⟨0, 0, 0, 0⟩), (w.heap.size + 1 + 1, cl4 R)]) := by
        have h := H1.out
        rw [HN.out, List.take_length, ← HRR.out] at h
        exact h
      have a0 := H2.out.cell 2 rfl 0 rfl
      have a1 := H2.out.cell 2 rfl 1 rfl
      have a2 := H2.out.cell 2 rfl 2 rfl
      have a3 := H2.out.cell 2 rfl 3 rfl
      obtain ⟨r0, r1, r2, r3⟩ := box4 (H2.out.box 1 rfl)
      have f0 := H2.out.frozen 1 rfl 0
      have f1 := H2.out.frozen 1 rfl 1
      have f2 := H2.out.frozen 1 rfl 2
      have f3 := H2.out.frozen 1 rfl 3
      go_wp2_with fail
      have H3 := H2.out.set4 1 rfl (.int .i64 R.x0) (.int .i64 R.y0) (.int .i64 R.x1) (.int .i64 R.y1)
      exact ret_rect (g := w.heap.size + 1) (r := R) rfl rfl (H3.box 1 rfl) rfl ⟨rfl, H3.below⟩
set_option maxRecDepth 4000 in
set_option maxHeartbeats 6400000 in
theorem reach9_c (iv pv lv : Value) (ins p : List Int) (rs : List Rc) (w : World) {F : Nat → Prop} (hF : ∀ b, F b → b < w.heap.size) (hp : SlOf RInt 1 F w pv p) (hiv : ∃ a n c, iv = .slice a n c) (hl : SlOf RRc 4 F w lv rs) (hok : RaOk ⟨9, ins, p⟩) (hlen : rs.length = ins.length) (hpl : ∀ r ∈ rs, RcP r) :
    Calls Tryd.prog 41 #[.agg #[.int .i64 9, iv, pv], lv] w (PPost w (rv (reachN ⟨9, ins, p⟩ rs))) := by
  obtain ⟨ia, im, ic, rfl⟩ := hiv
  obtain ⟨R, hR⟩ : ∃ R, R = reachN ⟨9, ins, p⟩ rs := ⟨_, rfl⟩
  rw [← hR]
  obtain ⟨pa, m, c, hpv⟩ : ∃ a n c, pv = .slice a n c := by obtain ⟨a, c, h, _⟩ := hp; exact ⟨a, _, c, h⟩
  rw [hpv]
  obtain ⟨la, lc, hlv, hlcap, hlcm, hlr⟩ := hl
  subst hlv
  have HRR : Hid (R = rs.foldl joinR Rc.zero) := by
    have : R = rs.foldl joinR Rc.zero := by rw [hR]; rfl
    exact this
  have HL : Hid (∀ W, Below w.heap.size w W → ∀ i, i < rs.length → ∃ lb lo q, la = some ⟨lb, lo, none⟩ ∧ rs[i]? = some q ∧ W.cell? ⟨lb, lo + i * 4, none⟩ = some (.int .i64 q.x0) ∧ W.cell? ⟨lb, lo + i * 4 + 1, none⟩ = some (.int .i64 q.y0) ∧ W.cell? ⟨lb, lo + i * 4 + 2, none⟩ = some (.int .i64 q.x1) ∧ W.cell? ⟨lb, lo + i * 4 + 3, none⟩ = some (.int .i64 q.y1)) := fun W hb i hi => by
    obtain ⟨lb, lo, lc', hv, hFl, _, _, hrc⟩ := rcl_first ⟨la, lc, rfl, hlcap, hlcm, hlr⟩ (Nat.lt_of_le_of_lt (Nat.zero_le _) hi)
    simp only [Value.slice.injEq] at hv
    obtain ⟨q, hq, e0, e1, e2, e3⟩ := hrc i hi
    refine ⟨lb, lo, q, hv.1, hq, ?_, ?_, ?_, ?_⟩
    · rw [hb.cell (lt_of_cell e0)]; exact e0
    · rw [hb.cell (lt_of_cell e1)]; exact e1
    · rw [hb.cell (lt_of_cell e2)]; exact e2
    · rw [hb.cell (lt_of_cell e3)]; exact e3
  have H0 : Hid (Bag w (((w.alloc (.cells #[.int .i64 9, .slice ia im ic, .slice pa m c] 48)).alloc (.cells (cs4 0 0 0 0) 25)).alloc (.cells (cs4 0 0 0 0) 25)) [(w.heap.size, [.int .i64 9, .slice ia im ic, .slice pa m c]), (w.heap.size + 1, cl4 ⟨0, 0, 0, 0⟩), (w.heap.size + 1 + 1, cl4 ((rs.take 0).foldl joinR Rc.zero))]) := bag3 w [.int .i64 9, .slice ia im ic, .slice pa m c] (cl4 ⟨0, 0, 0, 0⟩) (cl4 Rc.zero) _ _ _
  unfold maxLen at hlcm
  obtain ⟨n, hn⟩ : ∃ n, n = rs.length := ⟨_, rfl⟩
  have HN : Hid (n = rs.length) := Lib.hid hn
  rw [← hn] at hlcap ⊢
  clear hp hpv hF hok hpl hR hlr hn hlen
  go_enter Tryd.func41, Tryd.ntmps41
  go_wp2_with fail
  generalize (((w.alloc (.cells #[.int .i64 9, .slice ia im ic, .slice pa m c] 48)).alloc (.cells (cs4 0 0 0 0) 25)).alloc (.cells (cs4 0 0 0 0) 25)) = W0 at *
  go_loopw [127] (fun jv wr => ∃ j : Nat, j ≤ n ∧ jv = .int .i64 j ∧ Bag w wr [(w.heap.size, [.int .i64 9, .slice ia im ic, .slice pa m c]), (w.heap.size + 1, cl4 ⟨0, 0, 0, 0⟩), (w.heap.size + 1 + 1, cl4 ((rs.take j).foldl joinR Rc.zero))]) (fun jv _ => n - (intOf jv).toNat)
  case atStart => exact ⟨0, by omega, rfl, H0.out⟩
  case round =>
    obtain ⟨j, hj, rfl, hr⟩ := hrel
    have H1 : Hid (Bag w wr [(w.heap.size, [.int .i64 9, .slice ia im ic, .slice pa m c]), (w.heap.size + 1, cl4 ⟨0, 0, 0, 0⟩), (w.heap.size + 1 + 1, cl4 ((rs.take j).foldl joinR Rc.zero))]) := Lib.hid hr
    clear hr H0
    by_cases hjl : j < n
    · obtain ⟨lb, lo, q, hla, hq, e0, e1, e2, e3⟩ := HL.out wr H1.out.below j (by rw [← HN.out]; exact hjl)
      subst hla
      obtain ⟨a, ha⟩ : ∃ a, a = (rs.take j).foldl joinR Rc.zero := ⟨_, rfl⟩
      obtain ⟨z, hz⟩ : ∃ z, z = joinR a q := ⟨_, rfl⟩
      have HZ : Hid ((rs.take (j + 1)).foldl joinR Rc.zero = z) := by
        have : (rs.take (j + 1)).foldl joinR Rc.zero = z := by
          rw [hz, ha, List.take_add_one, hq]
          simp
        exact this
      have HJ : Hid (∀ W, Calls Tryd.prog 21 #[rv a, rv q] W (PPost W (rv z))) := fun W => by rw [hz]; exact join_c a q W
      have H2 : Hid (Bag w (wr.alloc (.cells #[.int .i64 q.x0, .int .i64 q.y0, .int .i64 q.x1, .int .i64 q.y1] 25)) [(w.heap.size, [.int .i64 9, .slice ia im ic, .slice pa m c]), (w.heap.size + 1, cl4 ⟨0, 0, 0, 0⟩), (w.heap.size + 1 + 1, cl4 a)]) := by
        rw [ha]
        exact H1.out.allocO _
      have a0 := H2.out.cell 2 rfl 0 rfl
      have a1 := H2.out.cell 2 rfl 1 rfl
      have a2 := H2.out.cell 2 rfl 2 rfl
      have a3 := H2.out.cell 2 rfl 3 rfl
      have hj0 : (0 : Int) ≤ (j : Int) := by omega
      have hj1 : (j : Int) < (n : Int) := by omega
      clear hq ha hz H1
      go_wp2_with fail
      refine (HJ.out _).mono ?_; rintro e W3 ⟨rfl, hb3⟩
      have H3 : Hid (Bag w W3 [(w.heap.size, [.int .i64 9, .slice ia im ic, .slice pa m c]), (w.heap.size + 1, cl4 ⟨0, 0, 0, 0⟩), (w.heap.size + 1 + 1, cl4 a)]) := H2.out.call hb3
      clear a0 a1 a2 a3 e0 e1 e2 e3 hb3 H2
      have a0 := H3.out.cell 2 rfl 0 rfl
      have a1 := H3.out.cell 2 rfl 1 rfl
      have a2 := H3.out.cell 2 rfl 2 rfl
      have a3 := H3.out.cell 2 rfl 3 rfl
      have f0 := H3.out.frozen 2 rfl 0
      have f1 := H3.out.frozen 2 rfl 1
      have f2 := H3.out.frozen 2 rfl 2
      have f3 := H3.out.frozen 2 rfl 3
      have H4 : Hid (Bag w ((((W3.setCell ⟨w.heap.size + 1 + 1, 0, none⟩ (.int .i64 z.x0)).setCell ⟨w.heap.size + 1 + 1, 1, none⟩ (.int .i64 z.y0)).setCell ⟨w.heap.size + 1 + 1, 2, none⟩ (.int .i64 z.x1)).setCell ⟨w.heap.size + 1 + 1, 3, none⟩ (.int .i64 z.y1)) [(w.heap.size, [.int .i64 9, .slice ia im ic, .slice pa m c]), (w.heap.size + 1, cl4 ⟨0, 0, 0, 0⟩), (w.heap.size + 1 + 1, cl4 ((rs.take (j + 1)).foldl joinR Rc.zero))]) := by
        rw [HZ.out]
        exact H3.out.set4 2 rfl _ _ _ _
      clear H3 HZ HJ
      go_wp2_with fail
      go_roundw
      case rel => exact ⟨j + 1, by omega, by go_num, H4.out⟩
      case measure => simp [intOf]; omega
    · have ej : j = n := by omega
      subst ej
      have H2 : Hid (Bag w wr [(w.heap.size, [.int .i64 9, .slice ia im ic, .slice pa m c]), (w.heap.size + 1, cl4 ⟨0, 0, 0, 0⟩), (w.heap.size + 1 + 1, cl4 R)]) := by
        have h := H1.out
        rw [HN.out, List.take_length, ← HRR.out] at h
        exact h
      have a0 := H2.out.cell 2 rfl 0 rfl
      have a1 := H2.out.cell 2 rfl 1 rfl
      have a2 := H2.out.cell 2 rfl 2 rfl
      have a3 := H2.out.cell 2 rfl 3 rfl
      obtain ⟨r0, r1, r2, r3⟩ := box4 (H2.out.box 1 rfl)
      have f0 := H2.out.frozen 1 rfl 0
      have f1 := H2.out.frozen 1 rfl 1
      have f2 := H2.out.frozen 1 rfl 2
      have f3 := H2.out.frozen 1 rfl 3
      go_wp2_with fail
      have H3 := H2.out.set4 1 rfl (.int .i64 R.x0) (.int .i64 R.y0) (.int .i64 R.x1) (.int .i64 R.y1)
      exact ret_rect (g := w.heap.size + 1) (r := R) rfl rfl (H3.box 1 rfl) rfl ⟨rfl, H3.below⟩
theorem reach_c (op : Int) (iv pv lv : Value) (ins p : List Int) (rs : List Rc) (w : World) {F : Nat → Prop} (hF : ∀ b, F b → b < w.heap.size) (hp : SlOf RInt 1 F w pv p) (hiv : ∃ a n c, iv = .slice a n c) (hl : SlOf RRc 4 F w lv rs) (hok : RaOk ⟨op, ins, p⟩) (hlen : rs.length = ins.length) (hpl : ∀ r ∈ rs, RcP r) :
    Calls Tryd.prog 41 #[.agg #[.int .i64 op, iv, pv], lv] w (PPost w (rv (reachN ⟨op, ins, p⟩ rs))) := by
  have hop := hok.op
  dsimp only at hop
  have hcase : op = 1 ∨ op = 2 ∨ op = 3 ∨ op = 4 ∨ op = 5 ∨ op = 6 ∨ op = 7 ∨ op = 8 ∨ op = 9 ∨ op = 10 ∨ op = 11 ∨ op = 12 := by omega
  rcases hcase with rfl | rfl | rfl | rfl | rfl | rfl | rfl | rfl | rfl | rfl | rfl | rfl
  · exact reach1_c iv pv lv ins p rs w hF hp hiv hl hok hlen hpl
  · exact reach2_c iv pv lv ins p rs w hF hp hiv hl hok hlen hpl
  · exact reach3_c iv pv lv ins p rs w hF hp hiv hl hok hlen hpl
  · exact reach4_c iv pv lv ins p rs w hF hp hiv hl hok hlen hpl
  · exact reach5_c iv pv lv ins p rs w hF hp hiv hl hok hlen hpl
  · exact reach6_c iv pv lv ins p rs w hF hp hiv hl hok hlen hpl
  · exact reach7_c iv pv lv ins p rs w hF hp hiv hl hok hlen hpl
  · exact reach8_c iv pv lv ins p rs w hF hp hiv hl hok hlen hpl
  · exact reach9_c iv pv lv ins p rs w hF hp hiv hl hok hlen hpl
  · exact reach10_c iv pv lv ins p rs w hF hp hiv hl hok hlen hpl
  · exact reach11_c iv pv lv ins p rs w hF hp hiv hl hok hlen hpl
  · exact reach12_c iv pv lv ins p rs w hF hp hiv hl hok hlen hpl
end Go.Proofs.YtgodhpampaleeaaDoor
