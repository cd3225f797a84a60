/- Layer 14: need.one. (Printed by tools/mk_one.py.) -/
import Derived.Test.YtfjeohnigikmoaaDoorNo
namespace Go.Proofs.YtfjeohnigikmoaaDoor
open Go.RowKit Go.Bx Go.Od Go.Hp
attribute [local go_sem ↓] Go.wp_at_zero Go.wp_at_succ
set_option linter.unusedVariables false

/-- a node boxed, a rectangle, a result behind them -/
def N3 (w W : World) (op : Int) (iv pv : Value) (a : Rc) : Prop := Box W w.heap.size [.int .i64 op, iv, pv] ∧ Box W (w.heap.size + 1) (cl4 a) ∧ Box W (w.heap.size + 2) (cl4 ⟨0, 0, 0, 0⟩) ∧ Below w.heap.size w W
theorem N3.call {w W W' : World} {op : Int} {iv pv : Value} {a : Rc} (h : N3 w W op iv pv a) (hb : Below W.heap.size W W') : N3 w W' op iv pv a := ⟨h.1.call hb, h.2.1.call hb, h.2.2.1.call hb, h.2.2.2.trans (hb.mono h.2.2.2.size)⟩
theorem N3.new (w : World) (op : Int) (iv pv : Value) (a : Rc) (t1 t2 : TypeId) : N3 w (((w.alloc (.cells #[.int .i64 op, iv, pv] t1)).alloc (.cells (cl4 a).toArray t2)).alloc (.cells (cl4 ⟨0, 0, 0, 0⟩).toArray t2)) op iv pv a := by
  have h0 := Box.new w [.int .i64 op, iv, pv] t1
  have h1 := Box.new (w.alloc (.cells #[.int .i64 op, iv, pv] t1)) (cl4 a) t2
  have h2 := Box.new ((w.alloc (.cells #[.int .i64 op, iv, pv] t1)).alloc (.cells (cl4 a).toArray t2)) (cl4 ⟨0, 0, 0, 0⟩) t2
  rw [size_alloc] at h1
  rw [size_alloc, size_alloc] at h2
  exact ⟨(h0.alloc _).alloc _, h1.alloc _, h2, ((below_new w _).alloc (by rw [size_alloc]; omega) _).alloc (by rw [size_alloc, size_alloc]; omega) _⟩
theorem N3.newr (w : World) (op : Int) (iv pv : Value) (a r : Rc) (t1 t2 : TypeId) : Box (((w.alloc (.cells #[.int .i64 op, iv, pv] t1)).alloc (.cells (cl4 a).toArray t2)).alloc (.cells (cl4 r).toArray t2)) (w.heap.size + 1 + 1) (cl4 r) ∧ Below w.heap.size w (((w.alloc (.cells #[.int .i64 op, iv, pv] t1)).alloc (.cells (cl4 a).toArray t2)).alloc (.cells (cl4 r).toArray t2)) := by
  have h2 := Box.new ((w.alloc (.cells #[.int .i64 op, iv, pv] t1)).alloc (.cells (cl4 a).toArray t2)) (cl4 r) t2
  rw [size_alloc, size_alloc] at h2
  exact ⟨h2, ((below_new w _).alloc (by rw [size_alloc]; omega) _).alloc (by rw [size_alloc, size_alloc]; omega) _⟩
theorem N3.cells {w W : World} {op : Int} {iv pv : Value} {a : Rc} (h : N3 w W op iv pv a) :
    (W.cell? ⟨w.heap.size, 0, none⟩ = some (.int .i64 op) ∧ W.cell? ⟨w.heap.size, 1, none⟩ = some iv ∧ W.cell? ⟨w.heap.size, 2, none⟩ = some pv) ∧
    (W.cell? ⟨w.heap.size + 1, 0, none⟩ = some (.int .i64 a.x0) ∧ W.cell? ⟨w.heap.size + 1, 1, none⟩ = some (.int .i64 a.y0) ∧ W.cell? ⟨w.heap.size + 1, 2, none⟩ = some (.int .i64 a.x1) ∧ W.cell? ⟨w.heap.size + 1, 3, none⟩ = some (.int .i64 a.y1)) ∧
    (W.cell? ⟨w.heap.size + 1 + 1, 0, none⟩ = some (.int .i64 0) ∧ W.cell? ⟨w.heap.size + 1 + 1, 1, none⟩ = some (.int .i64 0) ∧ W.cell? ⟨w.heap.size + 1 + 1, 2, none⟩ = some (.int .i64 0) ∧ W.cell? ⟨w.heap.size + 1 + 1, 3, none⟩ = some (.int .i64 0)) ∧
    (W.frozen? ⟨w.heap.size + 1 + 1, 0, none⟩ = false ∧ W.frozen? ⟨w.heap.size + 1 + 1, 1, none⟩ = false ∧ W.frozen? ⟨w.heap.size + 1 + 1, 2, none⟩ = false ∧ W.frozen? ⟨w.heap.size + 1 + 1, 3, none⟩ = false) :=
  ⟨⟨h.1.cell 0 rfl, h.1.cell 1 rfl, h.1.cell 2 rfl⟩, ⟨h.2.1.cell 0 rfl, h.2.1.cell 1 rfl, h.2.1.cell 2 rfl, h.2.1.cell 3 rfl⟩, ⟨h.2.2.1.cell 0 rfl, h.2.2.1.cell 1 rfl, h.2.2.1.cell 2 rfl, h.2.2.1.cell 3 rfl⟩, ⟨h.2.2.1.frozen 0, h.2.2.1.frozen 1, h.2.2.1.frozen 2, h.2.2.1.frozen 3⟩⟩
theorem N3.set4 {w W : World} {op : Int} {iv pv : Value} {a : Rc} (h : N3 w W op iv pv a) (u0 u1 u2 u3 : Value) : Below w.heap.size w ((((W.setCell ⟨w.heap.size + 1 + 1, 0, none⟩ u0).setCell ⟨w.heap.size + 1 + 1, 1, none⟩ u1).setCell ⟨w.heap.size + 1 + 1, 2, none⟩ u2).setCell ⟨w.heap.size + 1 + 1, 3, none⟩ u3) :=
  (((h.2.2.2.setCell (by simp; omega) _).setCell (by simp; omega) _).setCell (by simp; omega) _).setCell (by simp; omega) _
set_option maxRecDepth 4000 in
set_option maxHeartbeats 6400000 in
theorem needone_c (op : Int) (iv pv : Value) (ins p : List Int) (want : Rc) (w : World) {F : Nat → Prop} (hF : ∀ b, F b → b < w.heap.size) (hp : SlOf RInt 1 F w pv p) (hiv : ∃ a n c, iv = .slice a n c) (hok : PaOk ⟨op, ins, p⟩) (hw : RcP want) :
    Calls Tryd.prog 26 #[.agg #[.int .i64 op, iv, pv], rv want] w (PPost w (rv (oneN ⟨op, ins, p⟩ want))) := by
  obtain ⟨ia, im, ic, rfl⟩ := hiv
  have hp' := hp
  obtain ⟨pa, pc, hpv, _, _⟩ := hp'
  subst hpv
  have HP : Hid (SlOf RInt 1 F w (.slice pa p.length pc) p ∧ (∀ b, F b → b < w.heap.size) ∧ PaOk ⟨op, ins, p⟩ ∧ RcP want) := ⟨hp, hF, hok, hw⟩
  clear hp hF hok hw
  obtain ⟨x0, y0, x1, y1⟩ := want
  have J0 : Hid (N3 w (((w.alloc (.cells #[.int .i64 op, .slice ia im ic, .slice pa p.length pc] 39)).alloc (.cells (cs4 x0 y0 x1 y1) 26)).alloc (.cells (cs4 0 0 0 0) 26)) op (.slice ia im ic) (.slice pa p.length pc) ⟨x0, y0, x1, y1⟩) := N3.new w op (.slice ia im ic) (.slice pa p.length pc) ⟨x0, y0, x1, y1⟩ 39 26
  by_cases h1 : op = 1
  · subst h1
    obtain ⟨l2, ⟨b0, b1⟩, b2, b3⟩ := HP.out.2.2.1.mv (.inl rfl)
    dsimp only at l2 b0 b1 b2 b3
    go_enter Tryd.func26, Tryd.ntmps26
    go_wp2_with fail
    generalize (((w.alloc (.cells #[.int .i64 1, .slice ia im ic, .slice pa p.length pc] 39)).alloc (.cells (cs4 x0 y0 x1 y1) 26)).alloc (.cells (cs4 0 0 0 0) 26)) = W1 at *
    obtain ⟨b, o, c, hv, hFb, hc, hcap, hcm⟩ := sl_cells HP.out.1 (by omega)
    simp only [Value.slice.injEq] at hv
    obtain ⟨rfl, _, rfl⟩ := hv
    unfold maxLen at hcm
    obtain ⟨n, hn⟩ : ∃ n, n = p.length := ⟨_, rfl⟩
    have h0' := hc 0 (by omega)
    rw [Nat.add_zero] at h0'
    have c0 := (J0.out.2.2.2.cell (p := ⟨b, o, none⟩) (HP.out.2.1 b hFb)).trans h0'
    clear h0'
    obtain ⟨q0, hq0⟩ : ∃ q, q = p.getD 0 0 := ⟨_, rfl⟩
    rw [← hq0] at c0
    have h1' := hc 1 (by omega)
    have c1 := (J0.out.2.2.2.cell (p := ⟨b, o + 1, none⟩) (HP.out.2.1 b hFb)).trans h1'
    clear h1'
    obtain ⟨q1, hq1⟩ : ∃ q, q = p.getD 1 0 := ⟨_, rfl⟩
    rw [← hq1] at c1
    rw [← hq0] at b0 b1
    rw [← hq1] at b2 b3
    obtain ⟨q, hq⟩ : ∃ q, q = moveR ⟨x0, y0, x1, y1⟩ (-q0) (-q1) := ⟨_, rfl⟩
    have HJ : Hid (oneN ⟨1, ins, p⟩ ⟨x0, y0, x1, y1⟩ = q) := by
      have : oneN ⟨1, ins, p⟩ ⟨x0, y0, x1, y1⟩ = q := by rw [hq, hq0, hq1]; rfl
      exact this
    have M0 : Hid (∀ s : Kept W1.heap.size W1, Calls Tryd.prog 39 #[.agg #[.int .i64 x0, .int .i64 y0, .int .i64 x1, .int .i64 y1], .int .i64 (-q0), .int .i64 (-q1)] s.w (PPost s.w (.agg #[.int .i64 q.x0, .int .i64 q.y0, .int .i64 q.x1, .int .i64 q.y1]))) := fun s => by
      rw [hq]
      exact move_c ⟨x0, y0, x1, y1⟩ (-q0) (-q1) s.w HP.out.2.2.2 (by omega) (by omega)
    rw [← hn] at l2 hcap J0 ⊢
    obtain ⟨⟨g0, g1, g2⟩, ⟨a0, a1, a2, a3⟩, _, _⟩ := J0.out.cells
    have k0 := fun s : Kept W1.heap.size W1 => s.at g0
    have k1 := fun s : Kept W1.heap.size W1 => s.at g1
    have k2 := fun s : Kept W1.heap.size W1 => s.at g2
    have k3 := fun s : Kept W1.heap.size W1 => s.at a0
    have k4 := fun s : Kept W1.heap.size W1 => s.at a1
    have k5 := fun s : Kept W1.heap.size W1 => s.at a2
    have k6 := fun s : Kept W1.heap.size W1 => s.at a3
    have k7 := fun s : Kept W1.heap.size W1 => s.at c0
    have k8 := fun s : Kept W1.heap.size W1 => s.at c1
    clear hq0 hq1 hq c0 c1 hc hn g0 g1 g2 a0 a1 a2 a3
    go_wp2_with fail
    refine wp_region_kept_last W1.heap.size 12 _ rfl rfl (by kernel_rfl) (by kernel_rfl) ?_
    simp only [List.take_succ_cons, List.take_zero]
    repeat (go_big_quiet_step (first | (go_at_call 39; with_reducible exact Calls.kept _ (Nat.le_refl _) (M0.out _))))
    refine wpQuiet_nil ?_
    intro s
    have J5 : Hid (N3 w s.w 1 (.slice ia im ic) (.slice (some ⟨b, o, none⟩) n pc) ⟨x0, y0, x1, y1⟩) := J0.out.call s.below
    obtain ⟨_, _, ⟨r0, r1, r2, r3⟩, f0, f1, f2, f3⟩ := J5.out.cells
    refine ⟨steps_plain rfl (gives_mono (R := fun v w' => v = undef ∧ w' = (((s.w.setCell ⟨w.heap.size + 1 + 1, 0, none⟩ (.int .i64 q.x0)).setCell ⟨w.heap.size + 1 + 1, 1, none⟩ (.int .i64 q.y0)).setCell ⟨w.heap.size + 1 + 1, 2, none⟩ (.int .i64 q.x1)).setCell ⟨w.heap.size + 1 + 1, 3, none⟩ (.int .i64 q.y1)) ?_ ?_)⟩
    · simp [gives, go_sem, r0, r1, r2, r3, f0, f1, f2, f3]
    · rintro _ _ ⟨rfl, rfl⟩
      clear k0 k1 k2 k3 k4 k5 k6 k7 k8
      go_wp2_with fail
      exact ret_rect rfl rfl (set4_box J5.out.2.2.1 _ _ _ _) rfl ⟨by rw [HJ.out], J5.out.set4 _ _ _ _⟩
  · skip
    by_cases h2 : op = 2
    · subst h2
      obtain ⟨l2, ⟨b0, b1⟩, b2, b3⟩ := HP.out.2.2.1.gr (.inl rfl)
      dsimp only at l2 b0 b1 b2 b3
      go_enter Tryd.func26, Tryd.ntmps26
      go_wp2_with fail
      generalize (((w.alloc (.cells #[.int .i64 2, .slice ia im ic, .slice pa p.length pc] 39)).alloc (.cells (cs4 x0 y0 x1 y1) 26)).alloc (.cells (cs4 0 0 0 0) 26)) = W1 at *
      obtain ⟨b, o, c, hv, hFb, hc, hcap, hcm⟩ := sl_cells HP.out.1 (by omega)
      simp only [Value.slice.injEq] at hv
      obtain ⟨rfl, _, rfl⟩ := hv
      unfold maxLen at hcm
      obtain ⟨n, hn⟩ : ∃ n, n = p.length := ⟨_, rfl⟩
      have h0' := hc 0 (by omega)
      rw [Nat.add_zero] at h0'
      have c0 := (J0.out.2.2.2.cell (p := ⟨b, o, none⟩) (HP.out.2.1 b hFb)).trans h0'
      clear h0'
      obtain ⟨q0, hq0⟩ : ∃ q, q = p.getD 0 0 := ⟨_, rfl⟩
      rw [← hq0] at c0
      have h1' := hc 1 (by omega)
      have c1 := (J0.out.2.2.2.cell (p := ⟨b, o + 1, none⟩) (HP.out.2.1 b hFb)).trans h1'
      clear h1'
      obtain ⟨q1, hq1⟩ : ∃ q, q = p.getD 1 0 := ⟨_, rfl⟩
      rw [← hq1] at c1
      rw [← hq0] at b0 b1
      rw [← hq1] at b2 b3
      obtain ⟨q, hq⟩ : ∃ q, q = growR ⟨x0, y0, x1, y1⟩ q0 q1 q0 q1 := ⟨_, rfl⟩
      have HJ : Hid (oneN ⟨2, ins, p⟩ ⟨x0, y0, x1, y1⟩ = q) := by
        have : oneN ⟨2, ins, p⟩ ⟨x0, y0, x1, y1⟩ = q := by rw [hq, hq0, hq1]; rfl
        exact this
      have M0 : Hid (∀ s : Kept W1.heap.size W1, Calls Tryd.prog 40 #[.agg #[.int .i64 x0, .int .i64 y0, .int .i64 x1, .int .i64 y1], .int .i64 q0, .int .i64 q1, .int .i64 q0, .int .i64 q1] s.w (PPost s.w (.agg #[.int .i64 q.x0, .int .i64 q.y0, .int .i64 q.x1, .int .i64 q.y1]))) := fun s => by
        rw [hq]
        exact grow_c ⟨x0, y0, x1, y1⟩ q0 q1 q0 q1 s.w HP.out.2.2.2 (by omega) (by omega) (by omega) (by omega)
      rw [← hn] at l2 hcap J0 ⊢
      obtain ⟨⟨g0, g1, g2⟩, ⟨a0, a1, a2, a3⟩, _, _⟩ := J0.out.cells
      have k0 := fun s : Kept W1.heap.size W1 => s.at g0
      have k1 := fun s : Kept W1.heap.size W1 => s.at g1
      have k2 := fun s : Kept W1.heap.size W1 => s.at g2
      have k3 := fun s : Kept W1.heap.size W1 => s.at a0
      have k4 := fun s : Kept W1.heap.size W1 => s.at a1
      have k5 := fun s : Kept W1.heap.size W1 => s.at a2
      have k6 := fun s : Kept W1.heap.size W1 => s.at a3
      have k7 := fun s : Kept W1.heap.size W1 => s.at c0
      have k8 := fun s : Kept W1.heap.size W1 => s.at c1
      clear hq0 hq1 hq c0 c1 hc hn g0 g1 g2 a0 a1 a2 a3
      go_wp2_with fail
      refine wp_region_kept_last W1.heap.size 18 _ rfl rfl (by kernel_rfl) (by kernel_rfl) ?_
      simp only [List.take_succ_cons, List.take_zero]
      repeat (go_big_quiet_step (first | (go_at_call 40; with_reducible exact Calls.kept _ (Nat.le_refl _) (M0.out _))))
      refine wpQuiet_nil ?_
      intro s
      have J5 : Hid (N3 w s.w 2 (.slice ia im ic) (.slice (some ⟨b, o, none⟩) n pc) ⟨x0, y0, x1, y1⟩) := J0.out.call s.below
      obtain ⟨_, _, ⟨r0, r1, r2, r3⟩, f0, f1, f2, f3⟩ := J5.out.cells
      refine ⟨steps_plain rfl (gives_mono (R := fun v w' => v = undef ∧ w' = (((s.w.setCell ⟨w.heap.size + 1 + 1, 0, none⟩ (.int .i64 q.x0)).setCell ⟨w.heap.size + 1 + 1, 1, none⟩ (.int .i64 q.y0)).setCell ⟨w.heap.size + 1 + 1, 2, none⟩ (.int .i64 q.x1)).setCell ⟨w.heap.size + 1 + 1, 3, none⟩ (.int .i64 q.y1)) ?_ ?_)⟩
      · simp [gives, go_sem, r0, r1, r2, r3, f0, f1, f2, f3]
      · rintro _ _ ⟨rfl, rfl⟩
        clear k0 k1 k2 k3 k4 k5 k6 k7 k8
        go_wp2_with fail
        exact ret_rect rfl rfl (set4_box J5.out.2.2.1 _ _ _ _) rfl ⟨by rw [HJ.out], J5.out.set4 _ _ _ _⟩
    · skip
      by_cases h3 : op = 3
      · subst h3
        obtain ⟨l2, ⟨b0, b1⟩, b2, b3⟩ := HP.out.2.2.1.gr (.inr (.inl rfl))
        dsimp only at l2 b0 b1 b2 b3
        go_enter Tryd.func26, Tryd.ntmps26
        go_wp2_with fail
        generalize (((w.alloc (.cells #[.int .i64 3, .slice ia im ic, .slice pa p.length pc] 39)).alloc (.cells (cs4 x0 y0 x1 y1) 26)).alloc (.cells (cs4 0 0 0 0) 26)) = W1 at *
        obtain ⟨b, o, c, hv, hFb, hc, hcap, hcm⟩ := sl_cells HP.out.1 (by omega)
        simp only [Value.slice.injEq] at hv
        obtain ⟨rfl, _, rfl⟩ := hv
        unfold maxLen at hcm
        obtain ⟨n, hn⟩ : ∃ n, n = p.length := ⟨_, rfl⟩
        have h0' := hc 0 (by omega)
        rw [Nat.add_zero] at h0'
        have c0 := (J0.out.2.2.2.cell (p := ⟨b, o, none⟩) (HP.out.2.1 b hFb)).trans h0'
        clear h0'
        obtain ⟨q0, hq0⟩ : ∃ q, q = p.getD 0 0 := ⟨_, rfl⟩
        rw [← hq0] at c0
        have h1' := hc 1 (by omega)
        have c1 := (J0.out.2.2.2.cell (p := ⟨b, o + 1, none⟩) (HP.out.2.1 b hFb)).trans h1'
        clear h1'
        obtain ⟨q1, hq1⟩ : ∃ q, q = p.getD 1 0 := ⟨_, rfl⟩
        rw [← hq1] at c1
        rw [← hq0] at b0 b1
        rw [← hq1] at b2 b3
        obtain ⟨q, hq⟩ : ∃ q, q = growR ⟨x0, y0, x1, y1⟩ q0 q1 q0 q1 := ⟨_, rfl⟩
        have HJ : Hid (oneN ⟨3, ins, p⟩ ⟨x0, y0, x1, y1⟩ = q) := by
          have : oneN ⟨3, ins, p⟩ ⟨x0, y0, x1, y1⟩ = q := by rw [hq, hq0, hq1]; rfl
          exact this
        have M0 : Hid (∀ s : Kept W1.heap.size W1, Calls Tryd.prog 40 #[.agg #[.int .i64 x0, .int .i64 y0, .int .i64 x1, .int .i64 y1], .int .i64 q0, .int .i64 q1, .int .i64 q0, .int .i64 q1] s.w (PPost s.w (.agg #[.int .i64 q.x0, .int .i64 q.y0, .int .i64 q.x1, .int .i64 q.y1]))) := fun s => by
          rw [hq]
          exact grow_c ⟨x0, y0, x1, y1⟩ q0 q1 q0 q1 s.w HP.out.2.2.2 (by omega) (by omega) (by omega) (by omega)
        rw [← hn] at l2 hcap J0 ⊢
        obtain ⟨⟨g0, g1, g2⟩, ⟨a0, a1, a2, a3⟩, _, _⟩ := J0.out.cells
        have k0 := fun s : Kept W1.heap.size W1 => s.at g0
        have k1 := fun s : Kept W1.heap.size W1 => s.at g1
        have k2 := fun s : Kept W1.heap.size W1 => s.at g2
        have k3 := fun s : Kept W1.heap.size W1 => s.at a0
        have k4 := fun s : Kept W1.heap.size W1 => s.at a1
        have k5 := fun s : Kept W1.heap.size W1 => s.at a2
        have k6 := fun s : Kept W1.heap.size W1 => s.at a3
        have k7 := fun s : Kept W1.heap.size W1 => s.at c0
        have k8 := fun s : Kept W1.heap.size W1 => s.at c1
        clear hq0 hq1 hq c0 c1 hc hn g0 g1 g2 a0 a1 a2 a3
        go_wp2_with fail
        refine wp_region_kept_last W1.heap.size 18 _ rfl rfl (by kernel_rfl) (by kernel_rfl) ?_
        simp only [List.take_succ_cons, List.take_zero]
        repeat (go_big_quiet_step (first | (go_at_call 40; with_reducible exact Calls.kept _ (Nat.le_refl _) (M0.out _))))
        refine wpQuiet_nil ?_
        intro s
        have J5 : Hid (N3 w s.w 3 (.slice ia im ic) (.slice (some ⟨b, o, none⟩) n pc) ⟨x0, y0, x1, y1⟩) := J0.out.call s.below
        obtain ⟨_, _, ⟨r0, r1, r2, r3⟩, f0, f1, f2, f3⟩ := J5.out.cells
        refine ⟨steps_plain rfl (gives_mono (R := fun v w' => v = undef ∧ w' = (((s.w.setCell ⟨w.heap.size + 1 + 1, 0, none⟩ (.int .i64 q.x0)).setCell ⟨w.heap.size + 1 + 1, 1, none⟩ (.int .i64 q.y0)).setCell ⟨w.heap.size + 1 + 1, 2, none⟩ (.int .i64 q.x1)).setCell ⟨w.heap.size + 1 + 1, 3, none⟩ (.int .i64 q.y1)) ?_ ?_)⟩
        · simp [gives, go_sem, r0, r1, r2, r3, f0, f1, f2, f3]
        · rintro _ _ ⟨rfl, rfl⟩
          clear k0 k1 k2 k3 k4 k5 k6 k7 k8
          go_wp2_with fail
          exact ret_rect rfl rfl (set4_box J5.out.2.2.1 _ _ _ _) rfl ⟨by rw [HJ.out], J5.out.set4 _ _ _ _⟩
      · skip
        by_cases h4 : op = 4
        · subst h4
          obtain ⟨l2, ⟨b0, b1⟩, b2, b3⟩ := HP.out.2.2.1.gr (.inr (.inr rfl))
          dsimp only at l2 b0 b1 b2 b3
          go_enter Tryd.func26, Tryd.ntmps26
          go_wp2_with fail
          generalize (((w.alloc (.cells #[.int .i64 4, .slice ia im ic, .slice pa p.length pc] 39)).alloc (.cells (cs4 x0 y0 x1 y1) 26)).alloc (.cells (cs4 0 0 0 0) 26)) = W1 at *
          obtain ⟨b, o, c, hv, hFb, hc, hcap, hcm⟩ := sl_cells HP.out.1 (by omega)
          simp only [Value.slice.injEq] at hv
          obtain ⟨rfl, _, rfl⟩ := hv
          unfold maxLen at hcm
          obtain ⟨n, hn⟩ : ∃ n, n = p.length := ⟨_, rfl⟩
          have h0' := hc 0 (by omega)
          rw [Nat.add_zero] at h0'
          have c0 := (J0.out.2.2.2.cell (p := ⟨b, o, none⟩) (HP.out.2.1 b hFb)).trans h0'
          clear h0'
          obtain ⟨q0, hq0⟩ : ∃ q, q = p.getD 0 0 := ⟨_, rfl⟩
          rw [← hq0] at c0
          have h1' := hc 1 (by omega)
          have c1 := (J0.out.2.2.2.cell (p := ⟨b, o + 1, none⟩) (HP.out.2.1 b hFb)).trans h1'
          clear h1'
          obtain ⟨q1, hq1⟩ : ∃ q, q = p.getD 1 0 := ⟨_, rfl⟩
          rw [← hq1] at c1
          rw [← hq0] at b0 b1
          rw [← hq1] at b2 b3
          obtain ⟨q, hq⟩ : ∃ q, q = growR ⟨x0, y0, x1, y1⟩ q0 q1 q0 q1 := ⟨_, rfl⟩
          have HJ : Hid (oneN ⟨4, ins, p⟩ ⟨x0, y0, x1, y1⟩ = q) := by
            have : oneN ⟨4, ins, p⟩ ⟨x0, y0, x1, y1⟩ = q := by rw [hq, hq0, hq1]; rfl
            exact this
          have M0 : Hid (∀ s : Kept W1.heap.size W1, Calls Tryd.prog 40 #[.agg #[.int .i64 x0, .int .i64 y0, .int .i64 x1, .int .i64 y1], .int .i64 q0, .int .i64 q1, .int .i64 q0, .int .i64 q1] s.w (PPost s.w (.agg #[.int .i64 q.x0, .int .i64 q.y0, .int .i64 q.x1, .int .i64 q.y1]))) := fun s => by
            rw [hq]
            exact grow_c ⟨x0, y0, x1, y1⟩ q0 q1 q0 q1 s.w HP.out.2.2.2 (by omega) (by omega) (by omega) (by omega)
          rw [← hn] at l2 hcap J0 ⊢
          obtain ⟨⟨g0, g1, g2⟩, ⟨a0, a1, a2, a3⟩, _, _⟩ := J0.out.cells
          have k0 := fun s : Kept W1.heap.size W1 => s.at g0
          have k1 := fun s : Kept W1.heap.size W1 => s.at g1
          have k2 := fun s : Kept W1.heap.size W1 => s.at g2
          have k3 := fun s : Kept W1.heap.size W1 => s.at a0
          have k4 := fun s : Kept W1.heap.size W1 => s.at a1
          have k5 := fun s : Kept W1.heap.size W1 => s.at a2
          have k6 := fun s : Kept W1.heap.size W1 => s.at a3
          have k7 := fun s : Kept W1.heap.size W1 => s.at c0
          have k8 := fun s : Kept W1.heap.size W1 => s.at c1
          clear hq0 hq1 hq c0 c1 hc hn g0 g1 g2 a0 a1 a2 a3
          go_wp2_with fail
          refine wp_region_kept_last W1.heap.size 18 _ rfl rfl (by kernel_rfl) (by kernel_rfl) ?_
          simp only [List.take_succ_cons, List.take_zero]
          repeat (go_big_quiet_step (first | (go_at_call 40; with_reducible exact Calls.kept _ (Nat.le_refl _) (M0.out _))))
          refine wpQuiet_nil ?_
          intro s
          have J5 : Hid (N3 w s.w 4 (.slice ia im ic) (.slice (some ⟨b, o, none⟩) n pc) ⟨x0, y0, x1, y1⟩) := J0.out.call s.below
          obtain ⟨_, _, ⟨r0, r1, r2, r3⟩, f0, f1, f2, f3⟩ := J5.out.cells
          refine ⟨steps_plain rfl (gives_mono (R := fun v w' => v = undef ∧ w' = (((s.w.setCell ⟨w.heap.size + 1 + 1, 0, none⟩ (.int .i64 q.x0)).setCell ⟨w.heap.size + 1 + 1, 1, none⟩ (.int .i64 q.y0)).setCell ⟨w.heap.size + 1 + 1, 2, none⟩ (.int .i64 q.x1)).setCell ⟨w.heap.size + 1 + 1, 3, none⟩ (.int .i64 q.y1)) ?_ ?_)⟩
          · simp [gives, go_sem, r0, r1, r2, r3, f0, f1, f2, f3]
          · rintro _ _ ⟨rfl, rfl⟩
            clear k0 k1 k2 k3 k4 k5 k6 k7 k8
            go_wp2_with fail
            exact ret_rect rfl rfl (set4_box J5.out.2.2.1 _ _ _ _) rfl ⟨by rw [HJ.out], J5.out.set4 _ _ _ _⟩
        · skip
          by_cases h12 : op = 12
          · subst h12
            obtain ⟨l4, hbx⟩ := HP.out.2.2.1.bx (.inl rfl)
            dsimp only at l4 hbx
            go_enter Tryd.func26, Tryd.ntmps26
            go_wp2_with fail
            generalize (((w.alloc (.cells #[.int .i64 12, .slice ia im ic, .slice pa p.length pc] 39)).alloc (.cells (cs4 x0 y0 x1 y1) 26)).alloc (.cells (cs4 0 0 0 0) 26)) = W1 at *
            obtain ⟨q, hq⟩ : ∃ q, q = meetR ⟨x0, y0, x1, y1⟩ (pbox p) := ⟨_, rfl⟩
            obtain ⟨t, ht⟩ : ∃ t, t = pbox p := ⟨_, rfl⟩
            have HJ : Hid (oneN ⟨12, ins, p⟩ ⟨x0, y0, x1, y1⟩ = q) := by
              have : oneN ⟨12, ins, p⟩ ⟨x0, y0, x1, y1⟩ = q := by rw [hq]; rfl
              exact this
            have M0 : Hid (∀ s : Kept W1.heap.size W1, Calls Tryd.prog 42 #[.slice pa p.length pc] s.w (PPost s.w (.agg #[.int .i64 t.x0, .int .i64 t.y0, .int .i64 t.x1, .int .i64 t.y1]))) := fun s => by
              rw [ht]
              exact pbox_c _ p s.w (HP.out.1.same RInt.ok (Same.of_below (J0.out.2.2.2.trans (s.below.mono J0.out.2.2.2.size)) HP.out.2.1)) l4
            have M1 : Hid (∀ s : Kept W1.heap.size W1, Calls Tryd.prog 41 #[.agg #[.int .i64 x0, .int .i64 y0, .int .i64 x1, .int .i64 y1], .agg #[.int .i64 t.x0, .int .i64 t.y0, .int .i64 t.x1, .int .i64 t.y1]] s.w (PPost s.w (.agg #[.int .i64 q.x0, .int .i64 q.y0, .int .i64 q.x1, .int .i64 q.y1]))) := fun s => by
              rw [hq, ht]
              exact meet_c ⟨x0, y0, x1, y1⟩ (pbox p) s.w
            obtain ⟨⟨g0, g1, g2⟩, ⟨a0, a1, a2, a3⟩, _, _⟩ := J0.out.cells
            have k0 := fun s : Kept W1.heap.size W1 => s.at g0
            have k1 := fun s : Kept W1.heap.size W1 => s.at g1
            have k2 := fun s : Kept W1.heap.size W1 => s.at g2
            have k3 := fun s : Kept W1.heap.size W1 => s.at a0
            have k4 := fun s : Kept W1.heap.size W1 => s.at a1
            have k5 := fun s : Kept W1.heap.size W1 => s.at a2
            have k6 := fun s : Kept W1.heap.size W1 => s.at a3
            clear hq ht hbx g0 g1 g2 a0 a1 a2 a3
            go_wp2_with fail
            refine wp_region_kept_last W1.heap.size 5 _ rfl rfl (by kernel_rfl) (by kernel_rfl) ?_
            simp only [List.take_succ_cons, List.take_zero]
            repeat (go_big_quiet_step (first | (go_at_call 42; with_reducible exact Calls.kept _ (Nat.le_refl _) (M0.out _)) | (go_at_call 41; with_reducible exact Calls.kept _ (Nat.le_refl _) (M1.out _))))
            refine wpQuiet_nil ?_
            intro s
            have J5 : Hid (N3 w s.w 12 (.slice ia im ic) (.slice pa p.length pc) ⟨x0, y0, x1, y1⟩) := J0.out.call s.below
            obtain ⟨_, _, ⟨r0, r1, r2, r3⟩, f0, f1, f2, f3⟩ := J5.out.cells
            refine ⟨steps_plain rfl (gives_mono (R := fun v w' => v = undef ∧ w' = (((s.w.setCell ⟨w.heap.size + 1 + 1, 0, none⟩ (.int .i64 q.x0)).setCell ⟨w.heap.size + 1 + 1, 1, none⟩ (.int .i64 q.y0)).setCell ⟨w.heap.size + 1 + 1, 2, none⟩ (.int .i64 q.x1)).setCell ⟨w.heap.size + 1 + 1, 3, none⟩ (.int .i64 q.y1)) ?_ ?_)⟩
            · simp [gives, go_sem, r0, r1, r2, r3, f0, f1, f2, f3]
            · rintro _ _ ⟨rfl, rfl⟩
              clear k0 k1 k2 k3 k4 k5 k6
              go_wp2_with fail
              exact ret_rect rfl rfl (set4_box J5.out.2.2.1 _ _ _ _) rfl ⟨by rw [HJ.out], J5.out.set4 _ _ _ _⟩
          · skip
            by_cases h10 : op = 10
            · subst h10
              obtain ⟨l4, hbx⟩ := HP.out.2.2.1.bx (.inr rfl)
              dsimp only at l4 hbx
              go_enter Tryd.func26, Tryd.ntmps26
              go_wp2_with fail
              generalize (((w.alloc (.cells #[.int .i64 10, .slice ia im ic, .slice pa p.length pc] 39)).alloc (.cells (cs4 x0 y0 x1 y1) 26)).alloc (.cells (cs4 0 0 0 0) 26)) = W1 at *
              obtain ⟨t, ht⟩ : ∃ t, t = pbox p := ⟨_, rfl⟩
              obtain ⟨d, hd⟩ : ∃ d, d = wiR ⟨x0, y0, x1, y1⟩ t := ⟨_, rfl⟩
              have HJ : Hid (oneN ⟨10, ins, p⟩ ⟨x0, y0, x1, y1⟩ = if d then ⟨x0, y0, x1, y1⟩ else t) := by
                have : oneN ⟨10, ins, p⟩ ⟨x0, y0, x1, y1⟩ = if d then ⟨x0, y0, x1, y1⟩ else t := by rw [hd, ht]; rfl
                exact this
              have M0 : Hid (∀ s : Kept W1.heap.size W1, Calls Tryd.prog 42 #[.slice pa p.length pc] s.w (PPost s.w (.agg #[.int .i64 t.x0, .int .i64 t.y0, .int .i64 t.x1, .int .i64 t.y1]))) := fun s => by
                rw [ht]
                exact pbox_c _ p s.w (HP.out.1.same RInt.ok (Same.of_below (J0.out.2.2.2.trans (s.below.mono J0.out.2.2.2.size)) HP.out.2.1)) l4
              have M1 : Hid (∀ s : Kept W1.heap.size W1, Calls Tryd.prog 43 #[.agg #[.int .i64 x0, .int .i64 y0, .int .i64 x1, .int .i64 y1], .agg #[.int .i64 t.x0, .int .i64 t.y0, .int .i64 t.x1, .int .i64 t.y1]] s.w (PPost s.w (.bool d))) := fun s => by
                rw [hd]
                exact within_c ⟨x0, y0, x1, y1⟩ t s.w
              obtain ⟨⟨g0, g1, g2⟩, ⟨a0, a1, a2, a3⟩, _, _⟩ := J0.out.cells
              have k0 := fun s : Kept W1.heap.size W1 => s.at g0
              have k1 := fun s : Kept W1.heap.size W1 => s.at g1
              have k2 := fun s : Kept W1.heap.size W1 => s.at g2
              have k3 := fun s : Kept W1.heap.size W1 => s.at a0
              have k4 := fun s : Kept W1.heap.size W1 => s.at a1
              have k5 := fun s : Kept W1.heap.size W1 => s.at a2
              have k6 := fun s : Kept W1.heap.size W1 => s.at a3
              clear hd ht hbx g0 g1 g2 a0 a1 a2 a3
              go_wp2_with fail
              refine wp_region_kept W1.heap.size (by kernel_rfl) (by kernel_rfl) ?_
              repeat (go_big_quiet_step (first | (go_at_call 42; with_reducible exact Calls.kept _ (Nat.le_refl _) (M0.out _)) | (go_at_call 43; with_reducible exact Calls.kept _ (Nat.le_refl _) (M1.out _))))
              refine wpQuiet_nil ?_
              rintro _ ⟨s, rfl⟩
              have J5 : Hid (N3 w s.w 10 (.slice ia im ic) (.slice pa p.length pc) ⟨x0, y0, x1, y1⟩) := J0.out.call s.below
              obtain ⟨⟨g0, g1, g2⟩, ⟨a0, a1, a2, a3⟩, ⟨r0, r1, r2, r3⟩, f0, f1, f2, f3⟩ := J5.out.cells
              clear k0 k1 k2 k3 k4 k5 k6
              cases d with
              | true =>
                go_wp2_with fail
                exact ret_rect rfl rfl (set4_box J5.out.2.2.1 _ _ _ _) rfl ⟨by rw [HJ.out]; rfl, J5.out.set4 _ _ _ _⟩
              | false =>
                have MM := M0.out s
                go_wp2_with fail
                refine Calls.mono MM ?_; rintro e W3 ⟨rfl, hb3⟩
                have J6 : Hid (N3 w W3 10 (.slice ia im ic) (.slice pa p.length pc) ⟨x0, y0, x1, y1⟩) := J5.out.call hb3
                clear g0 g1 g2 a0 a1 a2 a3 r0 r1 r2 r3 f0 f1 f2 f3 hb3 MM
                obtain ⟨⟨g0, g1, g2⟩, ⟨a0, a1, a2, a3⟩, ⟨r0, r1, r2, r3⟩, f0, f1, f2, f3⟩ := J6.out.cells
                go_wp2_with fail
                exact ret_rect rfl rfl (set4_box J6.out.2.2.1 _ _ _ _) rfl ⟨by rw [HJ.out]; rfl, J6.out.set4 _ _ _ _⟩
            · skip
              by_cases h11 : op = 11
              · subst h11
                obtain ⟨l2, ⟨b0, b1⟩, b2, b3⟩ := HP.out.2.2.1.mv (.inr rfl)
                obtain ⟨l4, ⟨b4, b5⟩, b6, b7⟩ := HP.out.2.2.1.sh rfl
                dsimp only at l2 b0 b1 b2 b3 l4 b4 b5 b6 b7
                go_enter Tryd.func26, Tryd.ntmps26
                go_wp2_with fail
                generalize (((w.alloc (.cells #[.int .i64 11, .slice ia im ic, .slice pa p.length pc] 39)).alloc (.cells (cs4 x0 y0 x1 y1) 26)).alloc (.cells (cs4 0 0 0 0) 26)) = W1 at *
                obtain ⟨b, o, c, hv, hFb, hc, hcap, hcm⟩ := sl_cells HP.out.1 (by omega)
                simp only [Value.slice.injEq] at hv
                obtain ⟨rfl, _, rfl⟩ := hv
                unfold maxLen at hcm
                obtain ⟨n, hn⟩ : ∃ n, n = p.length := ⟨_, rfl⟩
                have h0' := hc 0 (by omega)
                rw [Nat.add_zero] at h0'
                have c0 := (J0.out.2.2.2.cell (p := ⟨b, o, none⟩) (HP.out.2.1 b hFb)).trans h0'
                clear h0'
                obtain ⟨q0, hq0⟩ : ∃ q, q = p.getD 0 0 := ⟨_, rfl⟩
                rw [← hq0] at c0
                have h1' := hc 1 (by omega)
                have c1 := (J0.out.2.2.2.cell (p := ⟨b, o + 1, none⟩) (HP.out.2.1 b hFb)).trans h1'
                clear h1'
                obtain ⟨q1, hq1⟩ : ∃ q, q = p.getD 1 0 := ⟨_, rfl⟩
                rw [← hq1] at c1
                have h2' := hc 2 (by omega)
                have c2 := (J0.out.2.2.2.cell (p := ⟨b, o + 2, none⟩) (HP.out.2.1 b hFb)).trans h2'
                clear h2'
                obtain ⟨q2, hq2⟩ : ∃ q, q = p.getD 2 0 := ⟨_, rfl⟩
                rw [← hq2] at c2
                have h3' := hc 3 (by omega)
                have c3 := (J0.out.2.2.2.cell (p := ⟨b, o + 3, none⟩) (HP.out.2.1 b hFb)).trans h3'
                clear h3'
                obtain ⟨q3, hq3⟩ : ∃ q, q = p.getD 3 0 := ⟨_, rfl⟩
                rw [← hq3] at c3
                rw [← hq0] at b0 b1
                rw [← hq1] at b2 b3
                rw [← hq2] at b4 b5
                rw [← hq3] at b6 b7
                obtain ⟨q, hq⟩ : ∃ q, q = joinR ⟨x0, y0, x1, y1⟩ (growR (moveR ⟨x0, y0, x1, y1⟩ (-q0) (-q1)) q2 q3 q2 q3) := ⟨_, rfl⟩
                obtain ⟨t, ht⟩ : ∃ t, t = moveR ⟨x0, y0, x1, y1⟩ (-q0) (-q1) := ⟨_, rfl⟩
                obtain ⟨u, hu⟩ : ∃ u, u = growR t q2 q3 q2 q3 := ⟨_, rfl⟩
                have HJ : Hid (oneN ⟨11, ins, p⟩ ⟨x0, y0, x1, y1⟩ = q) := by
                  have : oneN ⟨11, ins, p⟩ ⟨x0, y0, x1, y1⟩ = q := by rw [hq, hq0, hq1, hq2, hq3]; rfl
                  exact this
                have M0 : Hid (∀ s : Kept W1.heap.size W1, Calls Tryd.prog 39 #[.agg #[.int .i64 x0, .int .i64 y0, .int .i64 x1, .int .i64 y1], .int .i64 (-q0), .int .i64 (-q1)] s.w (PPost s.w (.agg #[.int .i64 t.x0, .int .i64 t.y0, .int .i64 t.x1, .int .i64 t.y1]))) := fun s => by
                  rw [ht]
                  exact move_c ⟨x0, y0, x1, y1⟩ (-q0) (-q1) s.w HP.out.2.2.2 (by omega) (by omega)
                have M1 : Hid (∀ s : Kept W1.heap.size W1, Calls Tryd.prog 40 #[.agg #[.int .i64 t.x0, .int .i64 t.y0, .int .i64 t.x1, .int .i64 t.y1], .int .i64 q2, .int .i64 q3, .int .i64 q2, .int .i64 q3] s.w (PPost s.w (.agg #[.int .i64 u.x0, .int .i64 u.y0, .int .i64 u.x1, .int .i64 u.y1]))) := fun s => by
                  rw [hu]
                  exact grow_c t q2 q3 q2 q3 s.w (by rw [ht]; exact moveR_pl _ _ _) (by omega) (by omega) (by omega) (by omega)
                have M2 : Hid (∀ s : Kept W1.heap.size W1, Calls Tryd.prog 19 #[.agg #[.int .i64 x0, .int .i64 y0, .int .i64 x1, .int .i64 y1], .agg #[.int .i64 u.x0, .int .i64 u.y0, .int .i64 u.x1, .int .i64 u.y1]] s.w (PPost s.w (.agg #[.int .i64 q.x0, .int .i64 q.y0, .int .i64 q.x1, .int .i64 q.y1]))) := fun s => by
                  rw [hq, ← ht, ← hu]
                  exact join_c ⟨x0, y0, x1, y1⟩ u s.w
                rw [← hn] at l2 l4 hcap J0 ⊢
                obtain ⟨⟨g0, g1, g2⟩, ⟨a0, a1, a2, a3⟩, _, _⟩ := J0.out.cells
                have k0 := fun s : Kept W1.heap.size W1 => s.at g0
                have k1 := fun s : Kept W1.heap.size W1 => s.at g1
                have k2 := fun s : Kept W1.heap.size W1 => s.at g2
                have k3 := fun s : Kept W1.heap.size W1 => s.at a0
                have k4 := fun s : Kept W1.heap.size W1 => s.at a1
                have k5 := fun s : Kept W1.heap.size W1 => s.at a2
                have k6 := fun s : Kept W1.heap.size W1 => s.at a3
                have k7 := fun s : Kept W1.heap.size W1 => s.at c0
                have k8 := fun s : Kept W1.heap.size W1 => s.at c1
                have k9 := fun s : Kept W1.heap.size W1 => s.at c2
                have k10 := fun s : Kept W1.heap.size W1 => s.at c3
                clear hq0 hq1 hq2 hq3 hq ht hu c0 c1 c2 c3 hc hn g0 g1 g2 a0 a1 a2 a3
                go_wp2_with fail
                refine wp_region_kept_last W1.heap.size 31 _ rfl rfl (by kernel_rfl) (by kernel_rfl) ?_
                simp only [List.take_succ_cons, List.take_zero]
                repeat (go_big_quiet_step (first | (go_at_call 39; with_reducible exact Calls.kept _ (Nat.le_refl _) (M0.out _)) | (go_at_call 40; with_reducible exact Calls.kept _ (Nat.le_refl _) (M1.out _)) | (go_at_call 19; with_reducible exact Calls.kept _ (Nat.le_refl _) (M2.out _))))
                refine wpQuiet_nil ?_
                intro s
                have J5 : Hid (N3 w s.w 11 (.slice ia im ic) (.slice (some ⟨b, o, none⟩) n pc) ⟨x0, y0, x1, y1⟩) := J0.out.call s.below
                obtain ⟨_, _, ⟨r0, r1, r2, r3⟩, f0, f1, f2, f3⟩ := J5.out.cells
                refine ⟨steps_plain rfl (gives_mono (R := fun v w' => v = undef ∧ w' = (((s.w.setCell ⟨w.heap.size + 1 + 1, 0, none⟩ (.int .i64 q.x0)).setCell ⟨w.heap.size + 1 + 1, 1, none⟩ (.int .i64 q.y0)).setCell ⟨w.heap.size + 1 + 1, 2, none⟩ (.int .i64 q.x1)).setCell ⟨w.heap.size + 1 + 1, 3, none⟩ (.int .i64 q.y1)) ?_ ?_)⟩
                · simp [gives, go_sem, r0, r1, r2, r3, f0, f1, f2, f3]
                · rintro _ _ ⟨rfl, rfl⟩
                  clear k0 k1 k2 k3 k4 k5 k6 k7 k8 k9 k10
                  go_wp2_with fail
                  exact ret_rect rfl rfl (set4_box J5.out.2.2.1 _ _ _ _) rfl ⟨by rw [HJ.out], J5.out.set4 _ _ _ _⟩
              · skip
                have HJ : Hid (oneN ⟨op, ins, p⟩ ⟨x0, y0, x1, y1⟩ = ⟨x0, y0, x1, y1⟩) := by
                  have : oneN ⟨op, ins, p⟩ ⟨x0, y0, x1, y1⟩ = ⟨x0, y0, x1, y1⟩ := by unfold oneN; rw [if_neg h1, if_neg (by rintro (h | h | h); exact h2 h; exact h3 h; exact h4 h), if_neg h12, if_neg h10, if_neg h11]
                  exact this
                have d1 : (op == 1) = false := beq_eq_false_iff_ne.2 h1
                have d2 : (op == 2) = false := beq_eq_false_iff_ne.2 h2
                have d3 : (op == 3) = false := beq_eq_false_iff_ne.2 h3
                have d4 : (op == 4) = false := beq_eq_false_iff_ne.2 h4
                have d12 : (op == 12) = false := beq_eq_false_iff_ne.2 h12
                have d10 : (op == 10) = false := beq_eq_false_iff_ne.2 h10
                have d11 : (op == 11) = false := beq_eq_false_iff_ne.2 h11
                clear h1 h2 h3 h4 h12 h10 h11
                have HN := N3.newr w op (.slice ia im ic) (.slice pa p.length pc) ⟨x0, y0, x1, y1⟩ ⟨x0, y0, x1, y1⟩ 39 26
                have HNN : Hid _ := HN
                clear HN J0
                go_enter Tryd.func26, Tryd.ntmps26
                go_wp2_with fail
                exact ret_rect rfl rfl HNN.out.1 rfl ⟨by rw [HJ.out], HNN.out.2⟩
end Go.Proofs.YtfjeohnigikmoaaDoor
