/- Layer 3: Move, Grow. -/
import Derived.Test.YtfjeohnigikmoaaDoorRe
namespace Go.Proofs.YtfjeohnigikmoaaDoor
open Go.RowKit Go.Bx Go.Od Go.Hp
attribute [local go_sem ↓] Go.wp_at_zero Go.wp_at_succ
set_option linter.unusedVariables false

/-- a rectangle boxed, a result behind it -/
def J2 (w W : World) (a : Rc) : Prop := Box W w.heap.size (cl4 a) ∧ Box W (w.heap.size + 1) (cl4 ⟨0, 0, 0, 0⟩) ∧ Below w.heap.size w W
theorem J2.call {w W W' : World} {a : Rc} (h : J2 w W a) (hb : Below W.heap.size W W') : J2 w W' a := ⟨h.1.call hb, h.2.1.call hb, h.2.2.trans (hb.mono h.2.2.size)⟩
theorem J2.cells {w W : World} {a : Rc} (h : J2 w W a) :
    W.cell? ⟨w.heap.size, 0, none⟩ = some (.int .i64 a.x0) ∧ W.cell? ⟨w.heap.size, 1, none⟩ = some (.int .i64 a.y0) ∧ W.cell? ⟨w.heap.size, 2, none⟩ = some (.int .i64 a.x1) ∧ W.cell? ⟨w.heap.size, 3, none⟩ = some (.int .i64 a.y1) ∧
    W.cell? ⟨w.heap.size + 1, 0, none⟩ = some (.int .i64 0) ∧ W.cell? ⟨w.heap.size + 1, 1, none⟩ = some (.int .i64 0) ∧ W.cell? ⟨w.heap.size + 1, 2, none⟩ = some (.int .i64 0) ∧ W.cell? ⟨w.heap.size + 1, 3, none⟩ = some (.int .i64 0) ∧
    W.frozen? ⟨w.heap.size + 1, 0, none⟩ = false ∧ W.frozen? ⟨w.heap.size + 1, 1, none⟩ = false ∧ W.frozen? ⟨w.heap.size + 1, 2, none⟩ = false ∧ W.frozen? ⟨w.heap.size + 1, 3, none⟩ = false :=
  ⟨h.1.cell 0 rfl, h.1.cell 1 rfl, h.1.cell 2 rfl, h.1.cell 3 rfl, h.2.1.cell 0 rfl, h.2.1.cell 1 rfl, h.2.1.cell 2 rfl, h.2.1.cell 3 rfl, h.2.1.frozen 0, h.2.1.frozen 1, h.2.1.frozen 2, h.2.1.frozen 3⟩
theorem J2.set4 {w W : World} {a : Rc} (h : J2 w W a) (u0 u1 u2 u3 : Value) : Below w.heap.size w ((((W.setCell ⟨w.heap.size + 1, 0, none⟩ u0).setCell ⟨w.heap.size + 1, 1, none⟩ u1).setCell ⟨w.heap.size + 1, 2, none⟩ u2).setCell ⟨w.heap.size + 1, 3, none⟩ u3) :=
  (((h.2.2.setCell (by simp) _).setCell (by simp) _).setCell (by simp) _).setCell (by simp) _
theorem moved_p {e b : Int} (w : World) (he : Pl e) (hb : -4398046511104 ≤ b ∧ b ≤ 4398046511104) : Calls Tryd.prog 50 #[.int .i64 e, .int .i64 b] w (PPost w (.int .i64 (movedR e b))) :=
  (moved_c e b w he hb).mono fun _ _ ⟨h1, h2⟩ => ⟨h1, h2 ▸ Below.refl _ _⟩
def RcP (r : Rc) : Prop := Pl r.x0 ∧ Pl r.y0 ∧ Pl r.x1 ∧ Pl r.y1
def moveR (r : Rc) (dx dy : Int) : Rc := if r.emp then Rc.zero else whR ⟨movedR r.x0 dx, movedR r.y0 dy, movedR r.x1 dx, movedR r.y1 dy⟩
set_option maxRecDepth 4000 in
set_option maxHeartbeats 3200000 in
theorem move_c (r : Rc) (dx dy : Int) (w : World) (hr : RcP r) (hx : -4398046511104 ≤ dx ∧ dx ≤ 4398046511104) (hy : -4398046511104 ≤ dy ∧ dy ≤ 4398046511104) :
    Calls Tryd.prog 39 #[rv r, .int .i64 dx, .int .i64 dy] w (PPost w (rv (moveR r dx dy))) := by
  obtain ⟨x0, y0, x1, y1⟩ := r
  have J0 : Hid (J2 w ((w.alloc (.cells (cs4 x0 y0 x1 y1) 26)).alloc (.cells (cs4 0 0 0 0) 26)) ⟨x0, y0, x1, y1⟩) := J2new w ⟨x0, y0, x1, y1⟩ ⟨0, 0, 0, 0⟩ 26
  have HR : Hid (Pl x0 ∧ Pl y0 ∧ Pl x1 ∧ Pl y1 ∧ (-4398046511104 ≤ dx ∧ dx ≤ 4398046511104) ∧ (-4398046511104 ≤ dy ∧ dy ≤ 4398046511104)) := ⟨hr.1, hr.2.1, hr.2.2.1, hr.2.2.2, hx, hy⟩
  clear hr hx hy
  go_enter Tryd.func39, Tryd.ntmps39
  go_wp2_with fail
  generalize ((w.alloc (.cells (cs4 x0 y0 x1 y1) 26)).alloc (.cells (cs4 0 0 0 0) 26)) = W0 at *
  refine (empty_c x0 y0 x1 y1 W0).mono ?_; rintro e W1 ⟨rfl, hb1⟩
  have J1 : Hid (J2 w W1 ⟨x0, y0, x1, y1⟩) := J0.out.call hb1
  clear hb1 J0
  obtain ⟨a0, a1, a2, a3, r0, r1, r2, r3, f0, f1, f2, f3⟩ := J1.out.cells
  cases he : Rc.emp ⟨x0, y0, x1, y1⟩ with
  | true =>
    have HJ : Hid (moveR ⟨x0, y0, x1, y1⟩ dx dy = ⟨0, 0, 0, 0⟩) := by
      have : moveR ⟨x0, y0, x1, y1⟩ dx dy = ⟨0, 0, 0, 0⟩ := by unfold moveR; rw [he]; rfl
      exact this
    clear he
    go_wp2_with fail
    exact ret_rect rfl rfl (set4_box J1.out.2.1 _ _ _ _) rfl ⟨by rw [HJ.out], J1.out.set4 _ _ _ _⟩
  | false =>
    have HJ : Hid (moveR ⟨x0, y0, x1, y1⟩ dx dy = whR ⟨movedR x0 dx, movedR y0 dy, movedR x1 dx, movedR y1 dy⟩) := by
      have : moveR ⟨x0, y0, x1, y1⟩ dx dy = whR ⟨movedR x0 dx, movedR y0 dy, movedR x1 dx, movedR y1 dy⟩ := by unfold moveR; rw [he]; rfl
      exact this
    clear he
    have k0 := fun s : Kept W1.heap.size W1 => s.at a0
    have k1 := fun s : Kept W1.heap.size W1 => s.at a1
    have k2 := fun s : Kept W1.heap.size W1 => s.at a2
    have k3 := fun s : Kept W1.heap.size W1 => s.at a3
    have M0 : Hid (∀ s : Kept W1.heap.size W1, Calls Tryd.prog 50 #[.int .i64 x0, .int .i64 dx] s.w (PPost s.w (.int .i64 (movedR x0 dx)))) := fun s => moved_p s.w HR.out.1 HR.out.2.2.2.2.1
    have M1 : Hid (∀ s : Kept W1.heap.size W1, Calls Tryd.prog 50 #[.int .i64 y0, .int .i64 dy] s.w (PPost s.w (.int .i64 (movedR y0 dy)))) := fun s => moved_p s.w HR.out.2.1 HR.out.2.2.2.2.2
    have M2 : Hid (∀ s : Kept W1.heap.size W1, Calls Tryd.prog 50 #[.int .i64 x1, .int .i64 dx] s.w (PPost s.w (.int .i64 (movedR x1 dx)))) := fun s => moved_p s.w HR.out.2.2.1 HR.out.2.2.2.2.1
    have M3 : Hid (∀ s : Kept W1.heap.size W1, Calls Tryd.prog 50 #[.int .i64 y1, .int .i64 dy] s.w (PPost s.w (.int .i64 (movedR y1 dy)))) := fun s => moved_p s.w HR.out.2.2.2.1 HR.out.2.2.2.2.2
    generalize movedR x0 dx = m0 at *
    generalize movedR y0 dy = m1 at *
    generalize movedR x1 dx = m2 at *
    generalize movedR y1 dy = m3 at *
    obtain ⟨q, hq⟩ : ∃ q, q = whR ⟨m0, m1, m2, m3⟩ := ⟨_, rfl⟩
    have M4 : Hid (∀ s : Kept W1.heap.size W1, Calls Tryd.prog 49 #[.agg #[.int .i64 m0, .int .i64 m1, .int .i64 m2, .int .i64 m3]] s.w (PPost s.w (.agg #[.int .i64 q.x0, .int .i64 q.y0, .int .i64 q.x1, .int .i64 q.y1]))) := fun s => by
      rw [hq]
      exact whole_c ⟨m0, m1, m2, m3⟩ s.w
    rw [← hq] at HJ
    clear hq r0 r1 r2 r3 f0 f1 f2 f3
    go_wp2_with fail
    clear a0 a1 a2 a3
    refine wp_region_kept_last W1.heap.size 18 _ rfl rfl (by kernel_rfl) (by kernel_rfl) ?_
    simp only [List.take_succ_cons, List.take_zero]
    repeat (go_big_quiet_step (first | (go_at_call 50; with_reducible exact Calls.kept _ (Nat.le_refl _) (M0.out _)) | (go_at_call 50; with_reducible exact Calls.kept _ (Nat.le_refl _) (M1.out _)) | (go_at_call 50; with_reducible exact Calls.kept _ (Nat.le_refl _) (M2.out _)) | (go_at_call 50; with_reducible exact Calls.kept _ (Nat.le_refl _) (M3.out _)) | (go_at_call 49; with_reducible exact Calls.kept _ (Nat.le_refl _) (M4.out _))))
    refine wpQuiet_nil ?_
    intro s
    have J5 : Hid (J2 w s.w ⟨x0, y0, x1, y1⟩) := J1.out.call s.below
    obtain ⟨a0, a1, a2, a3, r0, r1, r2, r3, f0, f1, f2, f3⟩ := J5.out.cells
    refine ⟨steps_plain rfl (gives_mono (R := fun v w' => v = undef ∧ w' = (((s.w.setCell ⟨w.heap.size + 1, 0, none⟩ (.int .i64 q.x0)).setCell ⟨w.heap.size + 1, 1, none⟩ (.int .i64 q.y0)).setCell ⟨w.heap.size + 1, 2, none⟩ (.int .i64 q.x1)).setCell ⟨w.heap.size + 1, 3, none⟩ (.int .i64 q.y1)) ?_ ?_)⟩
    · simp [gives, go_sem, r0, r1, r2, r3, f0, f1, f2, f3]
    · rintro _ _ ⟨rfl, rfl⟩
      clear k0 k1 k2 k3
      go_wp2_with fail
      exact ret_rect rfl rfl (set4_box J5.out.2.1 _ _ _ _) rfl ⟨by rw [HJ.out], J5.out.set4 _ _ _ _⟩
def growR (r : Rc) (a b c d : Int) : Rc := if r.emp then Rc.zero else whR ⟨r.x0 - a, r.y0 - b, r.x1 + c, r.y1 + d⟩
set_option maxHeartbeats 3200000 in
theorem grow_c (r : Rc) (a b c d : Int) (w : World) (hr : RcP r) (ha : 0 ≤ a ∧ a ≤ 4398046511104) (hb : 0 ≤ b ∧ b ≤ 4398046511104) (hc : 0 ≤ c ∧ c ≤ 4398046511104) (hd : 0 ≤ d ∧ d ≤ 4398046511104) :
    Calls Tryd.prog 40 #[rv r, .int .i64 a, .int .i64 b, .int .i64 c, .int .i64 d] w (PPost w (rv (growR r a b c d))) := by
  obtain ⟨x0, y0, x1, y1⟩ := r
  have J0 : Hid (J2 w ((w.alloc (.cells (cs4 x0 y0 x1 y1) 26)).alloc (.cells (cs4 0 0 0 0) 26)) ⟨x0, y0, x1, y1⟩) := J2new w ⟨x0, y0, x1, y1⟩ ⟨0, 0, 0, 0⟩ 26
  obtain ⟨p0, p1, p2, p3⟩ := hr
  unfold Pl at p0 p1 p2 p3
  dsimp only at p0 p1 p2 p3
  go_enter Tryd.func40, Tryd.ntmps40
  go_wp2_with fail
  generalize ((w.alloc (.cells (cs4 x0 y0 x1 y1) 26)).alloc (.cells (cs4 0 0 0 0) 26)) = W0 at *
  refine (empty_c x0 y0 x1 y1 W0).mono ?_; rintro e W1 ⟨rfl, hb1⟩
  have J1 : Hid (J2 w W1 ⟨x0, y0, x1, y1⟩) := J0.out.call hb1
  clear hb1 J0
  obtain ⟨a0, a1, a2, a3, r0, r1, r2, r3, f0, f1, f2, f3⟩ := J1.out.cells
  cases he : Rc.emp ⟨x0, y0, x1, y1⟩ with
  | true =>
    have HJ : Hid (growR ⟨x0, y0, x1, y1⟩ a b c d = ⟨0, 0, 0, 0⟩) := by
      have : growR ⟨x0, y0, x1, y1⟩ a b c d = ⟨0, 0, 0, 0⟩ := by unfold growR; rw [he]; rfl
      exact this
    clear he
    go_wp2_with fail
    exact ret_rect rfl rfl (set4_box J1.out.2.1 _ _ _ _) rfl ⟨by rw [HJ.out], J1.out.set4 _ _ _ _⟩
  | false =>
    have HJ : Hid (growR ⟨x0, y0, x1, y1⟩ a b c d = whR ⟨x0 - a, y0 - b, x1 + c, y1 + d⟩) := by
      have : growR ⟨x0, y0, x1, y1⟩ a b c d = whR ⟨x0 - a, y0 - b, x1 + c, y1 + d⟩ := by unfold growR; rw [he]; rfl
      exact this
    clear he
    go_wp2_with fail
    refine (whole_c ⟨x0 - a, y0 - b, x1 + c, y1 + d⟩ W1).mono ?_; rintro e W2 ⟨rfl, hb2⟩
    have J3 : Hid (J2 w W2 ⟨x0, y0, x1, y1⟩) := J1.out.call hb2
    obtain ⟨q, hq⟩ : ∃ q, q = whR ⟨x0 - a, y0 - b, x1 + c, y1 + d⟩ := ⟨_, rfl⟩
    rw [← hq] at HJ ⊢
    clear hq hb2 a0 a1 a2 a3 r0 r1 r2 r3 f0 f1 f2 f3 J1
    obtain ⟨a0, a1, a2, a3, r0, r1, r2, r3, f0, f1, f2, f3⟩ := J3.out.cells
    go_wp2_with fail
    exact ret_rect rfl rfl (set4_box J3.out.2.1 _ _ _ _) rfl ⟨by rw [HJ.out], J3.out.set4 _ _ _ _⟩
end Go.Proofs.YtfjeohnigikmoaaDoor
