/- Layer 3: moved, cut, whole, Move, Grow. -/
import Derived.Test.YtfjeohnigikmoaaDoorRd
import Derived.Test.YtfjeohnigikmoaaDoorTail
namespace Go.Proofs.YtfjeohnigikmoaaDoor
open Go.RowKit Go.Bx Go.Od Go.Hp
attribute [local go_sem ↓] Go.wp_at_zero Go.wp_at_succ
set_option linter.unusedVariables false

theorem steps_plain {P : Program} {ops : Array Oper} {o : Oper} {a : Act} {w : World} {R : Value → World → Prop} (hg : o.guard = none) (h : gives P o a.eval w R) : stepsTo P ops o a w R := by
  unfold stepsTo
  rw [if_pos (by simp [Region.wanted, hg])]
  exact h
def Pl (x : Int) : Prop := -4398046511104 ≤ x ∧ x ≤ 4398046511104
def movedR (e b : Int) : Int := if e = 4398046511104 ∨ e = -4398046511104 then e else e + b
theorem moved_c (e b : Int) (w : World) (he : Pl e) (hb : -4398046511104 ≤ b ∧ b ≤ 4398046511104) : Calls Tryd.prog 50 #[.int .i64 e, .int .i64 b] w fun x w' => x = .returned (.int .i64 (movedR e b)) ∧ w' = w := by
  unfold Pl at he
  by_cases h1 : e = 4398046511104
  · subst h1
    have HE : Hid (movedR 4398046511104 b = 4398046511104) := by
      have : movedR 4398046511104 b = 4398046511104 := if_pos (.inl rfl)
      exact this
    go_enter Tryd.func50, Tryd.ntmps50
    go_wp2_with fail
    go_ret
    exact ⟨ret_i HE.out.symm, rfl⟩
  · by_cases h2 : e = -4398046511104
    · subst h2
      have HE : Hid (movedR (-4398046511104) b = -4398046511104) := by
        have : movedR (-4398046511104) b = -4398046511104 := if_pos (.inr rfl)
        exact this
      go_enter Tryd.func50, Tryd.ntmps50
      go_wp2_with fail
      go_ret
      exact ⟨ret_i HE.out.symm, rfl⟩
    · have HE : Hid (movedR e b = e + b) := by
        have : movedR e b = e + b := if_neg (fun h => h.elim h1 h2)
        exact this
      have d1 : (e == 4398046511104) = false := beq_eq_false_iff_ne.2 h1
      have d2 : (e == -4398046511104) = false := beq_eq_false_iff_ne.2 h2
      go_enter Tryd.func50, Tryd.ntmps50
      go_wp2_with fail
      go_ret
      exact ⟨ret_i HE.out.symm, rfl⟩
def clip (x : Int) : Int := max (-4398046511104) (min x 4398046511104)
def clipR (r : Rc) : Rc := ⟨clip r.x0, clip r.y0, clip r.x1, clip r.y1⟩
def clipJ (r : Rc) (j : Nat) : Rc := ⟨if 0 < j then clip r.x0 else r.x0, if 1 < j then clip r.y0 else r.y0, if 2 < j then clip r.x1 else r.x1, if 3 < j then clip r.y1 else r.y1⟩
set_option maxHeartbeats 3200000 in
theorem cut_c (n r p : Nat) (x : Rc) (w : World) (hn : n ≤ r) (hp : p ≠ r) (hr : Box w r (cl4 x)) (hq : Box w p [.pointer (some ⟨r, 0, none⟩), .pointer (some ⟨r, 1, none⟩), .pointer (some ⟨r, 2, none⟩), .pointer (some ⟨r, 3, none⟩)]) :
    Calls Tryd.prog 53 #[.slice (some ⟨p, 0, none⟩) 4 4] w fun e w' => (∃ v, e = .returned v) ∧ Box w' r (cl4 (clipR x)) ∧ (∀ b cs, b ≠ r → Box w b cs → Box w' b cs) ∧ Below n w w' := by
  have H0 : Hid (Box w r (cl4 (clipJ x 0)) ∧ (∀ b cs, b ≠ r → Box w b cs → Box w b cs) ∧ Below n w w ∧ n ≤ r) := ⟨hr, fun _ _ _ h => h, Below.refl _ _, hn⟩
  have HP : Hid (p ≠ r ∧ Box w p [.pointer (some ⟨r, 0, none⟩), .pointer (some ⟨r, 1, none⟩), .pointer (some ⟨r, 2, none⟩), .pointer (some ⟨r, 3, none⟩)]) := ⟨hp, hq⟩
  clear hr hq hn hp
  go_enter Tryd.func53, Tryd.ntmps53
  go_wp2_with fail
  go_loopw [6] (fun jv wr => ∃ j : Nat, j ≤ 4 ∧ jv = .int .i64 j ∧ Box wr r (cl4 (clipJ x j)) ∧ (∀ b cs, b ≠ r → Box w b cs → Box wr b cs) ∧ Below n w wr ∧ n ≤ r) (fun jv _ => 4 - (intOf jv).toNat)
  case atStart => exact ⟨0, by omega, rfl, H0.out⟩
  case round =>
    obtain ⟨j, hj, rfl, hr, hq, hb, hn⟩ := hrel
    clear H0
    have p0 := (hq p _ HP.out.1 HP.out.2).cell 0 rfl
    have p1 := (hq p _ HP.out.1 HP.out.2).cell 1 rfl
    have p2 := (hq p _ HP.out.1 HP.out.2).cell 2 rfl
    have p3 := (hq p _ HP.out.1 HP.out.2).cell 3 rfl
    have HB : Hid (Below n w wr ∧ n ≤ r ∧ ∀ b cs, b ≠ r → Box w b cs → Box wr b cs) := ⟨hb, hn, hq⟩
    match j, hj with
    | 0, _ =>
      have c0 : wr.cell? ⟨r, 0, none⟩ = some (.int .i64 x.x0) := hr.cell 0 rfl
      have f0 := hr.frozen 0
      have HE : Hid (Box (wr.setCell ⟨r, 0, none⟩ (.int .i64 (clip x.x0))) r (cl4 (clipJ x 1))) := hr.self 0 _
      clear hr hq hb hn
      go_wp2_with fail
      go_roundw
      case rel => exact ⟨1, by omega, by go_num, HE.out, (fun b cs hne h => (HB.out.2.2 b cs hne h).set (p := ⟨r, 0, none⟩) hne _), HB.out.1.setCell (p := ⟨r, 0, none⟩) HB.out.2.1 _, HB.out.2.1⟩
      case measure => simp [intOf]
    | 1, _ =>
      have c0 : wr.cell? ⟨r, 1, none⟩ = some (.int .i64 x.y0) := hr.cell 1 rfl
      have f0 := hr.frozen 1
      have HE : Hid (Box (wr.setCell ⟨r, 1, none⟩ (.int .i64 (clip x.y0))) r (cl4 (clipJ x 2))) := hr.self 1 _
      clear hr hq hb hn
      go_wp2_with fail
      go_roundw
      case rel => exact ⟨2, by omega, by go_num, HE.out, (fun b cs hne h => (HB.out.2.2 b cs hne h).set (p := ⟨r, 1, none⟩) hne _), HB.out.1.setCell (p := ⟨r, 1, none⟩) HB.out.2.1 _, HB.out.2.1⟩
      case measure => simp [intOf]
    | 2, _ =>
      have c0 : wr.cell? ⟨r, 2, none⟩ = some (.int .i64 x.x1) := hr.cell 2 rfl
      have f0 := hr.frozen 2
      have HE : Hid (Box (wr.setCell ⟨r, 2, none⟩ (.int .i64 (clip x.x1))) r (cl4 (clipJ x 3))) := hr.self 2 _
      clear hr hq hb hn
      go_wp2_with fail
      go_roundw
      case rel => exact ⟨3, by omega, by go_num, HE.out, (fun b cs hne h => (HB.out.2.2 b cs hne h).set (p := ⟨r, 2, none⟩) hne _), HB.out.1.setCell (p := ⟨r, 2, none⟩) HB.out.2.1 _, HB.out.2.1⟩
      case measure => simp [intOf]
    | 3, _ =>
      have c0 : wr.cell? ⟨r, 3, none⟩ = some (.int .i64 x.y1) := hr.cell 3 rfl
      have f0 := hr.frozen 3
      have HE : Hid (Box (wr.setCell ⟨r, 3, none⟩ (.int .i64 (clip x.y1))) r (cl4 (clipJ x 4))) := hr.self 3 _
      clear hr hq hb hn
      go_wp2_with fail
      go_roundw
      case rel => exact ⟨4, by omega, by go_num, HE.out, (fun b cs hne h => (HB.out.2.2 b cs hne h).set (p := ⟨r, 3, none⟩) hne _), HB.out.1.setCell (p := ⟨r, 3, none⟩) HB.out.2.1 _, HB.out.2.1⟩
      case measure => simp [intOf]
    | 4, _ =>
      have HE : Hid (Box wr r (cl4 (clipR x))) := hr
      clear hr hq hb hn
      go_wp2_with fail
      go_end0
      exact ⟨⟨_, rfl⟩, HE.out, HB.out.2.2, HB.out.1⟩
    | j + 5, hj => omega
/-! ### whole -/
def whR (r : Rc) : Rc := boxR (clipR r)
set_option maxHeartbeats 3200000 in
theorem whole_c (r : Rc) (w : World) : Calls Tryd.prog 49 #[rv r] w (PPost w (rv (whR r))) := by
  obtain ⟨x0, y0, x1, y1⟩ := r
  have J0 : Hid (Box ((w.alloc (.cells (cs4 x0 y0 x1 y1) 26)).alloc (.cells (cs4 0 0 0 0) 26)) w.heap.size (cl4 ⟨x0, y0, x1, y1⟩) ∧ Box ((w.alloc (.cells (cs4 x0 y0 x1 y1) 26)).alloc (.cells (cs4 0 0 0 0) 26)) (w.heap.size + 1) (cl4 ⟨0, 0, 0, 0⟩) ∧ Below w.heap.size w ((w.alloc (.cells (cs4 x0 y0 x1 y1) 26)).alloc (.cells (cs4 0 0 0 0) 26))) := J2new w ⟨x0, y0, x1, y1⟩ ⟨0, 0, 0, 0⟩ 26
  have HS : Hid (((w.alloc (.cells (cs4 x0 y0 x1 y1) 26)).alloc (.cells (cs4 0 0 0 0) 26)).heap.size = w.heap.size + 1 + 1) := by
    have : ((w.alloc (.cells (cs4 x0 y0 x1 y1) 26)).alloc (.cells (cs4 0 0 0 0) 26)).heap.size = w.heap.size + 1 + 1 := by simp
    exact this
  go_enter Tryd.func49, Tryd.ntmps49
  go_wp2_with fail
  generalize ((w.alloc (.cells (cs4 x0 y0 x1 y1) 26)).alloc (.cells (cs4 0 0 0 0) 26)) = W0 at *
  have P0 := Box.new W0 [.pointer (some ⟨w.heap.size, 0, none⟩), .pointer (some ⟨w.heap.size, 1, none⟩), .pointer (some ⟨w.heap.size, 2, none⟩), .pointer (some ⟨w.heap.size, 3, none⟩)] 88
  rw [HS.out] at P0
  have hb1 := below_new W0 (.cells #[.pointer (some ⟨w.heap.size, 0, none⟩), .pointer (some ⟨w.heap.size, 1, none⟩), .pointer (some ⟨w.heap.size, 2, none⟩), .pointer (some ⟨w.heap.size, 3, none⟩)] 88)
  have J1 : Hid (Box (W0.alloc (.cells #[.pointer (some ⟨w.heap.size, 0, none⟩), .pointer (some ⟨w.heap.size, 1, none⟩), .pointer (some ⟨w.heap.size, 2, none⟩), .pointer (some ⟨w.heap.size, 3, none⟩)] 88)) w.heap.size (cl4 ⟨x0, y0, x1, y1⟩) ∧ Box (W0.alloc (.cells #[.pointer (some ⟨w.heap.size, 0, none⟩), .pointer (some ⟨w.heap.size, 1, none⟩), .pointer (some ⟨w.heap.size, 2, none⟩), .pointer (some ⟨w.heap.size, 3, none⟩)] 88)) (w.heap.size + 1) (cl4 ⟨0, 0, 0, 0⟩) ∧ Below w.heap.size w (W0.alloc (.cells #[.pointer (some ⟨w.heap.size, 0, none⟩), .pointer (some ⟨w.heap.size, 1, none⟩), .pointer (some ⟨w.heap.size, 2, none⟩), .pointer (some ⟨w.heap.size, 3, none⟩)] 88))) := ⟨J0.out.1.call hb1, J0.out.2.1.call hb1, J0.out.2.2.trans (hb1.mono J0.out.2.2.size)⟩
  have J2 : Hid (Box (W0.alloc (.cells #[.pointer (some ⟨w.heap.size, 0, none⟩), .pointer (some ⟨w.heap.size, 1, none⟩), .pointer (some ⟨w.heap.size, 2, none⟩), .pointer (some ⟨w.heap.size, 3, none⟩)] 88)) (w.heap.size + 1 + 1) [.pointer (some ⟨w.heap.size, 0, none⟩), .pointer (some ⟨w.heap.size, 1, none⟩), .pointer (some ⟨w.heap.size, 2, none⟩), .pointer (some ⟨w.heap.size, 3, none⟩)]) := P0
  clear P0 hb1 J0 HS
  generalize (W0.alloc (.cells #[.pointer (some ⟨w.heap.size, 0, none⟩), .pointer (some ⟨w.heap.size, 1, none⟩), .pointer (some ⟨w.heap.size, 2, none⟩), .pointer (some ⟨w.heap.size, 3, none⟩)] 88)) = W1 at *
  refine (cut_c w.heap.size w.heap.size (w.heap.size + 1 + 1) ⟨x0, y0, x1, y1⟩ W1 (Nat.le_refl _) (by omega) J1.out.1 J2.out).mono ?_; rintro e W2 ⟨⟨v, rfl⟩, hr2, hk2, hb2⟩
  have J3 : Hid (Box W2 w.heap.size (cl4 (clipR ⟨x0, y0, x1, y1⟩)) ∧ Box W2 (w.heap.size + 1) (cl4 ⟨0, 0, 0, 0⟩) ∧ Below w.heap.size w W2) := ⟨hr2, hk2 _ _ (by omega) J1.out.2.1, J1.out.2.2.trans hb2⟩
  clear hr2 hk2 hb2 J1 J2
  have a0 : W2.cell? ⟨w.heap.size, 0, none⟩ = some (.int .i64 (clip x0)) := J3.out.1.cell 0 rfl
  have a1 : W2.cell? ⟨w.heap.size, 1, none⟩ = some (.int .i64 (clip y0)) := J3.out.1.cell 1 rfl
  have a2 : W2.cell? ⟨w.heap.size, 2, none⟩ = some (.int .i64 (clip x1)) := J3.out.1.cell 2 rfl
  have a3 : W2.cell? ⟨w.heap.size, 3, none⟩ = some (.int .i64 (clip y1)) := J3.out.1.cell 3 rfl
  have HW : Hid (whR ⟨x0, y0, x1, y1⟩ = boxR ⟨clip x0, clip y0, clip x1, clip y1⟩) := by
    have : whR ⟨x0, y0, x1, y1⟩ = boxR ⟨clip x0, clip y0, clip x1, clip y1⟩ := rfl
    exact this
  obtain ⟨z0, hz0⟩ : ∃ z, z = clip x0 := ⟨_, rfl⟩
  obtain ⟨z1, hz1⟩ : ∃ z, z = clip y0 := ⟨_, rfl⟩
  obtain ⟨z2, hz2⟩ : ∃ z, z = clip x1 := ⟨_, rfl⟩
  obtain ⟨z3, hz3⟩ : ∃ z, z = clip y1 := ⟨_, rfl⟩
  have J4 : Hid (Box W2 w.heap.size (cl4 ⟨z0, z1, z2, z3⟩) ∧ Box W2 (w.heap.size + 1) (cl4 ⟨0, 0, 0, 0⟩) ∧ Below w.heap.size w W2) := by rw [hz0, hz1, hz2, hz3]; exact J3.out
  rw [← hz0] at a0 HW
  rw [← hz1] at a1 HW
  rw [← hz2] at a2 HW
  rw [← hz3] at a3 HW
  clear hz0 hz1 hz2 hz3 J3
  go_wp2_with fail
  refine (empty_c z0 z1 z2 z3 W2).mono ?_; rintro e W3 ⟨rfl, hb3⟩
  have J5 : Hid (Box W3 w.heap.size (cl4 ⟨z0, z1, z2, z3⟩) ∧ Box W3 (w.heap.size + 1) (cl4 ⟨0, 0, 0, 0⟩) ∧ Below w.heap.size w W3) := ⟨J4.out.1.call hb3, J4.out.2.1.call hb3, J4.out.2.2.trans (hb3.mono J4.out.2.2.size)⟩
  clear a0 a1 a2 a3 hb3 J4
  have a0 := J5.out.1.cell 0 rfl
  have a1 := J5.out.1.cell 1 rfl
  have a2 := J5.out.1.cell 2 rfl
  have a3 := J5.out.1.cell 3 rfl
  have r0 := J5.out.2.1.cell 0 rfl
  have r1 := J5.out.2.1.cell 1 rfl
  have r2 := J5.out.2.1.cell 2 rfl
  have r3 := J5.out.2.1.cell 3 rfl
  have f0 := J5.out.2.1.frozen 0
  have f1 := J5.out.2.1.frozen 1
  have f2 := J5.out.2.1.frozen 2
  have f3 := J5.out.2.1.frozen 3
  have hB4 : ∀ u0 u1 u2 u3 : Value, Below w.heap.size w ((((W3.setCell ⟨w.heap.size + 1, 0, none⟩ u0).setCell ⟨w.heap.size + 1, 1, none⟩ u1).setCell ⟨w.heap.size + 1, 2, none⟩ u2).setCell ⟨w.heap.size + 1, 3, none⟩ u3) := fun u0 u1 u2 u3 =>
    (((J5.out.2.2.setCell (by simp) _).setCell (by simp) _).setCell (by simp) _).setCell (by simp) _
  have HB4 : Hid _ := hB4
  clear hB4
  cases he : Rc.emp ⟨z0, z1, z2, z3⟩ with
  | true =>
    have HJ : Hid (whR ⟨x0, y0, x1, y1⟩ = ⟨0, 0, 0, 0⟩) := by
      have : whR ⟨x0, y0, x1, y1⟩ = ⟨0, 0, 0, 0⟩ := by rw [HW.out]; unfold boxR; rw [he]; rfl
      exact this
    clear he
    go_wp2_with fail
    exact ret_rect rfl rfl (set4_box J5.out.2.1 _ _ _ _) rfl ⟨by rw [HJ.out], HB4.out _ _ _ _⟩
  | false =>
    have HJ : Hid (whR ⟨x0, y0, x1, y1⟩ = ⟨z0, z1, z2, z3⟩) := by
      have : whR ⟨x0, y0, x1, y1⟩ = ⟨z0, z1, z2, z3⟩ := by rw [HW.out]; unfold boxR; rw [he]; rfl
      exact this
    clear he
    go_wp2_with fail
    exact ret_rect rfl rfl (set4_box J5.out.2.1 _ _ _ _) rfl ⟨by rw [HJ.out], HB4.out _ _ _ _⟩
end Go.Proofs.YtfjeohnigikmoaaDoor
