/- Texts joined: XYa. -/
import Derived.Test.YtaoamkbcegadcaaGreatDoorPs
import Derived.Test.YtaoamkbcegadcaaGreatDoorAd
import Derived.Test.YtaoamkbcegadcaaGreatDoorAb
set_option maxRecDepth 4000
/- Layer 19: areas, sizes, results. -/
namespace Go.Proofs.YtaoamkbcegadcaaGreatDoor
open Go.RowKit Go.Bx Go.Od Go.Hp
attribute [local go_sem ↓] Go.wp_at_zero Go.wp_at_succ
set_option linter.unusedVariables false

def areaR (r : Rc) : Int := if r.emp then 0 else if (2305843009213693952 : Int) / (r.y1 - r.y0) < r.x1 - r.x0 then 2305843009213693952 else (r.x1 - r.x0) * (r.y1 - r.y0)
theorem emp_ff (r : Rc) : r.emp = false ↔ r.x0 < r.x1 ∧ r.y0 < r.y1 := by simp [Rc.emp]
set_option maxHeartbeats 1600000 in
theorem area_c (r : Rc) (w : World) (hr : RcP r) : Calls Tryz.prog 54 #[rv r] w (PPost w (.int .i64 (areaR r))) := by
  obtain ⟨x0, y0, x1, y1⟩ := r
  have HR : Hid (RcP ⟨x0, y0, x1, y1⟩) := hr
  go_enter Tryz.func54, Tryz.ntmps54
  have X := Box.new w (cl4 ⟨x0, y0, x1, y1⟩) 26
  have hb1 := below_new w (.cells (cs4 x0 y0 x1 y1) 26)
  go_wp2_with fail
  refine (empty_c x0 y0 x1 y1 _).mono ?_; rintro e w2 ⟨rfl, hb2⟩
  have H2 : Hid (Box w2 w.heap.size (cl4 ⟨x0, y0, x1, y1⟩) ∧ Below w.heap.size w w2) := ⟨X.call hb2, hb1.trans (hb2.mono hb1.size)⟩
  clear X hb1 hb2 hr
  obtain ⟨e, he⟩ : ∃ e, e = Rc.emp ⟨x0, y0, x1, y1⟩ := ⟨_, rfl⟩
  have HEM : Hid (e = Rc.emp ⟨x0, y0, x1, y1⟩) := he
  rw [← he]
  clear he
  cases e with
  | true =>
    have HE : Hid (areaR ⟨x0, y0, x1, y1⟩ = 0) := by
      have : areaR ⟨x0, y0, x1, y1⟩ = 0 := by unfold areaR; rw [← HEM.out]; rfl
      exact this
    go_wp2_with fail
    go_ret
    exact ⟨by rw [HE.out]; rfl, H2.out.2⟩
  | false =>
    obtain ⟨c0, c1, c2, c3⟩ := box4 H2.out.1
    have hem : (Rc.emp ⟨x0, y0, x1, y1⟩) = false := HEM.out.symm
    rw [emp_ff] at hem
    obtain ⟨r0, r1, r2, r3⟩ := HR.out
    unfold Pl at r0 r1 r2 r3
    have k0 := fun s : Kept w2.heap.size w2 => s.at c0
    have k1 := fun s : Kept w2.heap.size w2 => s.at c1
    have k2 := fun s : Kept w2.heap.size w2 => s.at c2
    have k3 := fun s : Kept w2.heap.size w2 => s.at c3
    dsimp only at hem r0 r1 r2 r3
    have hw0 : 0 < x1 - x0 := by omega
    have hh0 : 0 < y1 - y0 := by omega
    have HE0 : Hid (areaR ⟨x0, y0, x1, y1⟩ = if (2305843009213693952 : Int) / (y1 - y0) < x1 - x0 then 2305843009213693952 else (x1 - x0) * (y1 - y0)) := by
      have : areaR ⟨x0, y0, x1, y1⟩ = if (2305843009213693952 : Int) / (y1 - y0) < x1 - x0 then 2305843009213693952 else (x1 - x0) * (y1 - y0) := by unfold areaR; rw [← HEM.out]; rfl
      exact this
    clear c0 c1 c2 c3
    go_wp2_with fail
    refine wp_region_kept w2.heap.size (by kernel_rfl) (by kernel_rfl) ?_
    repeat (go_big_quiet_step (fail))
    refine wpQuiet_nil ?_
    rintro _ ⟨s, rfl⟩
    have HB : Hid (Below w.heap.size w s.w) := H2.out.2.trans (s.below.mono H2.out.2.size)
    clear k0 k1 k2 k3
    by_cases hc : (2305843009213693952 : Int) / (y1 - y0) < x1 - x0
    · have HE : Hid (areaR ⟨x0, y0, x1, y1⟩ = 2305843009213693952) := HE0.out.trans (if_pos hc)
      go_wp2_with fail
      go_ret
      exact ⟨by rw [HE.out]; rfl, HB.out⟩
    · have hm : (x1 - x0) * (y1 - y0) ≤ 2305843009213693952 := Int.mul_le_of_le_ediv hh0 (by omega)
      have hp : 0 < (x1 - x0) * (y1 - y0) := Int.mul_pos hw0 hh0
      have HE : Hid (wrap64 ((x1 - x0) * (y1 - y0)) = areaR ⟨x0, y0, x1, y1⟩) := by
        have : wrap64 ((x1 - x0) * (y1 - y0)) = areaR ⟨x0, y0, x1, y1⟩ := by
          rw [HE0.out, if_neg hc]
          generalize (x1 - x0) * (y1 - y0) = q at *
          unfold wrap64
          omega
        exact this
      clear hm hp
      go_wp2_with fail
      go_ret
      exact ⟨by rw [← HE.out]; rfl, HB.out⟩
theorem areaR_bd (r : Rc) (hr : RcP r) : 0 ≤ areaR r ∧ areaR r ≤ 2305843009213693952 := by
  unfold areaR
  split
  · omega
  · rename_i he
    have he' : r.emp = false := by simpa using he
    rw [emp_ff] at he'
    split
    · omega
    · rename_i hc
      have hm : (r.x1 - r.x0) * (r.y1 - r.y0) ≤ 2305843009213693952 := Int.mul_le_of_le_ediv (by omega) (by omega)
      have hp : 0 < (r.x1 - r.x0) * (r.y1 - r.y0) := Int.mul_pos (by omega) (by omega)
      omega
end Go.Proofs.YtaoamkbcegadcaaGreatDoor
