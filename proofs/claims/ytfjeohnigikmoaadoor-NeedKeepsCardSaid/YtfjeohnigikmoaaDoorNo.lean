/- Layer 14: need.box, need.one. -/
import Derived.Test.YtfjeohnigikmoaaDoorRf
import Derived.Test.YtfjeohnigikmoaaDoorOg
namespace Go.Proofs.YtfjeohnigikmoaaDoor
open Go.RowKit Go.Bx Go.Od Go.Hp
attribute [local go_sem ↓] Go.wp_at_zero Go.wp_at_succ
set_option linter.unusedVariables false

def pbox (p : List Int) : Rc := ⟨p.getD 0 0, p.getD 1 0, p.getD 2 0, p.getD 3 0⟩
/-- the first cells of a list -/
theorem sl_cells {F : Nat → Prop} {w : World} {v : Value} {p : List Int} (h : SlOf RInt 1 F w v p) (h0 : 0 < p.length) : ∃ b o c, v = .slice (some ⟨b, o, none⟩) p.length c ∧ F b ∧ (∀ j, j < p.length → w.cell? ⟨b, o + j, none⟩ = some (.int .i64 (p.getD j 0))) ∧ p.length ≤ c ∧ c ≤ maxLen := by
  obtain ⟨a, cap, rfl, hcap, hcm, hin, hcell⟩ := h.ints
  obtain ⟨b, o, rfl, hF, hc⟩ := hcell 0 h0
  exact ⟨b, o, cap, rfl, hF, hc, hcap, hcm⟩
set_option maxRecDepth 4000 in
set_option maxHeartbeats 3200000 in
theorem pbox_c {F : Nat → Prop} (v : Value) (p : List Int) (w : World) (h : SlOf RInt 1 F w v p) (h4 : 4 ≤ p.length) : Calls Tryd.prog 42 #[v] w (PPost w (rv (pbox p))) := by
  obtain ⟨b, o, c, rfl, hF, hc, hcap, hcm⟩ := sl_cells h (by omega)
  have c0 := hc 0 (by omega)
  have c1 := hc 1 (by omega)
  have c2 := hc 2 (by omega)
  have c3 := hc 3 (by omega)
  rw [Nat.add_zero] at c0
  obtain ⟨q0, hq0⟩ : ∃ q, q = p.getD 0 0 := ⟨_, rfl⟩
  obtain ⟨q1, hq1⟩ : ∃ q, q = p.getD 1 0 := ⟨_, rfl⟩
  obtain ⟨q2, hq2⟩ : ∃ q, q = p.getD 2 0 := ⟨_, rfl⟩
  obtain ⟨q3, hq3⟩ : ∃ q, q = p.getD 3 0 := ⟨_, rfl⟩
  have HQ : Hid (pbox p = ⟨q0, q1, q2, q3⟩) := by
    have : pbox p = ⟨q0, q1, q2, q3⟩ := by unfold pbox; rw [hq0, hq1, hq2, hq3]
    exact this
  rw [← hq0] at c0
  rw [← hq1] at c1
  rw [← hq2] at c2
  rw [← hq3] at c3
  obtain ⟨n, hn⟩ : ∃ n, n = p.length := ⟨_, rfl⟩
  rw [← hn] at h4 hcap ⊢
  have R0 := Box.new w (cl4 ⟨0, 0, 0, 0⟩) 26
  have HB : Hid (Box (w.alloc (.cells (cs4 0 0 0 0) 26)) w.heap.size (cl4 ⟨0, 0, 0, 0⟩) ∧ Below w.heap.size w (w.alloc (.cells (cs4 0 0 0 0) 26))) := ⟨R0, below_new _ _⟩
  have d0 := cell_alloc_lt c0 (.cells (cs4 0 0 0 0) 26)
  have d1 := cell_alloc_lt c1 (.cells (cs4 0 0 0 0) 26)
  have d2 := cell_alloc_lt c2 (.cells (cs4 0 0 0 0) 26)
  have d3 := cell_alloc_lt c3 (.cells (cs4 0 0 0 0) 26)
  unfold maxLen at hcm
  clear hq0 hq1 hq2 hq3 hn hc h c0 c1 c2 c3 R0
  go_enter Tryd.func42, Tryd.ntmps42
  go_wp2_with fail
  generalize w.alloc (.cells (cs4 0 0 0 0) 26) = W1 at *
  have k0 := fun s : Kept W1.heap.size W1 => s.at d0
  have k1 := fun s : Kept W1.heap.size W1 => s.at d1
  have k2 := fun s : Kept W1.heap.size W1 => s.at d2
  have k3 := fun s : Kept W1.heap.size W1 => s.at d3
  clear d0 d1 d2 d3
  refine wp_region_kept_last W1.heap.size 13 _ rfl rfl (by kernel_rfl) (by kernel_rfl) ?_
  simp only [List.take_succ_cons, List.take_zero]
  repeat (go_big_quiet_step (fail))
  refine wpQuiet_nil ?_
  intro s
  have J5 : Hid (Box s.w w.heap.size (cl4 ⟨0, 0, 0, 0⟩) ∧ Below w.heap.size w s.w) := ⟨HB.out.1.call s.below, HB.out.2.trans (s.below.mono HB.out.2.size)⟩
  have r0 := J5.out.1.cell 0 rfl
  have r1 := J5.out.1.cell 1 rfl
  have r2 := J5.out.1.cell 2 rfl
  have r3 := J5.out.1.cell 3 rfl
  have f0 := J5.out.1.frozen 0
  have f1 := J5.out.1.frozen 1
  have f2 := J5.out.1.frozen 2
  have f3 := J5.out.1.frozen 3
  refine ⟨steps_plain rfl (gives_mono (R := fun v w' => v = undef ∧ w' = (((s.w.setCell ⟨w.heap.size, 0, none⟩ (.int .i64 q0)).setCell ⟨w.heap.size, 1, none⟩ (.int .i64 q1)).setCell ⟨w.heap.size, 2, none⟩ (.int .i64 q2)).setCell ⟨w.heap.size, 3, none⟩ (.int .i64 q3)) ?_ ?_)⟩
  · simp [gives, go_sem, r0, r1, r2, r3, f0, f1, f2, f3]
  · rintro _ _ ⟨rfl, rfl⟩
    clear k0 k1 k2 k3
    go_wp2_with fail
    exact ret_rect rfl rfl (set4_box J5.out.1 _ _ _ _) rfl ⟨by rw [HQ.out], (((J5.out.2.setCell (by simp) _).setCell (by simp) _).setCell (by simp) _).setCell (by simp) _⟩
/-- what a node needs of an input -/
def oneN (nd : Nd) (want : Rc) : Rc :=
  if nd.op = 1 then moveR want (-(nd.p.getD 0 0)) (-(nd.p.getD 1 0))
  else if nd.op = 2 ∨ nd.op = 3 ∨ nd.op = 4 then growR want (nd.p.getD 0 0) (nd.p.getD 1 0) (nd.p.getD 0 0) (nd.p.getD 1 0)
  else if nd.op = 12 then meetR want (pbox nd.p)
  else if nd.op = 10 then (if wiR want (pbox nd.p) then want else pbox nd.p)
  else if nd.op = 11 then joinR want (growR (moveR want (-(nd.p.getD 0 0)) (-(nd.p.getD 1 0))) (nd.p.getD 2 0) (nd.p.getD 3 0) (nd.p.getD 2 0) (nd.p.getD 3 0))
  else want
/-- its parameters are right -/
structure PaOk (nd : Nd) : Prop where
  mv : nd.op = 1 ∨ nd.op = 11 → 2 ≤ nd.p.length ∧ (-1048576 ≤ nd.p.getD 0 0 ∧ nd.p.getD 0 0 ≤ 1048576) ∧ (-1048576 ≤ nd.p.getD 1 0 ∧ nd.p.getD 1 0 ≤ 1048576)
  gr : nd.op = 2 ∨ nd.op = 3 ∨ nd.op = 4 → 2 ≤ nd.p.length ∧ (0 ≤ nd.p.getD 0 0 ∧ nd.p.getD 0 0 ≤ 255) ∧ (0 ≤ nd.p.getD 1 0 ∧ nd.p.getD 1 0 ≤ 255)
  bx : nd.op = 12 ∨ nd.op = 10 → 4 ≤ nd.p.length ∧ RcP (pbox nd.p)
  sh : nd.op = 11 → 4 ≤ nd.p.length ∧ (0 ≤ nd.p.getD 2 0 ∧ nd.p.getD 2 0 ≤ 255) ∧ (0 ≤ nd.p.getD 3 0 ∧ nd.p.getD 3 0 ≤ 255)
theorem clip_pl (x : Int) : Pl (clip x) := by unfold Pl clip; omega
theorem zero_pl : RcP Rc.zero := by refine ⟨?_, ?_, ?_, ?_⟩ <;> (unfold Pl Rc.zero; dsimp only; omega)
theorem boxR_pl {r : Rc} (h : RcP r) : RcP (boxR r) := by
  unfold boxR
  split
  · exact zero_pl
  · exact h
theorem whR_pl (r : Rc) : RcP (whR r) := boxR_pl ⟨clip_pl _, clip_pl _, clip_pl _, clip_pl _⟩
theorem moveR_pl (r : Rc) (a b : Int) : RcP (moveR r a b) := by
  unfold moveR
  split
  · exact zero_pl
  · exact whR_pl _
theorem growR_pl (r : Rc) (a b c d : Int) : RcP (growR r a b c d) := by
  unfold growR
  split
  · exact zero_pl
  · exact whR_pl _
theorem joinR_pl {a b : Rc} (ha : RcP a) (hb : RcP b) : RcP (joinR a b) := by
  unfold joinR
  split
  · split
    · exact zero_pl
    · exact hb
  · split
    · exact ha
    · obtain ⟨a0, a1, a2, a3⟩ := ha
      obtain ⟨b0, b1, b2, b3⟩ := hb
      unfold Pl at *
      refine ⟨?_, ?_, ?_, ?_⟩ <;> (unfold Pl; dsimp only; omega)
theorem meetR_pl {a b : Rc} (ha : RcP a) (hb : RcP b) : RcP (meetR a b) := by
  refine boxR_pl ?_
  obtain ⟨a0, a1, a2, a3⟩ := ha
  obtain ⟨b0, b1, b2, b3⟩ := hb
  unfold Pl at *
  refine ⟨?_, ?_, ?_, ?_⟩ <;> (unfold Pl; dsimp only; omega)
theorem oneN_pl {nd : Nd} {r : Rc} (h : PaOk nd) (hr : RcP r) : RcP (oneN nd r) := by
  unfold oneN
  split
  · exact moveR_pl _ _ _
  · split
    · exact growR_pl _ _ _ _ _
    · split
      · exact meetR_pl hr (h.bx (.inl (by assumption))).2
      · split
        · split
          · exact hr
          · exact (h.bx (.inr (by assumption))).2
        · split
          · exact joinR_pl hr (growR_pl _ _ _ _ _)
          · exact hr
end Go.Proofs.YtfjeohnigikmoaaDoor
