/- Layer 11: the document's Same, of two graphs alike. -/
import Derived.Test.YtfjeohnigikmoaaDoorGa
namespace Go.Proofs.YtfjeohnigikmoaaDoor
open Go.RowKit Go.Bx Go.Od Go.Hp
attribute [local go_sem ↓] Go.wp_at_zero Go.wp_at_succ
set_option linter.unusedVariables false

set_option maxRecDepth 4000 in
set_option maxHeartbeats 3200000 in
theorem same_c (B C : Nat) (nv mv : Value) (nds : List Nd) (out : Int) (w : World) (hm : nds.length ≤ 999) (hg : Gr B w nv nds) (hB : B ≤ w.heap.size) (hh : Gr C w mv nds) (hC : C ≤ w.heap.size) :
    Calls Tryd.prog 15 #[.agg #[nv, .int .i64 out], .agg #[mv, .int .i64 out]] w (PPost w (.bool true)) := by
  obtain ⟨ga, gc, rfl⟩ := hg.isSl
  obtain ⟨ha, hc, rfl⟩ := hh.isSl
  have X := (Box.new w [.slice ga nds.length gc, .int .i64 out] 24).alloc (.cells #[.slice ha nds.length hc, .int .i64 out] 24)
  have Y := Box.new (w.alloc (.cells #[.slice ga nds.length gc, .int .i64 out] 24)) [.slice ha nds.length hc, .int .i64 out] 24
  rw [size_alloc] at Y
  have B0 : Below w.heap.size w ((w.alloc (.cells #[.slice ga nds.length gc, .int .i64 out] 24)).alloc (.cells #[.slice ha nds.length hc, .int .i64 out] 24)) := (below_alloc w _).alloc (by rw [size_alloc]; omega) _
  have HG : Hid (∀ W, Below w.heap.size w W → Gr B W (.slice ga nds.length gc) nds ∧ Gr C W (.slice ha nds.length hc) nds) := fun W hb => ⟨hg.below hb hB, hh.below hb hC⟩
  clear hg hh
  go_enter Tryd.func15, Tryd.ntmps15
  go_wp2_with fail
  have x0 := X.cell 0 rfl
  have x1 := X.cell 1 rfl
  have y0 := Y.cell 0 rfl
  have y1 := Y.cell 1 rfl
  have H0 : Hid (Box ((w.alloc (.cells #[.slice ga nds.length gc, .int .i64 out] 24)).alloc (.cells #[.slice ha nds.length hc, .int .i64 out] 24)) w.heap.size [.slice ga nds.length gc, .int .i64 out] ∧ Box ((w.alloc (.cells #[.slice ga nds.length gc, .int .i64 out] 24)).alloc (.cells #[.slice ha nds.length hc, .int .i64 out] 24)) (w.heap.size + 1) [.slice ha nds.length hc, .int .i64 out] ∧ Below w.heap.size w ((w.alloc (.cells #[.slice ga nds.length gc, .int .i64 out] 24)).alloc (.cells #[.slice ha nds.length hc, .int .i64 out] 24))) := ⟨X, Y, B0⟩
  clear X Y B0
  generalize (w.alloc (.cells #[.slice ga nds.length gc, .int .i64 out] 24)).alloc (.cells #[.slice ha nds.length hc, .int .i64 out] 24) = W0 at *
  have q0 : (out == out) = true := by simp
  have q1 : ((nds.length : Int) == (nds.length : Int)) = true := by simp
  clear x0 x1 y0 y1
  go_loopw [5] (fun iv wr => ∃ i : Nat, i ≤ nds.length ∧ iv = .int .i64 i ∧ Below W0.heap.size W0 wr) (fun iv _ => nds.length - (intOf iv).toNat)
  case atStart => exact ⟨0, Nat.zero_le _, rfl, Below.refl _ _⟩
  case round =>
    obtain ⟨i, hi, rfl, hb⟩ := hrel
    have HB : Hid (Below W0.heap.size W0 wr) := hb
    have g0 := (H0.out.1.call hb).cell 0 rfl
    have h0 := (H0.out.2.1.call hb).cell 0 rfl
    by_cases hil : i < nds.length
    · have hgw := HG.out wr (H0.out.2.2.trans (hb.mono H0.out.2.2.size))
      obtain ⟨b, o, cap, ia, ic, pa, pc, hv, hbB, hcap, hcm, k0, k1, k2, s1, s2⟩ := hgw.1.node hil
      simp only [Value.slice.injEq] at hv
      obtain ⟨rfl, _, rfl⟩ := hv
      obtain ⟨b', o', cap', ia', ic', pa', pc', hv, hbB', hcap', hcm', m0, m1, m2, t1, t2⟩ := hgw.2.node hil
      simp only [Value.slice.injEq] at hv
      obtain ⟨rfl, _, rfl⟩ := hv
      have HA : Hid ((∀ s : Kept wr.heap.size wr, Calls Tryd.prog 30 #[.slice ia (nds.getD i Nd.none).ins.length ic, .slice ia' (nds.getD i Nd.none).ins.length ic'] s.w (PPost s.w (.bool true))) ∧
          (∀ s : Kept wr.heap.size wr, Calls Tryd.prog 30 #[.slice pa (nds.getD i Nd.none).p.length pc, .slice pa' (nds.getD i Nd.none).p.length pc'] s.w (PPost s.w (.bool true)))) := by
        have hBw : B ≤ wr.heap.size := Nat.le_trans hB (Nat.le_trans H0.out.2.2.size hb.size)
        have hCw : C ≤ wr.heap.size := Nat.le_trans hC (Nat.le_trans H0.out.2.2.size hb.size)
        refine ⟨fun s => ?_, fun s => ?_⟩
        · have h := equal_c _ _ (nds.getD i Nd.none).ins (nds.getD i Nd.none).ins s.w (sl_below s1 (s.below.mono hBw)) (sl_below t1 (s.below.mono hCw))
          rw [decide_eq_true rfl] at h
          exact h
        · have h := equal_c _ _ (nds.getD i Nd.none).p (nds.getD i Nd.none).p s.w (sl_below s2 (s.below.mono hBw)) (sl_below t2 (s.below.mono hCw))
          rw [decide_eq_true rfl] at h
          exact h
      obtain ⟨L1, hL1⟩ : ∃ L, L = (nds.getD i Nd.none).ins.length := ⟨_, rfl⟩
      obtain ⟨L2, hL2⟩ : ∃ L, L = (nds.getD i Nd.none).p.length := ⟨_, rfl⟩
      obtain ⟨O, hO⟩ : ∃ O, O = (nds.getD i Nd.none).op := ⟨_, rfl⟩
      rw [← hL1, ← hL2] at HA
      rw [← hL1] at k1 m1
      rw [← hL2] at k2 m2
      rw [← hO] at k0 m0
      have r0 := fun s : Kept wr.heap.size wr => s.at g0
      have r1 := fun s : Kept wr.heap.size wr => s.at h0
      have r2 := fun s : Kept wr.heap.size wr => s.at k0
      have r3 := fun s : Kept wr.heap.size wr => s.at k1
      have r4 := fun s : Kept wr.heap.size wr => s.at k2
      have r5 := fun s : Kept wr.heap.size wr => s.at m0
      have r6 := fun s : Kept wr.heap.size wr => s.at m1
      have r7 := fun s : Kept wr.heap.size wr => s.at m2
      have hi0 : (0 : Int) ≤ (i : Int) := by omega
      have hi1 : (i : Int) < (nds.length : Int) := by omega
      unfold maxLen at hcm hcm'
      clear hb hgw s1 s2 t1 t2 hL1 hL2 hO k0 k1 k2 m0 m1 m2
      go_wp2_with fail
      clear g0 h0
      refine wp_region_kept wr.heap.size (by kernel_rfl) (by kernel_rfl) ?_
      repeat (go_big_quiet_step (first
        | (go_at_call 30; with_reducible exact Calls.kept _ (Nat.le_refl _) (HA.out.1 _))
        | (go_at_call 30; with_reducible exact Calls.kept _ (Nat.le_refl _) (HA.out.2 _))))
      refine wpQuiet_nil ?_
      rintro _ ⟨s, rfl⟩
      have HE : Hid (Below W0.heap.size W0 s.w) := HB.out.trans (s.below.mono HB.out.size)
      clear r0 r1 r2 r3 r4 r5 r6 r7 HA
      go_wp2_with fail
      go_roundw
      case rel => exact ⟨i + 1, by omega, by go_num, HE.out⟩
      case measure => simp [intOf]; omega
    · have ei : i = nds.length := by omega
      subst ei
      have HE : Hid (Below w.heap.size w wr) := H0.out.2.2.trans (hb.mono H0.out.2.2.size)
      clear hb
      go_wp2_with fail
      go_ret
      exact ⟨rfl, HE.out⟩
end Go.Proofs.YtfjeohnigikmoaaDoor
