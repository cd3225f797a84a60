/- Texts joined: XEi. -/
import Derived.Test.YtgodhpampaleeaaDoorEh
import Derived.Test.YtgodhpampaleeaaDoorBag
set_option maxRecDepth 4000
/- Layer 24: extent.below, Group, Result. (Printed by mk_ei.py.) -/
namespace Go.Proofs.YtgodhpampaleeaaDoor
open Go.RowKit Go.Bx Go.Od Go.Hp
attribute [local go_sem ↓] Go.wp_at_zero Go.wp_at_succ
set_option linter.unusedVariables false

set_option maxRecDepth 8000 in
set_option maxHeartbeats 12800000 in
theorem below_c (B : Nat) (r : Rc) (k : Lk) (pv fv bv : Value) (w : World) (hA : LkAt (· < B) w k pv fv bv) (hB : B ≤ w.heap.size) (hk : LkOk k) (hr : RcP r) : Calls Tryd.prog 22 #[rv r, lkv k pv fv bv] w (PPost w (rv (belowR r k))) := by
  obtain ⟨R, hR⟩ : ∃ R, R = belowR r k := ⟨_, rfl⟩
  have HR : Hid (R = belowR r k) := Lib.hid hR
  rw [← hR]
  obtain ⟨x0, y0, x1, y1⟩ := r
  have HK : Hid (LkOk k ∧ RcP ⟨x0, y0, x1, y1⟩ ∧ LkAt (· < B) w k pv fv bv ∧ B ≤ w.heap.size) := ⟨hk, hr, hA, hB⟩
  clear hk hR hr hA hB
  cases hC : k.hasB with
  | false =>
    obtain rfl : R = ⟨x0, y0, x1, y1⟩ := by rw [HR.out]; unfold belowR; rw [hC]; rfl
    clear HR
    go_enter Tryd.func22, Tryd.ntmps22
    go_wp2_with fail
    have HF : Bag w (((w.alloc (.cells (cs4 x0 y0 x1 y1) 25)).alloc (.cells #[.int .i64 k.dx, .int .i64 k.dy, .bool k.hasC, .int .i64 k.clip.x0, .int .i64 k.clip.y0, .int .i64 k.clip.x1, .int .i64 k.clip.y1, .int .i64 k.opa, .int .i64 k.mode, .int .i64 k.ct.kind, .int .i64 k.ct.box.x0, .int .i64 k.ct.box.y0, .int .i64 k.ct.box.x1, .int .i64 k.ct.box.y1, .int .u8 k.ct.px.r, .int .u8 k.ct.px.g, .int .u8 k.ct.px.b, .int .u8 k.ct.px.a, .int .i64 k.ct.w, .int .i64 k.ct.h, .int .i64 k.ct.turn, pv, .bool k.hasF, fv, .int .i64 k.fil.out, .bool false, bv, .int .i64 k.bak.out] 35)).alloc (.cells (cs4 x0 y0 x1 y1) 25)) [(w.heap.size, cl4 ⟨x0, y0, x1, y1⟩), (w.heap.size + 1, [.int .i64 k.dx, .int .i64 k.dy, .bool k.hasC, .int .i64 k.clip.x0, .int .i64 k.clip.y0, .int .i64 k.clip.x1, .int .i64 k.clip.y1, .int .i64 k.opa, .int .i64 k.mode, .int .i64 k.ct.kind, .int .i64 k.ct.box.x0, .int .i64 k.ct.box.y0, .int .i64 k.ct.box.x1, .int .i64 k.ct.box.y1, .int .u8 k.ct.px.r, .int .u8 k.ct.px.g, .int .u8 k.ct.px.b, .int .u8 k.ct.px.a, .int .i64 k.ct.w, .int .i64 k.ct.h, .int .i64 k.ct.turn, pv, .bool k.hasF, fv, .int .i64 k.fil.out, .bool false, bv, .int .i64 k.bak.out]), (w.heap.size + 1 + 1, cl4 ⟨x0, y0, x1, y1⟩)] := bag3 w (cl4 ⟨x0, y0, x1, y1⟩) [.int .i64 k.dx, .int .i64 k.dy, .bool k.hasC, .int .i64 k.clip.x0, .int .i64 k.clip.y0, .int .i64 k.clip.x1, .int .i64 k.clip.y1, .int .i64 k.opa, .int .i64 k.mode, .int .i64 k.ct.kind, .int .i64 k.ct.box.x0, .int .i64 k.ct.box.y0, .int .i64 k.ct.box.x1, .int .i64 k.ct.box.y1, .int .u8 k.ct.px.r, .int .u8 k.ct.px.g, .int .u8 k.ct.px.b, .int .u8 k.ct.px.a, .int .i64 k.ct.w, .int .i64 k.ct.h, .int .i64 k.ct.turn, pv, .bool k.hasF, fv, .int .i64 k.fil.out, .bool false, bv, .int .i64 k.bak.out] (cl4 ⟨x0, y0, x1, y1⟩) _ _ _
    exact ret_rect (g := w.heap.size + 1 + 1) (r := ⟨x0, y0, x1, y1⟩) rfl rfl (HF.box 2 rfl) rfl ⟨rfl, HF.below⟩
  | true =>
    have H0 : Hid (Bag w (((w.alloc (.cells (cs4 x0 y0 x1 y1) 25)).alloc (.cells #[.int .i64 k.dx, .int .i64 k.dy, .bool k.hasC, .int .i64 k.clip.x0, .int .i64 k.clip.y0, .int .i64 k.clip.x1, .int .i64 k.clip.y1, .int .i64 k.opa, .int .i64 k.mode, .int .i64 k.ct.kind, .int .i64 k.ct.box.x0, .int .i64 k.ct.box.y0, .int .i64 k.ct.box.x1, .int .i64 k.ct.box.y1, .int .u8 k.ct.px.r, .int .u8 k.ct.px.g, .int .u8 k.ct.px.b, .int .u8 k.ct.px.a, .int .i64 k.ct.w, .int .i64 k.ct.h, .int .i64 k.ct.turn, pv, .bool k.hasF, fv, .int .i64 k.fil.out, .bool true, bv, .int .i64 k.bak.out] 35)).alloc (.cells (cs4 0 0 0 0) 25)) [(w.heap.size, cl4 ⟨x0, y0, x1, y1⟩), (w.heap.size + 1, [.int .i64 k.dx, .int .i64 k.dy, .bool k.hasC, .int .i64 k.clip.x0, .int .i64 k.clip.y0, .int .i64 k.clip.x1, .int .i64 k.clip.y1, .int .i64 k.opa, .int .i64 k.mode, .int .i64 k.ct.kind, .int .i64 k.ct.box.x0, .int .i64 k.ct.box.y0, .int .i64 k.ct.box.x1, .int .i64 k.ct.box.y1, .int .u8 k.ct.px.r, .int .u8 k.ct.px.g, .int .u8 k.ct.px.b, .int .u8 k.ct.px.a, .int .i64 k.ct.w, .int .i64 k.ct.h, .int .i64 k.ct.turn, pv, .bool k.hasF, fv, .int .i64 k.fil.out, .bool true, bv, .int .i64 k.bak.out]), (w.heap.size + 1 + 1, cl4 ⟨0, 0, 0, 0⟩)]) := bag3 w (cl4 ⟨x0, y0, x1, y1⟩) [.int .i64 k.dx, .int .i64 k.dy, .bool k.hasC, .int .i64 k.clip.x0, .int .i64 k.clip.y0, .int .i64 k.clip.x1, .int .i64 k.clip.y1, .int .i64 k.opa, .int .i64 k.mode, .int .i64 k.ct.kind, .int .i64 k.ct.box.x0, .int .i64 k.ct.box.y0, .int .i64 k.ct.box.x1, .int .i64 k.ct.box.y1, .int .u8 k.ct.px.r, .int .u8 k.ct.px.g, .int .u8 k.ct.px.b, .int .u8 k.ct.px.a, .int .i64 k.ct.w, .int .i64 k.ct.h, .int .i64 k.ct.turn, pv, .bool k.hasF, fv, .int .i64 k.fil.out, .bool true, bv, .int .i64 k.bak.out] (cl4 ⟨0, 0, 0, 0⟩) _ _ _
    obtain ⟨a, ha⟩ : ∃ a, a = reachG k.bak ⟨x0, y0, x1, y1⟩ := ⟨_, rfl⟩
    obtain ⟨b, hb⟩ : ∃ b, b = areaL k := ⟨_, rfl⟩
    obtain ⟨m, hm⟩ : ∃ m, m = meetR a b := ⟨_, rfl⟩
    have HRR : Hid (R = joinR ⟨x0, y0, x1, y1⟩ m ∧ a = reachG k.bak ⟨x0, y0, x1, y1⟩ ∧ b = areaL k ∧ m = meetR a b) := by
      refine ⟨?_, ha, hb, hm⟩
      rw [HR.out, hm, ha, hb]
      unfold belowR
      rw [hC]
      rfl
    have HG : Hid (GoodR k.bak) := HK.out.1.bak hC
    have HAR : Hid (∀ W, Calls Tryd.prog 39 #[.agg #[.int .i64 k.dx, .int .i64 k.dy, .bool k.hasC, .int .i64 k.clip.x0, .int .i64 k.clip.y0, .int .i64 k.clip.x1, .int .i64 k.clip.y1, .int .i64 k.opa, .int .i64 k.mode, .int .i64 k.ct.kind, .int .i64 k.ct.box.x0, .int .i64 k.ct.box.y0, .int .i64 k.ct.box.x1, .int .i64 k.ct.box.y1, .int .u8 k.ct.px.r, .int .u8 k.ct.px.g, .int .u8 k.ct.px.b, .int .u8 k.ct.px.a, .int .i64 k.ct.w, .int .i64 k.ct.h, .int .i64 k.ct.turn, pv, .bool k.hasF, fv, .int .i64 k.fil.out, .bool true, bv, .int .i64 k.bak.out]] W (PPost W (.agg #[.int .i64 b.x0, .int .i64 b.y0, .int .i64 b.x1, .int .i64 b.y1]))) := fun W => by
      rw [HRR.out.2.2.1]
      have h : Calls Tryd.prog 39 #[.agg #[.int .i64 k.dx, .int .i64 k.dy, .bool k.hasC, .int .i64 k.clip.x0, .int .i64 k.clip.y0, .int .i64 k.clip.x1, .int .i64 k.clip.y1, .int .i64 k.opa, .int .i64 k.mode, .int .i64 k.ct.kind, .int .i64 k.ct.box.x0, .int .i64 k.ct.box.y0, .int .i64 k.ct.box.x1, .int .i64 k.ct.box.y1, .int .u8 k.ct.px.r, .int .u8 k.ct.px.g, .int .u8 k.ct.px.b, .int .u8 k.ct.px.a, .int .i64 k.ct.w, .int .i64 k.ct.h, .int .i64 k.ct.turn, pv, .bool k.hasF, fv, .int .i64 k.fil.out, .bool k.hasB, bv, .int .i64 k.bak.out]] W (PPost W (rv (areaL k))) := area24_c k pv fv bv W HK.out.1
      rw [hC] at h
      exact h
    clear HR ha hb hm
    go_enter Tryd.func22, Tryd.ntmps22
    go_wp2_with fail
    clear hC
    generalize (((w.alloc (.cells (cs4 x0 y0 x1 y1) 25)).alloc (.cells #[.int .i64 k.dx, .int .i64 k.dy, .bool k.hasC, .int .i64 k.clip.x0, .int .i64 k.clip.y0, .int .i64 k.clip.x1, .int .i64 k.clip.y1, .int .i64 k.opa, .int .i64 k.mode, .int .i64 k.ct.kind, .int .i64 k.ct.box.x0, .int .i64 k.ct.box.y0, .int .i64 k.ct.box.x1, .int .i64 k.ct.box.y1, .int .u8 k.ct.px.r, .int .u8 k.ct.px.g, .int .u8 k.ct.px.b, .int .u8 k.ct.px.a, .int .i64 k.ct.w, .int .i64 k.ct.h, .int .i64 k.ct.turn, pv, .bool k.hasF, fv, .int .i64 k.fil.out, .bool true, bv, .int .i64 k.bak.out] 35)).alloc (.cells (cs4 0 0 0 0) 25)) = W1 at *
    have M0 : Hid (∀ s : Kept W1.heap.size W1, Calls Tryd.prog 23 #[.agg #[bv, .int .i64 k.bak.out], .agg #[.int .i64 x0, .int .i64 y0, .int .i64 x1, .int .i64 y1]] s.w (PPost s.w (.agg #[.int .i64 a.x0, .int .i64 a.y0, .int .i64 a.x1, .int .i64 a.y1]))) := fun s => by
      rw [HRR.out.2.1]
      have hbl := H0.out.below.trans (s.below.mono H0.out.below.size)
      exact reachAll_c B bv k.bak ⟨x0, y0, x1, y1⟩ s.w HG.out (SlOf.same RNode.ok (Same.of_below hbl fun b hb => Nat.lt_of_lt_of_le hb HK.out.2.2.2) HK.out.2.2.1.2.2.2) (Nat.le_trans HK.out.2.2.2 hbl.size) HK.out.2.1
    have M2 : Hid (∀ s : Kept W1.heap.size W1, Calls Tryd.prog 24 #[.agg #[.int .i64 a.x0, .int .i64 a.y0, .int .i64 a.x1, .int .i64 a.y1], .agg #[.int .i64 b.x0, .int .i64 b.y0, .int .i64 b.x1, .int .i64 b.y1]] s.w (PPost s.w (.agg #[.int .i64 m.x0, .int .i64 m.y0, .int .i64 m.x1, .int .i64 m.y1]))) := fun s => by rw [HRR.out.2.2.2]; exact meet_c a b s.w
    have M3 : Hid (∀ s : Kept W1.heap.size W1, Calls Tryd.prog 21 #[.agg #[.int .i64 x0, .int .i64 y0, .int .i64 x1, .int .i64 y1], .agg #[.int .i64 m.x0, .int .i64 m.y0, .int .i64 m.x1, .int .i64 m.y1]] s.w (PPost s.w (.agg #[.int .i64 R.x0, .int .i64 R.y0, .int .i64 R.x1, .int .i64 R.y1]))) := fun s => by rw [HRR.out.1]; exact join_c ⟨x0, y0, x1, y1⟩ m s.w
    have HLD : Hid (∀ w', (∃ s : Kept W1.heap.size W1, w' = s.w) → w'.rangeAt (w.heap.size + 1) 0 [.int .i64 k.dx, .int .i64 k.dy, .bool k.hasC, .int .i64 k.clip.x0, .int .i64 k.clip.y0, .int .i64 k.clip.x1, .int .i64 k.clip.y1, .int .i64 k.opa, .int .i64 k.mode, .int .i64 k.ct.kind, .int .i64 k.ct.box.x0, .int .i64 k.ct.box.y0, .int .i64 k.ct.box.x1, .int .i64 k.ct.box.y1, .int .u8 k.ct.px.r, .int .u8 k.ct.px.g, .int .u8 k.ct.px.b, .int .u8 k.ct.px.a, .int .i64 k.ct.w, .int .i64 k.ct.h, .int .i64 k.ct.turn, pv, .bool k.hasF, fv, .int .i64 k.fil.out, .bool true, bv, .int .i64 k.bak.out]) := fun w' ⟨s, hs⟩ => by rw [hs]; exact (H0.out.call s.below).range 1 rfl 0 28
    have l26 := fun s : Kept W1.heap.size W1 => s.at (H0.out.cell 1 rfl 26 rfl)
    have l27 := fun s : Kept W1.heap.size W1 => s.at (H0.out.cell 1 rfl 27 rfl)
    have q0 := fun s : Kept W1.heap.size W1 => s.at (H0.out.cell 0 rfl 0 rfl)
    have q1 := fun s : Kept W1.heap.size W1 => s.at (H0.out.cell 0 rfl 1 rfl)
    have q2 := fun s : Kept W1.heap.size W1 => s.at (H0.out.cell 0 rfl 2 rfl)
    have q3 := fun s : Kept W1.heap.size W1 => s.at (H0.out.cell 0 rfl 3 rfl)
    refine wp_region_kept_last W1.heap.size 9 _ rfl rfl (by kernel_rfl) (by kernel_rfl) ?_
    simp only [List.take_succ_cons, List.take_zero]
    iterate 5 (go_big_quiet_step (first
      | (go_at_call 23; with_reducible exact Calls.kept _ (Nat.le_refl _) (M0.out _))
      | (go_at_call 39; with_reducible exact Calls.kept _ (Nat.le_refl _) (HAR.out _))
      | (go_at_call 24; with_reducible exact Calls.kept _ (Nat.le_refl _) (M2.out _))
      | (go_at_call 21; with_reducible exact Calls.kept _ (Nat.le_refl _) (M3.out _))))
    refine wpQuiet_load rfl 35 _ rfl (w.heap.size + 1) 0 rfl _ _ HLD.out Tryd.underlying35 rfl (by kernel_rfl) ?_
    simp only [Act.put, List.setIfInBounds_toArray, List.set_cons_succ, List.set_cons_zero]
    repeat (go_big_quiet_step (first
      | (go_at_call 23; with_reducible exact Calls.kept _ (Nat.le_refl _) (M0.out _))
      | (go_at_call 39; with_reducible exact Calls.kept _ (Nat.le_refl _) (HAR.out _))
      | (go_at_call 24; with_reducible exact Calls.kept _ (Nat.le_refl _) (M2.out _))
      | (go_at_call 21; with_reducible exact Calls.kept _ (Nat.le_refl _) (M3.out _))))
    refine wpQuiet_nil ?_
    intro s
    have H2 := Lib.hid (H0.out.call s.below)
    clear l26 l27 q0 q1 q2 q3
    obtain ⟨r0, r1, r2, r3⟩ := box4 (H2.out.box 2 rfl)
    have f0 := H2.out.frozen 2 rfl 0
    have f1 := H2.out.frozen 2 rfl 1
    have f2 := H2.out.frozen 2 rfl 2
    have f3 := H2.out.frozen 2 rfl 3
    refine ⟨steps_plain rfl (gives_mono (R := fun v w' => v = undef ∧ w' = (((s.w.setCell ⟨w.heap.size + 1 + 1, 0, none⟩ (.int .i64 R.x0)).setCell ⟨w.heap.size + 1 + 1, 1, none⟩ (.int .i64 R.y0)).setCell ⟨w.heap.size + 1 + 1, 2, none⟩ (.int .i64 R.x1)).setCell ⟨w.heap.size + 1 + 1, 3, none⟩ (.int .i64 R.y1)) (by simp [gives, go_sem, r0, r1, r2, r3, f0, f1, f2, f3]) ?_)⟩
    rintro _ _ ⟨rfl, rfl⟩
    go_wp2_with fail
    have HF := H2.out.set4 2 rfl (.int .i64 R.x0) (.int .i64 R.y0) (.int .i64 R.x1) (.int .i64 R.y1)
    exact ret_rect (g := w.heap.size + 1 + 1) (r := R) rfl rfl (HF.box 2 rfl) rfl ⟨rfl, HF.below⟩
end Go.Proofs.YtgodhpampaleeaaDoor
