/- Layer 12: the document's pixel, Arity. -/
import Derived.Test.YtmhfabekmgcjnaaDoorCk
namespace Go.Proofs.YtmhfabekmgcjnaaDoor
open Go.RowKit Go.Bx
attribute [local go_sem ↓] Go.wp_at_zero Go.wp_at_succ
set_option linter.unusedVariables false

def pixB (xs : List Int) (f : Nat) : Bool := nearB xs f (f + 4) 0 255 && pxR (xs.getD f 0) (xs.getD (f + 1) 0) (xs.getD (f + 2) 0) (xs.getD (f + 3) 0)
set_option maxHeartbeats 1600000 in
theorem pixel0_c {F : Nat → Prop} (lv : Value) (xs : List Int) (w : World) (hf : 4 ≤ xs.length) (hF : ∀ b, F b → b < w.heap.size) (hl : SlOf RInt 1 F w lv xs) :
    Calls Tryd.prog 47 #[lv, .int .i64 0] w (PPost w (.bool (pixB xs 0))) := by
  have hl0 := hl
  obtain ⟨a, cap, rfl, hcap, hm, _, hcell⟩ := hl.ints
  obtain ⟨b, o, rfl, _, hc⟩ := hcell 0 (by omega)
  obtain ⟨z0, h0⟩ : ∃ z, z = xs.getD 0 0 := ⟨_, rfl⟩
  obtain ⟨z1, h1⟩ : ∃ z, z = xs.getD 1 0 := ⟨_, rfl⟩
  obtain ⟨z2, h2⟩ : ∃ z, z = xs.getD 2 0 := ⟨_, rfl⟩
  obtain ⟨z3, h3⟩ : ∃ z, z = xs.getD 3 0 := ⟨_, rfl⟩
  have c0 : w.cell? ⟨b, o, none⟩ = some (.int .i64 (xs.getD 0 0)) := hc 0 (by omega)
  have c1 := hc 1 (by omega)
  have c2 := hc 2 (by omega)
  have c3 := hc 3 (by omega)
  rw [← h0] at c0
  rw [← h1] at c1
  rw [← h2] at c2
  rw [← h3] at c3
  obtain ⟨q, hq⟩ : ∃ q, q = nearB xs 0 4 0 255 := ⟨_, rfl⟩
  have HQ : Hid (pixB xs 0 = (q && pxR z0 z1 z2 z3) ∧ (q = true → (0 ≤ z0 ∧ z0 ≤ 255) ∧ (0 ≤ z1 ∧ z1 ≤ 255) ∧ (0 ≤ z2 ∧ z2 ≤ 255) ∧ (0 ≤ z3 ∧ z3 ≤ 255))) := by
    refine ⟨by unfold pixB; rw [hq, h0, h1, h2, h3], fun e => ?_⟩
    rw [e] at hq
    have h := (nearB_iff _ _ _ _ _).1 hq.symm
    rw [h0, h1, h2, h3]
    exact ⟨h 0 (by omega) (by omega), h 1 (by omega) (by omega), h 2 (by omega) (by omega), h 3 (by omega) (by omega)⟩
  have k0 := fun s : Kept w.heap.size w => s.at c0
  have k1 := fun s : Kept w.heap.size w => s.at c1
  have k2 := fun s : Kept w.heap.size w => s.at c2
  have k3 := fun s : Kept w.heap.size w => s.at c3
  have HA : Hid (∀ s : Kept w.heap.size w, Calls Tryd.prog 32 #[.slice (some ⟨b, o, none⟩) xs.length cap, .int .i64 0, .int .i64 4, .int .i64 0, .int .i64 255] s.w (PPost s.w (.bool q))) := fun s => by
    have h := near_c (F := F) _ xs 0 4 0 255 s.w (by omega) hf (hl0.same RInt.ok (Same.of_below s.below hF))
    rw [← hq] at h
    exact h
  have hf1 : ((0 : Int) < (xs.length : Int)) ∧ ((1 : Int) < (xs.length : Int)) ∧ ((2 : Int) < (xs.length : Int)) ∧ ((3 : Int) < (xs.length : Int)) := ⟨by omega, by omega, by omega, by omega⟩
  obtain ⟨hf2, hf3, hf5, hf6⟩ := hf1
  unfold maxLen at hm
  clear hc hcell hl hl0 h0 h1 h2 h3 c0 c1 c2 c3 hq hF
  go_enter Tryd.func47, Tryd.ntmps47
  cases q with
  | false =>
    have HE : Hid (pixB xs 0 = false) := HQ.out.1
    go_wp2_with fail
    refine wp_region_kept w.heap.size (by kernel_rfl) (by kernel_rfl) ?_
    repeat (go_big_quiet_step (first
      | (go_at_call 32; with_reducible exact Calls.kept _ (Nat.le_refl _) (HA.out _))))
    refine wpQuiet_nil ?_
    rintro _ ⟨s, rfl⟩
    go_wp2_with fail
    go_ret
    exact ⟨ret_b HE.out.symm, s.below⟩
  | true =>
    obtain ⟨⟨a0, a1⟩, ⟨b0, b1⟩, ⟨d0, d1⟩, ⟨g0, g1⟩⟩ := HQ.out.2 rfl
    have HB : Hid (∀ s : Kept w.heap.size w, Calls Tryd.prog 54 #[.agg #[.int .u8 z0, .int .u8 z1, .int .u8 z2, .int .u8 z3]] s.w (PPost s.w (.bool (pxR z0 z1 z2 z3)))) := fun s => right01_c z0 z1 z2 z3 s.w
    have HE : Hid (pixB xs 0 = pxR z0 z1 z2 z3) := HQ.out.1
    have v0 : z0 % 256 = z0 := by omega
    have v1 : z1 % 256 = z1 := by omega
    have v2 : z2 % 256 = z2 := by omega
    have v3 : z3 % 256 = z3 := by omega
    generalize pxR z0 z1 z2 z3 = r at *
    go_wp2_with fail
    refine wp_region_kept w.heap.size (by kernel_rfl) (by kernel_rfl) ?_
    repeat (go_big_quiet_step (first
      | (go_at_call 32; with_reducible exact Calls.kept _ (Nat.le_refl _) (HA.out _))
      | (go_at_call 54; with_reducible exact Calls.kept _ (Nat.le_refl _) (HB.out _))))
    refine wpQuiet_nil ?_
    rintro _ ⟨s, rfl⟩
    go_wp2_with fail
    go_ret
    exact ⟨ret_b HE.out.symm, s.below⟩
set_option maxHeartbeats 1600000 in
theorem pixel4_c {F : Nat → Prop} (lv : Value) (xs : List Int) (w : World) (hf : 8 ≤ xs.length) (hF : ∀ b, F b → b < w.heap.size) (hl : SlOf RInt 1 F w lv xs) :
    Calls Tryd.prog 47 #[lv, .int .i64 4] w (PPost w (.bool (pixB xs 4))) := by
  have hl0 := hl
  obtain ⟨a, cap, rfl, hcap, hm, _, hcell⟩ := hl.ints
  obtain ⟨b, o, rfl, _, hc⟩ := hcell 0 (by omega)
  obtain ⟨z0, h0⟩ : ∃ z, z = xs.getD 4 0 := ⟨_, rfl⟩
  obtain ⟨z1, h1⟩ : ∃ z, z = xs.getD 5 0 := ⟨_, rfl⟩
  obtain ⟨z2, h2⟩ : ∃ z, z = xs.getD 6 0 := ⟨_, rfl⟩
  obtain ⟨z3, h3⟩ : ∃ z, z = xs.getD 7 0 := ⟨_, rfl⟩
  have c0 := hc 4 (by omega)
  have c1 := hc 5 (by omega)
  have c2 := hc 6 (by omega)
  have c3 := hc 7 (by omega)
  rw [← h0] at c0
  rw [← h1] at c1
  rw [← h2] at c2
  rw [← h3] at c3
  obtain ⟨q, hq⟩ : ∃ q, q = nearB xs 4 8 0 255 := ⟨_, rfl⟩
  have HQ : Hid (pixB xs 4 = (q && pxR z0 z1 z2 z3) ∧ (q = true → (0 ≤ z0 ∧ z0 ≤ 255) ∧ (0 ≤ z1 ∧ z1 ≤ 255) ∧ (0 ≤ z2 ∧ z2 ≤ 255) ∧ (0 ≤ z3 ∧ z3 ≤ 255))) := by
    refine ⟨by unfold pixB; rw [hq, h0, h1, h2, h3], fun e => ?_⟩
    rw [e] at hq
    have h := (nearB_iff _ _ _ _ _).1 hq.symm
    rw [h0, h1, h2, h3]
    exact ⟨h 4 (by omega) (by omega), h 5 (by omega) (by omega), h 6 (by omega) (by omega), h 7 (by omega) (by omega)⟩
  have k0 := fun s : Kept w.heap.size w => s.at c0
  have k1 := fun s : Kept w.heap.size w => s.at c1
  have k2 := fun s : Kept w.heap.size w => s.at c2
  have k3 := fun s : Kept w.heap.size w => s.at c3
  have HA : Hid (∀ s : Kept w.heap.size w, Calls Tryd.prog 32 #[.slice (some ⟨b, o, none⟩) xs.length cap, .int .i64 4, .int .i64 8, .int .i64 0, .int .i64 255] s.w (PPost s.w (.bool q))) := fun s => by
    have h := near_c (F := F) _ xs 4 8 0 255 s.w (by omega) hf (hl0.same RInt.ok (Same.of_below s.below hF))
    rw [← hq] at h
    exact h
  have hf1 : ((4 : Int) < (xs.length : Int)) ∧ ((5 : Int) < (xs.length : Int)) ∧ ((6 : Int) < (xs.length : Int)) ∧ ((7 : Int) < (xs.length : Int)) := ⟨by omega, by omega, by omega, by omega⟩
  obtain ⟨hf2, hf3, hf5, hf6⟩ := hf1
  unfold maxLen at hm
  clear hc hcell hl hl0 h0 h1 h2 h3 c0 c1 c2 c3 hq hF
  go_enter Tryd.func47, Tryd.ntmps47
  cases q with
  | false =>
    have HE : Hid (pixB xs 4 = false) := HQ.out.1
    go_wp2_with fail
    refine wp_region_kept w.heap.size (by kernel_rfl) (by kernel_rfl) ?_
    repeat (go_big_quiet_step (first
      | (go_at_call 32; with_reducible exact Calls.kept _ (Nat.le_refl _) (HA.out _))))
    refine wpQuiet_nil ?_
    rintro _ ⟨s, rfl⟩
    go_wp2_with fail
    go_ret
    exact ⟨ret_b HE.out.symm, s.below⟩
  | true =>
    obtain ⟨⟨a0, a1⟩, ⟨b0, b1⟩, ⟨d0, d1⟩, ⟨g0, g1⟩⟩ := HQ.out.2 rfl
    have HB : Hid (∀ s : Kept w.heap.size w, Calls Tryd.prog 54 #[.agg #[.int .u8 z0, .int .u8 z1, .int .u8 z2, .int .u8 z3]] s.w (PPost s.w (.bool (pxR z0 z1 z2 z3)))) := fun s => right01_c z0 z1 z2 z3 s.w
    have HE : Hid (pixB xs 4 = pxR z0 z1 z2 z3) := HQ.out.1
    have v0 : z0 % 256 = z0 := by omega
    have v1 : z1 % 256 = z1 := by omega
    have v2 : z2 % 256 = z2 := by omega
    have v3 : z3 % 256 = z3 := by omega
    generalize pxR z0 z1 z2 z3 = r at *
    go_wp2_with fail
    refine wp_region_kept w.heap.size (by kernel_rfl) (by kernel_rfl) ?_
    repeat (go_big_quiet_step (first
      | (go_at_call 32; with_reducible exact Calls.kept _ (Nat.le_refl _) (HA.out _))
      | (go_at_call 54; with_reducible exact Calls.kept _ (Nat.le_refl _) (HB.out _))))
    refine wpQuiet_nil ?_
    rintro _ ⟨s, rfl⟩
    go_wp2_with fail
    go_ret
    exact ⟨ret_b HE.out.symm, s.below⟩
end Go.Proofs.YtmhfabekmgcjnaaDoor
