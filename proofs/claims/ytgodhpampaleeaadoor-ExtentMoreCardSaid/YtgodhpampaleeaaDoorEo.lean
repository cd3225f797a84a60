/- Texts joined: XEo. -/
import Derived.Test.YtgodhpampaleeaaDoorEn
import Derived.Test.YtgodhpampaleeaaDoorEk
import Derived.Test.YtgodhpampaleeaaDoorAf
set_option maxRecDepth 4000
/- Layer 24: the law's own awake. (Printed by mk_eo.py.) -/
namespace Go.Proofs.YtgodhpampaleeaaDoor
open Go.RowKit Go.Bx Go.Od Go.Hp
attribute [local go_sem ↓] Go.wp_at_zero Go.wp_at_succ
set_option linter.unusedVariables false

def ctA : Ct := ⟨1, ⟨0, 0, 1, 1⟩, ⟨0, 0, 0, 9⟩, 0, 0, 0, []⟩
def fgA : Fg := ⟨[⟨2, [-1], [1, 1]⟩], 0⟩
def lkA : Lk := ⟨5, 0, false, ⟨0, 0, 0, 0⟩, 255, 0, ctA, true, fgA, false, ⟨[], 0⟩⟩
def lyA : Ly := .mk 0 0 lkA []
theorem fgA_good : GoodR fgA := goodR_of (m := 7) (by decide) (by omega) (by decide)
theorem ctA_ok : CtOk ctA := ⟨.inr (.inl rfl), by refine ⟨?_, ?_, ?_, ?_⟩ <;> (unfold Byte ctA; dsimp only; omega), fun _ => by refine ⟨?_, ?_, ?_, ?_⟩ <;> (unfold Nc ctA; dsimp only; omega), fun h => by cases h⟩
theorem lkA_ok : LkOk lkA := ⟨ctA_ok, by unfold Nc lkA; dsimp only; omega, by unfold Nc lkA; dsimp only; omega, by unfold lkA; dsimp only; omega, by unfold lkA; dsimp only; omega, (fun h => by cases h), (fun _ => fgA_good), (fun h => by cases h)⟩
theorem lyA_ok : LyOk 1 lyA := ⟨lkA_ok, fun k hk => by cases hk⟩
theorem resA : resN 1 lyA = ⟨4, -1, 7, 2⟩ := by kernel_rfl
theorem pixA0 : pixR ctA 0 0 = ⟨0, 0, 0, 9⟩ := by kernel_rfl
theorem pixA1 : pixR ctA 1 0 = ⟨0, 0, 0, 0⟩ := by kernel_rfl
theorem alLook' (w : World) : (Instr.alloc 35 true (.tuple #[])).run Tryd.prog w = .ok (.pointer (some ⟨w.heap.size, 0, none⟩)) (w.alloc (.cells #[.int .i64 0, .int .i64 0, .bool false, .int .i64 0, .int .i64 0, .int .i64 0, .int .i64 0, .int .i64 0, .int .i64 0, .int .i64 0, .int .i64 0, .int .i64 0, .int .i64 0, .int .i64 0, .int .u8 0, .int .u8 0, .int .u8 0, .int .u8 0, .int .i64 0, .int .i64 0, .int .i64 0, .slice none 0 0, .bool false, .slice none 0 0, .int .i64 0, .bool false, .slice none 0 0, .int .i64 0] 35)) := alLook w
theorem bag4 (w : World) (cs ds es gs : List Value) (t u v x : TypeId) : Bag w ((((w.alloc (.cells cs.toArray t)).alloc (.cells ds.toArray u)).alloc (.cells es.toArray v)).alloc (.cells gs.toArray x)) [(w.heap.size, cs), (w.heap.size + 1, ds), (w.heap.size + 1 + 1, es), (w.heap.size + 1 + 1 + 1, gs)] := by
  have h := (bag3 w cs ds es t u v).alloc gs x
  simp only [size_alloc, List.cons_append, List.nil_append] at h
  exact h
theorem rlyA {w W : World} (h : Bag w W [(w.heap.size, [.int .i64 (-1)]), (w.heap.size + 1, [.int .i64 1, .int .i64 1]), (w.heap.size + 1 + 1, [.int .i64 2, .slice (some ⟨w.heap.size, 0, none⟩) 1 1, .slice (some ⟨w.heap.size + 1, 0, none⟩) 2 2]), (w.heap.size + 1 + 1 + 1, [.int .i64 5, .int .i64 0, .bool false, .int .i64 0, .int .i64 0, .int .i64 0, .int .i64 0, .int .i64 255, .int .i64 0, .int .i64 1, .int .i64 0, .int .i64 0, .int .i64 1, .int .i64 1, .int .u8 0, .int .u8 0, .int .u8 0, .int .u8 9, .int .i64 0, .int .i64 0, .int .i64 0, .slice none 0 0, .bool true, .slice (some ⟨w.heap.size + 1 + 1, 0, none⟩) 1 1, .int .i64 0, .bool false, .slice none 0 0, .int .i64 0])]) : RLy 1 (· < W.heap.size) W [.int .i64 0, .int .i64 0, .int .i64 5, .int .i64 0, .bool false, .int .i64 0, .int .i64 0, .int .i64 0, .int .i64 0, .int .i64 255, .int .i64 0, .int .i64 1, .int .i64 0, .int .i64 0, .int .i64 1, .int .i64 1, .int .u8 0, .int .u8 0, .int .u8 0, .int .u8 9, .int .i64 0, .int .i64 0, .int .i64 0, .slice none 0 0, .bool true, .slice (some ⟨w.heap.size + 1 + 1, 0, none⟩) 1 1, .int .i64 0, .bool false, .slice none 0 0, .int .i64 0, .slice none 0 0] lyA := by
  have hp := h.box 0 rfl
  have hq := h.box 1 rfl
  have hg := h.box 2 rfl
  have s1 : SlOf RInt 1 (· < W.heap.size) W (.slice (some ⟨w.heap.size, 0, none⟩) 1 1) [-1] := sl_box (xs := [-1]) hp rfl (fun z hz => in_small (by simp at hz; omega)) hp.lt (by decide)
  have s2 : SlOf RInt 1 (· < W.heap.size) W (.slice (some ⟨w.heap.size + 1, 0, none⟩) 2 2) [1, 1] := sl_box (xs := [1, 1]) hq rfl (fun z hz => in_small (by simp at hz; omega)) hq.lt (by decide)
  have s3 : SlOf RNode 3 (· < W.heap.size) W (.slice (some ⟨w.heap.size + 1 + 1, 0, none⟩) 1 1) fgA.nds := by
    refine ⟨_, 1, rfl, Nat.le_refl _, by decide, .inr ⟨_, 0, rfl, hg.lt, fun i x hi => ?_⟩⟩
    match i, hi with
    | 0, hi =>
      simp [fgA] at hi
      subst hi
      exact ⟨_, rfl, lies3 hg 0 rfl rfl rfl, _, _, rfl, in_small (x := 2) (by decide), s1, s2⟩
    | i + 1, hi => simp [fgA] at hi
  have z64 : In64 0 := in_small (by decide)
  have o64 : In64 1 := in_small (by decide)
  refine ⟨.slice none 0 0, .slice (some ⟨w.heap.size + 1 + 1, 0, none⟩) 1 1, .slice none 0 0, .slice none 0 0, rfl, z64, z64, ⟨⟨in_small (x := 5) (by decide), z64, ⟨z64, z64, z64, z64⟩, in_small (x := 255) (by decide), z64, ⟨o64, ⟨z64, z64, o64, o64⟩, ctA_ok.px, z64, z64, z64⟩, z64, z64⟩, ?_, s3, ?_⟩, ?_⟩
  · exact ⟨none, 0, rfl, Nat.le_refl _, by decide, .inl rfl⟩
  · exact ⟨none, 0, rfl, Nat.le_refl _, by decide, .inl rfl⟩
  · exact ⟨none, 0, rfl, Nat.le_refl _, by decide, .inl rfl⟩
set_option maxRecDepth 8000 in
set_option maxHeartbeats 12800000 in
theorem awake24_c (w : World) : Calls Tryd.prog 5 #[] w (PPost w (.bool true)) := by
  have H0 : Hid (Bag w ((((w.alloc (.cells #[.int .i64 (-1)] 3)).alloc (.cells #[.int .i64 1, .int .i64 1] 3)).alloc (.cells #[.int .i64 2, .slice (some ⟨w.heap.size, 0, none⟩) 1 1, .slice (some ⟨w.heap.size + 1, 0, none⟩) 2 2] 48)).alloc (.cells #[.int .i64 5, .int .i64 0, .bool false, .int .i64 0, .int .i64 0, .int .i64 0, .int .i64 0, .int .i64 255, .int .i64 0, .int .i64 1, .int .i64 0, .int .i64 0, .int .i64 1, .int .i64 1, .int .u8 0, .int .u8 0, .int .u8 0, .int .u8 9, .int .i64 0, .int .i64 0, .int .i64 0, .slice none 0 0, .bool true, .slice (some ⟨w.heap.size + 1 + 1, 0, none⟩) 1 1, .int .i64 0, .bool false, .slice none 0 0, .int .i64 0] 35)) [(w.heap.size, [.int .i64 (-1)]), (w.heap.size + 1, [.int .i64 1, .int .i64 1]), (w.heap.size + 1 + 1, [.int .i64 2, .slice (some ⟨w.heap.size, 0, none⟩) 1 1, .slice (some ⟨w.heap.size + 1, 0, none⟩) 2 2]), (w.heap.size + 1 + 1 + 1, [.int .i64 5, .int .i64 0, .bool false, .int .i64 0, .int .i64 0, .int .i64 0, .int .i64 0, .int .i64 255, .int .i64 0, .int .i64 1, .int .i64 0, .int .i64 0, .int .i64 1, .int .i64 1, .int .u8 0, .int .u8 0, .int .u8 0, .int .u8 9, .int .i64 0, .int .i64 0, .int .i64 0, .slice none 0 0, .bool true, .slice (some ⟨w.heap.size + 1 + 1, 0, none⟩) 1 1, .int .i64 0, .bool false, .slice none 0 0, .int .i64 0])]) := bag4 w [.int .i64 (-1)] [.int .i64 1, .int .i64 1] [.int .i64 2, .slice (some ⟨w.heap.size, 0, none⟩) 1 1, .slice (some ⟨w.heap.size + 1, 0, none⟩) 2 2] [.int .i64 5, .int .i64 0, .bool false, .int .i64 0, .int .i64 0, .int .i64 0, .int .i64 0, .int .i64 255, .int .i64 0, .int .i64 1, .int .i64 0, .int .i64 0, .int .i64 1, .int .i64 1, .int .u8 0, .int .u8 0, .int .u8 0, .int .u8 9, .int .i64 0, .int .i64 0, .int .i64 0, .slice none 0 0, .bool true, .slice (some ⟨w.heap.size + 1 + 1, 0, none⟩) 1 1, .int .i64 0, .bool false, .slice none 0 0, .int .i64 0] _ _ _ _
  have hq0 : ∀ W, (binOp .eql 25 (.agg #[.int .i64 4, .int .i64 (-1), .int .i64 7, .int .i64 2]) (.agg #[.int .i64 4, .int .i64 (-1), .int .i64 7, .int .i64 2])).run Tryd.prog W = .ok (.bool true) W := fun W => eqlR _ _ _ _ W
  have hq1 : ∀ W, (binOp .eql 27 (.agg #[.int .u8 0, .int .u8 0, .int .u8 0, .int .u8 9]) (.agg #[.int .u8 0, .int .u8 0, .int .u8 0, .int .u8 9])).run Tryd.prog W = .ok (.bool true) W := fun W => eqlPx ⟨0, 0, 0, 9⟩ ⟨0, 0, 0, 9⟩ W
  have hq2 : ∀ W, (binOp .eql 27 (.agg #[.int .u8 0, .int .u8 0, .int .u8 0, .int .u8 0]) (.agg #[.int .u8 0, .int .u8 0, .int .u8 0, .int .u8 0])).run Tryd.prog W = .ok (.bool true) W := fun W => eqlPx ⟨0, 0, 0, 0⟩ ⟨0, 0, 0, 0⟩ W
  go_enter Tryd.func5, Tryd.ntmps5
  go_wp2_with (with_reducible refine wpList_alloc_store rfl rfl 35 rfl _ _ rfl _ #[.int .i64 5, .int .i64 0, .bool false, .int .i64 0, .int .i64 0, .int .i64 0, .int .i64 0, .int .i64 255, .int .i64 0, .int .i64 1, .int .i64 0, .int .i64 0, .int .i64 1, .int .i64 1, .int .u8 0, .int .u8 0, .int .u8 0, .int .u8 9, .int .i64 0, .int .i64 0, .int .i64 0, .slice none 0 0, .bool true, .slice (some ⟨w.heap.size + 1 + 1, 0, none⟩) 1 1, .int .i64 0, .bool false, .slice none 0 0, .int .i64 0] alLook (by simp [Act.eval, Act.put]) rfl (by kernel_rfl) (by kernel_rfl) (by simp [Value.oneCell']) ?_; simp only [Act.put, List.setIfInBounds_toArray, List.set_cons_succ, List.set_cons_zero, size_alloc])
  generalize ((((w.alloc (.cells #[.int .i64 (-1)] 3)).alloc (.cells #[.int .i64 1, .int .i64 1] 3)).alloc (.cells #[.int .i64 2, .slice (some ⟨w.heap.size, 0, none⟩) 1 1, .slice (some ⟨w.heap.size + 1, 0, none⟩) 2 2] 48)).alloc (.cells #[.int .i64 5, .int .i64 0, .bool false, .int .i64 0, .int .i64 0, .int .i64 0, .int .i64 0, .int .i64 255, .int .i64 0, .int .i64 1, .int .i64 0, .int .i64 0, .int .i64 1, .int .i64 1, .int .u8 0, .int .u8 0, .int .u8 0, .int .u8 9, .int .i64 0, .int .i64 0, .int .i64 0, .slice none 0 0, .bool true, .slice (some ⟨w.heap.size + 1 + 1, 0, none⟩) 1 1, .int .i64 0, .bool false, .slice none 0 0, .int .i64 0] 35)) = W4 at *
  have HRE : Hid (∀ s : Kept W4.heap.size W4, Calls Tryd.prog 11 #[.agg #[.int .i64 0, .int .i64 0, .int .i64 5, .int .i64 0, .bool false, .int .i64 0, .int .i64 0, .int .i64 0, .int .i64 0, .int .i64 255, .int .i64 0, .int .i64 1, .int .i64 0, .int .i64 0, .int .i64 1, .int .i64 1, .int .u8 0, .int .u8 0, .int .u8 0, .int .u8 9, .int .i64 0, .int .i64 0, .int .i64 0, .slice none 0 0, .bool true, .slice (some ⟨w.heap.size + 1 + 1, 0, none⟩) 1 1, .int .i64 0, .bool false, .slice none 0 0, .int .i64 0, .slice none 0 0]] s.w (PPost s.w (.agg #[.int .i64 4, .int .i64 (-1), .int .i64 7, .int .i64 2]))) := fun s => by
    have h := result_c 1 s.w.heap.size lyA [.int .i64 0, .int .i64 0, .int .i64 5, .int .i64 0, .bool false, .int .i64 0, .int .i64 0, .int .i64 0, .int .i64 0, .int .i64 255, .int .i64 0, .int .i64 1, .int .i64 0, .int .i64 0, .int .i64 1, .int .i64 1, .int .u8 0, .int .u8 0, .int .u8 0, .int .u8 9, .int .i64 0, .int .i64 0, .int .i64 0, .slice none 0 0, .bool true, .slice (some ⟨w.heap.size + 1 + 1, 0, none⟩) 1 1, .int .i64 0, .bool false, .slice none 0 0, .int .i64 0, .slice none 0 0] s.w (rlyA (H0.out.call s.below)) (Nat.le_refl _) lyA_ok
    rw [resA] at h
    exact h
  have HP0 : Hid (∀ s : Kept W4.heap.size W4, Calls Tryd.prog 7 #[.agg #[.int .i64 1, .int .i64 0, .int .i64 0, .int .i64 1, .int .i64 1, .int .u8 0, .int .u8 0, .int .u8 0, .int .u8 9, .int .i64 0, .int .i64 0, .int .i64 0, .slice none 0 0], .int .i64 0, .int .i64 0] s.w (PPost s.w (.agg #[.int .u8 0, .int .u8 0, .int .u8 0, .int .u8 9]))) := fun s => by
    have h := pixel24_c 0 ctA (.slice none 0 0) 0 0 s.w ctA_ok ⟨none, 0, rfl, Nat.le_refl _, by decide, .inl rfl⟩ (Nat.zero_le _) (by omega) (by omega)
    rw [pixA0] at h
    exact h
  have HP1 : Hid (∀ s : Kept W4.heap.size W4, Calls Tryd.prog 7 #[.agg #[.int .i64 1, .int .i64 0, .int .i64 0, .int .i64 1, .int .i64 1, .int .u8 0, .int .u8 0, .int .u8 0, .int .u8 9, .int .i64 0, .int .i64 0, .int .i64 0, .slice none 0 0], .int .i64 1, .int .i64 0] s.w (PPost s.w (.agg #[.int .u8 0, .int .u8 0, .int .u8 0, .int .u8 0]))) := fun s => by
    have h := pixel24_c 0 ctA (.slice none 0 0) 1 0 s.w ctA_ok ⟨none, 0, rfl, Nat.le_refl _, by decide, .inl rfl⟩ (Nat.zero_le _) (by omega) (by omega)
    rw [pixA1] at h
    exact h
  have HL : Hid (∀ w', (∃ s : Kept W4.heap.size W4, w' = s.w) → w'.rangeAt (w.heap.size + 1 + 1 + 1) 0 [.int .i64 5, .int .i64 0, .bool false, .int .i64 0, .int .i64 0, .int .i64 0, .int .i64 0, .int .i64 255, .int .i64 0, .int .i64 1, .int .i64 0, .int .i64 0, .int .i64 1, .int .i64 1, .int .u8 0, .int .u8 0, .int .u8 0, .int .u8 9, .int .i64 0, .int .i64 0, .int .i64 0, .slice none 0 0, .bool true, .slice (some ⟨w.heap.size + 1 + 1, 0, none⟩) 1 1, .int .i64 0, .bool false, .slice none 0 0, .int .i64 0]) := fun w' ⟨s, hs⟩ => by rw [hs]; exact (H0.out.call s.below).range 3 rfl 0 28
  have k9 := fun s : Kept W4.heap.size W4 => s.at (H0.out.cell 3 rfl 9 rfl)
  have k10 := fun s : Kept W4.heap.size W4 => s.at (H0.out.cell 3 rfl 10 rfl)
  have k11 := fun s : Kept W4.heap.size W4 => s.at (H0.out.cell 3 rfl 11 rfl)
  have k12 := fun s : Kept W4.heap.size W4 => s.at (H0.out.cell 3 rfl 12 rfl)
  have k13 := fun s : Kept W4.heap.size W4 => s.at (H0.out.cell 3 rfl 13 rfl)
  have k14 := fun s : Kept W4.heap.size W4 => s.at (H0.out.cell 3 rfl 14 rfl)
  have k15 := fun s : Kept W4.heap.size W4 => s.at (H0.out.cell 3 rfl 15 rfl)
  have k16 := fun s : Kept W4.heap.size W4 => s.at (H0.out.cell 3 rfl 16 rfl)
  have k17 := fun s : Kept W4.heap.size W4 => s.at (H0.out.cell 3 rfl 17 rfl)
  have k18 := fun s : Kept W4.heap.size W4 => s.at (H0.out.cell 3 rfl 18 rfl)
  have k19 := fun s : Kept W4.heap.size W4 => s.at (H0.out.cell 3 rfl 19 rfl)
  have k20 := fun s : Kept W4.heap.size W4 => s.at (H0.out.cell 3 rfl 20 rfl)
  have k21 := fun s : Kept W4.heap.size W4 => s.at (H0.out.cell 3 rfl 21 rfl)
  refine wp_region_kept W4.heap.size (by kernel_rfl) (by kernel_rfl) ?_
  refine wpQuiet_load rfl 35 _ rfl (w.heap.size + 1 + 1 + 1) 0 rfl _ _ HL.out Tryd.underlying35 rfl (by kernel_rfl) ?_
  simp only [Act.put, List.setIfInBounds_toArray, List.set_cons_succ, List.set_cons_zero]
  repeat (go_big_quiet_step (first
    | (go_at_call 11; with_reducible exact Calls.kept _ (Nat.le_refl _) (HRE.out _))
    | (go_at_call 7; with_reducible exact Calls.kept _ (Nat.le_refl _) (HP0.out _))
    | (go_at_call 7; with_reducible exact Calls.kept _ (Nat.le_refl _) (HP1.out _))))
  refine wpQuiet_nil ?_
  rintro _ ⟨s, rfl⟩
  have HE : Hid (Below w.heap.size w s.w) := H0.out.below.trans (s.below.mono H0.out.below.size)
  clear k9 k10 k11 k12 k13 k14 k15 k16 k17 k18 k19 k20 k21
  go_wp2_with fail
  go_ret
  exact ⟨rfl, HE.out⟩
end Go.Proofs.YtgodhpampaleeaaDoor
