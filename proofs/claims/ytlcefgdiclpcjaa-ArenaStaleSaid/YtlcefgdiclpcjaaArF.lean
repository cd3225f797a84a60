/- Layer 22: copied, New. -/
import Derived.Test.YtlcefgdiclpcjaaArE
namespace Go.Proofs.Ytlcefgdiclpcjaa
open Go.RowKit Go.Bx
attribute [local go_sem ↓] Go.wp_at_zero Go.wp_at_succ
set_option linter.unusedVariables false

/-- an arena in memory from B on -/
def CPost (w : World) (gs : List Int) (ls : List Bool) (e : Ending) (w' : World) : Prop := ∃ a p b q, e = .returned (.agg #[.slice a gs.length p, .slice b ls.length q]) ∧ OwnI w' w.heap.size (.slice a gs.length p) gs ∧ OwnB w' w.heap.size (.slice b ls.length q) ls ∧ Below w.heap.size w w'

set_option maxHeartbeats 3200000 in
theorem copied_c {F : Nat → Prop} (gv lv : Value) (gs : List Int) (ls : List Bool) (w : World) (hlg : gs.length ≤ 1100) (hll : ls.length ≤ 1100) (hF : ∀ b, F b → b < w.heap.size) (hg : SlOf RInt 1 F w gv gs) (hl : SlOf RBool 1 F w lv ls) :
    Calls Try.prog 53 #[.agg #[gv, lv]] w (CPost w gs ls) := by
  have HG : Hid (SlOf RInt 1 F w gv gs) := hg
  have HL : Hid (SlOf RBool 1 F w lv ls) := hl
  clear hg hl
  go_enter Try.func53, Try.ntmps53
  go_wp2_with fail
  have X := (Box.new w [gv, lv] 46).alloc (.cells #[.slice none 0 0, .slice none 0 0] 46)
  have Z := Box.new (w.alloc (.cells #[gv, lv] 46)) [.slice none 0 0, .slice none 0 0] 46
  rw [size_alloc] at Z
  have B0 : Below w.heap.size w ((w.alloc (.cells #[gv, lv] 46)).alloc (.cells #[.slice none 0 0, .slice none 0 0] 46)) := (by repeat' (first | assumption | (with_reducible exact Below.refl _ _) | (with_reducible refine below_drewN ?_ _) | (with_reducible refine Below.drew ?_) | (with_reducible refine Below.setCell ?_ ?_ _) | (with_reducible refine Below.alloc ?_ ?_ _) | (simp; done) | (simp; omega)))
  have hs : ((w.alloc (.cells #[gv, lv] 46)).alloc (.cells #[.slice none 0 0, .slice none 0 0] 46)).heap.size = w.heap.size + 2 := by rw [size_alloc, size_alloc]
  generalize (w.alloc (.cells #[gv, lv] 46)).alloc (.cells #[.slice none 0 0, .slice none 0 0] 46) = W2 at *
  have hI : Hid (∀ W, Below w.heap.size w W → SlOf RInt 1 F W gv gs) := fun W hb => HG.out.same RInt.ok (Same.of_below hb hF)
  have hL : Hid (∀ W, Below w.heap.size w W → SlOf RBool 1 F W lv ls) := fun W hb => HL.out.same RBool.ok (Same.of_below hb hF)
  have x0 := X.cell 0 rfl
  have x1 := X.cell 1 rfl
  have z0 := Z.cell 0 rfl
  have z1 := Z.cell 1 rfl
  have f0 := Z.frozen 0
  have f1 := Z.frozen 1
  have HX : Hid (Box W2 w.heap.size [gv, lv] ∧ Box W2 (w.heap.size + 1) [.slice none 0 0, .slice none 0 0]) := ⟨X, Z⟩
  have BW : Below W2.heap.size W2 W2 := Below.refl _ _
  clear HG HL X Z
  go_region_with (first
    | (go_at_call 57; refine (clone_i _ gs _ hlg (hI.out _ (by repeat' (first | assumption | (with_reducible exact Below.refl _ _) | (with_reducible refine below_drewN ?_ _) | (with_reducible refine Below.drew ?_) | (with_reducible refine Below.setCell ?_ ?_ _) | (with_reducible refine Below.alloc ?_ ?_ _) | (simp; done) | (simp; omega))))).mono ?_; rintro e w5 ⟨a5, p5, rfl, o5, b5⟩; have B5 : Below W2.heap.size W2 w5 := after (B := W2.heap.size) (by repeat' (first | assumption | (with_reducible exact Below.refl _ _) | (with_reducible refine below_drewN ?_ _) | (with_reducible refine Below.drew ?_) | (with_reducible refine Below.setCell ?_ ?_ _) | (with_reducible refine Below.alloc ?_ ?_ _) | (simp; done) | (simp; omega))) (by simp) b5; have hs5 := B5.size; have B6 : Below w.heap.size w w5 := after B0 B0.size B5; have y0 := (HX.out.1.call B5).cell 0 rfl; have y1 := (HX.out.1.call B5).cell 1 rfl; have y2 := (HX.out.2.call B5).cell 0 rfl; have y3 := (HX.out.2.call B5).cell 1 rfl; have g0 := (HX.out.2.call B5).frozen 0; have g1 := (HX.out.2.call B5).frozen 1; clear b5)
    | (go_at_call 58; go_loud (refine (clone_b _ ls _ hll (hL.out _ (by repeat' (first | assumption | (with_reducible exact Below.refl _ _) | (with_reducible refine below_drewN ?_ _) | (with_reducible refine Below.drew ?_) | (with_reducible refine Below.setCell ?_ ?_ _) | (with_reducible refine Below.alloc ?_ ?_ _) | (simp; done) | (simp; omega))))).mono ?_; rintro e w7 ⟨a7, p7, rfl, o7, b7⟩; have o8 := OwnI.below o5 b7; have B7 : Below W2.heap.size W2 w7 := after (B := W2.heap.size) (by repeat' (first | assumption | (with_reducible exact Below.refl _ _) | (with_reducible refine below_drewN ?_ _) | (with_reducible refine Below.drew ?_) | (with_reducible refine Below.setCell ?_ ?_ _) | (with_reducible refine Below.alloc ?_ ?_ _) | (simp; done) | (simp; omega))) B5.size b7; have hs7 := B7.size; have B8 : Below w.heap.size w w7 := after B0 B0.size B7; have t2 := (HX.out.2.call B7).cell 0 rfl; have t3 := (HX.out.2.call B7).cell 1 rfl; have t4 := (HX.out.2.call B7).frozen 0; have t5 := (HX.out.2.call B7).frozen 1; clear b7)))
  all_goals
    have hsz : W2.drew.heap.size = w.heap.size + 2 := hs
    rw [hsz] at o8
    have p1 := (((o8.put (p := ⟨w.heap.size + 1, 0, none⟩) (Nat.lt_succ_self _) (.slice a5 gs.length p5)).put (p := ⟨w.heap.size + 1, 1, none⟩) (Nat.lt_succ_self _) (.slice a7 ls.length p7))).mono (show w.heap.size ≤ w.heap.size + 2 by omega)
    have p2 := (((o7.put (p := ⟨w.heap.size + 1, 0, none⟩) (by show w.heap.size + 1 < w5.heap.size; omega) (.slice a5 gs.length p5)).put (p := ⟨w.heap.size + 1, 1, none⟩) (by show w.heap.size + 1 < w5.heap.size; omega) (.slice a7 ls.length p7))).mono (show w.heap.size ≤ w5.heap.size by omega)
    have p3 : Below w.heap.size w ((w7.setCell ⟨w.heap.size + 1, 0, none⟩ (.slice a5 gs.length p5)).setCell ⟨w.heap.size + 1, 1, none⟩ (.slice a7 ls.length p7)) := (by repeat' (first | assumption | (with_reducible exact Below.refl _ _) | (with_reducible refine below_drewN ?_ _) | (with_reducible refine Below.drew ?_) | (with_reducible refine Below.setCell ?_ ?_ _) | (with_reducible refine Below.alloc ?_ ?_ _) | (simp; done) | (simp; omega)))
    have Q := ((HX.out.2.call B7).self 0 (.slice a5 gs.length p5)).self 1 (.slice a7 ls.length p7)
    have q0 := Q.cell 0 rfl
    have q1 := Q.cell 1 rfl
    clear o7 o8 o5
    go_wp2_with fail
    exact bodyPost_ret (v := .agg #[.slice a5 gs.length p5, .slice a7 ls.length p7]) (by simp [results, Try.results53, go_sem, q0, q1]) rfl ⟨a5, p5, a7, p7, rfl, p1, p2, p3⟩

theorem OwnI.new (W : World) (B : Nat) (gs : List Int) (hB : B ≤ W.heap.size) (hl : gs.length ≤ maxLen) : OwnI (W.alloc (.cells (gs.map (Value.int .i64)).toArray 3)) B (.slice (some ⟨W.heap.size, 0, none⟩) gs.length gs.length) gs :=
  ⟨by simp, .inr ⟨W.heap.size, gs.length, _, rfl, hB, heap_alloc_new W _, Nat.le_refl _, hl, by simp, by simp [List.take_of_length_le]⟩⟩
theorem OwnB.new (W : World) (B : Nat) (gs : List Bool) (hB : B ≤ W.heap.size) (hl : gs.length ≤ maxLen) : OwnB (W.alloc (.cells (gs.map Value.bool).toArray 4)) B (.slice (some ⟨W.heap.size, 0, none⟩) gs.length gs.length) gs :=
  ⟨by simp, .inr ⟨W.heap.size, gs.length, _, rfl, hB, heap_alloc_new W _, Nat.le_refl _, hl, by simp, by simp [List.take_of_length_le]⟩⟩

set_option maxHeartbeats 800000 in
theorem anew_c (w : World) : Calls Try.prog 40 #[] w (CPost w [0] [true]) := by
  go_enter Try.func40, Try.ntmps40
  go_wp2_with fail
  obtain ⟨W, hW⟩ : ∃ W, W = w.alloc (Obj.cells #[Value.slice (some { block := w.heap.size + 1, off := 0 }) 1 1, Value.slice (some { block := w.heap.size + 1 + 1, off := 0 }) 1 1] 46) := ⟨_, rfl⟩
  rw [← hW]
  have h1 : W.heap.size = w.heap.size + 1 := by rw [hW, size_alloc]
  have hb : Below w.heap.size w W := by rw [hW]; exact (Below.refl _ w).alloc (Nat.le_refl _) _
  have X : Box W w.heap.size [Value.slice (some { block := w.heap.size + 1, off := 0 }) 1 1, Value.slice (some { block := w.heap.size + 1 + 1, off := 0 }) 1 1] := by rw [hW]; exact Box.new w _ _
  have X2 := (X.alloc (Obj.cells #[Value.int IntKind.i64 0] 3)).alloc (Obj.cells #[Value.bool true] 4)
  have q0 := X2.cell 0 rfl
  have q1 := X2.cell 1 rfl
  have o1 := (OwnI.new W w.heap.size [0] (by omega) (by decide)).alloc (Obj.cells #[Value.bool true] 4)
  have o2 := OwnB.new (W.alloc (Obj.cells #[Value.int IntKind.i64 0] 3)) w.heap.size [true] (by rw [size_alloc]; omega) (by decide)
  rw [size_alloc, h1] at o2
  rw [h1] at o1
  refine bodyPost_ret (v := .agg #[Value.slice (some { block := w.heap.size + 1, off := 0 }) 1 1, Value.slice (some { block := w.heap.size + 1 + 1, off := 0 }) 1 1]) (by simp [results, Try.results40, go_sem, q0, q1]) rfl ⟨_, _, _, _, rfl, o1, o2, (hb.alloc (by omega) _).alloc (by rw [size_alloc]; omega) _⟩
end Go.Proofs.Ytlcefgdiclpcjaa
