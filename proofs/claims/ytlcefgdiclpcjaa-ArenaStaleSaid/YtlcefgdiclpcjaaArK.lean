/- Layer 22: awake. -/
import Derived.Test.YtlcefgdiclpcjaaArG
import Derived.Test.YtlcefgdiclpcjaaArH
namespace Go.Proofs.Ytlcefgdiclpcjaa
open Go.RowKit Go.Bx
attribute [local go_sem ↓] Go.wp_at_zero Go.wp_at_succ
set_option linter.unusedVariables false

theorem CPost.to {w : World} {gs : List Int} {ls : List Bool} {e : Ending} {w' : World} (h : CPost w gs ls e w') : ∃ a p b q, e = .returned (.agg #[.slice a gs.length p, .slice b ls.length q]) ∧ OwnI w' w.heap.size (.slice a gs.length p) gs ∧ OwnB w' w.heap.size (.slice b ls.length q) ls ∧ Below w.heap.size w w' := h

set_option maxHeartbeats 1600000 in
theorem awake22_c (w : World) : Calls Try.prog 31 #[] w (PPost w (.bool true)) := by
  go_enter Try.func31, Try.ntmps31
  go_wp2_with fail
  refine (anew_c _).mono ?_; rintro e w1 ⟨a1, p1, b1, q1, rfl, g1, l1, hb1⟩
  go_wp2_with fail
  refine (show Calls _ _ _ _ (TkPost w1 [0, 0] [true, true] 1 0 true) from take_c _ _ [0] [true] w1 rfl (by decide) (fun b hb => hb.2) (g1.sl (by simp [In64])) l1.sl).mono ?_; rintro e w2 ⟨a2, p2, b2, q2, rfl, g2, l2, hb2⟩
  have B2 := after hb1 hb1.size hb2
  clear g1 l1 hb1 hb2
  have g3 := (g2.alloc (.cells #[.slice a2 2 p2, .slice b2 2 q2] 46)).alloc (.cells #[.int .i64 1, .int .i64 0] 48)
  have l3 := (l2.alloc (.cells #[.slice a2 2 p2, .slice b2 2 q2] 46)).alloc (.cells #[.int .i64 1, .int .i64 0] 48)
  have X3 := (Box.new w2 [.slice a2 2 p2, .slice b2 2 q2] 46).alloc (.cells #[.int .i64 1, .int .i64 0] 48)
  have Y3 := Box.new (w2.alloc (.cells #[.slice a2 2 p2, .slice b2 2 q2] 46)) [.int .i64 1, .int .i64 0] 48
  rw [size_alloc] at Y3
  have B3 : Below w.heap.size w ((w2.alloc (.cells #[.slice a2 2 p2, .slice b2 2 q2] 46)).alloc (.cells #[.int .i64 1, .int .i64 0] 48)) := (B2.alloc B2.size _).alloc (B2.alloc B2.size _).size _
  go_wp2_with fail
  generalize (w2.alloc (.cells #[.slice a2 2 p2, .slice b2 2 q2] 46)).alloc (.cells #[.int .i64 1, .int .i64 0] 48) = W3 at *
  refine (show Calls _ _ _ _ (FrPost W3 [0, 1] [true, false] true) from free_c _ _ [0, 0] [true, true] 1 0 W3 rfl (by decide) (by decide) (fun b hb => hb.2) (g3.sl (by simp [In64])) l3.sl).mono ?_; rintro e w4 ⟨a4, p4, b4, q4, rfl, g4, l4, hb4⟩
  have g4 : OwnI w4 W3.heap.size (.slice a4 2 p4) [0, 1] := g4
  have l4 : OwnB w4 W3.heap.size (.slice b4 2 q4) [true, false] := l4
  have Y4 := (Y3.call hb4).alloc (.cells #[.slice a4 2 p4, .slice b4 2 q4] 46)
  have B4 := after B3 B3.size hb4
  have B5 := B4.alloc B4.size (.cells #[.slice a4 2 p4, .slice b4 2 q4] 46)
  have g5 := g4.alloc (.cells #[.slice a4 2 p4, .slice b4 2 q4] 46)
  have l5 := l4.alloc (.cells #[.slice a4 2 p4, .slice b4 2 q4] 46)
  clear g2 l2 B2 g3 l3 X3 Y3 B3 hb4 B4 g4 l4
  go_wp2_with fail
  generalize w4.alloc (.cells #[.slice a4 2 p4, .slice b4 2 q4] 46) = W5 at *
  refine (show Calls _ _ _ _ (TkPost W5 [0, 1] [true, true] 1 1 true) from take_c _ _ [0, 1] [true, false] W5 rfl (by decide) (fun b hb => hb.2) (g5.sl (by simp [In64])) l5.sl).mono ?_; rintro e w6 ⟨a6, p6, b6, q6, rfl, g6, l6, hb6⟩
  have g6 : OwnI w6 W5.heap.size (.slice a6 2 p6) [0, 1] := g6
  have l6 : OwnB w6 W5.heap.size (.slice b6 2 q6) [true, true] := l6
  have B6 := after B5 B5.size hb6
  have Y7 := ((Y4.call hb6).alloc (.cells #[.slice a6 2 p6, .slice b6 2 q6] 46)).alloc (.cells #[.int .i64 1, .int .i64 1] 48)
  have U7 := (Box.new w6 [.slice a6 2 p6, .slice b6 2 q6] 46).alloc (.cells #[.int .i64 1, .int .i64 1] 48)
  have V7 := Box.new (w6.alloc (.cells #[.slice a6 2 p6, .slice b6 2 q6] 46)) [.int .i64 1, .int .i64 1] 48
  rw [size_alloc] at V7
  have B7 : Below w.heap.size w ((w6.alloc (.cells #[.slice a6 2 p6, .slice b6 2 q6] 46)).alloc (.cells #[.int .i64 1, .int .i64 1] 48)) := (B6.alloc B6.size _).alloc (B6.alloc B6.size _).size _
  have g7 := (g6.alloc (.cells #[.slice a6 2 p6, .slice b6 2 q6] 46)).alloc (.cells #[.int .i64 1, .int .i64 1] 48)
  have l7 := (l6.alloc (.cells #[.slice a6 2 p6, .slice b6 2 q6] 46)).alloc (.cells #[.int .i64 1, .int .i64 1] 48)
  have c0 := Y7.cell 0 rfl
  have c1 := Y7.cell 1 rfl
  have c2 := U7.cell 0 rfl
  have c3 := U7.cell 1 rfl
  have c4 := V7.cell 0 rfl
  have c5 := V7.cell 1 rfl
  clear Y4 B5 g5 l5 hb6 B6 g6 l6
  go_wp2_with fail
  generalize (w6.alloc (.cells #[.slice a6 2 p6, .slice b6 2 q6] 46)).alloc (.cells #[.int .i64 1, .int .i64 1] 48) = W7 at *
  have hsI : ∀ W, Below W7.heap.size W7 W → SlOf RInt 1 (fun b => W5.heap.size ≤ b ∧ b < W.heap.size) W (.slice a6 2 p6) [0, 1] := fun W hb => (g7.below hb).sl (by simp [In64])
  have hsB : ∀ W, Below W7.heap.size W7 W → SlOf RBool 1 (fun b => W5.heap.size ≤ b ∧ b < W.heap.size) W (.slice b6 2 q6) [true, true] := fun W hb => (l7.below hb).sl
  have HS : Hid ((∀ W, Below W7.heap.size W7 W → SlOf RInt 1 (fun b => W5.heap.size ≤ b ∧ b < W.heap.size) W (.slice a6 2 p6) [0, 1]) ∧ ∀ W, Below W7.heap.size W7 W → SlOf RBool 1 (fun b => W5.heap.size ≤ b ∧ b < W.heap.size) W (.slice b6 2 q6) [true, true]) := ⟨hsI, hsB⟩
  clear hsI hsB g7 l7
  refine (show Calls _ _ _ _ (PPost W7 (.bool false)) from has_c _ _ [0, 1] [true, true] 1 0 W7 (HS.out.1 _ (Below.refl _ _)) (HS.out.2 _ (Below.refl _ _)) rfl).mono ?_; rintro e w8 ⟨rfl, hb8⟩
  clear c0 c1 c2 c3 c4 c5
  have c2 := (U7.call hb8).cell 0 rfl
  have c3 := (U7.call hb8).cell 1 rfl
  have c4 := (V7.call hb8).cell 0 rfl
  have c5 := (V7.call hb8).cell 1 rfl
  go_wp2_with fail
  refine (show Calls _ _ _ _ (PPost w8 (.bool true)) from has_c _ _ [0, 1] [true, true] 1 1 w8 (HS.out.1 _ hb8) (HS.out.2 _ hb8) rfl).mono ?_; rintro e w9 ⟨rfl, hb9⟩
  clear c2 c3 c4 c5
  have hb9' := after hb8 hb8.size hb9
  have c2 := (U7.call hb9').cell 0 rfl
  have c3 := (U7.call hb9').cell 1 rfl
  clear hb8 hb9
  go_wp2_with fail
  refine (show Calls _ _ _ _ (PPost w9 (.bool true)) from has_c _ _ [0, 1] [true, true] 0 0 w9 (HS.out.1 _ hb9') (HS.out.2 _ hb9') rfl).mono ?_; rintro e w10 ⟨rfl, hb10⟩
  clear c2 c3
  have hb10' := after hb9' hb9'.size hb10
  have c2 := (U7.call hb10').cell 0 rfl
  have c3 := (U7.call hb10').cell 1 rfl
  clear hb10
  go_wp2_with fail
  refine (show Calls _ _ _ _ (PPost w10 (.int .i64 2)) from count_c _ _ [true, true] w10 (HS.out.2 _ hb10')).mono ?_; rintro e w11 ⟨rfl, hb11⟩
  clear c2 c3
  have BL := after B7 B7.size (after hb10' hb10'.size hb11)
  go_wp2_with fail
  go_ret
  exact ⟨rfl, BL⟩
end Go.Proofs.Ytlcefgdiclpcjaa
