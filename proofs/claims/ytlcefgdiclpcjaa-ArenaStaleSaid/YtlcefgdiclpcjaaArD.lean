/- Layer 22: when an arena is right (the document's), whether two are the same. -/
import Derived.Test.YtlcefgdiclpcjaaArC
namespace Go.Proofs.Ytlcefgdiclpcjaa
open Go.RowKit Go.Bx
set_option linter.unusedVariables false

theorem rightA_pos {gs : List Int} {ls : List Bool} (h1 : gs.length = ls.length) (h2 : 1 ≤ gs.length) (h3 : gs.length ≤ 1024) (h4 : gs.getD 0 0 = 0) (h5 : ls.getD 0 false = true) (h6 : ∀ j, j < gs.length → 0 ≤ gs.getD j 0) : rightA gs ls = true := by
  unfold rightA
  rw [decide_eq_true h1, decide_eq_true h2, decide_eq_true h3, decide_eq_true h4, h5, allD _ gs (fun j hj => decide_eq_true (h6 j hj))]
  rfl
theorem rightA_neg {gs : List Int} {ls : List Bool} {j : Nat} (hj : j < gs.length) (h : gs.getD j 0 < 0) : rightA gs ls = false := by
  unfold rightA
  rw [allF _ gs j hj (decide_eq_false (by omega))]
  simp

set_option maxHeartbeats 1600000 in
theorem rright_c {F : Nat → Prop} (gv lv : Value) (gs : List Int) (ls : List Bool) (w : World) (hg : SlOf RInt 1 F w gv gs) (hl : SlOf RBool 1 F w lv ls) :
    Calls Try.prog 39 #[.agg #[gv, lv]] w (PPost w (.bool (rightA gs ls))) := by
  obtain ⟨a, cap, rfl, hcap, hm, hin, hcell⟩ := hg.ints
  obtain ⟨a2, cap2, rfl, hcap2, hm2, hcell2⟩ := hl.bools
  unfold maxLen at hm hm2
  clear hg hl
  by_cases h1 : gs.length = ls.length
  · rw [← h1] at hcap2 hcell2 ⊢
    have H1 : Hid (gs.length = ls.length) := h1
    clear h1
    by_cases h2 : 1 ≤ gs.length
    · have e2 : ((gs.length : Int) == 0) = false := by rw [beq_eq_false_iff_ne]; omega
      by_cases h3 : gs.length ≤ 1024
      · have e3 : ¬ (1024 : Int) < (gs.length : Int) := by omega
        obtain ⟨b, o, rfl, hFb, hc⟩ := hcell 0 h2
        obtain ⟨b2, o2, rfl, hFb2, hc2⟩ := hcell2 0 h2
        have c0 := hc 0 h2
        have c1 := hc2 0 h2
        simp only [Nat.add_zero] at c0 c1
        have D0 := cell_alloc_lt c0 (.cells #[.slice (some ⟨b, o, none⟩) gs.length cap, .slice (some ⟨b2, o2, none⟩) gs.length cap2] 46)
        have D1 := cell_alloc_lt c1 (.cells #[.slice (some ⟨b, o, none⟩) gs.length cap, .slice (some ⟨b2, o2, none⟩) gs.length cap2] 46)
        clear hcell hcell2 hc2 c0 c1
        have i5 : (0 : Int) < (gs.length : Int) := by omega
        obtain ⟨x, hx⟩ : ∃ x, x = ls.getD 0 false := ⟨_, rfl⟩
        obtain ⟨z, hz⟩ : ∃ z, z = gs.getD 0 0 := ⟨_, rfl⟩
        rw [← hx] at D1
        rw [← hz] at D0
        have HX : Hid (x = ls.getD 0 false) := hx
        have HZ : Hid (z = gs.getD 0 0) := hz
        clear hx hz
        by_cases h4 : z = 0
        · subst h4
          cases x
          · go_enter Try.func39, Try.ntmps39
            go_wp2_with fail
            go_ret
            exact ⟨ret_b (by unfold rightA; rw [← HX.out]; simp), (Below.refl _ w).alloc (Nat.le_refl _) _⟩
          · go_enter Try.func39, Try.ntmps39
            go_wp2_with fail
            go_loop [3] (fun i => ∃ k : Nat, k ≤ gs.length ∧ i = .int .i64 k ∧ Hid (∀ j : Nat, j < k → 0 ≤ gs.getD j 0)) (fun i => gs.length - (intOf i).toNat)
            case atStart => exact ⟨0, by omega, rfl, fun j hj => by omega⟩
            case round =>
              obtain ⟨k, hk, rfl, hall⟩ := hrel
              by_cases h6 : k < gs.length
              · have hck := cell_alloc_lt (hc k h6) (.cells #[.slice (some ⟨b, o, none⟩) gs.length cap, .slice (some ⟨b2, o2, none⟩) gs.length cap2] 46)
                obtain ⟨y, hy⟩ : ∃ y, y = gs.getD k 0 := ⟨_, rfl⟩
                rw [← hy] at hck
                have HY : Hid (y = gs.getD k 0) := hy
                clear hy hc hin
                by_cases h7 : y < 0
                · go_wp2_with fail
                  go_ret
                  exact ⟨ret_b (rightA_neg h6 (by rw [← HY.out]; exact h7)).symm, (Below.refl _ w).alloc (Nat.le_refl _) _⟩
                · go_wp2_with fail
                  go_round
                  case rel =>
                    refine ⟨k + 1, by omega, by go_num, fun j hj => ?_⟩
                    by_cases hjk : j < k
                    · exact hall j hjk
                    · have : j = k := by omega
                      subst this
                      rw [← HY.out]
                      omega
                  case measure => simp [intOf]; omega
              · have : k = gs.length := by omega
                subst this
                clear hc hin
                go_wp2_with fail
                go_ret
                exact ⟨ret_b (rightA_pos H1.out h2 h3 HZ.out.symm HX.out.symm hall.out).symm, (Below.refl _ w).alloc (Nat.le_refl _) _⟩
        · go_enter Try.func39, Try.ntmps39
          go_wp2_with fail
          go_ret
          exact ⟨ret_b (by unfold rightA; rw [← HZ.out, decide_eq_false h4]; simp), (Below.refl _ w).alloc (Nat.le_refl _) _⟩
      · have e3 : (1024 : Int) < (gs.length : Int) := by omega
        have hR : Hid (rightA gs ls = false) := by show rightA gs ls = false; unfold rightA; rw [decide_eq_false h3]; simp
        clear hcell hcell2
        go_enter Try.func39, Try.ntmps39
        go_wp2_with fail
        go_ret
        exact ⟨ret_b hR.out.symm, (Below.refl _ w).alloc (Nat.le_refl _) _⟩
    · have e2 : gs.length = 0 := by omega
      have hR : Hid (rightA gs ls = false) := by show rightA gs ls = false; unfold rightA; rw [decide_eq_false h2]; simp
      clear hcell hcell2
      go_enter Try.func39, Try.ntmps39
      go_wp2_with fail
      go_ret
      exact ⟨ret_b hR.out.symm, (Below.refl _ w).alloc (Nat.le_refl _) _⟩
  · clear hcell hcell2
    have i1 : ¬ (gs.length : Int) = (ls.length : Int) := by omega
    have hR : Hid (rightA gs ls = false) := by show rightA gs ls = false; unfold rightA; rw [decide_eq_false h1]; simp
    go_enter Try.func39, Try.ntmps39
    go_wp2_with fail
    go_ret
    exact ⟨ret_b hR.out.symm, (Below.refl _ w).alloc (Nat.le_refl _) _⟩

def okA (gs : List Int) (ls : List Bool) : Bool := decide (gs.length ≤ 1100) && rightA gs ls && calmB gs
set_option maxHeartbeats 800000 in
theorem right22_c {F : Nat → Prop} (gv lv : Value) (gs : List Int) (ls : List Bool) (w : World) (hF : ∀ b, F b → b < w.heap.size) (hg : SlOf RInt 1 F w gv gs) (hl : SlOf RBool 1 F w lv ls) :
    Calls Try.prog 32 #[.agg #[gv, lv]] w (PPost w (.bool (okA gs ls))) := by
  have HG : Hid (SlOf RInt 1 F w gv gs) := hg
  have HL : Hid (SlOf RBool 1 F w lv ls) := hl
  obtain ⟨a, cap, rfl, hcap, hm, hin, hcell⟩ := hg.ints
  unfold maxLen at hm
  clear hg hl hcell hin
  by_cases h1 : gs.length ≤ 1100
  · have e1 : (gs.length : Int) ≤ 1100 := by omega
    have b0 : Below w.heap.size w (w.alloc (.cells #[.slice a gs.length cap, lv] 46)) := (Below.refl _ w).alloc (Nat.le_refl _) _
    have X := Box.new w [.slice a gs.length cap, lv] 46
    go_enter Try.func32, Try.ntmps32
    go_wp2_with fail
    refine (rright_c _ _ gs ls _ (HG.out.same RInt.ok (Same.of_below b0 hF)) (HL.out.same RBool.ok (Same.of_below b0 hF))).mono ?_; rintro e w1 ⟨rfl, hb1⟩
    have B1 := after b0 b0.size hb1
    have X1 := X.call hb1
    have c0 := X1.cell 0 rfl
    have c1 := X1.cell 1 rfl
    clear b0 X hb1
    have HR : Hid (okA gs ls = (rightA gs ls && calmB gs)) := by show okA gs ls = (rightA gs ls && calmB gs); unfold okA; rw [decide_eq_true h1]; rfl
    obtain ⟨rr, hrr⟩ : ∃ rr, rr = rightA gs ls := ⟨_, rfl⟩
    rw [← hrr]
    have HX : Hid (rr = rightA gs ls) := hrr
    clear hrr
    cases rr
    · go_wp2_with fail
      go_ret
      exact ⟨ret_b (by rw [HR.out, ← HX.out]; rfl), B1⟩
    · go_wp2_with fail
      refine (calm_c _ _ gs _ (HG.out.same RInt.ok (Same.of_below B1 hF))).mono ?_; rintro e w2 ⟨rfl, hb2⟩
      have B2 := after B1 B1.size hb2
      go_wp2_with fail
      go_ret
      exact ⟨ret_b (by rw [HR.out, ← HX.out]; rfl), B2⟩
  · have e1 : ¬ (gs.length : Int) ≤ 1100 := by omega
    have HR : Hid (okA gs ls = false) := by show okA gs ls = false; unfold okA; rw [decide_eq_false h1]; rfl
    go_enter Try.func32, Try.ntmps32
    go_wp2_with fail
    go_ret
    exact ⟨ret_b HR.out.symm, (Below.refl _ w).alloc (Nat.le_refl _) _⟩
end Go.Proofs.Ytlcefgdiclpcjaa
