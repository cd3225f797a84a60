/- Layer 22: when an arena is right, calm; whether two are the same. -/
import Derived.Test.YtlcefgdiclpcjaaAr
namespace Go.Proofs.Ytlcefgdiclpcjaa
open Go.RowKit Go.Bx
set_option linter.unusedVariables false

theorem allD (p : Int → Bool) (gs : List Int) (h : ∀ j, j < gs.length → p (gs.getD j 0) = true) : gs.all p = true := by
  rw [List.all_eq_true]
  intro x hx
  obtain ⟨i, hi, rfl⟩ := List.getElem_of_mem hx
  have := h i hi
  simpa [hi] using this
theorem allF (p : Int → Bool) (gs : List Int) (k : Nat) (hk : k < gs.length) (h : p (gs.getD k 0) = false) : gs.all p = false := by
  rw [Bool.eq_false_iff]
  intro hc
  rw [List.all_eq_true] at hc
  have := hc (gs.getD k 0) (by rw [List.getD_eq_getElem?_getD, List.getElem?_eq_getElem hk]; exact List.getElem_mem hk)
  rw [h] at this
  cases this

set_option maxHeartbeats 800000 in
theorem calm_c {F : Nat → Prop} (gv lv : Value) (gs : List Int) (w : World) (hg : SlOf RInt 1 F w gv gs) :
    Calls Try.prog 52 #[.agg #[gv, lv]] w (PPost w (.bool (calmB gs))) := by
  obtain ⟨a, cap, rfl, hcap, hm, hin, hcell⟩ := hg.ints
  unfold maxLen at hm
  go_enter Try.func52, Try.ntmps52
  go_wp2_with fail
  go_loop [3] (fun i => ∃ k : Nat, k ≤ gs.length ∧ i = .int .i64 k ∧ Hid (∀ j : Nat, j < k → decide (gs.getD j 0 ≤ 1099511627776) = true)) (fun i => gs.length - (intOf i).toNat)
  case atStart => exact ⟨0, by omega, rfl, fun j hj => by omega⟩
  case round =>
    obtain ⟨k, hk, rfl, hall⟩ := hrel
    by_cases h1 : k < gs.length
    · obtain ⟨b, o, rfl, hF, hc⟩ := hcell k h1
      have hck := hc k h1
      have hk1 : (k : Int) < (gs.length : Int) := by omega
      obtain ⟨z, hz⟩ : ∃ z, z = gs.getD k 0 := ⟨_, rfl⟩
      rw [← hz] at hck
      have HZ : Hid (z = gs.getD k 0) := hz
      clear hcell hg hc hin hz
      have d1 := cell_alloc_lt hck (.cells #[.slice (some ⟨b, o, none⟩) gs.length cap, lv] 46)
      clear hck
      by_cases h2 : 1099511627776 < z
      · go_wp2_with fail
        go_ret
        exact ⟨ret_b (by unfold calmB; rw [allF _ gs k h1 (by rw [← HZ.out]; exact decide_eq_false (by omega))]), (Below.refl _ _).alloc (Nat.le_refl _) _⟩
      · go_wp2_with fail
        go_round
        case rel =>
          refine ⟨k + 1, by omega, by go_num, fun j hj => ?_⟩
          by_cases hjk : j < k
          · exact hall j hjk
          · have : j = k := by omega
            subst this
            rw [← HZ.out]
            exact decide_eq_true (by omega)
        case measure => simp [intOf]; omega
    · have : k = gs.length := by omega
      subst this
      clear hcell hg
      go_wp2_with fail
      go_ret
      exact ⟨ret_b (by unfold calmB; rw [allD _ gs hall.out]), (Below.refl _ _).alloc (Nat.le_refl _) _⟩

theorem minOf_all {gs : List Int} {m : Int} (h : MinOf gs m) : gs.all (fun x => decide (0 ≤ x)) = decide (0 ≤ m) := by
  obtain ⟨h1, h2⟩ := h
  rw [Bool.eq_iff_iff, List.all_eq_true]
  simp only [decide_eq_true_eq]
  exact ⟨fun h => h m h1, fun h x hx => by have := h2 x hx; omega⟩

set_option maxHeartbeats 1600000 in
theorem right_c {F : Nat → Prop} (gv lv : Value) (gs : List Int) (ls : List Bool) (w : World) (hF : ∀ b, F b → b < w.heap.size) (hg : SlOf RInt 1 F w gv gs) (hl : SlOf RBool 1 F w lv ls) :
    Calls Try.prog 38 #[.agg #[gv, lv]] w (PPost w (.bool (rightA gs ls))) := by
  have hg' := hg
  obtain ⟨a, cap, rfl, hcap, hm, hin, hcell⟩ := hg.ints
  obtain ⟨a2, cap2, rfl, hcap2, hm2, hcell2⟩ := hl.bools
  unfold maxLen at hm hm2
  by_cases h1 : gs.length = ls.length
  · clear hl
    rw [← h1] at hcap2 hcell2 ⊢
    have H1 : Hid (gs.length = ls.length) := h1
    clear h1
    by_cases h2 : 1 ≤ gs.length
    · by_cases h3 : gs.length ≤ 1024
      · obtain ⟨b, o, rfl, hFb, hc⟩ := hcell 0 h2
        obtain ⟨b2, o2, rfl, hFb2, hc2⟩ := hcell2 0 (by omega)
        have c0 := hc 0 h2
        have c1 := hc2 0 (by omega)
        simp only [Nat.add_zero] at c0 c1
        have hb := hF b hFb
        have hb2 := hF b2 hFb2
        obtain ⟨W, hW⟩ : ∃ W, W = w.alloc (.cells #[.slice (some ⟨b, o, none⟩) gs.length cap, .slice (some ⟨b2, o2, none⟩) gs.length cap2] 46) := ⟨_, rfl⟩
        have hgW : SlOf RInt 1 F W (.slice (some ⟨b, o, none⟩) gs.length cap) gs := hg'.same RInt.ok (by rw [hW]; exact Same.of_below ((Below.refl _ w).alloc (Nat.le_refl _) _) (fun b hb => hF b hb))
        have HG : Hid (SlOf RInt 1 F W (.slice (some ⟨b, o, none⟩) gs.length cap) gs) := hgW
        have hR : Hid (∀ m, MinOf gs m → rightA gs ls = (decide (0 ≤ m) && decide (gs.getD 0 0 = 0) && ls.getD 0 false)) := by
          intro m hmin
          unfold rightA
          rw [minOf_all hmin, decide_eq_true H1.out, decide_eq_true h2, decide_eq_true h3]
          cases decide (0 ≤ m) <;> cases decide (gs.getD 0 0 = 0) <;> cases ls.getD 0 false <;> rfl
        have i2 : ¬ (gs.length : Int) < 1 := by omega
        have i3 : ¬ (1024 : Int) < (gs.length : Int) := by omega
        have i5 : (0 : Int) < (gs.length : Int) := by omega
        clear hcell hcell2 hc hc2 hg hg' hgW
        have D0 := cell_alloc_lt c0 (.cells #[.slice (some ⟨b, o, none⟩) gs.length cap, .slice (some ⟨b2, o2, none⟩) gs.length cap2] 46)
        have D1 := cell_alloc_lt c1 (.cells #[.slice (some ⟨b, o, none⟩) gs.length cap, .slice (some ⟨b2, o2, none⟩) gs.length cap2] 46)
        rw [← hW] at D0 D1
        have HW : Hid (W = w.alloc (.cells #[.slice (some ⟨b, o, none⟩) gs.length cap, .slice (some ⟨b2, o2, none⟩) gs.length cap2] 46)) := hW
        generalize gs.getD 0 0 = z at *
        generalize ls.getD 0 false = x at *
        clear hW
        go_enter Try.func38, Try.ntmps38
        go_wp2_with fail
        rw [← HW.out]
        refine (min_c _ gs _ HG.out (by omega)).mono ?_; rintro e w1 ⟨m, rfl, rfl, hmin⟩
        have HM : Hid (MinOf gs m) := hmin
        clear hmin
        have Y := Box.new w [.slice (some ⟨b, o, none⟩) gs.length cap, .slice (some ⟨b2, o2, none⟩) gs.length cap2] 46
        rw [← HW.out] at Y
        have y0 := Y.cell 0 rfl
        have y1 := Y.cell 1 rfl
        have BW : Below w.heap.size w W := by rw [HW.out]; exact (Below.refl _ w).alloc (Nat.le_refl _) _
        by_cases j1 : 0 ≤ m
        · by_cases j2 : z = 0
          · subst j2
            go_wp2_with fail
            go_ret
            exact ⟨ret_b (by rw [hR.out m HM.out, decide_eq_true j1]; simp), BW⟩
          · go_wp2_with fail
            go_ret
            exact ⟨ret_b (by rw [hR.out m HM.out, decide_eq_false j2]; simp), BW⟩
        · go_wp2_with fail
          go_ret
          exact ⟨ret_b (by rw [hR.out m HM.out, decide_eq_false (show ¬ 0 ≤ m by omega)]; simp), BW⟩
      · clear hcell hcell2 hg hg'
        have i2 : ¬ (gs.length : Int) < 1 := by omega
        have i3 : (1024 : Int) < (gs.length : Int) := by omega
        have hR : Hid (rightA gs ls = false) := by show rightA gs ls = false; unfold rightA; rw [decide_eq_false h3]; simp
        go_enter Try.func38, Try.ntmps38
        go_wp2_with fail
        go_ret
        exact ⟨ret_b hR.out.symm, (Below.refl _ w).alloc (Nat.le_refl _) _⟩
    · clear hcell hcell2 hg hg'
      have i2 : (gs.length : Int) < 1 := by omega
      have hR : Hid (rightA gs ls = false) := by show rightA gs ls = false; unfold rightA; rw [decide_eq_false h2]; simp
      go_enter Try.func38, Try.ntmps38
      go_wp2_with fail
      go_ret
      exact ⟨ret_b hR.out.symm, (Below.refl _ w).alloc (Nat.le_refl _) _⟩
  · clear hcell hcell2 hg hg' hl
    have i1 : ¬ (gs.length : Int) = (ls.length : Int) := by omega
    have hR : Hid (rightA gs ls = false) := by show rightA gs ls = false; unfold rightA; rw [decide_eq_false h1]; simp
    go_enter Try.func38, Try.ntmps38
    go_wp2_with fail
    go_ret
    exact ⟨ret_b hR.out.symm, (Below.refl _ w).alloc (Nat.le_refl _) _⟩
end Go.Proofs.Ytlcefgdiclpcjaa
