/- Texts joined: XZf. -/
import Derived.Test.YtaoamkbcegadcaaGreatDoorZd
set_option maxRecDepth 4000
/- Layer 20: slices.Index, slices.Equal of ints. -/
namespace Go.Proofs.YtaoamkbcegadcaaGreatDoor
open Go.RowKit Go.Bx Go.Od Go.Hp
attribute [local go_sem ↓] Go.wp_at_zero Go.wp_at_succ
set_option linter.unusedVariables false

set_option maxHeartbeats 1600000 in
theorem equalS_c {F G : Nat → Prop} (av bv : Value) (xs ys : List Int) (w : World) (h1 : SlOf RInt 1 F w av xs) (h2 : SlOf RInt 1 G w bv ys) :
    Calls Tryz.prog 38 #[av, bv] w (PPost w (.bool (decide (xs = ys)))) := by
  obtain ⟨a, cap, rfl, hcap, hcm, hin, hcell⟩ := h1.ints
  obtain ⟨a2, cap2, rfl, hcap2, hcm2, hin2, hcell2⟩ := h2.ints
  unfold maxLen at hcm hcm2
  by_cases hl : xs.length = ys.length
  · have HC : Hid (∀ j, j < xs.length → ∃ b o b2 o2, a = some ⟨b, o, none⟩ ∧ a2 = some ⟨b2, o2, none⟩ ∧ w.cell? ⟨b, o + j, none⟩ = some (.int .i64 (xs.getD j 0)) ∧ w.cell? ⟨b2, o2 + j, none⟩ = some (.int .i64 (ys.getD j 0))) := fun j hj => by
      obtain ⟨b, o, e, _, e2⟩ := hcell j hj
      obtain ⟨b', o', e3, _, e4⟩ := hcell2 j (by omega)
      exact ⟨b, o, b', o', e, e3, e2 j hj, e4 j (by omega)⟩
    have HL : Hid (xs.length = ys.length) := hl
    rw [← hl]
    clear hcell hcell2 hin hin2 h1 h2 hl
    go_enter Tryz.func38, Tryz.ntmps38
    go_wp2_with fail
    go_loopw [13] (fun jv wr => ∃ j : Nat, j ≤ xs.length ∧ jv = .int .i64 j ∧ Hid (∀ q, q < j → xs.getD q 0 = ys.getD q 0) ∧ Below w.heap.size w wr) (fun jv _ => xs.length - (intOf jv).toNat)
    case atStart => exact ⟨0, by omega, rfl, (fun j hj => by omega), Below.refl _ _⟩
    case round =>
      obtain ⟨j, hj, rfl, hall, hbel⟩ := hrel
      by_cases hjl : j < xs.length
      · obtain ⟨b, o, b2, o2, rfl, rfl, e1, e2⟩ := HC.out j hjl
        have d1 := (hbel.cell (lt_of_cell e1)).trans e1
        have d2 := (hbel.cell (lt_of_cell e2)).trans e2
        obtain ⟨z, hz⟩ : ∃ z, z = xs.getD j 0 := ⟨_, rfl⟩
        obtain ⟨y, hy⟩ : ∃ y, y = ys.getD j 0 := ⟨_, rfl⟩
        rw [← hz] at d1
        rw [← hy] at d2
        have HZ : Hid (z = xs.getD j 0 ∧ y = ys.getD j 0) := ⟨hz, hy⟩
        have HB : Hid (Below w.heap.size w wr) := hbel
        clear hz hy e1 e2 hbel
        have hj0 : (0 : Int) ≤ (j : Int) := by omega
        have hj1 : (j : Int) < (xs.length : Int) := by omega
        by_cases h2 : z = y
        · have h3 : (z == y) = true := by simp [h2]
          have H5 : Hid (∀ q, q < j + 1 → xs.getD q 0 = ys.getD q 0) := fun q hq => by
            by_cases e : q = j
            · subst e; rw [← HZ.out.1, ← HZ.out.2]; exact h2
            · exact hall.out q (by omega)
          clear h2
          go_wp2_with fail
          go_quiet (fail)
          go_wp2_with fail
          go_roundw
          case rel => exact ⟨j + 1, by omega, by go_num, H5, below_drewN HB.out _⟩
          case measure => simp [intOf]; omega
        · have h3 : (z == y) = false := by simp [h2]
          have HE : Hid (decide (xs = ys) = false) := decide_eq_false fun e => h2 (by rw [HZ.out.1, HZ.out.2, e])
          clear h2
          go_wp2_with fail
          go_quiet (fail)
          go_wp2_with fail
          go_ret
          exact ⟨ret_b HE.out.symm, below_drewN HB.out _⟩
      · have ej : j = xs.length := by omega
        subst ej
        have HE : Hid (decide (xs = ys) = true) := by
          refine decide_eq_true (List.ext_getElem HL.out fun q hq hq2 => ?_)
          have := hall.out q hq
          simpa [hq, hq2] using this
        go_wp2_with fail
        go_ret
        exact ⟨ret_b HE.out.symm, hbel⟩
  · have HE : Hid (decide (xs = ys) = false) := decide_eq_false fun e => hl (by rw [e])
    have h3 : ((xs.length : Int) == (ys.length : Int)) = false := by simp; omega
    clear hcell hcell2 hin hin2 h1 h2
    go_enter Tryz.func38, Tryz.ntmps38
    go_wp2_with fail
    go_ret
    exact ⟨ret_b HE.out.symm, Below.refl _ _⟩
set_option maxHeartbeats 1600000 in
theorem idxV_c {F : Nat → Prop} (k : Int) (v : Value) (xs : List Int) (w : World) (hs : SlOf RInt 1 F w v xs) :
    Calls Tryz.prog 62 #[v, .int .i64 k] w (PPost w (.int .i64 (fIdx (fun y => y == k) xs))) := by
  obtain ⟨a, cap, rfl, hcap, hcm, hin, hcell⟩ := hs.ints
  unfold maxLen at hcm
  have HC : Hid (∀ j, j < xs.length → ∃ b o, a = some ⟨b, o, none⟩ ∧ w.cell? ⟨b, o + j, none⟩ = some (.int .i64 (xs.getD j 0))) := fun j hj => by
    obtain ⟨b', o', h1, h2, h3⟩ := hcell j hj
    exact ⟨b', o', h1, h3 j hj⟩
  clear hs hin hcell
  obtain ⟨L, hL⟩ : ∃ L, L = xs.length := ⟨_, rfl⟩
  have HL : Hid (L = xs.length) := hL
  rw [← hL] at hcap HC ⊢
  obtain ⟨A, hA⟩ : ∃ A, A = fIdx (fun y => y == k) xs := ⟨_, rfl⟩
  have HA : Hid (A = fIdx (fun y => y == k) xs) := hA
  rw [← hA]
  clear hL hA
  go_enter Tryz.func62, Tryz.ntmps62
  go_wp2_with fail
  go_loopw [8] (fun jv wr => ∃ j : Nat, j ≤ L ∧ jv = .int .i64 j ∧ Hid (∀ q, q < j → (xs.getD q 0 == k) = false) ∧ Below w.heap.size w wr) (fun jv _ => L - (intOf jv).toNat)
  case atStart => exact ⟨0, by omega, rfl, (fun j hj => by omega), Below.refl _ _⟩
  case round =>
    obtain ⟨j, hj, rfl, hall, hb⟩ := hrel
    have HB : Hid (Below w.heap.size w wr) := hb
    by_cases h1 : j < L
    · obtain ⟨b', o', rfl, hc0⟩ := HC.out j h1
      have hc := (hb.cell (lt_of_cell hc0)).trans hc0
      obtain ⟨z, hz⟩ : ∃ z, z = xs.getD j 0 := ⟨_, rfl⟩
      rw [← hz] at hc
      have HZ : Hid (z = xs.getD j 0) := hz
      have hj0 : (0 : Int) ≤ (j : Int) := by omega
      have hj1 : (j : Int) < (L : Int) := by omega
      clear hz hc0 hb
      cases hq : (z == k) with
      | true =>
        have HE : Hid (A = j) := by
          have : A = j := by
            rw [HA.out]
            have hx : j < xs.length := by rw [← HL.out]; exact h1
            exact fIdx_some hx (by rw [← show z = xs[j] by rw [HZ.out]; simp [hx]]; exact hq) fun i hi => by
              have := hall.out i hi
              simpa [show i < xs.length by omega] using this
          exact this
        have e : k = z := (eq_of_beq hq).symm
        subst e
        clear hq
        go_wp2_with fail
        go_ret
        exact ⟨by rw [HE.out]; rfl, HB.out⟩
      | false =>
        have HA : Hid (∀ q, q < j + 1 → (xs.getD q 0 == k) = false) := fun q hq' => by
          by_cases e : q = j
          · subst e; rw [← HZ.out]; exact hq
          · exact hall.out q (by omega)
        have hq2 : (k == z) = false := by
          rw [beq_eq_false_iff_ne] at hq ⊢
          exact fun e => hq e.symm
        clear hq
        go_wp2_with fail
        go_roundw
        case rel => exact ⟨j + 1, by omega, by go_num, HA, HB.out⟩
        case measure => simp [intOf]; omega
    · have ej : j = L := by omega
      subst ej
      have HE : Hid (A = -1) := by
        have : A = -1 := by
          rw [HA.out]
          exact fIdx_none fun x hx => by
            obtain ⟨i, hi, rfl⟩ := List.mem_iff_getElem.1 hx
            have := hall.out i (by rw [HL.out]; exact hi)
            simpa [hi] using this
        exact this
      clear hb
      go_wp2_with fail
      go_ret
      exact ⟨by rw [HE.out]; rfl, HB.out⟩
end Go.Proofs.YtaoamkbcegadcaaGreatDoor
