/- Layer 12: the document's near, Right of pixels and of matrices. -/
import Derived.Test.YtmhfabekmgcjnaaDoorRead
import Derived.Test.YtmhfabekmgcjnaaDoorKept
import Derived.Test.YtmhfabekmgcjnaaDoorRows
import Derived.BigQuiet
import Derived.Deep.QuietTactic
import Derived.Deep.RegionWith
import Derived.WalkKit
import Derived.Deep.DrawnRows
import Derived.Deep.AppendLies
import Derived.Laws.OwnMore
import Derived.OneCell
import Derived.Deep.RegionLaw
namespace Go.Proofs.YtmhfabekmgcjnaaDoor
open Go.RowKit Go.Bx
attribute [local go_sem ↓] Go.wp_at_zero Go.wp_at_succ
set_option linter.unusedVariables false

def inB (lo hi x : Int) : Bool := decide (lo ≤ x) && decide (x ≤ hi)
def nearB (xs : List Int) (f t : Nat) (lo hi : Int) : Bool := (List.range (t - f)).all fun j => inB lo hi (xs.getD (f + j) 0)
theorem nearB_iff (xs : List Int) (f t : Nat) (lo hi : Int) : nearB xs f t lo hi = true ↔ ∀ j, f ≤ j → j < t → lo ≤ xs.getD j 0 ∧ xs.getD j 0 ≤ hi := by
  unfold nearB inB
  simp only [List.all_eq_true, List.mem_range, Bool.and_eq_true, decide_eq_true_eq]
  constructor
  · intro h j h1 h2
    have := h (j - f) (by omega)
    rwa [show f + (j - f) = j by omega] at this
  · intro h j hj
    exact h (f + j) (by omega) (by omega)
theorem nearB_no {xs : List Int} {f t : Nat} {lo hi : Int} {j : Nat} (h1 : f ≤ j) (h2 : j < t) (h : ¬ (lo ≤ xs.getD j 0 ∧ xs.getD j 0 ≤ hi)) : nearB xs f t lo hi = false := by
  cases e : nearB xs f t lo hi with
  | false => rfl
  | true => exact absurd ((nearB_iff _ _ _ _ _).1 e j h1 h2) h
set_option maxHeartbeats 1600000 in
theorem near_c {F : Nat → Prop} (lv : Value) (xs : List Int) (f t : Nat) (lo hi : Int) (w : World) (hft : f ≤ t) (ht : t ≤ xs.length) (hl : SlOf RInt 1 F w lv xs) :
    Calls Tryd.prog 32 #[lv, .int .i64 f, .int .i64 t, .int .i64 lo, .int .i64 hi] w (PPost w (.bool (nearB xs f t lo hi))) := by
  obtain ⟨a, cap, rfl, hcap, hm, _, hcell⟩ := hl.ints
  have HC : Hid (∀ i, i < xs.length → ∃ b o, a = some ⟨b, o, none⟩ ∧ F b ∧ ∀ j, j < xs.length → w.cell? ⟨b, o + j, none⟩ = some (.int .i64 (xs.getD j 0))) := hcell
  unfold maxLen at hm
  clear hcell hl
  go_enter Tryd.func32, Tryd.ntmps32
  go_wp2_with fail
  go_loop [11] (fun jv => ∃ j : Nat, f ≤ j ∧ j ≤ t ∧ jv = .int .i64 j ∧ Hid (∀ q, f ≤ q → q < j → lo ≤ xs.getD q 0 ∧ xs.getD q 0 ≤ hi)) (fun jv => t - (intOf jv).toNat)
  case atStart => exact ⟨f, Nat.le_refl _, hft, rfl, fun q h1 h2 => by omega⟩
  case round =>
    obtain ⟨j, hfj, hjt, rfl, hall⟩ := hrel
    by_cases hjl : j < t
    · obtain ⟨b, o, rfl, _, hc⟩ := HC.out j (by omega)
      have hcj := hc j (by omega)
      obtain ⟨z, hz⟩ : ∃ z, z = xs.getD j 0 := ⟨_, rfl⟩
      rw [← hz] at hcj
      have HZ : Hid (z = xs.getD j 0) := hz
      have hj0 : (0 : Int) ≤ (j : Int) := by omega
      have hj1 : (j : Int) < (xs.length : Int) := by omega
      clear hc hz
      by_cases h1 : z < lo
      · have HE : Hid (nearB xs f t lo hi = false) := nearB_no hfj hjl (by rw [← HZ.out]; omega)
        go_wp2_with fail
        go_ret
        exact ⟨ret_b HE.out.symm, Below.refl _ _⟩
      · by_cases h2 : hi < z
        · have HE : Hid (nearB xs f t lo hi = false) := nearB_no hfj hjl (by rw [← HZ.out]; omega)
          go_wp2_with fail
          go_ret
          exact ⟨ret_b HE.out.symm, Below.refl _ _⟩
        · have HA : Hid (∀ q, f ≤ q → q < j + 1 → lo ≤ xs.getD q 0 ∧ xs.getD q 0 ≤ hi) := fun q h3 h4 => by
            by_cases e : q = j
            · rw [e, ← HZ.out]; omega
            · exact hall.out q h3 (by omega)
          go_wp2_with fail
          go_round
          case rel => exact ⟨j + 1, by omega, by omega, by go_num, HA⟩
          case measure => simp [intOf]; omega
    · have ej : j = t := by omega
      subst ej
      have HE : Hid (nearB xs f j lo hi = true) := (nearB_iff _ _ _ _ _).2 hall.out
      go_wp2_with fail
      go_ret
      exact ⟨ret_b HE.out.symm, Below.refl _ _⟩

/-- a pixel's parts are no more than its alpha -/
def pxR (a b c d : Int) : Bool := decide (a ≤ d) && decide (b ≤ d) && decide (c ≤ d)
set_option maxHeartbeats 1600000 in
theorem right01_c (a b c d : Int) (w : World) : Calls Tryd.prog 54 #[.agg #[.int .u8 a, .int .u8 b, .int .u8 c, .int .u8 d]] w (PPost w (.bool (pxR a b c d))) := by
  have X := Box.new w [.int .u8 a, .int .u8 b, .int .u8 c, .int .u8 d] 80
  have B0 : Below w.heap.size w (w.alloc (.cells #[.int .u8 a, .int .u8 b, .int .u8 c, .int .u8 d] 80)) := (Below.refl _ _).alloc (Nat.le_refl _) _
  go_enter Tryd.func54, Tryd.ntmps54
  go_wp2_with fail
  have HX : Hid (Box (w.alloc (.cells #[.int .u8 a, .int .u8 b, .int .u8 c, .int .u8 d] 80)) w.heap.size [.int .u8 a, .int .u8 b, .int .u8 c, .int .u8 d] ∧ Below w.heap.size w (w.alloc (.cells #[.int .u8 a, .int .u8 b, .int .u8 c, .int .u8 d] 80))) := ⟨X, B0⟩
  clear X B0
  generalize w.alloc (.cells #[.int .u8 a, .int .u8 b, .int .u8 c, .int .u8 d] 80) = W0 at *
  go_loopw [3] (fun jv wr => ∃ j n : Nat, j ≤ 3 ∧ jv = .int .i64 j ∧ wr = W0.drewN n ∧ Hid (∀ q, q < j → [a, b, c].getD q 0 ≤ d)) (fun jv _ => 3 - (intOf jv).toNat)
  case atStart => exact ⟨0, 0, by omega, rfl, by first | rfl | simp, fun q h => by omega⟩
  case round =>
    obtain ⟨j, n, hj, rfl, rfl, hall⟩ := hrel
    have x3 := HX.out.1.cell 3 rfl
    by_cases hjl : j < 3
    · obtain ⟨z, hz⟩ : ∃ z, z = [a, b, c].getD j 0 := ⟨_, rfl⟩
      have xj : W0.cell? ⟨w.heap.size, j, none⟩ = some (.int .u8 z) := by
        rw [hz]
        match j, hjl with
        | 0, _ => exact HX.out.1.cell 0 rfl
        | 1, _ => exact HX.out.1.cell 1 rfl
        | 2, _ => exact HX.out.1.cell 2 rfl
      have HZ : Hid (z = [a, b, c].getD j 0) := hz
      have hj0 : (0 : Int) ≤ (j : Int) := by omega
      have hj1 : (j : Int) < 4 := by omega
      clear hz
      by_cases h1 : d < z
      · have HE : Hid (pxR a b c d = false) := by
          have e : z = a ∨ z = b ∨ z = c := by
            have := HZ.out
            match j, hjl with
            | 0, _ => exact .inl this
            | 1, _ => exact .inr (.inl this)
            | 2, _ => exact .inr (.inr this)
          have h2 : pxR a b c d ≠ true := by
            unfold pxR
            simp only [Bool.and_eq_true, decide_eq_true_eq, ne_eq]
            rintro ⟨⟨q1, q2⟩, q3⟩
            rcases e with e | e | e <;> omega
          cases e2 : pxR a b c d with
          | false => exact rfl
          | true => exact absurd e2 h2
        go_wp2_with fail
        go_quiet (fail)
        go_wp2_with fail
        go_ret
        exact ⟨ret_b HE.out.symm, below_drewN (below_drewN HX.out.2 _) _⟩
      · have HA : Hid (∀ q, q < j + 1 → [a, b, c].getD q 0 ≤ d) := fun q hq => by
          by_cases e : q = j
          · rw [e, ← HZ.out]; omega
          · exact hall.out q (by omega)
        go_wp2_with fail
        go_quiet (fail)
        go_wp2_with fail
        go_roundw
        case rel => exact ⟨j + 1, _, by omega, by go_num, by first | rfl | (simp; rfl), HA⟩
        case measure => simp [intOf]; omega
    · have ej : j = 3 := by omega
      subst ej
      have HE : Hid (pxR a b c d = true) := by
        have h0 := hall.out 0 (by omega)
        have h1 := hall.out 1 (by omega)
        have h2 := hall.out 2 (by omega)
        simp at h0 h1 h2
        have e : pxR a b c d = true := by
          unfold pxR
          simp [h0, h1, h2]
        exact e
      go_wp2_with fail
      go_ret
      exact ⟨ret_b HE.out.symm, below_drewN HX.out.2 _⟩
/-- a matrix's numbers -/
def r7 (xs : List Int) : Bool := (List.range (min xs.length 21)).all (fun j => inB (-32768) 32767 (xs.getD j 0)) && decide (xs.length = 20)
set_option maxHeartbeats 1600000 in
theorem right07_c {F : Nat → Prop} (lv : Value) (xs : List Int) (w : World) (hl : SlOf RInt 1 F w lv xs) :
    Calls Tryd.prog 46 #[lv] w (PPost w (.bool (r7 xs))) := by
  obtain ⟨a, cap, rfl, hcap, hm, _, hcell⟩ := hl.ints
  have HC : Hid (∀ i, i < xs.length → ∃ b o, a = some ⟨b, o, none⟩ ∧ F b ∧ ∀ j, j < xs.length → w.cell? ⟨b, o + j, none⟩ = some (.int .i64 (xs.getD j 0))) := hcell
  unfold maxLen at hm
  have hr : ∀ q, (r7 xs = q) ↔ (r7 xs = q) := fun q => Iff.rfl
  clear hcell hl hr
  go_enter Tryd.func46, Tryd.ntmps46
  go_wp2_with fail
  go_loop [3] (fun jv => ∃ j : Nat, j ≤ xs.length ∧ j ≤ 21 ∧ jv = .int .i64 j ∧ Hid (∀ q, q < j → inB (-32768) 32767 (xs.getD q 0) = true)) (fun jv => 21 - (intOf jv).toNat)
  case atStart => exact ⟨0, Nat.zero_le _, by omega, rfl, fun q h => by omega⟩
  case round =>
    obtain ⟨j, hj, hj21, rfl, hall⟩ := hrel
    by_cases hjl : j < xs.length
    · by_cases hj2 : j < 21
      · obtain ⟨b, o, rfl, _, hc⟩ := HC.out j hjl
        have hcj := hc j hjl
        obtain ⟨z, hz⟩ : ∃ z, z = xs.getD j 0 := ⟨_, rfl⟩
        rw [← hz] at hcj
        have HZ : Hid (z = xs.getD j 0) := hz
        have hj0 : (0 : Int) ≤ (j : Int) := by omega
        have hj1 : (j : Int) < (xs.length : Int) := by omega
        have HNO : Hid (inB (-32768) 32767 z = false → r7 xs = false) := fun h => by
          unfold r7
          rw [Bool.and_eq_false_iff]
          left
          rw [List.all_eq_false]
          exact ⟨j, List.mem_range.2 (by omega), by rw [← HZ.out, h]; decide⟩
        clear hc hz
        by_cases h1 : z < -32768
        · have HE : Hid (r7 xs = false) := HNO.out (by unfold inB; simp; omega)
          go_wp2_with fail
          go_ret
          exact ⟨ret_b HE.out.symm, Below.refl _ _⟩
        · by_cases h2 : 32767 < z
          · have HE : Hid (r7 xs = false) := HNO.out (by unfold inB; simp; omega)
            go_wp2_with fail
            go_ret
            exact ⟨ret_b HE.out.symm, Below.refl _ _⟩
          · have HA : Hid (∀ q, q < j + 1 → inB (-32768) 32767 (xs.getD q 0) = true) := fun q h3 => by
              by_cases e : q = j
              · rw [e, ← HZ.out]; unfold inB; simp; omega
              · exact hall.out q (by omega)
            go_wp2_with fail
            go_round
            case rel => exact ⟨j + 1, by omega, by omega, by go_num, HA⟩
            case measure => simp [intOf]; omega
      · have ej : j = 21 := by omega
        have h20 : ((xs.length : Int) == 20) = false := beq_eq_false_iff_ne.2 (by omega)
        have HE : Hid (r7 xs = false) := by
          unfold r7
          rw [Bool.and_eq_false_iff]
          exact .inr (decide_eq_false (by omega))
        go_wp2_with fail
        go_ret
        exact ⟨ret_b HE.out.symm, Below.refl _ _⟩
    · have ej : j = xs.length := by omega
      obtain ⟨q, hq⟩ : ∃ q, q = ((xs.length : Int) == 20) := ⟨_, rfl⟩
      have HE : Hid (r7 xs = q) := by
        have e : ((List.range (min xs.length 21)).all fun j => inB (-32768) 32767 (xs.getD j 0)) = true := by
          rw [List.all_eq_true]
          intro k hk
          have := List.mem_range.1 hk
          exact hall.out k (by omega)
        unfold r7
        rw [e, hq, Bool.true_and]
        by_cases h : xs.length = 20
        · rw [h]; exact (rfl : decide (20 = 20) = _)
        · rw [decide_eq_false h]; exact (beq_eq_false_iff_ne.2 (by omega)).symm
      have hq' : ((xs.length : Int) == 20) = q := hq.symm
      clear hq
      subst ej
      go_wp2_with fail
      go_ret
      exact ⟨ret_b HE.out.symm, Below.refl _ _⟩
end Go.Proofs.YtmhfabekmgcjnaaDoor
