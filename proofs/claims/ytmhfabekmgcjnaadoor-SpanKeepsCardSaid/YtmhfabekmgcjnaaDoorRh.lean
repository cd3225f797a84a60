/- Layer 11: the document's Has, Equal. -/
import Derived.Test.YtmhfabekmgcjnaaDoorOn
namespace Go.Proofs.YtmhfabekmgcjnaaDoor
open Go.RowKit Go.Bx Go.Od Go.Hp
attribute [local go_sem ↓] Go.wp_at_zero Go.wp_at_succ
set_option linter.unusedVariables false

theorem dec_any_end {xs : List Int} {x : Int} (h : ∀ j, j < xs.length → xs.getD j 0 ≠ x) : decide (x ∈ xs) = false := by
  rw [decide_eq_false_iff_not]
  intro hm
  obtain ⟨j, hj, e⟩ := List.mem_iff_getElem.1 hm
  exact h j hj (by simp [hj, e])
set_option maxHeartbeats 1600000 in
theorem has_c (B : Nat) (nv : Value) (nds : List Nd) (out x : Int) (i : Nat) (w : World) (hi : i < nds.length) (hm : nds.length ≤ 1000) (hl : (nds.getD i Nd.none).ins.length ≤ 1000) (hg : Gr B w nv nds) :
    Calls Tryd.prog 23 #[.agg #[nv, .int .i64 out], .int .i64 i, .int .i64 x] w (PPost w (.bool (decide (x ∈ (nds.getD i Nd.none).ins)))) := by
  obtain ⟨b, o, cap, ia, ic, pa, pc, rfl, hbB, hcap, hcm, k0, k1, k2, s1, s2⟩ := hg.node hi
  have e1 := cell_alloc_lt k1 (.cells #[.slice (some ⟨b, o, none⟩) nds.length cap, .int .i64 out] 24)
  have hi0 : (0 : Int) ≤ (i : Int) := by omega
  have hi1 : (i : Int) < (nds.length : Int) := by omega
  obtain ⟨xs, hxs⟩ : ∃ xs, xs = (nds.getD i Nd.none).ins := ⟨_, rfl⟩
  rw [← hxs] at hl s1 e1 k1 ⊢
  obtain ⟨ia', ic', hv, hic, hicm, hin, hcell⟩ := s1.ints
  cases hv
  have HC : Hid (∀ j, j < xs.length → ∃ b2 o2, ia = some ⟨b2, o2, none⟩ ∧ (w.alloc (.cells #[.slice (some ⟨b, o, none⟩) nds.length cap, .int .i64 out] 24)).cell? ⟨b2, o2 + j, none⟩ = some (.int .i64 (xs.getD j 0))) := fun j hj => by
    obtain ⟨b', o', h1, h2, h3⟩ := hcell j hj
    exact ⟨b', o', h1, cell_alloc_lt (h3 j hj) _⟩
  unfold maxLen at hcm hicm
  clear hin hcell s1 s2 hxs hg
  go_enter Tryd.func23, Tryd.ntmps23
  go_wp2_with fail
  go_loop [7] (fun jv => ∃ j : Nat, j ≤ xs.length ∧ jv = .int .i64 j ∧ Hid (∀ q, q < j → xs.getD q 0 ≠ x)) (fun jv => xs.length - (intOf jv).toNat)
  case atStart => exact ⟨0, by omega, rfl, fun j hj => by omega⟩
  case round =>
    obtain ⟨j, hj, rfl, hall⟩ := hrel
    by_cases h1 : j < xs.length
    · obtain ⟨b', o', rfl, hc⟩ := HC.out j h1
      obtain ⟨z, hz⟩ : ∃ z, z = xs.getD j 0 := ⟨_, rfl⟩
      rw [← hz] at hc
      have HZ : Hid (z = xs.getD j 0) := hz
      clear hz
      by_cases h2 : z = x
      · have h3 : (z == x) = true := by simp [h2]
        have HE : Hid (decide (x ∈ xs) = true) := decide_eq_true (by rw [← h2, HZ.out]; simp [h1])
        have h4 : decide (z = x) = true := decide_eq_true h2
        clear h2
        go_wp2_with fail
        go_ret
        exact ⟨ret_b HE.out.symm, below_alloc _ _⟩
      · have h3 : (z == x) = false := by simp [h2]
        have h4 : decide (z = x) = false := decide_eq_false h2
        have H5 : Hid (∀ q, q < j + 1 → xs.getD q 0 ≠ x) := fun q hq => by
          by_cases e : q = j
          · subst e; rw [← HZ.out]; exact h2
          · exact hall.out q (by omega)
        go_wp2_with fail
        go_round
        case rel => exact ⟨j + 1, by omega, by go_num, H5⟩
        case measure => simp [intOf]; omega
    · have : j = xs.length := by omega
      subst this
      have HE : Hid (decide (x ∈ xs) = false) := dec_any_end hall.out
      go_wp2_with fail
      go_ret
      exact ⟨ret_b HE.out.symm, below_alloc _ _⟩

set_option maxHeartbeats 1600000 in
theorem equal_c {F G : Nat → Prop} (av bv : Value) (xs ys : List Int) (w : World) (h1 : SlOf RInt 1 F w av xs) (h2 : SlOf RInt 1 G w bv ys) :
    Calls Tryd.prog 12 #[av, bv] w (PPost w (.bool (decide (xs = ys)))) := by
  obtain ⟨a, cap, rfl, hcap, hcm, hin, hcell⟩ := h1.ints
  obtain ⟨a2, cap2, rfl, hcap2, hcm2, hin2, hcell2⟩ := h2.ints
  unfold maxLen at hcm hcm2
  by_cases hl : xs.length = ys.length
  · have HC : Hid (∀ j, j < xs.length → ∃ b o b2 o2, a = some ⟨b, o, none⟩ ∧ a2 = some ⟨b2, o2, none⟩ ∧ w.cell? ⟨b, o + j, none⟩ = some (.int .i64 (xs.getD j 0)) ∧ w.cell? ⟨b2, o2 + j, none⟩ = some (.int .i64 (ys.getD j 0))) := fun j hj => by
      obtain ⟨b, o, e, _, e2⟩ := hcell j hj
      obtain ⟨b', o', e3, _, e4⟩ := hcell2 j (by omega)
      exact ⟨b, o, b', o', e, e3, e2 j hj, e4 j (by omega)⟩
    have HL : Hid (xs.length = ys.length) := hl
    rw [← hl]
    clear hcell hcell2 hin hin2 h1 h2 hl
    go_enter Tryd.func12, Tryd.ntmps12
    go_wp2_with fail
    go_loopw [5] (fun jv wr => ∃ j : Nat, j ≤ xs.length ∧ jv = .int .i64 j ∧ Hid (∀ q, q < j → xs.getD q 0 = ys.getD q 0) ∧ Below w.heap.size w wr) (fun jv _ => xs.length - (intOf jv).toNat)
    case atStart => exact ⟨0, by omega, rfl, (fun j hj => by omega), Below.refl _ _⟩
    case round =>
      obtain ⟨j, hj, rfl, hall, hbel⟩ := hrel
      by_cases hjl : j < xs.length
      · obtain ⟨b, o, b2, o2, rfl, rfl, e1, e2⟩ := HC.out j hjl
        have d1 := (hbel.cell (lt_of_cell e1)).trans e1
        have d2 := (hbel.cell (lt_of_cell e2)).trans e2
        obtain ⟨z, hz⟩ : ∃ z, z = xs.getD j 0 := ⟨_, rfl⟩
        obtain ⟨y, hy⟩ : ∃ y, y = ys.getD j 0 := ⟨_, rfl⟩
        rw [← hz] at d1
        rw [← hy] at d2
        have HZ : Hid (z = xs.getD j 0 ∧ y = ys.getD j 0) := ⟨hz, hy⟩
        have HB : Hid (Below w.heap.size w wr) := hbel
        clear hz hy e1 e2 hbel
        have hj0 : (0 : Int) ≤ (j : Int) := by omega
        have hj1 : (j : Int) < (xs.length : Int) := by omega
        by_cases h2 : z = y
        · have h3 : (z == y) = true := by simp [h2]
          have H5 : Hid (∀ q, q < j + 1 → xs.getD q 0 = ys.getD q 0) := fun q hq => by
            by_cases e : q = j
            · subst e; rw [← HZ.out.1, ← HZ.out.2]; exact h2
            · exact hall.out q (by omega)
          clear h2
          go_wp2_with fail
          go_quiet (fail)
          go_wp2_with fail
          go_roundw
          case rel => exact ⟨j + 1, by omega, by go_num, H5, below_drewN HB.out _⟩
          case measure => simp [intOf]; omega
        · have h3 : (z == y) = false := by simp [h2]
          have HE : Hid (decide (xs = ys) = false) := decide_eq_false fun e => h2 (by rw [HZ.out.1, HZ.out.2, e])
          clear h2
          go_wp2_with fail
          go_quiet (fail)
          go_wp2_with fail
          go_ret
          exact ⟨ret_b HE.out.symm, below_drewN HB.out _⟩
      · have ej : j = xs.length := by omega
        subst ej
        have HE : Hid (decide (xs = ys) = true) := by
          refine decide_eq_true (List.ext_getElem HL.out fun q hq hq2 => ?_)
          have := hall.out q hq
          simpa [hq, hq2] using this
        go_wp2_with fail
        go_ret
        exact ⟨ret_b HE.out.symm, hbel⟩
  · have HE : Hid (decide (xs = ys) = false) := decide_eq_false fun e => hl (by rw [e])
    have h3 : ((xs.length : Int) == (ys.length : Int)) = false := by simp; omega
    clear hcell hcell2 hin hin2 h1 h2
    go_enter Tryd.func12, Tryd.ntmps12
    go_wp2_with fail
    go_ret
    exact ⟨ret_b HE.out.symm, Below.refl _ _⟩
end Go.Proofs.YtmhfabekmgcjnaaDoor
