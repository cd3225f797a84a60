/- Texts joined: XYv. -/
import Derived.Test.YthaniopkpmhalaaDoorYt
set_option maxRecDepth 4000
/- Layer 19: the document's Result, In. -/
namespace Go.Proofs.YthaniopkpmhalaaDoor
open Go.RowKit Go.Bx Go.Od Go.Hp
attribute [local go_sem ↓] Go.wp_at_zero Go.wp_at_succ
set_option linter.unusedVariables false

set_option maxHeartbeats 1600000 in
theorem rresult_c {F : Nat → Prop} (na : Option Addr) (nn nc : Nat) (ra : Option Addr) (rn rc : Nat) (p : Ps) (w : World) (hn : nn = p.nodes.length) (h0 : 0 < nn) (hs : SlOf RInt 1 F w (.slice na nn nc) (ofN p.nodes)) :
    Calls Tryd.prog 12 #[pvl na nn nc ra rn rc p] w (PPost w (.int .i64 (resP p : Nat))) := by
  obtain ⟨nodes, reads, ⟨x0, y0, x1, y1⟩, sl, la⟩ := p
  dsimp only at hn hs
  obtain ⟨m, rfl⟩ : ∃ m, nn = m + 1 := ⟨nn - 1, by omega⟩
  have hle : m + 1 ≤ maxLen := by
    obtain ⟨_, c, hv, h1, h2, _⟩ := hs
    simp only [Value.slice.injEq] at hv
    rw [ofN_len] at h1
    omega
  unfold maxLen at hle
  obtain ⟨b, o, rfl, hc⟩ := sl_lastS hs (by rw [ofN_len]; exact hn.symm)
  rw [lstI_ofN] at hc
  have hb1 := below_new w (.cells (pcv (some ⟨b, o, none⟩) (m + 1) nc ra rn rc ⟨nodes, reads, ⟨x0, y0, x1, y1⟩, sl, la⟩) 37)
  have c1 := cell_alloc_lt hc (.cells (pcv (some ⟨b, o, none⟩) (m + 1) nc ra rn rc ⟨nodes, reads, ⟨x0, y0, x1, y1⟩, sl, la⟩) 37)
  obtain ⟨z, hz⟩ : ∃ z, z = lastN nodes := ⟨_, rfl⟩
  have HZ : Hid (resP ⟨nodes, reads, ⟨x0, y0, x1, y1⟩, sl, la⟩ = z) := by
    have : resP ⟨nodes, reads, ⟨x0, y0, x1, y1⟩, sl, la⟩ = z := by rw [hz]; rfl
    exact this
  rw [← hz] at c1
  have HB : Hid _ := hb1
  clear hn hs hc hz hb1 h0
  go_enter Tryd.func12, Tryd.ntmps12
  go_wp2_with fail
  go_ret
  exact ⟨by rw [HZ.out]; rfl, HB.out⟩
set_option maxHeartbeats 3200000 in
theorem in_c {F : Nat → Prop} (v : Value) (xs : List Int) (x : Int) (w : World) (hs : SlOf RInt 1 F w v xs) :
    Calls Tryd.prog 11 #[v, .int .i64 x] w fun e w' => e = .returned (.bool (xs.contains x)) ∧ w' = w := by
  obtain ⟨ia, ic, rfl, hic, hicm, hin, hcell⟩ := hs.ints
  have HC : Hid (∀ j, j < xs.length → ∃ b2 o2, ia = some ⟨b2, o2, none⟩ ∧ w.cell? ⟨b2, o2 + j, none⟩ = some (.int .i64 (xs.getD j 0))) := fun j hj => by
    obtain ⟨b', o', h1, h2, h3⟩ := hcell j hj
    exact ⟨b', o', h1, h3 j hj⟩
  unfold maxLen at hicm
  clear hin hcell hs
  go_enter Tryd.func11, Tryd.ntmps11
  go_wp2_with fail
  go_loop [5] (fun jv => ∃ j : Nat, j ≤ xs.length ∧ jv = .int .i64 j ∧ Hid (∀ q, q < j → xs.getD q 0 ≠ x)) (fun jv => xs.length - (intOf jv).toNat)
  case atStart => exact ⟨0, by omega, rfl, fun j hj => by omega⟩
  case round =>
    obtain ⟨j, hj, rfl, hall⟩ := hrel
    by_cases h1 : j < xs.length
    · obtain ⟨b', o', rfl, hc⟩ := HC.out j h1
      obtain ⟨z, hz⟩ : ∃ z, z = xs.getD j 0 := ⟨_, rfl⟩
      rw [← hz] at hc
      have HZ : Hid (z = xs.getD j 0) := hz
      clear hz
      by_cases h2 : z = x
      · have h3 : (z == x) = true := by simp [h2]
        have HE : Hid (decide (x ∈ xs) = true) := decide_eq_true (by rw [← h2, HZ.out]; simp [h1])
        have h4 : decide (z = x) = true := decide_eq_true h2
        clear h2
        go_wp2_with fail
        go_ret
        exact ⟨ret_b HE.out.symm, rfl⟩
      · have h3 : (z == x) = false := by simp [h2]
        have h4 : decide (z = x) = false := decide_eq_false h2
        have H5 : Hid (∀ q, q < j + 1 → xs.getD q 0 ≠ x) := fun q hq => by
          by_cases e : q = j
          · subst e; rw [← HZ.out]; exact h2
          · exact hall.out q (by omega)
        go_wp2_with fail
        go_round
        case rel => exact ⟨j + 1, by omega, by go_num, H5⟩
        case measure => simp [intOf]; omega
    · have : j = xs.length := by omega
      subst this
      have HE : Hid (decide (x ∈ xs) = false) := dec_any_end hall.out
      go_wp2_with fail
      go_ret
      exact ⟨ret_b HE.out.symm, rfl⟩
end Go.Proofs.YthaniopkpmhalaaDoor
