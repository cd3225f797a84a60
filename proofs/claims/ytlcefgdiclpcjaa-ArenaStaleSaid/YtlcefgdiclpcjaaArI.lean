/- Layer 22: are two arenas the same? -/
import Derived.Test.YtlcefgdiclpcjaaArC
import Derived.Deep.QuietTactic
import Derived.BigQuiet
namespace Go.Proofs.Ytlcefgdiclpcjaa
open Go.RowKit Go.Bx
set_option linter.unusedVariables false

def sameA (gs hs : List Int) (ls ms : List Bool) : Bool := decide (gs = hs) && decide (ls = ms)
theorem eqD {α : Type} (d : α) {xs ys : List α} (hl : xs.length = ys.length) (h : ∀ j, j < xs.length → xs.getD j d = ys.getD j d) : xs = ys := by
  apply List.ext_getElem hl
  intro i h1 h2
  have := h i h1
  simpa [h1, h2] using this

set_option maxHeartbeats 3200000 in
theorem same22_c {F G : Nat → Prop} (av bv cv dv : Value) (gs hs : List Int) (ls ms : List Bool) (w : World) (h1 : SlOf RInt 1 F w av gs) (h2 : SlOf RBool 1 F w bv ls) (h3 : SlOf RInt 1 G w cv hs) (h4 : SlOf RBool 1 G w dv ms) :
    Calls Try.prog 37 #[.agg #[av, bv], .agg #[cv, dv]] w (PPost w (.bool (sameA gs hs ls ms))) := by
  obtain ⟨a1, p1, rfl, hp1, hm1, _, c1⟩ := h1.ints
  obtain ⟨a2, p2, rfl, hp2, hm2, c2⟩ := h2.bools
  obtain ⟨a3, p3, rfl, hp3, hm3, _, c3⟩ := h3.ints
  obtain ⟨a4, p4, rfl, hp4, hm4, c4⟩ := h4.bools
  unfold maxLen at hm1 hm2 hm3 hm4
  clear h1 h2 h3 h4
  have X0 := (Box.new w [.slice a1 gs.length p1, .slice a2 ls.length p2] 46).alloc (.cells #[.slice a3 hs.length p3, .slice a4 ms.length p4] 46)
  have X1 := Box.new (w.alloc (.cells #[.slice a1 gs.length p1, .slice a2 ls.length p2] 46)) [.slice a3 hs.length p3, .slice a4 ms.length p4] 46
  rw [size_alloc] at X1
  have B1 : Below w.heap.size w ((w.alloc (.cells #[.slice a1 gs.length p1, .slice a2 ls.length p2] 46)).alloc (.cells #[.slice a3 hs.length p3, .slice a4 ms.length p4] 46)) := ((Below.refl _ _).alloc (Nat.le_refl _) _).alloc (by simp) _
  by_cases e1 : gs.length = hs.length
  · rw [← e1] at c3 X0 X1 B1 ⊢
    have E1 : Hid (gs.length = hs.length) := e1
    clear e1
    by_cases e2 : ls.length = ms.length
    · rw [← e2] at c4 X0 X1 B1 ⊢
      have E2 : Hid (ls.length = ms.length) := e2
      clear e2
      have hend : Hid ((∀ j, j < gs.length → gs.getD j 0 = hs.getD j 0) → (∀ j, j < ls.length → ls.getD j false = ms.getD j false) → sameA gs hs ls ms = true) := by
        intro k1 k2
        unfold sameA
        rw [decide_eq_true (eqD 0 E1.out k1), decide_eq_true (eqD false E2.out k2)]; rfl
      go_enter Try.func37, Try.ntmps37
      go_wp2_with fail
      go_loopw [5] (fun i wr => ∃ k : Nat, k ≤ gs.length ∧ i = .int .i64 k ∧ Hid (∀ j : Nat, j < k → gs.getD j 0 = hs.getD j 0) ∧ Box wr w.heap.size [.slice a1 gs.length p1, .slice a2 ls.length p2] ∧ Box wr (w.heap.size + 1) [.slice a3 gs.length p3, .slice a4 ls.length p4] ∧ Below w.heap.size w wr) (fun i _ => gs.length - (intOf i).toNat)
      case atStart => exact ⟨0, by omega, rfl, (fun j hj => by omega), X0, X1, B1⟩
      case round =>
        obtain ⟨k, hk, rfl, hall, Y0, Y1, hbel⟩ := hrel
        clear X0 X1 B1
        have y0 := Y0.cell 0 rfl
        have y1 := Y0.cell 1 rfl
        have y2 := Y1.cell 0 rfl
        have y3 := Y1.cell 1 rfl
        by_cases hlt : k < gs.length
        · obtain ⟨b1, o1, rfl, _, q1⟩ := c1 k hlt
          obtain ⟨b3, o3, rfl, _, q3⟩ := c3 k hlt
          have d1 := (hbel.cell (p := ⟨b1, o1 + k, none⟩) (lt_of_cell (q1 k hlt))).trans (q1 k hlt)
          have d3 := (hbel.cell (p := ⟨b3, o3 + k, none⟩) (lt_of_cell (q3 k hlt))).trans (q3 k hlt)
          clear c1 c2 c3 c4 q1 q3
          obtain ⟨x, hx⟩ : ∃ x, x = gs.getD k 0 := ⟨_, rfl⟩
          obtain ⟨z, hz⟩ : ∃ z, z = hs.getD k 0 := ⟨_, rfl⟩
          rw [← hx] at d1
          rw [← hz] at d3
          have HX : Hid (x = gs.getD k 0 ∧ z = hs.getD k 0) := ⟨hx, hz⟩
          clear hx hz
          have hk1 : (k : Int) < (gs.length : Int) := by omega
          by_cases hxz : x = z
          · subst hxz
            go_wp2_with fail
            go_quiet (fail)
            go_wp2_with fail
            go_roundw
            case rel =>
              refine ⟨k + 1, by omega, by go_num, (fun j hj => ?_), Y0.drewN _, Y1.drewN _, below_drewN hbel _⟩
              by_cases hjk : j < k
              · exact hall.out j hjk
              · have : j = k := by omega
                subst this
                exact HX.out.1.symm.trans HX.out.2
            case measure => simp [intOf]; omega
          · have hd : (x == z) = false := by simpa using hxz
            go_wp2_with fail
            go_quiet (fail)
            go_wp2_with fail
            go_ret
            refine ⟨ret_b ?_, by (repeat' (first | assumption | (with_reducible exact Below.refl _ _) | (with_reducible refine below_drewN ?_ _) | (with_reducible refine Below.drew ?_) | (with_reducible refine Below.setCell ?_ ?_ _) | (with_reducible refine Below.alloc ?_ ?_ _) | (simp; done) | (simp; omega)))⟩
            have : ¬ gs = hs := fun e => hxz (by rw [HX.out.1, HX.out.2, e])
            unfold sameA
            rw [decide_eq_false this]; simp
        · have hke : k = gs.length := by omega
          subst hke
          clear c1 c3
          have hall1 := hall
          go_wp2_with fail
          obtain ⟨wm, hwm⟩ : ∃ wm : World, wm = wr := ⟨_, rfl⟩
          subst hwm
          go_loopw [6] (fun i wr => ∃ k : Nat, k ≤ ls.length ∧ i = .int .i64 k ∧ Hid (∀ j : Nat, j < k → ls.getD j false = ms.getD j false) ∧ Box wr w.heap.size [.slice a1 gs.length p1, .slice a2 ls.length p2] ∧ Box wr (w.heap.size + 1) [.slice a3 gs.length p3, .slice a4 ls.length p4] ∧ Below w.heap.size w wr) (fun i _ => ls.length - (intOf i).toNat)
          case atStart => exact ⟨0, by omega, rfl, (fun j hj => by omega), Y0, Y1, hbel⟩
          case round =>
            obtain ⟨k, hk, rfl, hall, Z0, Z1, hbel2⟩ := hrel
            clear y0 y1 y2 y3 Y0 Y1 hbel
            have y0 := Z0.cell 0 rfl
            have y1 := Z0.cell 1 rfl
            have y2 := Z1.cell 0 rfl
            have y3 := Z1.cell 1 rfl
            by_cases hlt : k < ls.length
            · obtain ⟨b1, o1, rfl, _, q1⟩ := c2 k hlt
              obtain ⟨b3, o3, rfl, _, q3⟩ := c4 k hlt
              have d1 := (hbel2.cell (p := ⟨b1, o1 + k, none⟩) (lt_of_cell (q1 k hlt))).trans (q1 k hlt)
              have d3 := (hbel2.cell (p := ⟨b3, o3 + k, none⟩) (lt_of_cell (q3 k hlt))).trans (q3 k hlt)
              clear c2 c4 q1 q3
              obtain ⟨x, hx⟩ : ∃ x, x = ls.getD k false := ⟨_, rfl⟩
              obtain ⟨z, hz⟩ : ∃ z, z = ms.getD k false := ⟨_, rfl⟩
              rw [← hx] at d1
              rw [← hz] at d3
              have HX : Hid (x = ls.getD k false ∧ z = ms.getD k false) := ⟨hx, hz⟩
              clear hx hz
              have hk1 : (k : Int) < (ls.length : Int) := by omega
              by_cases hxz : x = z
              · subst hxz
                go_wp2_with fail
                go_quiet (fail)
                go_wp2_with fail
                go_roundw
                case rel =>
                  refine ⟨k + 1, by omega, by go_num, (fun j hj => ?_), Z0.drewN _, Z1.drewN _, below_drewN hbel2 _⟩
                  by_cases hjk : j < k
                  · exact hall.out j hjk
                  · have : j = k := by omega
                    subst this
                    exact HX.out.1.symm.trans HX.out.2
                case measure => simp [intOf]; omega
              · have hd : (x == z) = false := by simpa using hxz
                go_wp2_with fail
                go_quiet (fail)
                go_wp2_with fail
                go_ret
                refine ⟨ret_b ?_, by (repeat' (first | assumption | (with_reducible exact Below.refl _ _) | (with_reducible refine below_drewN ?_ _) | (with_reducible refine Below.drew ?_) | (with_reducible refine Below.setCell ?_ ?_ _) | (with_reducible refine Below.alloc ?_ ?_ _) | (simp; done) | (simp; omega)))⟩
                have : ¬ ls = ms := fun e => hxz (by rw [HX.out.1, HX.out.2, e])
                unfold sameA
                rw [decide_eq_false this]; simp
            · have hke : k = ls.length := by omega
              subst hke
              clear c2 c4
              go_wp2_with fail
              go_ret
              exact ⟨ret_b (hend.out hall1.out hall.out).symm, by (repeat' (first | assumption | (with_reducible exact Below.refl _ _) | (with_reducible refine below_drewN ?_ _) | (with_reducible refine Below.drew ?_) | (with_reducible refine Below.setCell ?_ ?_ _) | (with_reducible refine Below.alloc ?_ ?_ _) | (simp; done) | (simp; omega)))⟩
    · have hsm : Hid (sameA gs hs ls ms = false) := by
        show sameA gs hs ls ms = false
        unfold sameA
        rw [decide_eq_false (p := ls = ms) (fun e => e2 (by rw [e]))]; simp
      clear c1 c2 c3 c4 X0 X1
      have e3 : ¬ (ls.length : Int) = (ms.length : Int) := by omega
      go_enter Try.func37, Try.ntmps37
      go_wp2_with fail
      go_ret
      exact ⟨ret_b hsm.out.symm, by (repeat' (first | assumption | (with_reducible exact Below.refl _ _) | (with_reducible refine below_drewN ?_ _) | (with_reducible refine Below.drew ?_) | (with_reducible refine Below.setCell ?_ ?_ _) | (with_reducible refine Below.alloc ?_ ?_ _) | (simp; done) | (simp; omega)))⟩
  · have hsm : Hid (sameA gs hs ls ms = false) := by
      show sameA gs hs ls ms = false
      unfold sameA
      rw [decide_eq_false (p := gs = hs) (fun e => e1 (by rw [e]))]; simp
    clear c1 c2 c3 c4 X0 X1
    have e3 : ¬ (gs.length : Int) = (hs.length : Int) := by omega
    go_enter Try.func37, Try.ntmps37
    go_wp2_with fail
    go_ret
    exact ⟨ret_b hsm.out.symm, by (repeat' (first | assumption | (with_reducible exact Below.refl _ _) | (with_reducible refine below_drewN ?_ _) | (with_reducible refine Below.drew ?_) | (with_reducible refine Below.setCell ?_ ?_ _) | (with_reducible refine Below.alloc ?_ ?_ _) | (simp; done) | (simp; omega)))⟩
end Go.Proofs.Ytlcefgdiclpcjaa
