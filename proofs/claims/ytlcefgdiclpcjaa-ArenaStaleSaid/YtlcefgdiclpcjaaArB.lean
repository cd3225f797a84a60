/- Layer 22: what arenas mean: Has, Right, Calm, of both packages. -/
import Derived.Test.YtlcefgdiclpcjaaAr
import Derived.Deep.RegionWith
import Derived.Deep.DrawnRows
namespace Go.Proofs.Ytlcefgdiclpcjaa
open Go.RowKit Go.Bx
set_option linter.unusedVariables false

theorem hasB_lo {gs : List Int} {ls : List Bool} {at_ gen : Int} (h : at_ < 0) : hasB gs ls at_ gen = false := by simp [hasB]; omega
theorem hasB_hi {gs : List Int} {ls : List Bool} {at_ gen : Int} (h : (gs.length : Int) ≤ at_) : hasB gs ls at_ gen = false := by simp [hasB]; omega
theorem hasB_in {gs : List Int} {ls : List Bool} {k : Nat} {gen : Int} (h : k < gs.length) : hasB gs ls k gen = (ls.getD k false && decide (gs.getD k 0 = gen)) := by
  have h2 : (k : Int) < (gs.length : Int) := by omega
  simp [hasB, h]

set_option maxHeartbeats 800000 in
theorem has_c {F : Nat → Prop} (gv lv : Value) (gs : List Int) (ls : List Bool) (at_ gen : Int) (w : World) (hg : SlOf RInt 1 F w gv gs) (hl : SlOf RBool 1 F w lv ls) (hlen : gs.length = ls.length) :
    Calls Try.prog 35 #[.agg #[gv, lv], .agg #[.int .i64 at_, .int .i64 gen]] w (PPost w (.bool (hasB gs ls at_ gen))) := by
  obtain ⟨a, cap, rfl, hcap, hm, hin, hcell⟩ := hg.ints
  obtain ⟨a2, cap2, rfl, hcap2, hm2, hcell2⟩ := hl.bools
  unfold maxLen at hm hm2
  rw [← hlen] at hcap2 hcell2 ⊢
  clear hlen
  by_cases h0 : at_ < 0
  · rw [hasB_lo h0]
    clear hcell hcell2 hg hl
    have hd : decide (0 ≤ at_) = false := decide_eq_false (by omega)
    go_enter Try.func35, Try.ntmps35
    go_wp2_with fail
    go_quiet (fail)
    go_wp2_with fail
    go_ret
    exact ⟨rfl, by (repeat' (first | assumption | (with_reducible exact Below.refl _ _) | (with_reducible refine below_drewN ?_ _) | (with_reducible refine Below.drew ?_) | (with_reducible refine Below.setCell ?_ ?_ _) | (with_reducible refine Below.alloc ?_ ?_ _) | (simp; done) | (simp; omega)))⟩
  · obtain ⟨k, rfl⟩ : ∃ k : Nat, at_ = k := ⟨at_.toNat, by omega⟩
    by_cases h1 : k < gs.length
    · rw [hasB_in h1]
      obtain ⟨b, o, rfl, hF, hc⟩ := hcell k h1
      obtain ⟨b2, o2, rfl, hF2, hc2⟩ := hcell2 k h1
      have hck := hc k h1
      have hck2 := hc2 k h1
      have hk0 : (0 : Int) ≤ (k : Int) := by omega
      have hk1 : (k : Int) < (gs.length : Int) := by omega
      clear hcell hcell2 hg hl hc hc2 hin
      generalize gs.getD k 0 = z at *
      generalize ls.getD k false = x at *
      have d1 := cell_alloc_lt (cell_alloc_lt hck (.cells #[.slice (some ⟨b, o, none⟩) gs.length cap, .slice (some ⟨b2, o2, none⟩) gs.length cap2] 46)) (.cells #[.int .i64 k, .int .i64 gen] 48)
      have d2 := cell_alloc_lt (cell_alloc_lt hck2 (.cells #[.slice (some ⟨b, o, none⟩) gs.length cap, .slice (some ⟨b2, o2, none⟩) gs.length cap2] 46)) (.cells #[.int .i64 k, .int .i64 gen] 48)
      clear hck hck2
      cases x
      · go_enter Try.func35, Try.ntmps35
        go_wp2_with fail
        go_quiet (fail)
        go_wp2_with fail
        go_ret
        exact ⟨rfl, by (repeat' (first | assumption | (with_reducible exact Below.refl _ _) | (with_reducible refine below_drewN ?_ _) | (with_reducible refine Below.drew ?_) | (with_reducible refine Below.setCell ?_ ?_ _) | (with_reducible refine Below.alloc ?_ ?_ _) | (simp; done) | (simp; omega)))⟩
      · go_enter Try.func35, Try.ntmps35
        go_wp2_with fail
        go_quiet (fail)
        go_wp2_with fail
        go_ret
        exact ⟨ret_b (by by_cases h : z = gen <;> simp [h]), by (repeat' (first | assumption | (with_reducible exact Below.refl _ _) | (with_reducible refine below_drewN ?_ _) | (with_reducible refine Below.drew ?_) | (with_reducible refine Below.setCell ?_ ?_ _) | (with_reducible refine Below.alloc ?_ ?_ _) | (simp; done) | (simp; omega)))⟩
    · rw [hasB_hi (by omega)]
      have hk0 : (0 : Int) ≤ (k : Int) := by omega
      have hk1 : ¬ (k : Int) < (gs.length : Int) := by omega
      have hd : decide ((k : Int) < (gs.length : Int)) = false := decide_eq_false hk1
      clear hcell hcell2 hg hl
      go_enter Try.func35, Try.ntmps35
      go_wp2_with fail
      go_quiet (fail)
      go_wp2_with fail
      go_ret
      exact ⟨rfl, by (repeat' (first | assumption | (with_reducible exact Below.refl _ _) | (with_reducible refine below_drewN ?_ _) | (with_reducible refine Below.drew ?_) | (with_reducible refine Below.setCell ?_ ?_ _) | (with_reducible refine Below.alloc ?_ ?_ _) | (simp; done) | (simp; omega)))⟩

set_option maxHeartbeats 3200000 in
theorem rhas_c {F : Nat → Prop} (gv lv : Value) (gs : List Int) (ls : List Bool) (at_ gen : Int) (w : World) (hg : SlOf RInt 1 F w gv gs) (hl : SlOf RBool 1 F w lv ls) (hlen : gs.length = ls.length) :
    Calls Try.prog 43 #[.agg #[gv, lv], .agg #[.int .i64 at_, .int .i64 gen]] w (PPost w (.bool (hasB gs ls at_ gen))) := by
  obtain ⟨a, cap, rfl, hcap, hm, hin, hcell⟩ := hg.ints
  obtain ⟨a2, cap2, rfl, hcap2, hm2, hcell2⟩ := hl.bools
  unfold maxLen at hm hm2
  rw [← hlen] at hcap2 hcell2 ⊢
  clear hlen
  have hno : gs.length ≤ 0 → a = none ∨ True := fun _ => .inr trivial
  go_enter Try.func43, Try.ntmps43
  go_wp2_with fail
  have X0 := (Box.new w [.slice a gs.length cap, .slice a2 gs.length cap2] 46).alloc (.cells #[.int .i64 at_, .int .i64 gen] 48)
  have X1 := Box.new (w.alloc (.cells #[.slice a gs.length cap, .slice a2 gs.length cap2] 46)) [.int .i64 at_, .int .i64 gen] 48
  rw [size_alloc] at X1
  go_loopw [5] (fun i wr => ∃ k : Nat, k ≤ gs.length ∧ i = .int .i64 k ∧ Hid (∀ j : Nat, j < k → (j : Int) = at_ → hasB gs ls j gen = false) ∧ Box wr w.heap.size [.slice a gs.length cap, .slice a2 gs.length cap2] ∧ Box wr (w.heap.size + 1) [.int .i64 at_, .int .i64 gen] ∧ Below w.heap.size w wr) (fun i _ => gs.length - (intOf i).toNat)
  case atStart => exact ⟨0, by omega, rfl, (fun j hj => by omega), X0, X1, by (repeat' (first | assumption | (with_reducible exact Below.refl _ _) | (with_reducible refine below_drewN ?_ _) | (with_reducible refine Below.drew ?_) | (with_reducible refine Below.setCell ?_ ?_ _) | (with_reducible refine Below.alloc ?_ ?_ _) | (simp; done) | (simp; omega)))⟩
  case round =>
    obtain ⟨k, hk, rfl, hall, Y0, Y1, hbel⟩ := hrel
    clear X0 X1
    have y0 := Y0.cell 0 rfl
    have y1 := Y0.cell 1 rfl
    have y2 := Y1.cell 0 rfl
    have y3 := Y1.cell 1 rfl
    by_cases h1 : k < gs.length
    · have hI := hasB_in (ls := ls) (gen := gen) h1
      obtain ⟨b, o, rfl, hF, hc⟩ := hcell k h1
      obtain ⟨b2, o2, rfl, hF2, hc2⟩ := hcell2 k h1
      have hck := hc k h1
      have hck2 := hc2 k h1
      have hk1 : (k : Int) < (gs.length : Int) := by omega
      clear hcell hcell2 hg hl hc hc2 hin hno
      generalize gs.getD k 0 = z at *
      generalize ls.getD k false = x at *
      have HI : Hid _ := hI
      have d1 := (hbel.cell (p := ⟨b, o + k, none⟩) (lt_of_cell hck)).trans hck
      have d2 := (hbel.cell (p := ⟨b2, o2 + k, none⟩) (lt_of_cell hck2)).trans hck2
      clear hck hck2 hI
      by_cases h2 : (k : Int) = at_
      · subst h2
        cases x
        · go_wp2_with fail
          go_quiet (fail)
          go_wp2_with fail
          go_roundw
          case rel =>
            refine ⟨k + 1, by omega, by go_num, (fun j hj he => ?_), Y0.drewN _, Y1.drewN _, below_drewN hbel _⟩
            have : j = k := by omega
            subst this
            rw [HI.out]; rfl
          case measure => simp [intOf]; omega
        · by_cases h3 : z = gen
          · subst h3
            go_wp2_with fail
            go_quiet (fail)
            go_wp2_with fail
            go_ret
            exact ⟨ret_b (by rw [HI.out]; simp), by (repeat' (first | assumption | (with_reducible exact Below.refl _ _) | (with_reducible refine below_drewN ?_ _) | (with_reducible refine Below.drew ?_) | (with_reducible refine Below.setCell ?_ ?_ _) | (with_reducible refine Below.alloc ?_ ?_ _) | (simp; done) | (simp; omega)))⟩
          · have hd : decide (z = gen) = false := decide_eq_false h3
            go_wp2_with fail
            go_quiet (fail)
            go_wp2_with fail
            go_roundw
            case rel =>
              refine ⟨k + 1, by omega, by go_num, (fun j hj he => ?_), Y0.drewN _, Y1.drewN _, below_drewN hbel _⟩
              have : j = k := by omega
              subst this
              rw [HI.out, hd]; rfl
            case measure => simp [intOf]; omega
      · have hd : decide ((k : Int) = at_) = false := decide_eq_false h2
        go_wp2_with fail
        go_quiet (fail)
        go_wp2_with fail
        go_roundw
        case rel =>
          refine ⟨k + 1, by omega, by go_num, (fun j hj he => ?_), Y0.drewN _, Y1.drewN _, below_drewN hbel _⟩
          by_cases hjk : j < k
          · exact hall j hjk he
          · have : j = k := by omega
            subst this
            exact absurd he h2
        case measure => simp [intOf]; omega
    · have : k = gs.length := by omega
      subst this
      clear hcell hcell2 hg hl
      go_wp2_with fail
      go_ret
      refine ⟨ret_b ?_, by (repeat' (first | assumption | (with_reducible exact Below.refl _ _) | (with_reducible refine below_drewN ?_ _) | (with_reducible refine Below.drew ?_) | (with_reducible refine Below.setCell ?_ ?_ _) | (with_reducible refine Below.alloc ?_ ?_ _) | (simp; done) | (simp; omega)))⟩
      by_cases h0 : at_ < 0
      · exact (hasB_lo h0).symm
      · by_cases h2 : (gs.length : Int) ≤ at_
        · exact (hasB_hi h2).symm
        · have := hall at_.toNat (by omega) (by omega)
          rw [show ((at_.toNat : Nat) : Int) = at_ from by omega] at this
          exact this.symm
end Go.Proofs.Ytlcefgdiclpcjaa
