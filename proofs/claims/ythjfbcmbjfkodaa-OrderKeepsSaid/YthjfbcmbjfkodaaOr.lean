/- Layer 11: order.Round. -/
import Derived.Test.YthjfbcmbjfkodaaOb
import Derived.Test.YthjfbcmbjfkodaaOrM
namespace Go.Proofs.Ythjfbcmbjfkodaa
open Go.RowKit Go.Bx Go.Od Go.Hp
attribute [local go_sem ↓] Go.wp_at_zero Go.wp_at_succ
set_option linter.unusedVariables false

theorem Box.callD {W w : World} {b : Nat} {cs : List Value} (h : Box W b cs) (hb : Below W.heap.size W w) : Box w b cs := h.call hb
set_option maxHeartbeats 1600000 in
theorem round_c (B : Nat) (nv : Value) (nds : List Nd) (out : Int) (w : World) (hm : nds.length ≤ 999) (hl : ∀ i, i < nds.length → (nds.getD i Nd.none).ins.length ≤ 1000) (hg : Gr B w nv nds) (hB : B ≤ w.heap.size) :
    Calls Try.prog 13 #[.agg #[nv, .int .i64 out]] w (PPost w (.bool (decide ((ord (insOf nds)).length < nds.length)))) := by
  obtain ⟨ga, gc, rfl⟩ := hg.isSl
  have hgl := hg.len_le
  have hol : (ord (insOf nds)).length ≤ 9223372036854775807 := by have := ord_len (insOf nds); rw [insOf_len] at this; omega
  obtain ⟨d, hd⟩ : ∃ d, d = decide (((ord (insOf nds)).length : Int) < (nds.length : Int)) := ⟨_, rfl⟩
  have HD : Hid (decide ((ord (insOf nds)).length < nds.length) = d) := by
    refine Eq.trans ?_ hd.symm
    simp
  rw [HD.out]
  have X := Box.new w [.slice ga nds.length gc, .int .i64 out] 24
  have BW : Below w.heap.size w (w.alloc (.cells #[.slice ga nds.length gc, .int .i64 out] 24)) := below_alloc _ _
  have hs : (w.alloc (.cells #[.slice ga nds.length gc, .int .i64 out] 24)).heap.size = w.heap.size + 1 := by rw [size_alloc]
  have HG : Hid (∀ W, Below w.heap.size w W → Gr B W (.slice ga nds.length gc) nds ∧ B ≤ W.heap.size) := fun W hb => ⟨hg.below hb hB, Nat.le_trans hB hb.size⟩
  clear hg
  go_enter Try.func13, Try.ntmps13
  go_wp2_with fail
  generalize w.alloc (.cells #[.slice ga nds.length gc, .int .i64 out] 24) = W2 at *
  have x0 := X.cell 0 rfl
  have x1 := X.cell 1 rfl
  have HX : Hid (Box W2 w.heap.size [.slice ga nds.length gc, .int .i64 out]) := X
  have B2 : Below W2.heap.size W2 W2 := Below.refl _ _
  clear X
  go_region_with ((go_at_call 11; refine (all_c B _ nds out _ hm hl (HG.out _ (by repeat' (first | assumption | (with_reducible exact Below.refl _ _) | (with_reducible refine below_drewN ?_ _) | (with_reducible refine Below.drew ?_)))).1 (by simp; omega)).mono ?_; rintro e w5 ⟨a5, c5, rfl, o5, b5⟩; have B5 : Below W2.heap.size W2 w5 := after (B := W2.heap.size) (by repeat' (first | assumption | (with_reducible exact Below.refl _ _) | (with_reducible refine below_drewN ?_ _) | (with_reducible refine Below.drew ?_))) (by simp) b5; have y0 := (HX.out.call B5).cell 0 rfl; have y1 := (HX.out.call B5).cell 1 rfl; have B6 : Below w.heap.size w w5 := after BW BW.size B5; clear b5 o5))
  all_goals
    go_wp2_with fail
    refine bodyPost_ret (v := .bool (decide ((ord (insOf nds)).length < nds.length))) (by simp [results, Try.results13, go_sem, Act.put]) rfl ⟨by rw [HD.out], by repeat' (first | assumption | (with_reducible refine below_drewN ?_ _) | (with_reducible refine Below.drew ?_))⟩
end Go.Proofs.Ythjfbcmbjfkodaa
