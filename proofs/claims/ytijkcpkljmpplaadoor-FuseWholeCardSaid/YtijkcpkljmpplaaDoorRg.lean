/- Layer 16: the law's own 'right'. -/
import Derived.Test.YtijkcpkljmpplaaDoorCp
import Derived.Test.YtijkcpkljmpplaaDoorGm
namespace Go.Proofs.YtijkcpkljmpplaaDoor
open Go.RowKit Go.Bx Go.Od Go.Hp
attribute [local go_sem ↓] Go.wp_at_zero Go.wp_at_succ
set_option linter.unusedVariables false

def rightB (nds : List Nd) (out : Int) : Bool := fewB nds 12 && (chkB nds out == 0)
theorem right16_c (B : Nat) (nv : Value) (nds : List Nd) (out : Int) (w : World) (ht : Tabs w) (hg : Gr B w nv nds) (hB : B ≤ w.heap.size) :
    Calls Tryd.prog 8 #[.agg #[nv, .int .i64 out]] w (PPost w (.bool (rightB nds out))) := by
  have HG : Hid (Gr B w nv nds ∧ Tabs w) := ⟨hg, ht⟩
  obtain ⟨ga, gc, rfl⟩ := hg.isSl
  obtain ⟨f, hf⟩ : ∃ f, f = fewB nds 12 := ⟨_, rfl⟩
  have HF : Hid (f = fewB nds 12) := hf
  clear hg ht hf
  go_enter Tryd.func8, Tryd.ntmps8
  go_wp2_with fail
  have X := Box.new w [.slice ga nds.length gc, .int .i64 out] 24
  have hb1 := below_alloc w (.cells #[.slice ga nds.length gc, .int .i64 out] 24)
  obtain ⟨W1, hW1⟩ : ∃ W, W = w.alloc (.cells #[.slice ga nds.length gc, .int .i64 out] 24) := ⟨_, rfl⟩
  rw [← hW1] at X hb1 ⊢
  clear hW1
  refine (rfew_c B _ nds out 12 W1 (by omega) (HG.out.1.below hb1 hB)).mono ?_; rintro e w2 ⟨rfl, hb2⟩
  have X2 := X.call hb2
  have g0 := X2.cell 0 rfl
  have g1 := X2.cell 1 rfl
  have HB : Hid (Below w.heap.size w w2) := hb1.trans (hb2.mono hb1.size)
  rw [← HF.out]
  clear X hb1 hb2
  cases f with
  | false =>
    have HE : Hid (rightB nds out = false) := by
      have : rightB nds out = false := by unfold rightB; rw [← HF.out]; rfl
      exact this
    go_wp2_with fail
    go_ret
    exact ⟨ret_b HE.out.symm, HB.out⟩
  | true =>
    obtain ⟨h1, h2⟩ := few_of HF.out.symm (by omega)
    have HN : Hid (∀ i, i < nds.length → (nds.getD i Nd.none).ins.length ≤ 1000) := h2
    clear h2
    go_wp2_with fail
    refine (check_c B _ nds out w2 (by omega) HN.out (HG.out.2.below HB.out) (HG.out.1.below HB.out hB) (Nat.le_trans hB HB.out.size)).mono ?_; rintro e w3 ⟨rfl, hb3⟩
    have HB3 : Hid (Below w.heap.size w w3) := HB.out.trans (hb3.mono HB.out.size)
    obtain ⟨c, hc⟩ : ∃ c, c = chkB nds out := ⟨_, rfl⟩
    rw [← hc]
    have HE : Hid (rightB nds out = (c == 0)) := by
      have : rightB nds out = (c == 0) := by unfold rightB; rw [← HF.out, hc]; rfl
      exact this
    clear hb3 g0 g1 X2 hc HN
    go_wp2_with fail
    go_ret
    exact ⟨ret_b HE.out.symm, HB3.out⟩
end Go.Proofs.YtijkcpkljmpplaaDoor
