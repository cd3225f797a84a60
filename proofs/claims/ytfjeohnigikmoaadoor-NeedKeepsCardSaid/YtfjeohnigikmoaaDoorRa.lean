/- Layer 14: a rectangle handed in. -/
import Derived.Test.YtfjeohnigikmoaaDoorNv
namespace Go.Proofs.YtfjeohnigikmoaaDoor
open Go.RowKit Go.Bx Go.Od Go.Hp Go.ChangeShapes Go.WideShapes Go.ChangeAt
set_option linter.unusedVariables false
section
variable {H : Type} {enc : TypeId × Value → H} {W : World} {base : Nat}
theorem cells_rect : Tryd.prog.cellsOf 26 = 4 := by kernel_rfl
theorem four_of {cs : Array Value} (hl : cs.toList.length = 4) : ∃ a b c d, cs.toList = [a, b, c, d] := by
  match h : cs.toList, hl with
  | [a, b, c, d], _ => exact ⟨a, b, c, d, rfl⟩
theorem rect_arg {v : Value} {d : DataW H} {p : List MemPlace} (h : DataW.Trod enc Tryd.prog W 0 (fun _ => true) true 26 v d p) (hv : Value.okWide Tryd.prog W .any base 26 v) : ∃ r, v = rv r := by
  obtain ⟨cs, rfl⟩ := arg_struct Tryd.underlying26 hv
  obtain ⟨fuel, hf⟩ := h
  have hl := struct_len Tryd.underlying26 hf
  obtain ⟨x0, h0⟩ := reads_field Tryd.underlying26 hf 0 (ft := 3) (off := 0) (n := 1) rfl cells_int (E := RInt) ri
  obtain ⟨x1, h1⟩ := reads_field Tryd.underlying26 hf 1 (ft := 3) (off := 1) (n := 1) rfl cells_int (E := RInt) ri
  obtain ⟨x2, h2⟩ := reads_field Tryd.underlying26 hf 2 (ft := 3) (off := 2) (n := 1) rfl cells_int (E := RInt) ri
  obtain ⟨x3, h3⟩ := reads_field Tryd.underlying26 hf 3 (ft := 3) (off := 3) (n := 1) rfl cells_int (E := RInt) ri
  rw [cells_rect] at hl
  simp only [Value.cells] at hl h0 h1 h2 h3
  obtain ⟨c0, c1, c2, c3, hc⟩ := four_of hl
  rw [hc] at h0 h1 h2 h3
  obtain ⟨e0, _⟩ := h0
  obtain ⟨e1, _⟩ := h1
  obtain ⟨e2, _⟩ := h2
  obtain ⟨e3, _⟩ := h3
  simp at e0 e1 e2 e3
  subst e0 e1 e2 e3
  exact ⟨⟨x0, x1, x2, x3⟩, by
    have : cs = #[.int .i64 x0, .int .i64 x1, .int .i64 x2, .int .i64 x3] := by rw [← Array.toList_inj, hc]
    rw [this]⟩
end
end Go.Proofs.YtfjeohnigikmoaaDoor
