/- Layer 11: a graph as an argument; what the laws begin with. -/
import Derived.Test.YtmhfabekmgcjnaaDoorWb
import Derived.Test.YtmhfabekmgcjnaaDoorKept
namespace Go.Proofs.YtmhfabekmgcjnaaDoor
open Go.RowKit Go.Bx Go.Od Go.Hp Go.ChangeShapes Go.WideShapes Go.ChangeAt
attribute [local go_sem ↓] Go.wp_at_zero Go.wp_at_succ
set_option linter.unusedVariables false

section
variable {H : Type} {enc : TypeId × Value → H} {W : World} {base : Nat}
theorem cells_int : Tryd.prog.cellsOf 3 = 1 := by kernel_rfl
theorem cells_ints : Tryd.prog.cellsOf 31 = 1 := by kernel_rfl
theorem cells_nodes : Tryd.prog.cellsOf 22 = 1 := by kernel_rfl
theorem cells_node : Tryd.prog.cellsOf 36 = 3 := by kernel_rfl
theorem cells_graph : Tryd.prog.cellsOf 24 = 2 := by kernel_rfl
theorem ri : Reads enc Tryd.prog W 3 RInt := reads_int Tryd.underlying3
theorem ris : Reads enc Tryd.prog W 31 (RSl RInt 1) := reads_slice Tryd.underlying31 cells_int (by decide) ri
theorem three_of {cs : List Value} (hl : cs.length = 3) : ∃ a b c, cs = [a, b, c] := by
  match cs, hl with
  | [a, b, c], _ => exact ⟨a, b, c, rfl⟩
theorem two_of {cs : Array Value} (hl : cs.toList.length = 2) : ∃ a b, cs.toList = [a, b] := by
  match h : cs.toList, hl with
  | [a, b], _ => exact ⟨a, b, rfl⟩
theorem reads_node : Reads enc Tryd.prog W 36 RNode := fun fuel cs x h => by
  obtain ⟨op, h0⟩ := reads_field Tryd.underlying36 h 0 (ft := 3) (off := 0) (n := 1) rfl cells_int (E := RInt) ri
  obtain ⟨xs, h1⟩ := reads_field Tryd.underlying36 h 1 (ft := 31) (off := 1) (n := 1) rfl cells_ints (E := RSl RInt 1) ris
  obtain ⟨ps, h2⟩ := reads_field Tryd.underlying36 h 2 (ft := 31) (off := 2) (n := 1) rfl cells_ints (E := RSl RInt 1) ris
  have hl := struct_len Tryd.underlying36 h
  rw [cells_node] at hl
  obtain ⟨a, b, c, rfl⟩ := three_of hl
  obtain ⟨e0, i0⟩ := h0
  obtain ⟨v1, e1, i1⟩ := h1
  obtain ⟨v2, e2, i2⟩ := h2
  simp at e0 e1 e2
  subst e0 e1 e2
  exact ⟨⟨op, xs, ps⟩, _, _, rfl, i0, i1, i2⟩
theorem graph_arg {v : Value} {d : DataW H} {p : List MemPlace} (h : DataW.Trod enc Tryd.prog W 0 (fun _ => true) true 24 v d p) (hv : Value.okWide Tryd.prog W .any base 24 v) :
    ∃ nv out nds, v = .agg #[nv, .int .i64 out] ∧ Gr W.heap.size W nv nds ∧ In64 out := by
  obtain ⟨cs, rfl⟩ := arg_struct Tryd.underlying24 hv
  obtain ⟨fuel, hf⟩ := h
  have hl := struct_len Tryd.underlying24 hf
  obtain ⟨nds, hn⟩ := reads_field Tryd.underlying24 hf 0 (ft := 22) (off := 0) (n := 1) rfl cells_nodes (E := RSl RNode 3) (reads_slice Tryd.underlying22 cells_node (by decide) reads_node)
  obtain ⟨out, ho⟩ := reads_field Tryd.underlying24 hf 1 (ft := 3) (off := 1) (n := 1) rfl cells_int (E := RInt) ri
  rw [cells_graph] at hl
  simp only [Value.cells] at hl hn ho
  obtain ⟨c0, c1, hc⟩ := two_of hl
  rw [hc] at hn ho
  obtain ⟨nv, hn1, hn2⟩ := hn
  obtain ⟨h1, i1⟩ := ho
  simp at hn1 h1
  subst hn1 h1
  exact ⟨_, out, nds, by rw [← hc], hn2, i1⟩
end
theorem few_of {nds : List Nd} {most : Nat} (h : fewB nds most = true) (hm : most ≤ 100) : nds.length ≤ 100 ∧ ∀ i, i < nds.length → (nds.getD i Nd.none).ins.length ≤ 1000 := by
  obtain ⟨h1, h2⟩ := (fewB_iff _ _).1 h
  exact ⟨by omega, fun i hi => by have := (h2 i hi).1; omega⟩
end Go.Proofs.YtmhfabekmgcjnaaDoor
