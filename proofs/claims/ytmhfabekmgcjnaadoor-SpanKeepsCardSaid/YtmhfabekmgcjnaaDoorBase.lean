/- Small words for walks: blocks that are known whole ('Box'), and what calls leave of them. Plain: no program. -/
import Derived.WalkKit
import Derived.WalkSpells
import Derived.WalkLawsBesides
import Derived.Lib.Hide
namespace Go.Bx
open Go.RowKit
set_option linter.unusedVariables false

/-- Block b is a row of just these cells, none frozen. -/
def Box (w : World) (b : Nat) (cs : List Value) : Prop := ∃ t, w.heap[b]? = some (.cells cs.toArray t (0, 0))

theorem Box.lt {w : World} {b : Nat} {cs : List Value} (h : Box w b cs) : b < w.heap.size := by
  obtain ⟨t, h⟩ := h
  exact (Array.getElem?_eq_some_iff.1 h).1
theorem Box.cell {w : World} {b : Nat} {cs : List Value} (h : Box w b cs) (i : Nat) {v : Value} (hv : cs[i]? = some v) : w.cell? ⟨b, i, none⟩ = some v := by
  obtain ⟨t, h⟩ := h
  simp [World.cell?, h, hv]
theorem Box.frozen {w : World} {b : Nat} {cs : List Value} (h : Box w b cs) (i : Nat) : w.frozen? ⟨b, i, none⟩ = false := by
  obtain ⟨t, h⟩ := h
  simp [World.frozen?, h]
theorem Box.of_block {w w' : World} {b : Nat} {cs : List Value} (h : Box w b cs) (e : w'.heap[b]? = w.heap[b]?) : Box w' b cs := by
  obtain ⟨t, h⟩ := h
  exact ⟨t, e.trans h⟩
theorem Box.below {W w : World} {b : Nat} {cs : List Value} (h : Box W b cs) {B : Nat} (hb : Below B W w) (hlt : b < B) : Box w b cs := h.of_block (hb.block b hlt)
theorem Box.call {W w : World} {b : Nat} {cs : List Value} (h : Box W b cs) (hb : Below W.heap.size W w) : Box w b cs := h.below hb h.lt
theorem Box.alloc {w : World} {b : Nat} {cs : List Value} (h : Box w b cs) (o : Obj) : Box (w.alloc o) b cs := h.of_block (Below.heap_alloc _ _ _ h.lt)
theorem Box.drewN {w : World} {b : Nat} {cs : List Value} (h : Box w b cs) (n : Nat) : Box (w.drewN n) b cs := h
theorem Box.drew {w : World} {b : Nat} {cs : List Value} (h : Box w b cs) : Box w.drew b cs := h
theorem Box.set {w : World} {b : Nat} {cs : List Value} (h : Box w b cs) {p : Addr} (hp : b ≠ p.block) (v : Value) : Box (w.setCell p v) b cs := h.of_block (Below.heap_setCell _ _ _ _ hp)
theorem Box.new (w : World) (cs : List Value) (t : TypeId) : Box (w.alloc (.cells cs.toArray t)) w.heap.size cs := by
  refine ⟨t, ?_⟩
  show (w.heap.push _)[w.heap.size]? = _
  simp
theorem Box.self {w : World} {b : Nat} {cs : List Value} (h : Box w b cs) (i : Nat) (v : Value) : Box (w.setCell ⟨b, i, none⟩ v) b (cs.set i v) := by
  obtain ⟨t, h⟩ := h
  refine ⟨t, ?_⟩
  simp [World.setCell, Array.getElem?_modify, h]
theorem cell_alloc_lt {w : World} {a : Addr} {v : Value} (h : w.cell? a = some v) (o : Obj) : (w.alloc o).cell? a = some v := by
  have hlt : a.block < w.heap.size := by
    unfold World.cell? at h
    split at h
    · rename_i c _ _ he
      exact (Array.getElem?_eq_some_iff.1 he).1
    · cases h
  rw [World.cell?_of_block (w := w) (Below.heap_alloc w o a.block hlt)]
  exact h
theorem size_alloc (w : World) (o : Obj) : (w.alloc o).heap.size = w.heap.size + 1 := by
  show (w.heap.push o).size = _
  simp
theorem size_set (w : World) (p : Addr) (v : Value) : (w.setCell p v).heap.size = w.heap.size := by simp [World.setCell]
theorem size_drewN (w : World) (n : Nat) : (w.drewN n).heap.size = w.heap.size := rfl

/-- what a call leaves that answers v and turns nothing that was there -/
def PPost (w : World) (v : Value) (e : Ending) (w' : World) : Prop := e = .returned v ∧ Below w.heap.size w w'
/-- what a call leaves that answers v and turns nothing at all -/
def SPost (w : World) (v : Value) (e : Ending) (w' : World) : Prop := e = .returned v ∧ w = w'
/-- what a walk of a statement shows -/
def TPost (W : World) (e : Ending) (W' : World) : Prop := e = .returned (.bool true) ∧ Below W.heap.size W W'
theorem ret_b {a b : Bool} (h : a = b) : Ending.returned (.bool a) = .returned (.bool b) := by rw [h]
theorem ret_i {a b : Int} (h : a = b) : Ending.returned (.int .i64 a) = .returned (.int .i64 b) := by rw [h]

/-- a call behind others: from B on -/
theorem after {B : Nat} {w W w1 : World} (h : Below B w W) (hB : B ≤ W.heap.size) (hb : Below W.heap.size W w1) : Below B w w1 := h.trans (hb.mono hB)
end Go.Bx
