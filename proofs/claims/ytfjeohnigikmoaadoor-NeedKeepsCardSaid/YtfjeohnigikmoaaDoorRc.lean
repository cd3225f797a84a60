/- Layer 3: rectangles. -/
import Derived.Test.YtfjeohnigikmoaaDoorOrL
import Derived.Test.YtfjeohnigikmoaaDoorHp
namespace Go.Proofs.YtfjeohnigikmoaaDoor
open Go.RowKit Go.Bx Go.Od Go.Hp
attribute [local go_sem ↓] Go.wp_at_zero Go.wp_at_succ
set_option linter.unusedVariables false

structure Rc where
  x0 : Int
  y0 : Int
  x1 : Int
  y1 : Int
def Rc.zero : Rc := ⟨0, 0, 0, 0⟩
abbrev rv (r : Rc) : Value := .agg #[.int .i64 r.x0, .int .i64 r.y0, .int .i64 r.x1, .int .i64 r.y1]
def Rc.emp (r : Rc) : Bool := decide (r.x1 ≤ r.x0) || decide (r.y1 ≤ r.y0)
abbrev cs4 (x0 y0 x1 y1 : Int) : Array Value := #[.int .i64 x0, .int .i64 y0, .int .i64 x1, .int .i64 y1]
theorem box4 {W : World} {b : Nat} {x0 y0 x1 y1 : Int} (h : Box W b [.int .i64 x0, .int .i64 y0, .int .i64 x1, .int .i64 y1]) : W.cell? ⟨b, 0, none⟩ = some (.int .i64 x0) ∧ W.cell? ⟨b, 1, none⟩ = some (.int .i64 y0) ∧ W.cell? ⟨b, 2, none⟩ = some (.int .i64 x1) ∧ W.cell? ⟨b, 3, none⟩ = some (.int .i64 y1) :=
  ⟨h.cell 0 rfl, h.cell 1 rfl, h.cell 2 rfl, h.cell 3 rfl⟩
theorem below_new (w : World) (o : Obj) : Below w.heap.size w (w.alloc o) := (Below.refl _ _).alloc (Nat.le_refl _) o
theorem empty_c (x0 y0 x1 y1 : Int) (w : World) : Calls Tryd.prog 25 #[rv ⟨x0, y0, x1, y1⟩] w (PPost w (.bool (Rc.emp ⟨x0, y0, x1, y1⟩))) := by
  by_cases h : x1 ≤ x0
  · have hd : decide (x1 ≤ x0) = true := decide_eq_true h
    have HE : Hid (Rc.emp ⟨x0, y0, x1, y1⟩ = true) := by
      have : Rc.emp ⟨x0, y0, x1, y1⟩ = true := by simp [Rc.emp, h]
      exact this
    clear h
    go_enter Tryd.func25, Tryd.ntmps25
    go_wp2_with fail
    go_ret
    exact ⟨ret_b HE.out.symm, below_new _ _⟩
  · have hd : decide (x1 ≤ x0) = false := decide_eq_false h
    have HE : Hid (Rc.emp ⟨x0, y0, x1, y1⟩ = decide (y1 ≤ y0)) := by
      have : Rc.emp ⟨x0, y0, x1, y1⟩ = decide (y1 ≤ y0) := by simp [Rc.emp, h]
      exact this
    clear h
    go_enter Tryd.func25, Tryd.ntmps25
    go_wp2_with fail
    go_ret
    exact ⟨ret_b HE.out.symm, below_new _ _⟩
def joinR (a b : Rc) : Rc := if a.emp then (if b.emp then Rc.zero else b) else if b.emp then a else ⟨min a.x0 b.x0, min a.y0 b.y0, max a.x1 b.x1, max a.y1 b.y1⟩
end Go.Proofs.YtfjeohnigikmoaaDoor
