/- A region that draws its order, whose operations read and whose callees turn nothing that was there (they may make memory): one walk, in the order of the text. Plain: no program. -/
import Derived.Test.YtmhfabekmgcjnaaDoorRead
import Derived.Deep.QuietTactic
import Derived.BigQuiet
namespace Go.Bx
open Go.RowKit
set_option linter.unusedVariables false

/-- a world in which all below n is as in w -/
def Kept (n : Nat) (w : World) := { W : World // Below n w W }
def Kept.w {n : Nat} {w : World} (s : Kept n w) : World := s.1
theorem Kept.below {n : Nat} {w : World} (s : Kept n w) : Below n w s.w := s.2
theorem Kept.cell {n : Nat} {w : World} (s : Kept n w) {a : Addr} {v : Value} (h : w.cell? a = some v) (hlt : a.block < n) : s.w.cell? a = some v := (s.below.cell hlt).trans h
theorem Kept.at {w : World} (s : Kept w.heap.size w) {a : Addr} {v : Value} (h : w.cell? a = some v) : s.w.cell? a = some v := s.cell h (lt_of_cell h)
theorem Kept.froz {w : World} (s : Kept w.heap.size w) {a : Addr} {v : Value} {b : Bool} (hv : w.cell? a = some v) (h : w.frozen? a = b) : s.w.frozen? a = b := (s.below.frozen (lt_of_cell hv)).trans h

instance {n : Nat} {w : World} : Nonempty (Kept n w) := ⟨⟨w, Below.refl _ _⟩⟩
/-- the region, walked once -/
theorem wp_region_kept {P : Program} {id : Nat} {Q : Exit → Act → World → Prop} {a : Act} {w : World} {l : List Oper} (n : Nat) (hm : P.follows .mixedOrders = true) (hB : Region.lexB .any l.toArray = true)
    (h : wpQuiet P l.toArray (fun w' => ∃ s : Kept n w, w' = s.w) (fun a' => ∀ w', (∃ s : Kept n w, w' = s.w) → Q .normal a' w') l a) : (Code.region id l.toArray true).wp P Q a w :=
  wp_region_quiet (C := fun w' => ∃ s : Kept n w, w' = s.w) hm hB ⟨⟨w.drew, (Below.refl _ w).drew⟩, rfl⟩ (by simpa using h)

/-- a callee's contract, met in such a world -/
theorem Calls.kept {P : Program} {f : FuncId} {args : Array Value} {n : Nat} {w : World} (s : Kept n w) (hn : n ≤ w.heap.size) {v : Value} (h : Calls P f args s.w (PPost s.w v)) :
    Calls P f args s.w fun e w'' => e = .returned v ∧ ∃ s' : Kept n w, w'' = s'.w :=
  h.mono fun _ w'' ⟨he, hb⟩ => ⟨he, ⟨w'', s.below.trans (hb.mono (Nat.le_trans hn s.below.size))⟩, rfl⟩
end Go.Bx
