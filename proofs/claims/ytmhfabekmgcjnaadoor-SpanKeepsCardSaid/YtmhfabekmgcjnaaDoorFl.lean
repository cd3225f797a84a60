/- Layer 16: fuse.leaders. -/
import Derived.Test.YtmhfabekmgcjnaaDoorFm
namespace Go.Proofs.YtmhfabekmgcjnaaDoor
open Go.RowKit Go.Bx Go.Od Go.Hp Go.Shelf
set_option linter.unusedVariables false

def ldCond (S : Nat → Bool) (us : Nat → List Nat) (op : Nat → Int) (out : Int) (on : Bool) (k : Nat) : Bool :=
  on && (((((us k).filter S).length : Int) == 1) && (!((k : Int) == out) && (byPt (op k) && byPt (op (lastN ((us k).filter S))))))
def setM (m : Nat → Option Nat) (k v : Nat) : Nat → Option Nat := fun r => if r = k then some v else m r
def ldStep (S : Nat → Bool) (us : Nat → List Nat) (op : Nat → Int) (out : Int) (on : Bool) (m : Nat → Option Nat) (k : Nat) : Nat → Option Nat :=
  if S k then (if ldCond S us op out on k then setM (setM m k k) k ((setM m k k (lastN ((us k).filter S))).getD 0) else setM m k k) else m
def ldFold {n : Nat} (S : Nat → Bool) (us : Nat → List Nat) (op : Nat → Int) (out : Int) (on : Bool) (pre : List (BkE n)) : Nat → Option Nat :=
  pre.foldl (fun m x => ldStep S us op out on m x.2.1) fun _ => none
theorem ldFold_snoc {n : Nat} (S : Nat → Bool) (us : Nat → List Nat) (op : Nat → Int) (out : Int) (on : Bool) (pre : List (BkE n)) (x : BkE n) : ldFold S us op out on (pre ++ [x]) = ldStep S us op out on (ldFold S us op out on pre) x.2.1 := by
  simp [ldFold]
theorem ldFold_all {n : Nat} {all : List Nat} (S : Nat → Bool) (us : Nat → List Nat) (op : Nat → Int) (out : Int) (on : Bool) (f : Nat → BkE n) (h : ∀ j, j < all.length → (f j).2.1 = all.getD (all.length - 1 - j) 0) : ldFold S us op out on (bkUp f all.length) = all.reverse.foldl (ldStep S us op out on) fun _ => none := by
  have e : (bkUp f all.length).map (fun x => x.2.1) = all.reverse := by
    apply List.ext_getElem
    · simp [bkUp]
    · intro i h1 h2
      have hi : i < all.length := by simpa using h2
      have := h i hi
      simp [bkUp] at this ⊢
      rw [this]
      simp [show all.length - 1 - i < all.length by omega]
  rw [← e, List.foldl_map]
  rfl
def LdPost (w : World) (n : Nat) (m : Nat → Option Nat) (e : Ending) (w' : World) : Prop := ∃ bm, w.heap.size ≤ bm ∧ e = .returned (.map (some bm)) ∧ MapI w' bm n 4000 m ∧ Below w.heap.size w w'
section
attribute [local go_sem] Oper.semAt_some
end
end Go.Proofs.YtmhfabekmgcjnaaDoor
