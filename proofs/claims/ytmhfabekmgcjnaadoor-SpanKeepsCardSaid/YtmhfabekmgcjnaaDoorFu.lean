/- Layer 16: which kinds go point by point; a node's only user. -/
import Derived.Test.YtmhfabekmgcjnaaDoorGa
namespace Go.Proofs.YtmhfabekmgcjnaaDoor
open Go.RowKit Go.Bx Go.Od Go.Hp
attribute [local go_sem ↓] Go.wp_at_zero Go.wp_at_succ
set_option linter.unusedVariables false

def byPt (op : Int) : Bool := decide ((5 ≤ op ∧ op ≤ 9) ∨ op = 12)
set_option maxHeartbeats 1600000 in
theorem rbypoint_c (op : Int) (w : World) : Calls Tryd.prog 34 #[.int .i64 op] w fun e w' => e = .returned (.bool (byPt op)) ∧ w' = w := by
  by_cases h1 : op = 12
  · subst h1
    go_enter Tryd.func34, Tryd.ntmps34
    go_wp2_with fail
    go_ret
    exact ⟨rfl, rfl⟩
  · have e6 : (op == 12) = false := beq_eq_false_iff_ne.2 h1
    by_cases h2 : 5 ≤ op
    · by_cases h3 : op ≤ 9
      · have HE : Hid (byPt op = true) := decide_eq_true (by omega)
        clear h1
        go_enter Tryd.func34, Tryd.ntmps34
        go_wp2_with fail
        go_ret
        exact ⟨ret_b HE.out.symm, rfl⟩
      · have HE : Hid (byPt op = false) := decide_eq_false (by omega)
        have h3' : decide (op ≤ 9) = false := decide_eq_false h3
        clear h1
        go_enter Tryd.func34, Tryd.ntmps34
        go_wp2_with fail
        go_ret
        exact ⟨ret_b HE.out.symm, rfl⟩
    · have HE : Hid (byPt op = false) := decide_eq_false (by omega)
      have h3' : decide (5 ≤ op) = false := decide_eq_false h2
      clear h1
      go_enter Tryd.func34, Tryd.ntmps34
      go_wp2_with fail
      go_ret
      exact ⟨ret_b HE.out.symm, rfl⟩
/-- the last of a list, and how many -/
def lastN (l : List Nat) : Nat := l.getLastD 0
theorem lastN_snoc (l : List Nat) (x : Nat) : lastN (l ++ [x]) = x := by simp [lastN]
theorem take_filter {l : List Nat} {j x : Nat} (S : Nat → Bool) (h : l[j]? = some x) : (l.take (j + 1)).filter S = if S x then (l.take j).filter S ++ [x] else (l.take j).filter S := by
  rw [take_more h, List.filter_append]
  cases e : S x <;> simp [e]
end Go.Proofs.YtmhfabekmgcjnaaDoor
