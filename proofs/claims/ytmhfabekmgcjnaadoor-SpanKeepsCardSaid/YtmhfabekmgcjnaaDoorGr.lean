/- Layer 16: fuse.Groups. -/
import Derived.Test.YtmhfabekmgcjnaaDoorFl
import Derived.Test.YtmhfabekmgcjnaaDoorGm
namespace Go.Proofs.YtmhfabekmgcjnaaDoor
open Go.RowKit Go.Bx Go.Od Go.Hp Go.Shelf
set_option linter.unusedVariables false

/-- what Groups has gathered once j nodes are walked -/
def ofJ (ld : Nat → Option Nat) (all : List Nat) (j : Nat) (l : Nat) : List Nat := (all.take j).filter fun k => decide (ld k = some l)
def gsJ (ld : Nat → Option Nat) (all : List Nat) (j : Nat) : List (List Nat) := ((all.take j).map (ofJ ld all all.length)).filter fun g => decide (0 < g.length)
def gsF (ld : Nat → Option Nat) (all : List Nat) : List (List Nat) := (all.map fun l => all.filter fun k => decide (ld k = some l)).filter fun g => decide (0 < g.length)
theorem gsJ_end (ld : Nat → Option Nat) (all : List Nat) : gsJ ld all all.length = gsF ld all := by
  unfold gsJ gsF
  congr 1
  rw [List.take_length]
  refine List.map_congr_left fun l _ => ?_
  unfold ofJ
  rw [List.take_length]
theorem gsJ_len (ld : Nat → Option Nat) (all : List Nat) (j : Nat) : (gsJ ld all j).length ≤ all.length := by
  unfold gsJ
  refine Nat.le_trans (List.length_filter_le _ _) ?_
  simp
  omega
theorem take_next {l : List Nat} {j x : Nat} (h : l[j]? = some x) : l.take (j + 1) = l.take j ++ [x] := by
  obtain ⟨hj, hx⟩ := List.getElem?_eq_some_iff.1 h
  rw [List.take_succ_eq_append_getElem hj, hx]
theorem ofJ_some {ld : Nat → Option Nat} {all : List Nat} {j k l : Nat} (hj : all[j]? = some k) (hl : ld k = some l) (r : Nat) : (if r = l then ofJ ld all j l ++ [k] else ofJ ld all j r) = ofJ ld all (j + 1) r := by
  unfold ofJ
  rw [take_next hj, List.filter_append]
  by_cases e : r = l
  · subst e
    rw [if_pos rfl, List.filter_cons_of_pos (by simp [hl])]
    rfl
  · rw [if_neg e, List.filter_cons_of_neg (by simp [hl]; omega)]
    simp
theorem ofJ_none {ld : Nat → Option Nat} {all : List Nat} {j k : Nat} (hj : all[j]? = some k) (hl : ld k = none) (r : Nat) : ofJ ld all j r = ofJ ld all (j + 1) r := by
  unfold ofJ
  rw [take_next hj, List.filter_append, List.filter_cons_of_neg (by simp [hl])]
  simp
theorem gsJ_some {ld : Nat → Option Nat} {all : List Nat} {j k : Nat} (hj : all[j]? = some k) (h : 0 < (ofJ ld all all.length k).length) : gsJ ld all (j + 1) = gsJ ld all j ++ [ofJ ld all all.length k] := by
  unfold gsJ
  rw [take_next hj, List.map_append, List.filter_append]
  simp [h]
theorem gsJ_none {ld : Nat → Option Nat} {all : List Nat} {j k : Nat} (hj : all[j]? = some k) (h : (ofJ ld all all.length k).length = 0) : gsJ ld all (j + 1) = gsJ ld all j := by
  unfold gsJ
  rw [take_next hj, List.map_append, List.filter_append]
  simp [h]

/-- the first loop's relation -/
def G1 (w3 : World) (bm n : Nat) (ld : Nat → Option Nat) (all : List Nat) (j : Nat) (wr : World) : Prop :=
  Below w3.heap.size w3 wr ∧ MapI wr bm n 4000 ld ∧ MapG wr w3.heap.size (w3.heap.size + 1) n j (ofJ ld all j) ∧ bm < w3.heap.size
section
variable {w3 wr w8 : World} {bm n j k l : Nat} {ld : Nat → Option Nat} {all : List Nat}
theorem G1.skip (h : G1 w3 bm n ld all j wr) (hj : all[j]? = some k) (hl : ld k = none) : G1 w3 bm n ld all (j + 1) wr :=
  ⟨h.1, h.2.1, (h.2.2.1.mono (by omega)).congr (ofJ_none hj hl), h.2.2.2⟩
end
/-- the second loop's relation -/
def G2 (w3 : World) (n : Nat) (ld : Nat → Option Nat) (all : List Nat) (j : Nat) (ov : Value) (wr : World) : Prop :=
  ∃ vs, Below w3.heap.size w3 wr ∧ MapG wr w3.heap.size (w3.heap.size + 1) n all.length (ofJ ld all all.length) ∧ GU (w3.heap.size + 1) (gsJ ld all j) ov vs wr
section
variable {w3 wr w8 : World} {bm n j k l : Nat} {ld : Nat → Option Nat} {all : List Nat} {ov : Value}
theorem G2.start (h : G1 w3 bm n ld all all.length wr) : G2 w3 n ld all 0 (.slice none 0 0) wr := ⟨[], h.1, h.2.2.1, GU.nil _ _⟩
theorem G2.isSl (h : G2 w3 n ld all j ov wr) : ∃ a c, ov = .slice a (gsJ ld all j).length c := by
  obtain ⟨vs, _, _, h3⟩ := h
  exact row_sl h3.own
theorem G2.skip (h : G2 w3 n ld all j ov wr) (hj : all[j]? = some k) (hl : (ofJ ld all all.length k).length = 0) : G2 w3 n ld all (j + 1) ov wr := by
  obtain ⟨vs, h1, h2, h3⟩ := h
  exact ⟨vs, h1, h2, by rw [gsJ_none hj hl]; exact h3⟩
end
noncomputable def ldM (nds : List Nd) (out : Int) (on : Bool) : Nat → Option Nat := (ord (insOf nds)).reverse.foldl (ldStep (ned (insOf nds) out) (users (insOf nds)) (fun k => (nds.getD k Nd.none).op) out on) fun _ => none
end Go.Proofs.YtmhfabekmgcjnaaDoor
