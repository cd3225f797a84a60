/- Layer 11: order.All: what holds between its rounds. -/
import Derived.Test.YtmhfabekmgcjnaaDoorOu
namespace Go.Proofs.YtmhfabekmgcjnaaDoor
open Go.RowKit Go.Bx Go.Od Go.Hp
attribute [local go_sem ↓] Go.wp_at_zero Go.wp_at_succ
set_option linter.unusedVariables false

/-- the row 'left' -/
def lc (n : Nat) (left : Nat → Int) : List Value := (List.range n).map fun r => Value.int .i64 (left r)
theorem lc_get {n r : Nat} (left : Nat → Int) (h : r < n) : (lc n left)[r]? = some (.int .i64 (left r)) := by simp [lc, h]
theorem lc_set (n u : Nat) (left : Nat → Int) (x : Int) : (lc n left).set u (.int .i64 x) = lc n (fun r => if r = u then x else left r) := by
  unfold lc
  apply List.ext_getElem?
  intro j
  by_cases e : j = u
  · subst e
    by_cases hj : j < n
    · simp [hj]
    · rw [List.getElem?_eq_none (by simp; omega), List.getElem?_eq_none (by simp; omega)]
  · rw [List.getElem?_set_ne (fun h => e h.symm)]
    by_cases hj : j < n
    · simp [hj, e]
    · rw [List.getElem?_eq_none (by simp; omega), List.getElem?_eq_none (by simp; omega)]
theorem lc_congr {n : Nat} {f g : Nat → Int} (h : ∀ r, r < n → f r = g r) : lc n f = lc n g := by
  unfold lc
  apply List.map_congr_left
  intro r hr
  rw [h r (List.mem_range.1 hr)]
theorem row_ge {w : World} {B : Nat} {v : Value} {xs : List Int} (h : OwnP w B v xs) : ∀ k, v.ownBlock = some k → B ≤ k ∧ k < w.heap.size := fun k hk => World.ownsRow.lt h k hk

section
variable {w wr w' : World} {nv hv hv' : Value} {out : Int} {nb n : Nat} {left : Nat → Int} {hs hs' : List Int}
end

section
variable {w wU wr w' : World} {nv hv hv' ov : Value} {nb U n : Nat} {left : Nat → Int} {hs hs' : List Int} {o : List Nat}
end
def lenV : Value → Nat
  | .slice _ n _ => n
  | _ => 0
theorem inp_len (ins : List (List Int)) (i : Nat) : (inp ins i).length ≤ ins.length := len_le (inp_nodup ins i) fun k hk => ((inp_mem ins i k).1 hk).1
theorem lf_le (ins : List (List Int)) (out : List Nat) (i : Nat) : lf ins out i ≤ ins.length := Nat.le_trans (List.length_filter_le _ _) (inp_len ins i)
theorem users_nodup (ins : List (List Int)) (r : Nat) : (users ins r).Nodup := List.Nodup.sublist List.filter_sublist List.nodup_range
theorem users_mem (ins : List (List Int)) (r i : Nat) : i ∈ users ins r ↔ i < ins.length ∧ r ∈ inp ins i := by simp [users]
/-- a number of the heap is a node -/
theorem heap_node {hs : List Int} {h : List Nat} (hp : hs.Perm (ofN h)) {x : Int} (hx : x ∈ hs) : ∃ k : Nat, x = k ∧ k ∈ h := by
  have := hp.mem_iff.1 hx
  unfold ofN at this
  obtain ⟨k, hk, rfl⟩ := List.mem_map.1 this
  exact ⟨k, rfl, hk⟩
theorem ofN_perm {a b : List Nat} (h : (ofN a).Perm (ofN b)) : a.Perm b := by
  have := h.map Int.toNat
  unfold ofN at this
  simpa [List.map_map, Function.comp_def] using this
theorem ofN_of {hs : List Int} {h : List Nat} (hp : hs.Perm (ofN h)) : ∃ l : List Nat, hs = ofN l ∧ l.Perm h := by
  refine ⟨hs.map Int.toNat, ?_, ?_⟩
  · unfold ofN
    rw [List.map_map]
    have : hs.map (fun x => x) = hs.map ((fun k : Nat => (k : Int)) ∘ Int.toNat) := List.map_congr_left fun x hx => by
      obtain ⟨k, rfl, _⟩ := heap_node hp hx
      rfl
    rw [← this, List.map_id']
  · have := hp.map Int.toNat
    unfold ofN at this
    simpa [List.map_map, Function.comp_def] using this
end Go.Proofs.YtmhfabekmgcjnaaDoor
