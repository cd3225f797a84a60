/- Layer 11: order.All. -/
import Derived.Test.YtmhfabekmgcjnaaDoorOa
namespace Go.Proofs.YtmhfabekmgcjnaaDoor
open Go.RowKit Go.Bx Go.Od Go.Hp
attribute [local go_sem ↓] Go.wp_at_zero Go.wp_at_succ
set_option linter.unusedVariables false

def l1 (ins : List (List Int)) (i r : Nat) : Int := if r < i then (inp ins r).length else 0
def z1 (ins : List (List Int)) (i : Nat) : List Nat := (List.range i).filter fun q => decide ((inp ins q).length = 0)
theorem l1_step (ins : List (List Int)) (i r : Nat) : (if r = i then ((inp ins i).length : Int) else l1 ins i r) = l1 ins (i + 1) r := by
  unfold l1
  by_cases e : r = i
  · subst e; simp
  · rw [if_neg e]
    by_cases h : r < i
    · rw [if_pos h, if_pos (by omega)]
    · rw [if_neg h, if_neg (by omega)]
theorem z1_step (ins : List (List Int)) (i : Nat) : z1 ins (i + 1) = if (inp ins i).length = 0 then z1 ins i ++ [i] else z1 ins i := by
  unfold z1
  rw [List.range_succ, List.filter_append]
  by_cases h : (inp ins i).length = 0
  · rw [if_pos h, List.filter_cons_of_pos (by simpa using h)]; rfl
  · rw [if_neg h, List.filter_cons_of_neg (by simpa using h)]; simp
theorem z1_len (ins : List (List Int)) (i : Nat) : (z1 ins i).length ≤ i := by
  have := List.length_filter_le (fun q => decide ((inp ins q).length = 0)) (List.range i)
  simpa [z1] using this
theorem z1_start (ins : List (List Int)) : KInv ins 0 [] (z1 ins ins.length) (l1 ins ins.length) :=
  KInv.start (fun i hi => by unfold l1; rw [if_pos hi]) (List.Nodup.sublist List.filter_sublist List.nodup_range) fun i => by simp [z1]
theorem pop_perm {k : Nat} {hs hs2 : List Int} {h : List Nat} (hp : hs.Perm (ofN h)) (h2 : ((k : Int) :: hs2).Perm hs) : ∃ h2 : List Nat, hs2.Perm (ofN h2) ∧ h.Perm (k :: h2) := by
  have hall := h2.trans hp
  obtain ⟨l, hl, hl2⟩ := ofN_of hall
  cases l with
  | nil => cases hl
  | cons x l =>
    unfold ofN at hl
    simp only [List.map_cons, List.cons.injEq] at hl
    obtain ⟨h1, h3⟩ := hl
    have : x = k := by omega
    subst this
    exact ⟨l, by rw [h3]; exact List.Perm.refl _, hl2.symm⟩
theorem makeL {w w2 : World} {nv : Value} {out : Int} {n L : Nat} (hL : L = w.heap.size + 1) (hown : w2.ownsRow (w.heap.size + 1) 3 1 (.slice (some ⟨L, 0, none⟩) n n) n (madeCells (Value.int .i64 0).cells (n * 1)).toList)
    (hg : (w.alloc (.cells #[nv, .int .i64 out] 24)).grownBy w2 none) (ins : List (List Int)) : Box w2 (w.heap.size + 1) (lc n (l1 ins 0)) ∧ Box w2 w.heap.size [nv, .int .i64 out] ∧ Below w.heap.size w w2 := by
  subst hL
  have hb := box_own hown
  have e : (madeCells (Value.int .i64 0).cells (n * 1)).toList = List.replicate n (.int .i64 0) := by
    rw [Nat.mul_one]
    exact toList_madeCells_one _ _
  have e2 : List.replicate n (Value.int .i64 0) = lc n (l1 ins 0) := by
    unfold lc l1
    apply List.ext_getElem?
    intro j
    by_cases hj : j < n
    · simp [hj]
    · rw [List.getElem?_eq_none (by simp; omega), List.getElem?_eq_none (by simp; omega)]
  rw [e, e2] at hb
  exact ⟨hb, (Box.new w _ _).grown' hg (by simp), (below_alloc w _).grown hg (by rw [size_alloc]; omega) (fun k hk => by cases hk)⟩
theorem alloc_at (w : World) (o : Obj) : (w.alloc o).heap[w.heap.size]? = some o := by
  show (w.heap.push o)[w.heap.size]? = _
  simp
theorem ov_form {w : World} {B : Nat} {ov : Value} {o : List Nat} (h : OwnP w B ov (ofN o)) : lenV ov = o.length := by
  obtain ⟨a, c, rfl⟩ := own_sl h
  rfl
end Go.Proofs.YtmhfabekmgcjnaaDoor
