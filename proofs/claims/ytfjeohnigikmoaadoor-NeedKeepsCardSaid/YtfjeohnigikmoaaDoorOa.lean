/- Layer 11: order.All: what holds between its rounds. -/
import Derived.Test.YtfjeohnigikmoaaDoorOu
namespace Go.Proofs.YtfjeohnigikmoaaDoor
open Go.RowKit Go.Bx Go.Od Go.Hp
attribute [local go_sem ↓] Go.wp_at_zero Go.wp_at_succ
set_option linter.unusedVariables false

/-- the row 'left' -/
def lc (n : Nat) (left : Nat → Int) : List Value := (List.range n).map fun r => Value.int .i64 (left r)
theorem lc_get {n r : Nat} (left : Nat → Int) (h : r < n) : (lc n left)[r]? = some (.int .i64 (left r)) := by simp [lc, h]
theorem lc_set (n u : Nat) (left : Nat → Int) (x : Int) : (lc n left).set u (.int .i64 x) = lc n (fun r => if r = u then x else left r) := by
  unfold lc
  apply List.ext_getElem?
  intro j
  by_cases e : j = u
  · subst e
    by_cases hj : j < n
    · simp [hj]
    · rw [List.getElem?_eq_none (by simp; omega), List.getElem?_eq_none (by simp; omega)]
  · rw [List.getElem?_set_ne (fun h => e h.symm)]
    by_cases hj : j < n
    · simp [hj, e]
    · rw [List.getElem?_eq_none (by simp; omega), List.getElem?_eq_none (by simp; omega)]
theorem lc_congr {n : Nat} {f g : Nat → Int} (h : ∀ r, r < n → f r = g r) : lc n f = lc n g := by
  unfold lc
  apply List.map_congr_left
  intro r hr
  rw [h r (List.mem_range.1 hr)]
theorem row_ge {w : World} {B : Nat} {v : Value} {xs : List Int} (h : OwnP w B v xs) : ∀ k, v.ownBlock = some k → B ≤ k ∧ k < w.heap.size := fun k hk => World.ownsRow.lt h k hk

/-- before Uses is called -/
structure A1 (w : World) (nb : Nat) (nv : Value) (out : Int) (n : Nat) (left : Nat → Int) (hv : Value) (hs : List Int) (wr : World) : Prop where
  gb : Box wr w.heap.size [nv, .int .i64 out]
  lb : Box wr (w.heap.size + 1) (lc n left)
  hp : HpIs wr (nb) (w.heap.size + 2) hv hs
  heap : IsHeap hs
  below : Below w.heap.size w wr
  nbl : w.heap.size + 2 ≤ nb
section
variable {w wr w' : World} {nv hv hv' : Value} {out : Int} {nb n : Nat} {left : Nat → Int} {hs hs' : List Int}
theorem HpIs.nlt {nb B : Nat} (h : HpIs wr nb B hv hs) : nb < wr.heap.size := (Array.getElem?_eq_some_iff.1 h.2.1).1
theorem A1.call (h : A1 w nb nv out n left hv hs wr) (hb : Below wr.heap.size wr w') : A1 w nb nv out n left hv hs w' :=
  ⟨h.gb.call hb, h.lb.call hb, h.hp.below hb, h.heap, h.below.trans (hb.mono h.below.size), h.nbl⟩
theorem A1.setL (h : A1 w nb nv out n left hv hs wr) (i : Nat) (x : Int) : A1 w nb nv out n (fun r => if r = i then x else left r) hv hs (wr.setCell ⟨w.heap.size + 1, i, none⟩ (.int .i64 x)) := by
  have hne : ∀ k, hv.ownBlock = some k → k ≠ w.heap.size + 1 := fun k hk => by have := (row_ge h.hp.1 k hk).1; omega
  have hnb := h.nbl
  refine ⟨h.gb.set (by simp) _, by rw [← lc_set]; exact h.lb.self _ _, ⟨own_set_ne h.hp.1 (fun e => hne _ e rfl) _, ?_, h.hp.2.2⟩, h.heap, h.below.setCell (by simp) _, hnb⟩
  rw [Below.heap_setCell _ _ _ _ (by simp; omega)]
  exact h.hp.2.1
theorem A1.push (h : A1 w nb nv out n left hv hs wr) (hf : HFr (nb) hv wr w') (hp : HpIs w' (nb) (w.heap.size + 2) hv' hs') (hh : IsHeap hs') : A1 w nb nv out n left hv' hs' w' := by
  have hk : ∀ k, k < w.heap.size + 2 → w'.heap[k]? = wr.heap[k]? := fun k hk => hf.block k (by have := h.hp.nlt; have := h.nbl; omega) (by have := h.nbl; omega) fun e => by have := (row_ge h.hp.1 k e).1; omega
  exact ⟨h.gb.of_block (hk _ (by omega)), h.lb.of_block (hk _ (by omega)), hp, hh, ⟨hf.os.trans h.below.os, hf.tape.trans h.below.tape, hf.output.trans h.below.output, Nat.le_trans h.below.size hf.size, fun b hb => (hk b (by omega)).trans (h.below.block b hb)⟩, h.nbl⟩
end

/-- once Uses has answered (in world wU, its row at block U): o the order so far (in the row ov), hs the heap -/
structure AR (w wU : World) (nb U n : Nat) (left : Nat → Int) (hv : Value) (hs : List Int) (ov : Value) (o : List Nat) (wr : World) : Prop where
  lb : Box wr (w.heap.size + 1) (lc n left)
  hp : HpIs wr (nb) (w.heap.size + 2) hv hs
  heap : IsHeap hs
  us : Bx.Same (fun k => U ≤ k ∧ k < wU.heap.size) wU wr
  hrow : ∀ k, hv.ownBlock = some k → k < U ∨ wU.heap.size ≤ k
  oo : OwnP wr wU.heap.size ov (ofN o)
  apart : ∀ k, hv.ownBlock = some k → ov.ownBlock ≠ some k
  below : Below w.heap.size w wr
  size : wU.heap.size ≤ wr.heap.size
  nbl : w.heap.size + 2 ≤ nb
  ule : nb < U
section
variable {w wU wr w' : World} {nv hv hv' ov : Value} {nb U n : Nat} {left : Nat → Int} {hs hs' : List Int} {o : List Nat}
theorem AR.start {out : Int} (h : A1 w nb nv out n left hv hs wr) (hU : wr.heap.size ≤ U) (hb : Below wr.heap.size wr w') (hul : U < w'.heap.size) : AR w w' nb U n left hv hs (.slice none 0 0) [] w' := by
  have h' := h.call hb
  have := h.hp.nlt
  exact ⟨h'.lb, h'.hp, h'.heap, Bx.Same.refl _ _, fun k hk => .inl (by have := (row_ge h.hp.1 k hk).2; omega), own_nil _ _, (fun k _ e => by cases e), h'.below, Nat.le_refl _, h.nbl, by omega⟩
theorem AR.call (h : AR w wU nb U n left hv hs ov o wr) (hb : Below wr.heap.size wr w') : AR w wU nb U n left hv hs ov o w' :=
  ⟨h.lb.call hb, h.hp.below hb, h.heap, h.us.trans (Same.of_below hb fun b hb => by have := h.size; omega), h.hrow, h.oo.below hb, h.apart, h.below.trans (hb.mono h.below.size), Nat.le_trans h.size hb.size, h.nbl, h.ule⟩
theorem AR.setL (h : AR w wU nb U n left hv hs ov o wr) (hU : U < wU.heap.size) (i : Nat) (x : Int) : AR w wU nb U n (fun r => if r = i then x else left r) hv hs ov o (wr.setCell ⟨w.heap.size + 1, i, none⟩ (.int .i64 x)) := by
  have hne : ∀ k, hv.ownBlock = some k → k ≠ w.heap.size + 1 := fun k hk => by have := (row_ge h.hp.1 k hk).1; omega
  have := h.ule
  have hnb := h.nbl
  refine ⟨by rw [← lc_set]; exact h.lb.self _ _, ⟨own_set_ne h.hp.1 (fun e => hne _ e rfl) _, ?_, h.hp.2.2⟩, h.heap, fun b hb => ?_, h.hrow, own_set h.oo (by simp; omega) _, h.apart, h.below.setCell (by simp) _, by rw [size_set]; exact h.size, h.nbl, h.ule⟩
  · rw [Below.heap_setCell _ _ _ _ (by simp; omega)]
    exact h.hp.2.1
  · rw [Below.heap_setCell _ _ _ _ (by simp; omega)]
    exact h.us b hb
theorem AR.push (h : AR w wU nb U n left hv hs ov o wr) (hf : HFr (nb) hv wr w') (hp : HpIs w' (nb) (w.heap.size + 2) hv' hs') (hh : IsHeap hs') (hU : U < wU.heap.size)
    (hk : ∀ k, hv'.ownBlock = some k → hv.ownBlock = some k ∨ wr.heap.size ≤ k) : AR w wU nb U n left hv' hs' ov o w' := by
  have hsz := h.size
  have hul := h.ule
  have hnb := h.nbl
  have hb : ∀ k, k < wr.heap.size → k ≠ nb → hv.ownBlock ≠ some k → w'.heap[k]? = wr.heap[k]? := hf.block
  refine ⟨h.lb.of_block (hb _ (by omega) (by omega) fun e => by have := (row_ge h.hp.1 _ e).1; omega), hp, hh, h.us.trans fun b hb' => hb b (by omega) (by omega) fun e => ?_, fun k e => ?_, ?_, fun k e e2 => ?_, ⟨hf.os.trans h.below.os, hf.tape.trans h.below.tape, hf.output.trans h.below.output, Nat.le_trans h.below.size hf.size, fun b hb' => (hb b (by omega) (by omega) fun e => by have := (row_ge h.hp.1 _ e).1; omega).trans (h.below.block b hb')⟩, Nat.le_trans h.size hf.size, h.nbl, h.ule⟩
  · have := h.hrow b e
    omega
  · rcases hk k e with e | e
    · exact h.hrow k e
    · exact .inr (by omega)
  · refine ⟨h.oo.1, ?_⟩
    rcases h.oo.2 with hn | ⟨g, cap, cur, rfl, hB, hg, rest⟩
    · exact .inl hn
    · refine .inr ⟨g, cap, cur, rfl, hB, ?_, rest⟩
      rw [hb g (Array.getElem?_eq_some_iff.1 hg).1 (by omega) fun e => h.apart g e rfl]
      exact hg
  · rcases hk k e with e | e
    · exact h.apart k e e2
    · have := (row_ge h.oo k e2).2
      omega
/-- the order grows -/
theorem AR.app {w8 : World} {x : Obj} {k g8 c8 : Nat} (h : AR w wU nb U n left hv hs ov o wr) (hU : U < wU.heap.size) (hown : w8.ownsRow wU.heap.size 3 1 (.slice (some ⟨g8, 0, none⟩) (o.length + 1) c8) (o.length + 1) ((ofN o).map (Value.int .i64) ++ [.int .i64 k])) (hg : (wr.alloc x).grownBy w8 ov.ownBlock) (hat : ov.ownBlock = some g8 ∨ g8 = wr.heap.size + 1) :
    AR w wU nb U n left hv hs (.slice (some ⟨g8, 0, none⟩) (o.length + 1) c8) (o ++ [k]) w8 := by
  have h' := h.call (below_alloc wr x)
  have hsz := h.size
  have hul := h.ule
  have hnb := h.nbl
  have hge := row_ge h.oo
  have hb : ∀ k, k < wr.heap.size + 1 → ov.ownBlock ≠ some k → w8.heap[k]? = (wr.alloc x).heap[k]? := fun k hk e => hg.block k (by rw [size_alloc]; exact hk) fun h => e h.symm
  have hs8 : wr.heap.size + 1 ≤ w8.heap.size := by have := hg.size; rwa [size_alloc] at this
  refine ⟨h'.lb.of_block (hb _ (by omega) fun e => by have := (hge _ e).1; omega), ⟨?_, (hb _ (by omega) fun e => by have := (hge _ e).1; omega).trans h'.hp.2.1, h.hp.2.2⟩, h.heap, h'.us.trans fun b hb' => hb b (by omega) fun e => by have := (hge _ e).1; omega, h.hrow, ?_, fun j e e2 => ?_, h'.below.grown hg h'.below.size fun j e => by have := (hge _ e).1; omega, by omega, h.nbl, h.ule⟩
  · refine World.ownsRow.kept h'.hp.1 hg ?_
    cases e : hv.ownBlock with
    | none => exact .inl rfl
    | some j => exact .inr fun e2 => h.apart j e e2.symm
  · unfold OwnP
    rw [ofN_app, List.map_append, List.length_append, ofN_len]
    exact hown
  · simp [Value.ownBlock] at e2
    subst e2
    rcases hat with q | q
    · exact h.apart g8 e q
    · have := (row_ge h.hp.1 g8 e).2; omega
end
def lenV : Value → Nat
  | .slice _ n _ => n
  | _ => 0
theorem inp_len (ins : List (List Int)) (i : Nat) : (inp ins i).length ≤ ins.length := len_le (inp_nodup ins i) fun k hk => ((inp_mem ins i k).1 hk).1
theorem lf_le (ins : List (List Int)) (out : List Nat) (i : Nat) : lf ins out i ≤ ins.length := Nat.le_trans (List.length_filter_le _ _) (inp_len ins i)
theorem users_nodup (ins : List (List Int)) (r : Nat) : (users ins r).Nodup := List.Nodup.sublist List.filter_sublist List.nodup_range
theorem users_mem (ins : List (List Int)) (r i : Nat) : i ∈ users ins r ↔ i < ins.length ∧ r ∈ inp ins i := by simp [users]
/-- a number of the heap is a node -/
theorem heap_node {hs : List Int} {h : List Nat} (hp : hs.Perm (ofN h)) {x : Int} (hx : x ∈ hs) : ∃ k : Nat, x = k ∧ k ∈ h := by
  have := hp.mem_iff.1 hx
  unfold ofN at this
  obtain ⟨k, hk, rfl⟩ := List.mem_map.1 this
  exact ⟨k, rfl, hk⟩
theorem ofN_perm {a b : List Nat} (h : (ofN a).Perm (ofN b)) : a.Perm b := by
  have := h.map Int.toNat
  unfold ofN at this
  simpa [List.map_map, Function.comp_def] using this
theorem ofN_of {hs : List Int} {h : List Nat} (hp : hs.Perm (ofN h)) : ∃ l : List Nat, hs = ofN l ∧ l.Perm h := by
  refine ⟨hs.map Int.toNat, ?_, ?_⟩
  · unfold ofN
    rw [List.map_map]
    have : hs.map (fun x => x) = hs.map ((fun k : Nat => (k : Int)) ∘ Int.toNat) := List.map_congr_left fun x hx => by
      obtain ⟨k, rfl, _⟩ := heap_node hp hx
      rfl
    rw [← this, List.map_id']
  · have := hp.map Int.toNat
    unfold ofN at this
    simpa [List.map_map, Function.comp_def] using this
end Go.Proofs.YtfjeohnigikmoaaDoor
