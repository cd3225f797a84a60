/- Layer 11: the heap's methods. -/
import Derived.Test.YtmhfabekmgcjnaaDoorRead
import Derived.Test.YtmhfabekmgcjnaaDoorRows
import Derived.Test.YtmhfabekmgcjnaaDoorEachR
import Derived.Test.YtmhfabekmgcjnaaDoorHeapL
import Derived.Deep.RegionWith
import Derived.Deep.DrawnRows
import Derived.Deep.AppendLies
import Derived.Laws.OwnMore
import Derived.OneCell
import Derived.Deep.RegionLaw
namespace Go.Proofs.YtmhfabekmgcjnaaDoor
open Go.RowKit Go.Bx
attribute [local go_sem ↓] Go.wp_at_zero Go.wp_at_succ
set_option linter.unusedVariables false

/-- places in memory: the row is one's own, from B on -/
def OwnP (w : World) (B : Nat) (v : Value) (xs : List Int) : Prop := w.ownsRow B 3 1 v xs.length (xs.map (Value.int .i64))
theorem OwnP.below {w w' : World} {B : Nat} {v : Value} {xs : List Int} (h : OwnP w B v xs) (hb : Below w.heap.size w w') : OwnP w' B v xs := owns_below h hb (Nat.le_refl _)
theorem OwnP.form {w : World} {B : Nat} {v : Value} {gs : List Int} (h : OwnP w B v gs) : (v = .slice none 0 0 ∧ gs = []) ∨ ∃ g cap, v = .slice (some ⟨g, 0, none⟩) gs.length cap ∧ B ≤ g ∧ g < w.heap.size ∧ gs.length ≤ cap ∧ cap ≤ maxLen ∧
    (∃ cur, w.heap[g]? = some (.cells cur 3 (0, 0))) ∧ (∀ j, w.frozen? ⟨g, j, none⟩ = false) ∧ ∀ j, j < gs.length → w.cell? ⟨g, j, none⟩ = some (.int .i64 (gs.getD j 0)) := by
  have h' : w.ownsRow B 3 1 v gs.length (gs.map (Value.int .i64)) := h
  rcases h'.2 with ⟨hv, hn⟩ | ⟨g, cap, cur, hv, hB, hblk, hle, hcap, hsz, htk⟩
  · exact .inl ⟨hv, List.eq_nil_of_length_eq_zero hn⟩
  · subst hv
    refine .inr ⟨g, cap, rfl, hB, (Array.getElem?_eq_some_iff.1 hblk).1, hle, hcap, ⟨cur, hblk⟩, World.ownsRow.frozenAt h', fun j hj => ?_⟩
    rw [World.ownsRow.cellAt h' j (by omega)]
    simp [hj]

/-- what Swap leaves: two cells exchanged -/
def SwPost (w : World) (g : Nat) (i j : Nat) (x y : Int) (e : Ending) (w' : World) : Prop := e = .returned (.tuple #[]) ∧ ∃ n, w' = ((w.setCell ⟨g, i, none⟩ (.int .i64 y)).setCell ⟨g, j, none⟩ (.int .i64 x)).drewN n
theorem infoI : (Tryd.prog.info? 3).map (fun i => (i.zero, i.size, i.bytes)) = some (some (.int .i64 0), 1, 8) := by kernel_rfl
theorem OwnP.alloc {w : World} {B : Nat} {v : Value} {xs : List Int} (h : OwnP w B v xs) (o : Obj) : OwnP (w.alloc o) B v xs := World.ownsRow.alloc h o
theorem OwnP.drew {w : World} {B : Nat} {v : Value} {xs : List Int} (h : OwnP w B v xs) : OwnP w.drew B v xs := h
theorem OwnP.row {w : World} {B n : Nat} {v : Value} {xs : List Int} (hn : xs.length = n) (h : OwnP w B v xs) : w.ownsRow B 3 1 v n (xs.map (Value.int .i64)) := hn ▸ h
/-- all that was there is as it was, but for the heap's box nb and its row -/
structure HFr (nb : Nat) (v : Value) (w w' : World) : Prop where
  os : w'.os = w.os
  tape : w'.tape = w.tape
  output : w'.output = w.output
  size : w.heap.size ≤ w'.heap.size
  block : ∀ k, k < w.heap.size → k ≠ nb → v.ownBlock ≠ some k → w'.heap[k]? = w.heap[k]?
theorem own_set_ne {w : World} {B : Nat} {v : Value} {n : Nat} {xs : List Value} (h : w.ownsRow B 3 1 v n xs) {p : Addr} (hp : v.ownBlock ≠ some p.block) (u : Value) : (w.setCell p u).ownsRow B 3 1 v n xs := by
  refine ⟨h.1, ?_⟩
  rcases h.2 with hn | ⟨g, cap, cur, rfl, hB, hb, rest⟩
  · exact .inl hn
  · refine .inr ⟨g, cap, cur, rfl, hB, ?_, rest⟩
    rw [Below.heap_setCell _ _ _ _ fun e => hp (by rw [← e]; rfl)]
    exact hb
theorem cell_newP (W : World) (x : Value) (t : TypeId) : (W.alloc (.cells #[x] t)).cell? ⟨W.heap.size, 0, none⟩ = some x := (Box.new W [x] t).cell 0 rfl
theorem news_one {W : World} {b : Nat} {x : Value} (h : W.cell? ⟨b, 0, none⟩ = some x) : ∀ j u, [x][j]? = some u → W.cell? ((⟨b, 0, none⟩ : Addr).add j) = some u := by
  intro j u hu
  cases j with
  | zero => simp at hu; subst hu; simpa [Addr.add] using h
  | succ j => simp at hu
theorem ta_int (x : Int) (w : World) : (Instr.typeAssert (.iface 3 (.int .i64 x)) 20 3 false).run Tryd.prog w = .ok (.int .i64 x) w := by kernel_rfl
theorem HFr.trans {nb : Nat} {v v' : Value} {w w' w'' : World} (h : HFr nb v w w') (k : HFr nb v' w' w'') (hv : ∀ k, v'.ownBlock = some k → v.ownBlock = some k ∨ w.heap.size ≤ k) : HFr nb v w w'' :=
  ⟨k.os.trans h.os, k.tape.trans h.tape, k.output.trans h.output, Nat.le_trans h.size k.size, fun b hb hn ho => (k.block b (Nat.lt_of_lt_of_le hb h.size) hn fun e => by
    rcases hv b e with e | e
    · exact ho e
    · omega).trans (h.block b hb hn ho)⟩
section
variable {w W1 w7 : World} {nb B n c g1 c1 : Nat} {v : Value} {xs : List Int} {x : Int}
end
theorem OwnP.stored {w : World} {B g cap n : Nat} {gs : List Int} (hn : gs.length = n) (h : OwnP w B (.slice (some ⟨g, 0, none⟩) n cap) gs) (j : Nat) (x : Int) : OwnP (w.setCell ⟨g, j, none⟩ (.int .i64 x)) B (.slice (some ⟨g, 0, none⟩) n cap) (gs.set j x) := by
  subst hn
  have := (World.ownsRow.stored h j (.int .i64 x)).1
  unfold OwnP
  rw [List.length_set, List.map_set]
  exact this
theorem HFr.sw {W : World} {nb g c n : Nat} (i j : Nat) (x y : Value) (k : Nat) : HFr nb (.slice (some ⟨g, 0, none⟩) n c) W (((W.setCell ⟨g, i, none⟩ x).setCell ⟨g, j, none⟩ y).drewN k) :=
  ⟨rfl, rfl, rfl, by show _ ≤ (World.setCell _ _ _).heap.size; rw [size_set, size_set]; exact Nat.le_refl _, fun b hb hn ho => by
    have hne : b ≠ g := fun e => ho (by rw [e]; rfl)
    show (World.setCell _ _ _).heap[b]? = _
    rw [Below.heap_setCell _ _ _ _ hne, Below.heap_setCell _ _ _ _ hne]⟩
theorem HFr.below {nb : Nat} {v : Value} {w w' : World} (h : Below w.heap.size w w') : HFr nb v w w' := ⟨h.os, h.tape, h.output, h.size, fun k hk _ _ => h.block k hk⟩
end Go.Proofs.YtmhfabekmgcjnaaDoor
