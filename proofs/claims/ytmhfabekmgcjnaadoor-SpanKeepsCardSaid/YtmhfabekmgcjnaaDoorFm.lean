/- Layer 16: a map of one's own, ints to ints; the library's Backward over ints. -/
import Derived.Test.YtmhfabekmgcjnaaDoorFu
import Derived.RangeFuncBox
import Derived.RangeFuncWrites
import Derived.RangeFuncNested
import Derived.RangeFuncBound
import Derived.RangeFuncCalls
import Derived.RangeFuncLeaves
import Derived.Shelf.Abstract
import Derived.OwnWalkIn
import Derived.TacticsInMore
import Derived.LoopNIn
import Derived.LoopIn
import Derived.Maps.OwnSet
namespace Go.Proofs.YtmhfabekmgcjnaaDoor
open Go.RowKit Go.Bx Go.Od Go.Hp Go.Shelf
set_option linter.unusedVariables false

/-! ### the map -/
theorem zeroI (w : World) : (zeroValue 3).run Tryd.prog w = .ok (.int .i64 0) w := by kernel_rfl
theorem plainElem_int_inv' {H : Type} {P : Program} {e : TypeId} (he : P.underlying e = some (.int .i64)) {v : Value} {z : DataW H × List MemPlace} (h : plainElem P e v = some z) : ∃ x, v = .int .i64 x ∧ z = (.lit (.int .i64 x), []) := by
  unfold plainElem at h
  rw [he] at h
  cases v with
  | int q x =>
    cases q <;> simp at h
    obtain ⟨_, rfl⟩ := h
    exact ⟨_, rfl, rfl⟩
  | _ => simp at h
theorem wfN {k : Nat} (h : k < 9223372036854775807) : (Lit.int .i64 k).wf = true := wfNat h
def MapI (w : World) (b n c : Nat) (m : Nat → Option Nat) : Prop :=
  ∃ (D : DataW Unit) (c' : Nat), c' ≤ c ∧ w.ownsMap Tryd.prog 3 (plainElem Tryd.prog 3) b c' D ∧ Go.Maps.IsMap D ∧ n ≤ 1000000 ∧ (∀ k v, m k = some v → v < n) ∧
    ∀ k : Nat, k < n → D.atKey (.int .i64 k) (.lit (.int .i64 0)) = .lit (.int .i64 ((m k).getD 0 : Nat)) ∧ Go.Maps.has D (.int .i64 k) = (m k).isSome
variable {w w' : World} {b n c : Nat} {m : Nat → Option Nat}
theorem MapI.kept {row : Option Nat} (h : MapI w b n c m) (hg : w.grownBy w' row) (hne : some b ≠ row) : MapI w' b n c m := by
  obtain ⟨D, c', h0, h1, h2, h3, h4⟩ := h
  exact ⟨D, c', h0, h1.kept hg hne, h2, h3, h4⟩
theorem MapI.alloc (h : MapI w b n c m) (o : Obj) : MapI (w.alloc o) b n c m := h.kept (World.grownBy_alloc w o .none) (by simp)
theorem MapI.lt (h : MapI w b n c m) : b < w.heap.size := by
  obtain ⟨D, c', _, h1, _⟩ := h
  exact h1.lt
theorem MapI.mono {c2 : Nat} (h : MapI w b n c m) (hc : c ≤ c2) : MapI w b n c2 m := by
  obtain ⟨D, c', h0, h1⟩ := h
  exact ⟨D, c', Nat.le_trans h0 hc, h1⟩
theorem MapI.congr {m' : Nat → Option Nat} (h : MapI w b n c m) (e : ∀ k, m k = m' k) : MapI w b n c m' := by
  have : m = m' := funext e
  rw [← this]
  exact h
theorem MapI.bound (h : MapI w b n c m) {k v : Nat} (hm : m k = some v) : v < n := by
  obtain ⟨D, c', h0, h1, h2, h3, h4, _⟩ := h
  exact h4 k v hm
theorem MapI.made (w : World) (n : Nat) (hn : n ≤ 1000000) : MapI (w.alloc (.map #[] 0)) w.heap.size n 0 (fun _ => none) :=
  ⟨.map [], 0, Nat.le_refl _, World.ownsMap_made w _ _ _, Go.Maps.isMap_empty, hn, (fun _ _ h => by cases h), fun k _ => ⟨by simp [DataW.atKey], by simp [Go.Maps.has]⟩⟩
/-! ### slices.Backward -/
/-- all below bm lies as it lay, and block Bs -/
def KpB (bm Bs : Nat) (W W' : World) : Prop := Below bm W W' ∧ W'.heap[Bs]? = W.heap[Bs]?
theorem KpB.refl (bm Bs : Nat) (W : World) : KpB bm Bs W W := ⟨Below.refl _ _, rfl⟩
theorem KpB.trans {bm Bs : Nat} {A B C : World} (h : KpB bm Bs A B) (k : KpB bm Bs B C) : KpB bm Bs A C := ⟨h.1.trans k.1, k.2.trans h.2⟩
theorem heap_at {W W' : World} {b : Nat} (h : W'.heap[b]? = W.heap[b]?) {o : Nat} {v : Value} (hv : W.cell? ⟨b, o, none⟩ = some v) : W'.cell? ⟨b, o, none⟩ = some v := by
  simpa [World.cell?, h] using hv
abbrev BkE (n : Nat) := Nat × { k : Nat // k < n }
def bkUp {n : Nat} (f : Nat → BkE n) (k : Nat) : List (BkE n) := (List.range k).map f
theorem bkUp_succ {n : Nat} (f : Nat → BkE n) (k : Nat) : bkUp f (k + 1) = bkUp f k ++ [f k] := by simp [bkUp, List.range_succ]
theorem bkUp_len {n : Nat} (f : Nat → BkE n) (k : Nat) : (bkUp f k).length = k := by simp [bkUp]
section
attribute [local go_sem] Oper.semAt_some
end
end Go.Proofs.YtmhfabekmgcjnaaDoor
