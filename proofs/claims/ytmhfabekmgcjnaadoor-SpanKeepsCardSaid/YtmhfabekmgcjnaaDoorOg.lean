/- Layer 11: graphs in memory; a map of one's own from ints to truths. -/
import Derived.Test.YtmhfabekmgcjnaaDoorHv
import Derived.Test.YtmhfabekmgcjnaaDoorOrL
import Derived.Maps.OwnOps
import Derived.Maps.Views
namespace Go.Proofs.YtmhfabekmgcjnaaDoor
open Go.RowKit Go.Bx Go.Od
attribute [local go_sem ↓] Go.wp_at_zero Go.wp_at_succ
set_option linter.unusedVariables false

/-- a node: what it does, its inputs, its parameters -/
structure Nd where
  op : Int
  ins : List Int
  p : List Int
def Nd.none : Nd := ⟨0, [], []⟩
def RNode : Rep Nd := fun F w cs x => ∃ a b, cs = [.int .i64 x.op, a, b] ∧ In64 x.op ∧ SlOf RInt 1 F w a x.ins ∧ SlOf RInt 1 F w b x.p
theorem RNode.ok : RNode.Ok :=
  ⟨fun _ _ _ _ _ hs ⟨a, b, h1, h2, h3, h4⟩ => ⟨a, b, h1, h2, h3.same RInt.ok hs, h4.same RInt.ok hs⟩, fun _ _ _ _ _ hg ⟨a, b, h1, h2, h3, h4⟩ => ⟨a, b, h1, h2, h3.mono RInt.ok hg, h4.mono RInt.ok hg⟩⟩
/-- the nodes of a graph, in blocks below B -/
def Gr (B : Nat) (w : World) (v : Value) (nds : List Nd) : Prop := SlOf RNode 3 (· < B) w v nds
def insOf (nds : List Nd) : List (List Int) := nds.map Nd.ins
theorem insOf_len (nds : List Nd) : (insOf nds).length = nds.length := by simp [insOf]
theorem insOf_get (nds : List Nd) (i : Nat) : (insOf nds).getD i [] = (nds.getD i Nd.none).ins := by
  unfold insOf
  simp only [List.getD_eq_getElem?_getD, List.getElem?_map]
  cases nds[i]? <;> rfl
theorem Gr.same {B : Nat} {w w' : World} {v : Value} {nds : List Nd} (h : Gr B w v nds) (hs : Same (· < B) w w') : Gr B w' v nds := SlOf.same RNode.ok hs h
theorem Gr.below {B C : Nat} {w w' : World} {v : Value} {nds : List Nd} (h : Gr B w v nds) (hb : Below C w w') (hC : B ≤ C) : Gr B w' v nds := h.same fun b hbl => hb.block b (by have : b < B := hbl; omega)
theorem Gr.mono {B C : Nat} {w : World} {v : Value} {nds : List Nd} (h : Gr B w v nds) (hC : B ≤ C) : Gr C w v nds := SlOf.mono RNode.ok (fun b hb => by have : b < B := hb; show b < C; omega) h
theorem Gr.isSl {B : Nat} {w : World} {v : Value} {nds : List Nd} (h : Gr B w v nds) : ∃ a cap, v = .slice a nds.length cap := by
  obtain ⟨a, cap, hv, _⟩ := h
  exact ⟨a, cap, hv⟩
/-- one node's cells -/
theorem Gr.node {B : Nat} {w : World} {v : Value} {nds : List Nd} (h : Gr B w v nds) {i : Nat} (hi : i < nds.length) : ∃ b o cap ia ic pa pc, v = .slice (some ⟨b, o, .none⟩) nds.length cap ∧ b < B ∧ nds.length ≤ cap ∧ cap ≤ maxLen ∧
    w.cell? ⟨b, o + i * 3, .none⟩ = some (.int .i64 (nds.getD i Nd.none).op) ∧
    w.cell? ⟨b, o + i * 3 + 1, .none⟩ = some (.slice ia (nds.getD i Nd.none).ins.length ic) ∧
    w.cell? ⟨b, o + i * 3 + 2, .none⟩ = some (.slice pa (nds.getD i Nd.none).p.length pc) ∧
    SlOf RInt 1 (· < B) w (.slice ia (nds.getD i Nd.none).ins.length ic) (nds.getD i Nd.none).ins ∧
    SlOf RInt 1 (· < B) w (.slice pa (nds.getD i Nd.none).p.length pc) (nds.getD i Nd.none).p := by
  obtain ⟨a, cap, rfl, h1, h2, h3⟩ := h
  rcases h3 with h3 | ⟨b, o, rfl, hF, h3⟩
  · subst h3; simp at hi
  · obtain ⟨cs, hl, hc, sa, sb, rfl, hin, s1, s2⟩ := h3 i nds[i] (List.getElem?_eq_getElem hi)
    have e : nds.getD i Nd.none = nds[i] := by simp [hi]
    rw [e]
    have k0 := hc 0 _ rfl
    have k1 := hc 1 _ rfl
    have k2 := hc 2 _ rfl
    obtain ⟨ia, ic, rfl, t⟩ := s1
    obtain ⟨pa, pc, rfl, t'⟩ := s2
    exact ⟨b, o, cap, ia, ic, pa, pc, rfl, hF, h1, h2, by simpa using k0, by simpa using k1, by simpa using k2, ⟨ia, ic, rfl, t⟩, ⟨pa, pc, rfl, t'⟩⟩

/-! ### the map -/
/-- block b of w is a map of ints to truths: true just at those in seen (of the numbers below n) -/
def SeenIs (w : World) (b n : Nat) (seen : List Nat) : Prop :=
  ∃ D : DataW Unit, w.ownsMap Tryd.prog 3 (plainElem Tryd.prog 4) b seen.length D ∧ Go.Maps.IsMap D ∧ n ≤ 9223372036854775807 ∧ ∀ k : Nat, k < n → D.atKey (.int .i64 k) (.lit (.bool false)) = .lit (.bool (decide (k ∈ seen)))
theorem SeenIs.kept {w w' : World} {b n : Nat} {seen : List Nat} {row : Option Nat} (h : SeenIs w b n seen) (hg : w.grownBy w' row) (hne : some b ≠ row) : SeenIs w' b n seen := by
  obtain ⟨D, h1, h2, h3, h4⟩ := h
  exact ⟨D, h1.kept hg hne, h2, h3, h4⟩
theorem SeenIs.alloc {w : World} {b n : Nat} {seen : List Nat} (h : SeenIs w b n seen) (o : Obj) : SeenIs (w.alloc o) b n seen := h.kept (World.grownBy_alloc w o .none) (by simp)
theorem SeenIs.drew {w : World} {b n : Nat} {seen : List Nat} (h : SeenIs w b n seen) : SeenIs w.drew b n seen := h
theorem SeenIs.lt {w : World} {b n : Nat} {seen : List Nat} (h : SeenIs w b n seen) : b < w.heap.size := by
  obtain ⟨D, h1, _⟩ := h
  exact h1.lt
theorem SeenIs.made (w : World) (n : Nat) (hn : n ≤ 9223372036854775807) : SeenIs (w.alloc (.map #[] 0)) w.heap.size n [] :=
  ⟨.map [], World.ownsMap_made w _ _ _, Go.Maps.isMap_empty, hn, fun k _ => by simp [DataW.atKey]⟩
theorem keyInt : Maps.Keyed Tryd.prog 3 := Maps.int_keyed Tryd.underlying3
theorem wfNat {k : Nat} (h : k < 9223372036854775807) : (Lit.int .i64 k).wf = true := by
  have e1 : IntKind.i64.min = -9223372036854775808 := by decide
  have e2 : IntKind.i64.max = 9223372036854775807 := by decide
  simp [Lit.wf]
  omega
theorem zeroB (w : World) : (zeroValue 4).run Tryd.prog w = .ok (.bool false) w := by kernel_rfl
theorem plainElem_bool_inv {H : Type} {P : Program} {e : TypeId} (he : P.underlying e = some .bool) {v : Value} {z : DataW H × List MemPlace} (h : plainElem P e v = some z) : ∃ x, v = .bool x ∧ z = (.lit (.bool x), []) := by
  unfold plainElem at h
  rw [he] at h
  cases v <;> simp at h
  subst h
  exact ⟨_, rfl, rfl⟩
/-! ### 'once', one more -/
theorem once_snoc (xs : List Int) (x : Int) (n : Nat) : ∀ seen, once (xs ++ [x]) n seen = if 0 ≤ x ∧ x < n ∧ x.toNat ∉ once xs n seen then once xs n seen ++ [x.toNat] else once xs n seen := by
  induction xs with
  | nil => intro seen; rfl
  | cons y ys ih =>
    intro seen
    rw [List.cons_append]
    unfold once
    by_cases h : 0 ≤ y ∧ y < n ∧ y.toNat ∉ seen
    · rw [if_pos h, if_pos h]; exact ih _
    · rw [if_neg h, if_neg h]; exact ih _
theorem once_len (xs : List Int) (n : Nat) : ∀ seen, (once xs n seen).length ≤ seen.length + xs.length := by
  induction xs with
  | nil => intro seen; simp [once]
  | cons y ys ih =>
    intro seen
    unfold once
    split
    · have := ih (seen ++ [y.toNat]); simp at this ⊢; omega
    · have := ih seen; simp; omega
end Go.Proofs.YtmhfabekmgcjnaaDoor
