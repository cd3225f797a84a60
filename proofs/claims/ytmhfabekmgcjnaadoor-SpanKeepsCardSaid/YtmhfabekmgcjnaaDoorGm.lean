/- Layer 16: a map of one's own, ints to rows of ints; rows of rows that grow. -/
import Derived.Test.YtmhfabekmgcjnaaDoorFm
import Derived.Maps.OwnRows
import Derived.Maps.GroupsBeside
namespace Go.Proofs.YtmhfabekmgcjnaaDoor
open Go.RowKit Go.Bx Go.Od Go.Hp Go.Shelf Go.ChangeMaps Go.ChangeShapes
set_option linter.unusedVariables false

theorem zeroSI (w : World) : (zeroValue 31).run Tryd.prog w = .ok (.slice none 0 0) w := by kernel_rfl
/-- two rows of elements of two types lie in two blocks -/
theorem rows_apart {w : World} {B1 B2 s1 s2 n1 n2 k : Nat} {e1 e2 : TypeId} {v1 v2 : Value} {x1 x2 : List Value} (h1 : w.ownsRow B1 e1 s1 v1 n1 x1) (h2 : w.ownsRow B2 e2 s2 v2 n2 x2) (he : e1 ≠ e2) (hk : v1.ownBlock = some k) : v2.ownBlock ≠ some k := by
  intro hk2
  rcases h1.2 with ⟨rfl, _⟩ | ⟨g1, c1, cur1, rfl, _, b1, _⟩
  · cases hk
  · rcases h2.2 with ⟨rfl, _⟩ | ⟨g2, c2, cur2, rfl, _, b2, _⟩
    · cases hk2
    · simp [Value.ownBlock] at hk hk2
      subst hk hk2
      rw [b1] at b2
      simp at b2
      exact he b2.2
theorem row_sl {w : World} {B n : Nat} {e : TypeId} {v : Value} {xs : List Value} (h : w.ownsRow B e 1 v n xs) : ∃ a c, v = .slice a n c := by
  rcases h.2 with ⟨rfl, rfl⟩ | ⟨g, c, _, rfl, _⟩
  · exact ⟨none, 0, rfl⟩
  · exact ⟨_, c, rfl⟩
theorem row_mono {w : World} {B C n : Nat} {e : TypeId} {v : Value} {xs : List Value} (h : w.ownsRow B e 1 v n xs) (hC : C ≤ B) : w.ownsRow C e 1 v n xs :=
  ⟨h.1, h.2.imp id fun ⟨g, cap, cur, hv, hB', rest⟩ => ⟨g, cap, cur, hv, Nat.le_trans hC hB', rest⟩⟩

/-! ### the map -/
def MapG (w : World) (b base n c : Nat) (m : Nat → List Nat) : Prop :=
  ∃ (D : DataW Unit) (c' : Nat), c' ≤ c ∧ w.ownsGroups Tryd.prog 3 base 3 .i64 b c' D ∧ Go.Maps.IsMap D ∧ n ≤ 1000000 ∧ (∀ k, ∀ x ∈ m k, x < 1000000) ∧
    ∀ k : Nat, k < n → (D.atKey (.int .i64 k) .nil = .nil ∧ m k = []) ∨ D.atKey (.int .i64 k) .nil = .slice (lits .i64 (ofN (m k))) []
variable {w w' : World} {b base n c : Nat} {m : Nat → List Nat}
theorem lits_inj {xs ys : List Int} (h : (lits (H := Unit) .i64 xs) = lits .i64 ys) : xs = ys :=
  (List.map_inj_right (fun a b hab => by cases hab; rfl)).1 h
theorem MapG.made (w : World) (n : Nat) (hn : n ≤ 1000000) : MapG (w.alloc (.map #[] 0)) w.heap.size (w.heap.size + 1) n 0 (fun _ => []) :=
  ⟨.map [], 0, Nat.le_refl _, World.ownsGroups_made _ _ _ _ _, Go.Maps.isMap_empty, hn, (fun _ _ h => by cases h), fun k _ => .inl ⟨by simp [DataW.atKey], rfl⟩⟩
theorem MapG.mono {c2 : Nat} (h : MapG w b base n c m) (hc : c ≤ c2) : MapG w b base n c2 m := by
  obtain ⟨D, c', h0, h1⟩ := h
  exact ⟨D, c', Nat.le_trans h0 hc, h1⟩
theorem MapG.congr {m' : Nat → List Nat} (h : MapG w b base n c m) (e : ∀ k, m k = m' k) : MapG w b base n c m' := by
  have : m = m' := funext e
  rw [← this]
  exact h
theorem MapG.below (h : MapG w b base n c m) : b < base := by
  obtain ⟨D, c', _, ⟨_, _, _, _, _, _, h, _⟩, _⟩ := h
  exact h
theorem MapG.lt (h : MapG w b base n c m) : b < w.heap.size := by
  obtain ⟨D, c', _, ⟨_, _, h, _⟩, _⟩ := h
  exact (Array.getElem?_eq_some_iff.1 h).1
theorem MapG.kept {row : Option Nat} (h : MapG w b base n c m) (hg : w.grownBy w' row) (hb : some b ≠ row) (hrow : ∀ (v : Value) (zs : List Int), w.ownsInts base 3 .i64 v zs → v.ownBlock = none ∨ v.ownBlock ≠ row) : MapG w' b base n c m := by
  obtain ⟨D, c', h0, h1, h2⟩ := h
  refine ⟨D, c', h0, h1.kept hg hb fun es clock hbk x hx => ?_, h2⟩
  obtain ⟨es', clock', hb', F, _⟩ := h1
  obtain ⟨rfl, rfl⟩ : es' = es ∧ clock' = clock := by rw [hb'] at hbk; simpa using hbk
  obtain ⟨y, hy⟩ := F.reads x hx
  obtain ⟨z, hz, _⟩ := WideElems.rd_val hy
  obtain ⟨zs, hoi, _⟩ := rowElem_inv hz
  exact hrow _ _ hoi
theorem MapG.alloc (h : MapG w b base n c m) (o : Obj) : MapG (w.alloc o) b base n c m := h.kept (World.grownBy_alloc w o .none) (by simp) fun v _ _ => by
  cases v.ownBlock with
  | none => exact .inl rfl
  | some j => exact .inr (by simp)
/-- beside a row of another type that grows -/
theorem MapG.beside {B2 s2 n2 : Nat} {e2 : TypeId} {v2 : Value} {x2 : List Value} (h : MapG w b base n c m) (ho : w.ownsRow B2 e2 s2 v2 n2 x2) (he : 3 ≠ e2) (hg : w.grownBy w' v2.ownBlock) (hb : ∀ k, v2.ownBlock = some k → base ≤ k) : MapG w' b base n c m :=
  h.kept hg (fun e => by have := hb _ e.symm; have := h.below; omega) fun v zs hv => by
    cases e1 : v.ownBlock with
    | none => exact .inl rfl
    | some j => exact .inr fun e2 => rows_apart hv.1 ho he e1 e2.symm
/-! ### rows of rows -/
structure GU (B : Nat) (G : List (List Nat)) (ov : Value) (vs : List Value) (wr : World) : Prop where
  own : wr.ownsRow B 31 1 ov G.length vs
  inner : ∀ r, r < G.length → OwnP wr B (vs.getD r undef) (ofN (G.getD r []))
section
variable {wr w8 : World} {B : Nat} {ov lv : Value} {G : List (List Nat)} {vs : List Value} {g : List Nat}
theorem GU.nil (B : Nat) (wr : World) : GU B [] (.slice none 0 0) [] wr := ⟨World.ownsRow_nil _ _ _ _, fun r hr => by simp at hr⟩
theorem GU.call (h : GU B G ov vs wr) (hb : Below wr.heap.size wr w') : GU B G ov vs w' := ⟨owns_below h.own hb (Nat.le_refl _), fun r hr => (h.inner r hr).below hb⟩
theorem GU.mono {C : Nat} (h : GU B G ov vs wr) (hC : C ≤ B) : GU C G ov vs wr := ⟨row_mono h.own hC, fun r hr => OwnP.mono (h.inner r hr) hC⟩
theorem GU.alloc (h : GU B G ov vs wr) (o : Obj) : GU B G ov vs (wr.alloc o) := h.call (below_alloc wr o)
/-- while a row that was made behind it all grows -/
theorem GU.away {X : Nat} (h : GU B G ov vs wr) {row : Option Nat} (hX : ∀ r, r < G.length → ∀ k, (vs.getD r undef).ownBlock = some k → k < X) (hO : ∀ k, ov.ownBlock = some k → k < X) (hg : wr.grownBy w8 row) (hr : ∀ k, row = some k → X ≤ k) : GU B G ov vs w8 := by
  have kept : ∀ (v : Value) (e : TypeId) (n : Nat) (xs : List Value), wr.ownsRow B e 1 v n xs → (∀ k, v.ownBlock = some k → k < X) → w8.ownsRow B e 1 v n xs := fun v e n xs hv hk => World.ownsRow.kept hv hg (by
    cases e1 : v.ownBlock with
    | none => exact .inl rfl
    | some j => exact .inr fun e2 => by have := hk j e1; have := hr j e2.symm; omega)
  exact ⟨kept _ _ _ _ h.own hO, fun r hr => kept _ _ _ _ (h.inner r hr) (hX r hr)⟩
/-- the outer row grows by a row -/
theorem GU.push {g8 c8 : Nat} {o : Obj} (h : GU B G ov vs wr) (hl : OwnP wr B lv (ofN g)) (hown : w8.ownsRow B 31 1 (.slice (some ⟨g8, 0, none⟩) (G.length + 1) c8) (G.length + 1) (vs ++ [lv])) (hg : (wr.alloc o).grownBy w8 ov.ownBlock) :
    GU B (G ++ [g]) (.slice (some ⟨g8, 0, none⟩) (G.length + 1) c8) (vs ++ [lv]) w8 := by
  have h' := h.alloc o
  have hvl : vs.length = G.length := by have := h.own.1; omega
  have kept : ∀ (v : Value) (xs : List Int), OwnP (wr.alloc o) B v xs → OwnP w8 B v xs := fun v xs hv => World.ownsRow.kept hv hg (by
    cases e1 : v.ownBlock with
    | none => exact .inl rfl
    | some j => exact .inr fun e2 => rows_apart hv h'.own (by decide) e1 e2.symm)
  refine ⟨by rw [List.length_append]; exact hown, fun r hr => ?_⟩
  rw [List.length_append, List.length_singleton] at hr
  by_cases e : r = G.length
  · subst e
    have e1 : (vs ++ [lv]).getD G.length undef = lv := by rw [← hvl]; simp
    have e2 : (G ++ [g]).getD G.length [] = g := by simp
    rw [e1, e2]
    exact kept _ _ (hl.alloc o)
  · have e1 : (vs ++ [lv]).getD r undef = vs.getD r undef := by
      simp only [List.getD_eq_getElem?_getD]
      rw [List.getElem?_append_left (by omega)]
    have e2 : (G ++ [g]).getD r [] = G.getD r [] := by
      simp only [List.getD_eq_getElem?_getD]
      rw [List.getElem?_append_left (by omega)]
    rw [e1, e2]
    exact kept _ _ (h'.inner r (by omega))
end
/-- what Groups leaves -/
def GsPost (w : World) (G : List (List Nat)) (e : Ending) (w' : World) : Prop := ∃ a c vs, e = .returned (.slice a G.length c) ∧ GU w.heap.size G (.slice a G.length c) vs w' ∧ Below w.heap.size w w'
end Go.Proofs.YtmhfabekmgcjnaaDoor
