/- Layer 17: lists of lists in memory; rows of rows of ints that grow; what slices.Sort, Compact and Contains leave. -/
import Derived.Test.YtmhfabekmgcjnaaDoorRp
import Derived.Test.YtmhfabekmgcjnaaDoorWb
import Derived.Test.YtmhfabekmgcjnaaDoorShelfSl
import Derived.Sort.OwnSorted
namespace Go.Proofs.YtmhfabekmgcjnaaDoor
open Go.RowKit Go.Bx Go.Od Go.Hp Go.Sort
set_option linter.unusedVariables false

/-! ### lists of lists -/
/-- a list of lists of ints lies below B -/
def LL (B : Nat) (W : World) (lv : Value) (L : List (List Int)) : Prop := SlOf (RSl RInt 1) 1 (· < B) W lv L
theorem LL.below {B : Nat} {W W' : World} {lv : Value} {L : List (List Int)} (h : LL B W lv L) (hb : Below B W W') : LL B W' lv L := SlOf.same (RSl.ok RInt.ok) (Same.of_below hb fun b hb => hb) h
theorem LL.up {B C : Nat} {W : World} {lv : Value} {L : List (List Int)} (h : LL B W lv L) (hC : B ≤ C) : LL C W lv L := SlOf.mono (RSl.ok RInt.ok) (fun b hb => by have : b < B := hb; show b < C; omega) h
theorem LL.isSl {B : Nat} {W : World} {lv : Value} {L : List (List Int)} (h : LL B W lv L) : ∃ a c, lv = .slice a L.length c ∧ L.length ≤ maxLen := by
  obtain ⟨a, c, h1, h2, h3, _⟩ := h
  exact ⟨a, c, h1, Nat.le_trans h2 h3⟩
/-- the i-th -/
theorem LL.at {B : Nat} {W : World} {lv : Value} {L : List (List Int)} (h : LL B W lv L) {i : Nat} (hi : i < L.length) : ∃ b o c x y, lv = .slice (some ⟨b, o, none⟩) L.length c ∧ b < B ∧ W.cell? ⟨b, o + i, none⟩ = some (.slice x (L.getD i []).length y) ∧ SlOf RInt 1 (· < B) W (.slice x (L.getD i []).length y) (L.getD i []) := by
  obtain ⟨a, c, h1, h2, h3, h4⟩ := h
  rcases h4 with h4 | ⟨b, o, rfl, hF, h4⟩
  · subst h4; simp at hi
  · obtain ⟨cs, hl, hlies, v, rfl, hv⟩ := h4 i _ (List.getElem?_eq_getElem hi)
    have e : L[i] = L.getD i [] := by simp [hi]
    rw [e] at hv
    obtain ⟨x, y, hxy⟩ : ∃ x y, v = .slice x (L.getD i []).length y := by
      obtain ⟨x, y, hv', _⟩ := hv
      exact ⟨x, y, hv'⟩
    subst hxy
    have := hlies 0 _ rfl
    rw [Nat.mul_one, Nat.add_zero] at this
    exact ⟨b, o, c, x, y, h1, hF, this, hv⟩
theorem sl_cellsS {F : Nat → Prop} {w : World} {v : Value} {p : List Int} (h : SlOf RInt 1 F w v p) (h0 : 0 < p.length) : ∃ b o c, v = .slice (some ⟨b, o, none⟩) p.length c ∧ F b ∧ (∀ j, j < p.length → w.cell? ⟨b, o + j, none⟩ = some (.int .i64 (p.getD j 0))) ∧ p.length ≤ c ∧ c ≤ maxLen := by
  obtain ⟨a, cap, rfl, hcap, hcm, hin, hcell⟩ := h.ints
  obtain ⟨b, o, rfl, hF, hc⟩ := hcell 0 h0
  refine ⟨b, o, cap, rfl, hF, fun j hj => ?_, hcap, hcm⟩
  obtain ⟨b', o', e, _, hc'⟩ := hcell j hj
  cases e
  exact hc' j hj
theorem ofN_get (l : List Nat) (k : Nat) : (ofN l).getD k 0 = ((l.getD k 0 : Nat) : Int) := by
  unfold ofN
  by_cases h : k < l.length
  · simp [h]
  · simp only [List.getD_eq_getElem?_getD, List.getElem?_map]
    rw [List.getElem?_eq_none (by omega)]
    simp
theorem own_sl_x {w : World} {B : Nat} {v : Value} {xs : List Int} (h : OwnP w B v xs) (hin : ∀ x ∈ xs, In64 x) : SlOf RInt 1 (· < w.heap.size) w v xs := by
  rcases h.form with ⟨rfl, rfl⟩ | ⟨g, cap, rfl, hB, hlt, hle, hcap, _, _, hc⟩
  · exact sl_nil _ _
  · refine ⟨_, cap, rfl, hle, hcap, .inr ⟨g, 0, rfl, hlt, fun i x hi => ?_⟩⟩
    obtain ⟨hil, hx⟩ := List.getElem?_eq_some_iff.1 hi
    refine ⟨[.int .i64 x], rfl, fun j u hu => ?_, rfl, hin x (List.mem_of_getElem? hi)⟩
    cases j with
    | zero =>
      simp at hu
      subst hu
      simp only [Nat.mul_one, Nat.zero_add, Nat.add_zero]
      rw [hc i hil]
      simp [hi]
    | succ j => simp at hu

/-! ### rows of rows of ints that grow -/
structure GI (B : Nat) (G : List (List Int)) (ov : Value) (vs : List Value) (wr : World) : Prop where
  own : wr.ownsRow B 31 1 ov G.length vs
  inner : ∀ r, r < G.length → OwnP wr B (vs.getD r undef) (G.getD r [])
section
variable {wr w' w8 : World} {B : Nat} {ov lv : Value} {G : List (List Int)} {vs : List Value} {g : List Int}
theorem GI.nil (B : Nat) (wr : World) : GI B [] (.slice none 0 0) [] wr := ⟨World.ownsRow_nil _ _ _ _, fun r hr => by simp at hr⟩
theorem GI.call (h : GI B G ov vs wr) (hb : Below wr.heap.size wr w') : GI B G ov vs w' := ⟨owns_below h.own hb (Nat.le_refl _), fun r hr => (h.inner r hr).below hb⟩
theorem GI.mono {C : Nat} (h : GI B G ov vs wr) (hC : C ≤ B) : GI C G ov vs wr := ⟨row_mono h.own hC, fun r hr => OwnP.mono (h.inner r hr) hC⟩
theorem GI.alloc (h : GI B G ov vs wr) (o : Obj) : GI B G ov vs (wr.alloc o) := h.call (below_alloc wr o)
theorem GI.away {X : Nat} (h : GI B G ov vs wr) {row : Option Nat} (hX : ∀ r, r < G.length → ∀ k, (vs.getD r undef).ownBlock = some k → k < X) (hO : ∀ k, ov.ownBlock = some k → k < X) (hg : wr.grownBy w8 row) (hr : ∀ k, row = some k → X ≤ k) : GI B G ov vs w8 := by
  have kept : ∀ (v : Value) (e : TypeId) (n : Nat) (xs : List Value), wr.ownsRow B e 1 v n xs → (∀ k, v.ownBlock = some k → k < X) → w8.ownsRow B e 1 v n xs := fun v e n xs hv hk => World.ownsRow.kept hv hg (by
    cases e1 : v.ownBlock with
    | none => exact .inl rfl
    | some j => exact .inr fun e2 => by have := hk j e1; have := hr j e2.symm; omega)
  exact ⟨kept _ _ _ _ h.own hO, fun r hr => kept _ _ _ _ (h.inner r hr) (hX r hr)⟩
theorem GI.push {g8 c8 : Nat} {o : Obj} (h : GI B G ov vs wr) (hl : OwnP wr B lv g) (hown : w8.ownsRow B 31 1 (.slice (some ⟨g8, 0, none⟩) (G.length + 1) c8) (G.length + 1) (vs ++ [lv])) (hg : (wr.alloc o).grownBy w8 ov.ownBlock) :
    GI B (G ++ [g]) (.slice (some ⟨g8, 0, none⟩) (G.length + 1) c8) (vs ++ [lv]) w8 := by
  have h' := h.alloc o
  have hvl : vs.length = G.length := by have := h.own.1; omega
  have kept : ∀ (v : Value) (xs : List Int), OwnP (wr.alloc o) B v xs → OwnP w8 B v xs := fun v xs hv => World.ownsRow.kept hv hg (by
    cases e1 : v.ownBlock with
    | none => exact .inl rfl
    | some j => exact .inr fun e2 => rows_apart hv h'.own (by decide) e1 e2.symm)
  refine ⟨by rw [List.length_append]; exact hown, fun r hr => ?_⟩
  rw [List.length_append, List.length_singleton] at hr
  by_cases e : r = G.length
  · subst e
    have e1 : (vs ++ [lv]).getD G.length undef = lv := by rw [← hvl]; simp
    have e2 : (G ++ [g]).getD G.length [] = g := by simp
    rw [e1, e2]
    exact kept _ _ (hl.alloc o)
  · have e1 : (vs ++ [lv]).getD r undef = vs.getD r undef := by
      simp only [List.getD_eq_getElem?_getD]
      rw [List.getElem?_append_left (by omega)]
    have e2 : (G ++ [g]).getD r [] = G.getD r [] := by
      simp only [List.getD_eq_getElem?_getD]
      rw [List.getElem?_append_left (by omega)]
    rw [e1, e2]
    exact kept _ _ (h'.inner r (by omega))
/-- as a list of lists -/
theorem GI.ll (h : GI B G ov vs wr) (hin : ∀ g ∈ G, ∀ x ∈ g, In64 x) : LL wr.heap.size wr ov G := by
  rcases h.own.2 with ⟨rfl, h0⟩ | ⟨g, cap, cur, rfl, hB, hb, hnc, hcm, _⟩
  · exact ⟨none, 0, by rw [h0], by omega, by decide, .inl (List.eq_nil_of_length_eq_zero h0)⟩
  · refine ⟨_, cap, rfl, hnc, hcm, .inr ⟨g, 0, rfl, (Array.getElem?_eq_some_iff.1 hb).1, fun i x hi => ?_⟩⟩
    obtain ⟨hil, hx⟩ := List.getElem?_eq_some_iff.1 hi
    have e : G.getD i [] = x := by simp [hi]
    have h1 := h.inner i hil
    rw [e] at h1
    refine ⟨[vs.getD i undef], rfl, fun j u hu => ?_, _, rfl, own_sl_x h1 (hin x (List.mem_of_getElem? hi))⟩
    cases j with
    | zero =>
      simp at hu
      subst hu
      rw [Nat.zero_add, Nat.mul_one, Nat.add_zero, World.ownsRow.cellAt h.own i (by omega)]
      have := h.own.1
      have hiv : i < vs.length := by omega
      simp [hiv]
    | succ j => simp at hu
end
theorem GU.gi {B : Nat} {G : List (List Nat)} {ov : Value} {vs : List Value} {wr : World} (h : GU B G ov vs wr) : GI B (G.map ofN) ov vs wr := by
  refine ⟨by rw [List.length_map]; exact h.own, fun r hr => ?_⟩
  rw [List.length_map] at hr
  have := h.inner r hr
  have e : (G.map ofN).getD r [] = ofN (G.getD r []) := by simp [hr]
  rw [e]
  exact this
/-- between two rounds -/
def QO (w3 : World) (G : List (List Int)) (ov : Value) (wr : World) : Prop := ∃ vs, GI w3.heap.size G ov vs wr ∧ Below w3.heap.size w3 wr
/-- within a round: a row that was made behind it all -/
def QI (w3 : World) (G : List (List Int)) (ov lv : Value) (l : List Int) (X : Nat) (wr : World) : Prop :=
  ∃ vs, GI w3.heap.size G ov vs wr ∧ Below w3.heap.size w3 wr ∧ OwnP wr X lv l ∧ X ≤ wr.heap.size ∧ w3.heap.size ≤ X ∧ (∀ r, r < G.length → ∀ k, (vs.getD r undef).ownBlock = some k → k < X) ∧ ∀ k, ov.ownBlock = some k → k < X
theorem own_slv {w : World} {B : Nat} {v : Value} {xs : List Int} (h : OwnP w B v xs) : ∃ a c, v = .slice a xs.length c := by
  rcases h.form with ⟨rfl, rfl⟩ | ⟨g, cap, rfl, _⟩
  · exact ⟨none, 0, rfl⟩
  · exact ⟨_, cap, rfl⟩
section
variable {w3 wr w8 : World} {G : List (List Int)} {ov lv : Value} {l : List Int} {X : Nat}
theorem QO.isSl (h : QO w3 G ov wr) : ∃ a c, ov = .slice a G.length c := by
  obtain ⟨vs, h3, _⟩ := h
  exact row_sl h3.own
theorem QO.bel (h : QO w3 G ov wr) : Below w3.heap.size w3 wr := by
  obtain ⟨vs, h1, h2⟩ := h
  exact h2
theorem QO.call (h : QO w3 G ov wr) (hb : Below wr.heap.size wr w8) : QO w3 G ov w8 := by
  obtain ⟨vs, h1, h2⟩ := h
  exact ⟨vs, h1.call hb, h2.trans (hb.mono h2.size)⟩
theorem QI.isSl (h : QI w3 G ov lv l X wr) : ∃ a c, lv = .slice a l.length c := by
  obtain ⟨vs, _, _, h3, _⟩ := h
  exact own_slv h3
theorem QO.start (h : QO w3 G ov wr) : QI w3 G ov (.slice none 0 0) [] wr.heap.size wr := by
  obtain ⟨vs, h1, h2⟩ := h
  exact ⟨vs, h1, h2, own_nil _ _, Nat.le_refl _, h2.size, (fun r hr k hk => (row_ge (h1.inner r hr) k hk).2), fun k hk => (World.ownsRow.lt h1.own k hk).2⟩
theorem QI.call (h : QI w3 G ov lv l X wr) (hb : Below wr.heap.size wr w8) : QI w3 G ov lv l X w8 := by
  obtain ⟨vs, h1, h2, h3, h4, h5⟩ := h
  exact ⟨vs, h1.call hb, h2.trans (hb.mono h2.size), h3.below hb, Nat.le_trans h4 hb.size, h5⟩
theorem QI.own (h : QI w3 G ov lv l X wr) : OwnP wr X lv l ∧ X ≤ wr.heap.size := by
  obtain ⟨vs, h1, h2, h3, h4, h5⟩ := h
  exact ⟨h3, h4⟩
theorem QI.bel (h : QI w3 G ov lv l X wr) : Below w3.heap.size w3 wr := by
  obtain ⟨vs, h1, h2, h3, h4, h5⟩ := h
  exact h2
/-- the row in hand turns -/
theorem QI.turn {lv' : Value} {l' : List Int} (h : QI w3 G ov lv l X wr) (hown : OwnP w8 X lv' l') (hg : wr.grownBy w8 lv.ownBlock) : QI w3 G ov lv' l' X w8 := by
  obtain ⟨vs, h1, h2, h3, h4, h5, h6, h7⟩ := h
  have hge := row_ge h3
  exact ⟨vs, h1.away h6 h7 hg fun k hk => (hge k hk).1, h2.grown hg h2.size fun k hk => Nat.le_trans h5 (hge k hk).1, hown, Nat.le_trans h4 hg.size, h5, h6, h7⟩
theorem QI.app {k : Int} {g8 c8 : Nat} {o : Obj} (h : QI w3 G ov lv l X wr) (hown : w8.ownsRow X 3 1 (.slice (some ⟨g8, 0, none⟩) (l.length + 1) c8) (l.length + 1) (l.map (Value.int .i64) ++ [.int .i64 k])) (hg : (wr.alloc o).grownBy w8 lv.ownBlock) :
    QI w3 G ov (.slice (some ⟨g8, 0, none⟩) (l.length + 1) c8) (l ++ [k]) X w8 := by
  refine h.turn ?_ ((World.grownBy_alloc _ _ _).trans hg)
  unfold OwnP
  rw [List.map_append, List.length_append]
  exact hown
theorem QI.row (h : QI w3 G ov lv l X wr) : ∃ vs, wr.ownsRow w3.heap.size 31 1 ov G.length vs ∧ w3.heap.size ≤ wr.heap.size ∧ ∀ (o : Obj) (w8 : World) (g8 c8 : Nat), (wr.alloc o).grownBy w8 ov.ownBlock →
    w8.ownsRow w3.heap.size 31 1 (.slice (some ⟨g8, 0, none⟩) (G.length + 1) c8) (G.length + 1) (vs ++ [lv]) → QO w3 (G ++ [l]) (.slice (some ⟨g8, 0, none⟩) (G.length + 1) c8) w8 := by
  obtain ⟨vs, h1, h2, h3, h4, h5, h6, h7⟩ := h
  exact ⟨vs, h1.own, h2.size, fun o w8 g8 c8 hg hown => ⟨_, h1.push (OwnP.mono h3 h5) hown hg, h2.grown ((World.grownBy_alloc _ _ _).trans hg) h2.size fun k hk => (World.ownsRow.lt h1.own k hk).1⟩⟩
end

/-! ### the library -/
def srt (xs : List Int) : List Int := xs.mergeSort fun x y => decide (x ≤ y)
theorem srt_len (xs : List Int) : (srt xs).length = xs.length := by simp [srt]
/-- a row of one's own whose cells are written anew -/
theorem own_put {w : World} {B g cap n : Nat} {os : Array Obj} {xs ts : List Int} (h : OwnP w B (.slice (some ⟨g, 0, none⟩) xs.length cap) xs) (hl : ts.length = xs.length) :
    Holds (Value.int .i64) w g 0 xs.toArray ∧ g < w.heap.size ∧ xs.length ≤ cap ∧ OwnP (grow (putRow (Value.int .i64) (Sort.ahead w n) g 0 ts.toArray) os) B (.slice (some ⟨g, 0, none⟩) ts.length cap) ts ∧ w.grownBy (grow (putRow (Value.int .i64) (Sort.ahead w n) g 0 ts.toArray) os) (some g) := by
  have hc : ∀ j, j < xs.length → w.cell? ⟨g, j, none⟩ = some (.int .i64 (xs.getD j 0)) ∧ w.frozen? ⟨g, j, none⟩ = false := by
    rcases h.form with ⟨h', _⟩ | ⟨g', cap', h1, _, _, _, _, _, hf, hc⟩
    · cases h'
    · simp only [Value.slice.injEq, Option.some.injEq, Addr.mk.injEq, and_true] at h1
      obtain ⟨rfl, _, _⟩ := h1
      exact fun j hj => ⟨hc j hj, hf j⟩
  rcases h.2 with ⟨h', _⟩ | ⟨g', cap', cur, h1, hB, hb, hle, hcm, hsz, htk⟩
  · cases h'
  · simp only [Value.slice.injEq, Option.some.injEq, Addr.mk.injEq, and_true, true_and] at h1
    obtain ⟨rfl, rfl⟩ := h1
    have hg := (Array.getElem?_eq_some_iff.1 hb).1
    have hheap : (grow (putRow (Value.int .i64) (Sort.ahead w n) g 0 ts.toArray) os).heap[g]? = some (.cells (putCells (Value.int .i64) 0 ts.toArray cur) 3 (0, 0)) := by
      rw [heap_grow_old _ _ (by simpa using hg)]
      simp [putRow, mapBlock, Sort.ahead, Array.getElem?_modify, hb, onCells]
    refine ⟨fun j hj => ?_, hg, hle, ⟨by simp, .inr ⟨g, cap, _, rfl, hB, hheap, by omega, hcm, by simp [putCells, hsz], ?_⟩⟩, rfl, rfl, rfl, by simp, fun k hk hne => ?_⟩
    · have hj' : j < xs.length := by simpa using hj
      have := hc j hj'
      rw [Nat.zero_add]
      refine ⟨this.1.trans ?_, this.2⟩
      simp [hj']
    · rw [Nat.mul_one]
      apply List.ext_getElem?
      intro j
      by_cases hj : j < ts.length
      · rw [List.getElem?_take_of_lt hj, Array.getElem?_toList]
        simp [putCells, hj, show j < cur.size by omega]
      · rw [List.getElem?_take_eq_none (by omega), List.getElem?_eq_none (by simp; omega)]
    · rw [heap_grow_old _ _ (by simpa using hk)]
      have : g ≠ k := fun e => hne (by rw [e])
      simp [putRow, mapBlock, Sort.ahead, Array.getElem?_modify, this]
theorem sort_c {w : World} {B : Nat} {lv : Value} {xs : List Int} (h : OwnP w B lv xs) (hl : xs.length ≤ 1000000) :
    Calls Tryd.prog 21 #[lv] w fun e w' => e = .returned (.tuple #[]) ∧ OwnP w' B lv (srt xs) ∧ w.grownBy w' lv.ownBlock := by
  rcases h.form with ⟨rfl, rfl⟩ | ⟨g, cap, rfl, _⟩
  · refine (Tryd.slices_Sort_int_none none 0 w).mono ?_
    rintro e w' ⟨rfl, rfl⟩
    have e : srt [] = [] := by simp [srt]
    rw [e]
    exact ⟨rfl, h, World.grownBy.refl _ _⟩
  · have hp := fun n os => own_put (n := n) (os := os) h (srt_len xs)
    refine (Tryd.slices_Sort_int g 0 cap xs w (hp 0 #[]).1 (hp 0 #[]).2.1 (by omega)).mono ?_
    rintro e w' ⟨rfl, n, os, rfl⟩
    have := hp n os
    rw [srt_len] at this
    exact ⟨rfl, this.2.2.2.1, this.2.2.2.2⟩
def cpt (xs : List Int) : List Int := Lib.compact xs
theorem cpt_le (xs : List Int) : (cpt xs).length ≤ xs.length := by
  unfold cpt Lib.compact Lib.compactUpTo
  rw [List.length_map]
  refine Nat.le_trans (List.length_filter_le _ _) ?_
  simp
theorem compact_c {w : World} {B : Nat} {lv : Value} {xs : List Int} (h : OwnP w B lv xs) (hl : xs.length ≤ 1000000) :
    Calls Tryd.prog 22 #[lv] w fun e w' => ∃ lv', e = .returned lv' ∧ OwnP w' B lv' (cpt xs) ∧ w.grownBy w' lv.ownBlock := by
  rcases h.form with ⟨rfl, rfl⟩ | ⟨g, cap, rfl, _⟩
  · refine (Tryd.slices_Compact_int_empty none 0 w).mono ?_
    rintro e w' ⟨rfl, rfl⟩
    exact ⟨_, rfl, h, World.grownBy.refl _ _⟩
  · have hcl := cpt_le xs
    have hlen : (cpt xs ++ List.replicate (xs.length - (cpt xs).length) 0).length = xs.length := by simp; omega
    have hp := fun n => own_put (n := n) (os := #[]) h hlen
    refine (Tryd.slices_Compact_int g 0 cap xs w (hp 0).1 (by omega) (hp 0).2.2.1).mono ?_
    rintro e w' ⟨rfl, q, rfl⟩
    have h1 := hp q
    have hg : ∀ W : World, grow W #[] = W := fun W => by simp [grow]
    rw [hg, hlen] at h1
    have h2 := OwnP.less (n := (cpt xs).length) hlen (by omega) h1.2.2.2.1
    rw [List.take_left'] at h2
    · exact ⟨_, rfl, h2, h1.2.2.2.2⟩
    · rfl
theorem contains_c {F : Nat → Prop} {w : World} {v : Value} {xs : List Int} (h : SlOf RInt 1 F w v xs) (x : Int) :
    Calls Tryd.prog 20 #[v, .int .i64 x] w fun e w' => e = .returned (.bool (xs.contains x)) ∧ w' = w := by
  by_cases h0 : 0 < xs.length
  · obtain ⟨b, o, c, rfl, _, hc, h1, h2⟩ := sl_cellsS h h0
    have := Tryd.slices_Contains_int b o xs.length c xs x w (Nat.le_refl _) (by unfold maxLen at h2; omega) hc
    rw [List.take_length] at this
    exact this
  · have e : xs = [] := List.eq_nil_of_length_eq_zero (by omega)
    obtain ⟨a, c, rfl, _⟩ := h
    subst e
    exact Tryd.slices_Contains_int_empty a c x w
end Go.Proofs.YtmhfabekmgcjnaaDoor
