/- Layer 11: order.Uses. -/
import Derived.Test.YtmhfabekmgcjnaaDoorOi
namespace Go.Proofs.YtmhfabekmgcjnaaDoor
open Go.RowKit Go.Bx Go.Od
attribute [local go_sem ↓] Go.wp_at_zero Go.wp_at_succ
set_option linter.unusedVariables false

/-- rows of rows, one's own: the outer row is block U; no inner row lies at av -/
structure US (w : World) (U n : Nat) (av : Option Nat) (f : Nat → List Nat) (vs : List Value) : Prop where
  len : vs.length = n
  box : Box w U vs
  own : ∀ r, r < n → OwnP w (U + 1) (vs.getD r undef) (ofN (f r))
  apart : ∀ r s k, r < n → s < n → r ≠ s → (vs.getD r undef).ownBlock = some k → (vs.getD s undef).ownBlock ≠ some k
  away : ∀ r k, r < n → (vs.getD r undef).ownBlock = some k → av ≠ some k
  avl : ∀ k, av = some k → k < w.heap.size ∧ k ≠ U
theorem own_sl {w : World} {B : Nat} {v : Value} {s : List Nat} (h : OwnP w B v (ofN s)) : ∃ a c, v = .slice a s.length c := by
  rcases h.form with ⟨rfl, h'⟩ | ⟨g, cap, rfl, _⟩
  · have : s.length = 0 := by rw [← ofN_len, h']; rfl
    exact ⟨none, 0, by rw [this]⟩
  · rw [ofN_len]; exact ⟨_, cap, rfl⟩
theorem US.grow {w w' : World} {U n : Nat} {av : Option Nat} {f : Nat → List Nat} {vs : List Value} (h : US w U n av f vs) (hb : Below w.heap.size w w') : US w' U n av f vs :=
  ⟨h.len, h.box.call hb, fun r hr => (h.own r hr).below hb, h.apart, h.away, fun k hk => ⟨Nat.lt_of_lt_of_le (h.avl k hk).1 hb.size, (h.avl k hk).2⟩⟩
theorem below_alloc (w : World) (o : Obj) : Below w.heap.size w (w.alloc o) := (Below.refl _ _).alloc (Nat.le_refl _) o
theorem US.alloc {w : World} {U n : Nat} {av : Option Nat} {f : Nat → List Nat} {vs : List Value} (h : US w U n av f vs) (o : Obj) : US (w.alloc o) U n av f vs := h.grow (below_alloc w o)
theorem US.congr {w : World} {U n : Nat} {av : Option Nat} {f g : Nat → List Nat} {vs : List Value} (h : US w U n av f vs) (e : ∀ r, r < n → f r = g r) : US w U n av g vs :=
  ⟨h.len, h.box, fun r hr => by rw [← e r hr]; exact h.own r hr, h.apart, h.away, h.avl⟩
/-- another row to keep away from: newly made -/
theorem US.avoid {w w' : World} {U n : Nat} {av av' : Option Nat} {f : Nat → List Nat} {vs : List Value} (h : US w U n av f vs) (hb : Below w.heap.size w w') (h1 : ∀ k, av' = some k → w.heap.size ≤ k ∧ k < w'.heap.size) : US w' U n av' f vs :=
  ⟨h.len, h.box.call hb, fun r hr => (h.own r hr).below hb, h.apart, fun r k hr hk e => by
    have a := (World.ownsRow.lt (h.own r hr) k hk).2
    have b := (h1 k e).1
    omega, fun k hk => ⟨(h1 k hk).2, fun e => by have := (h1 k hk).1; have := h.box.lt; omega⟩⟩
theorem getD_setV (vs : List Value) (k r : Nat) (v : Value) (hk : k < vs.length) : (vs.set k v).getD r undef = if r = k then v else vs.getD r undef := by
  by_cases e : r = k
  · subst e; simp [hk]
  · rw [if_neg e]
    simp only [List.getD_eq_getElem?_getD]
    rw [List.getElem?_set_ne (fun h => e h.symm)]
/-- once row k has grown and is stored -/
theorem US.put {w w8 : World} {U n : Nat} {av : Option Nat} {f : Nat → List Nat} {vs : List Value} {k g8 c8 i : Nat} {v : Value} (h : US w U n av f vs) (hk : k < n) (hv : vs.getD k undef = v)
    (hown : w8.ownsRow (U + 1) 3 1 (.slice (some ⟨g8, 0, none⟩) ((f k).length + 1) c8) ((f k).length + 1) ((ofN (f k)).map (Value.int .i64) ++ [.int .i64 i])) (hg : w.grownBy w8 v.ownBlock) (hat : v.ownBlock = some g8 ∨ g8 = w.heap.size) :
    Box w8 U vs ∧ US (w8.setCell ⟨U, k, none⟩ (.slice (some ⟨g8, 0, none⟩) ((f k).length + 1) c8)) U n av (fun r => if r = k then f k ++ [i] else f r) (vs.set k (.slice (some ⟨g8, 0, none⟩) ((f k).length + 1) c8)) := by
  subst hv
  have hkv : k < vs.length := by rw [h.len]; exact hk
  have hU := h.box.lt
  have hgU : U + 1 ≤ g8 := by
    rcases hat with e | e
    · exact (World.ownsRow.lt (h.own k hk) g8 e).1
    · omega
  have hneU : (vs.getD k undef).ownBlock ≠ some U := fun e => by have := (World.ownsRow.lt (h.own k hk) U e).1; omega
  have hbx := h.box.grown' hg hneU
  have hlt8 : g8 < w8.heap.size := (World.ownsRow.lt hown g8 rfl).2
  refine ⟨hbx, by rw [List.length_set]; exact h.len, hbx.self k _, fun r hr => ?_, fun r s j hr hs hne => ?_, fun r j hr => ?_, fun j hj => ⟨?_, (h.avl j hj).2⟩⟩
  · rw [getD_setV _ _ _ _ hkv]
    by_cases e : r = k
    · subst e
      rw [if_pos rfl, if_pos rfl]
      have : OwnP w8 (U + 1) (.slice (some ⟨g8, 0, none⟩) ((f r).length + 1) c8) (ofN (f r ++ [i])) := by
        unfold OwnP
        rw [ofN_app, List.map_append, List.length_append, ofN_len]
        exact hown
      exact ownsRow_setCell_below this (by show U < U + 1; omega) _
    · rw [if_neg e, if_neg e]
      have : OwnP w8 (U + 1) (vs.getD r undef) (ofN (f r)) := World.ownsRow.kept (h.own r hr) hg (by
        cases e' : (vs.getD r undef).ownBlock with
        | none => exact .inl rfl
        | some j => exact .inr (h.apart r k j hr hk e e').symm)
      exact ownsRow_setCell_below this (by show U < U + 1; omega) _
  · rw [getD_setV _ _ _ _ hkv, getD_setV _ _ _ _ hkv]
    by_cases e : r = k
    · subst e
      rw [if_pos rfl, if_neg (fun e => hne e.symm)]
      intro hj e'
      simp [Value.ownBlock] at hj
      subst hj
      rcases hat with q | q
      · exact h.apart r s g8 hr hs hne q e'
      · have := (World.ownsRow.lt (h.own s hs) g8 e').2; omega
    · rw [if_neg e]
      intro hj
      by_cases e2 : s = k
      · subst e2
        rw [if_pos rfl]
        intro e'
        simp [Value.ownBlock] at e'
        subst e'
        rcases hat with q | q
        · exact h.apart r s g8 hr hs hne hj q
        · have := (World.ownsRow.lt (h.own r hr) g8 hj).2; omega
      · rw [if_neg e2]
        exact h.apart r s j hr hs hne hj
  · rw [getD_setV _ _ _ _ hkv]
    by_cases e : r = k
    · subst e
      rw [if_pos rfl]
      intro hj e'
      simp [Value.ownBlock] at hj
      subst hj
      rcases hat with q | q
      · exact h.away r g8 hr q e'
      · have := (h.avl g8 e').1; omega
    · rw [if_neg e]; exact h.away r j hr
  · rw [size_set]
    exact Nat.lt_of_lt_of_le (h.avl j hj).1 hg.size

/-- who uses r, of the first i nodes; of node i's inputs those in l -/
def uAt (ins : List (List Int)) (i : Nat) (l : List Nat) (r : Nat) : List Nat := ((List.range i).filter fun q => decide (r ∈ inp ins q)) ++ if r ∈ l then [i] else []
def users (ins : List (List Int)) (r : Nat) : List Nat := (List.range ins.length).filter fun q => decide (r ∈ inp ins q)
theorem uAt_next (ins : List (List Int)) (i r : Nat) : uAt ins i (inp ins i) r = uAt ins (i + 1) [] r := by
  unfold uAt
  rw [List.range_succ, List.filter_append]
  simp
  by_cases h : r ∈ inp ins i <;> simp [h]
theorem uAt_end (ins : List (List Int)) (r : Nat) : uAt ins ins.length [] r = users ins r := by simp [uAt, users]
theorem uAt_step (ins : List (List Int)) (i k r : Nat) (l : List Nat) (hk : k ∉ l) : (if r = k then uAt ins i l k ++ [i] else uAt ins i l r) = uAt ins i (l ++ [k]) r := by
  unfold uAt
  by_cases e : r = k
  · subst e; simp [hk]
  · rw [if_neg e]; simp [e]
theorem uAt_len (ins : List (List Int)) (i r : Nat) (l : List Nat) : (uAt ins i l r).length ≤ i + 1 := by
  unfold uAt
  rw [List.length_append]
  have := List.length_filter_le (fun q => decide (r ∈ inp ins q)) (List.range i)
  simp at this
  by_cases h : r ∈ l <;> simp [h] <;> omega
/-- a row of n cells, all made: its block -/
theorem box_own {w : World} {B n b : Nat} {e : TypeId} {xs : List Value} (h : w.ownsRow B e 1 (.slice (some ⟨b, 0, none⟩) n n) n xs) : Box w b xs := by
  rcases h.2 with ⟨h, _⟩ | ⟨g, cap, cur, h1, _, hb, _, _, hs, ht⟩
  · cases h
  · cases h1
    refine ⟨e, ?_⟩
    rw [hb]
    have : cur.toList = xs := by rw [← ht, List.take_of_length_le (by simp; omega)]
    subst this
    simp
theorem own_nil (w : World) (B : Nat) : OwnP w B (.slice none 0 0) [] := World.ownsRow_nil _ _ _ _
theorem US.made {w : World} {U n : Nat} (hb : Box w U (List.replicate n (.slice none 0 0))) (ins : List (List Int)) : US w U n none (uAt ins 0 []) (List.replicate n (.slice none 0 0)) := by
  have e : ∀ r, r < n → (List.replicate n (Value.slice none 0 0)).getD r undef = .slice none 0 0 := fun r hr => by simp [hr]
  refine ⟨by simp, hb, fun r hr => ?_, fun r s k hr hs _ hk => ?_, fun r k hr hk => ?_, fun k hk => by cases hk⟩
  · rw [e r hr]; exact own_nil _ _
  · rw [e r hr] at hk; cases hk
  · rw [e r hr] at hk; cases hk
theorem infoS : (Tryd.prog.info? 31).map (fun i => (i.zero, i.size, i.bytes)) = some (some (.slice none 0 0), 1, 24) := by kernel_rfl
/-- what Uses leaves -/
def UsPost (w : World) (n : Nat) (f : Nat → List Nat) (e : Ending) (w' : World) : Prop := ∃ U vs, w.heap.size ≤ U ∧ e = .returned (.slice (some ⟨U, 0, none⟩) n n) ∧ US w' U n none f vs ∧ Below w.heap.size w w'
/-- between two rounds -/
def UR (w : World) (nv : Value) (out : Int) (n : Nat) (av : Option Nat) (f : Nat → List Nat) (wr : World) : Prop := Box wr w.heap.size [nv, .int .i64 out] ∧ (∃ vs, US wr (w.heap.size + 1) n av f vs) ∧ Below w.heap.size w wr
theorem UR.made {w w2 : World} {nv : Value} {out : Int} {n U : Nat} (ins : List (List Int)) (hU : U = w.heap.size + 1) (hown : w2.ownsRow (w.heap.size + 1) 31 1 (.slice (some ⟨U, 0, none⟩) n n) n (madeCells (Value.slice none 0 0).cells (n * 1)).toList)
    (hg : (w.alloc (.cells #[nv, .int .i64 out] 24)).grownBy w2 none) : UR w nv out n none (uAt ins 0 []) w2 := by
  subst hU
  have hb := box_own hown
  have e : (madeCells (Value.slice none 0 0).cells (n * 1)).toList = List.replicate n (.slice none 0 0) := by
    rw [Nat.mul_one]
    exact toList_madeCells_one _ _
  rw [e] at hb
  exact ⟨(Box.new w _ _).grown' hg (by simp), ⟨_, US.made hb ins⟩, (below_alloc w _).grown hg (by rw [size_alloc]; omega) (fun k hk => by cases hk)⟩
theorem own_set {w : World} {B : Nat} {v : Value} {xs : List Int} (h : OwnP w B v xs) {p : Addr} (hp : p.block < B) (u : Value) : OwnP (w.setCell p u) B v xs := ownsRow_setCell_below h hp u
/-- a round's writing -/
theorem UR.put {w wr w8 : World} {nv lv : Value} {out : Int} {n : Nat} {av : Option Nat} {f : Nat → List Nat} {vs : List Value} {l : List Nat} {k g8 c8 i : Nat} {v : Value} {o : Obj} (h1 : Box wr w.heap.size [nv, .int .i64 out]) (h2 : US wr (w.heap.size + 1) n av f vs) (h3 : Below w.heap.size w wr)
    (h4 : OwnP wr (w.heap.size + 2) lv (ofN l)) (hav : av = lv.ownBlock) (hk : k < n) (hv : vs.getD k undef = v)
    (hown : w8.ownsRow (w.heap.size + 2) 3 1 (.slice (some ⟨g8, 0, none⟩) ((f k).length + 1) c8) ((f k).length + 1) ((ofN (f k)).map (Value.int .i64) ++ [.int .i64 i])) (hg : (wr.alloc o).grownBy w8 v.ownBlock) (hat : v.ownBlock = some g8 ∨ g8 = wr.heap.size + 1) :
    Box w8 (w.heap.size + 1) vs ∧ Box w8 w.heap.size [nv, .int .i64 out] ∧ UR w nv out n av (fun r => if r = k then f k ++ [i] else f r) (w8.setCell ⟨w.heap.size + 1, k, none⟩ (.slice (some ⟨g8, 0, none⟩) ((f k).length + 1) c8)) ∧
      OwnP (w8.setCell ⟨w.heap.size + 1, k, none⟩ (.slice (some ⟨g8, 0, none⟩) ((f k).length + 1) c8)) (w.heap.size + 2) lv (ofN l) := by
  have hbl : ∀ j, v.ownBlock = some j → w.heap.size + 2 ≤ j := fun j hj => by subst hv; exact (World.ownsRow.lt (h2.own k hk) j hj).1
  obtain ⟨q1, q2⟩ := (h2.alloc o).put hk hv hown hg (by rw [size_alloc]; exact hat)
  have b8 := (h1.alloc o).grown' hg fun e => by have := hbl _ e; omega
  have B8 := (h3.alloc (Nat.le_of_lt h1.lt) o).grown hg (by rw [size_alloc]; have := h1.lt; omega) fun j hj => by have := hbl _ hj; omega
  refine ⟨q1, b8, ⟨b8.set (by simp) _, ⟨_, q2⟩, B8.setCell (by simp) _⟩, own_set ?_ (by simp) _⟩
  refine World.ownsRow.kept (h4.alloc o) hg ?_
  cases e : lv.ownBlock with
  | none => exact .inl rfl
  | some j =>
    refine .inr fun e2 => ?_
    subst hv
    exact h2.away k j hk e2.symm (hav.trans e)
end Go.Proofs.YtmhfabekmgcjnaaDoor
