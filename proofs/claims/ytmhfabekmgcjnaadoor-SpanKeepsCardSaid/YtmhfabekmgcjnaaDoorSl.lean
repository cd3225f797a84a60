/- Layer 17: what groups read, and until when they are kept: plain laws of lists. -/
import Derived.Test.YtmhfabekmgcjnaaDoorSi
namespace Go.Proofs.YtmhfabekmgcjnaaDoor
open Go.RowKit Go.Bx Go.Od Go.Hp Go.Sort
set_option linter.unusedVariables false

theorem strict_ext : ∀ {xs ys : List Int}, xs.Pairwise (· < ·) → ys.Pairwise (· < ·) → (∀ x, x ∈ xs ↔ x ∈ ys) → xs = ys
  | [], [], _, _, _ => rfl
  | [], y :: ys, _, _, h => absurd ((h y).2 (by simp)) (by simp)
  | x :: xs, [], _, _, h => absurd ((h x).1 (by simp)) (by simp)
  | x :: xs, y :: ys, h1, h2, h => by
    rw [List.pairwise_cons] at h1 h2
    have hxy : x = y := by
      rcases List.mem_cons.1 ((h x).1 (by simp)) with e | hx
      · exact e
      · rcases List.mem_cons.1 ((h y).2 (by simp)) with e | hy
        · exact e.symm
        · have := h1.1 y hy; have := h2.1 x hx; omega
    subst hxy
    rw [strict_ext h1.2 h2.2 fun z => ?_]
    have hz := h z
    constructor
    · intro hm
      have hlt := h1.1 z hm
      rcases List.mem_cons.1 (hz.1 (by simp [hm])) with e | e
      · omega
      · exact e
    · intro hm
      have hlt := h2.1 z hm
      rcases List.mem_cons.1 (hz.2 (by simp [hm])) with e | e
      · omega
      · exact e
theorem srt_le (xs : List Int) : (srt xs).Pairwise (· ≤ ·) := by
  have := List.pairwise_mergeSort (le := fun x y : Int => decide (x ≤ y)) (fun a b c h1 h2 => by simp at *; omega) (fun a b => by simp; omega) xs
  exact this.imp fun h => by simpa using h
theorem srt_mem {xs : List Int} {x : Int} : x ∈ srt xs ↔ x ∈ xs := List.mem_mergeSort
theorem cpt_mem {xs : List Int} {x : Int} : x ∈ cpt xs ↔ x ∈ xs := by
  unfold cpt Lib.compact Lib.compactUpTo
  rw [List.mem_map]
  constructor
  · rintro ⟨j, hj, rfl⟩
    have := (List.mem_range.1 (List.mem_filter.1 hj).1)
    simp [this]
  · intro hx
    obtain ⟨j, hj, rfl⟩ := List.mem_iff_getElem.1 hx
    have : ∀ (m j : Nat), j ≤ m → (hj : j < xs.length) → ∃ a, a ∈ (List.range xs.length).filter (Lib.keeps xs.toArray) ∧ xs.toArray[a]! = xs[j] := by
      intro m
      induction m with
      | zero =>
        intro j hm hj
        have e : j = 0 := by omega
        subst e
        exact ⟨0, List.mem_filter.2 ⟨List.mem_range.2 hj, by simp [Lib.keeps]⟩, by simp [hj]⟩
      | succ m ih =>
        intro j hm hj
        by_cases hk : Lib.keeps xs.toArray j = true
        · exact ⟨j, List.mem_filter.2 ⟨List.mem_range.2 hj, hk⟩, by simp [hj]⟩
        · have h1 : ¬ (j = 0 ∨ xs.toArray[j]! ≠ xs.toArray[j - 1]!) := fun h => hk (by unfold Lib.keeps; exact decide_eq_true h)
          have h2 : j ≠ 0 ∧ xs.toArray[j]! = xs.toArray[j - 1]! := ⟨fun h => h1 (.inl h), Classical.byContradiction fun h => h1 (.inr h)⟩
          obtain ⟨a, ha, he⟩ := ih (j - 1) (by omega) (by omega)
          refine ⟨a, ha, he.trans ?_⟩
          have := h2.2
          simp [hj, show j - 1 < xs.length by omega] at this
          exact this.symm
    exact this j j (Nat.le_refl _) hj
theorem cpt_lt {xs : List Int} (h : xs.Pairwise (· ≤ ·)) : (cpt xs).Pairwise (· < ·) := by
  unfold cpt Lib.compact Lib.compactUpTo
  rw [List.pairwise_map]
  have h1 : ((List.range xs.length).filter (Lib.keeps xs.toArray)).Pairwise (· < ·) := List.pairwise_lt_range.filter _
  refine h1.imp_of_mem fun {a b} ha hb hab => ?_
  obtain ⟨ha1, _⟩ := List.mem_filter.1 ha
  obtain ⟨hb1, hb2⟩ := List.mem_filter.1 hb
  have hal := List.mem_range.1 ha1
  have hbl := List.mem_range.1 hb1
  have hle := List.pairwise_iff_getElem.1 h
  unfold Lib.keeps at hb2
  have hb3 := of_decide_eq_true hb2
  have hne : xs[b] ≠ xs[b - 1] := by
    rcases hb3 with e | e
    · omega
    · simpa [hbl, show b - 1 < xs.length by omega] using e
  have h2 : xs[b - 1] ≤ xs[b] := hle _ _ (by omega) hbl (by omega)
  have h3 : xs[a] ≤ xs[b - 1] := by
    by_cases e : a = b - 1
    · subst e; exact Int.le_refl _
    · exact hle _ _ hal (by omega) (by omega)
  simp [hal, hbl]
  omega
/-- what one node's inputs add -/
def rdF (nds : List Nd) (g : List Int) (k : Int) : List Int := (nds.getD k.toNat Nd.none).ins.filter fun x => !g.contains x
/-- what a group reads, as it is met -/
def rdL (nds : List Nd) (g : List Int) : List Int := g.flatMap (rdF nds g)
/-- what a group reads -/
def rdS (nds : List Nd) (g : List Int) : List Int := cpt (srt (rdL nds g))
theorem rdS_mem {nds : List Nd} {g : List Int} {x : Int} : x ∈ rdS nds g ↔ (∃ k ∈ g, x ∈ (nds.getD k.toNat Nd.none).ins) ∧ x ∉ g := by
  unfold rdS
  rw [cpt_mem, srt_mem]
  unfold rdL rdF
  rw [List.mem_flatMap]
  constructor
  · rintro ⟨k, hk, hx⟩
    obtain ⟨h1, h2⟩ := List.mem_filter.1 hx
    exact ⟨⟨k, hk, h1⟩, by simpa using h2⟩
  · rintro ⟨⟨k, hk, h1⟩, h2⟩
    exact ⟨k, hk, List.mem_filter.2 ⟨h1, by simpa using h2⟩⟩
theorem rdS_lt (nds : List Nd) (g : List Int) : (rdS nds g).Pairwise (· < ·) := cpt_lt (srt_le _)
theorem rdL_len {nds : List Nd} (hs : ∀ i, (nds.getD i Nd.none).ins.length ≤ 1000) (g h : List Int) : (g.flatMap (rdF nds h)).length ≤ g.length * 1000 := by
  induction g with
  | nil => simp
  | cons k g ih =>
    rw [List.flatMap_cons, List.length_append, List.length_cons]
    have h1 : (rdF nds h k).length ≤ 1000 := Nat.le_trans (List.length_filter_le _ _) (hs _)
    omega
/-- the document's way: of all numbers from -1 on those that are read, and lie in none of the group -/
def rfB (nds : List Nd) (g : List Int) (z : Int) : Bool := (g.any fun k => decide (z ∈ (nds.getD k.toNat Nd.none).ins)) && !g.contains z
def rfR (nds : List Nd) (g : List Int) (m : Nat) : List Int := ((List.range m).map fun t : Nat => (t : Int) - 1).filter (rfB nds g)
theorem rfR_step (nds : List Nd) (g : List Int) (m : Nat) : rfR nds g (m + 1) = if rfB nds g ((m : Int) - 1) = true then rfR nds g m ++ [(m : Int) - 1] else rfR nds g m := by
  unfold rfR
  rw [List.range_succ, List.map_append, List.filter_append]
  by_cases h : rfB nds g ((m : Int) - 1) = true
  · rw [if_pos h]
    simp [h]
  · rw [if_neg h]
    simp [h]
theorem rfR_len (nds : List Nd) (g : List Int) (m : Nat) : (rfR nds g m).length ≤ m := by
  unfold rfR
  refine Nat.le_trans (List.length_filter_le _ _) ?_
  simp
theorem rfR_eq {nds : List Nd} {g : List Int} (h : ∀ k ∈ g, ∀ x ∈ (nds.getD k.toNat Nd.none).ins, -1 ≤ x ∧ x < nds.length) : rfR nds g (nds.length + 1) = rdS nds g := by
  refine strict_ext ?_ (rdS_lt nds g) fun x => ?_
  · unfold rfR
    refine List.Pairwise.filter _ ?_
    rw [List.pairwise_map]
    exact List.pairwise_lt_range.imp fun h => by omega
  · rw [rdS_mem]
    unfold rfR rfB
    rw [List.mem_filter, Bool.and_eq_true, List.any_eq_true, List.mem_map]
    constructor
    · rintro ⟨_, ⟨k, hk, h1⟩, h2⟩
      exact ⟨⟨k, hk, by simpa using h1⟩, by simpa using h2⟩
    · rintro ⟨⟨k, hk, h1⟩, h2⟩
      have := h k hk x h1
      exact ⟨⟨(x + 1).toNat, List.mem_range.2 (by omega), by omega⟩, ⟨k, hk, by simpa using h1⟩, by simpa using h2⟩
/-! ### until when -/
def lstI (g : List Int) : Int := g.getD (g.length - 1) 0
theorem filter_step {p : Nat → Bool} (m : Nat) : lastN ((List.range (m + 1)).filter p) = if p m = true then m else lastN ((List.range m).filter p) := by
  rw [List.range_succ, List.filter_append]
  by_cases h : p m = true
  · rw [if_pos h, List.filter_cons_of_pos h, List.filter_nil, lastN_snoc]
  · rw [if_neg h, List.filter_cons_of_neg h, List.filter_nil, List.append_nil]
def hitA (R : List (List Int)) (z : Int) (i m : Nat) : Nat := lastN ((List.range m).filter fun k => decide (i < k) && (R.getD k []).contains z)
def hitB (R : List (List Int)) (z : Int) (m : Nat) : Nat := lastN ((List.range m).filter fun k => (R.getD k []).contains z)
theorem hitA_zero (R : List (List Int)) (z : Int) (i : Nat) : hitA R z i (i + 1) = 0 := by
  unfold hitA
  rw [List.filter_eq_nil_iff.2 fun k hk => by have := List.mem_range.1 hk; simp; omega]
  rfl
theorem hitA_step {R : List (List Int)} {z : Int} {i m : Nat} (h : i < m) : hitA R z i (m + 1) = if (R.getD m []).contains z = true then m else hitA R z i m := by
  unfold hitA
  rw [filter_step, decide_eq_true h, Bool.true_and]
theorem hitB_step {R : List (List Int)} {z : Int} {m : Nat} : hitB R z (m + 1) = if (R.getD m []).contains z = true then m else hitB R z m := by
  unfold hitB
  rw [filter_step]
theorem lastN_lt {l : List Nat} {m : Nat} (h : ∀ x ∈ l, x < m) (h0 : 0 < m) : lastN l < m := by
  unfold lastN
  cases l with
  | nil => simpa using h0
  | cons a l => simp only [List.getLastD_cons]; exact h _ (List.getLastD_mem_cons)
theorem hitA_lt (R : List (List Int)) (z : Int) (i : Nat) {m : Nat} (h0 : 0 < m) : hitA R z i m < m := lastN_lt (fun x hx => List.mem_range.1 (List.mem_filter.1 hx).1) h0
theorem hitB_lt (R : List (List Int)) (z : Int) {m : Nat} (h0 : 0 < m) : hitB R z m < m := lastN_lt (fun x hx => List.mem_range.1 (List.mem_filter.1 hx).1) h0
def unA (R L : List (List Int)) (out : Int) (i : Nat) : Int := if lstI (L.getD i []) = out then (L.length : Int) else (hitA R (lstI (L.getD i [])) i L.length : Nat)
def unB (R L : List (List Int)) (out : Int) (i : Nat) : Int := if lstI (L.getD i []) = out then (L.length : Int) else (hitB R (lstI (L.getD i [])) L.length : Nat)
/-- a list that is done up to the i-th -/
def part (f : Nat → Int) (n i : Nat) : List Int := (List.range n).map fun j => if j < i then f j else 0
theorem part_len (f : Nat → Int) (n i : Nat) : (part f n i).length = n := by simp [part]
theorem part_zero (f : Nat → Int) (n : Nat) : part f n 0 = List.replicate n 0 := by
  apply List.ext_getElem?
  intro j
  by_cases h : j < n <;> simp [part, h]
theorem part_step (f : Nat → Int) {n i : Nat} : (part f n i).set i (f i) = part f n (i + 1) := by
  apply List.ext_getElem?
  intro j
  rw [List.getElem?_set]
  by_cases h : j < n
  · by_cases e : i = j
    · subst e
      simp [part, h]
    · rw [if_neg e]
      have : (j < i + 1) = (j < i) := by apply propext; omega
      simp [part, h, this]
  · by_cases e : i = j
    · subst e
      simp [part, h]
    · rw [if_neg e]
      simp [part, h]
theorem part_all (f : Nat → Int) (n : Nat) : part f n n = (List.range n).map f := by
  unfold part
  exact List.map_congr_left fun j hj => by rw [if_pos (List.mem_range.1 hj)]
end Go.Proofs.YtmhfabekmgcjnaaDoor
