/- Heaps of numbers, as package container/heap keeps them: plain laws of its loops. No program. -/
import Derived.WalkKit
namespace Go.Hp
set_option linter.unusedVariables false

def sw (h : List Int) (i j : Nat) : List Int := (h.set i (h.getD j 0)).set j (h.getD i 0)
theorem sw_len (h : List Int) (i j : Nat) : (sw h i j).length = h.length := by simp [sw]
theorem getD_set (xs : List Int) (i k : Nat) (x : Int) (hi : i < xs.length) : (xs.set i x).getD k 0 = if k = i then x else xs.getD k 0 := by
  by_cases e : k = i
  · subst e; simp [hi]
  · rw [if_neg e]
    have : i ≠ k := fun h => e h.symm
    simp [List.getD_eq_getElem?_getD, this]
theorem sw_get (h : List Int) (i j k : Nat) (hi : i < h.length) (hj : j < h.length) : (sw h i j).getD k 0 = if k = j then h.getD i 0 else if k = i then h.getD j 0 else h.getD k 0 := by
  unfold sw
  rw [getD_set _ _ _ _ (by simpa using hj), getD_set _ _ _ _ hi]
theorem sw_perm (h : List Int) (i j : Nat) (hi : i < h.length) (hj : j < h.length) : (sw h i j).Perm h := by
  rw [List.perm_iff_count]
  intro a
  unfold sw
  have e1 : h.getD i 0 = h[i] := by simp [List.getD_eq_getElem?_getD, hi]
  have e2 : h.getD j 0 = h[j] := by simp [List.getD_eq_getElem?_getD, hj]
  rw [e1, e2]
  by_cases e : i = j
  · subst e
    simp
  · rw [List.count_set (by simpa using hj), List.count_set hi]
    have e3 : (h.set i h[j])[j]'(by simpa using hj) = h[j] := by simp [e]
    rw [e3]
    have h1 : h[i] == a → 1 ≤ h.count a := fun hh => by
      have : a ∈ h := by rw [← (beq_iff_eq.1 hh)]; exact List.getElem_mem hi
      exact List.count_pos_iff.2 this
    by_cases a1 : (h[i] == a) = true
    · have := h1 a1
      by_cases a2 : (h[j] == a) = true
      · simp [a1, a2]; omega
      · simp [a1, a2]; omega
    · by_cases a2 : (h[j] == a) = true
      · simp [a1, a2]
      · simp [a1, a2]

def par (i : Nat) : Nat := (i - 1) / 2
/-- the least first, each behind its parent -/
def IsHeap (h : List Int) : Prop := ∀ i, 0 < i → i < h.length → h.getD (par i) 0 ≤ h.getD i 0
/-- a heap but for place j, which may be too small -/
def UpInv (h : List Int) (j : Nat) : Prop := j < h.length ∧ (∀ i, 0 < i → i < h.length → i ≠ j → h.getD (par i) 0 ≤ h.getD i 0) ∧ ∀ c, 0 < c → c < h.length → par c = j → 0 < j → h.getD (par j) 0 ≤ h.getD c 0
theorem up_start {h : List Int} (hh : IsHeap h) (x : Int) : UpInv (h ++ [x]) h.length := by
  have hg : ∀ k, k < h.length → (h ++ [x]).getD k 0 = h.getD k 0 := fun k hk => by simp [List.getD_eq_getElem?_getD, List.getElem?_append_left hk]
  refine ⟨by simp, fun i h0 hi hne => ?_, fun c h0 hc hp _ => ?_⟩
  · simp at hi
    rw [hg i (by omega), hg (par i) (by unfold par; omega)]
    exact hh i h0 (by omega)
  · simp at hc
    unfold par at hp
    omega
theorem up_step {h : List Int} {j : Nat} (hi : UpInv h j) (h0 : 0 < j) (hlt : h.getD j 0 < h.getD (par j) 0) : UpInv (sw h (par j) j) (par j) := by
  obtain ⟨hj, h1, h2⟩ := hi
  have hp : par j < h.length := by unfold par; omega
  have hpj : par j < j := by unfold par; omega
  refine ⟨by rw [sw_len]; exact hp, fun i i0 hi hne => ?_, fun c c0 hc hpc hpp => ?_⟩
  · rw [sw_len] at hi
    rw [sw_get _ _ _ _ hp hj, sw_get _ _ _ _ hp hj]
    by_cases e : i = j
    · subst e
      rw [if_neg (by omega), if_pos rfl, if_pos rfl]
      omega
    · rw [if_neg e, if_neg hne]
      by_cases e2 : par i = j
      · rw [if_pos e2]
        exact h2 i i0 hi e2 h0
      · rw [if_neg e2]
        by_cases e3 : par i = par j
        · rw [if_pos e3]
          have := h1 i i0 hi e
          rw [e3] at this
          omega
        · rw [if_neg e3]
          exact h1 i i0 hi e
  · rw [sw_len] at hc
    have hpp' : par (par j) < par j := by unfold par at hpp ⊢; omega
    rw [sw_get _ _ _ _ hp hj, sw_get _ _ _ _ hp hj, if_neg (by omega), if_neg (by omega)]
    have hb : h.getD (par (par j)) 0 ≤ h.getD (par j) 0 := h1 (par j) hpp hp (by omega)
    by_cases e : c = j
    · rw [if_pos e]; exact hb
    · rw [if_neg e, if_neg (by intro e2; rw [e2] at hpc; omega)]
      have := h1 c c0 hc e
      rw [hpc] at this
      omega
theorem up_exit {h : List Int} {j : Nat} (hi : UpInv h j) (he : j = 0 ∨ h.getD (par j) 0 ≤ h.getD j 0) : IsHeap h := by
  obtain ⟨hj, h1, h2⟩ := hi
  intro i i0 hil
  by_cases e : i = j
  · subst e
    rcases he with he | he
    · omega
    · exact he
  · exact h1 i i0 hil e
theorem heap_min {h : List Int} (hh : IsHeap h) : ∀ i, i < h.length → h.getD 0 0 ≤ h.getD i 0 := by
  intro i
  induction i using Nat.strongRecOn with
  | ind i ih =>
    intro hi
    by_cases e : i = 0
    · subst e; exact Int.le_refl _
    · have h1 := hh i (by omega) hi
      have h2 := ih (par i) (by unfold par; omega) (by unfold par; omega)
      omega
/-- a heap among the first n, but for place i, which may be too great -/
def DownInv (h : List Int) (n i : Nat) : Prop := n ≤ h.length ∧ (∀ c, 0 < c → c < n → par c ≠ i → h.getD (par c) 0 ≤ h.getD c 0) ∧ ∀ c, 0 < c → c < n → par c = i → 0 < i → h.getD (par i) 0 ≤ h.getD c 0
theorem down_start {h : List Int} (hh : IsHeap h) {n : Nat} (hn : h.length = n + 1) : DownInv (sw h 0 n) n 0 := by
  refine ⟨by rw [sw_len]; omega, fun c c0 hc hp => ?_, fun c _ _ _ h0 => by omega⟩
  have hp0 : 0 < par c := by omega
  have hpc : par c < c := by unfold par; omega
  rw [sw_get _ _ _ _ (by omega) (by omega), sw_get _ _ _ _ (by omega) (by omega), if_neg (by omega), if_neg (by omega), if_neg (by omega), if_neg (by omega)]
  exact hh c c0 (by omega)
/-- the lesser child c goes up -/
theorem down_step {h : List Int} {n i c : Nat} (hi : DownInv h n i) (c0 : 0 < c) (hc : c < n) (hp : par c = i) (hlt : h.getD c 0 < h.getD i 0) (hmin : ∀ d, 0 < d → d < n → par d = i → h.getD c 0 ≤ h.getD d 0) : DownInv (sw h i c) n c := by
  obtain ⟨hn, h1, h2⟩ := hi
  have hic : i < c := by unfold par at hp; omega
  have hil : i < h.length := by omega
  have hcl : c < h.length := by omega
  refine ⟨by rw [sw_len]; exact hn, fun d d0 hd hpd => ?_, fun d d0 hd hpd _ => ?_⟩
  · rw [sw_get _ _ _ _ hil hcl, sw_get _ _ _ _ hil hcl]
    rw [if_neg hpd]
    by_cases e : d = c
    · subst e
      rw [if_pos hp, if_pos rfl]
      omega
    · rw [if_neg e]
      by_cases e2 : par d = i
      · rw [if_pos e2, if_neg (by intro e3; subst e3; unfold par at e2; omega)]
        exact hmin d d0 hd e2
      · rw [if_neg e2]
        by_cases e3 : d = i
        · subst e3
          rw [if_pos rfl]
          exact h2 c c0 hc hp d0
        · rw [if_neg e3]
          exact h1 d d0 hd e2
  · have hpc : par c = i := hp
    rw [sw_get _ _ _ _ hil hcl, sw_get _ _ _ _ hil hcl, hpc, if_neg (by omega), if_pos rfl]
    have hdc : c < d := by unfold par at hpd; omega
    rw [if_neg (by omega), if_neg (by omega)]
    have := h1 d d0 hd (by omega)
    rw [hpd] at this
    exact this
theorem down_exit {h : List Int} {n i : Nat} (hi : DownInv h n i) (he : ∀ c, 0 < c → c < n → par c = i → h.getD i 0 ≤ h.getD c 0) : IsHeap (h.take n) := by
  obtain ⟨hn, h1, h2⟩ := hi
  have hg : ∀ k, k < n → (h.take n).getD k 0 = h.getD k 0 := fun k hk => by simp [List.getD_eq_getElem?_getD, hk]
  intro c c0 hc
  have hc' : c < n := by simp at hc; omega
  rw [hg c hc', hg (par c) (by unfold par; omega)]
  by_cases e : par c = i
  · rw [e]; exact he c c0 hc' e
  · exact h1 c c0 hc' e
end Go.Hp
