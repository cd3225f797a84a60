/- Orders: the least node that is ready, again and again: plain laws. No program. -/
import Derived.WalkKit
namespace Go.Od
set_option linter.unusedVariables false

/-- the inputs that are nodes, each once, in the order of the text -/
def once : List Int → Nat → List Nat → List Nat
  | [], _, seen => seen
  | x :: xs, n, seen => if 0 ≤ x ∧ x < n ∧ x.toNat ∉ seen then once xs n (seen ++ [x.toNat]) else once xs n seen
def inp (ins : List (List Int)) (i : Nat) : List Nat := once (ins.getD i []) ins.length []
theorem once_spec (xs : List Int) (n : Nat) : ∀ seen : List Nat, seen.Nodup → (once xs n seen).Nodup ∧ ∀ k, k ∈ once xs n seen ↔ k ∈ seen ∨ (k < n ∧ (k : Int) ∈ xs) := by
  induction xs with
  | nil => intro seen hs; exact ⟨hs, fun k => by simp [once]⟩
  | cons x xs ih =>
    intro seen hs
    unfold once
    split
    · rename_i h
      obtain ⟨h0, h1, h2⟩ := h
      obtain ⟨i1, i2⟩ := ih (seen ++ [x.toNat]) (by
        rw [List.nodup_append]
        exact ⟨hs, by simp, fun a ha b hb => by simp at hb; subst hb; intro e; subst e; exact h2 ha⟩)
      refine ⟨i1, fun k => ?_⟩
      rw [i2]
      rw [List.mem_append, List.mem_singleton, List.mem_cons]
      constructor
      · rintro ((h | h) | ⟨h, h'⟩)
        · exact .inl h
        · exact .inr ⟨by omega, .inl (by omega)⟩
        · exact .inr ⟨h, .inr h'⟩
      · rintro (h | ⟨h, h' | h'⟩)
        · exact .inl (.inl h)
        · exact .inl (.inr (by omega))
        · exact .inr ⟨h, h'⟩
    · rename_i h
      obtain ⟨i1, i2⟩ := ih seen hs
      refine ⟨i1, fun k => ?_⟩
      rw [i2]
      simp only [List.mem_cons]
      constructor
      · rintro (h' | ⟨h', h''⟩)
        · exact .inl h'
        · exact .inr ⟨h', .inr h''⟩
      · rintro (h' | ⟨h', h'' | h''⟩)
        · exact .inl h'
        · left
          by_cases hk : k ∈ seen
          · exact hk
          · exact absurd ⟨by omega, by omega, by rw [← h'']; simpa using hk⟩ h
        · exact .inr ⟨h', h''⟩
theorem inp_nodup (ins : List (List Int)) (i : Nat) : (inp ins i).Nodup := (once_spec _ _ [] List.nodup_nil).1
theorem inp_mem (ins : List (List Int)) (i k : Nat) : k ∈ inp ins i ↔ k < ins.length ∧ (k : Int) ∈ ins.getD i [] := by
  have := (once_spec (ins.getD i []) ins.length [] List.nodup_nil).2 k
  simpa [inp] using this

/-- may it come now? -/
def rdy (ins : List (List Int)) (out : List Nat) (i : Nat) : Bool := decide (i ∉ out) && (inp ins i).all fun k => decide (k ∈ out)
def least (ins : List (List Int)) (out : List Nat) : Option Nat := (List.range ins.length).find? (rdy ins out)
def ordN (ins : List (List Int)) : Nat → List Nat → List Nat
  | 0, out => out
  | f + 1, out => match least ins out with
    | none => out
    | some b => ordN ins f (out ++ [b])
/-- the order -/
def ord (ins : List (List Int)) : List Nat := ordN ins ins.length []

theorem rdy_iff (ins : List (List Int)) (out : List Nat) (i : Nat) : rdy ins out i = true ↔ i ∉ out ∧ ∀ k ∈ inp ins i, k ∈ out := by
  unfold rdy
  simp only [Bool.and_eq_true, decide_eq_true_eq, List.all_eq_true]
theorem find_range {n : Nat} {p : Nat → Bool} {b : Nat} (hb : b < n) (hp : p b = true) (hl : ∀ j, j < b → p j = false) : (List.range n).find? p = some b := by
  rw [List.find?_eq_some_iff_getElem]
  refine ⟨hp, b, by simpa using hb, by simp, fun j hj => ?_⟩
  simp [hl j hj]
theorem least_some {ins : List (List Int)} {out : List Nat} {b : Nat} (hb : b < ins.length) (hr : rdy ins out b = true) (hl : ∀ j, j < b → rdy ins out j = false) : least ins out = some b := find_range hb hr hl
theorem least_none {ins : List (List Int)} {out : List Nat} (h : ∀ j, j < ins.length → rdy ins out j = false) : least ins out = none := by
  unfold least
  rw [List.find?_eq_none]
  intro j hj
  simp [h j (List.mem_range.1 hj)]
theorem ordN_none {ins : List (List Int)} {out : List Nat} (h : least ins out = none) : ∀ f, ordN ins f out = out
  | 0 => rfl
  | f + 1 => by simp [ordN, h]
theorem ordN_some {ins : List (List Int)} {out : List Nat} {b : Nat} (h : least ins out = some b) (f : Nat) : ordN ins (f + 1) out = ordN ins f (out ++ [b]) := by simp [ordN, h]

/-- how many inputs are not in the order yet -/
def lf (ins : List (List Int)) (out : List Nat) (i : Nat) : Nat := ((inp ins i).filter fun k => decide (k ∉ out)).length
theorem lf_zero (ins : List (List Int)) (out : List Nat) (i : Nat) : lf ins out i = 0 ↔ ∀ k ∈ inp ins i, k ∈ out := by
  unfold lf
  rw [List.length_eq_zero_iff, List.filter_eq_nil_iff]
  constructor
  · intro h k hk
    have := h k hk
    simpa using this
  · intro h k hk
    have := h k hk
    simpa using this
theorem lf_keep {ins : List (List Int)} {out : List Nat} {i k : Nat} (h : k ∉ inp ins i) : lf ins (out ++ [k]) i = lf ins out i := by
  unfold lf
  congr 1
  apply List.filter_congr
  intro j hj
  have : j ≠ k := fun e => h (e ▸ hj)
  simp [this]
theorem lf_step {ins : List (List Int)} {out : List Nat} {i k : Nat} (h : k ∈ inp ins i) (hk : k ∉ out) : lf ins (out ++ [k]) i + 1 = lf ins out i := by
  unfold lf
  have hn := inp_nodup ins i
  generalize inp ins i = l at *
  induction l with
  | nil => cases h
  | cons x l ih =>
    rw [List.nodup_cons] at hn
    by_cases e : x = k
    · subst e
      have e1 : (l.filter fun j => decide (j ∉ out ++ [x])) = l.filter fun j => decide (j ∉ out) := List.filter_congr fun j hj => by
        have : j ≠ x := fun e => hn.1 (e ▸ hj)
        simp [this]
      rw [List.filter_cons_of_neg (by simp), List.filter_cons_of_pos (by simpa using hk), e1]
      rfl
    · have hkl : k ∈ l := by
        rcases List.mem_cons.1 h with h | h
        · exact absurd h.symm e
        · exact h
      have := ih hkl hn.2
      by_cases hx : x ∈ out
      · rw [List.filter_cons_of_neg (by simp [hx]), List.filter_cons_of_neg (by simp [hx])]
        exact this
      · rw [List.filter_cons_of_pos (by simp [hx, e]), List.filter_cons_of_pos (by simp [hx])]
        simp only [List.length_cons]
        omega

/-- what holds between two rounds: out: the order so far; h: what may come; left: how many inputs are missing -/
structure KInv (ins : List (List Int)) (m : Nat) (out h : List Nat) (left : Nat → Int) : Prop where
  len : out.length = m
  told : ordN ins ins.length [] = ordN ins (ins.length - m) out
  bound : ∀ i ∈ out, i < ins.length
  nodup : out.Nodup
  closed : ∀ i ∈ out, ∀ k ∈ inp ins i, k ∈ out
  lft : ∀ i, i < ins.length → left i = lf ins out i
  hnd : h.Nodup
  heap : ∀ i, i ∈ h ↔ i < ins.length ∧ i ∉ out ∧ left i = 0

theorem len_le {n : Nat} {l : List Nat} (hn : l.Nodup) (hb : ∀ i ∈ l, i < n) : l.length ≤ n := by
  have := List.Nodup.length_le_of_subset hn (fun i hi => List.mem_range.2 (hb i hi) : l ⊆ List.range n)
  simpa using this

theorem KInv.rdy {ins : List (List Int)} {m : Nat} {out h : List Nat} {left : Nat → Int} (I : KInv ins m out h left) (i : Nat) (hi : i < ins.length) : Od.rdy ins out i = true ↔ i ∈ h := by
  rw [rdy_iff, I.heap, I.lft i hi, ← lf_zero]
  constructor
  · rintro ⟨h1, h2⟩; exact ⟨hi, h1, by rw [h2]; rfl⟩
  · rintro ⟨_, h1, h2⟩; exact ⟨h1, by omega⟩
/-- nothing may come: that is the order -/
theorem KInv.done {ins : List (List Int)} {m : Nat} {out : List Nat} {left : Nat → Int} (I : KInv ins m out [] left) : ord ins = out := by
  unfold ord
  rw [I.told]
  exact ordN_none (least_none fun j hj => by
    cases e : Od.rdy ins out j with
    | false => rfl
    | true => have := (I.rdy j hj).1 e; cases this) _
/-- within a round: k has come; of those that use it the first j are told -/
structure KMid (ins : List (List Int)) (m : Nat) (out : List Nat) (k : Nat) (us : List Nat) (j : Nat) (h : List Nat) (left : Nat → Int) : Prop where
  len : out.length = m
  told : ordN ins ins.length [] = ordN ins (ins.length - (m + 1)) (out ++ [k])
  bound : ∀ i ∈ out ++ [k], i < ins.length
  nodup : (out ++ [k]).Nodup
  closed : ∀ i ∈ out ++ [k], ∀ x ∈ inp ins i, x ∈ out
  usm : ∀ i, i ∈ us ↔ i < ins.length ∧ k ∈ inp ins i
  usnd : us.Nodup
  lft : ∀ i, i < ins.length → left i = if i ∈ us.take j then (lf ins (out ++ [k]) i : Int) else lf ins out i
  hnd : h.Nodup
  heap : ∀ i, i ∈ h ↔ i < ins.length ∧ i ∉ out ++ [k] ∧ left i = 0
theorem KInv.pop {ins : List (List Int)} {m : Nat} {out h h' : List Nat} {left : Nat → Int} {k : Nat} {us : List Nat} (I : KInv ins m out h left) (hk : k ∈ h) (hmin : ∀ i ∈ h, k ≤ i) (hp : h.Perm (k :: h')) (hus : ∀ i, i ∈ us ↔ i < ins.length ∧ k ∈ inp ins i) (husn : us.Nodup) :
    KMid ins m out k us 0 h' left := by
  obtain ⟨hkl, hko, hk0⟩ := (I.heap k).1 hk
  have hr := (I.rdy k hkl).2 hk
  have hrd := (rdy_iff ins out k).1 hr
  have hleast : Od.least ins out = some k := least_some hkl hr fun j hj => by
    cases e : Od.rdy ins out j with
    | false => rfl
    | true => have := hmin j ((I.rdy j (by omega)).1 e); omega
  have hnd2 : (out ++ [k]).Nodup := by
    rw [List.nodup_append]
    exact ⟨I.nodup, by simp, fun a ha b hb => by simp at hb; subst hb; intro e; subst e; exact hko ha⟩
  have hb2 : ∀ i ∈ out ++ [k], i < ins.length := fun i hi => by
    rcases List.mem_append.1 hi with h | h
    · exact I.bound i h
    · simp at h; omega
  have hm : m + 1 ≤ ins.length := by
    have := len_le hnd2 hb2
    simp at this
    have := I.len; omega
  have hnk : (k :: h').Nodup := hp.nodup_iff.1 I.hnd
  rw [List.nodup_cons] at hnk
  exact {
    len := I.len
    told := by
      rw [I.told, show ins.length - m = (ins.length - (m + 1)) + 1 by omega]
      exact ordN_some hleast _
    bound := hb2
    nodup := hnd2
    closed := fun i hi x hx => by
      rcases List.mem_append.1 hi with h | h
      · exact I.closed i h x hx
      · simp at h; subst h; exact hrd.2 x hx
    usm := hus
    usnd := husn
    lft := fun i hi => by simp; exact I.lft i hi
    hnd := hnk.2
    heap := fun i => by
      have h1 := I.heap i
      have h2 := hp.mem_iff (a := i)
      rw [List.mem_cons] at h2
      constructor
      · intro hi
        obtain ⟨a, b, c⟩ := h1.1 (h2.2 (.inr hi))
        refine ⟨a, ?_, c⟩
        rw [List.mem_append]
        rintro (h | h)
        · exact b h
        · simp at h; subst h; exact hnk.1 hi
      · rintro ⟨a, b, c⟩
        rw [List.mem_append] at b
        rcases h2.1 (h1.2 ⟨a, fun h => b (.inl h), c⟩) with h | h
        · exact absurd (.inr (by simp [h])) b
        · exact h }

theorem take_mem {us : List Nat} (hn : us.Nodup) {j : Nat} {u : Nat} (hu : us[j]? = some u) (i : Nat) : i ∈ us.take (j + 1) ↔ i ∈ us.take j ∨ i = u := by
  rw [List.take_succ_eq_append_getElem (List.getElem?_eq_some_iff.1 hu).1, List.mem_append, List.mem_singleton, (List.getElem?_eq_some_iff.1 hu).2]
theorem not_take {us : List Nat} (hn : us.Nodup) {j : Nat} {u : Nat} (hu : us[j]? = some u) : u ∉ us.take j := by
  intro h
  obtain ⟨q, hq, e⟩ := List.mem_iff_getElem.1 h
  rw [List.length_take] at hq
  rw [List.getElem_take] at e
  have hj := List.getElem?_eq_some_iff.1 hu
  have := List.pairwise_iff_getElem.1 hn q j (by omega) hj.1 (by omega)
  rw [e, hj.2] at this
  exact this rfl
/-- one that uses k: one input less is missing; at none it may come -/
theorem KMid.step {ins : List (List Int)} {m : Nat} {out h h' : List Nat} {left left' : Nat → Int} {k j u : Nat} {us : List Nat} (I : KMid ins m out k us j h left) (hu : us[j]? = some u)
    (hl : ∀ i, i < ins.length → left' i = if i = u then left u - 1 else left i) (hh : if left u - 1 = 0 then h'.Perm (u :: h) else h' = h) : 1 ≤ left u ∧ u < ins.length ∧ KMid ins m out k us (j + 1) h' left' := by
  have hum : u ∈ us := List.mem_of_getElem? hu
  obtain ⟨hul, hku⟩ := (I.usm u).1 hum
  have hnt := not_take I.usnd hu
  have hlu := I.lft u hul
  rw [if_neg hnt] at hlu
  have hko : k ∉ out := by
    have := I.nodup
    rw [List.nodup_append] at this
    exact fun h => this.2.2 k h k (by simp) rfl
  have hstep := lf_step hku hko
  have huo : u ∉ out ++ [k] := by
    intro h
    have := I.closed u h k hku
    exact hko this
  refine ⟨by omega, hul, ?_⟩
  have hlft : ∀ i, i < ins.length → left' i = if i ∈ us.take (j + 1) then (lf ins (out ++ [k]) i : Int) else lf ins out i := by
    intro i hi
    rw [hl i hi]
    by_cases e : i = u
    · subst e
      rw [if_pos rfl, if_pos ((take_mem I.usnd hu i).2 (.inr rfl))]
      omega
    · rw [if_neg e, I.lft i hi]
      by_cases e2 : i ∈ us.take j
      · rw [if_pos e2, if_pos ((take_mem I.usnd hu i).2 (.inl e2))]
      · rw [if_neg e2, if_neg (fun h => by
          rcases (take_mem I.usnd hu i).1 h with h | h
          · exact e2 h
          · exact e h)]
  have hnew : left' u = left u - 1 := by rw [hl u hul, if_pos rfl]
  have huh : u ∉ h := fun h => by have := ((I.heap u).1 h).2.2; omega
  refine { len := I.len, told := I.told, bound := I.bound, nodup := I.nodup, closed := I.closed, usm := I.usm, usnd := I.usnd, lft := hlft, hnd := ?_, heap := fun i => ?_ }
  · by_cases e : left u - 1 = 0
    · rw [if_pos e] at hh
      exact hh.nodup_iff.2 (List.nodup_cons.2 ⟨huh, I.hnd⟩)
    · rw [if_neg e] at hh
      rw [hh]; exact I.hnd
  · by_cases e : left u - 1 = 0
    · rw [if_pos e] at hh
      rw [hh.mem_iff, List.mem_cons, I.heap i]
      by_cases ei : i = u
      · subst ei
        constructor
        · intro _; exact ⟨hul, huo, by omega⟩
        · intro _; exact .inl rfl
      · constructor
        · rintro (h | ⟨a, b, c⟩)
          · exact absurd h ei
          · exact ⟨a, b, by rw [hl i a, if_neg ei]; exact c⟩
        · rintro ⟨a, b, c⟩
          rw [hl i a, if_neg ei] at c
          exact .inr ⟨a, b, c⟩
    · rw [if_neg e] at hh
      rw [hh, I.heap i]
      by_cases ei : i = u
      · subst ei
        constructor
        · rintro ⟨_, _, c⟩; omega
        · rintro ⟨_, _, c⟩; omega
      · constructor
        · rintro ⟨a, b, c⟩; exact ⟨a, b, by rw [hl i a, if_neg ei]; exact c⟩
        · rintro ⟨a, b, c⟩
          rw [hl i a, if_neg ei] at c
          exact ⟨a, b, c⟩
/-- all that use k are told -/
theorem KMid.fin {ins : List (List Int)} {m : Nat} {out h : List Nat} {left : Nat → Int} {k : Nat} {us : List Nat} (I : KMid ins m out k us us.length h left) : KInv ins (m + 1) (out ++ [k]) h left where
  len := by simp [I.len]
  told := I.told
  bound := I.bound
  nodup := I.nodup
  closed := fun i hi x hx => List.mem_append_left _ (I.closed i hi x hx)
  lft := fun i hi => by
    rw [I.lft i hi, List.take_length]
    by_cases e : i ∈ us
    · rw [if_pos e]
    · rw [if_neg e, lf_keep fun h => e ((I.usm i).2 ⟨hi, h⟩)]
  hnd := I.hnd
  heap := I.heap
/-- at the start -/
theorem KInv.start {ins : List (List Int)} {h : List Nat} {left : Nat → Int} (hl : ∀ i, i < ins.length → left i = (inp ins i).length) (hn : h.Nodup) (hh : ∀ i, i ∈ h ↔ i < ins.length ∧ (inp ins i).length = 0) : KInv ins 0 [] h left where
  len := rfl
  told := rfl
  bound := fun i hi => by cases hi
  nodup := List.nodup_nil
  closed := fun i hi => by cases hi
  lft := fun i hi => by
    rw [hl i hi]
    unfold lf
    rw [List.filter_eq_self.2 fun a _ => by simp]
  hnd := hn
  heap := fun i => by
    rw [hh i]
    constructor
    · rintro ⟨a, b⟩; exact ⟨a, by simp, by rw [hl i a, b]; rfl⟩
    · rintro ⟨a, _, c⟩; rw [hl i a] at c; exact ⟨a, by omega⟩
theorem KInv.few {ins : List (List Int)} {m : Nat} {out h : List Nat} {left : Nat → Int} (I : KInv ins m out h left) : m ≤ ins.length := by
  have := len_le I.nodup I.bound
  rw [I.len] at this; exact this
end Go.Od
