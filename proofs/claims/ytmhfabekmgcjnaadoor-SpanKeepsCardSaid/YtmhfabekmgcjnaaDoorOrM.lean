/- Orders: what 'ord' is: plain laws. No program. -/
import Derived.Test.YtmhfabekmgcjnaaDoorOrL
namespace Go.Od
set_option linter.unusedVariables false

/-- each stands once, is a node, and stands behind its inputs -/
structure Fine (ins : List (List Int)) (out : List Nat) : Prop where
  nodup : out.Nodup
  bound : ∀ i ∈ out, i < ins.length
  behind : ∀ m i, out[m]? = some i → ∀ k ∈ inp ins i, k ∈ out.take m
theorem Fine.nil (ins : List (List Int)) : Fine ins [] := ⟨List.nodup_nil, (fun i hi => by cases hi), fun m i h => by simp at h⟩
theorem least_is {ins : List (List Int)} {out : List Nat} {b : Nat} (h : least ins out = some b) : b < ins.length ∧ rdy ins out b = true ∧ ∀ j, j < b → rdy ins out j = false := by
  unfold least at h
  rw [List.find?_eq_some_iff_getElem] at h
  obtain ⟨h1, i, hi, e, h2⟩ := h
  simp at e hi
  subst e
  refine ⟨hi, h1, fun j hj => ?_⟩
  have := h2 j hj
  simpa using this
theorem Fine.snoc {ins : List (List Int)} {out : List Nat} {b : Nat} (h : Fine ins out) (hb : least ins out = some b) : Fine ins (out ++ [b]) := by
  obtain ⟨h1, h2, _⟩ := least_is hb
  obtain ⟨h3, h4⟩ := (rdy_iff ins out b).1 h2
  refine ⟨?_, fun i hi => ?_, fun m i hm k hk => ?_⟩
  · rw [List.nodup_append]
    exact ⟨h.nodup, by simp, fun a ha c hc => by simp at hc; subst hc; intro e; subst e; exact h3 ha⟩
  · rcases List.mem_append.1 hi with hi | hi
    · exact h.bound i hi
    · simp at hi; subst hi; exact h1
  · by_cases hlt : m < out.length
    · rw [List.getElem?_append_left hlt] at hm
      rw [List.take_append_of_le_length (by omega)]
      exact h.behind m i hm k hk
    · have := (List.getElem?_eq_some_iff.1 hm).1
      simp at this
      have e : m = out.length := by omega
      subst e
      rw [List.getElem?_append_right (Nat.le_refl _)] at hm
      simp at hm
      subst hm
      rw [List.take_append_of_le_length (Nat.le_refl _), List.take_length]
      exact h4 k hk
theorem ordN_fine {ins : List (List Int)} : ∀ (f : Nat) {out : List Nat}, Fine ins out → Fine ins (ordN ins f out)
  | 0, _, h => h
  | f + 1, out, h => by
    unfold ordN
    cases e : least ins out with
    | none => exact h
    | some b => exact ordN_fine f (h.snoc e)
theorem ord_fine (ins : List (List Int)) : Fine ins (ord ins) := ordN_fine _ (Fine.nil ins)
theorem full_mem {n : Nat} {out : List Nat} (hn : out.Nodup) (hb : ∀ i ∈ out, i < n) (hl : n ≤ out.length) {i : Nat} (hi : i < n) : i ∈ out := by
  refine Classical.byContradiction fun h => ?_
  have := len_le (n := n) (l := i :: out) (List.nodup_cons.2 ⟨h, hn⟩) (fun j hj => by
    rcases List.mem_cons.1 hj with rfl | hj
    · exact hi
    · exact hb j hj)
  simp at this
  omega
theorem ordN_max {ins : List (List Int)} : ∀ (f : Nat) {out : List Nat}, Fine ins out → ins.length ≤ out.length + f → least ins (ordN ins f out) = none
  | 0, out, h, hl => least_none fun j hj => by
    cases e : rdy ins (ordN ins 0 out) j with
    | false => rfl
    | true =>
      have := ((rdy_iff _ _ _).1 e).1
      exact absurd (full_mem h.nodup h.bound (by omega) hj) this
  | f + 1, out, h, hl => by
    unfold ordN
    cases e : least ins out with
    | none => exact e
    | some b => exact ordN_max f (h.snoc e) (by simp; omega)
theorem ord_max (ins : List (List Int)) : least ins (ord ins) = none := ordN_max _ (Fine.nil ins) (by simp)
theorem least_none_iff {ins : List (List Int)} {out : List Nat} (h : least ins out = none) {i : Nat} (hi : i < ins.length) : rdy ins out i = false := by
  unfold least at h
  rw [List.find?_eq_none] at h
  have := h i (List.mem_range.2 hi)
  simpa using this
/-- what has all its inputs in the order is in the order -/
theorem ord_closed (ins : List (List Int)) {i : Nat} (hi : i < ins.length) (h : ∀ k ∈ inp ins i, k ∈ ord ins) : i ∈ ord ins := by
  refine Classical.byContradiction fun hn => ?_
  have := least_none_iff (ord_max ins) hi
  rw [(rdy_iff _ _ _).2 ⟨hn, h⟩] at this
  cases this
theorem ord_len (ins : List (List Int)) : (ord ins).length ≤ ins.length := len_le (ord_fine ins).nodup (ord_fine ins).bound
/-- a set that holds whatever has all its inputs in it holds the order -/
theorem ord_sub {ins : List (List Int)} {S : Nat → Prop} (h : ∀ i, i < ins.length → (∀ k ∈ inp ins i, S k) → S i) : ∀ i ∈ ord ins, S i := by
  have hf := ord_fine ins
  have : ∀ m i : Nat, (ord ins)[m]? = some i → S i := by
    intro m
    induction m using Nat.strongRecOn with
    | ind m ih =>
      intro i hi
      refine h i (hf.bound i (List.mem_of_getElem? hi)) fun k hk => ?_
      have h1 := hf.behind m i hi k hk
      obtain ⟨j, hj, e⟩ := List.mem_iff_getElem.1 h1
      rw [List.length_take] at hj
      rw [List.getElem_take] at e
      exact ih j (by omega) k (by rw [← e]; exact List.getElem?_eq_getElem _)
  intro i hi
  obtain ⟨m, hm, e⟩ := List.mem_iff_getElem.1 hi
  exact this m i (by rw [← e]; exact List.getElem?_eq_getElem _)
/-- with inputs left out the order holds as much as before -/
theorem ord_less {ins ins' : List (List Int)} (hl : ins'.length = ins.length) (h : ∀ i, i < ins.length → ∀ k ∈ inp ins' i, k ∈ inp ins i) : ∀ i ∈ ord ins, i ∈ ord ins' :=
  ord_sub fun i hi hk => ord_closed ins' (by omega) fun k hk' => hk k (h i hi k hk')
theorem ord_less_len {ins ins' : List (List Int)} (hl : ins'.length = ins.length) (h : ∀ i, i < ins.length → ∀ k ∈ inp ins' i, k ∈ inp ins i) : (ord ins).length ≤ (ord ins').length :=
  List.Nodup.length_le_of_subset (ord_fine ins).nodup (fun i hi => ord_less hl h i hi)
/-- all are there just if the order has as many -/
theorem ord_full (ins : List (List Int)) : (ord ins).length = ins.length ↔ ∀ i, i < ins.length → i ∈ ord ins := by
  constructor
  · intro h i hi
    exact full_mem (ord_fine ins).nodup (ord_fine ins).bound (by omega) hi
  · intro h
    have h1 := ord_len ins
    have h2 := List.Nodup.length_le_of_subset (l₁ := List.range ins.length) List.nodup_range (fun i hi => h i (List.mem_range.1 hi))
    simp at h2
    omega
end Go.Od
