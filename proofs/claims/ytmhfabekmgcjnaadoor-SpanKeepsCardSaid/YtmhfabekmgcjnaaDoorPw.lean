/- Layer 16: groups: plain laws, for 'FuseWhole'. -/
import Derived.Test.YtmhfabekmgcjnaaDoorPm
namespace Go.Proofs.YtmhfabekmgcjnaaDoor
open Go.RowKit Go.Bx Go.Od Go.Hp
set_option linter.unusedVariables false

theorem filter_split {α : Type} {p : α → Bool} {y : α} : ∀ {xs : List α} {i : Nat}, (xs.filter p)[i]? = some y → ∃ pre post, xs = pre ++ y :: post ∧ p y = true ∧ (xs.filter p).take i = pre.filter p
  | [], i, h => by simp at h
  | x :: xs, i, h => by
    by_cases hx : p x = true
    · rw [List.filter_cons_of_pos hx] at h ⊢
      cases i with
      | zero =>
        simp at h
        subst h
        exact ⟨[], xs, rfl, hx, rfl⟩
      | succ i =>
        simp at h
        obtain ⟨pre, post, e, h1, h2⟩ := filter_split (xs := xs) (i := i) h
        refine ⟨x :: pre, post, by rw [e]; rfl, h1, ?_⟩
        rw [List.filter_cons_of_pos hx, List.take_succ_cons, h2]
    · rw [List.filter_cons_of_neg hx] at h ⊢
      obtain ⟨pre, post, e, h1, h2⟩ := filter_split (xs := xs) (i := i) h
      refine ⟨x :: pre, post, by rw [e]; rfl, h1, ?_⟩
      rw [List.filter_cons_of_neg hx, h2]
/-- who stands before stands in the front part -/
theorem in_front {pre post : List Nat} {a j : Nat} {all : List Nat} (e : all = pre ++ a :: post) (hn : all.Nodup) (hj : j ∈ all) (h : all.idxOf j < all.idxOf a) : j ∈ pre := by
  subst e
  have hap : a ∉ pre := fun h => (List.nodup_append.1 hn).2.2 a h a (by simp) rfl
  rw [List.idxOf_append (a := a), if_neg hap] at h
  simp at h
  rw [List.idxOf_append] at h
  by_cases hjp : j ∈ pre
  · exact hjp
  · rw [if_neg hjp] at h
    omega
section
variable {nds : List Nd} {out : Int} {on : Bool}
/-- group i: its leader, and what stands before it -/
theorem grp_i {i : Nat} (hi : i < (grp nds out on).length) : ∃ pre l post, ord (insOf nds) = pre ++ l :: post ∧ (grp nds out on).getD i [] = (ord (insOf nds)).filter (pR nds out on l) ∧ 0 < ((grp nds out on).getD i []).length ∧ (grp nds out on).take i = (pre.map fun l => (ord (insOf nds)).filter (pR nds out on l)).filter fun g => decide (0 < g.length) := by
  have h : (grp nds out on)[i]? = some ((grp nds out on).getD i []) := by simp [hi]
  generalize hL : (grp nds out on).getD i [] = L at *
  unfold grp gsP at h ⊢
  rw [List.take_length] at h ⊢
  obtain ⟨pre, post, e, h1, h2⟩ := filter_split h
  obtain ⟨l1, l2, e1, e2, e3⟩ := List.map_eq_append_iff.1 e
  obtain ⟨l, l3, e4, e5, e6⟩ := List.map_eq_cons_iff.1 e3
  exact ⟨l1, l, l3, by rw [e1, e4], e5.symm, by simpa using h1, by rw [h2, e2]⟩
theorem Good.w_short (h : Good nds out) {i : Nat} (hi : i < (grp nds out false).length) : ((grp nds out false).getD i []).length ≤ 1 := by
  obtain ⟨pre, l, post, e1, e2, _⟩ := grp_i hi
  have hnd : ((ord (insOf nds)).filter (pR nds out false l)).Nodup := (ord_fine (insOf nds)).nodup.filter _
  have hall : ∀ x ∈ (ord (insOf nds)).filter (pR nds out false l), x = l := fun x hx => by
    have := (pR_iff.1 (List.mem_filter.1 hx).2).2
    rwa [led_off] at this
  rw [e2]
  generalize (ord (insOf nds)).filter (pR nds out false l) = L at *
  match L, hnd, hall with
  | [], _, _ => simp
  | [x], _, _ => simp
  | x :: y :: L, hnd, hall =>
    have hx := hall x (by simp)
    have hy := hall y (by simp)
    rw [hx, hy] at hnd
    simp at hnd
theorem Good.w_lt (h : Good nds out) {i a : Nat} (hi : i < (grp nds out on).length) (ha : a ∈ (grp nds out on).getD i []) : a < nds.length := by
  obtain ⟨pre, l, post, e1, e2, _⟩ := grp_i hi
  rw [e2] at ha
  exact ord_lt (List.mem_filter.1 ha).1
theorem Good.w_point (h : Good nds out) {i a : Nat} (hi : i < (grp nds out on).length) (hl : 1 < ((grp nds out on).getD i []).length) (ha : a ∈ (grp nds out on).getD i []) : byPt (nds.getD a Nd.none).op = true := by
  obtain ⟨pre, l, post, e1, e2, _⟩ := grp_i hi
  have hnd : ((ord (insOf nds)).filter (pR nds out on l)).Nodup := (ord_fine (insOf nds)).nodup.filter _
  have hall : ∀ x ∈ (ord (insOf nds)).filter (pR nds out on l), x < nds.length ∧ ned (insOf nds) out x = true ∧ led nds out on x = l := fun x hx => ⟨ord_lt (List.mem_filter.1 hx).1, pR_iff.1 (List.mem_filter.1 hx).2⟩
  rw [e2] at hl ha
  obtain ⟨a1, a2, a3⟩ := hall a ha
  cases e : jO nds out on a with
  | some u => exact (jO_some e).2.2.2.2.1
  | none =>
    -- a leads; some other one joins it
    rw [led_none e] at a3
    subst a3
    have hex : ∃ x ∈ (ord (insOf nds)).filter (pR nds out on a), x ≠ a := by
      refine Classical.byContradiction fun hno => ?_
      have hall2 : ∀ x ∈ (ord (insOf nds)).filter (pR nds out on a), x = a := fun x hx => Classical.byContradiction fun hne => hno ⟨x, hx, hne⟩
      generalize (ord (insOf nds)).filter (pR nds out on a) = L at *
      match L, hl, hnd, hall2 with
      | [], hl, _, _ => simp at hl
      | [x], hl, _, _ => simp at hl
      | x :: y :: L, _, hnd, hall2 =>
        have hx := hall2 x (by simp)
        have hy := hall2 y (by simp)
        rw [hx, hy] at hnd
        simp at hnd
    obtain ⟨x, hx, hne⟩ := hex
    obtain ⟨x1, x2, x3⟩ := hall x hx
    -- the last that joins a
    have key : ∀ (f k : Nat), k < nds.length → nds.length - at_ nds k ≤ f → led nds out on k = a → k ≠ a → ∃ k', jO nds out on k' = some a := by
      intro f
      induction f with
      | zero => intro k hk hf; have := h.at_lt hk; omega
      | succ f ih =>
        intro k hk hf hle hka
        cases ek : jO nds out on k with
        | none => rw [led_none ek] at hle; exact absurd hle hka
        | some u =>
          obtain ⟨_, _, ⟨u1, u2, u3⟩, _⟩ := jO_some ek
          by_cases hua : u = a
          · subst hua; exact ⟨k, ek⟩
          · have hb := h.before u1 u2
            exact ih u u1 (by omega) (by rw [← h.led_some hk ek]; exact hle) hua
    obtain ⟨k', hk'⟩ := key _ x x1 (Nat.le_refl _) x3 hne
    exact (jO_some hk').2.2.2.2.2.1
theorem Good.w_last (h : Good nds out) {i : Nat} (hi : i < (grp nds out on).length) : ∃ l, (grp nds out on).getD i [] = (ord (insOf nds)).filter (pR nds out on l) ∧ lastN ((grp nds out on).getD i []) = l := by
  obtain ⟨pre, l, post, e1, e2, e3, _⟩ := grp_i hi
  refine ⟨l, e2, ?_⟩
  rw [e2] at e3 ⊢
  obtain ⟨x, hx⟩ := List.exists_mem_of_length_pos e3
  obtain ⟨h1, h2⟩ := List.mem_filter.1 hx
  obtain ⟨h3, h4⟩ := pR_iff.1 h2
  obtain ⟨p, hp⟩ := h.last (ord_lt h1) h3 h4
  rw [hp, lastN_snoc]
theorem Good.w_within (h : Good nds out) {i a j : Nat} (hi : i < (grp nds out on).length) (ha : a ∈ (grp nds out on).getD i []) (hne : a ≠ lastN ((grp nds out on).getD i [])) (hj : j < nds.length) (hn : ned (insOf nds) out j = true) (hin : (a : Int) ∈ (nds.getD j Nd.none).ins) : j ∈ (grp nds out on).getD i [] := by
  obtain ⟨l, e2, e3⟩ := h.w_last hi
  rw [e3] at hne
  rw [e2] at ha ⊢
  obtain ⟨h1, h2⟩ := List.mem_filter.1 ha
  obtain ⟨h3, h4⟩ := pR_iff.1 h2
  have ha1 := ord_lt h1
  cases e : jO nds out on a with
  | none => rw [led_none e] at h4; exact absurd h4 hne
  | some u =>
    have hu := (jO_some e).2.2.2.2.2.2 j hj ((inp_mem _ _ _).2 ⟨by rw [insOf_len]; exact ha1, by rw [insOf_get]; exact hin⟩) hn
    subst hu
    rw [h.led_some ha1 e] at h4
    exact List.mem_filter.2 ⟨h.full j hj, pR_iff.2 ⟨hn, h4⟩⟩
/-- what has been walked -/
def seenL (G : List (List Nat)) (i k : Nat) : List Nat := (G.take i).flatten ++ (G.getD i []).take k
theorem Good.w_behind (h : Good nds out) {i k a j : Nat} (hi : i < (grp nds out on).length) (ha : ((grp nds out on).getD i [])[k]? = some a) (hj : j < nds.length) (hin : (j : Int) ∈ (nds.getD a Nd.none).ins) : j ∈ seenL (grp nds out on) i k := by
  obtain ⟨pre, l, post, e1, e2, e3, e4⟩ := grp_i hi
  have hnd := (ord_fine (insOf nds)).nodup
  unfold seenL
  rw [e4]
  rw [e2] at ha ⊢
  obtain ⟨h1, h2⟩ := List.mem_filter.1 (List.mem_of_getElem? ha)
  obtain ⟨h3, h4⟩ := pR_iff.1 h2
  have ha1 := ord_lt h1
  have hji : j ∈ inp (insOf nds) a := (inp_mem _ _ _).2 ⟨by rw [insOf_len]; exact hj, by rw [insOf_get]; exact hin⟩
  have hb := h.before ha1 hji
  have hnj : ned (insOf nds) out j = true := (ned_iff _ _ _).2 (((ned_iff _ _ _).1 h3).next hji)
  have hjo := h.full j hj
  cases e : jO nds out on j with
  | some u =>
    have hua := (jO_some e).2.2.2.2.2.2 a ha1 hji h3
    subst hua
    have h5 : led nds out on j = l := by rw [h.led_some hj e]; exact h4
    obtain ⟨p2, q2, f1, f2, f3⟩ := filter_split ha
    rw [f3]
    exact List.mem_append_right _ (List.mem_filter.2 ⟨in_front f1 hnd hjo hb, pR_iff.2 ⟨hnj, h5⟩⟩)
  | none =>
    have h5 := led_none e
    have h6 := (h.led_up (on := on) ha1).1
    rw [h4] at h6
    have hjp : j ∈ pre := in_front e1 hnd hjo (by unfold at_ at hb h6; omega)
    have hjm : j ∈ (ord (insOf nds)).filter (pR nds out on j) := List.mem_filter.2 ⟨hjo, pR_iff.2 ⟨hnj, h5⟩⟩
    refine List.mem_append_left _ (List.mem_flatten.2 ⟨_, List.mem_filter.2 ⟨List.mem_map.2 ⟨j, hjp, rfl⟩, ?_⟩, hjm⟩)
    exact decide_eq_true (List.length_pos_of_mem hjm)
theorem flat_ne (xs : List (List Nat)) : (xs.filter fun g => decide (0 < g.length)).flatten = xs.flatten := by
  induction xs with
  | nil => rfl
  | cons x xs ih =>
    cases x with
    | nil => rw [List.filter_cons_of_neg (by simp), ih]; rfl
    | cons y ys => rw [List.filter_cons_of_pos (by simp), List.flatten_cons, List.flatten_cons, ih]
theorem Good.w_count (h : Good nds out) {r : Nat} (hr : r < nds.length) : (grp nds out on).flatten.count r = if ned (insOf nds) out r = true then 1 else 0 := by
  unfold grp gsP
  rw [List.take_length, flat_ne]
  have hnd := (ord_fine (insOf nds)).nodup
  have key : ∀ xs : List Nat, (xs.map fun l => (ord (insOf nds)).filter (pR nds out on l)).flatten.count r = if ned (insOf nds) out r = true then xs.count (led nds out on r) else 0 := by
    intro xs
    induction xs with
    | nil => simp
    | cons x xs ih =>
      rw [List.map_cons, List.flatten_cons, List.count_append, ih]
      have hf : ((ord (insOf nds)).filter (pR nds out on x)).count r = if ned (insOf nds) out r = true ∧ led nds out on r = x then 1 else 0 := by
        rw [List.Nodup.count (hnd.filter _)]
        have : r ∈ (ord (insOf nds)).filter (pR nds out on x) ↔ ned (insOf nds) out r = true ∧ led nds out on r = x := by
          rw [List.mem_filter, pR_iff]
          exact ⟨fun h => h.2, fun h2 => ⟨h.full r hr, h2⟩⟩
        by_cases hc : ned (insOf nds) out r = true ∧ led nds out on r = x
        · rw [if_pos hc, if_pos (this.2 hc)]
        · rw [if_neg hc, if_neg fun h => hc (this.1 h)]
      rw [hf, List.count_cons]
      by_cases hn : ned (insOf nds) out r = true
      · rw [if_pos hn, if_pos hn]
        by_cases hx : led nds out on r = x
        · rw [if_pos ⟨hn, hx⟩, if_pos (by rw [hx]; simp)]; omega
        · rw [if_neg (fun h => hx h.2), if_neg (by simpa using fun h => hx h.symm)]; omega
      · rw [if_neg hn, if_neg hn, if_neg (fun h => hn h.1)]
  rw [key]
  by_cases hn : ned (insOf nds) out r = true
  · rw [if_pos hn, if_pos hn, List.Nodup.count hnd, if_pos (h.full _ (h.led_up hr).2.1)]
  · rw [if_neg hn, if_neg hn]
end
end Go.Proofs.YtmhfabekmgcjnaaDoor
