/- A region that draws its order, whose operations read and whose callees turn nothing that was there, but for the last one, which waits for all the others: one walk, in the order of the text; the last one at its end. Plain: no program. -/
import Derived.Test.YtfjeohnigikmoaaDoorLast
namespace Go.Bx
open Go.RowKit
set_option linter.unusedVariables false

theorem fr_congr2 {L L' : Nat → Bool} {vs vs' : Nat → Value} : ∀ (l : List Oper) (k : Nat) (a : Act), (∀ j, k ≤ j → L j = L' j ∧ (L j = true → vs j = vs' j)) → fr L vs l k a = fr L' vs' l k a
  | [], _, _, _ => rfl
  | o :: l, k, a, h => by
    have h0 := h k (Nat.le_refl _)
    have e : (if L k = true then a.put o.dst (vs k) else a) = (if L' k = true then a.put o.dst (vs' k) else a) := by
      rw [← h0.1]
      by_cases hl : L k = true
      · rw [if_pos hl, if_pos hl, h0.2 hl]
      · rw [if_neg hl, if_neg hl]
    simp only [fr]
    rw [e]
    exact fr_congr2 l (k + 1) _ fun j hj => h j (by omega)
theorem put_at2 {a a' : Act} {t : Tmp} (h : a.tmps[t]? = a'.tmps[t]?) (d : Option Tmp) (v v' : Value) (hv : d = some t → v = v') : (a.put d v).tmps[t]? = (a'.put d v').tmps[t]? := by
  by_cases e : d = some t
  · rw [hv e]; exact put_at h d v'
  · rw [put_off _ _ e, put_off _ _ e]; exact h
theorem fr_at2 {L L' : Nat → Bool} {vs vs' : Nat → Value} {t : Tmp} : ∀ (l : List Oper) (k : Nat) (a a' : Act), a.tmps[t]? = a'.tmps[t]? → (∀ j o, l[j]? = some o → o.dst = some t → L (k + j) = L' (k + j) ∧ vs (k + j) = vs' (k + j)) → (fr L vs l k a).tmps[t]? = (fr L' vs' l k a').tmps[t]?
  | [], _, _, _, h, _ => h
  | o :: l, k, a, a', h, hd => by
    simp only [fr]
    refine fr_at2 l (k + 1) _ _ ?_ fun j o' hj ho' => by
      have := hd (j + 1) o' (by simpa using hj) ho'
      rw [show k + (j + 1) = k + 1 + j by omega] at this
      exact this
    by_cases e : o.dst = some t
    · have h2 := hd 0 o rfl e
      rw [Nat.add_zero] at h2
      rw [h2.1]
      split
      · exact put_at2 h _ _ _ fun _ => h2.2
      · exact h
    · split <;> split
      · rw [put_off _ _ e, put_off _ _ e]; exact h
      · rw [put_off _ _ e]; exact h
      · rw [put_off _ _ e]; exact h
      · exact h
section
variable {P : Program} {Q : Exit → Act → World → Prop} {a0 : Act} {w0 : World} {l : List Oper} {C : World → Prop}
theorem quiet_vals {R : Act → Prop} (hdst : ∀ (i j : Nat) (oi oj : Oper), l[i]? = some oi → l[j]? = some oj → i ≠ j → ∀ t, oi.dst = some t → oj.dst ≠ some t) : ∀ (m : List Oper) (i : Nat) (vs0 : Nat → Value), (∀ j, j < m.length → m[j]? = l[i + j]?) →
    wpQuiet P l.toArray C R m (fr (fun q => decide (q < i)) vs0 l 0 a0) →
    ∃ vs, (∀ j, j < i → vs j = vs0 j) ∧ (∀ j, i ≤ j → j < i + m.length → ∀ o, l[j]? = some o → YieldsIn P l.toArray C o (vs j) (fr (fun q => decide (q < j)) vs l 0 a0)) ∧ R (fr (fun q => decide (q < i + m.length)) vs l 0 a0)
  | [], i, vs0, _, h => ⟨vs0, fun _ _ => rfl, fun j h1 h2 => by simp at h2; omega, by simpa [wpQuiet] using h⟩
  | o :: m, i, vs0, hm, h => by
    have ho : l[i]? = some o := by have := hm 0 (by simp); simpa using this.symm
    have hq : qOp P l.toArray C i (wpQuiet P l.toArray C R m) (fr (fun q => decide (q < i)) vs0 l 0 a0) := by
      unfold qOp
      simp only [List.getElem?_toArray, ho]
      exact h
    obtain ⟨v, hy, hrest⟩ := yieldsIn_of_qOp (by simpa using ho) hq
    have hput : (fr (fun q => decide (q < i)) vs0 l 0 a0).put o.dst v = fr (fun q => decide (q < i + 1)) (upd vs0 i v) l 0 a0 := by
      have h1 := fr_step (L := fun q => decide (q < i)) (vs := vs0) (v := v) l 0 i a0 o ho (by simp) fun j o' hj hne t ht => hdst i j o o' ho hj (fun e => hne e.symm) t ht
      rw [← h1, Nat.zero_add]
      refine fr_congr2 l 0 a0 fun j _ => ⟨?_, fun _ => rfl⟩
      unfold upd
      by_cases e : j = i
      · subst e; simp
      · simp only [e, if_false]
        exact decide_eq_decide.2 (by omega)
    rw [hput] at hrest
    obtain ⟨vs, h1, h2, h3⟩ := quiet_vals hdst m (i + 1) (upd vs0 i v) (fun j hj => by have := hm (j + 1) (by simpa using hj); simp at this; rw [this]; congr 1; omega) hrest
    have hvi : vs i = v := by rw [h1 i (by omega)]; simp [upd]
    have hold : ∀ j, j < i → vs j = vs0 j := fun j hj => by rw [h1 j (by omega)]; simp [upd, show j ≠ i by omega]
    refine ⟨vs, hold, fun j hij hj o' ho' => ?_, ?_⟩
    · by_cases e : j = i
      · subst e
        rw [ho] at ho'
        cases ho'
        rw [hvi, fr_congr2 (L' := fun q => decide (q < j)) (vs' := vs0) l 0 a0 fun q _ => ⟨rfl, fun hq => hold q (of_decide_eq_true hq)⟩]
        exact hy
      · exact h2 j (by omega) (by simp at hj; omega) o' ho'
    · rw [List.length_cons, show i + (m.length + 1) = i + 1 + m.length by omega]
      exact h3
/-- **the region, walked once, its last operation at the end** -/
theorem wp_region_kept_last {id : Nat} (n k : Nat) (last : Oper) (hl : l[k]? = some last) (hlen : l.length = k + 1) (hm : P.follows .mixedOrders = true) (hB : monoB l = true)
    (h : wpQuiet P l.toArray (fun w' => ∃ s : Kept n w0, w' = s.w) (fun a' => ∀ s : Kept n w0, Shut (stepsTo P l.toArray last a' s.w (fun v w' => Q .normal (a'.put last.dst v) w'))) (l.take k) a0) : (Code.region id l.toArray true).wp P Q a0 w0 := by
  have hB' := hB
  unfold monoB at hB'
  rw [Bool.and_eq_true, List.all_eq_true] at hB'
  have hB1 : ∀ i oi, l[i]? = some oi → _ := fun i oi hi => by
    have := hB'.2 i (List.mem_range.2 (List.getElem?_eq_some_iff.1 hi).1)
    simp only [hi, Bool.and_eq_true] at this
    exact this
  have hd2 : ∀ i j oi oj d, l[i]? = some oi → l[j]? = some oj → oj.dst = some d → (i = j ∨ oi.dst ≠ some d) ∧ (d ∈ oi.looksAt l.toArray → depB oi j = true) := fun i j oi oj d hi hj hd => by
    have := (hB1 i oi hi).2
    rw [List.all_eq_true] at this
    have := this j (List.mem_range.2 (List.getElem?_eq_some_iff.1 hj).1)
    simp only [hj, hd, Bool.and_eq_true, Bool.or_eq_true, beq_iff_eq, bne_iff_ne, ne_eq] at this
    refine ⟨this.1, fun hm => ?_⟩
    rcases this.2 with h | h
    · rw [Bool.not_eq_true'] at h
      have hc : (oi.looksAt l.toArray).contains d = true := by simpa using hm
      rw [hc] at h
      cases h
    · exact h
  have hacyc : ∀ i oi, l[i]? = some oi → ∀ j, depB oi j = true → j < i := fun i oi hi j hj => by
    have h1 := (hB1 i oi hi).1.1
    rw [Array.all_eq_true'] at h1
    unfold depB at hj
    rw [Array.any_eq_true'] at hj
    obtain ⟨e, he, hb⟩ := hj
    simp only [Bool.and_eq_true, beq_iff_eq] at hb
    have := h1 e he
    simp [hb.1] at this
    omega
  have hsel : ∀ (j : Nat) (o : Oper) cs b, l[j]? = some o → o.op ≠ .select cs b := fun j o cs b ho => Region.noSelect_spec hB'.1 j o cs b (by simpa using ho)
  have hfr : a0 = fr (fun q => decide (q < 0)) (fun _ => undef) l 0 a0 := by
    have hgen : ∀ (l' : List Oper) (k : Nat) (a : Act), a = fr (fun q => decide (q < 0)) (fun _ => undef) l' k a := by
      intro l'
      induction l' with
      | nil => intro _ _; rfl
      | cons o l' ih =>
        intro k a
        simp only [fr, Nat.not_lt_zero, decide_false, Bool.false_eq_true, if_false]
        exact ih (k + 1) a
    exact hgen l 0 a0
  rw [hfr] at h
  obtain ⟨vs, _, hy, hR⟩ := quiet_vals (a0 := a0) (fun i j oi oj hi hj hne t ht => by
    rcases (hd2 j i oj oi t hj hi ht).1 with h | h
    · exact absurd h.symm hne
    · exact h) (l.take k) 0 (fun _ => undef) (fun j hj => by rw [Nat.zero_add, List.getElem?_take_of_lt (by rw [List.length_take] at hj; omega)]) h
  have hk : (l.take k).length = k := by rw [List.length_take]; omega
  rw [Nat.zero_add, hk] at hR
  rw [hk] at hy
  refine wp_region_last (fun w' => ∃ s : Kept n w0, w' = s.w) (fun i v _ => v = vs i) k last hl hlen hm hB ⟨⟨w0.drew, (Below.refl _ w0).drew⟩, rfl⟩ (fun i hi o ho vs' W hC hdep => ?_) (fun vs' W hC hT => ?_)
  · have hyi := hy i (Nat.zero_le _) (by omega) o ho
    have hlooks : ∀ t ∈ o.looksAt l.toArray, (fr (fun q => decide (q < i)) vs l 0 a0).tmps[t]? = (fr (fun _ => true) vs' l 0 a0).tmps[t]? := fun t ht =>
      fr_at2 l 0 a0 a0 rfl fun j oj hj hd => by
        have hd3 := (hd2 i j o oj t ho hj hd).2 ht
        rw [Nat.zero_add]
        exact ⟨decide_eq_true (hacyc i o ho j hd3), (hdep j hd3).symm⟩
    refine steps_same o (fun cs b => hsel i o cs b ho) hlooks ?_
    unfold stepsTo
    rcases hyi with ⟨hw, hv⟩ | ⟨hw, hv⟩
    · rw [if_pos hw]
      have h1 := hv W hC
      unfold Oper.quietAt at h1
      unfold gives
      generalize (execOp (fr (fun q => decide (q < i)) vs l 0 a0).eval o).run P W = r at *
      cases r with
      | ok nx w' =>
        cases nx <;> simp only [Oper.quietUpon] at h1 ⊢
        case value u => obtain ⟨e1, e2⟩ := h1; rw [e1, e2]; exact ⟨rfl, hC, fun _ _ _ h => h⟩
        case skip => obtain ⟨e1, e2⟩ := h1; rw [e1]; exact ⟨e2.symm, hC, fun _ _ _ h => h⟩
        case enter f args =>
          obtain ⟨e1, hc⟩ := h1
          rw [e1]
          exact hc.mono fun e w'' ⟨he, hw''⟩ => ⟨_, he, rfl, hw'', fun _ _ _ h => h⟩
      | halt x w' => simp only [Oper.quietUpon] at h1
    · rw [if_neg (by rw [hw]; simp)]
      exact ⟨hv.symm, hC, fun _ _ _ h => h⟩
  · obtain ⟨s, rfl⟩ := hC
    have := hR s
    rw [fr_congr2 (L' := fun j => decide (j < k)) (vs' := vs') l 0 a0 fun q _ => ⟨rfl, fun hq => (hT q (of_decide_eq_true hq)).symm⟩] at this
    exact this
end
end Go.Bx
