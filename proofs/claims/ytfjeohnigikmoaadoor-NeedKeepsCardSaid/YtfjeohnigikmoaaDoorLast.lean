/- A region that draws its order, the last operation waiting for all the others: each of those keeps what the others yielded. Plain: no program. -/
import Derived.Test.YtfjeohnigikmoaaDoorEach
namespace Go.Bx
open Go.RowKit
set_option linter.unusedVariables false

section
variable {P : Program} {Q : Exit → Act → World → Prop} {a0 : Act} {w0 : World} {l : List Oper}
theorem last_any (I : World → Prop) (T : Nat → Value → World → Prop) (k : Nat) (last : Oper) (hl : l[k]? = some last) (hlen : l.length = k + 1) (hsel : Region.noSelect l.toArray = true)
    (hacyc : ∀ i oi, l[i]? = some oi → ∀ e ∈ oi.after, Region.binds .any e = true → e.on < i)
    (hcl : ∀ i, i < k → ∃ j oj, i < j ∧ l[j]? = some oj ∧ depB oj i = true)
    (hdst : ∀ i j oi oj d, l[i]? = some oi → l[j]? = some oj → oj.dst = some d → (i = j ∨ oi.dst ≠ some d) ∧ (d ∈ oi.looksAt l.toArray → depB oi j = true))
    (hop : ∀ i, i < k → OpIs P l a0 I T i)
    (hlast : ∀ vs w, I w → (∀ i, i < k → T i (vs i) w) → stepsTo P l.toArray last (fr (fun j => decide (j < k)) vs l 0 a0) w (fun v w' => Q .normal ((fr (fun j => decide (j < k)) vs l 0 a0).put last.dst v) w')) :
    ∀ (fuel : Nat) (listed : Array Bool) (vs : Nat → Value) (w : World), listed.size = l.length →
      (∀ i oi, l[i]? = some oi → listed.getD i false = true → ∀ e ∈ oi.after, Region.binds .any e = true → listed.getD e.on false = true) →
      listed.getD k false = false → (∀ i, i < k → listed.getD i false = true → T i (vs i) w) → I w → (List.range l.length).countP (fun i => !listed.getD i false) ≤ fuel →
      wpAny P .any l.toArray Q fuel listed (fr (fun j => listed.getD j false) vs l 0 a0) w := by
  intro fuel
  induction fuel with
  | zero =>
    intro listed vs w hsz hdown hk hT hw hf
    have : 0 < (List.range l.length).countP (fun i => !listed.getD i false) := List.countP_pos_iff.2 ⟨k, List.mem_range.2 (by omega), by simp [hk]⟩
    omega
  | succ fuel ih =>
    intro listed vs w hsz hdown hk hT hw hf
    have hgd : ∀ j, j < l.length → listed.getD j true = listed.getD j false := fun j hj => by
      rw [← hsz] at hj
      simp [hj]
    have hout : ∀ j, l.length ≤ j → listed.getD j false = false := fun j hj => by
      rw [← hsz] at hj
      simp [Array.getElem?_eq_none hj]
    have hselo : ∀ (j : Nat) (o : Oper) cs b, l[j]? = some o → o.op ≠ .select cs b := fun j o cs b ho => Region.noSelect_spec hsel j o cs b (by simpa using ho)
    refine ⟨fun h => ?_, fun i hi => ?_⟩
    · exfalso
      -- the least that has not come up may come up
      have hex : ∃ m, m ≤ k ∧ listed.getD m false = false ∧ ∀ j, j < m → listed.getD j false = true := by
        clear h hT hw hf hdown
        have : ∀ n, (∃ m, m ≤ n ∧ listed.getD m false = false ∧ ∀ j, j < m → listed.getD j false = true) ∨ ∀ j, j ≤ n → listed.getD j false = true := by
          intro n
          induction n with
          | zero =>
            cases e : listed.getD 0 false with
            | false => exact .inl ⟨0, Nat.le_refl _, e, fun j hj => by omega⟩
            | true => exact .inr fun j hj => by rw [show j = 0 by omega]; exact e
          | succ n ihn =>
            rcases ihn with ⟨m, hm, h1, h2⟩ | h1
            · exact .inl ⟨m, by omega, h1, h2⟩
            · cases e : listed.getD (n + 1) false with
              | false => exact .inl ⟨n + 1, Nat.le_refl _, e, fun j hj => h1 j (by omega)⟩
              | true =>
                refine .inr fun j hj => ?_
                by_cases hjn : j ≤ n
                · exact h1 j hjn
                · rw [show j = n + 1 by omega]; exact e
        rcases this k with h2 | h2
        · exact h2
        · rw [h2 k (Nat.le_refl _)] at hk; cases hk
      obtain ⟨m, hm, h1, h2⟩ := hex
      obtain ⟨o, ho⟩ : ∃ o, l[m]? = some o := ⟨_, List.getElem?_eq_getElem (by omega)⟩
      have : m ∈ Region.ready .any l.toArray listed := mem_ready.2 ⟨by rw [hgd m (by omega)]; exact h1, o, by simpa using ho, fun e he hb => h2 _ (hacyc m o ho e he hb)⟩
      rw [h] at this
      cases this
    · obtain ⟨hun, o, ho', hdeps⟩ := mem_ready.1 hi
      have ho : l[i]? = some o := by simpa using ho'
      have hil : i < l.length := (List.getElem?_eq_some_iff.1 ho).1
      rw [hgd i hil] at hun
      have hdep : ∀ j, depB o j = true → listed.getD j false = true := fun j hj => by
        unfold depB at hj
        rw [Array.any_eq_true'] at hj
        obtain ⟨e, he, hb⟩ := hj
        simp only [Bool.and_eq_true, beq_iff_eq] at hb
        rw [← hb.2]
        exact hdeps e he hb.1
      have hlooks : ∀ (L' : Nat → Bool), (∀ j, depB o j = true → L' j = true) → ∀ t ∈ o.looksAt l.toArray, (fr L' vs l 0 a0).tmps[t]? = (fr (fun j => listed.getD j false) vs l 0 a0).tmps[t]? := fun L' hL' t ht =>
        fr_at l 0 a0 a0 rfl fun j oj hj hd => by
          have hd2 := (hdst i j o oj t ho hj hd).2 ht
          rw [Nat.zero_add, hL' j hd2, hdep j hd2]
      by_cases hik : i = k
      · subst hik
        rw [hl] at ho
        cases ho
        have hall : ∀ n j, i - j ≤ n → j < i → listed.getD j false = true := by
          intro n
          induction n with
          | zero => intro j h1 h2; omega
          | succ n ihn =>
            intro j h1 h2
            obtain ⟨m, om, hm, hom, hd⟩ := hcl j h2
            have hml : m < l.length := (List.getElem?_eq_some_iff.1 hom).1
            by_cases e : m = i
            · subst e
              rw [hl] at hom
              cases hom
              exact hdep j hd
            · have := ihn m (by omega) (by omega)
              unfold depB at hd
              rw [Array.any_eq_true'] at hd
              obtain ⟨e', he, hb⟩ := hd
              simp only [Bool.and_eq_true, beq_iff_eq] at hb
              rw [← hb.2]
              exact hdown m om hom this e' he hb.1
        have hL : ∀ j, listed.getD j false = decide (j < i) := fun j => by
          by_cases h1 : j < i
          · rw [hall i j (by omega) h1]; simp [h1]
          · rw [decide_eq_false h1]
            by_cases h2 : j = i
            · rw [h2]; exact hun
            · exact hout j (by omega)
        have hfr : fr (fun j => listed.getD j false) vs l 0 a0 = fr (fun j => decide (j < i)) vs l 0 a0 := fr_congr l 0 a0 fun j _ => ⟨hL j, rfl⟩
        rw [hfr]
        have hs := hlast vs w hw (fun j hj => hT j hj (hall i j (by omega) hj))
        have hdone : ∀ a w', Q .normal a w' → wpAny P .any l.toArray Q fuel (listed.setIfInBounds i true) a w' := fun a w' hq => any_done (by
          rw [List.eq_nil_iff_forall_not_mem]
          intro j hj
          obtain ⟨h1, oj, hoj, _⟩ := mem_ready.1 hj
          by_cases e : i = j
          · subst e
            have : i < listed.size := by omega
            simp [this] at h1
          · rw [getD_set_ne true e] at h1
            have hjl : j < l.length := (List.getElem?_eq_some_iff.1 (by simpa using hoj)).1
            rw [hgd j hjl, hall i j (by omega) (by omega)] at h1
            cases h1) hq fuel
        unfold wpOp
        simp only [ho']
        unfold stepsTo at hs
        split
        · rename_i hw'
          simp only [hw', if_true] at hs
          exact .inl (gives_put hs fun v w' h => hdone _ _ h)
        · rename_i hw'
          simp only [hw'] at hs
          exact hdone _ _ hs
      · have hs0 := hop i (by omega) o ho vs w hw (fun j hj => hT j (by
          unfold depB at hj
          rw [Array.any_eq_true'] at hj
          obtain ⟨e, he, hb⟩ := hj
          simp only [Bool.and_eq_true, beq_iff_eq] at hb
          have := hacyc i o ho e he hb.1
          omega) (hdep j hj))
        have hs := steps_same o (fun cs b => hselo i o cs b ho) (hlooks (fun _ => true) fun _ _ => rfl) hs0
        have hnext : ∀ v w', (T i v w' ∧ I w' ∧ ∀ j u, j ≠ i → T j u w → T j u w') → wpAny P .any l.toArray Q fuel (listed.setIfInBounds i true) ((fr (fun j => listed.getD j false) vs l 0 a0).put o.dst v) w' := by
          intro v w' ⟨hTv, hIw, hkeep⟩
          have hset : ∀ j, (listed.setIfInBounds i true).getD j false = upd (fun j => listed.getD j false) i true j := fun j => by
            by_cases e : i = j
            · subst e
              have : i < listed.size := by omega
              simp [this, upd]
            · rw [getD_set_ne false e]; exact (if_neg fun h => e h.symm).symm
          have hfr : fr (fun j => (listed.setIfInBounds i true).getD j false) (upd vs i v) l 0 a0 = (fr (fun j => listed.getD j false) vs l 0 a0).put o.dst v := by
            rw [fr_congr (L' := upd (fun j => listed.getD j false) (0 + i) true) (vs' := upd vs (0 + i) v) l 0 a0 fun j _ => by rw [Nat.zero_add]; exact ⟨hset j, rfl⟩]
            exact fr_step l 0 i a0 o ho (by rw [Nat.zero_add]; exact hun) fun j o' hj hne t ht => by
              rcases (hdst j i o' o t hj ho ht).1 with h | h
              · exact absurd h hne
              · exact h
          rw [← hfr]
          refine ih _ _ w' (by simpa using hsz) ?_ ?_ ?_ hIw ?_
          · intro j oj hj hlj e he hbd
            rw [hset] at hlj
            rw [hset]
            by_cases e1 : e.on = i
            · exact if_pos e1
            · rw [show upd (fun j => listed.getD j false) i true e.on = listed.getD e.on false from if_neg e1]
              by_cases e2 : j = i
              · subst e2
                rw [ho] at hj
                cases hj
                exact hdeps e he hbd
              · rw [show upd (fun j => listed.getD j false) i true j = listed.getD j false from if_neg e2] at hlj
                exact hdown j oj hj hlj e he hbd
          · rw [hset]; rw [show upd (fun j => listed.getD j false) i true k = listed.getD k false from if_neg fun h => hik h.symm]; exact hk
          · intro j hj hlj
            by_cases e : j = i
            · subst e
              rw [show upd vs j v j = v from if_pos rfl]; exact hTv
            · rw [show upd vs i v j = vs j from if_neg e]
              rw [hset, show upd (fun j => listed.getD j false) i true j = listed.getD j false from if_neg e] at hlj
              exact hkeep j _ e (hT j hj hlj)
          · have := countP_one (f := fun i => !listed.getD i false) (g := fun j => !(listed.setIfInBounds i true).getD j false) (i := i) (by simp only [hun]; rfl) (by simp only [hset, upd, if_true]; rfl) (fun j hj => by
              simp only [hset]
              rw [show upd (fun j => listed.getD j false) i true j = listed.getD j false from if_neg hj]) l.length hil
            omega
        unfold wpOp
        simp only [ho']
        unfold stepsTo at hs
        split
        · rename_i hw'
          simp only [hw', if_true] at hs
          exact .inl (gives_put hs hnext)
        · rename_i hw'
          simp only [hw'] at hs
          exact hnext _ _ hs

/-- **A region whose last operation waits for all** -/
theorem wp_region_last {id : Nat} (I : World → Prop) (T : Nat → Value → World → Prop) (k : Nat) (last : Oper) (hl : l[k]? = some last) (hlen : l.length = k + 1) (hm : P.follows .mixedOrders = true) (hB : monoB l = true) (hI : I w0.drew)
    (hop : ∀ i, i < k → OpIs P l a0 I T i)
    (hlast : ∀ vs w, I w → (∀ i, i < k → T i (vs i) w) → Shut (stepsTo P l.toArray last (fr (fun j => decide (j < k)) vs l 0 a0) w (fun v w' => Q .normal ((fr (fun j => decide (j < k)) vs l 0 a0).put last.dst v) w'))) :
    (Code.region id l.toArray true).wp P Q a0 w0 := by
  unfold monoB at hB
  rw [Bool.and_eq_true, List.all_eq_true] at hB
  obtain ⟨hsel, hB⟩ := hB
  have hB1 : ∀ i oi, l[i]? = some oi → _ := fun i oi hi => by
    have := hB i (List.mem_range.2 (List.getElem?_eq_some_iff.1 hi).1)
    simp only [hi, Bool.and_eq_true] at this
    exact this
  refine wp_region_any hm ?_
  have hfr : a0 = fr (fun j => (Array.replicate l.length false).getD j false) (fun _ => undef) l 0 a0 := by
    have hgen : ∀ (l' : List Oper) (k : Nat) (a : Act), a = fr (fun j => (Array.replicate l.length false).getD j false) (fun _ => undef) l' k a := by
      intro l'
      induction l' with
      | nil => intro _ _; rfl
      | cons o l' ih =>
        intro k a
        have : (Array.replicate l.length false).getD k false = false := by
          rcases Nat.lt_or_ge k l.length with h | h
          · simp [h]
          · simp [Array.getElem?_eq_none (xs := Array.replicate l.length false) (i := k) (by simpa using h)]
        simp only [fr, this, Bool.false_eq_true, if_false]
        exact ih (k + 1) a
    exact hgen l 0 a0
  have hrep : ∀ j, (Array.replicate l.length false).getD j false = false := fun k => by
    rcases Nat.lt_or_ge k l.length with h | h
    · simp [h]
    · simp [Array.getElem?_eq_none (xs := Array.replicate l.length false) (i := k) (by simpa using h)]
  have hmain := last_any (P := P) (Q := Q) (a0 := a0) I T k last hl hlen hsel ?_ ?_ ?_ hop (fun vs w h1 h2 => (hlast vs w h1 h2).out) l.length (Array.replicate l.length false) (fun _ => undef) { w0 with drawn := w0.drawn + 1 } (by simp)
    (fun i _ _ h => by rw [hrep i] at h; cases h) (hrep k) (fun i _ h => by rw [hrep i] at h; cases h) hI (by
      have := List.countP_le_length (p := fun i => !(Array.replicate l.length false).getD i false) (l := List.range l.length)
      simpa using this)
  · rw [← hfr] at hmain
    simpa using hmain
  · intro i oi hi e he hb
    have := (hB1 i oi hi).1.1
    rw [Array.all_eq_true'] at this
    have := this e he
    simpa [hb] using this
  · intro i hi
    have := (hB1 i l[i] (List.getElem?_eq_getElem (by omega))).1.2
    simp only [Bool.or_eq_true, beq_iff_eq, List.any_eq_true, Bool.and_eq_true, decide_eq_true_eq] at this
    rcases this with h | ⟨j, _, h1, h2⟩
    · omega
    · split at h2
      · rename_i oj hj
        exact ⟨j, oj, h1, hj, h2⟩
      · cases h2
  · intro i j oi oj d hi hj hd
    have := (hB1 i oi hi).2
    rw [List.all_eq_true] at this
    have := this j (List.mem_range.2 (List.getElem?_eq_some_iff.1 hj).1)
    simp only [hj, hd, Bool.and_eq_true, Bool.or_eq_true, beq_iff_eq, bne_iff_ne, Bool.not_eq_true', List.contains_eq_mem, decide_eq_false_iff_not, ne_eq] at this
    refine ⟨this.1, fun hm => ?_⟩
    rcases this.2 with h | h
    · exact absurd hm (by simpa using h)
    · exact h
end
end Go.Bx
