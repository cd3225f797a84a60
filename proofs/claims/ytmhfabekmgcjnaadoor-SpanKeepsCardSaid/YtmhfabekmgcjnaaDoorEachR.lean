/- A region that draws its order: each operation is looked at once; what it yields may be told beside what another one, that it waits for, yielded. Plain: no program. -/
import Derived.Test.YtmhfabekmgcjnaaDoorEach
namespace Go.Bx
open Go.RowKit
set_option linter.unusedVariables false

section
variable {P : Program} {Q : Exit → Act → World → Prop} {a0 : Act} {w0 : World} {l : List Oper}
def eachLB (late : Nat → Bool) (l : List Oper) : Bool :=
  Region.noSelect l.toArray &&
  (List.range l.length).all fun i => match l[i]? with
    | none => false
    | some oi => (oi.after.all fun e => !Region.binds .any e || decide (e.on < i)) &&
        (List.range l.length).all fun j => match l[j]? with
          | none => false
          | some oj => match oj.dst with
            | none => true
            | some d => (i == j || oi.dst != some d) && (!(oi.looksAt l.toArray).contains d || (if late j then depB oj i else depB oi j))
theorem eachLB_parts {late : Nat → Bool} (hB : eachLB late l = true) : Region.noSelect l.toArray = true ∧ (∀ i oi, l[i]? = some oi → ∀ e ∈ oi.after, Region.binds .any e = true → e.on < i) ∧
    (∀ i j oi oj d, l[i]? = some oi → l[j]? = some oj → oj.dst = some d → (i = j ∨ oi.dst ≠ some d) ∧ (d ∈ oi.looksAt l.toArray → if late j = true then depB oj i = true else depB oi j = true)) := by
  unfold eachLB at hB
  rw [Bool.and_eq_true, List.all_eq_true] at hB
  obtain ⟨hsel, hB⟩ := hB
  have hB1 : ∀ i oi, l[i]? = some oi → _ := fun i oi hi => by
    have := hB i (List.mem_range.2 (List.getElem?_eq_some_iff.1 hi).1)
    simp only [hi, Bool.and_eq_true] at this
    exact this
  refine ⟨hsel, fun i oi hi e he hb => ?_, fun i j oi oj d hi hj hd => ?_⟩
  · have := (hB1 i oi hi).1
    rw [Array.all_eq_true'] at this
    have := this e he
    simpa [hb] using this
  · have := (hB1 i oi hi).2
    rw [List.all_eq_true] at this
    have := this j (List.mem_range.2 (List.getElem?_eq_some_iff.1 hj).1)
    simp only [hj, hd, Bool.and_eq_true, Bool.or_eq_true, beq_iff_eq, bne_iff_ne, Bool.not_eq_true', List.contains_eq_mem, decide_eq_false_iff_not, ne_eq] at this
    refine ⟨this.1, fun hm => ?_⟩
    rcases this.2 with h | h
    · exact absurd hm (by simpa using h)
    · cases hl : late j <;> simp [hl] at h ⊢ <;> exact h
/-- what an operation finds in the frame, when the late ones have not come up -/
structure FindsL (late : Nat → Bool) (l : List Oper) (a0 : Act) (vs : Nat → Value) (ev : Operand → Value) : Prop where
  of : ∀ (j : Nat) (oj : Oper) (d : Tmp), late j = false → l[j]? = some oj → oj.dst = some d → d < a0.tmps.size → ev (.tmp d) = vs j
  off : ∀ t, ((List.range l.length).all fun j => late j || match l[j]? with | some o => o.dst != some t | none => true) = true → ev (.tmp t) = a0.eval (.tmp t)
  const : ∀ v, ev (.const v) = v
  func : ∀ f, ev (.func f) = .func (.func f) #[] #[]
theorem fr_offL {L : Nat → Bool} {vs : Nat → Value} {t : Tmp} : ∀ (l : List Oper) (k : Nat) (a : Act), (∀ j o, l[j]? = some o → o.dst = some t → L (k + j) = false) → (fr L vs l k a).tmps[t]? = a.tmps[t]?
  | [], _, _, _ => rfl
  | o :: l, k, a, h => by
    simp only [fr]
    rw [fr_offL l (k + 1) _ fun j o' hj hd => by
      have := h (j + 1) o' (by simpa using hj) hd
      rw [show k + (j + 1) = k + 1 + j by omega] at this
      exact this]
    split
    · rename_i hL
      by_cases e : o.dst = some t
      · have := h 0 o rfl e
        rw [Nat.add_zero, hL] at this; cases this
      · exact put_off _ _ e
    · rfl
theorem findsL {late : Nat → Bool} {vs : Nat → Value} (hB : eachLB late l = true) : FindsL late l a0 vs (fr (fun j => !late j) vs l 0 a0).eval := by
  obtain ⟨h1, h2, h3⟩ := eachLB_parts hB
  refine ⟨fun j oj d hLj hj hd hlt => ?_, fun t ht => ?_, fun _ => rfl, fun _ => rfl⟩
  · have := fr_of (L := fun j => !late j) (vs := vs) l 0 j a0 oj hj hd (by rw [Nat.zero_add, hLj]; rfl) (fun i o' hi hne => by
      rcases (h3 i j o' oj d hi hj hd).1 with h | h
      · exact absurd h hne
      · exact h) hlt
    rw [Nat.zero_add] at this
    simp only [Act.eval, Array.getD_eq_getD_getElem?, this, Option.getD_some]
  · rw [List.all_eq_true] at ht
    have := fr_offL (L := fun j => !late j) (vs := vs) (t := t) l 0 a0 fun j o hj hd => by
      have := ht j (List.mem_range.2 (List.getElem?_eq_some_iff.1 hj).1)
      rw [hj] at this
      simp [hd] at this
      rw [Nat.zero_add, this]; rfl
    simp only [Act.eval, Array.getD_eq_getD_getElem?, this]
/-- what is asked of operation i -/
def OpIsR (P : Program) (l : List Oper) (a0 : Act) (I : World → Prop) (late : Nat → Bool) (ref dead : Nat → Nat) (T : Nat → Value → Value → World → Prop) (i : Nat) : Prop :=
  ∀ o, l[i]? = some o → ∀ vs w, I w → (∀ j, depB o j = true → dead j = i ∨ l.length ≤ dead j ∨ (∃ od, l[dead j]? = some od ∧ depB od i = true) → T j (vs j) (vs (ref j)) w) → stepsTo P l.toArray o (fr (fun j => !late j) vs l 0 a0) w (fun v w' => T i v (upd vs i v (ref i)) w' ∧ I w' ∧ ∀ j u u', j ≠ i → dead j ≠ i → T j u u' w → T j u u' w')

theorem each_anyR (I : World → Prop) (late : Nat → Bool) (ref dead : Nat → Nat) (T : Nat → Value → Value → World → Prop) (hsel : Region.noSelect l.toArray = true)
    (hacyc : ∀ i oi, l[i]? = some oi → ∀ e ∈ oi.after, Region.binds .any e = true → e.on < i)
    (hdst : ∀ i j oi oj d, l[i]? = some oi → l[j]? = some oj → oj.dst = some d → (i = j ∨ oi.dst ≠ some d) ∧ (d ∈ oi.looksAt l.toArray → if late j = true then depB oj i = true else depB oi j = true))
    (href : ∀ j oj, l[j]? = some oj → ref j = j ∨ depB oj (ref j) = true)
    (hop : ∀ i, i < l.length → OpIsR P l a0 I late ref dead T i)
    (hend : ∀ vs w, I w → (∀ i, i < l.length → l.length ≤ dead i → T i (vs i) (vs (ref i)) w) → Q .normal (fr (fun _ => true) vs l 0 a0) w) :
    ∀ (fuel : Nat) (listed : Array Bool) (vs : Nat → Value) (w : World), listed.size = l.length →
      (∀ i oi, l[i]? = some oi → listed.getD i false = true → ∀ e ∈ oi.after, Region.binds .any e = true → listed.getD e.on false = true) →
      (∀ i, i < l.length → listed.getD i false = true → listed.getD (dead i) false = false → T i (vs i) (vs (ref i)) w) → I w → (List.range l.length).countP (fun i => !listed.getD i false) ≤ fuel →
      wpAny P .any l.toArray Q fuel listed (fr (fun j => listed.getD j false) vs l 0 a0) w := by
  intro fuel
  have hout' : ∀ (listed : Array Bool), listed.size = l.length → ∀ j, l.length ≤ j → listed.getD j false = false := fun listed hsz j hj => by
    rw [← hsz] at hj
    simp [Array.getElem?_eq_none hj]
  induction fuel with
  | zero =>
    intro listed vs w hsz hdown hT hw hf
    have hout := hout' listed hsz
    have hall : ∀ j, j < l.length → listed.getD j false = true := by
      intro j hj
      cases e : listed.getD j false with
      | true => rfl
      | false =>
        have : 0 < (List.range l.length).countP (fun i => !listed.getD i false) := List.countP_pos_iff.2 ⟨j, List.mem_range.2 hj, by simp [e]⟩
        omega
    refine any_done (ready_nil hsz hall) ?_ 0
    rw [fr_congr' (L' := fun _ => true) l 0 a0 fun j _ hj => hall j (by omega)]
    exact hend vs w hw fun i hi hd => hT i hi (hall i hi) (hout _ hd)
  | succ fuel ih =>
    intro listed vs w hsz hdown hT hw hf
    have hout := hout' listed hsz
    by_cases hall : ∀ j, j < l.length → listed.getD j false = true
    · refine any_done (ready_nil hsz hall) ?_ _
      rw [fr_congr' (L' := fun _ => true) l 0 a0 fun j _ hj => hall j (by omega)]
      exact hend vs w hw fun i hi hd => hT i hi (hall i hi) (hout _ hd)
    have hgd : ∀ j, j < l.length → listed.getD j true = listed.getD j false := fun j hj => by
      rw [← hsz] at hj
      simp [hj]
    have hselo : ∀ (j : Nat) (o : Oper) cs b, l[j]? = some o → o.op ≠ .select cs b := fun j o cs b ho => Region.noSelect_spec hsel j o cs b (by simpa using ho)
    refine ⟨fun h => ?_, fun i hi => ?_⟩
    · exfalso
      have hex : ∃ m, m < l.length ∧ listed.getD m false = false ∧ ∀ j, j < m → listed.getD j false = true := by
        have : ∀ n, (∃ m, m < n ∧ listed.getD m false = false ∧ ∀ j, j < m → listed.getD j false = true) ∨ ∀ j, j < n → listed.getD j false = true := by
          intro n
          induction n with
          | zero => exact .inr fun j hj => by omega
          | succ n ihn =>
            rcases ihn with ⟨m, hm, h1, h2⟩ | h1
            · exact .inl ⟨m, by omega, h1, h2⟩
            · cases e : listed.getD n false with
              | false => exact .inl ⟨n, by omega, e, h1⟩
              | true =>
                refine .inr fun j hj => ?_
                by_cases hjn : j < n
                · exact h1 j hjn
                · rw [show j = n by omega]; exact e
        rcases this l.length with h2 | h2
        · exact h2
        · exact absurd h2 hall
      obtain ⟨m, hm, h1, h2⟩ := hex
      obtain ⟨o, ho⟩ : ∃ o, l[m]? = some o := ⟨_, List.getElem?_eq_getElem hm⟩
      have : m ∈ Region.ready .any l.toArray listed := mem_ready.2 ⟨by rw [hgd m hm]; exact h1, o, by simpa using ho, fun e he hb => h2 _ (hacyc m o ho e he hb)⟩
      rw [h] at this
      cases this
    · obtain ⟨hun, o, ho', hdeps⟩ := mem_ready.1 hi
      have ho : l[i]? = some o := by simpa using ho'
      have hil : i < l.length := (List.getElem?_eq_some_iff.1 ho).1
      rw [hgd i hil] at hun
      have hdep : ∀ j, depB o j = true → listed.getD j false = true ∧ j < l.length := fun j hj => by
        unfold depB at hj
        rw [Array.any_eq_true'] at hj
        obtain ⟨e, he, hb⟩ := hj
        simp only [Bool.and_eq_true, beq_iff_eq] at hb
        rw [← hb.2]
        exact ⟨hdeps e he hb.1, Nat.lt_trans (hacyc i o ho e he hb.1) hil⟩
      have hlooks : ∀ t ∈ o.looksAt l.toArray, (fr (fun j => !late j) vs l 0 a0).tmps[t]? = (fr (fun j => listed.getD j false) vs l 0 a0).tmps[t]? := fun t ht =>
        fr_at l 0 a0 a0 rfl fun j oj hj hd => by
          have hd2 := (hdst i j o oj t ho hj hd).2 ht
          rw [Nat.zero_add]
          cases hlj : late j with
          | false =>
            rw [hlj, if_neg (by decide)] at hd2
            rw [(hdep j hd2).1]; rfl
          | true =>
            rw [hlj, if_pos rfl] at hd2
            cases hlist : listed.getD j false with
            | false => rfl
            | true =>
              unfold depB at hd2
              rw [Array.any_eq_true'] at hd2
              obtain ⟨e', he', hb'⟩ := hd2
              simp only [Bool.and_eq_true, beq_iff_eq] at hb'
              have := hdown j oj hj hlist e' he' hb'.1
              rw [hb'.2, hun] at this
              cases this
      have hs0 := hop i hil o ho vs w hw (fun j hj hdd => hT j (hdep j hj).2 (hdep j hj).1 (by
        rcases hdd with h | h | ⟨od, h1, h2⟩
        · rw [h]; exact hun
        · exact hout _ h
        · cases hlj : listed.getD (dead j) false with
          | false => rfl
          | true =>
            unfold depB at h2
            rw [Array.any_eq_true'] at h2
            obtain ⟨e', he', hb'⟩ := h2
            simp only [Bool.and_eq_true, beq_iff_eq] at hb'
            have := hdown (dead j) od h1 hlj e' he' hb'.1
            rw [hb'.2, hun] at this
            cases this))
      have hs := steps_same o (fun cs b => hselo i o cs b ho) hlooks hs0
      have hnext : ∀ v w', (T i v (upd vs i v (ref i)) w' ∧ I w' ∧ ∀ j u u', j ≠ i → dead j ≠ i → T j u u' w → T j u u' w') → wpAny P .any l.toArray Q fuel (listed.setIfInBounds i true) ((fr (fun j => listed.getD j false) vs l 0 a0).put o.dst v) w' := by
        intro v w' ⟨hTv, hIw, hkeep⟩
        have hset : ∀ j, (listed.setIfInBounds i true).getD j false = upd (fun j => listed.getD j false) i true j := fun j => by
          by_cases e : i = j
          · subst e
            have : i < listed.size := by omega
            simp [this, upd]
          · rw [getD_set_ne false e]; exact (if_neg fun h => e h.symm).symm
        have hfr : fr (fun j => (listed.setIfInBounds i true).getD j false) (upd vs i v) l 0 a0 = (fr (fun j => listed.getD j false) vs l 0 a0).put o.dst v := by
          rw [fr_congr (L' := upd (fun j => listed.getD j false) (0 + i) true) (vs' := upd vs (0 + i) v) l 0 a0 fun j _ => by rw [Nat.zero_add]; exact ⟨hset j, rfl⟩]
          exact fr_step l 0 i a0 o ho (by rw [Nat.zero_add]; exact hun) fun j o' hj hne t ht => by
            rcases (hdst j i o' o t hj ho ht).1 with h | h
            · exact absurd h hne
            · exact h
        rw [← hfr]
        refine ih _ _ w' (by simpa using hsz) ?_ ?_ hIw ?_
        · intro j oj hj hlj e he hbd
          rw [hset] at hlj
          rw [hset]
          by_cases e1 : e.on = i
          · exact if_pos e1
          · rw [show upd (fun j => listed.getD j false) i true e.on = listed.getD e.on false from if_neg e1]
            by_cases e2 : j = i
            · subst e2
              rw [ho] at hj
              cases hj
              exact hdeps e he hbd
            · rw [show upd (fun j => listed.getD j false) i true j = listed.getD j false from if_neg e2] at hlj
              exact hdown j oj hj hlj e he hbd
        · intro j hj hlj hdj
          by_cases e : j = i
          · subst e
            rw [show upd vs j v j = v from if_pos rfl]; exact hTv
          · rw [show upd vs i v j = vs j from if_neg e]
            rw [hset, show upd (fun j => listed.getD j false) i true j = listed.getD j false from if_neg e] at hlj
            have hri : ref j ≠ i := by
              intro er
              obtain ⟨oj, hoj⟩ : ∃ oj, l[j]? = some oj := ⟨_, List.getElem?_eq_getElem hj⟩
              rcases href j oj hoj with h1 | h1
              · exact e (h1.symm.trans er)
              · unfold depB at h1
                rw [Array.any_eq_true'] at h1
                obtain ⟨e', he', hb'⟩ := h1
                simp only [Bool.and_eq_true, beq_iff_eq] at hb'
                have := hdown j oj hoj hlj e' he' hb'.1
                rw [hb'.2, er, hun] at this
                cases this
            rw [show upd vs i v (ref j) = vs (ref j) from if_neg hri]
            have hdi : dead j ≠ i := fun h => by
              rw [h, hset, show upd (fun j => listed.getD j false) i true i = true from if_pos rfl] at hdj
              cases hdj
            rw [hset, show upd (fun j => listed.getD j false) i true (dead j) = listed.getD (dead j) false from if_neg hdi] at hdj
            exact hkeep j _ _ e hdi (hT j hj hlj hdj)
        · have := countP_one (f := fun i => !listed.getD i false) (g := fun j => !(listed.setIfInBounds i true).getD j false) (i := i) (by simp only [hun]; rfl) (by simp only [hset, upd, if_true]; rfl) (fun j hj => by
            simp only [hset]
            rw [show upd (fun j => listed.getD j false) i true j = listed.getD j false from if_neg hj]) l.length hil
          omega
      unfold wpOp
      simp only [ho']
      unfold stepsTo at hs
      split
      · rename_i hw'
        simp only [hw', if_true] at hs
        exact .inl (gives_put hs hnext)
      · rename_i hw'
        simp only [hw'] at hs
        exact hnext _ _ hs

/-- **A region that draws its order**: each operation is looked at once, wherever it comes up. -/
theorem wp_region_eachR {id : Nat} (I : World → Prop) (late : Nat → Bool) (ref dead : Nat → Nat) (T : Nat → Value → Value → World → Prop) (hm : P.follows .mixedOrders = true) (hB : eachLB late l = true) (hI : I w0.drew)
    (href : (List.range l.length).all (fun j => ref j == j || match l[j]? with | some oj => depB oj (ref j) | none => false) = true)
    (hop : ∀ i, i < l.length → OpIsR P l a0 I late ref dead T i)
    (hend : ∀ vs w, I w → (∀ i, i < l.length → l.length ≤ dead i → T i (vs i) (vs (ref i)) w) → Shut (Q .normal (fr (fun _ => true) vs l 0 a0) w)) :
    (Code.region id l.toArray true).wp P Q a0 w0 := by
  obtain ⟨h1, h2, h3⟩ := eachLB_parts hB
  refine wp_region_any hm ?_
  have hrep : ∀ j, (Array.replicate l.length false).getD j false = false := fun k => by
    rcases Nat.lt_or_ge k l.length with h | h
    · simp [h]
    · simp [Array.getElem?_eq_none (xs := Array.replicate l.length false) (i := k) (by simpa using h)]
  have hfr : ∀ (l' : List Oper) (k : Nat) (a : Act), a = fr (fun j => (Array.replicate l.length false).getD j false) (fun _ => undef) l' k a := by
    intro l'
    induction l' with
    | nil => intro _ _; rfl
    | cons o l' ih =>
      intro k a
      simp only [fr, hrep k, Bool.false_eq_true, if_false]
      exact ih (k + 1) a
  have href' : ∀ j oj, l[j]? = some oj → ref j = j ∨ depB oj (ref j) = true := fun j oj hj => by
    rw [List.all_eq_true] at href
    have := href j (List.mem_range.2 (List.getElem?_eq_some_iff.1 hj).1)
    simpa [hj] using this
  have hmain := each_anyR (P := P) (Q := Q) (a0 := a0) I late ref dead T h1 h2 h3 href' hop (fun vs w h1 h2 => (hend vs w h1 h2).out) l.length (Array.replicate l.length false) (fun _ => undef) { w0 with drawn := w0.drawn + 1 } (by simp)
    (fun i _ _ h => by rw [hrep i] at h; cases h) (fun i _ h _ => by rw [hrep i] at h; cases h) hI (by
      have := List.countP_le_length (p := fun i => !(Array.replicate l.length false).getD i false) (l := List.range l.length)
      simpa using this)
  rw [← hfr l 0 a0] at hmain
  simpa using hmain


/-- an operation without a guard -/
theorem OpIsR.plain {I : World → Prop} {late : Nat → Bool} {ref dead : Nat → Nat} {T : Nat → Value → Value → World → Prop} {i : Nat} (hB : eachLB late l = true) (o : Oper) (ho : l[i]? = some o) (hg : o.guard = none)
    (h : ∀ vs ev w, FindsL late l a0 vs ev → I w → (∀ j, depB o j = true → dead j = i ∨ l.length ≤ dead j ∨ (∃ od, l[dead j]? = some od ∧ depB od i = true) → T j (vs j) (vs (ref j)) w) → gives P o ev w (fun v w' => T i v (upd vs i v (ref i)) w' ∧ I w' ∧ ∀ j u u', j ≠ i → dead j ≠ i → T j u u' w → T j u u' w')) : OpIsR P l a0 I late ref dead T i := by
  intro o' ho' vs w hb hd
  rw [ho] at ho'
  cases ho'
  unfold stepsTo
  rw [if_pos (by simp [Region.wanted, hg])]
  exact h vs _ w (findsL hB) hb hd
/-- one that only reads -/
theorem gives_pureR {dead : Nat → Nat} {o : Oper} {ev : Operand → Value} {w : World} {I : World → Prop} {T : Nat → Value → Value → World → Prop} {i : Nat} {v : Value} {f : Value → Value} (hI : I w) (h : gives P o ev w (fun u w' => u = v ∧ w' = w)) (hT : T i v (f v) w) : gives P o ev w (fun v w' => T i v (f v) w' ∧ I w' ∧ ∀ j u u', j ≠ i → dead j ≠ i → T j u u' w → T j u u' w') :=
  gives_mono h fun u w' ⟨h1, h2⟩ => by subst h1 h2; exact ⟨hT, hI, fun _ _ _ _ _ h => h⟩
end
end Go.Bx
