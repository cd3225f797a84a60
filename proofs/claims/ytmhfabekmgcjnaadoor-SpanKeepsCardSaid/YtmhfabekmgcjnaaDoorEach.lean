/- A region that draws its order: each operation is looked at once, wherever it comes up: it keeps what the others yielded. Plain: no program. -/
import Derived.Test.YtmhfabekmgcjnaaDoorMono
namespace Go.Bx
open Go.RowKit
set_option linter.unusedVariables false

def eachB (l : List Oper) : Bool :=
  Region.noSelect l.toArray &&
  (List.range l.length).all fun i => match l[i]? with
    | none => false
    | some oi => (oi.after.all fun e => !Region.binds .any e || decide (e.on < i)) &&
        (List.range l.length).all fun j => match l[j]? with
          | none => false
          | some oj => match oj.dst with
            | none => true
            | some d => (i == j || oi.dst != some d) && (!(oi.looksAt l.toArray).contains d || depB oi j)

theorem fr_congr' {L L' : Nat → Bool} {vs : Nat → Value} : ∀ (l : List Oper) (k : Nat) (a : Act), (∀ j, k ≤ j → j < k + l.length → L j = L' j) → fr L vs l k a = fr L' vs l k a
  | [], _, _, _ => rfl
  | o :: l, k, a, h => by
    have h0 := h k (Nat.le_refl _) (by simp)
    simp only [fr, h0]
    exact fr_congr' l (k + 1) _ fun j hj hl => h j (by omega) (by simp at hl ⊢; omega)

theorem ready_nil {md : Region.Mode} {l : List Oper} {listed : Array Bool} (hsz : listed.size = l.length) (hall : ∀ j, j < l.length → listed.getD j false = true) : Region.ready md l.toArray listed = [] := by
  rw [List.eq_nil_iff_forall_not_mem]
  intro j hj
  obtain ⟨h1, oj, hoj, _⟩ := mem_ready.1 hj
  have hjl : j < l.length := (List.getElem?_eq_some_iff.1 (by simpa using hoj)).1
  have h2 := hall j hjl
  rw [← hsz] at hjl
  simp [hjl] at h1 h2
  rw [h2] at h1
  cases h1

section
variable {P : Program} {Q : Exit → Act → World → Prop} {a0 : Act} {w0 : World} {l : List Oper}
/-- what is asked of operation i -/
def OpIs (P : Program) (l : List Oper) (a0 : Act) (I : World → Prop) (T : Nat → Value → World → Prop) (i : Nat) : Prop :=
  ∀ o, l[i]? = some o → ∀ vs w, I w → (∀ j, depB o j = true → T j (vs j) w) → stepsTo P l.toArray o (fr (fun _ => true) vs l 0 a0) w (fun v w' => T i v w' ∧ I w' ∧ ∀ j u, j ≠ i → T j u w → T j u w')

theorem each_any (I : World → Prop) (T : Nat → Value → World → Prop) (hsel : Region.noSelect l.toArray = true)
    (hacyc : ∀ i oi, l[i]? = some oi → ∀ e ∈ oi.after, Region.binds .any e = true → e.on < i)
    (hdst : ∀ i j oi oj d, l[i]? = some oi → l[j]? = some oj → oj.dst = some d → (i = j ∨ oi.dst ≠ some d) ∧ (d ∈ oi.looksAt l.toArray → depB oi j = true))
    (hop : ∀ i, i < l.length → OpIs P l a0 I T i)
    (hend : ∀ vs w, I w → (∀ i, i < l.length → T i (vs i) w) → Q .normal (fr (fun _ => true) vs l 0 a0) w) :
    ∀ (fuel : Nat) (listed : Array Bool) (vs : Nat → Value) (w : World), listed.size = l.length →
      (∀ i, i < l.length → listed.getD i false = true → T i (vs i) w) → I w → (List.range l.length).countP (fun i => !listed.getD i false) ≤ fuel →
      wpAny P .any l.toArray Q fuel listed (fr (fun j => listed.getD j false) vs l 0 a0) w := by
  intro fuel
  induction fuel with
  | zero =>
    intro listed vs w hsz hT hw hf
    have hall : ∀ j, j < l.length → listed.getD j false = true := by
      intro j hj
      cases e : listed.getD j false with
      | true => rfl
      | false =>
        have : 0 < (List.range l.length).countP (fun i => !listed.getD i false) := List.countP_pos_iff.2 ⟨j, List.mem_range.2 hj, by simp [e]⟩
        omega
    refine any_done (ready_nil hsz hall) ?_ 0
    rw [fr_congr' (L' := fun _ => true) l 0 a0 fun j _ hj => hall j (by omega)]
    exact hend vs w hw fun i hi => hT i hi (hall i hi)
  | succ fuel ih =>
    intro listed vs w hsz hT hw hf
    by_cases hall : ∀ j, j < l.length → listed.getD j false = true
    · refine any_done (ready_nil hsz hall) ?_ _
      rw [fr_congr' (L' := fun _ => true) l 0 a0 fun j _ hj => hall j (by omega)]
      exact hend vs w hw fun i hi => hT i hi (hall i hi)
    have hgd : ∀ j, j < l.length → listed.getD j true = listed.getD j false := fun j hj => by
      rw [← hsz] at hj
      simp [hj]
    have hselo : ∀ (j : Nat) (o : Oper) cs b, l[j]? = some o → o.op ≠ .select cs b := fun j o cs b ho => Region.noSelect_spec hsel j o cs b (by simpa using ho)
    refine ⟨fun h => ?_, fun i hi => ?_⟩
    · exfalso
      have hex : ∃ m, m < l.length ∧ listed.getD m false = false ∧ ∀ j, j < m → listed.getD j false = true := by
        have : ∀ n, (∃ m, m < n ∧ listed.getD m false = false ∧ ∀ j, j < m → listed.getD j false = true) ∨ ∀ j, j < n → listed.getD j false = true := by
          intro n
          induction n with
          | zero => exact .inr fun j hj => by omega
          | succ n ihn =>
            rcases ihn with ⟨m, hm, h1, h2⟩ | h1
            · exact .inl ⟨m, by omega, h1, h2⟩
            · cases e : listed.getD n false with
              | false => exact .inl ⟨n, by omega, e, h1⟩
              | true =>
                refine .inr fun j hj => ?_
                by_cases hjn : j < n
                · exact h1 j hjn
                · rw [show j = n by omega]; exact e
        rcases this l.length with h2 | h2
        · exact h2
        · exact absurd h2 hall
      obtain ⟨m, hm, h1, h2⟩ := hex
      obtain ⟨o, ho⟩ : ∃ o, l[m]? = some o := ⟨_, List.getElem?_eq_getElem hm⟩
      have : m ∈ Region.ready .any l.toArray listed := mem_ready.2 ⟨by rw [hgd m hm]; exact h1, o, by simpa using ho, fun e he hb => h2 _ (hacyc m o ho e he hb)⟩
      rw [h] at this
      cases this
    · obtain ⟨hun, o, ho', hdeps⟩ := mem_ready.1 hi
      have ho : l[i]? = some o := by simpa using ho'
      have hil : i < l.length := (List.getElem?_eq_some_iff.1 ho).1
      rw [hgd i hil] at hun
      have hdep : ∀ j, depB o j = true → listed.getD j false = true ∧ j < l.length := fun j hj => by
        unfold depB at hj
        rw [Array.any_eq_true'] at hj
        obtain ⟨e, he, hb⟩ := hj
        simp only [Bool.and_eq_true, beq_iff_eq] at hb
        rw [← hb.2]
        exact ⟨hdeps e he hb.1, Nat.lt_trans (hacyc i o ho e he hb.1) hil⟩
      have hlooks : ∀ t ∈ o.looksAt l.toArray, (fr (fun _ => true) vs l 0 a0).tmps[t]? = (fr (fun j => listed.getD j false) vs l 0 a0).tmps[t]? := fun t ht =>
        fr_at l 0 a0 a0 rfl fun j oj hj hd => by
          have hd2 := (hdst i j o oj t ho hj hd).2 ht
          rw [Nat.zero_add, (hdep j hd2).1]
      have hs0 := hop i hil o ho vs w hw (fun j hj => hT j (hdep j hj).2 (hdep j hj).1)
      have hs := steps_same o (fun cs b => hselo i o cs b ho) hlooks hs0
      have hnext : ∀ v w', (T i v w' ∧ I w' ∧ ∀ j u, j ≠ i → T j u w → T j u w') → wpAny P .any l.toArray Q fuel (listed.setIfInBounds i true) ((fr (fun j => listed.getD j false) vs l 0 a0).put o.dst v) w' := by
        intro v w' ⟨hTv, hIw, hkeep⟩
        have hset : ∀ j, (listed.setIfInBounds i true).getD j false = upd (fun j => listed.getD j false) i true j := fun j => by
          by_cases e : i = j
          · subst e
            have : i < listed.size := by omega
            simp [this, upd]
          · rw [getD_set_ne false e]; exact (if_neg fun h => e h.symm).symm
        have hfr : fr (fun j => (listed.setIfInBounds i true).getD j false) (upd vs i v) l 0 a0 = (fr (fun j => listed.getD j false) vs l 0 a0).put o.dst v := by
          rw [fr_congr (L' := upd (fun j => listed.getD j false) (0 + i) true) (vs' := upd vs (0 + i) v) l 0 a0 fun j _ => by rw [Nat.zero_add]; exact ⟨hset j, rfl⟩]
          exact fr_step l 0 i a0 o ho (by rw [Nat.zero_add]; exact hun) fun j o' hj hne t ht => by
            rcases (hdst j i o' o t hj ho ht).1 with h | h
            · exact absurd h hne
            · exact h
        rw [← hfr]
        refine ih _ _ w' (by simpa using hsz) ?_ hIw ?_
        · intro j hj hlj
          by_cases e : j = i
          · subst e
            rw [show upd vs j v j = v from if_pos rfl]; exact hTv
          · rw [show upd vs i v j = vs j from if_neg e]
            rw [hset, show upd (fun j => listed.getD j false) i true j = listed.getD j false from if_neg e] at hlj
            exact hkeep j _ e (hT j hj hlj)
        · have := countP_one (f := fun i => !listed.getD i false) (g := fun j => !(listed.setIfInBounds i true).getD j false) (i := i) (by simp only [hun]; rfl) (by simp only [hset, upd, if_true]; rfl) (fun j hj => by
            simp only [hset]
            rw [show upd (fun j => listed.getD j false) i true j = listed.getD j false from if_neg hj]) l.length hil
          omega
      unfold wpOp
      simp only [ho']
      unfold stepsTo at hs
      split
      · rename_i hw'
        simp only [hw', if_true] at hs
        exact .inl (gives_put hs hnext)
      · rename_i hw'
        simp only [hw'] at hs
        exact hnext _ _ hs

theorem eachB_parts (hB : eachB l = true) : Region.noSelect l.toArray = true ∧ (∀ i oi, l[i]? = some oi → ∀ e ∈ oi.after, Region.binds .any e = true → e.on < i) ∧
    (∀ i j oi oj d, l[i]? = some oi → l[j]? = some oj → oj.dst = some d → (i = j ∨ oi.dst ≠ some d) ∧ (d ∈ oi.looksAt l.toArray → depB oi j = true)) := by
  unfold eachB at hB
  rw [Bool.and_eq_true, List.all_eq_true] at hB
  obtain ⟨hsel, hB⟩ := hB
  have hB1 : ∀ i oi, l[i]? = some oi → _ := fun i oi hi => by
    have := hB i (List.mem_range.2 (List.getElem?_eq_some_iff.1 hi).1)
    simp only [hi, Bool.and_eq_true] at this
    exact this
  refine ⟨hsel, fun i oi hi e he hb => ?_, fun i j oi oj d hi hj hd => ?_⟩
  · have := (hB1 i oi hi).1
    rw [Array.all_eq_true'] at this
    have := this e he
    simpa [hb] using this
  · have := (hB1 i oi hi).2
    rw [List.all_eq_true] at this
    have := this j (List.mem_range.2 (List.getElem?_eq_some_iff.1 hj).1)
    simp only [hj, hd, Bool.and_eq_true, Bool.or_eq_true, beq_iff_eq, bne_iff_ne, Bool.not_eq_true', List.contains_eq_mem, decide_eq_false_iff_not, ne_eq] at this
    refine ⟨this.1, fun hm => ?_⟩
    rcases this.2 with h | h
    · exact absurd hm (by simpa using h)
    · exact h

/-- **A region that draws its order**: each operation is looked at once, wherever it comes up. -/
theorem wp_region_each {id : Nat} (I : World → Prop) (T : Nat → Value → World → Prop) (hm : P.follows .mixedOrders = true) (hB : eachB l = true) (hI : I w0.drew)
    (hop : ∀ i, i < l.length → OpIs P l a0 I T i)
    (hend : ∀ vs w, I w → (∀ i, i < l.length → T i (vs i) w) → Shut (Q .normal (fr (fun _ => true) vs l 0 a0) w)) :
    (Code.region id l.toArray true).wp P Q a0 w0 := by
  obtain ⟨h1, h2, h3⟩ := eachB_parts hB
  refine wp_region_any hm ?_
  have hrep : ∀ j, (Array.replicate l.length false).getD j false = false := fun k => by
    rcases Nat.lt_or_ge k l.length with h | h
    · simp [h]
    · simp [Array.getElem?_eq_none (xs := Array.replicate l.length false) (i := k) (by simpa using h)]
  have hfr : ∀ (l' : List Oper) (k : Nat) (a : Act), a = fr (fun j => (Array.replicate l.length false).getD j false) (fun _ => undef) l' k a := by
    intro l'
    induction l' with
    | nil => intro _ _; rfl
    | cons o l' ih =>
      intro k a
      simp only [fr, hrep k, Bool.false_eq_true, if_false]
      exact ih (k + 1) a
  have hmain := each_any (P := P) (Q := Q) (a0 := a0) I T h1 h2 h3 hop (fun vs w h1 h2 => (hend vs w h1 h2).out) l.length (Array.replicate l.length false) (fun _ => undef) { w0 with drawn := w0.drawn + 1 } (by simp)
    (fun i _ h => by rw [hrep i] at h; cases h) hI (by
      have := List.countP_le_length (p := fun i => !(Array.replicate l.length false).getD i false) (l := List.range l.length)
      simpa using this)
  rw [← hfr l 0 a0] at hmain
  simpa using hmain

theorem finds_each {L : Nat → Bool} {vs : Nat → Value} (hB : eachB l = true) : Finds L l a0 vs (fr L vs l 0 a0).eval := by
  obtain ⟨h1, h2, h3⟩ := eachB_parts hB
  refine ⟨fun j oj d hLj hj hd hlt => ?_, fun t ht => ?_, fun _ => rfl, fun _ => rfl⟩
  · have := fr_of (L := L) (vs := vs) l 0 j a0 oj hj hd (by rw [Nat.zero_add]; exact hLj) (fun i o' hi hne => by
      rcases (h3 i j o' oj d hi hj hd).1 with h | h
      · exact absurd h hne
      · exact h) hlt
    rw [Nat.zero_add] at this
    simp only [Act.eval, Array.getD_eq_getD_getElem?, this, Option.getD_some]
  · rw [List.all_eq_true] at ht
    have := fr_off (L := L) (vs := vs) (t := t) l 0 a0 fun o ho => by simpa using ht o ho
    simp only [Act.eval, Array.getD_eq_getD_getElem?, this]
theorem yielded_each {vs : Nat → Value} (hB : eachB l = true) (g : Nat) (og : Oper) (d : Tmp) (hg : l[g]? = some og) (hd : og.dst = some d) (hlt : d < a0.tmps.size) {b : Bool} (hv : vs g = .bool b) : yielded l.toArray (fr (fun _ => true) vs l 0 a0).tmps g = some b := by
  obtain ⟨h1, h2, h3⟩ := eachB_parts hB
  have := fr_of (L := fun _ => true) (vs := vs) l 0 g a0 og hg hd rfl (fun i o' hi hne => by
      rcases (h3 i g o' og d hi hg hd).1 with h | h
      · exact absurd h hne
      · exact h) hlt
  rw [Nat.zero_add] at this
  unfold yielded
  simp only [List.getElem?_toArray, hg, Option.bind_some, hd, this, hv]

/-- an operation without a guard -/
theorem OpIs.plain {I : World → Prop} {T : Nat → Value → World → Prop} {i : Nat} (hB : eachB l = true) (o : Oper) (ho : l[i]? = some o) (hg : o.guard = none)
    (h : ∀ vs ev w, Finds (fun _ => true) l a0 vs ev → I w → (∀ j, depB o j = true → T j (vs j) w) → gives P o ev w (fun v w' => T i v w' ∧ I w' ∧ ∀ j u, j ≠ i → T j u w → T j u w')) : OpIs P l a0 I T i := by
  intro o' ho' vs w hb hd
  rw [ho] at ho'
  cases ho'
  unfold stepsTo
  rw [if_pos (by simp [Region.wanted, hg])]
  exact h vs _ w (finds_each hB) hb hd
/-- .. whose guard holds -/
theorem OpIs.want {I : World → Prop} {T : Nat → Value → World → Prop} {i : Nat} (hB : eachB l = true) (o : Oper) (ho : l[i]? = some o) (g : Nat) (b : Bool) (og : Oper) (d : Tmp) (hg : o.guard = some (g, b)) (hog : l[g]? = some og) (hd : og.dst = some d) (hlt : d < a0.tmps.size) (hdep : depB o g = true)
    (hT : ∀ v w, T g v w → v = .bool b)
    (h : ∀ vs ev w, Finds (fun _ => true) l a0 vs ev → I w → (∀ j, depB o j = true → T j (vs j) w) → gives P o ev w (fun v w' => T i v w' ∧ I w' ∧ ∀ j u, j ≠ i → T j u w → T j u w')) : OpIs P l a0 I T i := by
  intro o' ho' vs w hb hds
  rw [ho] at ho'
  cases ho'
  unfold stepsTo
  rw [if_pos (by simp [Region.wanted, hg, yielded_each hB g og d hog hd hlt (hT _ _ (hds g hdep))])]
  exact h vs _ w (finds_each hB) hb hds
/-- one that only reads -/
theorem gives_pure {o : Oper} {ev : Operand → Value} {w : World} {I : World → Prop} {T : Nat → Value → World → Prop} {i : Nat} {v : Value} (hI : I w) (h : gives P o ev w (fun u w' => u = v ∧ w' = w)) (hT : T i v w) : gives P o ev w (fun v w' => T i v w' ∧ I w' ∧ ∀ j u, j ≠ i → T j u w → T j u w') :=
  gives_mono h fun u w' ⟨h1, h2⟩ => by subst h1 h2; exact ⟨hT, hI, fun _ _ _ h => h⟩
end
end Go.Bx
