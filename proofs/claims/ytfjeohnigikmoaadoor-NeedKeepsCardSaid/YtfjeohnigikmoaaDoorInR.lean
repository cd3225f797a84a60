/- Regions that draw their order, inside a fence (a round of a range over a function too). Printed by tools/mk_in.py out of XEach, XLast, XTail. Plain: no program. -/
import Derived.Test.YtfjeohnigikmoaaDoorTail
import Derived.OrdersIn
namespace Go.Bx
open Go.RowKit
set_option linter.unusedVariables false

section
variable {P : Program} {Q : Exit → Act → World → Prop} {a0 : Act} {w0 : World} {l : List Oper} {F : Fence} {N : Nat}
theorem gives_put_in {o : Oper} {a : Act} {w : World} {R : Value → World → Prop} {K : Act → World → Prop} (hfn : ∀ f, F.fn f) (hc : ∀ {f : FuncId} {args : Array Value} {w : World} {R : Ending → World → Prop}, Calls P f args w R → CallsIn F (N - 1) P f args w R) (hdp : F.depth.isSome = true → 1 ≤ N) (hnd : ∀ c, o.op ≠ .defer c)
    (h : gives P o a.eval w R) (hK : ∀ v w', R v w' → K (a.put o.dst v) w') : o.wpIn F N P a w K Q := by
  refine ⟨fun f _ => hfn f, ?_⟩
  rw [Oper.semAt_eq _ _ _ hnd]
  unfold gives at h
  generalize (execOp a.eval o).run P w = r at *
  cases r with
  | ok n w' =>
    cases n <;> simp only [] at h <;> simp only [Oper.uponIn]
    case value u => exact hK _ _ h
    case skip => exact hK _ _ h
    case enter f args => exact ⟨hdp, (hc h).mono fun e w'' ⟨v, he, hr⟩ => by subst he; exact hK _ _ hr⟩
  | halt x w' => cases h
theorem any_done_in {md : Region.Mode} {ops : Array Oper} {listed : Array Bool} {a : Act} {w : World} (h : Region.ready md ops listed = []) (hq : Q .normal a w) : ∀ fuel, wpAnyIn F N P md ops Q fuel listed a w
  | 0 => ⟨h, hq⟩
  | _ + 1 => ⟨fun _ => hq, fun i hi => by rw [h] at hi; cases hi⟩
theorem each_any_in (hfn : ∀ f, F.fn f) (hc : ∀ {f : FuncId} {args : Array Value} {w : World} {R : Ending → World → Prop}, Calls P f args w R → CallsIn F (N - 1) P f args w R) (hdp : F.depth.isSome = true → 1 ≤ N) (hnd : ∀ (j : Nat) (o : Oper) c, l[j]? = some o → o.op ≠ .defer c) (I : World → Prop) (T : Nat → Value → World → Prop) (hsel : Region.noSelect l.toArray = true)
    (hacyc : ∀ i oi, l[i]? = some oi → ∀ e ∈ oi.after, Region.binds .any e = true → e.on < i)
    (hdst : ∀ i j oi oj d, l[i]? = some oi → l[j]? = some oj → oj.dst = some d → (i = j ∨ oi.dst ≠ some d) ∧ (d ∈ oi.looksAt l.toArray → depB oi j = true))
    (hop : ∀ i, i < l.length → OpIs P l a0 I T i)
    (hend : ∀ vs w, I w → (∀ i, i < l.length → T i (vs i) w) → Q .normal (fr (fun _ => true) vs l 0 a0) w) :
    ∀ (fuel : Nat) (listed : Array Bool) (vs : Nat → Value) (w : World), listed.size = l.length →
      (∀ i, i < l.length → listed.getD i false = true → T i (vs i) w) → I w → (List.range l.length).countP (fun i => !listed.getD i false) ≤ fuel →
      wpAnyIn F N P .any l.toArray Q fuel listed (fr (fun j => listed.getD j false) vs l 0 a0) w := by
  intro fuel
  induction fuel with
  | zero =>
    intro listed vs w hsz hT hw hf
    have hall : ∀ j, j < l.length → listed.getD j false = true := by
      intro j hj
      cases e : listed.getD j false with
      | true => rfl
      | false =>
        have : 0 < (List.range l.length).countP (fun i => !listed.getD i false) := List.countP_pos_iff.2 ⟨j, List.mem_range.2 hj, by simp [e]⟩
        omega
    refine any_done_in (ready_nil hsz hall) ?_ 0
    rw [fr_congr' (L' := fun _ => true) l 0 a0 fun j _ hj => hall j (by omega)]
    exact hend vs w hw fun i hi => hT i hi (hall i hi)
  | succ fuel ih =>
    intro listed vs w hsz hT hw hf
    by_cases hall : ∀ j, j < l.length → listed.getD j false = true
    · refine any_done_in (ready_nil hsz hall) ?_ _
      rw [fr_congr' (L' := fun _ => true) l 0 a0 fun j _ hj => hall j (by omega)]
      exact hend vs w hw fun i hi => hT i hi (hall i hi)
    have hgd : ∀ j, j < l.length → listed.getD j true = listed.getD j false := fun j hj => by
      rw [← hsz] at hj
      simp [hj]
    have hselo : ∀ (j : Nat) (o : Oper) cs b, l[j]? = some o → o.op ≠ .select cs b := fun j o cs b ho => Region.noSelect_spec hsel j o cs b (by simpa using ho)
    refine ⟨fun h => ?_, fun i hi => ?_⟩
    · exfalso
      have hex : ∃ m, m < l.length ∧ listed.getD m false = false ∧ ∀ j, j < m → listed.getD j false = true := by
        have : ∀ n, (∃ m, m < n ∧ listed.getD m false = false ∧ ∀ j, j < m → listed.getD j false = true) ∨ ∀ j, j < n → listed.getD j false = true := by
          intro n
          induction n with
          | zero => exact .inr fun j hj => by omega
          | succ n ihn =>
            rcases ihn with ⟨m, hm, h1, h2⟩ | h1
            · exact .inl ⟨m, by omega, h1, h2⟩
            · cases e : listed.getD n false with
              | false => exact .inl ⟨n, by omega, e, h1⟩
              | true =>
                refine .inr fun j hj => ?_
                by_cases hjn : j < n
                · exact h1 j hjn
                · rw [show j = n by omega]; exact e
        rcases this l.length with h2 | h2
        · exact h2
        · exact absurd h2 hall
      obtain ⟨m, hm, h1, h2⟩ := hex
      obtain ⟨o, ho⟩ : ∃ o, l[m]? = some o := ⟨_, List.getElem?_eq_getElem hm⟩
      have : m ∈ Region.ready .any l.toArray listed := mem_ready.2 ⟨by rw [hgd m hm]; exact h1, o, by simpa using ho, fun e he hb => h2 _ (hacyc m o ho e he hb)⟩
      rw [h] at this
      cases this
    · obtain ⟨hun, o, ho', hdeps⟩ := mem_ready.1 hi
      have ho : l[i]? = some o := by simpa using ho'
      have hil : i < l.length := (List.getElem?_eq_some_iff.1 ho).1
      rw [hgd i hil] at hun
      have hdep : ∀ j, depB o j = true → listed.getD j false = true ∧ j < l.length := fun j hj => by
        unfold depB at hj
        rw [Array.any_eq_true'] at hj
        obtain ⟨e, he, hb⟩ := hj
        simp only [Bool.and_eq_true, beq_iff_eq] at hb
        rw [← hb.2]
        exact ⟨hdeps e he hb.1, Nat.lt_trans (hacyc i o ho e he hb.1) hil⟩
      have hlooks : ∀ t ∈ o.looksAt l.toArray, (fr (fun _ => true) vs l 0 a0).tmps[t]? = (fr (fun j => listed.getD j false) vs l 0 a0).tmps[t]? := fun t ht =>
        fr_at l 0 a0 a0 rfl fun j oj hj hd => by
          have hd2 := (hdst i j o oj t ho hj hd).2 ht
          rw [Nat.zero_add, (hdep j hd2).1]
      have hs0 := hop i hil o ho vs w hw (fun j hj => hT j (hdep j hj).2 (hdep j hj).1)
      have hs := steps_same o (fun cs b => hselo i o cs b ho) hlooks hs0
      have hnext : ∀ v w', (T i v w' ∧ I w' ∧ ∀ j u, j ≠ i → T j u w → T j u w') → wpAnyIn F N P .any l.toArray Q fuel (listed.setIfInBounds i true) ((fr (fun j => listed.getD j false) vs l 0 a0).put o.dst v) w' := by
        intro v w' ⟨hTv, hIw, hkeep⟩
        have hset : ∀ j, (listed.setIfInBounds i true).getD j false = upd (fun j => listed.getD j false) i true j := fun j => by
          by_cases e : i = j
          · subst e
            have : i < listed.size := by omega
            simp [this, upd]
          · rw [getD_set_ne false e]; exact (if_neg fun h => e h.symm).symm
        have hfr : fr (fun j => (listed.setIfInBounds i true).getD j false) (upd vs i v) l 0 a0 = (fr (fun j => listed.getD j false) vs l 0 a0).put o.dst v := by
          rw [fr_congr (L' := upd (fun j => listed.getD j false) (0 + i) true) (vs' := upd vs (0 + i) v) l 0 a0 fun j _ => by rw [Nat.zero_add]; exact ⟨hset j, rfl⟩]
          exact fr_step l 0 i a0 o ho (by rw [Nat.zero_add]; exact hun) fun j o' hj hne t ht => by
            rcases (hdst j i o' o t hj ho ht).1 with h | h
            · exact absurd h hne
            · exact h
        rw [← hfr]
        refine ih _ _ w' (by simpa using hsz) ?_ hIw ?_
        · intro j hj hlj
          by_cases e : j = i
          · subst e
            rw [show upd vs j v j = v from if_pos rfl]; exact hTv
          · rw [show upd vs i v j = vs j from if_neg e]
            rw [hset, show upd (fun j => listed.getD j false) i true j = listed.getD j false from if_neg e] at hlj
            exact hkeep j _ e (hT j hj hlj)
        · have := countP_one (f := fun i => !listed.getD i false) (g := fun j => !(listed.setIfInBounds i true).getD j false) (i := i) (by simp only [hun]; rfl) (by simp only [hset, upd, if_true]; rfl) (fun j hj => by
            simp only [hset]
            rw [show upd (fun j => listed.getD j false) i true j = listed.getD j false from if_neg hj]) l.length hil
          omega
      unfold wpOpIn
      simp only [ho']
      unfold stepsTo at hs
      split
      · rename_i hw'
        simp only [hw', if_true] at hs
        exact gives_put_in hfn hc hdp (fun c => hnd i o c ho) hs hnext
      · rename_i hw'
        simp only [hw'] at hs
        exact ⟨fun f _ => hfn f, hnext _ _ hs⟩

theorem last_any_in (hfn : ∀ f, F.fn f) (hc : ∀ {f : FuncId} {args : Array Value} {w : World} {R : Ending → World → Prop}, Calls P f args w R → CallsIn F (N - 1) P f args w R) (hdp : F.depth.isSome = true → 1 ≤ N) (hnd : ∀ (j : Nat) (o : Oper) c, l[j]? = some o → o.op ≠ .defer c) (I : World → Prop) (T : Nat → Value → World → Prop) (k : Nat) (last : Oper) (hl : l[k]? = some last) (hlen : l.length = k + 1) (hsel : Region.noSelect l.toArray = true)
    (hacyc : ∀ i oi, l[i]? = some oi → ∀ e ∈ oi.after, Region.binds .any e = true → e.on < i)
    (hcl : ∀ i, i < k → ∃ j oj, i < j ∧ l[j]? = some oj ∧ depB oj i = true)
    (hdst : ∀ i j oi oj d, l[i]? = some oi → l[j]? = some oj → oj.dst = some d → (i = j ∨ oi.dst ≠ some d) ∧ (d ∈ oi.looksAt l.toArray → depB oi j = true))
    (hop : ∀ i, i < k → OpIs P l a0 I T i)
    (hlast : ∀ vs w, I w → (∀ i, i < k → T i (vs i) w) → stepsTo P l.toArray last (fr (fun j => decide (j < k)) vs l 0 a0) w (fun v w' => Q .normal ((fr (fun j => decide (j < k)) vs l 0 a0).put last.dst v) w')) :
    ∀ (fuel : Nat) (listed : Array Bool) (vs : Nat → Value) (w : World), listed.size = l.length →
      (∀ i oi, l[i]? = some oi → listed.getD i false = true → ∀ e ∈ oi.after, Region.binds .any e = true → listed.getD e.on false = true) →
      listed.getD k false = false → (∀ i, i < k → listed.getD i false = true → T i (vs i) w) → I w → (List.range l.length).countP (fun i => !listed.getD i false) ≤ fuel →
      wpAnyIn F N P .any l.toArray Q fuel listed (fr (fun j => listed.getD j false) vs l 0 a0) w := by
  intro fuel
  induction fuel with
  | zero =>
    intro listed vs w hsz hdown hk hT hw hf
    have : 0 < (List.range l.length).countP (fun i => !listed.getD i false) := List.countP_pos_iff.2 ⟨k, List.mem_range.2 (by omega), by simp [hk]⟩
    omega
  | succ fuel ih =>
    intro listed vs w hsz hdown hk hT hw hf
    have hgd : ∀ j, j < l.length → listed.getD j true = listed.getD j false := fun j hj => by
      rw [← hsz] at hj
      simp [hj]
    have hout : ∀ j, l.length ≤ j → listed.getD j false = false := fun j hj => by
      rw [← hsz] at hj
      simp [Array.getElem?_eq_none hj]
    have hselo : ∀ (j : Nat) (o : Oper) cs b, l[j]? = some o → o.op ≠ .select cs b := fun j o cs b ho => Region.noSelect_spec hsel j o cs b (by simpa using ho)
    refine ⟨fun h => ?_, fun i hi => ?_⟩
    · exfalso
      -- the least that has not come up may come up
      have hex : ∃ m, m ≤ k ∧ listed.getD m false = false ∧ ∀ j, j < m → listed.getD j false = true := by
        clear h hT hw hf hdown
        have : ∀ n, (∃ m, m ≤ n ∧ listed.getD m false = false ∧ ∀ j, j < m → listed.getD j false = true) ∨ ∀ j, j ≤ n → listed.getD j false = true := by
          intro n
          induction n with
          | zero =>
            cases e : listed.getD 0 false with
            | false => exact .inl ⟨0, Nat.le_refl _, e, fun j hj => by omega⟩
            | true => exact .inr fun j hj => by rw [show j = 0 by omega]; exact e
          | succ n ihn =>
            rcases ihn with ⟨m, hm, h1, h2⟩ | h1
            · exact .inl ⟨m, by omega, h1, h2⟩
            · cases e : listed.getD (n + 1) false with
              | false => exact .inl ⟨n + 1, Nat.le_refl _, e, fun j hj => h1 j (by omega)⟩
              | true =>
                refine .inr fun j hj => ?_
                by_cases hjn : j ≤ n
                · exact h1 j hjn
                · rw [show j = n + 1 by omega]; exact e
        rcases this k with h2 | h2
        · exact h2
        · rw [h2 k (Nat.le_refl _)] at hk; cases hk
      obtain ⟨m, hm, h1, h2⟩ := hex
      obtain ⟨o, ho⟩ : ∃ o, l[m]? = some o := ⟨_, List.getElem?_eq_getElem (by omega)⟩
      have : m ∈ Region.ready .any l.toArray listed := mem_ready.2 ⟨by rw [hgd m (by omega)]; exact h1, o, by simpa using ho, fun e he hb => h2 _ (hacyc m o ho e he hb)⟩
      rw [h] at this
      cases this
    · obtain ⟨hun, o, ho', hdeps⟩ := mem_ready.1 hi
      have ho : l[i]? = some o := by simpa using ho'
      have hil : i < l.length := (List.getElem?_eq_some_iff.1 ho).1
      rw [hgd i hil] at hun
      have hdep : ∀ j, depB o j = true → listed.getD j false = true := fun j hj => by
        unfold depB at hj
        rw [Array.any_eq_true'] at hj
        obtain ⟨e, he, hb⟩ := hj
        simp only [Bool.and_eq_true, beq_iff_eq] at hb
        rw [← hb.2]
        exact hdeps e he hb.1
      have hlooks : ∀ (L' : Nat → Bool), (∀ j, depB o j = true → L' j = true) → ∀ t ∈ o.looksAt l.toArray, (fr L' vs l 0 a0).tmps[t]? = (fr (fun j => listed.getD j false) vs l 0 a0).tmps[t]? := fun L' hL' t ht =>
        fr_at l 0 a0 a0 rfl fun j oj hj hd => by
          have hd2 := (hdst i j o oj t ho hj hd).2 ht
          rw [Nat.zero_add, hL' j hd2, hdep j hd2]
      by_cases hik : i = k
      · subst hik
        rw [hl] at ho
        cases ho
        have hall : ∀ n j, i - j ≤ n → j < i → listed.getD j false = true := by
          intro n
          induction n with
          | zero => intro j h1 h2; omega
          | succ n ihn =>
            intro j h1 h2
            obtain ⟨m, om, hm, hom, hd⟩ := hcl j h2
            have hml : m < l.length := (List.getElem?_eq_some_iff.1 hom).1
            by_cases e : m = i
            · subst e
              rw [hl] at hom
              cases hom
              exact hdep j hd
            · have := ihn m (by omega) (by omega)
              unfold depB at hd
              rw [Array.any_eq_true'] at hd
              obtain ⟨e', he, hb⟩ := hd
              simp only [Bool.and_eq_true, beq_iff_eq] at hb
              rw [← hb.2]
              exact hdown m om hom this e' he hb.1
        have hL : ∀ j, listed.getD j false = decide (j < i) := fun j => by
          by_cases h1 : j < i
          · rw [hall i j (by omega) h1]; simp [h1]
          · rw [decide_eq_false h1]
            by_cases h2 : j = i
            · rw [h2]; exact hun
            · exact hout j (by omega)
        have hfr : fr (fun j => listed.getD j false) vs l 0 a0 = fr (fun j => decide (j < i)) vs l 0 a0 := fr_congr l 0 a0 fun j _ => ⟨hL j, rfl⟩
        rw [hfr]
        have hs := hlast vs w hw (fun j hj => hT j hj (hall i j (by omega) hj))
        have hdone : ∀ a w', Q .normal a w' → wpAnyIn F N P .any l.toArray Q fuel (listed.setIfInBounds i true) a w' := fun a w' hq => any_done_in (by
          rw [List.eq_nil_iff_forall_not_mem]
          intro j hj
          obtain ⟨h1, oj, hoj, _⟩ := mem_ready.1 hj
          by_cases e : i = j
          · subst e
            have : i < listed.size := by omega
            simp [this] at h1
          · rw [getD_set_ne true e] at h1
            have hjl : j < l.length := (List.getElem?_eq_some_iff.1 (by simpa using hoj)).1
            rw [hgd j hjl, hall i j (by omega) (by omega)] at h1
            cases h1) hq fuel
        unfold wpOpIn
        simp only [ho']
        unfold stepsTo at hs
        split
        · rename_i hw'
          simp only [hw', if_true] at hs
          exact gives_put_in hfn hc hdp (fun c => hnd i _ c hl) hs fun v w' h => hdone _ _ h
        · rename_i hw'
          simp only [hw'] at hs
          exact ⟨fun f _ => hfn f, hdone _ _ hs⟩
      · have hs0 := hop i (by omega) o ho vs w hw (fun j hj => hT j (by
          unfold depB at hj
          rw [Array.any_eq_true'] at hj
          obtain ⟨e, he, hb⟩ := hj
          simp only [Bool.and_eq_true, beq_iff_eq] at hb
          have := hacyc i o ho e he hb.1
          omega) (hdep j hj))
        have hs := steps_same o (fun cs b => hselo i o cs b ho) (hlooks (fun _ => true) fun _ _ => rfl) hs0
        have hnext : ∀ v w', (T i v w' ∧ I w' ∧ ∀ j u, j ≠ i → T j u w → T j u w') → wpAnyIn F N P .any l.toArray Q fuel (listed.setIfInBounds i true) ((fr (fun j => listed.getD j false) vs l 0 a0).put o.dst v) w' := by
          intro v w' ⟨hTv, hIw, hkeep⟩
          have hset : ∀ j, (listed.setIfInBounds i true).getD j false = upd (fun j => listed.getD j false) i true j := fun j => by
            by_cases e : i = j
            · subst e
              have : i < listed.size := by omega
              simp [this, upd]
            · rw [getD_set_ne false e]; exact (if_neg fun h => e h.symm).symm
          have hfr : fr (fun j => (listed.setIfInBounds i true).getD j false) (upd vs i v) l 0 a0 = (fr (fun j => listed.getD j false) vs l 0 a0).put o.dst v := by
            rw [fr_congr (L' := upd (fun j => listed.getD j false) (0 + i) true) (vs' := upd vs (0 + i) v) l 0 a0 fun j _ => by rw [Nat.zero_add]; exact ⟨hset j, rfl⟩]
            exact fr_step l 0 i a0 o ho (by rw [Nat.zero_add]; exact hun) fun j o' hj hne t ht => by
              rcases (hdst j i o' o t hj ho ht).1 with h | h
              · exact absurd h hne
              · exact h
          rw [← hfr]
          refine ih _ _ w' (by simpa using hsz) ?_ ?_ ?_ hIw ?_
          · intro j oj hj hlj e he hbd
            rw [hset] at hlj
            rw [hset]
            by_cases e1 : e.on = i
            · exact if_pos e1
            · rw [show upd (fun j => listed.getD j false) i true e.on = listed.getD e.on false from if_neg e1]
              by_cases e2 : j = i
              · subst e2
                rw [ho] at hj
                cases hj
                exact hdeps e he hbd
              · rw [show upd (fun j => listed.getD j false) i true j = listed.getD j false from if_neg e2] at hlj
                exact hdown j oj hj hlj e he hbd
          · rw [hset]; rw [show upd (fun j => listed.getD j false) i true k = listed.getD k false from if_neg fun h => hik h.symm]; exact hk
          · intro j hj hlj
            by_cases e : j = i
            · subst e
              rw [show upd vs j v j = v from if_pos rfl]; exact hTv
            · rw [show upd vs i v j = vs j from if_neg e]
              rw [hset, show upd (fun j => listed.getD j false) i true j = listed.getD j false from if_neg e] at hlj
              exact hkeep j _ e (hT j hj hlj)
          · have := countP_one (f := fun i => !listed.getD i false) (g := fun j => !(listed.setIfInBounds i true).getD j false) (i := i) (by simp only [hun]; rfl) (by simp only [hset, upd, if_true]; rfl) (fun j hj => by
              simp only [hset]
              rw [show upd (fun j => listed.getD j false) i true j = listed.getD j false from if_neg hj]) l.length hil
            omega
        unfold wpOpIn
        simp only [ho']
        unfold stepsTo at hs
        split
        · rename_i hw'
          simp only [hw', if_true] at hs
          exact gives_put_in hfn hc hdp (fun c => hnd i o c ho) hs hnext
        · rename_i hw'
          simp only [hw'] at hs
          exact ⟨fun f _ => hfn f, hnext _ _ hs⟩

theorem wp_region_last_in {id : Nat} (hfn : ∀ f, F.fn f) (hc : ∀ {f : FuncId} {args : Array Value} {w : World} {R : Ending → World → Prop}, Calls P f args w R → CallsIn F (N - 1) P f args w R) (hdp : F.depth.isSome = true → 1 ≤ N) (hnd : ∀ (j : Nat) (o : Oper) c, l[j]? = some o → o.op ≠ .defer c) (I : World → Prop) (T : Nat → Value → World → Prop) (k : Nat) (last : Oper) (hl : l[k]? = some last) (hlen : l.length = k + 1) (hm : P.follows .mixedOrders = true) (hB : monoB l = true) (hI : I w0.drew)
    (hop : ∀ i, i < k → OpIs P l a0 I T i)
    (hlast : ∀ vs w, I w → (∀ i, i < k → T i (vs i) w) → Shut (stepsTo P l.toArray last (fr (fun j => decide (j < k)) vs l 0 a0) w (fun v w' => Q .normal ((fr (fun j => decide (j < k)) vs l 0 a0).put last.dst v) w'))) :
    (Code.region id l.toArray true).wpIn F N P Q a0 w0 := by
  unfold monoB at hB
  rw [Bool.and_eq_true, List.all_eq_true] at hB
  obtain ⟨hsel, hB⟩ := hB
  have hB1 : ∀ i oi, l[i]? = some oi → _ := fun i oi hi => by
    have := hB i (List.mem_range.2 (List.getElem?_eq_some_iff.1 hi).1)
    simp only [hi, Bool.and_eq_true] at this
    exact this
  refine wpIn_region_any hm ?_
  have hfr : a0 = fr (fun j => (Array.replicate l.length false).getD j false) (fun _ => undef) l 0 a0 := by
    have hgen : ∀ (l' : List Oper) (k : Nat) (a : Act), a = fr (fun j => (Array.replicate l.length false).getD j false) (fun _ => undef) l' k a := by
      intro l'
      induction l' with
      | nil => intro _ _; rfl
      | cons o l' ih =>
        intro k a
        have : (Array.replicate l.length false).getD k false = false := by
          rcases Nat.lt_or_ge k l.length with h | h
          · simp [h]
          · simp [Array.getElem?_eq_none (xs := Array.replicate l.length false) (i := k) (by simpa using h)]
        simp only [fr, this, Bool.false_eq_true, if_false]
        exact ih (k + 1) a
    exact hgen l 0 a0
  have hrep : ∀ j, (Array.replicate l.length false).getD j false = false := fun k => by
    rcases Nat.lt_or_ge k l.length with h | h
    · simp [h]
    · simp [Array.getElem?_eq_none (xs := Array.replicate l.length false) (i := k) (by simpa using h)]
  have hmain := last_any_in (P := P) (Q := Q) (a0 := a0) (F := F) (N := N) hfn hc hdp hnd I T k last hl hlen hsel ?_ ?_ ?_ hop (fun vs w h1 h2 => (hlast vs w h1 h2).out) l.length (Array.replicate l.length false) (fun _ => undef) { w0 with drawn := w0.drawn + 1 } (by simp)
    (fun i _ _ h => by rw [hrep i] at h; cases h) (hrep k) (fun i _ h => by rw [hrep i] at h; cases h) hI (by
      have := List.countP_le_length (p := fun i => !(Array.replicate l.length false).getD i false) (l := List.range l.length)
      simpa using this)
  · rw [← hfr] at hmain
    simpa using hmain
  · intro i oi hi e he hb
    have := (hB1 i oi hi).1.1
    rw [Array.all_eq_true'] at this
    have := this e he
    simpa [hb] using this
  · intro i hi
    have := (hB1 i l[i] (List.getElem?_eq_getElem (by omega))).1.2
    simp only [Bool.or_eq_true, beq_iff_eq, List.any_eq_true, Bool.and_eq_true, decide_eq_true_eq] at this
    rcases this with h | ⟨j, _, h1, h2⟩
    · omega
    · split at h2
      · rename_i oj hj
        exact ⟨j, oj, h1, hj, h2⟩
      · cases h2
  · intro i j oi oj d hi hj hd
    have := (hB1 i oi hi).2
    rw [List.all_eq_true] at this
    have := this j (List.mem_range.2 (List.getElem?_eq_some_iff.1 hj).1)
    simp only [hj, hd, Bool.and_eq_true, Bool.or_eq_true, beq_iff_eq, bne_iff_ne, Bool.not_eq_true', List.contains_eq_mem, decide_eq_false_iff_not, ne_eq] at this
    refine ⟨this.1, fun hm => ?_⟩
    rcases this.2 with h | h
    · exact absurd hm (by simpa using h)
    · exact h
theorem wp_region_kept_last_in {id : Nat} (hfn : ∀ f, F.fn f) (hc : ∀ {f : FuncId} {args : Array Value} {w : World} {R : Ending → World → Prop}, Calls P f args w R → CallsIn F (N - 1) P f args w R) (hdp : F.depth.isSome = true → 1 ≤ N) (hnd : ∀ (j : Nat) (o : Oper) c, l[j]? = some o → o.op ≠ .defer c) (n k : Nat) (last : Oper) (hl : l[k]? = some last) (hlen : l.length = k + 1) (hm : P.follows .mixedOrders = true) (hB : monoB l = true)
    (h : wpQuiet P l.toArray (fun w' => ∃ s : Kept n w0, w' = s.w) (fun a' => ∀ s : Kept n w0, Shut (stepsTo P l.toArray last a' s.w (fun v w' => Q .normal (a'.put last.dst v) w'))) (l.take k) a0) : (Code.region id l.toArray true).wpIn F N P Q a0 w0 := by
  have hB' := hB
  unfold monoB at hB'
  rw [Bool.and_eq_true, List.all_eq_true] at hB'
  have hB1 : ∀ i oi, l[i]? = some oi → _ := fun i oi hi => by
    have := hB'.2 i (List.mem_range.2 (List.getElem?_eq_some_iff.1 hi).1)
    simp only [hi, Bool.and_eq_true] at this
    exact this
  have hd2 : ∀ i j oi oj d, l[i]? = some oi → l[j]? = some oj → oj.dst = some d → (i = j ∨ oi.dst ≠ some d) ∧ (d ∈ oi.looksAt l.toArray → depB oi j = true) := fun i j oi oj d hi hj hd => by
    have := (hB1 i oi hi).2
    rw [List.all_eq_true] at this
    have := this j (List.mem_range.2 (List.getElem?_eq_some_iff.1 hj).1)
    simp only [hj, hd, Bool.and_eq_true, Bool.or_eq_true, beq_iff_eq, bne_iff_ne, ne_eq] at this
    refine ⟨this.1, fun hm => ?_⟩
    rcases this.2 with h | h
    · rw [Bool.not_eq_true'] at h
      have hc : (oi.looksAt l.toArray).contains d = true := by simpa using hm
      rw [hc] at h
      cases h
    · exact h
  have hacyc : ∀ i oi, l[i]? = some oi → ∀ j, depB oi j = true → j < i := fun i oi hi j hj => by
    have h1 := (hB1 i oi hi).1.1
    rw [Array.all_eq_true'] at h1
    unfold depB at hj
    rw [Array.any_eq_true'] at hj
    obtain ⟨e, he, hb⟩ := hj
    simp only [Bool.and_eq_true, beq_iff_eq] at hb
    have := h1 e he
    simp [hb.1] at this
    omega
  have hsel : ∀ (j : Nat) (o : Oper) cs b, l[j]? = some o → o.op ≠ .select cs b := fun j o cs b ho => Region.noSelect_spec hB'.1 j o cs b (by simpa using ho)
  have hfr : a0 = fr (fun q => decide (q < 0)) (fun _ => undef) l 0 a0 := by
    have hgen : ∀ (l' : List Oper) (k : Nat) (a : Act), a = fr (fun q => decide (q < 0)) (fun _ => undef) l' k a := by
      intro l'
      induction l' with
      | nil => intro _ _; rfl
      | cons o l' ih =>
        intro k a
        simp only [fr, Nat.not_lt_zero, decide_false, Bool.false_eq_true, if_false]
        exact ih (k + 1) a
    exact hgen l 0 a0
  rw [hfr] at h
  obtain ⟨vs, _, hy, hR⟩ := quiet_vals (a0 := a0) (fun i j oi oj hi hj hne t ht => by
    rcases (hd2 j i oj oi t hj hi ht).1 with h | h
    · exact absurd h.symm hne
    · exact h) (l.take k) 0 (fun _ => undef) (fun j hj => by rw [Nat.zero_add, List.getElem?_take_of_lt (by rw [List.length_take] at hj; omega)]) h
  have hk : (l.take k).length = k := by rw [List.length_take]; omega
  rw [Nat.zero_add, hk] at hR
  rw [hk] at hy
  refine wp_region_last_in hfn hc hdp hnd (fun w' => ∃ s : Kept n w0, w' = s.w) (fun i v _ => v = vs i) k last hl hlen hm hB ⟨⟨w0.drew, (Below.refl _ w0).drew⟩, rfl⟩ (fun i hi o ho vs' W hC hdep => ?_) (fun vs' W hC hT => ?_)
  · have hyi := hy i (Nat.zero_le _) (by omega) o ho
    have hlooks : ∀ t ∈ o.looksAt l.toArray, (fr (fun q => decide (q < i)) vs l 0 a0).tmps[t]? = (fr (fun _ => true) vs' l 0 a0).tmps[t]? := fun t ht =>
      fr_at2 l 0 a0 a0 rfl fun j oj hj hd => by
        have hd3 := (hd2 i j o oj t ho hj hd).2 ht
        rw [Nat.zero_add]
        exact ⟨decide_eq_true (hacyc i o ho j hd3), (hdep j hd3).symm⟩
    refine steps_same o (fun cs b => hsel i o cs b ho) hlooks ?_
    unfold stepsTo
    rcases hyi with ⟨hw, hv⟩ | ⟨hw, hv⟩
    · rw [if_pos hw]
      have h1 := hv W hC
      unfold Oper.quietAt at h1
      unfold gives
      generalize (execOp (fr (fun q => decide (q < i)) vs l 0 a0).eval o).run P W = r at *
      cases r with
      | ok nx w' =>
        cases nx <;> simp only [Oper.quietUpon] at h1 ⊢
        case value u => obtain ⟨e1, e2⟩ := h1; rw [e1, e2]; exact ⟨rfl, hC, fun _ _ _ h => h⟩
        case skip => obtain ⟨e1, e2⟩ := h1; rw [e1]; exact ⟨e2.symm, hC, fun _ _ _ h => h⟩
        case enter f args =>
          obtain ⟨e1, hc⟩ := h1
          rw [e1]
          exact hc.mono fun e w'' ⟨he, hw''⟩ => ⟨_, he, rfl, hw'', fun _ _ _ h => h⟩
      | halt x w' => simp only [Oper.quietUpon] at h1
    · rw [if_neg (by rw [hw]; simp)]
      exact ⟨hv.symm, hC, fun _ _ _ h => h⟩
  · obtain ⟨s, rfl⟩ := hC
    have := hR s
    rw [fr_congr2 (L' := fun j => decide (j < k)) (vs' := vs') l 0 a0 fun q _ => ⟨rfl, fun hq => (hT q (of_decide_eq_true hq)).symm⟩] at this
    exact this
theorem wp_region_kept_in {id : Nat} (hfn : ∀ f, F.fn f) (hc : ∀ {f : FuncId} {args : Array Value} {w : World} {R : Ending → World → Prop}, Calls P f args w R → CallsIn F (N - 1) P f args w R) (hdp : F.depth.isSome = true → 1 ≤ N) (hnd : ∀ (j : Nat) (o : Oper) c, l[j]? = some o → o.op ≠ .defer c) (n : Nat) (hm : P.follows .mixedOrders = true) (hB : eachB l = true)
    (h : wpQuiet P l.toArray (fun w' => ∃ s : Kept n w0, w' = s.w) (fun a' => ∀ w', (∃ s : Kept n w0, w' = s.w) → Q .normal a' w') l a0) : (Code.region id l.toArray true).wpIn F N P Q a0 w0 := by
  obtain ⟨hsel0, hac0, hd2⟩ := eachB_parts hB
  have hacyc : ∀ i oi, l[i]? = some oi → ∀ j, depB oi j = true → j < i := fun i oi hi j hj => by
    unfold depB at hj
    rw [Array.any_eq_true'] at hj
    obtain ⟨e, he, hb⟩ := hj
    simp only [Bool.and_eq_true, beq_iff_eq] at hb
    have := hac0 i oi hi e he hb.1
    omega
  have hsel : ∀ (j : Nat) (o : Oper) cs b, l[j]? = some o → o.op ≠ .select cs b := fun j o cs b ho => Region.noSelect_spec hsel0 j o cs b (by simpa using ho)
  have hfr : a0 = fr (fun q => decide (q < 0)) (fun _ => undef) l 0 a0 := by
    have hgen : ∀ (l' : List Oper) (k : Nat) (a : Act), a = fr (fun q => decide (q < 0)) (fun _ => undef) l' k a := by
      intro l'
      induction l' with
      | nil => intro _ _; rfl
      | cons o l' ih =>
        intro k a
        simp only [fr, Nat.not_lt_zero, decide_false, Bool.false_eq_true, if_false]
        exact ih (k + 1) a
    exact hgen l 0 a0
  rw [hfr] at h
  obtain ⟨vs, _, hy, hR⟩ := quiet_vals (a0 := a0) (fun i j oi oj hi hj hne t ht => by
    rcases (hd2 j i oj oi t hj hi ht).1 with h | h
    · exact absurd h.symm hne
    · exact h) l 0 (fun _ => undef) (fun j hj => by rw [Nat.zero_add]) h
  rw [Nat.zero_add] at hR
  refine wpIn_region_any hm ?_
  have hfr2 : a0 = fr (fun j => (Array.replicate l.length false).getD j false) (fun _ => undef) l 0 a0 := by
    have hgen : ∀ (l' : List Oper) (k : Nat) (a : Act), a = fr (fun j => (Array.replicate l.length false).getD j false) (fun _ => undef) l' k a := by
      intro l'
      induction l' with
      | nil => intro _ _; rfl
      | cons o l' ih =>
        intro k a
        have : (Array.replicate l.length false).getD k false = false := by
          rcases Nat.lt_or_ge k l.length with h | h
          · simp [h]
          · simp [Array.getElem?_eq_none (xs := Array.replicate l.length false) (i := k) (by simpa using h)]
        simp only [fr, this, Bool.false_eq_true, if_false]
        exact ih (k + 1) a
    exact hgen l 0 a0
  have hrep : ∀ j, (Array.replicate l.length false).getD j false = false := fun k => by
    rcases Nat.lt_or_ge k l.length with h | h
    · simp [h]
    · simp [Array.getElem?_eq_none (xs := Array.replicate l.length false) (i := k) (by simpa using h)]
  have hmain := each_any_in (P := P) (Q := Q) (a0 := a0) (F := F) (N := N) hfn hc hdp hnd (fun w' => ∃ s : Kept n w0, w' = s.w) (fun i v _ => v = vs i) hsel0 hac0 hd2 (fun i hi o ho vs' W hC hdep => by
    have hyi := hy i (Nat.zero_le _) (by omega) o ho
    have hlooks : ∀ t ∈ o.looksAt l.toArray, (fr (fun q => decide (q < i)) vs l 0 a0).tmps[t]? = (fr (fun _ => true) vs' l 0 a0).tmps[t]? := fun t ht =>
      fr_at2 l 0 a0 a0 rfl fun j oj hj hd => by
        have hd3 := (hd2 i j o oj t ho hj hd).2 ht
        rw [Nat.zero_add]
        exact ⟨decide_eq_true (hacyc i o ho j hd3), (hdep j hd3).symm⟩
    refine steps_same o (fun cs b => hsel i o cs b ho) hlooks ?_
    unfold stepsTo
    rcases hyi with ⟨hw, hv⟩ | ⟨hw, hv⟩
    · rw [if_pos hw]
      have h1 := hv W hC
      unfold Oper.quietAt at h1
      unfold gives
      generalize (execOp (fr (fun q => decide (q < i)) vs l 0 a0).eval o).run P W = r at *
      cases r with
      | ok nx w' =>
        cases nx <;> simp only [Oper.quietUpon] at h1 ⊢
        case value u => obtain ⟨e1, e2⟩ := h1; rw [e1, e2]; exact ⟨rfl, hC, fun _ _ _ h => h⟩
        case skip => obtain ⟨e1, e2⟩ := h1; rw [e1]; exact ⟨e2.symm, hC, fun _ _ _ h => h⟩
        case enter f args =>
          obtain ⟨e1, hc⟩ := h1
          rw [e1]
          exact hc.mono fun e w'' ⟨he, hw''⟩ => ⟨_, he, rfl, hw'', fun _ _ _ h => h⟩
      | halt x w' => simp only [Oper.quietUpon] at h1
    · rw [if_neg (by rw [hw]; simp)]
      exact ⟨hv.symm, hC, fun _ _ _ h => h⟩) (fun vs' W hC hT => by
    have hRR := hR W hC
    rw [fr_congr' (L' := fun _ => true) l 0 a0 fun q _ hq => decide_eq_true (by omega)] at hRR
    have hv : ∀ (l' : List Oper) (k : Nat) (a : Act), k + l'.length ≤ l.length → fr (fun _ => true) vs l' k a = fr (fun _ => true) vs' l' k a := by
      intro l'
      induction l' with
      | nil => intro _ _ _; rfl
      | cons o l' ih =>
        intro k a hk
        simp only [List.length_cons] at hk
        simp only [fr, if_true]
        rw [hT k (by omega)]
        exact ih (k + 1) _ (by omega)
    rw [hv l 0 a0 (by omega)] at hRR
    exact hRR) l.length (Array.replicate l.length false) (fun _ => undef) { w0 with drawn := w0.drawn + 1 } (by simp)
    (fun i _ h => by rw [hrep i] at h; cases h) ⟨⟨w0.drew, (Below.refl _ w0).drew⟩, rfl⟩ (by
      have := List.countP_le_length (p := fun i => !(Array.replicate l.length false).getD i false) (l := List.range l.length)
      simpa using this)
  rw [← hfr2] at hmain
  simpa using hmain
end
end Go.Bx
