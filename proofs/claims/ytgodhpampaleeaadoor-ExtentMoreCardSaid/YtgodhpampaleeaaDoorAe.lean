/- Texts joined: XInR XBk XNr XNs XNt. -/
import Derived.Test.YtgodhpampaleeaaDoorAd
import Derived.OrdersIn
import Derived.RangeFuncBox
import Derived.RangeFuncWrites
import Derived.RangeFuncNested
import Derived.RangeFuncBound
import Derived.RangeFuncCalls
import Derived.RangeFuncLeaves
import Derived.Shelf.Abstract
import Derived.OwnWalkIn
import Derived.TacticsInMore
import Derived.LoopNIn
import Derived.LoopIn
import Derived.Test.YtgodhpampaleeaaDoorAb
import Derived.Test.YtgodhpampaleeaaDoorAc
set_option maxRecDepth 4000
/- Regions that draw their order, inside a fence (a round of a range over a function too). Printed by tools/mk_in.py out of XEach, XLast, XTail. Plain: no program. -/
namespace Go.Bx
open Go.RowKit
set_option linter.unusedVariables false

section
variable {P : Program} {Q : Exit → Act → World → Prop} {a0 : Act} {w0 : World} {l : List Oper} {F : Fence} {N : Nat}
theorem gives_put_in {o : Oper} {a : Act} {w : World} {R : Value → World → Prop} {K : Act → World → Prop} (hfn : ∀ f, F.fn f) (hc : ∀ {f : FuncId} {args : Array Value} {w : World} {R : Ending → World → Prop}, Calls P f args w R → CallsIn F (N - 1) P f args w R) (hdp : F.depth.isSome = true → 1 ≤ N) (hnd : ∀ c, o.op ≠ .defer c)
    (h : gives P o a.eval w R) (hK : ∀ v w', R v w' → K (a.put o.dst v) w') : o.wpIn F N P a w K Q := by
  refine ⟨fun f _ => hfn f, ?_⟩
  rw [Oper.semAt_eq _ _ _ hnd]
  unfold gives at h
  generalize (execOp a.eval o).run P w = r at *
  cases r with
  | ok n w' =>
    cases n <;> simp only [] at h <;> simp only [Oper.uponIn]
    case value u => exact hK _ _ h
    case skip => exact hK _ _ h
    case enter f args => exact ⟨hdp, (hc h).mono fun e w'' ⟨v, he, hr⟩ => by subst he; exact hK _ _ hr⟩
  | halt x w' => cases h
theorem any_done_in {md : Region.Mode} {ops : Array Oper} {listed : Array Bool} {a : Act} {w : World} (h : Region.ready md ops listed = []) (hq : Q .normal a w) : ∀ fuel, wpAnyIn F N P md ops Q fuel listed a w
  | 0 => ⟨h, hq⟩
  | _ + 1 => ⟨fun _ => hq, fun i hi => by rw [h] at hi; cases hi⟩
theorem each_any_in (hfn : ∀ f, F.fn f) (hc : ∀ {f : FuncId} {args : Array Value} {w : World} {R : Ending → World → Prop}, Calls P f args w R → CallsIn F (N - 1) P f args w R) (hdp : F.depth.isSome = true → 1 ≤ N) (hnd : ∀ (j : Nat) (o : Oper) c, l[j]? = some o → o.op ≠ .defer c) (I : World → Prop) (T : Nat → Value → World → Prop) (hsel : Region.noSelect l.toArray = true)
    (hacyc : ∀ i oi, l[i]? = some oi → ∀ e ∈ oi.after, Region.binds .any e = true → e.on < i)
    (hdst : ∀ i j oi oj d, l[i]? = some oi → l[j]? = some oj → oj.dst = some d → (i = j ∨ oi.dst ≠ some d) ∧ (d ∈ oi.looksAt l.toArray → depB oi j = true))
    (hop : ∀ i, i < l.length → OpIs P l a0 I T i)
    (hend : ∀ vs w, I w → (∀ i, i < l.length → T i (vs i) w) → Q .normal (fr (fun _ => true) vs l 0 a0) w) :
    ∀ (fuel : Nat) (listed : Array Bool) (vs : Nat → Value) (w : World), listed.size = l.length →
      (∀ i, i < l.length → listed.getD i false = true → T i (vs i) w) → I w → (List.range l.length).countP (fun i => !listed.getD i false) ≤ fuel →
      wpAnyIn F N P .any l.toArray Q fuel listed (fr (fun j => listed.getD j false) vs l 0 a0) w := by
  intro fuel
  induction fuel with
  | zero =>
    intro listed vs w hsz hT hw hf
    have hall : ∀ j, j < l.length → listed.getD j false = true := by
      intro j hj
      cases e : listed.getD j false with
      | true => rfl
      | false =>
        have : 0 < (List.range l.length).countP (fun i => !listed.getD i false) := List.countP_pos_iff.2 ⟨j, List.mem_range.2 hj, by simp [e]⟩
        omega
    refine any_done_in (ready_nil hsz hall) ?_ 0
    rw [fr_congr' (L' := fun _ => true) l 0 a0 fun j _ hj => hall j (by omega)]
    exact hend vs w hw fun i hi => hT i hi (hall i hi)
  | succ fuel ih =>
    intro listed vs w hsz hT hw hf
    by_cases hall : ∀ j, j < l.length → listed.getD j false = true
    · refine any_done_in (ready_nil hsz hall) ?_ _
      rw [fr_congr' (L' := fun _ => true) l 0 a0 fun j _ hj => hall j (by omega)]
      exact hend vs w hw fun i hi => hT i hi (hall i hi)
    have hgd : ∀ j, j < l.length → listed.getD j true = listed.getD j false := fun j hj => by
      rw [← hsz] at hj
      simp [hj]
    have hselo : ∀ (j : Nat) (o : Oper) cs b, l[j]? = some o → o.op ≠ .select cs b := fun j o cs b ho => Region.noSelect_spec hsel j o cs b (by simpa using ho)
    refine ⟨fun h => ?_, fun i hi => ?_⟩
    · exfalso
      have hex : ∃ m, m < l.length ∧ listed.getD m false = false ∧ ∀ j, j < m → listed.getD j false = true := by
        have : ∀ n, (∃ m, m < n ∧ listed.getD m false = false ∧ ∀ j, j < m → listed.getD j false = true) ∨ ∀ j, j < n → listed.getD j false = true := by
          intro n
          induction n with
          | zero => exact .inr fun j hj => by omega
          | succ n ihn =>
            rcases ihn with ⟨m, hm, h1, h2⟩ | h1
            · exact .inl ⟨m, by omega, h1, h2⟩
            · cases e : listed.getD n false with
              | false => exact .inl ⟨n, by omega, e, h1⟩
              | true =>
                refine .inr fun j hj => ?_
                by_cases hjn : j < n
                · exact h1 j hjn
                · rw [show j = n by omega]; exact e
        rcases this l.length with h2 | h2
        · exact h2
        · exact absurd h2 hall
      obtain ⟨m, hm, h1, h2⟩ := hex
      obtain ⟨o, ho⟩ : ∃ o, l[m]? = some o := ⟨_, List.getElem?_eq_getElem hm⟩
      have : m ∈ Region.ready .any l.toArray listed := mem_ready.2 ⟨by rw [hgd m hm]; exact h1, o, by simpa using ho, fun e he hb => h2 _ (hacyc m o ho e he hb)⟩
      rw [h] at this
      cases this
    · obtain ⟨hun, o, ho', hdeps⟩ := mem_ready.1 hi
      have ho : l[i]? = some o := by simpa using ho'
      have hil : i < l.length := (List.getElem?_eq_some_iff.1 ho).1
      rw [hgd i hil] at hun
      have hdep : ∀ j, depB o j = true → listed.getD j false = true ∧ j < l.length := fun j hj => by
        unfold depB at hj
        rw [Array.any_eq_true'] at hj
        obtain ⟨e, he, hb⟩ := hj
        simp only [Bool.and_eq_true, beq_iff_eq] at hb
        rw [← hb.2]
        exact ⟨hdeps e he hb.1, Nat.lt_trans (hacyc i o ho e he hb.1) hil⟩
      have hlooks : ∀ t ∈ o.looksAt l.toArray, (fr (fun _ => true) vs l 0 a0).tmps[t]? = (fr (fun j => listed.getD j false) vs l 0 a0).tmps[t]? := fun t ht =>
        fr_at l 0 a0 a0 rfl fun j oj hj hd => by
          have hd2 := (hdst i j o oj t ho hj hd).2 ht
          rw [Nat.zero_add, (hdep j hd2).1]
      have hs0 := hop i hil o ho vs w hw (fun j hj => hT j (hdep j hj).2 (hdep j hj).1)
      have hs := steps_same o (fun cs b => hselo i o cs b ho) hlooks hs0
      have hnext : ∀ v w', (T i v w' ∧ I w' ∧ ∀ j u, j ≠ i → T j u w → T j u w') → wpAnyIn F N P .any l.toArray Q fuel (listed.setIfInBounds i true) ((fr (fun j => listed.getD j false) vs l 0 a0).put o.dst v) w' := by
        intro v w' ⟨hTv, hIw, hkeep⟩
        have hset : ∀ j, (listed.setIfInBounds i true).getD j false = upd (fun j => listed.getD j false) i true j := fun j => by
          by_cases e : i = j
          · subst e
            have : i < listed.size := by omega
            simp [this, upd]
          · rw [getD_set_ne false e]; exact (if_neg fun h => e h.symm).symm
        have hfr : fr (fun j => (listed.setIfInBounds i true).getD j false) (upd vs i v) l 0 a0 = (fr (fun j => listed.getD j false) vs l 0 a0).put o.dst v := by
          rw [fr_congr (L' := upd (fun j => listed.getD j false) (0 + i) true) (vs' := upd vs (0 + i) v) l 0 a0 fun j _ => by rw [Nat.zero_add]; exact ⟨hset j, rfl⟩]
          exact fr_step l 0 i a0 o ho (by rw [Nat.zero_add]; exact hun) fun j o' hj hne t ht => by
            rcases (hdst j i o' o t hj ho ht).1 with h | h
            · exact absurd h hne
            · exact h
        rw [← hfr]
        refine ih _ _ w' (by simpa using hsz) ?_ hIw ?_
        · intro j hj hlj
          by_cases e : j = i
          · subst e
            rw [show upd vs j v j = v from if_pos rfl]; exact hTv
          · rw [show upd vs i v j = vs j from if_neg e]
            rw [hset, show upd (fun j => listed.getD j false) i true j = listed.getD j false from if_neg e] at hlj
            exact hkeep j _ e (hT j hj hlj)
        · have := countP_one (f := fun i => !listed.getD i false) (g := fun j => !(listed.setIfInBounds i true).getD j false) (i := i) (by simp only [hun]; rfl) (by simp only [hset, upd, if_true]; rfl) (fun j hj => by
            simp only [hset]
            rw [show upd (fun j => listed.getD j false) i true j = listed.getD j false from if_neg hj]) l.length hil
          omega
      unfold wpOpIn
      simp only [ho']
      unfold stepsTo at hs
      split
      · rename_i hw'
        simp only [hw', if_true] at hs
        exact gives_put_in hfn hc hdp (fun c => hnd i o c ho) hs hnext
      · rename_i hw'
        simp only [hw'] at hs
        exact ⟨fun f _ => hfn f, hnext _ _ hs⟩

theorem last_any_in (hfn : ∀ f, F.fn f) (hc : ∀ {f : FuncId} {args : Array Value} {w : World} {R : Ending → World → Prop}, Calls P f args w R → CallsIn F (N - 1) P f args w R) (hdp : F.depth.isSome = true → 1 ≤ N) (hnd : ∀ (j : Nat) (o : Oper) c, l[j]? = some o → o.op ≠ .defer c) (I : World → Prop) (T : Nat → Value → World → Prop) (k : Nat) (last : Oper) (hl : l[k]? = some last) (hlen : l.length = k + 1) (hsel : Region.noSelect l.toArray = true)
    (hacyc : ∀ i oi, l[i]? = some oi → ∀ e ∈ oi.after, Region.binds .any e = true → e.on < i)
    (hcl : ∀ i, i < k → ∃ j oj, i < j ∧ l[j]? = some oj ∧ depB oj i = true)
    (hdst : ∀ i j oi oj d, l[i]? = some oi → l[j]? = some oj → oj.dst = some d → (i = j ∨ oi.dst ≠ some d) ∧ (d ∈ oi.looksAt l.toArray → depB oi j = true))
    (hop : ∀ i, i < k → OpIs P l a0 I T i)
    (hlast : ∀ vs w, I w → (∀ i, i < k → T i (vs i) w) → stepsTo P l.toArray last (fr (fun j => decide (j < k)) vs l 0 a0) w (fun v w' => Q .normal ((fr (fun j => decide (j < k)) vs l 0 a0).put last.dst v) w')) :
    ∀ (fuel : Nat) (listed : Array Bool) (vs : Nat → Value) (w : World), listed.size = l.length →
      (∀ i oi, l[i]? = some oi → listed.getD i false = true → ∀ e ∈ oi.after, Region.binds .any e = true → listed.getD e.on false = true) →
      listed.getD k false = false → (∀ i, i < k → listed.getD i false = true → T i (vs i) w) → I w → (List.range l.length).countP (fun i => !listed.getD i false) ≤ fuel →
      wpAnyIn F N P .any l.toArray Q fuel listed (fr (fun j => listed.getD j false) vs l 0 a0) w := by
  intro fuel
  induction fuel with
  | zero =>
    intro listed vs w hsz hdown hk hT hw hf
    have : 0 < (List.range l.length).countP (fun i => !listed.getD i false) := List.countP_pos_iff.2 ⟨k, List.mem_range.2 (by omega), by simp [hk]⟩
    omega
  | succ fuel ih =>
    intro listed vs w hsz hdown hk hT hw hf
    have hgd : ∀ j, j < l.length → listed.getD j true = listed.getD j false := fun j hj => by
      rw [← hsz] at hj
      simp [hj]
    have hout : ∀ j, l.length ≤ j → listed.getD j false = false := fun j hj => by
      rw [← hsz] at hj
      simp [Array.getElem?_eq_none hj]
    have hselo : ∀ (j : Nat) (o : Oper) cs b, l[j]? = some o → o.op ≠ .select cs b := fun j o cs b ho => Region.noSelect_spec hsel j o cs b (by simpa using ho)
    refine ⟨fun h => ?_, fun i hi => ?_⟩
    · exfalso
      -- the least that has not come up may come up
      have hex : ∃ m, m ≤ k ∧ listed.getD m false = false ∧ ∀ j, j < m → listed.getD j false = true := by
        clear h hT hw hf hdown
        have : ∀ n, (∃ m, m ≤ n ∧ listed.getD m false = false ∧ ∀ j, j < m → listed.getD j false = true) ∨ ∀ j, j ≤ n → listed.getD j false = true := by
          intro n
          induction n with
          | zero =>
            cases e : listed.getD 0 false with
            | false => exact .inl ⟨0, Nat.le_refl _, e, fun j hj => by omega⟩
            | true => exact .inr fun j hj => by rw [show j = 0 by omega]; exact e
          | succ n ihn =>
            rcases ihn with ⟨m, hm, h1, h2⟩ | h1
            · exact .inl ⟨m, by omega, h1, h2⟩
            · cases e : listed.getD (n + 1) false with
              | false => exact .inl ⟨n + 1, Nat.le_refl _, e, fun j hj => h1 j (by omega)⟩
              | true =>
                refine .inr fun j hj => ?_
                by_cases hjn : j ≤ n
                · exact h1 j hjn
                · rw [show j = n + 1 by omega]; exact e
        rcases this k with h2 | h2
        · exact h2
        · rw [h2 k (Nat.le_refl _)] at hk; cases hk
      obtain ⟨m, hm, h1, h2⟩ := hex
      obtain ⟨o, ho⟩ : ∃ o, l[m]? = some o := ⟨_, List.getElem?_eq_getElem (by omega)⟩
      have : m ∈ Region.ready .any l.toArray listed := mem_ready.2 ⟨by rw [hgd m (by omega)]; exact h1, o, by simpa using ho, fun e he hb => h2 _ (hacyc m o ho e he hb)⟩
      rw [h] at this
      cases this
    · obtain ⟨hun, o, ho', hdeps⟩ := mem_ready.1 hi
      have ho : l[i]? = some o := by simpa using ho'
      have hil : i < l.length := (List.getElem?_eq_some_iff.1 ho).1
      rw [hgd i hil] at hun
      have hdep : ∀ j, depB o j = true → listed.getD j false = true := fun j hj => by
        unfold depB at hj
        rw [Array.any_eq_true'] at hj
        obtain ⟨e, he, hb⟩ := hj
        simp only [Bool.and_eq_true, beq_iff_eq] at hb
        rw [← hb.2]
        exact hdeps e he hb.1
      have hlooks : ∀ (L' : Nat → Bool), (∀ j, depB o j = true → L' j = true) → ∀ t ∈ o.looksAt l.toArray, (fr L' vs l 0 a0).tmps[t]? = (fr (fun j => listed.getD j false) vs l 0 a0).tmps[t]? := fun L' hL' t ht =>
        fr_at l 0 a0 a0 rfl fun j oj hj hd => by
          have hd2 := (hdst i j o oj t ho hj hd).2 ht
          rw [Nat.zero_add, hL' j hd2, hdep j hd2]
      by_cases hik : i = k
      · subst hik
        rw [hl] at ho
        cases ho
        have hall : ∀ n j, i - j ≤ n → j < i → listed.getD j false = true := by
          intro n
          induction n with
          | zero => intro j h1 h2; omega
          | succ n ihn =>
            intro j h1 h2
            obtain ⟨m, om, hm, hom, hd⟩ := hcl j h2
            have hml : m < l.length := (List.getElem?_eq_some_iff.1 hom).1
            by_cases e : m = i
            · subst e
              rw [hl] at hom
              cases hom
              exact hdep j hd
            · have := ihn m (by omega) (by omega)
              unfold depB at hd
              rw [Array.any_eq_true'] at hd
              obtain ⟨e', he, hb⟩ := hd
              simp only [Bool.and_eq_true, beq_iff_eq] at hb
              rw [← hb.2]
              exact hdown m om hom this e' he hb.1
        have hL : ∀ j, listed.getD j false = decide (j < i) := fun j => by
          by_cases h1 : j < i
          · rw [hall i j (by omega) h1]; simp [h1]
          · rw [decide_eq_false h1]
            by_cases h2 : j = i
            · rw [h2]; exact hun
            · exact hout j (by omega)
        have hfr : fr (fun j => listed.getD j false) vs l 0 a0 = fr (fun j => decide (j < i)) vs l 0 a0 := fr_congr l 0 a0 fun j _ => ⟨hL j, rfl⟩
        rw [hfr]
        have hs := hlast vs w hw (fun j hj => hT j hj (hall i j (by omega) hj))
        have hdone : ∀ a w', Q .normal a w' → wpAnyIn F N P .any l.toArray Q fuel (listed.setIfInBounds i true) a w' := fun a w' hq => any_done_in (by
          rw [List.eq_nil_iff_forall_not_mem]
          intro j hj
          obtain ⟨h1, oj, hoj, _⟩ := mem_ready.1 hj
          by_cases e : i = j
          · subst e
            have : i < listed.size := by omega
            simp [this] at h1
          · rw [getD_set_ne true e] at h1
            have hjl : j < l.length := (List.getElem?_eq_some_iff.1 (by simpa using hoj)).1
            rw [hgd j hjl, hall i j (by omega) (by omega)] at h1
            cases h1) hq fuel
        unfold wpOpIn
        simp only [ho']
        unfold stepsTo at hs
        split
        · rename_i hw'
          simp only [hw', if_true] at hs
          exact gives_put_in hfn hc hdp (fun c => hnd i _ c hl) hs fun v w' h => hdone _ _ h
        · rename_i hw'
          simp only [hw'] at hs
          exact ⟨fun f _ => hfn f, hdone _ _ hs⟩
      · have hs0 := hop i (by omega) o ho vs w hw (fun j hj => hT j (by
          unfold depB at hj
          rw [Array.any_eq_true'] at hj
          obtain ⟨e, he, hb⟩ := hj
          simp only [Bool.and_eq_true, beq_iff_eq] at hb
          have := hacyc i o ho e he hb.1
          omega) (hdep j hj))
        have hs := steps_same o (fun cs b => hselo i o cs b ho) (hlooks (fun _ => true) fun _ _ => rfl) hs0
        have hnext : ∀ v w', (T i v w' ∧ I w' ∧ ∀ j u, j ≠ i → T j u w → T j u w') → wpAnyIn F N P .any l.toArray Q fuel (listed.setIfInBounds i true) ((fr (fun j => listed.getD j false) vs l 0 a0).put o.dst v) w' := by
          intro v w' ⟨hTv, hIw, hkeep⟩
          have hset : ∀ j, (listed.setIfInBounds i true).getD j false = upd (fun j => listed.getD j false) i true j := fun j => by
            by_cases e : i = j
            · subst e
              have : i < listed.size := by omega
              simp [this, upd]
            · rw [getD_set_ne false e]; exact (if_neg fun h => e h.symm).symm
          have hfr : fr (fun j => (listed.setIfInBounds i true).getD j false) (upd vs i v) l 0 a0 = (fr (fun j => listed.getD j false) vs l 0 a0).put o.dst v := by
            rw [fr_congr (L' := upd (fun j => listed.getD j false) (0 + i) true) (vs' := upd vs (0 + i) v) l 0 a0 fun j _ => by rw [Nat.zero_add]; exact ⟨hset j, rfl⟩]
            exact fr_step l 0 i a0 o ho (by rw [Nat.zero_add]; exact hun) fun j o' hj hne t ht => by
              rcases (hdst j i o' o t hj ho ht).1 with h | h
              · exact absurd h hne
              · exact h
          rw [← hfr]
          refine ih _ _ w' (by simpa using hsz) ?_ ?_ ?_ hIw ?_
          · intro j oj hj hlj e he hbd
            rw [hset] at hlj
            rw [hset]
            by_cases e1 : e.on = i
            · exact if_pos e1
            · rw [show upd (fun j => listed.getD j false) i true e.on = listed.getD e.on false from if_neg e1]
              by_cases e2 : j = i
              · subst e2
                rw [ho] at hj
                cases hj
                exact hdeps e he hbd
              · rw [show upd (fun j => listed.getD j false) i true j = listed.getD j false from if_neg e2] at hlj
                exact hdown j oj hj hlj e he hbd
          · rw [hset]; rw [show upd (fun j => listed.getD j false) i true k = listed.getD k false from if_neg fun h => hik h.symm]; exact hk
          · intro j hj hlj
            by_cases e : j = i
            · subst e
              rw [show upd vs j v j = v from if_pos rfl]; exact hTv
            · rw [show upd vs i v j = vs j from if_neg e]
              rw [hset, show upd (fun j => listed.getD j false) i true j = listed.getD j false from if_neg e] at hlj
              exact hkeep j _ e (hT j hj hlj)
          · have := countP_one (f := fun i => !listed.getD i false) (g := fun j => !(listed.setIfInBounds i true).getD j false) (i := i) (by simp only [hun]; rfl) (by simp only [hset, upd, if_true]; rfl) (fun j hj => by
              simp only [hset]
              rw [show upd (fun j => listed.getD j false) i true j = listed.getD j false from if_neg hj]) l.length hil
            omega
        unfold wpOpIn
        simp only [ho']
        unfold stepsTo at hs
        split
        · rename_i hw'
          simp only [hw', if_true] at hs
          exact gives_put_in hfn hc hdp (fun c => hnd i o c ho) hs hnext
        · rename_i hw'
          simp only [hw'] at hs
          exact ⟨fun f _ => hfn f, hnext _ _ hs⟩

theorem wp_region_last_in {id : Nat} (hfn : ∀ f, F.fn f) (hc : ∀ {f : FuncId} {args : Array Value} {w : World} {R : Ending → World → Prop}, Calls P f args w R → CallsIn F (N - 1) P f args w R) (hdp : F.depth.isSome = true → 1 ≤ N) (hnd : ∀ (j : Nat) (o : Oper) c, l[j]? = some o → o.op ≠ .defer c) (I : World → Prop) (T : Nat → Value → World → Prop) (k : Nat) (last : Oper) (hl : l[k]? = some last) (hlen : l.length = k + 1) (hm : P.follows .mixedOrders = true) (hB : monoB l = true) (hI : I w0.drew)
    (hop : ∀ i, i < k → OpIs P l a0 I T i)
    (hlast : ∀ vs w, I w → (∀ i, i < k → T i (vs i) w) → Shut (stepsTo P l.toArray last (fr (fun j => decide (j < k)) vs l 0 a0) w (fun v w' => Q .normal ((fr (fun j => decide (j < k)) vs l 0 a0).put last.dst v) w'))) :
    (Code.region id l.toArray true).wpIn F N P Q a0 w0 := by
  unfold monoB at hB
  rw [Bool.and_eq_true, List.all_eq_true] at hB
  obtain ⟨hsel, hB⟩ := hB
  have hB1 : ∀ i oi, l[i]? = some oi → _ := fun i oi hi => by
    have := hB i (List.mem_range.2 (List.getElem?_eq_some_iff.1 hi).1)
    simp only [hi, Bool.and_eq_true] at this
    exact this
  refine wpIn_region_any hm ?_
  have hfr : a0 = fr (fun j => (Array.replicate l.length false).getD j false) (fun _ => undef) l 0 a0 := by
    have hgen : ∀ (l' : List Oper) (k : Nat) (a : Act), a = fr (fun j => (Array.replicate l.length false).getD j false) (fun _ => undef) l' k a := by
      intro l'
      induction l' with
      | nil => intro _ _; rfl
      | cons o l' ih =>
        intro k a
        have : (Array.replicate l.length false).getD k false = false := by
          rcases Nat.lt_or_ge k l.length with h | h
          · simp [h]
          · simp [Array.getElem?_eq_none (xs := Array.replicate l.length false) (i := k) (by simpa using h)]
        simp only [fr, this, Bool.false_eq_true, if_false]
        exact ih (k + 1) a
    exact hgen l 0 a0
  have hrep : ∀ j, (Array.replicate l.length false).getD j false = false := fun k => by
    rcases Nat.lt_or_ge k l.length with h | h
    · simp [h]
    · simp [Array.getElem?_eq_none (xs := Array.replicate l.length false) (i := k) (by simpa using h)]
  have hmain := last_any_in (P := P) (Q := Q) (a0 := a0) (F := F) (N := N) hfn hc hdp hnd I T k last hl hlen hsel ?_ ?_ ?_ hop (fun vs w h1 h2 => (hlast vs w h1 h2).out) l.length (Array.replicate l.length false) (fun _ => undef) { w0 with drawn := w0.drawn + 1 } (by simp)
    (fun i _ _ h => by rw [hrep i] at h; cases h) (hrep k) (fun i _ h => by rw [hrep i] at h; cases h) hI (by
      have := List.countP_le_length (p := fun i => !(Array.replicate l.length false).getD i false) (l := List.range l.length)
      simpa using this)
  · rw [← hfr] at hmain
    simpa using hmain
  · intro i oi hi e he hb
    have := (hB1 i oi hi).1.1
    rw [Array.all_eq_true'] at this
    have := this e he
    simpa [hb] using this
  · intro i hi
    have := (hB1 i l[i] (List.getElem?_eq_getElem (by omega))).1.2
    simp only [Bool.or_eq_true, beq_iff_eq, List.any_eq_true, Bool.and_eq_true, decide_eq_true_eq] at this
    rcases this with h | ⟨j, _, h1, h2⟩
    · omega
    · split at h2
      · rename_i oj hj
        exact ⟨j, oj, h1, hj, h2⟩
      · cases h2
  · intro i j oi oj d hi hj hd
    have := (hB1 i oi hi).2
    rw [List.all_eq_true] at this
    have := this j (List.mem_range.2 (List.getElem?_eq_some_iff.1 hj).1)
    simp only [hj, hd, Bool.and_eq_true, Bool.or_eq_true, beq_iff_eq, bne_iff_ne, Bool.not_eq_true', List.contains_eq_mem, decide_eq_false_iff_not, ne_eq] at this
    refine ⟨this.1, fun hm => ?_⟩
    rcases this.2 with h | h
    · exact absurd hm (by simpa using h)
    · exact h
theorem wp_region_kept_last_in {id : Nat} (hfn : ∀ f, F.fn f) (hc : ∀ {f : FuncId} {args : Array Value} {w : World} {R : Ending → World → Prop}, Calls P f args w R → CallsIn F (N - 1) P f args w R) (hdp : F.depth.isSome = true → 1 ≤ N) (hnd : ∀ (j : Nat) (o : Oper) c, l[j]? = some o → o.op ≠ .defer c) (n k : Nat) (last : Oper) (hl : l[k]? = some last) (hlen : l.length = k + 1) (hm : P.follows .mixedOrders = true) (hB : monoB l = true)
    (h : wpQuiet P l.toArray (fun w' => ∃ s : Kept n w0, w' = s.w) (fun a' => ∀ s : Kept n w0, Shut (stepsTo P l.toArray last a' s.w (fun v w' => Q .normal (a'.put last.dst v) w'))) (l.take k) a0) : (Code.region id l.toArray true).wpIn F N P Q a0 w0 := by
  have hB' := hB
  unfold monoB at hB'
  rw [Bool.and_eq_true, List.all_eq_true] at hB'
  have hB1 : ∀ i oi, l[i]? = some oi → _ := fun i oi hi => by
    have := hB'.2 i (List.mem_range.2 (List.getElem?_eq_some_iff.1 hi).1)
    simp only [hi, Bool.and_eq_true] at this
    exact this
  have hd2 : ∀ i j oi oj d, l[i]? = some oi → l[j]? = some oj → oj.dst = some d → (i = j ∨ oi.dst ≠ some d) ∧ (d ∈ oi.looksAt l.toArray → depB oi j = true) := fun i j oi oj d hi hj hd => by
    have := (hB1 i oi hi).2
    rw [List.all_eq_true] at this
    have := this j (List.mem_range.2 (List.getElem?_eq_some_iff.1 hj).1)
    simp only [hj, hd, Bool.and_eq_true, Bool.or_eq_true, beq_iff_eq, bne_iff_ne, ne_eq] at this
    refine ⟨this.1, fun hm => ?_⟩
    rcases this.2 with h | h
    · rw [Bool.not_eq_true'] at h
      have hc : (oi.looksAt l.toArray).contains d = true := by simpa using hm
      rw [hc] at h
      cases h
    · exact h
  have hacyc : ∀ i oi, l[i]? = some oi → ∀ j, depB oi j = true → j < i := fun i oi hi j hj => by
    have h1 := (hB1 i oi hi).1.1
    rw [Array.all_eq_true'] at h1
    unfold depB at hj
    rw [Array.any_eq_true'] at hj
    obtain ⟨e, he, hb⟩ := hj
    simp only [Bool.and_eq_true, beq_iff_eq] at hb
    have := h1 e he
    simp [hb.1] at this
    omega
  have hsel : ∀ (j : Nat) (o : Oper) cs b, l[j]? = some o → o.op ≠ .select cs b := fun j o cs b ho => Region.noSelect_spec hB'.1 j o cs b (by simpa using ho)
  have hfr : a0 = fr (fun q => decide (q < 0)) (fun _ => undef) l 0 a0 := by
    have hgen : ∀ (l' : List Oper) (k : Nat) (a : Act), a = fr (fun q => decide (q < 0)) (fun _ => undef) l' k a := by
      intro l'
      induction l' with
      | nil => intro _ _; rfl
      | cons o l' ih =>
        intro k a
        simp only [fr, Nat.not_lt_zero, decide_false, Bool.false_eq_true, if_false]
        exact ih (k + 1) a
    exact hgen l 0 a0
  rw [hfr] at h
  obtain ⟨vs, _, hy, hR⟩ := quiet_vals (a0 := a0) (fun i j oi oj hi hj hne t ht => by
    rcases (hd2 j i oj oi t hj hi ht).1 with h | h
    · exact absurd h.symm hne
    · exact h) (l.take k) 0 (fun _ => undef) (fun j hj => by rw [Nat.zero_add, List.getElem?_take_of_lt (by rw [List.length_take] at hj; omega)]) h
  have hk : (l.take k).length = k := by rw [List.length_take]; omega
  rw [Nat.zero_add, hk] at hR
  rw [hk] at hy
  refine wp_region_last_in hfn hc hdp hnd (fun w' => ∃ s : Kept n w0, w' = s.w) (fun i v _ => v = vs i) k last hl hlen hm hB ⟨⟨w0.drew, (Below.refl _ w0).drew⟩, rfl⟩ (fun i hi o ho vs' W hC hdep => ?_) (fun vs' W hC hT => ?_)
  · have hyi := hy i (Nat.zero_le _) (by omega) o ho
    have hlooks : ∀ t ∈ o.looksAt l.toArray, (fr (fun q => decide (q < i)) vs l 0 a0).tmps[t]? = (fr (fun _ => true) vs' l 0 a0).tmps[t]? := fun t ht =>
      fr_at2 l 0 a0 a0 rfl fun j oj hj hd => by
        have hd3 := (hd2 i j o oj t ho hj hd).2 ht
        rw [Nat.zero_add]
        exact ⟨decide_eq_true (hacyc i o ho j hd3), (hdep j hd3).symm⟩
    refine steps_same o (fun cs b => hsel i o cs b ho) hlooks ?_
    unfold stepsTo
    rcases hyi with ⟨hw, hv⟩ | ⟨hw, hv⟩
    · rw [if_pos hw]
      have h1 := hv W hC
      unfold Oper.quietAt at h1
      unfold gives
      generalize (execOp (fr (fun q => decide (q < i)) vs l 0 a0).eval o).run P W = r at *
      cases r with
      | ok nx w' =>
        cases nx <;> simp only [Oper.quietUpon] at h1 ⊢
        case value u => obtain ⟨e1, e2⟩ := h1; rw [e1, e2]; exact ⟨rfl, hC, fun _ _ _ h => h⟩
        case skip => obtain ⟨e1, e2⟩ := h1; rw [e1]; exact ⟨e2.symm, hC, fun _ _ _ h => h⟩
        case enter f args =>
          obtain ⟨e1, hc⟩ := h1
          rw [e1]
          exact hc.mono fun e w'' ⟨he, hw''⟩ => ⟨_, he, rfl, hw'', fun _ _ _ h => h⟩
      | halt x w' => simp only [Oper.quietUpon] at h1
    · rw [if_neg (by rw [hw]; simp)]
      exact ⟨hv.symm, hC, fun _ _ _ h => h⟩
  · obtain ⟨s, rfl⟩ := hC
    have := hR s
    rw [fr_congr2 (L' := fun j => decide (j < k)) (vs' := vs') l 0 a0 fun q _ => ⟨rfl, fun hq => (hT q (of_decide_eq_true hq)).symm⟩] at this
    exact this
theorem wp_region_kept_in {id : Nat} (hfn : ∀ f, F.fn f) (hc : ∀ {f : FuncId} {args : Array Value} {w : World} {R : Ending → World → Prop}, Calls P f args w R → CallsIn F (N - 1) P f args w R) (hdp : F.depth.isSome = true → 1 ≤ N) (hnd : ∀ (j : Nat) (o : Oper) c, l[j]? = some o → o.op ≠ .defer c) (n : Nat) (hm : P.follows .mixedOrders = true) (hB : eachB l = true)
    (h : wpQuiet P l.toArray (fun w' => ∃ s : Kept n w0, w' = s.w) (fun a' => ∀ w', (∃ s : Kept n w0, w' = s.w) → Q .normal a' w') l a0) : (Code.region id l.toArray true).wpIn F N P Q a0 w0 := by
  obtain ⟨hsel0, hac0, hd2⟩ := eachB_parts hB
  have hacyc : ∀ i oi, l[i]? = some oi → ∀ j, depB oi j = true → j < i := fun i oi hi j hj => by
    unfold depB at hj
    rw [Array.any_eq_true'] at hj
    obtain ⟨e, he, hb⟩ := hj
    simp only [Bool.and_eq_true, beq_iff_eq] at hb
    have := hac0 i oi hi e he hb.1
    omega
  have hsel : ∀ (j : Nat) (o : Oper) cs b, l[j]? = some o → o.op ≠ .select cs b := fun j o cs b ho => Region.noSelect_spec hsel0 j o cs b (by simpa using ho)
  have hfr : a0 = fr (fun q => decide (q < 0)) (fun _ => undef) l 0 a0 := by
    have hgen : ∀ (l' : List Oper) (k : Nat) (a : Act), a = fr (fun q => decide (q < 0)) (fun _ => undef) l' k a := by
      intro l'
      induction l' with
      | nil => intro _ _; rfl
      | cons o l' ih =>
        intro k a
        simp only [fr, Nat.not_lt_zero, decide_false, Bool.false_eq_true, if_false]
        exact ih (k + 1) a
    exact hgen l 0 a0
  rw [hfr] at h
  obtain ⟨vs, _, hy, hR⟩ := quiet_vals (a0 := a0) (fun i j oi oj hi hj hne t ht => by
    rcases (hd2 j i oj oi t hj hi ht).1 with h | h
    · exact absurd h.symm hne
    · exact h) l 0 (fun _ => undef) (fun j hj => by rw [Nat.zero_add]) h
  rw [Nat.zero_add] at hR
  refine wpIn_region_any hm ?_
  have hfr2 : a0 = fr (fun j => (Array.replicate l.length false).getD j false) (fun _ => undef) l 0 a0 := by
    have hgen : ∀ (l' : List Oper) (k : Nat) (a : Act), a = fr (fun j => (Array.replicate l.length false).getD j false) (fun _ => undef) l' k a := by
      intro l'
      induction l' with
      | nil => intro _ _; rfl
      | cons o l' ih =>
        intro k a
        have : (Array.replicate l.length false).getD k false = false := by
          rcases Nat.lt_or_ge k l.length with h | h
          · simp [h]
          · simp [Array.getElem?_eq_none (xs := Array.replicate l.length false) (i := k) (by simpa using h)]
        simp only [fr, this, Bool.false_eq_true, if_false]
        exact ih (k + 1) a
    exact hgen l 0 a0
  have hrep : ∀ j, (Array.replicate l.length false).getD j false = false := fun k => by
    rcases Nat.lt_or_ge k l.length with h | h
    · simp [h]
    · simp [Array.getElem?_eq_none (xs := Array.replicate l.length false) (i := k) (by simpa using h)]
  have hmain := each_any_in (P := P) (Q := Q) (a0 := a0) (F := F) (N := N) hfn hc hdp hnd (fun w' => ∃ s : Kept n w0, w' = s.w) (fun i v _ => v = vs i) hsel0 hac0 hd2 (fun i hi o ho vs' W hC hdep => by
    have hyi := hy i (Nat.zero_le _) (by omega) o ho
    have hlooks : ∀ t ∈ o.looksAt l.toArray, (fr (fun q => decide (q < i)) vs l 0 a0).tmps[t]? = (fr (fun _ => true) vs' l 0 a0).tmps[t]? := fun t ht =>
      fr_at2 l 0 a0 a0 rfl fun j oj hj hd => by
        have hd3 := (hd2 i j o oj t ho hj hd).2 ht
        rw [Nat.zero_add]
        exact ⟨decide_eq_true (hacyc i o ho j hd3), (hdep j hd3).symm⟩
    refine steps_same o (fun cs b => hsel i o cs b ho) hlooks ?_
    unfold stepsTo
    rcases hyi with ⟨hw, hv⟩ | ⟨hw, hv⟩
    · rw [if_pos hw]
      have h1 := hv W hC
      unfold Oper.quietAt at h1
      unfold gives
      generalize (execOp (fr (fun q => decide (q < i)) vs l 0 a0).eval o).run P W = r at *
      cases r with
      | ok nx w' =>
        cases nx <;> simp only [Oper.quietUpon] at h1 ⊢
        case value u => obtain ⟨e1, e2⟩ := h1; rw [e1, e2]; exact ⟨rfl, hC, fun _ _ _ h => h⟩
        case skip => obtain ⟨e1, e2⟩ := h1; rw [e1]; exact ⟨e2.symm, hC, fun _ _ _ h => h⟩
        case enter f args =>
          obtain ⟨e1, hc⟩ := h1
          rw [e1]
          exact hc.mono fun e w'' ⟨he, hw''⟩ => ⟨_, he, rfl, hw'', fun _ _ _ h => h⟩
      | halt x w' => simp only [Oper.quietUpon] at h1
    · rw [if_neg (by rw [hw]; simp)]
      exact ⟨hv.symm, hC, fun _ _ _ h => h⟩) (fun vs' W hC hT => by
    have hRR := hR W hC
    rw [fr_congr' (L' := fun _ => true) l 0 a0 fun q _ hq => decide_eq_true (by omega)] at hRR
    have hv : ∀ (l' : List Oper) (k : Nat) (a : Act), k + l'.length ≤ l.length → fr (fun _ => true) vs l' k a = fr (fun _ => true) vs' l' k a := by
      intro l'
      induction l' with
      | nil => intro _ _ _; rfl
      | cons o l' ih =>
        intro k a hk
        simp only [List.length_cons] at hk
        simp only [fr, if_true]
        rw [hT k (by omega)]
        exact ih (k + 1) _ (by omega)
    rw [hv l 0 a0 (by omega)] at hRR
    exact hRR) l.length (Array.replicate l.length false) (fun _ => undef) { w0 with drawn := w0.drawn + 1 } (by simp)
    (fun i _ h => by rw [hrep i] at h; cases h) ⟨⟨w0.drew, (Below.refl _ w0).drew⟩, rfl⟩ (by
      have := List.countP_le_length (p := fun i => !(Array.replicate l.length false).getD i false) (l := List.range l.length)
      simpa using this)
  rw [← hfr2] at hmain
  simpa using hmain
end
end Go.Bx
/- slices.Backward over ints, where two blocks are written while it walks. -/
namespace Go.Proofs.YtgodhpampaleeaaDoor
open Go.RowKit Go.Bx Go.Od Go.Hp Go.Shelf
set_option linter.unusedVariables false

/-- below bm all but blocks O and X lies as it lay -/
def KpO (bm O X : Nat) (W W' : World) : Prop := W.heap.size ≤ W'.heap.size ∧ ∀ b, b < bm → b ≠ O → b ≠ X → W'.heap[b]? = W.heap[b]?
theorem KpO.refl (bm O X : Nat) (W : World) : KpO bm O X W W := ⟨Nat.le_refl _, fun _ _ _ _ => rfl⟩
theorem KpO.trans {bm O X : Nat} {A B C : World} (h : KpO bm O X A B) (k : KpO bm O X B C) : KpO bm O X A C := ⟨Nat.le_trans h.1 k.1, fun b h1 h2 h3 => (k.2 b h1 h2 h3).trans (h.2 b h1 h2 h3)⟩
theorem heap_at {W W' : World} {b : Nat} (h : W'.heap[b]? = W.heap[b]?) {o : Nat} {v : Value} (hv : W.cell? ⟨b, o, none⟩ = some v) : W'.cell? ⟨b, o, none⟩ = some v := by
  simpa [World.cell?, h] using hv
theorem KpO.below {bm O X : Nat} {W W' : World} (hb : Below W.heap.size W W') (hbm : bm ≤ W.heap.size) : KpO bm O X W W' := ⟨hb.size, fun b h1 _ _ => hb.block b (by omega)⟩
theorem KpO.grown {bm O X : Nat} {W W' : World} {row : Option Nat} (hg : W.grownBy W' row) (hr : ∀ j, row = some j → bm ≤ j) (hbm : bm ≤ W.heap.size) : KpO bm O X W W' :=
  ⟨hg.size, fun b h1 _ _ => hg.block b (by omega) fun e => by have := hr b e.symm; omega⟩
theorem KpO.setO {bm O X : Nat} {W : World} {p : Addr} (hp : p.block = O ∨ p.block = X) (v : Value) : KpO bm O X W (W.setCell p v) :=
  ⟨by rw [size_set]; exact Nat.le_refl _, fun b _ h2 h3 => Below.heap_setCell _ _ _ _ (by rcases hp with h | h <;> (rw [h]; assumption))⟩
abbrev BkE (n : Nat) := Nat × { k : Nat // k < n }
def bkUp {n : Nat} (f : Nat → BkE n) (k : Nat) : List (BkE n) := (List.range k).map f
theorem bkUp_succ {n : Nat} (f : Nat → BkE n) (k : Nat) : bkUp f (k + 1) = bkUp f k ++ [f k] := by simp [bkUp, List.range_succ]
theorem bkUp_len {n : Nat} (f : Nat → BkE n) (k : Nat) : (bkUp f k).length = k := by simp [bkUp]
section
attribute [local go_sem] Oper.semAt_some
end
end Go.Proofs.YtgodhpampaleeaaDoor
/- Layer 14: need.All. -/
namespace Go.Proofs.YtgodhpampaleeaaDoor
open Go.RowKit Go.Bx Go.Od Go.Hp Go.Shelf
set_option linter.unusedVariables false

def noDef (l : List Oper) : Bool := l.all fun o => match o.op with | .defer _ => false | _ => true
theorem nd_of {l : List Oper} (h : noDef l = true) : ∀ (j : Nat) (o : Oper) c, l[j]? = some o → o.op ≠ .defer c := fun j o c hj e => by
  have := List.all_eq_true.1 h o (List.mem_of_getElem? hj)
  rw [e] at this
  cases this
/-- what an input adds -/
def updN (st : (Nat → Rc) × Rc) (x : Int) (r : Rc) : (Nat → Rc) × Rc := if x = -1 then (st.1, joinR st.2 r) else (fun k => if k = x.toNat then joinR (st.1 k) r else st.1 k, st.2)
def stepN (nds : List Nd) (st : (Nat → Rc) × Rc) (k : Nat) : (Nat → Rc) × Rc := ((nds.getD k Nd.none).ins).foldl (fun s x => updN s x (ofR (nds.getD k Nd.none) (st.1 k))) st
def startN (want : Rc) (out : Int) : (Nat → Rc) × Rc := (fun k => if (k : Int) = out then joinR want Rc.zero else Rc.zero, Rc.zero)
def foldN {n : Nat} (nds : List Nd) (want : Rc) (out : Int) (pre : List (BkE n)) : (Nat → Rc) × Rc := pre.foldl (fun st x => stepN nds st x.2.1) (startN want out)
def rl (n : Nat) (f : Nat → Rc) : List Rc := (List.range n).map f
theorem rl_get {n k : Nat} (f : Nat → Rc) (h : k < n) : (rl n f)[k]? = some (f k) := by simp [rl, h]
def NaPost (w : World) (n : Nat) (st : (Nat → Rc) × Rc) (e : Ending) (w' : World) : Prop := ∃ O, w.heap.size ≤ O ∧ e = .returned (.tuple #[.slice (some ⟨O, 0, none⟩) n n, rv st.2]) ∧ Box w' O (rcs (rl n st.1)) ∧ Below w.heap.size w w'
/-- what stands in memory while All works: from block z on -/
structure NA (w : World) (nv : Value) (out n : Nat) (want : Rc) (f : Nat → Rc) (s : Rc) (W : World) : Prop where
  gb : Box W w.heap.size [nv, .int .i64 out]
  wb : Box W (w.heap.size + 1) (cl4 want)
  rb : Box W (w.heap.size + 1 + 1) (cl4 ⟨0, 0, 0, 0⟩)
  ob : Box W (w.heap.size + 1 + 1 + 1) (rcs (rl n f))
  vb : Box W (w.heap.size + 1 + 1 + 1 + 1) [.slice (some ⟨w.heap.size + 1 + 1 + 1, 0, none⟩) n n]
  sb : Box W (w.heap.size + 1 + 1 + 1 + 1 + 1) (cl4 s)
  below : Below w.heap.size w W
variable {w W W' : World} {nv : Value} {out n : Nat} {want s : Rc} {f : Nat → Rc}
theorem NA.call (h : NA w nv out n want f s W) (hb : Below W.heap.size W W') : NA w nv out n want f s W' :=
  ⟨h.gb.call hb, h.wb.call hb, h.rb.call hb, h.ob.call hb, h.vb.call hb, h.sb.call hb, h.below.trans (hb.mono h.below.size)⟩
theorem rl_set (n k : Nat) (f : Nat → Rc) (r : Rc) : (rl n f).set k r = rl n fun j => if j = k then r else f j := by
  apply List.ext_getElem?
  intro j
  by_cases hj : j < n
  · by_cases e : j = k
    · subst e
      rw [List.getElem?_set_self (by simp [rl]; exact hj)]
      simp [rl, hj]
    · rw [List.getElem?_set_ne (fun h => e h.symm)]
      simp [rl, hj, e]
  · rw [List.getElem?_eq_none (by simp [rl]; omega), List.getElem?_eq_none (by simp [rl]; omega)]
theorem NA.setO (h : NA w nv out n want f s W) (k : Nat) (r : Rc) : NA w nv out n want (fun j => if j = k then r else f j) s ((((W.setCell ⟨w.heap.size + 1 + 1 + 1, k * 4, none⟩ (.int .i64 r.x0)).setCell ⟨w.heap.size + 1 + 1 + 1, k * 4 + 1, none⟩ (.int .i64 r.y0)).setCell ⟨w.heap.size + 1 + 1 + 1, k * 4 + 2, none⟩ (.int .i64 r.x1)).setCell ⟨w.heap.size + 1 + 1 + 1, k * 4 + 3, none⟩ (.int .i64 r.y1)) := by
  have ss : ∀ {q : Nat} {cs : List Value}, Box W q cs → q ≠ w.heap.size + 1 + 1 + 1 → Box ((((W.setCell ⟨w.heap.size + 1 + 1 + 1, k * 4, none⟩ (.int .i64 r.x0)).setCell ⟨w.heap.size + 1 + 1 + 1, k * 4 + 1, none⟩ (.int .i64 r.y0)).setCell ⟨w.heap.size + 1 + 1 + 1, k * 4 + 2, none⟩ (.int .i64 r.x1)).setCell ⟨w.heap.size + 1 + 1 + 1, k * 4 + 3, none⟩ (.int .i64 r.y1)) q cs := fun hb hq => (((hb.set hq _).set hq _).set hq _).set hq _
  refine ⟨ss h.gb (by omega), ss h.wb (by omega), ss h.rb (by omega), ?_, ss h.vb (by omega), ss h.sb (by omega), (((h.below.setCell (by simp; omega) _).setCell (by simp; omega) _).setCell (by simp; omega) _).setCell (by simp; omega) _⟩
  rw [← rl_set]
  exact rbox_set h.ob k r
theorem NA.setX (h : NA w nv out n want f s W) (r : Rc) : NA w nv out n want f r ((((W.setCell ⟨w.heap.size + 1 + 1 + 1 + 1 + 1, 0, none⟩ (.int .i64 r.x0)).setCell ⟨w.heap.size + 1 + 1 + 1 + 1 + 1, 1, none⟩ (.int .i64 r.y0)).setCell ⟨w.heap.size + 1 + 1 + 1 + 1 + 1, 2, none⟩ (.int .i64 r.x1)).setCell ⟨w.heap.size + 1 + 1 + 1 + 1 + 1, 3, none⟩ (.int .i64 r.y1)) := by
  have ss : ∀ {q : Nat} {cs : List Value}, Box W q cs → q ≠ w.heap.size + 1 + 1 + 1 + 1 + 1 → Box ((((W.setCell ⟨w.heap.size + 1 + 1 + 1 + 1 + 1, 0, none⟩ (.int .i64 r.x0)).setCell ⟨w.heap.size + 1 + 1 + 1 + 1 + 1, 1, none⟩ (.int .i64 r.y0)).setCell ⟨w.heap.size + 1 + 1 + 1 + 1 + 1, 2, none⟩ (.int .i64 r.x1)).setCell ⟨w.heap.size + 1 + 1 + 1 + 1 + 1, 3, none⟩ (.int .i64 r.y1)) q cs := fun hb hq => (((hb.set hq _).set hq _).set hq _).set hq _
  exact ⟨ss h.gb (by omega), ss h.wb (by omega), ss h.rb (by omega), ss h.ob (by omega), ss h.vb (by omega), set4_box h.sb _ _ _ _, (((h.below.setCell (by simp; omega) _).setCell (by simp; omega) _).setCell (by simp; omega) _).setCell (by simp; omega) _⟩
theorem NA.grown {row : Option Nat} (h : NA w nv out n want f s W) (hg : W.grownBy W' row) (hr : ∀ k, row = some k → w.heap.size + 6 ≤ k) : NA w nv out n want f s W' := by
  have hne : ∀ k, k < w.heap.size + 6 → row ≠ some k := fun k hk e => by have := hr k e; omega
  exact ⟨h.gb.grown' hg (hne _ (by omega)), h.wb.grown' hg (hne _ (by omega)), h.rb.grown' hg (hne _ (by omega)), h.ob.grown' hg (hne _ (by omega)), h.vb.grown' hg (hne _ (by omega)), h.sb.grown' hg (hne _ (by omega)), h.below.grown hg h.below.size (fun k e => by have := hr k e; omega)⟩
theorem KpO.mono {bm bm' O X : Nat} {W W' : World} (h : KpO bm O X W W') (hb : bm' ≤ bm) : KpO bm' O X W W' := ⟨h.1, fun b h1 h2 h3 => h.2 b (by omega) h2 h3⟩
theorem KpO.keeps {B O X : Nat} {W W' : World} (h : KpO W.heap.size O X W W') (hO : O < B) (hX : X < B) : KeepsFrom B W W' :=
  ⟨h.1, fun k o hB hk _ => by
    rw [h.2 k (Array.getElem?_eq_some_iff.1 hk).1 (by omega) (by omega)]
    exact hk⟩
theorem KpO.sl {B O X : Nat} {W W' : World} {v : Value} {xs : List Int} (h : KpO W.heap.size O X W W') (hO : B ≤ O) (hX : B ≤ X) (hB : B ≤ W.heap.size) (hs : SlOf RInt 1 (· < B) W v xs) : SlOf RInt 1 (· < B) W' v xs :=
  SlOf.same RInt.ok (fun b hb => by have hb : b < B := hb; exact h.2 b (by omega) (by omega) (by omega)) hs
theorem KpO.then {O X : Nat} {W W1 W2 : World} (h : KpO W.heap.size O X W W1) (hb : Below W1.heap.size W1 W2) : KpO W.heap.size O X W W2 := h.trans (KpO.below hb h.1)
theorem KpO.own {bm O X B : Nat} {w0 : World} (hO : bm ≤ B) (hb : bm ≤ w0.heap.size) {W W' : World} {row : Option Nat} (h : KpO bm O X w0 W) (hg : W.grownBy W' row) (hr : ∀ k, row = some k → B ≤ k) : KpO bm O X w0 W' :=
  h.trans ⟨hg.size, fun b h1 _ _ => hg.block b (by have := h.1; omega) fun e => by have := hr b e.symm; omega⟩
theorem NA.of_kp {W0 : World} {f' : Nat → Rc} {s' : Rc} {bm : Nat} (h : NA w nv out n want f s W0) (k : KpO bm (w.heap.size + 1 + 1 + 1) (w.heap.size + 1 + 1 + 1 + 1 + 1) W0 W) (hbm : w.heap.size + 6 ≤ bm) (ho : Box W (w.heap.size + 1 + 1 + 1) (rcs (rl n f'))) (hs : Box W (w.heap.size + 1 + 1 + 1 + 1 + 1) (cl4 s')) (hb : Below w.heap.size w W) : NA w nv out n want f' s' W :=
  ⟨h.gb.of_block (k.2 _ (by omega) (by omega) (by omega)), h.wb.of_block (k.2 _ (by omega) (by omega) (by omega)), h.rb.of_block (k.2 _ (by omega) (by omega) (by omega)), ho, h.vb.of_block (k.2 _ (by omega) (by omega) (by omega)), hs, hb⟩
theorem fold_snoc {n : Nat} (nds : List Nd) (out : Int) (want : Rc) (pre : List (BkE n)) (x : BkE n) : foldN nds want out (pre ++ [x]) = stepN nds (foldN nds want out pre) x.2.1 := by simp [foldN]
theorem fold_all {n : Nat} {all : List Nat} (nds : List Nd) (want : Rc) (out : Int) (f : Nat → BkE n) (h : ∀ j, j < all.length → (f j).2.1 = all.getD (all.length - 1 - j) 0) : foldN nds want out (bkUp f all.length) = all.reverse.foldl (stepN nds) (startN want out) := by
  have e : (bkUp f all.length).map (fun x => x.2.1) = all.reverse := by
    apply List.ext_getElem
    · simp [bkUp]
    · intro i h1 h2
      have hi : i < all.length := by simpa using h2
      have := h i hi
      simp [bkUp] at this ⊢
      rw [this]
      simp [show all.length - 1 - i < all.length by omega]
  rw [← e, List.foldl_map]
  rfl
/-- All's row, where it is not empty -/
def AlPost (w : World) (l : List Nat) (e : Ending) (w' : World) : Prop := ∃ ab ac, e = .returned (.slice (some ⟨ab, 0, none⟩) l.length ac) ∧ w.heap.size ≤ ab ∧ ab < w'.heap.size ∧ l.length ≤ ac ∧ ac ≤ maxLen ∧ (∀ j, j < l.length → w'.cell? ⟨ab, j, none⟩ = some (.int .i64 (l.getD j 0 : Nat))) ∧ Below w.heap.size w w'
theorem InPost.al {w w' : World} {l : List Nat} {e : Ending} (h : InPost w l e w') (hne : 0 < l.length) : AlPost w l e w' := by
  obtain ⟨a, c, rfl, ho, hb⟩ := h
  rcases ho.form with ⟨_, h⟩ | ⟨g, cap, h1, h0, h2, h3, h4, _, _, h5⟩
  · have : l.length = 0 := by rw [← ofN_len, h]; rfl
    omega
  · rw [ofN_len] at h1 h3 h5
    rw [h1]
    refine ⟨g, cap, rfl, h0, h2, h3, h4, fun j hj => ?_, hb⟩
    rw [h5 j hj]
    simp [ofN, hj]
theorem results_tmp_cell {P : Program} {fn : Func} {u p : Tmp} {ty : TypeId} (h : fn.results = #[.tmp u, .cell p ty]) (tmps : Array Value) (w : World) (g : Nat) (t : TypeId) (cs : Array Value) (fr : Nat × Nat) (d : TypeDesc)
    (hp : tmps.getD p undef = .pointer (some ⟨g, 0, none⟩)) (hg : w.heap[g]? = some (.cells cs t fr))
    (hu : P.underlying ty = some d) (hd : (match d with | .struct _ | .array _ _ => true | _ => false) = true) (hi : (P.info? ty).map (·.size) = some cs.size) :
    (results fn tmps).run P w = .ok (.tuple #[tmps.getD u undef, .agg cs]) w := by
  have hp' : tmps[p]?.getD undef = .pointer (some ⟨g, 0, none⟩) := by simpa using hp
  simp [results, h, hp', asAddr, run_loadVar_row w g t ty cs fr d hg hu hd hi]
/-- wp_region_each, inside a fence -/
theorem wp_region_each_in {id : Nat} {P : Program} {Q : Exit → Act → World → Prop} {a0 : Act} {w0 : World} {l : List Oper} {F : Fence} {N : Nat} (hfn : ∀ f, F.fn f) (hc : ∀ {f : FuncId} {args : Array Value} {w : World} {R : Ending → World → Prop}, Calls P f args w R → CallsIn F (N - 1) P f args w R) (hdp : F.depth.isSome = true → 1 ≤ N) (hnd : ∀ (j : Nat) (o : Oper) c, l[j]? = some o → o.op ≠ .defer c) (I : World → Prop) (T : Nat → Value → World → Prop) (hm : P.follows .mixedOrders = true) (hB : eachB l = true) (hI : I w0.drew)
    (hop : ∀ i, i < l.length → OpIs P l a0 I T i)
    (hend : ∀ vs w, I w → (∀ i, i < l.length → T i (vs i) w) → Shut (Q .normal (fr (fun _ => true) vs l 0 a0) w)) :
    (Code.region id l.toArray true).wpIn F N P Q a0 w0 := by
  obtain ⟨h1, h2, h3⟩ := eachB_parts hB
  refine wpIn_region_any hm ?_
  have hrep : ∀ j, (Array.replicate l.length false).getD j false = false := fun k => by
    rcases Nat.lt_or_ge k l.length with h | h
    · simp [h]
    · simp [Array.getElem?_eq_none (xs := Array.replicate l.length false) (i := k) (by simpa using h)]
  have hfr : ∀ (l' : List Oper) (k : Nat) (a : Act), a = fr (fun j => (Array.replicate l.length false).getD j false) (fun _ => undef) l' k a := by
    intro l'
    induction l' with
    | nil => intro _ _; rfl
    | cons o l' ih =>
      intro k a
      simp only [fr, hrep k, Bool.false_eq_true, if_false]
      exact ih (k + 1) a
  have hmain := each_any_in (P := P) (Q := Q) (a0 := a0) (F := F) (N := N) hfn hc hdp hnd I T h1 h2 h3 hop (fun vs w h1 h2 => (hend vs w h1 h2).out) l.length (Array.replicate l.length false) (fun _ => undef) { w0 with drawn := w0.drawn + 1 } (by simp)
    (fun i _ h => by rw [hrep i] at h; cases h) hI (by
      have := List.countP_le_length (p := fun i => !(Array.replicate l.length false).getD i false) (l := List.range l.length)
      simpa using this)
  rw [← hfr l 0 a0] at hmain
  simpa using hmain
/-- what the operations of region 7 yield -/
def NT (nodev : Value) (O n k : Nat) (rk : Rc) (z m : Nat) (rr : Rc) (i : Nat) (v : Value) (W : World) : Prop := match i with
  | 0 => v = nodev
  | 1 => v = .slice (some ⟨O, 0, none⟩) n n
  | 2 => v = .int .i64 k
  | 3 => v = .pointer (some ⟨O, k * 4, none⟩)
  | 4 => v = rv rk
  | 5 => ∃ P, z ≤ P ∧ v = .slice (some ⟨P, 0, none⟩) m m ∧ Box W P (rcs (List.replicate m rr))
  | 6 => v = .int .i64 m
  | 7 => v = .int .i64 0
  | _ => True
theorem NT.below {nodev : Value} {O n k : Nat} {rk : Rc} {z m : Nat} {rr : Rc} {i : Nat} {v : Value} {W W' : World} (h : NT nodev O n k rk z m rr i v W) (hb : Below W.heap.size W W') : NT nodev O n k rk z m rr i v W' := by
  match i, h with
  | 0, h => exact h
  | 1, h => exact h
  | 2, h => exact h
  | 3, h => exact h
  | 4, h => exact h
  | 5, ⟨P, h0, h1, h2⟩ => exact ⟨P, h0, h1, h2.call hb⟩
  | 6, h => exact h
  | 7, h => exact h
  | _ + 8, _ => trivial
/-- all in the plane -/
def CvN (st : (Nat → Rc) × Rc) : Prop := (∀ k, RcP (st.1 k)) ∧ RcP st.2
theorem CvN.upd {st : (Nat → Rc) × Rc} (h : CvN st) (x : Int) {r : Rc} (hr : RcP r) : CvN (updN st x r) := by
  unfold updN
  split
  · exact ⟨h.1, joinR_pl h.2 hr⟩
  · refine ⟨fun k => ?_, h.2⟩
    dsimp only
    split
    · exact joinR_pl (h.1 k) hr
    · exact h.1 k
theorem CvN.updL {r : Rc} (hr : RcP r) : ∀ (xs : List Int) {st : (Nat → Rc) × Rc}, CvN st → CvN (xs.foldl (fun s x => updN s x r) st)
  | [], _, h => h
  | x :: xs, _, h => CvN.updL hr xs (h.upd x hr)
theorem ofR_pl {nd : Nd} {r : Rc} (h : PaOk nd) (hr : RcP r) : RcP (ofR nd r) := by
  unfold ofR
  split
  · exact zero_pl
  · exact oneN_pl h hr
theorem CvN.step {nds : List Nd} {st : (Nat → Rc) × Rc} (h : CvN st) {k : Nat} (hk : PaOk (nds.getD k Nd.none)) : CvN (stepN nds st k) := CvN.updL (ofR_pl hk (h.1 k)) _ h
theorem CvN.start {want : Rc} (h : RcP want) (out : Int) : CvN (startN want out) := by
  refine ⟨fun k => ?_, zero_pl⟩
  unfold startN
  dsimp only
  split
  · exact joinR_pl h zero_pl
  · exact zero_pl
theorem CvN.fold {n : Nat} {nds : List Nd} {want : Rc} (hn : n = nds.length) (h : RcP want) (out : Int) (hok : ∀ i, i < nds.length → PaOk (nds.getD i Nd.none)) (pre : List (BkE n)) : CvN (foldN nds want out pre) := by
  unfold foldN
  have : ∀ (l : List (BkE n)) {st : (Nat → Rc) × Rc}, CvN st → CvN (l.foldl (fun st x => stepN nds st x.2.1) st) := by
    intro l
    induction l with
    | nil => intro st h; exact h
    | cons x l ih => intro st h; exact ih (h.step (hok _ (by have := x.2.2; omega)))
  exact this pre (CvN.start h out)
/-- in a round of All: the state while the inputs are gone through -/
def LS (w W : World) (nv : Value) (out n : Nat) (want : Rc) (st : (Nat → Rc) × Rc) (ndc : List Value) (P m : Nat) (rr : Rc) (wr : World) : Prop :=
  NA w nv out n want st.1 st.2 wr ∧ KpO W.heap.size (w.heap.size + 1 + 1 + 1) (w.heap.size + 1 + 1 + 1 + 1 + 1) W wr ∧ Box wr W.heap.size ndc ∧ Box wr P (rcs (List.replicate m rr))
theorem LS.call {w W : World} {nv : Value} {out n : Nat} {want : Rc} {st : (Nat → Rc) × Rc} {ndc : List Value} {P m : Nat} {rr : Rc} {wr w' : World} (h : LS w W nv out n want st ndc P m rr wr) (hb : Below wr.heap.size wr w') : LS w W nv out n want st ndc P m rr w' :=
  ⟨h.1.call hb, h.2.1.then hb, h.2.2.1.call hb, h.2.2.2.call hb⟩
def updL (st : (Nat → Rc) × Rc) (xs : List Int) (r : Rc) : (Nat → Rc) × Rc := xs.foldl (fun s x => updN s x r) st
theorem updL_take (st : (Nat → Rc) × Rc) (xs : List Int) (r : Rc) {j : Nat} (hj : j < xs.length) : updL st (xs.take (j + 1)) r = updN (updL st (xs.take j) r) (xs.getD j 0) r := by
  unfold updL
  rw [List.take_add_one, List.getElem?_eq_getElem hj, Option.toList_some, List.foldl_append]
  simp [hj]
def setR (W : World) (b c : Nat) (r : Rc) : World := (((W.setCell ⟨b, c, none⟩ (.int .i64 r.x0)).setCell ⟨b, c + 1, none⟩ (.int .i64 r.y0)).setCell ⟨b, c + 2, none⟩ (.int .i64 r.x1)).setCell ⟨b, c + 3, none⟩ (.int .i64 r.y1)
theorem bsetR {W : World} {q : Nat} {cs : List Value} (h : Box W q cs) {b : Nat} (hq : q ≠ b) (c : Nat) (r : Rc) : Box (setR W b c r) q cs := (((h.set hq _).set hq _).set hq _).set hq _
theorem KpO.setR {bm O X : Nat} {W : World} {b : Nat} (hp : b = O ∨ b = X) (c : Nat) (r : Rc) : KpO bm O X W (setR W b c r) :=
  (((KpO.setO hp _).trans (KpO.setO hp _)).trans (KpO.setO hp _)).trans (KpO.setO hp _)
theorem LS.setX {w W : World} {nv : Value} {out n : Nat} {want : Rc} {f : Nat → Rc} {s : Rc} {ndc : List Value} {P m : Nat} {rr : Rc} {wr : World} (h : LS w W nv out n want (f, s) ndc P m rr wr) (hW : w.heap.size + 6 ≤ W.heap.size) (hP : W.heap.size < P) (r : Rc) : LS w W nv out n want (f, r) ndc P m rr (setR wr (w.heap.size + 1 + 1 + 1 + 1 + 1) 0 r) :=
  ⟨h.1.setX r, h.2.1.trans (KpO.setR (.inr rfl) 0 r), bsetR h.2.2.1 (by omega) 0 r, bsetR h.2.2.2 (by omega) 0 r⟩
theorem LS.setO {w W : World} {nv : Value} {out n : Nat} {want : Rc} {f : Nat → Rc} {s : Rc} {ndc : List Value} {P m : Nat} {rr : Rc} {wr : World} (h : LS w W nv out n want (f, s) ndc P m rr wr) (hW : w.heap.size + 6 ≤ W.heap.size) (hP : W.heap.size < P) (k : Nat) (r : Rc) : LS w W nv out n want (fun j => if j = k then r else f j, s) ndc P m rr (setR wr (w.heap.size + 1 + 1 + 1) (k * 4) r) :=
  ⟨h.1.setO k r, h.2.1.trans (KpO.setR (.inl rfl) (k * 4) r), bsetR h.2.2.1 (by omega) (k * 4) r, bsetR h.2.2.2 (by omega) (k * 4) r⟩
theorem make_sized {P : Program} (w : World) (base : Nat) (t e : TypeId) (i : TypeInfo) (z : Value) (size : Nat) (ht : P.underlying t = some (.slice e)) (hi : P.info? e = some i) (hz : i.zero = some z) (hsize : i.size = size)
    (kl kc : IntKind) (n : Nat) (hbytes : i.bytes * n ≤ 281474976710656) (h63 : n ≤ maxLen) (hbase : base ≤ w.heap.size) :
    ∃ w', (Instr.makeSlice t (.int kl (n : Int)) (.int kc (n : Int))).run P w = .ok (.slice (some ⟨w.heap.size, 0, none⟩) n n) w' ∧
      w'.ownsRow base e size (.slice (some ⟨w.heap.size, 0, none⟩) n n) n (madeCells z.cells (n * size)).toList ∧ w.grownBy w' none ∧ w'.heap.size = w.heap.size + 1 := by
  subst hsize
  have h63' : (n : Int) ≤ 9223372036854775807 := by
    have h := h63
    simp [maxLen] at h
    omega
  have hb' : (i.bytes : Int) * (n : Int) ≤ 281474976710656 := by
    have h : ((i.bytes * n : Nat) : Int) ≤ 281474976710656 := by omega
    rwa [Int.natCast_mul] at h
  have hr := run_make (P := P) w t e i z ht hi hz kl kc n n (by omega) (Int.le_refl _) hb' h63'
  simp only [Int.toNat_natCast] at hr
  exact ⟨_, hr, World.ownsRow_lit w _ n hbase h63 (size_madeCells _ _), World.grownBy_alloc w _ none, by simp⟩
section
attribute [local go_sem] Oper.semAt_some
end
end Go.Proofs.YtgodhpampaleeaaDoor
/- Layer 14: the law's own 'right'; what a right filter is. -/
namespace Go.Proofs.YtgodhpampaleeaaDoor
open Go.RowKit Go.Bx Go.Od Go.Hp
attribute [local go_sem ↓] Go.wp_at_zero Go.wp_at_succ
set_option linter.unusedVariables false

def rightB (nds : List Nd) (out : Int) : Bool := fewB nds 12 && (chkB nds out == 0)
/-- what a right filter's graph is -/
structure GoodN (nds : List Nd) (out : Int) : Prop where
  few : nds.length ≤ 100
  short : ∀ i, i < nds.length → (nds.getD i Nd.none).ins.length ≤ 1000
  pos : 0 < nds.length
  outs : 0 ≤ out ∧ out < nds.length
  full : ∀ i, i < nds.length → i ∈ ord (insOf nds)
  pa : ∀ i, i < nds.length → PaOk (nds.getD i Nd.none)
  rng : ∀ i, i < nds.length → ∀ x ∈ (nds.getD i Nd.none).ins, -1 ≤ x ∧ x < nds.length
theorem pa_of {nd : Nd} {n : Nat} (h : oneB nd n = 0) : PaOk nd ∧ ∀ x ∈ nd.ins, -1 ≤ x ∧ x < n := by
  unfold oneB at h
  split at h
  · cases h
  rename_i h1
  split at h
  · cases h
  rename_i h2
  split at h
  · cases h
  rename_i h3
  split at h
  · cases h
  rename_i h4
  have hp : (nd.p.length : Int) = parL.getD nd.op.toNat 0 := by
    have : ¬ ((nd.p.length : Int) == parL.getD nd.op.toNat 0) = false := fun e => h2 (.inr (.inr e))
    simpa using this
  have hb : bndB nd.op nd.p = true := by simpa using h4
  have hn : nearB nd.ins 0 nd.ins.length (-1) ((n : Int) - 1) = true := by simpa using h3
  rw [nearB_iff] at hn
  clear h h1 h2 h3 h4
  refine ⟨⟨fun e => ?_, fun e => ?_, fun e => ?_, fun e => ?_⟩, fun x hx => ?_⟩
  · rcases e with e | e
    · rw [e] at hp hb
      have hl : (nd.p.length : Int) = 2 := hp
      unfold bndB at hb
      rw [if_pos rfl, nearB_iff] at hb
      exact ⟨by omega, hb 0 (by omega) (by omega), hb 1 (by omega) (by omega)⟩
    · rw [e] at hp hb
      have hl : (nd.p.length : Int) = 8 := hp
      have hb : (nearB nd.p 0 2 (-1048576) 1048576 && (nearB nd.p 2 4 0 255 && pixB nd.p 4)) = true := hb
      simp only [Bool.and_eq_true, nearB_iff] at hb
      exact ⟨by omega, hb.1 0 (by omega) (by omega), hb.1 1 (by omega) (by omega)⟩
  · have hl : (nd.p.length : Int) = 2 := by rcases e with e | e | e <;> (rw [e] at hp; exact hp)
    have hb : nearB nd.p 0 2 0 255 = true := by rcases e with e | e | e <;> (rw [e] at hb; exact hb)
    rw [nearB_iff] at hb
    exact ⟨by omega, hb 0 (by omega) (by omega), hb 1 (by omega) (by omega)⟩
  · have hl : (nd.p.length : Int) = 4 := by rcases e with e | e <;> (rw [e] at hp; exact hp)
    have hb : nearB nd.p 0 4 (-1048576) 1048576 = true := by
      rcases e with e | e
      · rw [e] at hb; exact hb
      · rw [e] at hb
        have hb : (nearB nd.p 0 4 (-1048576) 1048576 && (decide (nd.p.getD 0 0 < nd.p.getD 2 0) && (decide (nd.p.getD 1 0 < nd.p.getD 3 0) && (decide (nd.p.getD 2 0 - nd.p.getD 0 0 ≤ 4096) && decide (nd.p.getD 3 0 - nd.p.getD 1 0 ≤ 4096))))) = true := hb
        rw [Bool.and_eq_true] at hb
        exact hb.1
    rw [nearB_iff] at hb
    refine ⟨by omega, ?_, ?_, ?_, ?_⟩
    · have := hb 0 (by omega) (by omega); unfold Pl pbox; dsimp only; omega
    · have := hb 1 (by omega) (by omega); unfold Pl pbox; dsimp only; omega
    · have := hb 2 (by omega) (by omega); unfold Pl pbox; dsimp only; omega
    · have := hb 3 (by omega) (by omega); unfold Pl pbox; dsimp only; omega
  · rw [e] at hp hb
    have hl : (nd.p.length : Int) = 8 := hp
    have hb : (nearB nd.p 0 2 (-1048576) 1048576 && (nearB nd.p 2 4 0 255 && pixB nd.p 4)) = true := hb
    simp only [Bool.and_eq_true, nearB_iff] at hb
    exact ⟨by omega, hb.2.1 2 (by omega) (by omega), hb.2.1 3 (by omega) (by omega)⟩
  · obtain ⟨j, hj, rfl⟩ := List.mem_iff_getElem.1 hx
    have := hn j (by omega) hj
    rw [List.getD_eq_getElem?_getD, List.getElem?_eq_getElem hj, Option.getD_some] at this
    omega
theorem goodN_of {nds : List Nd} {out : Int} (h : rightB nds out = true) : GoodN nds out := by
  unfold rightB at h
  rw [Bool.and_eq_true] at h
  obtain ⟨h1, h2⟩ := few_of h.1 (by omega)
  have hc := eq_of_beq h.2
  unfold chkB at hc
  by_cases c1 : nds.length < 1 ∨ 256 < nds.length
  · rw [if_pos c1] at hc; omega
  · rw [if_neg c1] at hc
    by_cases c2 : badB nds nds.length ≠ 0
    · rw [if_pos c2] at hc; exact absurd hc c2
    · rw [if_neg c2] at hc
      have hbad : ∀ q, q < nds.length → oneB (nds.getD q Nd.none) nds.length = 0 := (badB_iff _ _).1 (by simpa using c2)
      by_cases c3 : out < 0 ∨ (nds.length : Int) ≤ out
      · rw [if_pos c3] at hc; omega
      · rw [if_neg c3] at hc
        by_cases c4 : (ord (insOf nds)).length < nds.length
        · rw [if_pos c4] at hc; omega
        · refine ⟨h1, h2, by omega, by omega, fun i hi => ?_, fun i hi => (pa_of (hbad i hi)).1, fun i hi => (pa_of (hbad i hi)).2⟩
          have h5 := ord_len (insOf nds)
          rw [insOf_len] at h5
          exact (ord_full (insOf nds)).1 (by rw [insOf_len]; omega) i (by rw [insOf_len]; exact hi)
end Go.Proofs.YtgodhpampaleeaaDoor
/- Layer 14: what is needed: plain laws. -/
namespace Go.Proofs.YtgodhpampaleeaaDoor
open Go.RowKit Go.Bx Go.Od Go.Hp
set_option linter.unusedVariables false

/-- all points of the one are the other's -/
def WiS (a b : Rc) : Prop := a.emp = true ∨ (b.x0 ≤ a.x0 ∧ b.y0 ≤ a.y0 ∧ a.x1 ≤ b.x1 ∧ a.y1 ≤ b.y1)
theorem emp_iff (r : Rc) : r.emp = true ↔ r.x1 ≤ r.x0 ∨ r.y1 ≤ r.y0 := by simp [Rc.emp]
theorem nemp_iff (r : Rc) : r.emp = false ↔ r.x0 < r.x1 ∧ r.y0 < r.y1 := by simp [Rc.emp]
theorem WiS.refl (a : Rc) : WiS a a := .inr ⟨Int.le_refl _, Int.le_refl _, Int.le_refl _, Int.le_refl _⟩
theorem WiS.trans {a b c : Rc} (h : WiS a b) (k : WiS b c) : WiS a c := by
  unfold WiS at *
  rw [emp_iff] at *
  omega
theorem WiS.nemp {a b : Rc} (h : WiS a b) (ha : a.emp = false) : b.emp = false := by
  unfold WiS at h
  rw [nemp_iff] at *
  rw [emp_iff] at h
  omega
theorem zero_emp : Rc.zero.emp = true := rfl
theorem WiS.zero (b : Rc) : WiS Rc.zero b := .inl rfl
theorem join_l (a b : Rc) : WiS a (joinR a b) := by
  cases ha : a.emp with
  | true => exact .inl ha
  | false =>
    cases hb : b.emp with
    | true => rw [joinR_ft ha hb]; exact WiS.refl _
    | false => rw [joinR_ff ha hb]; refine .inr ⟨?_, ?_, ?_, ?_⟩ <;> (dsimp only; omega)
theorem join_r (a b : Rc) : WiS b (joinR a b) := by
  cases hb : b.emp with
  | true => exact .inl hb
  | false =>
    cases ha : a.emp with
    | true => rw [joinR_tf ha hb]; exact WiS.refl _
    | false => rw [joinR_ff ha hb]; refine .inr ⟨?_, ?_, ?_, ?_⟩ <;> (dsimp only; omega)
theorem join_le {a b c : Rc} (ha : WiS a c) (hb : WiS b c) : WiS (joinR a b) c := by
  cases ea : a.emp with
  | true =>
    cases eb : b.emp with
    | true => rw [joinR_tt ea eb]; exact WiS.zero _
    | false => rw [joinR_tf ea eb]; exact hb
  | false =>
    cases eb : b.emp with
    | true => rw [joinR_ft ea eb]; exact ha
    | false =>
      rw [joinR_ff ea eb]
      unfold WiS at *
      rw [ea] at ha
      rw [eb] at hb
      simp only [Bool.false_eq_true, false_or] at ha hb
      refine .inr ⟨?_, ?_, ?_, ?_⟩ <;> (dsimp only; omega)
theorem join_mono {a b c d : Rc} (h : WiS a c) (k : WiS b d) : WiS (joinR a b) (joinR c d) := join_le (h.trans (join_l _ _)) (k.trans (join_r _ _))
/-- a rectangle that is nothing is nothing's -/
def Nrm (r : Rc) : Prop := r.emp = true → r = Rc.zero
theorem nrm_zero : Nrm Rc.zero := fun _ => rfl
theorem nrm_join (a b : Rc) : Nrm (joinR a b) := fun h => by
  cases ea : a.emp with
  | true =>
    cases eb : b.emp with
    | true => exact joinR_tt ea eb
    | false => rw [joinR_tf ea eb, eb] at h; cases h
  | false => rw [(join_l a b).nemp ea] at h; cases h
theorem join_zero {a : Rc} (h : Nrm a) : joinR a Rc.zero = a := by
  cases ea : a.emp with
  | true => rw [joinR_tt ea rfl, h ea]
  | false => rw [joinR_ft ea rfl]
theorem box_mono {a b : Rc} (h : b.x0 ≤ a.x0 ∧ b.y0 ≤ a.y0 ∧ a.x1 ≤ b.x1 ∧ a.y1 ≤ b.y1) : WiS (boxR a) (boxR b) := by
  cases ea : a.emp with
  | true => rw [show boxR a = Rc.zero by unfold boxR; rw [if_pos ea]]; exact WiS.zero _
  | false =>
    have eb : b.emp = false := WiS.nemp (a := a) (.inr h) ea
    rw [show boxR a = a by unfold boxR; rw [ea]; rfl, show boxR b = b by unfold boxR; rw [eb]; rfl]
    exact .inr h
theorem clip_mono {x y : Int} (h : x ≤ y) : clip x ≤ clip y := by unfold clip; omega
theorem wh_mono {a b : Rc} (h : b.x0 ≤ a.x0 ∧ b.y0 ≤ a.y0 ∧ a.x1 ≤ b.x1 ∧ a.y1 ≤ b.y1) : WiS (whR a) (whR b) :=
  box_mono ⟨clip_mono h.1, clip_mono h.2.1, clip_mono h.2.2.1, clip_mono h.2.2.2⟩
theorem moved_mono {x y d : Int} (hx : Pl x) (hy : Pl y) (h : x ≤ y) : clip (movedR x d) ≤ clip (movedR y d) := by
  unfold Pl at hx hy
  unfold movedR clip
  split <;> split <;> omega
theorem move_mono {a b : Rc} (ha : RcP a) (hb : RcP b) (h : WiS a b) (dx dy : Int) : WiS (moveR a dx dy) (moveR b dx dy) := by
  obtain ⟨a0, a1, a2, a3⟩ := ha
  obtain ⟨b0, b1, b2, b3⟩ := hb
  cases ea : a.emp with
  | true => rw [show moveR a dx dy = Rc.zero by unfold moveR; rw [if_pos ea]]; exact WiS.zero _
  | false =>
    have eb := h.nemp ea
    unfold WiS at h
    rw [ea] at h
    simp only [Bool.false_eq_true, false_or] at h
    unfold moveR
    rw [if_neg (by rw [ea]; simp), if_neg (by rw [eb]; simp)]
    unfold whR clipR
    exact box_mono ⟨moved_mono b0 a0 h.1, moved_mono b1 a1 h.2.1, moved_mono a2 b2 h.2.2.1, moved_mono a3 b3 h.2.2.2⟩
theorem grow_mono {a b : Rc} (h : WiS a b) (p q r s : Int) : WiS (growR a p q r s) (growR b p q r s) := by
  cases ea : a.emp with
  | true => rw [show growR a p q r s = Rc.zero by unfold growR; rw [if_pos ea]]; exact WiS.zero _
  | false =>
    have eb := h.nemp ea
    unfold WiS at h
    rw [ea] at h
    simp only [Bool.false_eq_true, false_or] at h
    unfold growR
    rw [if_neg (by rw [ea]; simp), if_neg (by rw [eb]; simp)]
    refine wh_mono ⟨?_, ?_, ?_, ?_⟩ <;> (dsimp only; omega)
theorem meet_mono {a b : Rc} (h : WiS a b) (c : Rc) (ha : a.emp = false) : WiS (meetR a c) (meetR b c) := by
  unfold WiS at h
  rw [ha] at h
  simp only [Bool.false_eq_true, false_or] at h
  unfold meetR
  refine box_mono ⟨?_, ?_, ?_, ?_⟩ <;> (dsimp only; omega)
theorem wiR_iff (a b : Rc) : wiR a b = true ↔ WiS a b := by
  unfold wiR WiS
  simp only [Bool.or_eq_true, Bool.and_eq_true, decide_eq_true_eq]
  constructor
  · rintro (h | h)
    · exact .inl h
    · exact .inr ⟨h.1.1.1, h.1.1.2, h.1.2, h.2⟩
  · rintro (h | h)
    · exact .inl h
    · exact .inr ⟨⟨⟨h.1, h.2.1⟩, h.2.2.1⟩, h.2.2.2⟩
theorem of_mono {nd : Nd} {a b : Rc} (ha : RcP a) (hb : RcP b) (h : WiS a b) : WiS (ofR nd a) (ofR nd b) := by
  cases ea : a.emp with
  | true => rw [show ofR nd a = Rc.zero by unfold ofR; rw [if_pos ea]]; exact WiS.zero _
  | false =>
    have eb := h.nemp ea
    unfold ofR
    rw [if_neg (by rw [ea]; simp), if_neg (by rw [eb]; simp)]
    unfold oneN
    split
    · exact move_mono ha hb h _ _
    · split
      · exact grow_mono h _ _ _ _
      · split
        · exact meet_mono h _ ea
        · split
          · by_cases hq : wiR b (pbox nd.p) = true
            · have hp : wiR a (pbox nd.p) = true := (wiR_iff _ _).2 (h.trans ((wiR_iff _ _).1 hq))
              rw [if_pos hq, if_pos hp]
              exact h
            · rw [if_neg hq]
              by_cases hp : wiR a (pbox nd.p) = true
              · rw [if_pos hp]; exact (wiR_iff _ _).1 hp
              · rw [if_neg hp]; exact WiS.refl _
          · split
            · exact join_mono h (grow_mono (move_mono ha hb h _ _) _ _ _ _)
            · exact h
/-! ### states -/
def SL (s t : (Nat → Rc) × Rc) : Prop := (∀ k, WiS (s.1 k) (t.1 k)) ∧ WiS s.2 t.2
theorem SL.refl (s : (Nat → Rc) × Rc) : SL s s := ⟨fun _ => WiS.refl _, WiS.refl _⟩
theorem SL.trans {s t u : (Nat → Rc) × Rc} (h : SL s t) (k : SL t u) : SL s u := ⟨fun i => (h.1 i).trans (k.1 i), h.2.trans k.2⟩
theorem SL.upd {s t : (Nat → Rc) × Rc} (h : SL s t) (x : Int) {a b : Rc} (hr : WiS a b) : SL (updN s x a) (updN t x b) := by
  unfold updN
  split
  · exact ⟨h.1, join_mono h.2 hr⟩
  · refine ⟨fun k => ?_, h.2⟩
    dsimp only
    split
    · exact join_mono (h.1 k) hr
    · exact h.1 k
theorem SL.updL {a b : Rc} (hr : WiS a b) : ∀ (xs : List Int) {s t : (Nat → Rc) × Rc}, SL s t → SL (updL s xs a) (updL t xs b)
  | [], _, _, h => h
  | x :: xs, _, _, h => SL.updL hr xs (h.upd x hr)
theorem stepN_eq (nds : List Nd) (s : (Nat → Rc) × Rc) (k : Nat) : stepN nds s k = updL s (nds.getD k Nd.none).ins (ofR (nds.getD k Nd.none) (s.1 k)) := rfl
theorem SL.step {nds : List Nd} {s t : (Nat → Rc) × Rc} (h : SL s t) (hs : CvN s) (ht : CvN t) (k : Nat) : SL (stepN nds s k) (stepN nds t k) := by
  rw [stepN_eq, stepN_eq]
  exact SL.updL (of_mono (hs.1 k) (ht.1 k) (h.1 k)) _ h
theorem SL.fold {nds : List Nd} (hok : ∀ i, i < nds.length → PaOk (nds.getD i Nd.none)) : ∀ (l : List Nat) {s t : (Nat → Rc) × Rc}, (∀ k ∈ l, k < nds.length) → SL s t → CvN s → CvN t → SL (l.foldl (stepN nds) s) (l.foldl (stepN nds) t)
  | [], _, _, _, h, _, _ => h
  | k :: l, _, _, hl, h, hs, ht => SL.fold hok l (fun i hi => hl i (by simp [hi])) (h.step hs ht k) (hs.step (hok k (hl k (by simp)))) (ht.step (hok k (hl k (by simp))))
theorem upd_up (s : (Nat → Rc) × Rc) (x : Int) (r : Rc) : SL s (updN s x r) := by
  unfold updN
  split
  · exact ⟨fun _ => WiS.refl _, join_l _ _⟩
  · refine ⟨fun k => ?_, WiS.refl _⟩
    dsimp only
    split
    · exact join_l _ _
    · exact WiS.refl _
theorem updL_up (r : Rc) : ∀ (xs : List Int) (s : (Nat → Rc) × Rc), SL s (updL s xs r)
  | [], s => SL.refl s
  | x :: xs, s => (upd_up s x r).trans (updL_up r xs _)
theorem fold_up (nds : List Nd) : ∀ (l : List Nat) (s : (Nat → Rc) × Rc), SL s (l.foldl (stepN nds) s)
  | [], s => SL.refl s
  | k :: l, s => (by rw [stepN_eq]; exact updL_up _ _ _ : SL s (stepN nds s k)).trans (fold_up nds l _)
/-- what is known of an input -/
def there (s : (Nat → Rc) × Rc) (x : Int) : Rc := if x = -1 then s.2 else s.1 x.toNat
theorem SL.there {s t : (Nat → Rc) × Rc} (h : SL s t) (x : Int) : WiS (there s x) (there t x) := by
  unfold Go.Proofs.YtgodhpampaleeaaDoor.there
  split
  · exact h.2
  · exact h.1 _
theorem updL_there (r : Rc) : ∀ (xs : List Int) (s : (Nat → Rc) × Rc) (x : Int), x ∈ xs → WiS r (there (updL s xs r) x)
  | [], _, _, h => by cases h
  | y :: xs, s, x, h => by
    rcases List.mem_cons.1 h with rfl | h
    · refine WiS.trans ?_ ((updL_up r xs (updN s x r)).there x)
      unfold there updN
      by_cases e : x = -1
      · rw [if_pos e, if_pos e]; exact join_r _ _
      · rw [if_neg e, if_neg e]
        dsimp only
        rw [if_pos rfl]
        exact join_r _ _
    · exact updL_there r xs _ x h
theorem upd_keep (s : (Nat → Rc) × Rc) (x : Int) (r : Rc) {i : Nat} (hx : x ≠ i) (hx0 : -1 ≤ x) : (updN s x r).1 i = s.1 i := by
  unfold updN
  split
  · rfl
  · dsimp only
    rw [if_neg (by omega)]
theorem updL_keep (r : Rc) {i : Nat} : ∀ (xs : List Int) (s : (Nat → Rc) × Rc), (∀ x ∈ xs, x ≠ i ∧ -1 ≤ x) → (updL s xs r).1 i = s.1 i
  | [], _, _ => rfl
  | x :: xs, s, h => by
    have h1 := h x (by simp)
    have := updL_keep r xs (updN s x r) fun y hy => h y (by simp [hy])
    rw [upd_keep s x r h1.1 h1.2] at this
    exact this
theorem fold_keep (nds : List Nd) {i : Nat} : ∀ (l : List Nat) (s : (Nat → Rc) × Rc), (∀ k ∈ l, ∀ x ∈ (nds.getD k Nd.none).ins, x ≠ i ∧ -1 ≤ x) → (l.foldl (stepN nds) s).1 i = s.1 i
  | [], _, _ => rfl
  | k :: l, s, h => by
    rw [List.foldl_cons, fold_keep nds l _ fun j hj => h j (by simp [hj]), stepN_eq]
    exact updL_keep _ _ _ (h k (by simp))
/-- **All**: what it leaves -/
noncomputable def allN (nds : List Nd) (want : Rc) (out : Int) : (Nat → Rc) × Rc := (ord (insOf nds)).reverse.foldl (stepN nds) (startN want out)
theorem GoodN.inp_of {nds : List Nd} {out : Int} (h : GoodN nds out) {u : Nat} (hu : u < nds.length) {x : Int} (hx : x ∈ (nds.getD u Nd.none).ins) (h0 : 0 ≤ x) : x.toNat ∈ inp (insOf nds) u := by
  rw [inp_mem, insOf_get, insOf_len]
  have := h.rng u hu x hx
  exact ⟨by omega, by rw [show ((x.toNat : Nat) : Int) = x by omega]; exact hx⟩
/-- of each node: as much is known as is needed of it -/
theorem GoodN.covers {nds : List Nd} {out : Int} (h : GoodN nds out) (want : Rc) {i : Nat} (hi : i < nds.length) {x : Int} (hx : x ∈ (nds.getD i Nd.none).ins) : WiS (ofR (nds.getD i Nd.none) ((allN nds want out).1 i)) (there (allN nds want out) x) := by
  obtain ⟨pre, post, e⟩ := List.append_of_mem (h.full i hi)
  have hf := ord_fine (insOf nds)
  have hnd := hf.nodup
  rw [e] at hnd
  have hip : i ∉ pre := fun hx => (List.nodup_append.1 hnd).2.2 i hx i (by simp) rfl
  have hpre : ∀ u ∈ pre, i ∉ inp (insOf nds) u := fun u hu hin => by
    obtain ⟨m, hm, rfl⟩ := List.mem_iff_getElem.1 hu
    have hmm : (ord (insOf nds))[m]? = some pre[m] := by rw [e, List.getElem?_append_left hm, List.getElem?_eq_getElem hm]
    have := hf.behind m _ hmm i hin
    rw [e, List.take_append_of_le_length (Nat.le_of_lt hm)] at this
    exact hip (List.mem_of_mem_take this)
  have hown : i ∉ inp (insOf nds) i := fun hin => by
    have hmm : (ord (insOf nds))[pre.length]? = some i := by rw [e]; simp
    have := hf.behind pre.length _ hmm i hin
    rw [e, List.take_left'] at this
    · exact hip this
    · rfl
  have hlt : ∀ u ∈ pre, u < nds.length := fun u hu => by
    have := hf.bound u (by rw [e]; simp [hu])
    rwa [insOf_len] at this
  obtain ⟨s, hs⟩ : ∃ s, s = post.reverse.foldl (stepN nds) (startN want out) := ⟨_, rfl⟩
  have hall : allN nds want out = pre.reverse.foldl (stepN nds) (stepN nds s i) := by
    unfold allN
    rw [e, List.reverse_append, List.reverse_cons, List.append_assoc, List.foldl_append, List.foldl_append, ← hs]
    rfl
  have hk : (allN nds want out).1 i = s.1 i := by
    rw [hall, fold_keep nds pre.reverse _ fun u hu x hx => ?_, stepN_eq]
    · refine updL_keep _ _ _ fun x hx => ⟨fun ex => ?_, (h.rng i hi x hx).1⟩
      subst ex
      exact hown (by have := h.inp_of hi hx (by omega); simpa using this)
    · have hu' : u ∈ pre := List.mem_reverse.1 hu
      refine ⟨fun ex => ?_, (h.rng u (hlt u hu') x hx).1⟩
      subst ex
      exact hpre u hu' (by have := h.inp_of (hlt u hu') hx (by omega); simpa using this)
  rw [hk, hall]
  refine WiS.trans ?_ ((fold_up nds pre.reverse _).there x)
  rw [stepN_eq]
  exact updL_there _ _ _ x hx
/-- at Out is what is wanted -/
theorem covers_out (nds : List Nd) (want : Rc) (out : Nat) : WiS want ((allN nds want out).1 out) := by
  refine WiS.trans ?_ ((fold_up nds _ (startN want out)).1 out)
  unfold startN
  dsimp only
  rw [if_pos rfl]
  exact join_l _ _
/-! ### of nodes that are not needed nothing is asked -/
structure NzI (nds : List Nd) (out : Int) (s : (Nat → Rc) × Rc) : Prop where
  nz : ∀ k, ned (insOf nds) out k = false → s.1 k = Rc.zero
  n1 : ∀ k, Nrm (s.1 k)
  n2 : Nrm s.2
theorem NzI.upd {nds : List Nd} {out : Int} {s : (Nat → Rc) × Rc} (h : NzI nds out s) (x : Int) (r : Rc) (hr : 0 ≤ x → ned (insOf nds) out x.toNat = false → r = Rc.zero) (hx : -1 ≤ x) : NzI nds out (updN s x r) := by
  unfold updN
  split
  · exact ⟨h.nz, h.n1, nrm_join _ _⟩
  · refine ⟨fun k hk => ?_, fun k => ?_, h.n2⟩
    · dsimp only
      split
      · rename_i e
        subst e
        rw [hr (by omega) hk, h.nz _ hk]
        rfl
      · exact h.nz k hk
    · dsimp only
      split
      · exact nrm_join _ _
      · exact h.n1 k
theorem NzI.updL {nds : List Nd} {out : Int} {r : Rc} : ∀ (xs : List Int) {s : (Nat → Rc) × Rc}, NzI nds out s → (∀ x ∈ xs, (0 ≤ x → ned (insOf nds) out x.toNat = false → r = Rc.zero) ∧ -1 ≤ x) → NzI nds out (updL s xs r)
  | [], _, h, _ => h
  | x :: xs, _, h, hx => NzI.updL xs (h.upd x r (hx x (by simp)).1 (hx x (by simp)).2) fun y hy => hx y (by simp [hy])
theorem NzI.step {nds : List Nd} {out : Int} (hg : GoodN nds out) {s : (Nat → Rc) × Rc} (h : NzI nds out s) {k : Nat} (hk : k < nds.length) : NzI nds out (stepN nds s k) := by
  rw [stepN_eq]
  refine NzI.updL _ h fun x hx => ⟨fun h0 hn => ?_, (hg.rng k hk x hx).1⟩
  cases e : ned (insOf nds) out k with
  | false => rw [h.nz k e]; rfl
  | true =>
    have := (ned_iff _ _ _).2 (((ned_iff _ _ _).1 e).next (hg.inp_of hk hx h0))
    rw [this] at hn
    cases hn
theorem GoodN.unneeded {nds : List Nd} {out : Int} (hg : GoodN nds out) (want : Rc) {i : Nat} (hn : ned (insOf nds) out i = false) : (allN nds want out).1 i = Rc.zero := by
  have h0 : NzI nds out (startN want out) := by
    refine ⟨fun k hk => ?_, fun k => ?_, nrm_zero⟩
    · unfold startN
      dsimp only
      split
      · rename_i e
        have : ned (insOf nds) out k = true := (ned_iff _ _ _).2 ⟨hg.outs.1, by rw [insOf_len]; exact hg.outs.2, by rw [← e]; exact .base⟩
        rw [this] at hk
        cases hk
      · rfl
    · unfold startN
      dsimp only
      split
      · exact nrm_join _ _
      · exact nrm_zero
  have : ∀ (l : List Nat) {s : (Nat → Rc) × Rc}, (∀ k ∈ l, k < nds.length) → NzI nds out s → NzI nds out (l.foldl (stepN nds) s) := by
    intro l
    induction l with
    | nil => intro s _ h; exact h
    | cons k l ih => intro s hl h; exact ih (fun j hj => hl j (by simp [hj])) (h.step hg (hl k (by simp)))
  exact (this _ (fun k hk => by have := (ord_fine (insOf nds)).bound k (by simpa using hk); rwa [insOf_len] at this) h0).nz i hn
/-- for none nothing -/
theorem all_zero (nds : List Nd) (out : Int) : allN nds Rc.zero out = (fun _ => Rc.zero, Rc.zero) := by
  have h0 : startN Rc.zero out = (fun _ => Rc.zero, Rc.zero) := by
    unfold startN
    congr 1
    funext k
    split <;> rfl
  have hu : ∀ (xs : List Int), updL (fun _ => Rc.zero, Rc.zero) xs Rc.zero = (fun _ => Rc.zero, Rc.zero) := by
    intro xs
    induction xs with
    | nil => rfl
    | cons x xs ih =>
      have : updN (fun _ => Rc.zero, Rc.zero) x Rc.zero = (fun _ => Rc.zero, Rc.zero) := by
        unfold updN
        split
        · rfl
        · congr 1
          funext k
          split <;> rfl
      show updL (updN (fun _ => Rc.zero, Rc.zero) x Rc.zero) xs Rc.zero = _
      rw [this]
      exact ih
  unfold allN
  rw [h0]
  have : ∀ (l : List Nat), l.foldl (stepN nds) (fun _ => Rc.zero, Rc.zero) = (fun _ => Rc.zero, Rc.zero) := by
    intro l
    induction l with
    | nil => rfl
    | cons k l ih =>
      rw [List.foldl_cons, stepN_eq, show ofR (nds.getD k Nd.none) Rc.zero = Rc.zero from rfl, hu]
      exact ih
  exact this _
/-- for more no less -/
theorem GoodN.grows {nds : List Nd} {out : Int} (hg : GoodN nds out) {a b : Rc} (ha : RcP a) (hb : RcP b) (h : WiS a b) : SL (allN nds a out) (allN nds b out) := by
  refine SL.fold hg.pa _ (fun k hk => by have := (ord_fine (insOf nds)).bound k (by simpa using hk); rwa [insOf_len] at this) ⟨fun k => ?_, WiS.refl _⟩ (CvN.start ha out) (CvN.start hb out)
  unfold startN
  dsimp only
  split
  · exact join_mono h (WiS.refl _)
  · exact WiS.refl _
theorem GoodN.cv {nds : List Nd} {out : Int} (hg : GoodN nds out) {a : Rc} (ha : RcP a) : CvN (allN nds a out) := by
  have : ∀ (l : List Nat) {st : (Nat → Rc) × Rc}, (∀ k ∈ l, k < nds.length) → CvN st → CvN (l.foldl (stepN nds) st) := by
    intro l
    induction l with
    | nil => intro st _ h; exact h
    | cons x l ih => intro st hl h; exact ih (fun j hj => hl j (by simp [hj])) (h.step (hg.pa _ (hl x (by simp))))
  exact this _ (fun k hk => by have := (ord_fine (insOf nds)).bound k (by simpa using hk); rwa [insOf_len] at this) (CvN.start ha out)
end Go.Proofs.YtgodhpampaleeaaDoor
