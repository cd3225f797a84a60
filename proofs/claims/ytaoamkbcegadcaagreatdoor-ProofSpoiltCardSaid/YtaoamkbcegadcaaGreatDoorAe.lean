/- Texts joined: XInR XBk XNr XNs XNt. -/
import Derived.Test.YtaoamkbcegadcaaGreatDoorAd
import Derived.OrdersIn
import Derived.RangeFuncBox
import Derived.RangeFuncWrites
import Derived.RangeFuncNested
import Derived.RangeFuncBound
import Derived.RangeFuncCalls
import Derived.RangeFuncLeaves
import Derived.Shelf.Abstract
import Derived.OwnWalkIn
import Derived.TacticsInMore
import Derived.LoopNIn
import Derived.LoopIn
import Derived.Test.YtaoamkbcegadcaaGreatDoorAb
import Derived.Test.YtaoamkbcegadcaaGreatDoorAc
set_option maxRecDepth 4000
/- Regions that draw their order, inside a fence (a round of a range over a function too). Printed by tools/mk_in.py out of XEach, XLast, XTail. Plain: no program. -/
namespace Go.Bx
open Go.RowKit
set_option linter.unusedVariables false

section
variable {P : Program} {Q : Exit → Act → World → Prop} {a0 : Act} {w0 : World} {l : List Oper} {F : Fence} {N : Nat}
theorem gives_put_in {o : Oper} {a : Act} {w : World} {R : Value → World → Prop} {K : Act → World → Prop} (hfn : ∀ f,F.fn f) (hc : ∀ {f : FuncId} {args : Array Value} {w : World} {R : Ending → World → Prop},Calls P f args w R → CallsIn F (N - 1) P f args w R) (hdp : F.depth.isSome = true → 1 ≤ N) (hnd : ∀ c,o.op ≠ .defer c)
    (h : gives P o a.eval w R) (hK : ∀ v w',R v w' → K (a.put o.dst v) w') : o.wpIn F N P a w K Q := by
  refine ⟨fun f _ => hfn f,?_⟩
  rw [Oper.semAt_eq _ _ _ hnd]
  unfold gives at h
  generalize (execOp a.eval o).run P w = r at *
  cases r with
  | ok n w' =>
    cases n <;> simp only [] at h <;> simp only [Oper.uponIn]
    case value u => exact hK _ _ h
    case skip => exact hK _ _ h
    case enter f args => exact ⟨hdp,(hc h).mono fun e w'' ⟨v,he,hr⟩ => by subst he; exact hK _ _ hr⟩
  | halt x w' => cases h
theorem any_done_in {md : Region.Mode} {ops : Array Oper} {listed : Array Bool} {a : Act} {w : World} (h : Region.ready md ops listed = []) (hq : Q .normal a w) : ∀ fuel,wpAnyIn F N P md ops Q fuel listed a w
  | 0 => ⟨h,hq⟩
  | _ + 1 => ⟨fun _ => hq,fun i hi => by rw [h] at hi; cases hi⟩
theorem each_any_in (hfn : ∀ f,F.fn f) (hc : ∀ {f : FuncId} {args : Array Value} {w : World} {R : Ending → World → Prop},Calls P f args w R → CallsIn F (N - 1) P f args w R) (hdp : F.depth.isSome = true → 1 ≤ N) (hnd : ∀ (j : Nat) (o : Oper) c,l[j]? = some o → o.op ≠ .defer c) (I : World → Prop) (T : Nat → Value → World → Prop) (hsel : Region.noSelect l.toArray = true)
    (hacyc : ∀ i oi,l[i]? = some oi → ∀ e ∈ oi.after,Region.binds .any e = true → e.on < i)
    (hdst : ∀ i j oi oj d,l[i]? = some oi → l[j]? = some oj → oj.dst = some d → (i = j ∨ oi.dst ≠ some d) ∧ (d ∈ oi.looksAt l.toArray → depB oi j = true))
    (hop : ∀ i,i < l.length → OpIs P l a0 I T i)
    (hend : ∀ vs w,I w → (∀ i,i < l.length → T i (vs i) w) → Q .normal (fr (fun _ => true) vs l 0 a0) w) :
    ∀ (fuel : Nat) (listed : Array Bool) (vs : Nat → Value) (w : World),listed.size = l.length →
      (∀ i,i < l.length → listed.getD i false = true → T i (vs i) w) → I w → (List.range l.length).countP (fun i => !listed.getD i false) ≤ fuel →
      wpAnyIn F N P .any l.toArray Q fuel listed (fr (fun j => listed.getD j false) vs l 0 a0) w := by
  intro fuel
  induction fuel with
  | zero =>
    intro listed vs w hsz hT hw hf
    have hall : ∀ j,j < l.length → listed.getD j false = true := by
      intro j hj
      cases e : listed.getD j false with
      | true => rfl
      | false =>
        have : 0 < (List.range l.length).countP (fun i => !listed.getD i false) := List.countP_pos_iff.2 ⟨j,List.mem_range.2 hj,by simp [e]⟩
        omega
    refine any_done_in (ready_nil hsz hall) ?_ 0
    rw [fr_congr' (L' := fun _ => true) l 0 a0 fun j _ hj => hall j (by omega)]
    exact hend vs w hw fun i hi => hT i hi (hall i hi)
  | succ fuel ih =>
    intro listed vs w hsz hT hw hf
    by_cases hall : ∀ j,j < l.length → listed.getD j false = true
    · refine any_done_in (ready_nil hsz hall) ?_ _
      rw [fr_congr' (L' := fun _ => true) l 0 a0 fun j _ hj => hall j (by omega)]
      exact hend vs w hw fun i hi => hT i hi (hall i hi)
    have hgd : ∀ j,j < l.length → listed.getD j true = listed.getD j false := fun j hj => by
      rw [← hsz] at hj
      simp [hj]
    have hselo : ∀ (j : Nat) (o : Oper) cs b,l[j]? = some o → o.op ≠ .select cs b := fun j o cs b ho => Region.noSelect_spec hsel j o cs b (by simpa using ho)
    refine ⟨fun h => ?_,fun i hi => ?_⟩
    · exfalso
      have hex : ∃ m,m < l.length ∧ listed.getD m false = false ∧ ∀ j,j < m → listed.getD j false = true := by
        have : ∀ n,(∃ m,m < n ∧ listed.getD m false = false ∧ ∀ j,j < m → listed.getD j false = true) ∨ ∀ j,j < n → listed.getD j false = true := by
          intro n
          induction n with
          | zero => exact .inr fun j hj => by omega
          | succ n ihn =>
            rcases ihn with ⟨m,hm,h1,h2⟩ | h1
            · exact .inl ⟨m,by omega,h1,h2⟩
            · cases e : listed.getD n false with
              | false => exact .inl ⟨n,by omega,e,h1⟩
              | true =>
                refine .inr fun j hj => ?_
                by_cases hjn : j < n
                · exact h1 j hjn
                · rw [show j = n by omega]; exact e
        rcases this l.length with h2 | h2
        · exact h2
        · exact absurd h2 hall
      obtain ⟨m,hm,h1,h2⟩ := hex
      obtain ⟨o,ho⟩ : ∃ o,l[m]? = some o := ⟨_,List.getElem?_eq_getElem hm⟩
      have : m ∈ Region.ready .any l.toArray listed := mem_ready.2 ⟨by rw [hgd m hm]; exact h1,o,by simpa using ho,fun e he hb => h2 _ (hacyc m o ho e he hb)⟩
      rw [h] at this
      cases this
    · obtain ⟨hun,o,ho',hdeps⟩ := mem_ready.1 hi
      have ho : l[i]? = some o := by simpa using ho'
      have hil : i < l.length := (List.getElem?_eq_some_iff.1 ho).1
      rw [hgd i hil] at hun
      have hdep : ∀ j,depB o j = true → listed.getD j false = true ∧ j < l.length := fun j hj => by
        unfold depB at hj
        rw [Array.any_eq_true'] at hj
        obtain ⟨e,he,hb⟩ := hj
        simp only [Bool.and_eq_true,beq_iff_eq] at hb
        rw [← hb.2]
        exact ⟨hdeps e he hb.1,Nat.lt_trans (hacyc i o ho e he hb.1) hil⟩
      have hlooks : ∀ t ∈ o.looksAt l.toArray,(fr (fun _ => true) vs l 0 a0).tmps[t]? = (fr (fun j => listed.getD j false) vs l 0 a0).tmps[t]? := fun t ht =>
        fr_at l 0 a0 a0 rfl fun j oj hj hd => by
          have hd2 := (hdst i j o oj t ho hj hd).2 ht
          rw [Nat.zero_add,(hdep j hd2).1]
      have hs0 := hop i hil o ho vs w hw (fun j hj => hT j (hdep j hj).2 (hdep j hj).1)
      have hs := steps_same o (fun cs b => hselo i o cs b ho) hlooks hs0
      have hnext : ∀ v w',(T i v w' ∧ I w' ∧ ∀ j u,j ≠ i → T j u w → T j u w') → wpAnyIn F N P .any l.toArray Q fuel (listed.setIfInBounds i true) ((fr (fun j => listed.getD j false) vs l 0 a0).put o.dst v) w' := by
        intro v w' ⟨hTv,hIw,hkeep⟩
        have hset : ∀ j,(listed.setIfInBounds i true).getD j false = upd (fun j => listed.getD j false) i true j := fun j => by
          by_cases e : i = j
          · subst e
            have : i < listed.size := by omega
            simp [this,upd]
          · rw [getD_set_ne false e]; exact (if_neg fun h => e h.symm).symm
        have hfr : fr (fun j => (listed.setIfInBounds i true).getD j false) (upd vs i v) l 0 a0 = (fr (fun j => listed.getD j false) vs l 0 a0).put o.dst v := by
          rw [fr_congr (L' := upd (fun j => listed.getD j false) (0 + i) true) (vs' := upd vs (0 + i) v) l 0 a0 fun j _ => by rw [Nat.zero_add]; exact ⟨hset j,rfl⟩]
          exact fr_step l 0 i a0 o ho (by rw [Nat.zero_add]; exact hun) fun j o' hj hne t ht => by
            rcases (hdst j i o' o t hj ho ht).1 with h | h
            · exact absurd h hne
            · exact h
        rw [← hfr]
        refine ih _ _ w' (by simpa using hsz) ?_ hIw ?_
        · intro j hj hlj
          by_cases e : j = i
          · subst e
            rw [show upd vs j v j = v from if_pos rfl]; exact hTv
          · rw [show upd vs i v j = vs j from if_neg e]
            rw [hset,show upd (fun j => listed.getD j false) i true j = listed.getD j false from if_neg e] at hlj
            exact hkeep j _ e (hT j hj hlj)
        · have := countP_one (f := fun i => !listed.getD i false) (g := fun j => !(listed.setIfInBounds i true).getD j false) (i := i) (by simp only [hun]; rfl) (by simp only [hset,upd,if_true]; rfl) (fun j hj => by
            simp only [hset]
            rw [show upd (fun j => listed.getD j false) i true j = listed.getD j false from if_neg hj]) l.length hil
          omega
      unfold wpOpIn
      simp only [ho']
      unfold stepsTo at hs
      split
      · rename_i hw'
        simp only [hw',if_true] at hs
        exact gives_put_in hfn hc hdp (fun c => hnd i o c ho) hs hnext
      · rename_i hw'
        simp only [hw'] at hs
        exact ⟨fun f _ => hfn f,hnext _ _ hs⟩

theorem last_any_in (hfn : ∀ f,F.fn f) (hc : ∀ {f : FuncId} {args : Array Value} {w : World} {R : Ending → World → Prop},Calls P f args w R → CallsIn F (N - 1) P f args w R) (hdp : F.depth.isSome = true → 1 ≤ N) (hnd : ∀ (j : Nat) (o : Oper) c,l[j]? = some o → o.op ≠ .defer c) (I : World → Prop) (T : Nat → Value → World → Prop) (k : Nat) (last : Oper) (hl : l[k]? = some last) (hlen : l.length = k + 1) (hsel : Region.noSelect l.toArray = true)
    (hacyc : ∀ i oi,l[i]? = some oi → ∀ e ∈ oi.after,Region.binds .any e = true → e.on < i)
    (hcl : ∀ i,i < k → ∃ j oj,i < j ∧ l[j]? = some oj ∧ depB oj i = true)
    (hdst : ∀ i j oi oj d,l[i]? = some oi → l[j]? = some oj → oj.dst = some d → (i = j ∨ oi.dst ≠ some d) ∧ (d ∈ oi.looksAt l.toArray → depB oi j = true))
    (hop : ∀ i,i < k → OpIs P l a0 I T i)
    (hlast : ∀ vs w,I w → (∀ i,i < k → T i (vs i) w) → stepsTo P l.toArray last (fr (fun j => decide (j < k)) vs l 0 a0) w (fun v w' => Q .normal ((fr (fun j => decide (j < k)) vs l 0 a0).put last.dst v) w')) :
    ∀ (fuel : Nat) (listed : Array Bool) (vs : Nat → Value) (w : World),listed.size = l.length →
      (∀ i oi,l[i]? = some oi → listed.getD i false = true → ∀ e ∈ oi.after,Region.binds .any e = true → listed.getD e.on false = true) →
      listed.getD k false = false → (∀ i,i < k → listed.getD i false = true → T i (vs i) w) → I w → (List.range l.length).countP (fun i => !listed.getD i false) ≤ fuel →
      wpAnyIn F N P .any l.toArray Q fuel listed (fr (fun j => listed.getD j false) vs l 0 a0) w := by
  intro fuel
  induction fuel with
  | zero =>
    intro listed vs w hsz hdown hk hT hw hf
    have : 0 < (List.range l.length).countP (fun i => !listed.getD i false) := List.countP_pos_iff.2 ⟨k,List.mem_range.2 (by omega),by simp [hk]⟩
    omega
  | succ fuel ih =>
    intro listed vs w hsz hdown hk hT hw hf
    have hgd : ∀ j,j < l.length → listed.getD j true = listed.getD j false := fun j hj => by
      rw [← hsz] at hj
      simp [hj]
    have hout : ∀ j,l.length ≤ j → listed.getD j false = false := fun j hj => by
      rw [← hsz] at hj
      simp [Array.getElem?_eq_none hj]
    have hselo : ∀ (j : Nat) (o : Oper) cs b,l[j]? = some o → o.op ≠ .select cs b := fun j o cs b ho => Region.noSelect_spec hsel j o cs b (by simpa using ho)
    refine ⟨fun h => ?_,fun i hi => ?_⟩
    · exfalso
      -- the least that has not come up may come up
      have hex : ∃ m,m ≤ k ∧ listed.getD m false = false ∧ ∀ j,j < m → listed.getD j false = true := by
        clear h hT hw hf hdown
        have : ∀ n,(∃ m,m ≤ n ∧ listed.getD m false = false ∧ ∀ j,j < m → listed.getD j false = true) ∨ ∀ j,j ≤ n → listed.getD j false = true := by
          intro n
          induction n with
          | zero =>
            cases e : listed.getD 0 false with
            | false => exact .inl ⟨0,Nat.le_refl _,e,fun j hj => by omega⟩
            | true => exact .inr fun j hj => by rw [show j = 0 by omega]; exact e
          | succ n ihn =>
            rcases ihn with ⟨m,hm,h1,h2⟩ | h1
            · exact .inl ⟨m,by omega,h1,h2⟩
            · cases e : listed.getD (n + 1) false with
              | false => exact .inl ⟨n + 1,Nat.le_refl _,e,fun j hj => h1 j (by omega)⟩
              | true =>
                refine .inr fun j hj => ?_
                by_cases hjn : j ≤ n
                · exact h1 j hjn
                · rw [show j = n + 1 by omega]; exact e
        rcases this k with h2 | h2
        · exact h2
        · rw [h2 k (Nat.le_refl _)] at hk; cases hk
      obtain ⟨m,hm,h1,h2⟩ := hex
      obtain ⟨o,ho⟩ : ∃ o,l[m]? = some o := ⟨_,List.getElem?_eq_getElem (by omega)⟩
      have : m ∈ Region.ready .any l.toArray listed := mem_ready.2 ⟨by rw [hgd m (by omega)]; exact h1,o,by simpa using ho,fun e he hb => h2 _ (hacyc m o ho e he hb)⟩
      rw [h] at this
      cases this
    · obtain ⟨hun,o,ho',hdeps⟩ := mem_ready.1 hi
      have ho : l[i]? = some o := by simpa using ho'
      have hil : i < l.length := (List.getElem?_eq_some_iff.1 ho).1
      rw [hgd i hil] at hun
      have hdep : ∀ j,depB o j = true → listed.getD j false = true := fun j hj => by
        unfold depB at hj
        rw [Array.any_eq_true'] at hj
        obtain ⟨e,he,hb⟩ := hj
        simp only [Bool.and_eq_true,beq_iff_eq] at hb
        rw [← hb.2]
        exact hdeps e he hb.1
      have hlooks : ∀ (L' : Nat → Bool),(∀ j,depB o j = true → L' j = true) → ∀ t ∈ o.looksAt l.toArray,(fr L' vs l 0 a0).tmps[t]? = (fr (fun j => listed.getD j false) vs l 0 a0).tmps[t]? := fun L' hL' t ht =>
        fr_at l 0 a0 a0 rfl fun j oj hj hd => by
          have hd2 := (hdst i j o oj t ho hj hd).2 ht
          rw [Nat.zero_add,hL' j hd2,hdep j hd2]
      by_cases hik : i = k
      · subst hik
        rw [hl] at ho
        cases ho
        have hall : ∀ n j,i - j ≤ n → j < i → listed.getD j false = true := by
          intro n
          induction n with
          | zero => intro j h1 h2; omega
          | succ n ihn =>
            intro j h1 h2
            obtain ⟨m,om,hm,hom,hd⟩ := hcl j h2
            have hml : m < l.length := (List.getElem?_eq_some_iff.1 hom).1
            by_cases e : m = i
            · subst e
              rw [hl] at hom
              cases hom
              exact hdep j hd
            · have := ihn m (by omega) (by omega)
              unfold depB at hd
              rw [Array.any_eq_true'] at hd
              obtain ⟨e',he,hb⟩ := hd
              simp only [Bool.and_eq_true,beq_iff_eq] at hb
              rw [← hb.2]
              exact hdown m om hom this e' he hb.1
        have hL : ∀ j,listed.getD j false = decide (j < i) := fun j => by
          by_cases h1 : j < i
          · rw [hall i j (by omega) h1]; simp [h1]
          · rw [decide_eq_false h1]
            by_cases h2 : j = i
            · rw [h2]; exact hun
            · exact hout j (by omega)
        have hfr : fr (fun j => listed.getD j false) vs l 0 a0 = fr (fun j => decide (j < i)) vs l 0 a0 := fr_congr l 0 a0 fun j _ => ⟨hL j,rfl⟩
        rw [hfr]
        have hs := hlast vs w hw (fun j hj => hT j hj (hall i j (by omega) hj))
        have hdone : ∀ a w',Q .normal a w' → wpAnyIn F N P .any l.toArray Q fuel (listed.setIfInBounds i true) a w' := fun a w' hq => any_done_in (by
          rw [List.eq_nil_iff_forall_not_mem]
          intro j hj
          obtain ⟨h1,oj,hoj,_⟩ := mem_ready.1 hj
          by_cases e : i = j
          · subst e
            have : i < listed.size := by omega
            simp [this] at h1
          · rw [getD_set_ne true e] at h1
            have hjl : j < l.length := (List.getElem?_eq_some_iff.1 (by simpa using hoj)).1
            rw [hgd j hjl,hall i j (by omega) (by omega)] at h1
            cases h1) hq fuel
        unfold wpOpIn
        simp only [ho']
        unfold stepsTo at hs
        split
        · rename_i hw'
          simp only [hw',if_true] at hs
          exact gives_put_in hfn hc hdp (fun c => hnd i _ c hl) hs fun v w' h => hdone _ _ h
        · rename_i hw'
          simp only [hw'] at hs
          exact ⟨fun f _ => hfn f,hdone _ _ hs⟩
      · have hs0 := hop i (by omega) o ho vs w hw (fun j hj => hT j (by
          unfold depB at hj
          rw [Array.any_eq_true'] at hj
          obtain ⟨e,he,hb⟩ := hj
          simp only [Bool.and_eq_true,beq_iff_eq] at hb
          have := hacyc i o ho e he hb.1
          omega) (hdep j hj))
        have hs := steps_same o (fun cs b => hselo i o cs b ho) (hlooks (fun _ => true) fun _ _ => rfl) hs0
        have hnext : ∀ v w',(T i v w' ∧ I w' ∧ ∀ j u,j ≠ i → T j u w → T j u w') → wpAnyIn F N P .any l.toArray Q fuel (listed.setIfInBounds i true) ((fr (fun j => listed.getD j false) vs l 0 a0).put o.dst v) w' := by
          intro v w' ⟨hTv,hIw,hkeep⟩
          have hset : ∀ j,(listed.setIfInBounds i true).getD j false = upd (fun j => listed.getD j false) i true j := fun j => by
            by_cases e : i = j
            · subst e
              have : i < listed.size := by omega
              simp [this,upd]
            · rw [getD_set_ne false e]; exact (if_neg fun h => e h.symm).symm
          have hfr : fr (fun j => (listed.setIfInBounds i true).getD j false) (upd vs i v) l 0 a0 = (fr (fun j => listed.getD j false) vs l 0 a0).put o.dst v := by
            rw [fr_congr (L' := upd (fun j => listed.getD j false) (0 + i) true) (vs' := upd vs (0 + i) v) l 0 a0 fun j _ => by rw [Nat.zero_add]; exact ⟨hset j,rfl⟩]
            exact fr_step l 0 i a0 o ho (by rw [Nat.zero_add]; exact hun) fun j o' hj hne t ht => by
              rcases (hdst j i o' o t hj ho ht).1 with h | h
              · exact absurd h hne
              · exact h
          rw [← hfr]
          refine ih _ _ w' (by simpa using hsz) ?_ ?_ ?_ hIw ?_
          · intro j oj hj hlj e he hbd
            rw [hset] at hlj
            rw [hset]
            by_cases e1 : e.on = i
            · exact if_pos e1
            · rw [show upd (fun j => listed.getD j false) i true e.on = listed.getD e.on false from if_neg e1]
              by_cases e2 : j = i
              · subst e2
                rw [ho] at hj
                cases hj
                exact hdeps e he hbd
              · rw [show upd (fun j => listed.getD j false) i true j = listed.getD j false from if_neg e2] at hlj
                exact hdown j oj hj hlj e he hbd
          · rw [hset]; rw [show upd (fun j => listed.getD j false) i true k = listed.getD k false from if_neg fun h => hik h.symm]; exact hk
          · intro j hj hlj
            by_cases e : j = i
            · subst e
              rw [show upd vs j v j = v from if_pos rfl]; exact hTv
            · rw [show upd vs i v j = vs j from if_neg e]
              rw [hset,show upd (fun j => listed.getD j false) i true j = listed.getD j false from if_neg e] at hlj
              exact hkeep j _ e (hT j hj hlj)
          · have := countP_one (f := fun i => !listed.getD i false) (g := fun j => !(listed.setIfInBounds i true).getD j false) (i := i) (by simp only [hun]; rfl) (by simp only [hset,upd,if_true]; rfl) (fun j hj => by
              simp only [hset]
              rw [show upd (fun j => listed.getD j false) i true j = listed.getD j false from if_neg hj]) l.length hil
            omega
        unfold wpOpIn
        simp only [ho']
        unfold stepsTo at hs
        split
        · rename_i hw'
          simp only [hw',if_true] at hs
          exact gives_put_in hfn hc hdp (fun c => hnd i o c ho) hs hnext
        · rename_i hw'
          simp only [hw'] at hs
          exact ⟨fun f _ => hfn f,hnext _ _ hs⟩

theorem wp_region_last_in {id : Nat} (hfn : ∀ f,F.fn f) (hc : ∀ {f : FuncId} {args : Array Value} {w : World} {R : Ending → World → Prop},Calls P f args w R → CallsIn F (N - 1) P f args w R) (hdp : F.depth.isSome = true → 1 ≤ N) (hnd : ∀ (j : Nat) (o : Oper) c,l[j]? = some o → o.op ≠ .defer c) (I : World → Prop) (T : Nat → Value → World → Prop) (k : Nat) (last : Oper) (hl : l[k]? = some last) (hlen : l.length = k + 1) (hm : P.follows .mixedOrders = true) (hB : monoB l = true) (hI : I w0.drew)
    (hop : ∀ i,i < k → OpIs P l a0 I T i)
    (hlast : ∀ vs w,I w → (∀ i,i < k → T i (vs i) w) → Shut (stepsTo P l.toArray last (fr (fun j => decide (j < k)) vs l 0 a0) w (fun v w' => Q .normal ((fr (fun j => decide (j < k)) vs l 0 a0).put last.dst v) w'))) :
    (Code.region id l.toArray true).wpIn F N P Q a0 w0 := by
  unfold monoB at hB
  rw [Bool.and_eq_true,List.all_eq_true] at hB
  obtain ⟨hsel,hB⟩ := hB
  have hB1 : ∀ i oi,l[i]? = some oi → _ := fun i oi hi => by
    have := hB i (List.mem_range.2 (List.getElem?_eq_some_iff.1 hi).1)
    simp only [hi,Bool.and_eq_true] at this
    exact this
  refine wpIn_region_any hm ?_
  have hfr : a0 = fr (fun j => (Array.replicate l.length false).getD j false) (fun _ => undef) l 0 a0 := by
    have hgen : ∀ (l' : List Oper) (k : Nat) (a : Act),a = fr (fun j => (Array.replicate l.length false).getD j false) (fun _ => undef) l' k a := by
      intro l'
      induction l' with
      | nil => intro _ _; rfl
      | cons o l' ih =>
        intro k a
        have : (Array.replicate l.length false).getD k false = false := by
          rcases Nat.lt_or_ge k l.length with h | h
          · simp [h]
          · simp [Array.getElem?_eq_none (xs := Array.replicate l.length false) (i := k) (by simpa using h)]
        simp only [fr,this,Bool.false_eq_true,if_false]
        exact ih (k + 1) a
    exact hgen l 0 a0
  have hrep : ∀ j,(Array.replicate l.length false).getD j false = false := fun k => by
    rcases Nat.lt_or_ge k l.length with h | h
    · simp [h]
    · simp [Array.getElem?_eq_none (xs := Array.replicate l.length false) (i := k) (by simpa using h)]
  have hmain := last_any_in (P := P) (Q := Q) (a0 := a0) (F := F) (N := N) hfn hc hdp hnd I T k last hl hlen hsel ?_ ?_ ?_ hop (fun vs w h1 h2 => (hlast vs w h1 h2).out) l.length (Array.replicate l.length false) (fun _ => undef) { w0 with drawn := w0.drawn + 1 } (by simp)
    (fun i _ _ h => by rw [hrep i] at h; cases h) (hrep k) (fun i _ h => by rw [hrep i] at h; cases h) hI (by
      have := List.countP_le_length (p := fun i => !(Array.replicate l.length false).getD i false) (l := List.range l.length)
      simpa using this)
  · rw [← hfr] at hmain
    simpa using hmain
  · intro i oi hi e he hb
    have := (hB1 i oi hi).1.1
    rw [Array.all_eq_true'] at this
    have := this e he
    simpa [hb] using this
  · intro i hi
    have := (hB1 i l[i] (List.getElem?_eq_getElem (by omega))).1.2
    simp only [Bool.or_eq_true,beq_iff_eq,List.any_eq_true,Bool.and_eq_true,decide_eq_true_eq] at this
    rcases this with h | ⟨j,_,h1,h2⟩
    · omega
    · split at h2
      · rename_i oj hj
        exact ⟨j,oj,h1,hj,h2⟩
      · cases h2
  · intro i j oi oj d hi hj hd
    have := (hB1 i oi hi).2
    rw [List.all_eq_true] at this
    have := this j (List.mem_range.2 (List.getElem?_eq_some_iff.1 hj).1)
    simp only [hj,hd,Bool.and_eq_true,Bool.or_eq_true,beq_iff_eq,bne_iff_ne,Bool.not_eq_true',List.contains_eq_mem,decide_eq_false_iff_not,ne_eq] at this
    refine ⟨this.1,fun hm => ?_⟩
    rcases this.2 with h | h
    · exact absurd hm (by simpa using h)
    · exact h
theorem wp_region_kept_last_in {id : Nat} (hfn : ∀ f,F.fn f) (hc : ∀ {f : FuncId} {args : Array Value} {w : World} {R : Ending → World → Prop},Calls P f args w R → CallsIn F (N - 1) P f args w R) (hdp : F.depth.isSome = true → 1 ≤ N) (hnd : ∀ (j : Nat) (o : Oper) c,l[j]? = some o → o.op ≠ .defer c) (n k : Nat) (last : Oper) (hl : l[k]? = some last) (hlen : l.length = k + 1) (hm : P.follows .mixedOrders = true) (hB : monoB l = true)
    (h : wpQuiet P l.toArray (fun w' => ∃ s : Kept n w0,w' = s.w) (fun a' => ∀ s : Kept n w0,Shut (stepsTo P l.toArray last a' s.w (fun v w' => Q .normal (a'.put last.dst v) w'))) (l.take k) a0) : (Code.region id l.toArray true).wpIn F N P Q a0 w0 := by
  have hB' := hB
  unfold monoB at hB'
  rw [Bool.and_eq_true,List.all_eq_true] at hB'
  have hB1 : ∀ i oi,l[i]? = some oi → _ := fun i oi hi => by
    have := hB'.2 i (List.mem_range.2 (List.getElem?_eq_some_iff.1 hi).1)
    simp only [hi,Bool.and_eq_true] at this
    exact this
  have hd2 : ∀ i j oi oj d,l[i]? = some oi → l[j]? = some oj → oj.dst = some d → (i = j ∨ oi.dst ≠ some d) ∧ (d ∈ oi.looksAt l.toArray → depB oi j = true) := fun i j oi oj d hi hj hd => by
    have := (hB1 i oi hi).2
    rw [List.all_eq_true] at this
    have := this j (List.mem_range.2 (List.getElem?_eq_some_iff.1 hj).1)
    simp only [hj,hd,Bool.and_eq_true,Bool.or_eq_true,beq_iff_eq,bne_iff_ne,ne_eq] at this
    refine ⟨this.1,fun hm => ?_⟩
    rcases this.2 with h | h
    · rw [Bool.not_eq_true'] at h
      have hc : (oi.looksAt l.toArray).contains d = true := by simpa using hm
      rw [hc] at h
      cases h
    · exact h
  have hacyc : ∀ i oi,l[i]? = some oi → ∀ j,depB oi j = true → j < i := fun i oi hi j hj => by
    have h1 := (hB1 i oi hi).1.1
    rw [Array.all_eq_true'] at h1
    unfold depB at hj
    rw [Array.any_eq_true'] at hj
    obtain ⟨e,he,hb⟩ := hj
    simp only [Bool.and_eq_true,beq_iff_eq] at hb
    have := h1 e he
    simp [hb.1] at this
    omega
  have hsel : ∀ (j : Nat) (o : Oper) cs b,l[j]? = some o → o.op ≠ .select cs b := fun j o cs b ho => Region.noSelect_spec hB'.1 j o cs b (by simpa using ho)
  have hfr : a0 = fr (fun q => decide (q < 0)) (fun _ => undef) l 0 a0 := by
    have hgen : ∀ (l' : List Oper) (k : Nat) (a : Act),a = fr (fun q => decide (q < 0)) (fun _ => undef) l' k a := by
      intro l'
      induction l' with
      | nil => intro _ _; rfl
      | cons o l' ih =>
        intro k a
        simp only [fr,Nat.not_lt_zero,decide_false,Bool.false_eq_true,if_false]
        exact ih (k + 1) a
    exact hgen l 0 a0
  rw [hfr] at h
  obtain ⟨vs,_,hy,hR⟩ := quiet_vals (a0 := a0) (fun i j oi oj hi hj hne t ht => by
    rcases (hd2 j i oj oi t hj hi ht).1 with h | h
    · exact absurd h.symm hne
    · exact h) (l.take k) 0 (fun _ => undef) (fun j hj => by rw [Nat.zero_add,List.getElem?_take_of_lt (by rw [List.length_take] at hj; omega)]) h
  have hk : (l.take k).length = k := by rw [List.length_take]; omega
  rw [Nat.zero_add,hk] at hR
  rw [hk] at hy
  refine wp_region_last_in hfn hc hdp hnd (fun w' => ∃ s : Kept n w0,w' = s.w) (fun i v _ => v = vs i) k last hl hlen hm hB ⟨⟨w0.drew,(Below.refl _ w0).drew⟩,rfl⟩ (fun i hi o ho vs' W hC hdep => ?_) (fun vs' W hC hT => ?_)
  · have hyi := hy i (Nat.zero_le _) (by omega) o ho
    have hlooks : ∀ t ∈ o.looksAt l.toArray,(fr (fun q => decide (q < i)) vs l 0 a0).tmps[t]? = (fr (fun _ => true) vs' l 0 a0).tmps[t]? := fun t ht =>
      fr_at2 l 0 a0 a0 rfl fun j oj hj hd => by
        have hd3 := (hd2 i j o oj t ho hj hd).2 ht
        rw [Nat.zero_add]
        exact ⟨decide_eq_true (hacyc i o ho j hd3),(hdep j hd3).symm⟩
    refine steps_same o (fun cs b => hsel i o cs b ho) hlooks ?_
    unfold stepsTo
    rcases hyi with ⟨hw,hv⟩ | ⟨hw,hv⟩
    · rw [if_pos hw]
      have h1 := hv W hC
      unfold Oper.quietAt at h1
      unfold gives
      generalize (execOp (fr (fun q => decide (q < i)) vs l 0 a0).eval o).run P W = r at *
      cases r with
      | ok nx w' =>
        cases nx <;> simp only [Oper.quietUpon] at h1 ⊢
        case value u => obtain ⟨e1,e2⟩ := h1; rw [e1,e2]; exact ⟨rfl,hC,fun _ _ _ h => h⟩
        case skip => obtain ⟨e1,e2⟩ := h1; rw [e1]; exact ⟨e2.symm,hC,fun _ _ _ h => h⟩
        case enter f args =>
          obtain ⟨e1,hc⟩ := h1
          rw [e1]
          exact hc.mono fun e w'' ⟨he,hw''⟩ => ⟨_,he,rfl,hw'',fun _ _ _ h => h⟩
      | halt x w' => simp only [Oper.quietUpon] at h1
    · rw [if_neg (by rw [hw]; simp)]
      exact ⟨hv.symm,hC,fun _ _ _ h => h⟩
  · obtain ⟨s,rfl⟩ := hC
    have := hR s
    rw [fr_congr2 (L' := fun j => decide (j < k)) (vs' := vs') l 0 a0 fun q _ => ⟨rfl,fun hq => (hT q (of_decide_eq_true hq)).symm⟩] at this
    exact this
theorem wp_region_kept_in {id : Nat} (hfn : ∀ f,F.fn f) (hc : ∀ {f : FuncId} {args : Array Value} {w : World} {R : Ending → World → Prop},Calls P f args w R → CallsIn F (N - 1) P f args w R) (hdp : F.depth.isSome = true → 1 ≤ N) (hnd : ∀ (j : Nat) (o : Oper) c,l[j]? = some o → o.op ≠ .defer c) (n : Nat) (hm : P.follows .mixedOrders = true) (hB : eachB l = true)
    (h : wpQuiet P l.toArray (fun w' => ∃ s : Kept n w0,w' = s.w) (fun a' => ∀ w',(∃ s : Kept n w0,w' = s.w) → Q .normal a' w') l a0) : (Code.region id l.toArray true).wpIn F N P Q a0 w0 := by
  obtain ⟨hsel0,hac0,hd2⟩ := eachB_parts hB
  have hacyc : ∀ i oi,l[i]? = some oi → ∀ j,depB oi j = true → j < i := fun i oi hi j hj => by
    unfold depB at hj
    rw [Array.any_eq_true'] at hj
    obtain ⟨e,he,hb⟩ := hj
    simp only [Bool.and_eq_true,beq_iff_eq] at hb
    have := hac0 i oi hi e he hb.1
    omega
  have hsel : ∀ (j : Nat) (o : Oper) cs b,l[j]? = some o → o.op ≠ .select cs b := fun j o cs b ho => Region.noSelect_spec hsel0 j o cs b (by simpa using ho)
  have hfr : a0 = fr (fun q => decide (q < 0)) (fun _ => undef) l 0 a0 := by
    have hgen : ∀ (l' : List Oper) (k : Nat) (a : Act),a = fr (fun q => decide (q < 0)) (fun _ => undef) l' k a := by
      intro l'
      induction l' with
      | nil => intro _ _; rfl
      | cons o l' ih =>
        intro k a
        simp only [fr,Nat.not_lt_zero,decide_false,Bool.false_eq_true,if_false]
        exact ih (k + 1) a
    exact hgen l 0 a0
  rw [hfr] at h
  obtain ⟨vs,_,hy,hR⟩ := quiet_vals (a0 := a0) (fun i j oi oj hi hj hne t ht => by
    rcases (hd2 j i oj oi t hj hi ht).1 with h | h
    · exact absurd h.symm hne
    · exact h) l 0 (fun _ => undef) (fun j hj => by rw [Nat.zero_add]) h
  rw [Nat.zero_add] at hR
  refine wpIn_region_any hm ?_
  have hfr2 : a0 = fr (fun j => (Array.replicate l.length false).getD j false) (fun _ => undef) l 0 a0 := by
    have hgen : ∀ (l' : List Oper) (k : Nat) (a : Act),a = fr (fun j => (Array.replicate l.length false).getD j false) (fun _ => undef) l' k a := by
      intro l'
      induction l' with
      | nil => intro _ _; rfl
      | cons o l' ih =>
        intro k a
        have : (Array.replicate l.length false).getD k false = false := by
          rcases Nat.lt_or_ge k l.length with h | h
          · simp [h]
          · simp [Array.getElem?_eq_none (xs := Array.replicate l.length false) (i := k) (by simpa using h)]
        simp only [fr,this,Bool.false_eq_true,if_false]
        exact ih (k + 1) a
    exact hgen l 0 a0
  have hrep : ∀ j,(Array.replicate l.length false).getD j false = false := fun k => by
    rcases Nat.lt_or_ge k l.length with h | h
    · simp [h]
    · simp [Array.getElem?_eq_none (xs := Array.replicate l.length false) (i := k) (by simpa using h)]
  have hmain := each_any_in (P := P) (Q := Q) (a0 := a0) (F := F) (N := N) hfn hc hdp hnd (fun w' => ∃ s : Kept n w0,w' = s.w) (fun i v _ => v = vs i) hsel0 hac0 hd2 (fun i hi o ho vs' W hC hdep => by
    have hyi := hy i (Nat.zero_le _) (by omega) o ho
    have hlooks : ∀ t ∈ o.looksAt l.toArray,(fr (fun q => decide (q < i)) vs l 0 a0).tmps[t]? = (fr (fun _ => true) vs' l 0 a0).tmps[t]? := fun t ht =>
      fr_at2 l 0 a0 a0 rfl fun j oj hj hd => by
        have hd3 := (hd2 i j o oj t ho hj hd).2 ht
        rw [Nat.zero_add]
        exact ⟨decide_eq_true (hacyc i o ho j hd3),(hdep j hd3).symm⟩
    refine steps_same o (fun cs b => hsel i o cs b ho) hlooks ?_
    unfold stepsTo
    rcases hyi with ⟨hw,hv⟩ | ⟨hw,hv⟩
    · rw [if_pos hw]
      have h1 := hv W hC
      unfold Oper.quietAt at h1
      unfold gives
      generalize (execOp (fr (fun q => decide (q < i)) vs l 0 a0).eval o).run P W = r at *
      cases r with
      | ok nx w' =>
        cases nx <;> simp only [Oper.quietUpon] at h1 ⊢
        case value u => obtain ⟨e1,e2⟩ := h1; rw [e1,e2]; exact ⟨rfl,hC,fun _ _ _ h => h⟩
        case skip => obtain ⟨e1,e2⟩ := h1; rw [e1]; exact ⟨e2.symm,hC,fun _ _ _ h => h⟩
        case enter f args =>
          obtain ⟨e1,hc⟩ := h1
          rw [e1]
          exact hc.mono fun e w'' ⟨he,hw''⟩ => ⟨_,he,rfl,hw'',fun _ _ _ h => h⟩
      | halt x w' => simp only [Oper.quietUpon] at h1
    · rw [if_neg (by rw [hw]; simp)]
      exact ⟨hv.symm,hC,fun _ _ _ h => h⟩) (fun vs' W hC hT => by
    have hRR := hR W hC
    rw [fr_congr' (L' := fun _ => true) l 0 a0 fun q _ hq => decide_eq_true (by omega)] at hRR
    have hv : ∀ (l' : List Oper) (k : Nat) (a : Act),k + l'.length ≤ l.length → fr (fun _ => true) vs l' k a = fr (fun _ => true) vs' l' k a := by
      intro l'
      induction l' with
      | nil => intro _ _ _; rfl
      | cons o l' ih =>
        intro k a hk
        simp only [List.length_cons] at hk
        simp only [fr,if_true]
        rw [hT k (by omega)]
        exact ih (k + 1) _ (by omega)
    rw [hv l 0 a0 (by omega)] at hRR
    exact hRR) l.length (Array.replicate l.length false) (fun _ => undef) { w0 with drawn := w0.drawn + 1 } (by simp)
    (fun i _ h => by rw [hrep i] at h; cases h) ⟨⟨w0.drew,(Below.refl _ w0).drew⟩,rfl⟩ (by
      have := List.countP_le_length (p := fun i => !(Array.replicate l.length false).getD i false) (l := List.range l.length)
      simpa using this)
  rw [← hfr2] at hmain
  simpa using hmain
end
end Go.Bx
/- slices.Backward over ints, where two blocks are written while it walks. -/
namespace Go.Proofs.YtaoamkbcegadcaaGreatDoor
open Go.RowKit Go.Bx Go.Od Go.Hp Go.Shelf
set_option linter.unusedVariables false

def KpO (bm O X : Nat) (W W' : World) : Prop := W.heap.size ≤ W'.heap.size ∧ ∀ b,b < bm → b ≠ O → b ≠ X → W'.heap[b]? = W.heap[b]?
theorem KpO.refl (bm O X : Nat) (W : World) : KpO bm O X W W := ⟨Nat.le_refl _,fun _ _ _ _ => rfl⟩
theorem KpO.trans {bm O X : Nat} {A B C : World} (h : KpO bm O X A B) (k : KpO bm O X B C) : KpO bm O X A C := ⟨Nat.le_trans h.1 k.1,fun b h1 h2 h3 => (k.2 b h1 h2 h3).trans (h.2 b h1 h2 h3)⟩
theorem heap_at {W W' : World} {b : Nat} (h : W'.heap[b]? = W.heap[b]?) {o : Nat} {v : Value} (hv : W.cell? ⟨b,o,none⟩ = some v) : W'.cell? ⟨b,o,none⟩ = some v := by
  simpa [World.cell?,h] using hv
theorem KpO.below {bm O X : Nat} {W W' : World} (hb : Below W.heap.size W W') (hbm : bm ≤ W.heap.size) : KpO bm O X W W' := ⟨hb.size,fun b h1 _ _ => hb.block b (by omega)⟩
theorem KpO.setO {bm O X : Nat} {W : World} {p : Addr} (hp : p.block = O ∨ p.block = X) (v : Value) : KpO bm O X W (W.setCell p v) :=
  ⟨by rw [size_set]; exact Nat.le_refl _,fun b _ h2 h3 => Below.heap_setCell _ _ _ _ (by rcases hp with h | h <;> (rw [h]; assumption))⟩
abbrev BkE (n : Nat) := Nat × { k : Nat // k < n }
def bkUp {n : Nat} (f : Nat → BkE n) (k : Nat) : List (BkE n) := (List.range k).map f
theorem bkUp_succ {n : Nat} (f : Nat → BkE n) (k : Nat) : bkUp f (k + 1) = bkUp f k ++ [f k] := by simp [bkUp,List.range_succ]
theorem bkUp_len {n : Nat} (f : Nat → BkE n) (k : Nat) : (bkUp f k).length = k := by simp [bkUp]
section
attribute [local go_sem] Oper.semAt_some
set_option maxRecDepth 100000 in
set_option maxHeartbeats 2000000 in
theorem back1_in {nn : Nat} (F : Fence) (n : Nat) (h8 : F.fn 70) (hro : F.round = none) (hn : 1 ≤ n) (l Bs bm O X b off len cap : Nat) (zs : Nat → BkE nn) (hlen : len ≤ 1000000) (hb : b < bm) (hb1 : b ≠ O) (hb2 : b ≠ X) (hs : Bs < bm) (hs1 : Bs ≠ O) (hs2 : Bs ≠ X) (J Jx : List (BkE nn) → World → Prop)
    (hY : ∀ pre x W,J pre W → pre.length < len → YieldAt F (n - 1) Tryz.prog l #[.int .i64 (x.1 : Int),.int .i64 (x.2.1 : Int)] W fun e W' =>
      (e = .returned (.bool true) ∧ J (pre ++ [x]) W' ∧ KpO bm O X W W') ∨ (e = .returned (.bool false) ∧ Jx (pre ++ [x]) W'))
    (W : World) (hBs : W.cell? ⟨Bs,0,none⟩ = some (.slice (some ⟨b,off,none⟩) len cap)) (hc : ∀ j,j < len → W.cell? ⟨b,off + j,none⟩ = some (.int .i64 ((zs j).2.1 : Int))) (h0 : J [] W) :
    CallsIn F n Tryz.prog 70 #[.func (.yield l) #[] #[],.pointer (some ⟨Bs,0,none⟩)] W fun e W' => (∃ v,e = .returned v) ∧
      ((∃ ys,ys = bkUp (fun j => (len - 1 - j,(zs (len - 1 - j)).2)) len ∧ J ys W') ∨ (∃ pre,True ∧ Jx pre W')) := by
  refine callsIn_of_wp Tryz.func70 rfl h8 ?_ hro
  simp only [Tryz.ntmps70,List.size_toArray,List.length_cons,List.length_nil,Nat.reduceAdd,Nat.reduceSub,Array.replicate_succ,Array.replicate_zero,List.push_toArray,List.append_toArray,List.nil_append,List.cons_append]
  gi_wp2
  gi_loopw [3] (fun i wr => ∃ (k : Nat) (z : Int),k ≤ len ∧ i = .int .i64 z ∧ z = (len : Int) - 1 - k ∧ J (bkUp (fun j => (len - 1 - j,(zs (len - 1 - j)).2)) k) wr ∧ KpO bm O X W wr)
    (fun i _ => (intOf i + 1).toNat)
  case atStart => exact ⟨0,_,Nat.zero_le _,rfl,by omega,h0,KpO.refl _ _ _ _⟩
  case round =>
    obtain ⟨k,z,hk,rfl,hz,hJs,hnx⟩ := hrel
    by_cases hlt : k < len
    · obtain ⟨p,hp⟩ : ∃ p : Nat,z = (p : Int) := ⟨len - 1 - k,by omega⟩
      have hpk : p = len - 1 - k := by omega
      have hpl : p < len := by omega
      subst hp
      have hcx : wr.cell? ⟨b,off + p,none⟩ = some (.int .i64 ((zs p).2.1 : Int)) := heap_at (hnx.2 b hb hb1 hb2) (hc p hpl)
      have hbx : wr.cell? ⟨Bs,0,none⟩ = some (.slice (some ⟨b,off,none⟩) len cap) := heap_at (hnx.2 Bs hs hs1 hs2) hBs
      obtain ⟨fn,tmps,assign,body,hy,hR⟩ := hY _ (p,(zs p).2) wr hJs (by rw [bkUp_len]; exact hlt)
      dsimp only at hy
      have hp0 : (0 : Int) ≤ (p : Int) := by omega
      have hp1 : (p : Int) < (len : Int) := by omega
      have HX : Hid (p = len - 1 - k ∧ KpO bm O X W wr) := ⟨hpk,hnx⟩
      have HZ : Hid ((p : Int) = (len : Int) - 1 - k) := hz
      clear hz hpk hnx
      gi_wp2
      refine hR.mono ?_
      rintro e W3 (⟨rfl,hJ3,hk3⟩ | ⟨rfl,hJx3⟩)
      · gi_wp2
        go_roundw
        case rel => exact ⟨k + 1,_,by omega,rfl,by have := HZ.out; simp at this ⊢; omega,by rw [bkUp_succ,← HX.out.1]; exact hJ3,HX.out.2.trans hk3⟩
        case measure => first | (simp [intOf]; done) | (simp [intOf]; omega)
      · gi_wp2
        refine bodyPost_ret (results_none rfl _ _ _) rfl ?_
        exact ⟨⟨_,rfl⟩,.inr ⟨_,trivial,hJx3⟩⟩
    · obtain rfl : k = len := by omega
      have e1 : z = -1 := by omega
      subst e1
      clear hz
      gi_wp2
      go_end0
      exact ⟨⟨_,rfl⟩,.inl ⟨_,rfl,hJs⟩⟩
set_option maxHeartbeats 1000000 in
theorem back_in (F : Fence) (n : Nat) (h5 : F.fn 48) (hro : F.round = none) (a : Option Addr) (len cap : Nat) (w : World) :
    CallsIn F n Tryz.prog 48 #[.slice a len cap] w fun e w' => e = .returned (.func (.func 70) #[] #[.pointer (some ⟨w.heap.size,0,none⟩)]) ∧ w' = w.alloc (.cells #[.slice a len cap] 35) := by
  refine callsIn_of_wp Tryz.func48 rfl h5 ?_ hro
  simp only [Tryz.ntmps48,List.size_toArray,List.length_cons,List.length_nil,Nat.reduceAdd,Nat.reduceSub,Array.replicate_succ,Array.replicate_zero,List.push_toArray,List.append_toArray,List.nil_append,List.cons_append]
  gi_wp2
  go_ret
  exact ⟨rfl,rfl⟩
theorem back_stops {nn : Nat} (F : Fence) (n : Nat) (h8 : F.fn 70) (hro : F.round = none) (hn : 1 ≤ n) (Bs bm O X b off len cap : Nat) (zs : Nat → BkE nn) (hlen : len ≤ 1000000) (hb : b < bm) (hb1 : b ≠ O) (hb2 : b ≠ X) (hs : Bs < bm) (hs1 : Bs ≠ O) (hs2 : Bs ≠ X) (w : World) (hbm : bm ≤ w.heap.size)
    (hc : w.cell? ⟨Bs,0,none⟩ = some (.slice (some ⟨b,off,none⟩) len cap)) (hI : ∀ j,j < len → w.cell? ⟨b,off + j,none⟩ = some (.int .i64 ((zs j).2.1 : Int))) :
    SeqStopsK F n Tryz.prog 70 #[.pointer (some ⟨Bs,0,none⟩)] (fun x : BkE nn => #[Value.int .i64 (x.1 : Int),Value.int .i64 (x.2.1 : Int)]) (KpO bm O X) (fun ys => ys = bkUp (fun j => (len - 1 - j,(zs (len - 1 - j)).2)) len) (fun _ => True) len w := fun l J Jx W hW _ _ hY h0 =>
  back1_in F n h8 hro hn l Bs bm O X b off len cap zs hlen hb hb1 hb2 hs hs1 hs2 J Jx hY W ((hW.cell (p := ⟨Bs,0,none⟩) (Nat.lt_of_lt_of_le hs hbm)).trans hc) (fun j hj => (hW.cell (p := ⟨b,off + j,none⟩) (Nat.lt_of_lt_of_le hb hbm)).trans (hI j hj)) h0
end
end Go.Proofs.YtaoamkbcegadcaaGreatDoor
/- Layer 14: need.All. -/
namespace Go.Proofs.YtaoamkbcegadcaaGreatDoor
open Go.RowKit Go.Bx Go.Od Go.Hp Go.Shelf
set_option linter.unusedVariables false

def noDef (l : List Oper) : Bool := l.all fun o => match o.op with | .defer _ => false | _ => true
theorem nd_of {l : List Oper} (h : noDef l = true) : ∀ (j : Nat) (o : Oper) c,l[j]? = some o → o.op ≠ .defer c := fun j o c hj e => by
  have := List.all_eq_true.1 h o (List.mem_of_getElem? hj)
  rw [e] at this
  cases this
def updN (st : (Nat → Rc) × Rc) (x : Int) (r : Rc) : (Nat → Rc) × Rc := if x = -1 then (st.1,joinR st.2 r) else (fun k => if k = x.toNat then joinR (st.1 k) r else st.1 k,st.2)
def stepN (nds : List Nd) (st : (Nat → Rc) × Rc) (k : Nat) : (Nat → Rc) × Rc := ((nds.getD k Nd.none).ins).foldl (fun s x => updN s x (ofR (nds.getD k Nd.none) (st.1 k))) st
def startN (want : Rc) (out : Int) : (Nat → Rc) × Rc := (fun k => if (k : Int) = out then joinR want Rc.zero else Rc.zero,Rc.zero)
def foldN {n : Nat} (nds : List Nd) (want : Rc) (out : Int) (pre : List (BkE n)) : (Nat → Rc) × Rc := pre.foldl (fun st x => stepN nds st x.2.1) (startN want out)
def rl (n : Nat) (f : Nat → Rc) : List Rc := (List.range n).map f
theorem rl_get {n k : Nat} (f : Nat → Rc) (h : k < n) : (rl n f)[k]? = some (f k) := by simp [rl,h]
def NaPost (w : World) (n : Nat) (st : (Nat → Rc) × Rc) (e : Ending) (w' : World) : Prop := ∃ O,w.heap.size ≤ O ∧ e = .returned (.tuple #[.slice (some ⟨O,0,none⟩) n n,rv st.2]) ∧ Box w' O (rcs (rl n st.1)) ∧ Below w.heap.size w w'
structure NA (w : World) (nv : Value) (out n : Nat) (want : Rc) (f : Nat → Rc) (s : Rc) (W : World) : Prop where
  gb : Box W w.heap.size [nv,.int .i64 out]
  wb : Box W (w.heap.size + 1) (cl4 want)
  rb : Box W (w.heap.size + 1 + 1) (cl4 ⟨0,0,0,0⟩)
  ob : Box W (w.heap.size + 1 + 1 + 1) (rcs (rl n f))
  vb : Box W (w.heap.size + 1 + 1 + 1 + 1) [.slice (some ⟨w.heap.size + 1 + 1 + 1,0,none⟩) n n]
  sb : Box W (w.heap.size + 1 + 1 + 1 + 1 + 1) (cl4 s)
  below : Below w.heap.size w W
variable {w W W' : World} {nv : Value} {out n : Nat} {want s : Rc} {f : Nat → Rc}
theorem NA.call (h : NA w nv out n want f s W) (hb : Below W.heap.size W W') : NA w nv out n want f s W' :=
  ⟨h.gb.call hb,h.wb.call hb,h.rb.call hb,h.ob.call hb,h.vb.call hb,h.sb.call hb,h.below.trans (hb.mono h.below.size)⟩
theorem rl_set (n k : Nat) (f : Nat → Rc) (r : Rc) : (rl n f).set k r = rl n fun j => if j = k then r else f j := by
  apply List.ext_getElem?
  intro j
  by_cases hj : j < n
  · by_cases e : j = k
    · subst e
      rw [List.getElem?_set_self (by simp [rl]; exact hj)]
      simp [rl,hj]
    · rw [List.getElem?_set_ne (fun h => e h.symm)]
      simp [rl,hj,e]
  · rw [List.getElem?_eq_none (by simp [rl]; omega),List.getElem?_eq_none (by simp [rl]; omega)]
theorem NA.setO (h : NA w nv out n want f s W) (k : Nat) (r : Rc) : NA w nv out n want (fun j => if j = k then r else f j) s ((((W.setCell ⟨w.heap.size + 1 + 1 + 1,k * 4,none⟩ (.int .i64 r.x0)).setCell ⟨w.heap.size + 1 + 1 + 1,k * 4 + 1,none⟩ (.int .i64 r.y0)).setCell ⟨w.heap.size + 1 + 1 + 1,k * 4 + 2,none⟩ (.int .i64 r.x1)).setCell ⟨w.heap.size + 1 + 1 + 1,k * 4 + 3,none⟩ (.int .i64 r.y1)) := by
  have ss : ∀ {q : Nat} {cs : List Value},Box W q cs → q ≠ w.heap.size + 1 + 1 + 1 → Box ((((W.setCell ⟨w.heap.size + 1 + 1 + 1,k * 4,none⟩ (.int .i64 r.x0)).setCell ⟨w.heap.size + 1 + 1 + 1,k * 4 + 1,none⟩ (.int .i64 r.y0)).setCell ⟨w.heap.size + 1 + 1 + 1,k * 4 + 2,none⟩ (.int .i64 r.x1)).setCell ⟨w.heap.size + 1 + 1 + 1,k * 4 + 3,none⟩ (.int .i64 r.y1)) q cs := fun hb hq => (((hb.set hq _).set hq _).set hq _).set hq _
  refine ⟨ss h.gb (by omega),ss h.wb (by omega),ss h.rb (by omega),?_,ss h.vb (by omega),ss h.sb (by omega),(((h.below.setCell (by simp; omega) _).setCell (by simp; omega) _).setCell (by simp; omega) _).setCell (by simp; omega) _⟩
  rw [← rl_set]
  exact rbox_set h.ob k r
theorem NA.setX (h : NA w nv out n want f s W) (r : Rc) : NA w nv out n want f r ((((W.setCell ⟨w.heap.size + 1 + 1 + 1 + 1 + 1,0,none⟩ (.int .i64 r.x0)).setCell ⟨w.heap.size + 1 + 1 + 1 + 1 + 1,1,none⟩ (.int .i64 r.y0)).setCell ⟨w.heap.size + 1 + 1 + 1 + 1 + 1,2,none⟩ (.int .i64 r.x1)).setCell ⟨w.heap.size + 1 + 1 + 1 + 1 + 1,3,none⟩ (.int .i64 r.y1)) := by
  have ss : ∀ {q : Nat} {cs : List Value},Box W q cs → q ≠ w.heap.size + 1 + 1 + 1 + 1 + 1 → Box ((((W.setCell ⟨w.heap.size + 1 + 1 + 1 + 1 + 1,0,none⟩ (.int .i64 r.x0)).setCell ⟨w.heap.size + 1 + 1 + 1 + 1 + 1,1,none⟩ (.int .i64 r.y0)).setCell ⟨w.heap.size + 1 + 1 + 1 + 1 + 1,2,none⟩ (.int .i64 r.x1)).setCell ⟨w.heap.size + 1 + 1 + 1 + 1 + 1,3,none⟩ (.int .i64 r.y1)) q cs := fun hb hq => (((hb.set hq _).set hq _).set hq _).set hq _
  exact ⟨ss h.gb (by omega),ss h.wb (by omega),ss h.rb (by omega),ss h.ob (by omega),ss h.vb (by omega),set4_box h.sb _ _ _ _,(((h.below.setCell (by simp; omega) _).setCell (by simp; omega) _).setCell (by simp; omega) _).setCell (by simp; omega) _⟩
theorem NA.grown {row : Option Nat} (h : NA w nv out n want f s W) (hg : W.grownBy W' row) (hr : ∀ k,row = some k → w.heap.size + 6 ≤ k) : NA w nv out n want f s W' := by
  have hne : ∀ k,k < w.heap.size + 6 → row ≠ some k := fun k hk e => by have := hr k e; omega
  exact ⟨h.gb.grown' hg (hne _ (by omega)),h.wb.grown' hg (hne _ (by omega)),h.rb.grown' hg (hne _ (by omega)),h.ob.grown' hg (hne _ (by omega)),h.vb.grown' hg (hne _ (by omega)),h.sb.grown' hg (hne _ (by omega)),h.below.grown hg h.below.size (fun k e => by have := hr k e; omega)⟩
theorem KpO.mono {bm bm' O X : Nat} {W W' : World} (h : KpO bm O X W W') (hb : bm' ≤ bm) : KpO bm' O X W W' := ⟨h.1,fun b h1 h2 h3 => h.2 b (by omega) h2 h3⟩
theorem KpO.keeps {B O X : Nat} {W W' : World} (h : KpO W.heap.size O X W W') (hO : O < B) (hX : X < B) : KeepsFrom B W W' :=
  ⟨h.1,fun k o hB hk _ => by
    rw [h.2 k (Array.getElem?_eq_some_iff.1 hk).1 (by omega) (by omega)]
    exact hk⟩
theorem KpO.sl {B O X : Nat} {W W' : World} {v : Value} {xs : List Int} (h : KpO W.heap.size O X W W') (hO : B ≤ O) (hX : B ≤ X) (hB : B ≤ W.heap.size) (hs : SlOf RInt 1 (· < B) W v xs) : SlOf RInt 1 (· < B) W' v xs :=
  SlOf.same RInt.ok (fun b hb => by have hb : b < B := hb; exact h.2 b (by omega) (by omega) (by omega)) hs
theorem KpO.then {O X : Nat} {W W1 W2 : World} (h : KpO W.heap.size O X W W1) (hb : Below W1.heap.size W1 W2) : KpO W.heap.size O X W W2 := h.trans (KpO.below hb h.1)
theorem KpO.own {bm O X B : Nat} {w0 : World} (hO : bm ≤ B) (hb : bm ≤ w0.heap.size) {W W' : World} {row : Option Nat} (h : KpO bm O X w0 W) (hg : W.grownBy W' row) (hr : ∀ k,row = some k → B ≤ k) : KpO bm O X w0 W' :=
  h.trans ⟨hg.size,fun b h1 _ _ => hg.block b (by have := h.1; omega) fun e => by have := hr b e.symm; omega⟩
theorem fold_snoc {n : Nat} (nds : List Nd) (out : Int) (want : Rc) (pre : List (BkE n)) (x : BkE n) : foldN nds want out (pre ++ [x]) = stepN nds (foldN nds want out pre) x.2.1 := by simp [foldN]
theorem fold_all {n : Nat} {all : List Nat} (nds : List Nd) (want : Rc) (out : Int) (f : Nat → BkE n) (h : ∀ j,j < all.length → (f j).2.1 = all.getD (all.length - 1 - j) 0) : foldN nds want out (bkUp f all.length) = all.reverse.foldl (stepN nds) (startN want out) := by
  have e : (bkUp f all.length).map (fun x => x.2.1) = all.reverse := by
    apply List.ext_getElem
    · simp [bkUp]
    · intro i h1 h2
      have hi : i < all.length := by simpa using h2
      have := h i hi
      simp [bkUp] at this ⊢
      rw [this]
      simp [show all.length - 1 - i < all.length by omega]
  rw [← e,List.foldl_map]
  rfl
def AlPost (w : World) (l : List Nat) (e : Ending) (w' : World) : Prop := ∃ ab ac,e = .returned (.slice (some ⟨ab,0,none⟩) l.length ac) ∧ w.heap.size ≤ ab ∧ ab < w'.heap.size ∧ l.length ≤ ac ∧ ac ≤ maxLen ∧ (∀ j,j < l.length → w'.cell? ⟨ab,j,none⟩ = some (.int .i64 (l.getD j 0 : Nat))) ∧ Below w.heap.size w w'
theorem InPost.al {w w' : World} {l : List Nat} {e : Ending} (h : InPost w l e w') (hne : 0 < l.length) : AlPost w l e w' := by
  obtain ⟨a,c,rfl,ho,hb⟩ := h
  rcases ho.form with ⟨_,h⟩ | ⟨g,cap,h1,h0,h2,h3,h4,_,_,h5⟩
  · have : l.length = 0 := by rw [← ofN_len,h]; rfl
    omega
  · rw [ofN_len] at h1 h3 h5
    rw [h1]
    refine ⟨g,cap,rfl,h0,h2,h3,h4,fun j hj => ?_,hb⟩
    rw [h5 j hj]
    simp [ofN,hj]
theorem results_tmp_cell {P : Program} {fn : Func} {u p : Tmp} {ty : TypeId} (h : fn.results = #[.tmp u,.cell p ty]) (tmps : Array Value) (w : World) (g : Nat) (t : TypeId) (cs : Array Value) (fr : Nat × Nat) (d : TypeDesc)
    (hp : tmps.getD p undef = .pointer (some ⟨g,0,none⟩)) (hg : w.heap[g]? = some (.cells cs t fr))
    (hu : P.underlying ty = some d) (hd : (match d with | .struct _ | .array _ _ => true | _ => false) = true) (hi : (P.info? ty).map (·.size) = some cs.size) :
    (results fn tmps).run P w = .ok (.tuple #[tmps.getD u undef,.agg cs]) w := by
  have hp' : tmps[p]?.getD undef = .pointer (some ⟨g,0,none⟩) := by simpa using hp
  simp [results,h,hp',asAddr,run_loadVar_row w g t ty cs fr d hg hu hd hi]
theorem wp_region_each_in {id : Nat} {P : Program} {Q : Exit → Act → World → Prop} {a0 : Act} {w0 : World} {l : List Oper} {F : Fence} {N : Nat} (hfn : ∀ f,F.fn f) (hc : ∀ {f : FuncId} {args : Array Value} {w : World} {R : Ending → World → Prop},Calls P f args w R → CallsIn F (N - 1) P f args w R) (hdp : F.depth.isSome = true → 1 ≤ N) (hnd : ∀ (j : Nat) (o : Oper) c,l[j]? = some o → o.op ≠ .defer c) (I : World → Prop) (T : Nat → Value → World → Prop) (hm : P.follows .mixedOrders = true) (hB : eachB l = true) (hI : I w0.drew)
    (hop : ∀ i,i < l.length → OpIs P l a0 I T i)
    (hend : ∀ vs w,I w → (∀ i,i < l.length → T i (vs i) w) → Shut (Q .normal (fr (fun _ => true) vs l 0 a0) w)) :
    (Code.region id l.toArray true).wpIn F N P Q a0 w0 := by
  obtain ⟨h1,h2,h3⟩ := eachB_parts hB
  refine wpIn_region_any hm ?_
  have hrep : ∀ j,(Array.replicate l.length false).getD j false = false := fun k => by
    rcases Nat.lt_or_ge k l.length with h | h
    · simp [h]
    · simp [Array.getElem?_eq_none (xs := Array.replicate l.length false) (i := k) (by simpa using h)]
  have hfr : ∀ (l' : List Oper) (k : Nat) (a : Act),a = fr (fun j => (Array.replicate l.length false).getD j false) (fun _ => undef) l' k a := by
    intro l'
    induction l' with
    | nil => intro _ _; rfl
    | cons o l' ih =>
      intro k a
      simp only [fr,hrep k,Bool.false_eq_true,if_false]
      exact ih (k + 1) a
  have hmain := each_any_in (P := P) (Q := Q) (a0 := a0) (F := F) (N := N) hfn hc hdp hnd I T h1 h2 h3 hop (fun vs w h1 h2 => (hend vs w h1 h2).out) l.length (Array.replicate l.length false) (fun _ => undef) { w0 with drawn := w0.drawn + 1 } (by simp)
    (fun i _ h => by rw [hrep i] at h; cases h) hI (by
      have := List.countP_le_length (p := fun i => !(Array.replicate l.length false).getD i false) (l := List.range l.length)
      simpa using this)
  rw [← hfr l 0 a0] at hmain
  simpa using hmain
def NT (nodev : Value) (O n k : Nat) (rk : Rc) (z m : Nat) (rr : Rc) (i : Nat) (v : Value) (W : World) : Prop := match i with
  | 0 => v = nodev
  | 1 => v = .slice (some ⟨O,0,none⟩) n n
  | 2 => v = .int .i64 k
  | 3 => v = .pointer (some ⟨O,k * 4,none⟩)
  | 4 => v = rv rk
  | 5 => ∃ P,z ≤ P ∧ v = .slice (some ⟨P,0,none⟩) m m ∧ Box W P (rcs (List.replicate m rr))
  | 6 => v = .int .i64 m
  | 7 => v = .int .i64 0
  | _ => True
theorem NT.below {nodev : Value} {O n k : Nat} {rk : Rc} {z m : Nat} {rr : Rc} {i : Nat} {v : Value} {W W' : World} (h : NT nodev O n k rk z m rr i v W) (hb : Below W.heap.size W W') : NT nodev O n k rk z m rr i v W' := by
  match i,h with
  | 0,h => exact h
  | 1,h => exact h
  | 2,h => exact h
  | 3,h => exact h
  | 4,h => exact h
  | 5,⟨P,h0,h1,h2⟩ => exact ⟨P,h0,h1,h2.call hb⟩
  | 6,h => exact h
  | 7,h => exact h
  | _ + 8,_ => trivial
def CvN (st : (Nat → Rc) × Rc) : Prop := (∀ k,RcP (st.1 k)) ∧ RcP st.2
theorem CvN.upd {st : (Nat → Rc) × Rc} (h : CvN st) (x : Int) {r : Rc} (hr : RcP r) : CvN (updN st x r) := by
  unfold updN
  split
  · exact ⟨h.1,joinR_pl h.2 hr⟩
  · refine ⟨fun k => ?_,h.2⟩
    dsimp only
    split
    · exact joinR_pl (h.1 k) hr
    · exact h.1 k
theorem CvN.updL {r : Rc} (hr : RcP r) : ∀ (xs : List Int) {st : (Nat → Rc) × Rc},CvN st → CvN (xs.foldl (fun s x => updN s x r) st)
  | [],_,h => h
  | x :: xs,_,h => CvN.updL hr xs (h.upd x hr)
theorem ofR_pl {nd : Nd} {r : Rc} (h : PaOk nd) (hr : RcP r) : RcP (ofR nd r) := by
  unfold ofR
  split
  · exact zero_pl
  · exact oneN_pl h hr
theorem CvN.step {nds : List Nd} {st : (Nat → Rc) × Rc} (h : CvN st) {k : Nat} (hk : PaOk (nds.getD k Nd.none)) : CvN (stepN nds st k) := CvN.updL (ofR_pl hk (h.1 k)) _ h
theorem CvN.start {want : Rc} (h : RcP want) (out : Int) : CvN (startN want out) := by
  refine ⟨fun k => ?_,zero_pl⟩
  unfold startN
  dsimp only
  split
  · exact joinR_pl h zero_pl
  · exact zero_pl
theorem CvN.fold {n : Nat} {nds : List Nd} {want : Rc} (hn : n = nds.length) (h : RcP want) (out : Int) (hok : ∀ i,i < nds.length → PaOk (nds.getD i Nd.none)) (pre : List (BkE n)) : CvN (foldN nds want out pre) := by
  unfold foldN
  have : ∀ (l : List (BkE n)) {st : (Nat → Rc) × Rc},CvN st → CvN (l.foldl (fun st x => stepN nds st x.2.1) st) := by
    intro l
    induction l with
    | nil => intro st h; exact h
    | cons x l ih => intro st h; exact ih (h.step (hok _ (by have := x.2.2; omega)))
  exact this pre (CvN.start h out)
def LS (w W : World) (nv : Value) (out n : Nat) (want : Rc) (st : (Nat → Rc) × Rc) (ndc : List Value) (P m : Nat) (rr : Rc) (wr : World) : Prop :=
  NA w nv out n want st.1 st.2 wr ∧ KpO W.heap.size (w.heap.size + 1 + 1 + 1) (w.heap.size + 1 + 1 + 1 + 1 + 1) W wr ∧ Box wr W.heap.size ndc ∧ Box wr P (rcs (List.replicate m rr))
theorem LS.call {w W : World} {nv : Value} {out n : Nat} {want : Rc} {st : (Nat → Rc) × Rc} {ndc : List Value} {P m : Nat} {rr : Rc} {wr w' : World} (h : LS w W nv out n want st ndc P m rr wr) (hb : Below wr.heap.size wr w') : LS w W nv out n want st ndc P m rr w' :=
  ⟨h.1.call hb,h.2.1.then hb,h.2.2.1.call hb,h.2.2.2.call hb⟩
def updL (st : (Nat → Rc) × Rc) (xs : List Int) (r : Rc) : (Nat → Rc) × Rc := xs.foldl (fun s x => updN s x r) st
theorem updL_take (st : (Nat → Rc) × Rc) (xs : List Int) (r : Rc) {j : Nat} (hj : j < xs.length) : updL st (xs.take (j + 1)) r = updN (updL st (xs.take j) r) (xs.getD j 0) r := by
  unfold updL
  rw [List.take_add_one,List.getElem?_eq_getElem hj,Option.toList_some,List.foldl_append]
  simp [hj]
def setR (W : World) (b c : Nat) (r : Rc) : World := (((W.setCell ⟨b,c,none⟩ (.int .i64 r.x0)).setCell ⟨b,c + 1,none⟩ (.int .i64 r.y0)).setCell ⟨b,c + 2,none⟩ (.int .i64 r.x1)).setCell ⟨b,c + 3,none⟩ (.int .i64 r.y1)
theorem bsetR {W : World} {q : Nat} {cs : List Value} (h : Box W q cs) {b : Nat} (hq : q ≠ b) (c : Nat) (r : Rc) : Box (setR W b c r) q cs := (((h.set hq _).set hq _).set hq _).set hq _
theorem KpO.setR {bm O X : Nat} {W : World} {b : Nat} (hp : b = O ∨ b = X) (c : Nat) (r : Rc) : KpO bm O X W (setR W b c r) :=
  (((KpO.setO hp _).trans (KpO.setO hp _)).trans (KpO.setO hp _)).trans (KpO.setO hp _)
theorem LS.setX {w W : World} {nv : Value} {out n : Nat} {want : Rc} {f : Nat → Rc} {s : Rc} {ndc : List Value} {P m : Nat} {rr : Rc} {wr : World} (h : LS w W nv out n want (f,s) ndc P m rr wr) (hW : w.heap.size + 6 ≤ W.heap.size) (hP : W.heap.size < P) (r : Rc) : LS w W nv out n want (f,r) ndc P m rr (setR wr (w.heap.size + 1 + 1 + 1 + 1 + 1) 0 r) :=
  ⟨h.1.setX r,h.2.1.trans (KpO.setR (.inr rfl) 0 r),bsetR h.2.2.1 (by omega) 0 r,bsetR h.2.2.2 (by omega) 0 r⟩
theorem LS.setO {w W : World} {nv : Value} {out n : Nat} {want : Rc} {f : Nat → Rc} {s : Rc} {ndc : List Value} {P m : Nat} {rr : Rc} {wr : World} (h : LS w W nv out n want (f,s) ndc P m rr wr) (hW : w.heap.size + 6 ≤ W.heap.size) (hP : W.heap.size < P) (k : Nat) (r : Rc) : LS w W nv out n want (fun j => if j = k then r else f j,s) ndc P m rr (setR wr (w.heap.size + 1 + 1 + 1) (k * 4) r) :=
  ⟨h.1.setO k r,h.2.1.trans (KpO.setR (.inl rfl) (k * 4) r),bsetR h.2.2.1 (by omega) (k * 4) r,bsetR h.2.2.2 (by omega) (k * 4) r⟩
theorem make_sized {P : Program} (w : World) (base : Nat) (t e : TypeId) (i : TypeInfo) (z : Value) (size : Nat) (ht : P.underlying t = some (.slice e)) (hi : P.info? e = some i) (hz : i.zero = some z) (hsize : i.size = size)
    (kl kc : IntKind) (n : Nat) (hbytes : i.bytes * n ≤ 281474976710656) (h63 : n ≤ maxLen) (hbase : base ≤ w.heap.size) :
    ∃ w',(Instr.makeSlice t (.int kl (n : Int)) (.int kc (n : Int))).run P w = .ok (.slice (some ⟨w.heap.size,0,none⟩) n n) w' ∧
      w'.ownsRow base e size (.slice (some ⟨w.heap.size,0,none⟩) n n) n (madeCells z.cells (n * size)).toList ∧ w.grownBy w' none ∧ w'.heap.size = w.heap.size + 1 := by
  subst hsize
  have h63' : (n : Int) ≤ 9223372036854775807 := by
    have h := h63
    simp [maxLen] at h
    omega
  have hb' : (i.bytes : Int) * (n : Int) ≤ 281474976710656 := by
    have h : ((i.bytes * n : Nat) : Int) ≤ 281474976710656 := by omega
    rwa [Int.natCast_mul] at h
  have hr := run_make (P := P) w t e i z ht hi hz kl kc n n (by omega) (Int.le_refl _) hb' h63'
  simp only [Int.toNat_natCast] at hr
  exact ⟨_,hr,World.ownsRow_lit w _ n hbase h63 (size_madeCells _ _),World.grownBy_alloc w _ none,by simp⟩
section
attribute [local go_sem] Oper.semAt_some
set_option maxRecDepth 100000 in
set_option maxHeartbeats 4000000 in
theorem needall_in (F : Fence) (N : Nat) (hfn : ∀ f,F.fn f) (hro : F.round = none) (hN : 6 ≤ N) (hcw : ∀ {m : Nat} {P : Program} {f : FuncId} {args : Array Value} {w : World} {R : Ending → World → Prop},Calls P f args w R → CallsIn F m P f args w R)
    (B : Nat) (nv : Value) (nds : List Nd) (out : Nat) (want : Rc) (w : World) (hm : nds.length ≤ 900) (hl : ∀ i,i < nds.length → (nds.getD i Nd.none).ins.length ≤ 1000) (hg : Gr B w nv nds) (hB : B ≤ w.heap.size) (hout : out < nds.length) (hw : RcP want) (hne : 0 < (ord (insOf nds)).length)
    (hok : ∀ i,i < nds.length → PaOk (nds.getD i Nd.none)) (hin : ∀ i,i < nds.length → ∀ x ∈ (nds.getD i Nd.none).ins,-1 ≤ x ∧ x < nds.length) :
    CallsIn F N Tryz.prog 26 #[.agg #[nv,.int .i64 out],rv want] w (NaPost w nds.length ((ord (insOf nds)).reverse.foldl (stepN nds) (startN want out))) := by
  have h1N : 1 ≤ N := by omega
  obtain ⟨ga,gc,rfl⟩ := hg.isSl
  have hgl := hg.len_le
  obtain ⟨iR,hiR,hz0,hz1,hz2⟩ := info_parts infoRc
  obtain ⟨x0,y0,x1,y1⟩ := want
  have HG : Hid (Gr B w (.slice ga nds.length gc) nds ∧ (∀ i,i < nds.length → (nds.getD i Nd.none).ins.length ≤ 1000) ∧ RcP ⟨x0,y0,x1,y1⟩ ∧ (∀ i,i < nds.length → PaOk (nds.getD i Nd.none)) ∧ (∀ i,i < nds.length → ∀ x ∈ (nds.getD i Nd.none).ins,-1 ≤ x ∧ x < nds.length)) := ⟨hg,hl,hw,hok,hin⟩
  have ho0 : (0 : Int) ≤ (out : Int) := by omega
  have ho1 : (out : Int) < (nds.length : Int) := by omega
  clear hg hl hw hok hin
  refine callsIn_of_wp_marks Tryz.func26 rfl (hfn _) ?_ hro
  simp only [Tryz.ntmps26,List.size_toArray,List.length_cons,List.length_nil,Nat.reduceAdd,Nat.reduceSub,Array.replicate_succ,Array.replicate_zero,List.push_toArray,List.append_toArray,List.nil_append,List.cons_append]
  have hT : (((w.alloc (.cells #[.slice ga nds.length gc,.int .i64 out] 24)).alloc (.cells #[.int .i64 x0,.int .i64 y0,.int .i64 x1,.int .i64 y1] 26)).alloc (.cells #[.int .i64 0,.int .i64 0,.int .i64 0,.int .i64 0] 26)).heap.size = w.heap.size + 1 + 1 + 1 := by simp
  obtain ⟨Wm,hrun,hown,hgrw,hsz⟩ := make_sized (P := Tryz.prog) (((w.alloc (.cells #[.slice ga nds.length gc,.int .i64 out] 24)).alloc (.cells #[.int .i64 x0,.int .i64 y0,.int .i64 x1,.int .i64 y1] 26)).alloc (.cells #[.int .i64 0,.int .i64 0,.int .i64 0,.int .i64 0] 26)) 0 63 26 iR (.agg #[.int .i64 0,.int .i64 0,.int .i64 0,.int .i64 0]) 4 Tryz.underlying63 hiR hz0 hz1 .i64 .i64 nds.length (by rw [hz2]; omega) (by unfold maxLen; omega) (Nat.zero_le _)
  rw [hT] at hown hrun
  have hms : Wm.heap.size = w.heap.size + 1 + 1 + 1 + 1 := by rw [hsz,hT]
  have HNA : Hid (NA w (.slice ga nds.length gc) out nds.length ⟨x0,y0,x1,y1⟩ (fun _ => Rc.zero) Rc.zero ((Wm.alloc (.cells #[.slice (some ⟨w.heap.size + 1 + 1 + 1,0,none⟩) nds.length nds.length] 63)).alloc (.cells #[.int .i64 0,.int .i64 0,.int .i64 0,.int .i64 0] 26))) := by
    have X0 := Box.new w [.slice ga nds.length gc,.int .i64 out] 24
    have X1 := Box.new (w.alloc (.cells #[.slice ga nds.length gc,.int .i64 out] 24)) (cl4 ⟨x0,y0,x1,y1⟩) 26
    have X2 := Box.new ((w.alloc (.cells #[.slice ga nds.length gc,.int .i64 out] 24)).alloc (.cells (cl4 ⟨x0,y0,x1,y1⟩).toArray 26)) (cl4 ⟨0,0,0,0⟩) 26
    have X4 := Box.new Wm [.slice (some ⟨w.heap.size + 1 + 1 + 1,0,none⟩) nds.length nds.length] 63
    have X5 := Box.new (Wm.alloc (.cells #[.slice (some ⟨w.heap.size + 1 + 1 + 1,0,none⟩) nds.length nds.length] 63)) (cl4 ⟨0,0,0,0⟩) 26
    rw [size_alloc] at X1
    rw [size_alloc,size_alloc] at X2
    rw [hms] at X4
    rw [size_alloc,hms] at X5
    have XO : Box Wm (w.heap.size + 1 + 1 + 1) (rcs (rl nds.length fun _ => Rc.zero)) := by
      have := box_own4 hown
      rw [rcs_zero] at this
      have e : rl nds.length (fun _ => Rc.zero) = List.replicate nds.length Rc.zero := by unfold rl; rw [List.map_const',List.length_range]
      rw [e]
      exact this
    have hb2 : Below w.heap.size w Wm := (((below_new w _).alloc (by simp) _).alloc (by simp; omega) _).grown hgrw (by simp; omega) (fun k e => by cases e)
    exact ⟨((((X0.alloc _).alloc _).grown' hgrw (by simp)).alloc _).alloc _,(((X1.alloc _).grown' hgrw (by simp)).alloc _).alloc _,((X2.grown' hgrw (by simp)).alloc _).alloc _,(XO.alloc _).alloc _,X4.alloc _,X5,(hb2.alloc (by omega) _).alloc (by simp; omega) _⟩
  gi_wp2
  obtain ⟨W2,hW2⟩ : ∃ W,W = ((Wm.alloc (.cells #[.slice (some ⟨w.heap.size + 1 + 1 + 1,0,none⟩) nds.length nds.length] 63)).alloc (.cells #[.int .i64 0,.int .i64 0,.int .i64 0,.int .i64 0] 26)) := ⟨_,rfl⟩
  rw [← hW2] at HNA ⊢
  clear hW2 hrun hown hgrw hsz hms hT hiR hz0 hz1 hz2
  have HNB : Hid (Below W2.heap.size W2 W2) := Below.refl _ _
  obtain ⟨q,hq⟩ : ∃ q,q = joinR ⟨x0,y0,x1,y1⟩ Rc.zero := ⟨_,rfl⟩
  have HJ : Hid (∀ s : Kept W2.heap.size W2,Calls Tryz.prog 29 #[.agg #[.int .i64 x0,.int .i64 y0,.int .i64 x1,.int .i64 y1],.agg #[.int .i64 0,.int .i64 0,.int .i64 0,.int .i64 0]] s.w (PPost s.w (.agg #[.int .i64 q.x0,.int .i64 q.y0,.int .i64 q.x1,.int .i64 q.y1]))) := fun s => by
    rw [hq]
    exact join_c ⟨x0,y0,x1,y1⟩ Rc.zero s.w
  have k0 := fun s : Kept W2.heap.size W2 => s.at (HNA.out.gb.cell 0 rfl)
  have k1 := fun s : Kept W2.heap.size W2 => s.at (HNA.out.gb.cell 1 rfl)
  have k2 := fun s : Kept W2.heap.size W2 => s.at (HNA.out.wb.cell 0 rfl)
  have k3 := fun s : Kept W2.heap.size W2 => s.at (HNA.out.wb.cell 1 rfl)
  have k4 := fun s : Kept W2.heap.size W2 => s.at (HNA.out.wb.cell 2 rfl)
  have k5 := fun s : Kept W2.heap.size W2 => s.at (HNA.out.wb.cell 3 rfl)
  have k6 := fun s : Kept W2.heap.size W2 => s.at (HNA.out.vb.cell 0 rfl)
  have HQ : Hid (q = joinR ⟨x0,y0,x1,y1⟩ Rc.zero) := hq
  clear hq
  refine wp_region_kept_last_in hfn (fun h => hcw h) (fun _ => h1N) (nd_of (by kernel_rfl)) W2.heap.size 7 _ rfl rfl (by kernel_rfl) (by kernel_rfl) ?_
  simp only [List.take_succ_cons,List.take_zero]
  repeat (go_big_quiet_step (first | (go_at_call 29; with_reducible exact Calls.kept _ (Nat.le_refl _) (HJ.out _))))
  refine wpQuiet_nil ?_
  intro s
  have hz : (rl nds.length fun _ => Rc.zero)[out]? = some Rc.zero := rl_get _ hout
  have J5 := HNA.out.call s.below
  obtain ⟨r0,r1,r2,r3⟩ := rbox_get J5.ob hz
  have f0 := J5.ob.frozen (out * 4)
  have f1 := J5.ob.frozen (out * 4 + 1)
  have f2 := J5.ob.frozen (out * 4 + 2)
  have f3 := J5.ob.frozen (out * 4 + 3)
  have H5 : Hid (NA w (.slice ga nds.length gc) out nds.length ⟨x0,y0,x1,y1⟩ (startN ⟨x0,y0,x1,y1⟩ out).1 (startN ⟨x0,y0,x1,y1⟩ out).2 ((((s.w.setCell ⟨w.heap.size + 1 + 1 + 1,out * 4,none⟩ (.int .i64 q.x0)).setCell ⟨w.heap.size + 1 + 1 + 1,out * 4 + 1,none⟩ (.int .i64 q.y0)).setCell ⟨w.heap.size + 1 + 1 + 1,out * 4 + 2,none⟩ (.int .i64 q.x1)).setCell ⟨w.heap.size + 1 + 1 + 1,out * 4 + 3,none⟩ (.int .i64 q.y1))) := by
    have := J5.setO out q
    have e : (startN ⟨x0,y0,x1,y1⟩ out).1 = fun j => if j = out then q else Rc.zero := by
      funext k
      unfold startN
      by_cases h : k = out
      · subst h; simp [HQ.out]
      · have : ¬ (k : Int) = (out : Int) := by omega
        simp [h,this]
    rw [e]
    exact this
  clear J5 hz
  refine ⟨steps_plain rfl (gives_mono (R := fun v w' => v = undef ∧ w' = (((s.w.setCell ⟨w.heap.size + 1 + 1 + 1,out * 4,none⟩ (.int .i64 q.x0)).setCell ⟨w.heap.size + 1 + 1 + 1,out * 4 + 1,none⟩ (.int .i64 q.y0)).setCell ⟨w.heap.size + 1 + 1 + 1,out * 4 + 2,none⟩ (.int .i64 q.x1)).setCell ⟨w.heap.size + 1 + 1 + 1,out * 4 + 3,none⟩ (.int .i64 q.y1)) ?_ ?_)⟩
  · simp [gives,go_sem,r0,r1,r2,r3,f0,f1,f2,f3]
  rintro _ _ ⟨rfl,rfl⟩
  obtain ⟨W4,hW4⟩ : ∃ W,W = ((((s.w.setCell ⟨w.heap.size + 1 + 1 + 1,out * 4,none⟩ (.int .i64 q.x0)).setCell ⟨w.heap.size + 1 + 1 + 1,out * 4 + 1,none⟩ (.int .i64 q.y0)).setCell ⟨w.heap.size + 1 + 1 + 1,out * 4 + 2,none⟩ (.int .i64 q.x1)).setCell ⟨w.heap.size + 1 + 1 + 1,out * 4 + 3,none⟩ (.int .i64 q.y1)) := ⟨_,rfl⟩
  rw [← hW4] at H5 ⊢
  clear hW4 k0 k1 k2 k3 k4 k5 k6 r0 r1 r2 r3 f0 f1 f2 f3 HJ HNA HNB
  have HAL : Hid (∀ m,CallsIn F m Tryz.prog 46 #[.agg #[.slice ga nds.length gc,.int .i64 out]] W4 (AlPost W4 (ord (insOf nds)))) := fun m =>
    CallsIn.mono (R := InPost W4 (ord (insOf nds))) (hcw (all_c B _ nds out W4 (by omega) HG.out.2.1 (HG.out.1.below H5.out.below hB) (Nat.le_trans hB H5.out.below.size))) fun e w' h => h.al hne
  have m0 := H5.out.gb.cell 0 rfl
  have m1 := H5.out.gb.cell 1 rfl
  clear s
  rename_i hK4
  refine hK4 _ _ ?_
  gi_wp2_with (first
    | (gi_at_call 46; refine (HAL.out _).mono ?_; rintro e w3 ⟨ab,ac,rfl,hab0,hab1,hac,hacm,hacc,b3⟩)
    | (gi_at_call 48; refine (back_in F _ (hfn _) hro _ _ _ _).mono ?_; rintro e w' ⟨rfl,rfl⟩))
  -- THE LOOP
  obtain ⟨len,hlen⟩ : ∃ k,k = (ord (insOf nds)).length := ⟨_,rfl⟩
  rw [← hlen] at hac hacc ⊢
  obtain ⟨all,hall⟩ : ∃ l,l = ord (insOf nds) := ⟨_,rfl⟩
  have hlen1 : len ≤ 900 := by have := ord_len (insOf nds); rw [insOf_len] at this; omega
  have hbnd : ∀ k ∈ all,k < nds.length := fun k hk => by rw [hall] at hk; have := (ord_fine (insOf nds)).bound k hk; rwa [insOf_len] at this
  rw [← hall] at hlen hacc
  have J4 : NA w (.slice ga nds.length gc) out nds.length ⟨x0,y0,x1,y1⟩ (startN ⟨x0,y0,x1,y1⟩ out).1 (startN ⟨x0,y0,x1,y1⟩ out).2 (w3.alloc (.cells #[.slice (some ⟨ab,0,none⟩) len ac] 35)) := (H5.out.call b3).call (below_new _ _)
  have h34 : w.heap.size + 6 ≤ w3.heap.size := by have h1 := H5.out.sb.lt; have h2 := b3.size; omega
  have habw : w.heap.size + 6 ≤ ab := by have h1 := H5.out.sb.lt; omega
  obtain ⟨W0,hW0⟩ : ∃ W,W = (w3.alloc (.cells #[.slice (some ⟨ab,0,none⟩) len ac] 35)) := ⟨_,rfl⟩
  have hs0 : W0.heap.size = w3.heap.size + 1 := by rw [hW0,size_alloc]
  have eS : W0.cell? ⟨w3.heap.size,0,none⟩ = some (.slice (some ⟨ab,0,none⟩) len ac) := by rw [hW0]; exact (Box.new w3 [.slice (some ⟨ab,0,none⟩) len ac] 35).cell 0 rfl
  have hac0 : ∀ j,j < len → W0.cell? ⟨ab,j,none⟩ = some (.int .i64 (all.getD j 0 : Nat)) := fun j hj => by rw [hW0]; exact cell_alloc_lt (hacc j hj) _
  rw [← hW0] at J4 ⊢
  obtain ⟨zs,hzs⟩ : ∃ zs : Nat → BkE nds.length,∀ j,j < len → ((zs j).2.1 = all.getD j 0) := by
    refine ⟨fun j => if h : all.getD j 0 < nds.length then (0,⟨all.getD j 0,h⟩) else (0,⟨out,hout⟩),fun j hj => ?_⟩
    have hlt : all.getD j 0 < nds.length := hbnd _ (List.mem_of_getElem? (show all[j]? = some (all.getD j 0) by rw [hlen] at hj; simp [hj]))
    simp only [dif_pos hlt]
  have HS : Hid (w.heap.size + 6 ≤ w3.heap.size ∧ W0.heap.size = w3.heap.size + 1 ∧ len = all.length ∧ len ≤ 900 ∧ all = ord (insOf nds) ∧ ∀ j,j < len → ((zs j).2.1 = all.getD j 0)) := ⟨h34,hs0,hlen,hlen1,hall,hzs⟩
  clear hW0 hacc hbnd hall H5 HAL m0 m1 b3 hlen
  have H0 : Hid (NA w (.slice ga nds.length gc) out nds.length ⟨x0,y0,x1,y1⟩ (startN ⟨x0,y0,x1,y1⟩ out).1 (startN ⟨x0,y0,x1,y1⟩ out).2 W0) := J4
  refine wpIn_rangeFunc_ownG hro h1N (gf := 70) (lb := #[.pointer (some ⟨w3.heap.size,0,none⟩)]) rfl (hfn _) (enters_of Tryz.func70 (by kernel_rfl) rfl)
    (back_stops F (N - 1) (hfn _) hro (by omega) w3.heap.size W0.heap.size (w.heap.size + 1 + 1 + 1) (w.heap.size + 1 + 1 + 1 + 1 + 1) ab 0 len ac zs (by omega) (by omega) (by omega) (by omega) (by omega) (by omega) (by omega) W0 (Nat.le_refl _) eS (fun j hj => by rw [hzs j hj,Nat.zero_add]; exact hac0 j hj))
    (fun h k => h.trans k)
    (fun W l o o' hl ho hcell hwalk => ⟨by simp [World.putObj],fun b h1 _ _ => World.putObj_heap_other (by omega)⟩)
    (Below.refl _ _) (fun _ => rfl)
    (fun pre W => NA w (.slice ga nds.length gc) out nds.length ⟨x0,y0,x1,y1⟩ (foldN nds ⟨x0,y0,x1,y1⟩ out pre).1 (foldN nds ⟨x0,y0,x1,y1⟩ out pre).2 W ∧ KpO W0.heap.size (w.heap.size + 1 + 1 + 1) (w.heap.size + 1 + 1 + 1 + 1 + 1) W0 W)
    (fun _ _ _ => False)
    (fun s A B' row hs hg' hr => ⟨hs.1.grown hg' (fun k e => by have := (hr k e).1; omega),hs.2.own (Nat.le_refl _) (Nat.le_refl _) hg' (fun k e => (hr k e).1)⟩)
    (fun _ _ _ _ _ hs _ _ => hs)
    ⟨J4,KpO.refl _ _ _ _⟩
    (fun x => { tmps := #[.agg #[.slice ga nds.length gc,.int .i64 out],rv ⟨x0,y0,x1,y1⟩,.pointer (some ⟨w.heap.size,0,none⟩),.pointer (some ⟨w.heap.size + 1,0,none⟩),.slice none 0 0,.pointer (some ⟨w.heap.size + 1 + 1,0,none⟩),.pointer (some ⟨w.heap.size + 1 + 1 + 1 + 1,0,none⟩),.pointer (some ⟨w.heap.size + 1 + 1 + 1 + 1 + 1,0,none⟩),undef,.int .i64 (x.2.1 : Int),undef,undef,undef,undef,.pointer (some ⟨w.heap.size,0,none⟩),.slice ga nds.length gc,.int .i64 nds.length,.slice (some ⟨w.heap.size + 1 + 1 + 1,0,none⟩) nds.length nds.length,.agg #[.int .i64 0,.int .i64 0,.int .i64 0,.int .i64 0],.slice (some ⟨w.heap.size + 1 + 1 + 1,0,none⟩) nds.length nds.length,
      .pointer (some ⟨w.heap.size,1,none⟩),.int .i64 out,.agg #[.int .i64 x0,.int .i64 y0,.int .i64 x1,.int .i64 y1],.agg #[.int .i64 0,.int .i64 0,.int .i64 0,.int .i64 0],.agg #[.int .i64 q.x0,.int .i64 q.y0,.int .i64 q.x1,.int .i64 q.y1],.pointer (some ⟨w.heap.size + 1 + 1 + 1,out * 4,none⟩),.agg #[.slice ga nds.length gc,.int .i64 out],.slice (some ⟨ab,0,none⟩) len ac,.func (.func 70) #[] #[.pointer (some ⟨w3.heap.size,0,none⟩)],.int .i64 (x.1 : Int),.int .i64 (x.2.1 : Int),undef,undef,undef,undef,undef,undef,undef,undef,undef,undef,undef,undef,undef,undef,undef,undef,undef,undef,undef,undef,undef,undef,undef,undef,undef,undef,undef,undef,undef,undef,undef,undef,undef,undef,undef,undef,undef,undef,undef,undef],defers := [] }) ?assign ?body ?done ?stop
  case assign =>
    intro l x W K hK
    gi_wp2
    exact hK
  case body =>
    rintro l pre ⟨i,k,hk⟩ W ⟨hNA,hKp⟩ hlt
    have HM : Hid (foldN nds ⟨x0,y0,x1,y1⟩ out (pre ++ [(i,(⟨k,hk⟩ : { k : Nat // k < nds.length }))]) = stepN nds (foldN nds ⟨x0,y0,x1,y1⟩ out pre) k) := fold_snoc nds _ _ pre _
    obtain ⟨st,hst⟩ : ∃ st,st = foldN nds ⟨x0,y0,x1,y1⟩ out pre := ⟨_,rfl⟩
    rw [← hst] at hNA HM
    clear hlt H0 J4 eS hac0 hzs
    obtain ⟨f,s⟩ := st
    dsimp only at hNA
    have HNA : Hid (NA w (.slice ga nds.length gc) out nds.length ⟨x0,y0,x1,y1⟩ f s W ∧ KpO W0.heap.size (w.heap.size + 1 + 1 + 1) (w.heap.size + 1 + 1 + 1 + 1 + 1) W0 W) := ⟨hNA,hKp⟩
    have HG2 := HG.out.1.below hNA.below hB
    obtain ⟨b,o,cap,ia,ic,pa,pc,hv,hbB,hcap,hcm,n0,n1,n2,hsi,hsp⟩ := HG2.node hk
    simp only [Value.slice.injEq,true_and] at hv
    obtain ⟨rfl,rfl⟩ := hv
    obtain ⟨nd,hnd⟩ : ∃ nd,nd = nds.getD k Nd.none := ⟨_,rfl⟩
    obtain ⟨m,hm1⟩ : ∃ m,m = nd.ins.length := ⟨_,rfl⟩
    obtain ⟨m2,hm2⟩ : ∃ m,m = nd.p.length := ⟨_,rfl⟩
    rw [← hnd] at n0 n1 n2 hsi hsp
    rw [← hm1] at n1 hsi
    rw [← hm2] at n2 hsp
    have HND : Hid (nd = nds.getD k Nd.none ∧ m = nd.ins.length ∧ m2 = nd.p.length ∧ SlOf RInt 1 (· < B) W (.slice ia m ic) nd.ins ∧ SlOf RInt 1 (· < B) W (.slice pa m2 pc) nd.p) := ⟨hnd,hm1,hm2,hsi,hsp⟩
    have g0 := hNA.gb.cell 0 rfl
    have hk0 : (0 : Int) ≤ (k : Int) := by omega
    have hk1 : (k : Int) < (nds.length : Int) := by omega
    have hbW : b < W.heap.size := by have := hNA.below.size; omega
    clear hnd hm1 hm2 hsi hsp hNA hKp HG2 hcm
    have HCV : Hid (CvN (f,s)) := by
      have := CvN.fold (n := nds.length) rfl HG.out.2.2.1 out HG.out.2.2.2.1 pre
      rw [← hst] at this
      exact this
    clear hst
    gi_wp2
    rename_i K7 hK7
    obtain ⟨W1,hW1⟩ : ∃ w1,w1 = W.alloc (.cells #[.int .i64 nd.op,.slice ia m ic,.slice pa m2 pc] 44) := ⟨_,rfl⟩
    have hs1 : W1.heap.size = W.heap.size + 1 := by rw [hW1,size_alloc]
    have h1 : NA w (.slice (some ⟨b,o,none⟩) nds.length gc) out nds.length ⟨x0,y0,x1,y1⟩ f s W1 := by rw [hW1]; exact HNA.out.1.call (below_new _ _)
    have hkp1 : KpO W.heap.size (w.heap.size + 1 + 1 + 1) (w.heap.size + 1 + 1 + 1 + 1 + 1) W W1 := by rw [hW1]; exact KpO.below (below_new _ _) (Nat.le_refl _)
    have hnb : Box W1 W.heap.size [.int .i64 nd.op,.slice ia m ic,.slice pa m2 pc] := by rw [hW1]; exact Box.new W _ _
    obtain ⟨rr,hrr⟩ : ∃ r,r = ofR nd (f k) := ⟨_,rfl⟩
    have HOF : Hid (∀ W',Below W1.heap.size W1 W' → Calls Tryz.prog 49 #[.agg #[.int .i64 nd.op,.slice ia m ic,.slice pa m2 pc],rv (f k)] W' (OfPost W' m rr)) := fun W' hb => by
      have hbB2 : Below w.heap.size w W' := h1.below.trans (hb.mono h1.below.size)
      have e := needof_c nd.op (.slice ia m ic) (.slice pa m2 pc) nd.ins nd.p (f k) W' (F := (· < B)) (fun c hc => by have hc : c < B := hc; have := hbB2.size; omega)
        ((hkp1.then hb).sl (by omega) (by omega) (by have := HNA.out.1.below.size; omega) HND.out.2.2.2.2)
        ((hkp1.then hb).sl (by omega) (by omega) (by have := HNA.out.1.below.size; omega) HND.out.2.2.2.1)
        (by rw [HND.out.1]; exact HG.out.2.1 k hk) (by have := HG.out.2.2.2.1 k hk; rwa [← HND.out.1] at this) (HCV.out.1 k)
      rw [← HND.out.2.1] at e
      rw [hrr]
      exact e
    rw [← hW1]
    have HX : Hid (NA w (.slice (some ⟨b,o,none⟩) nds.length gc) out nds.length ⟨x0,y0,x1,y1⟩ f s W1 ∧ KpO W.heap.size (w.heap.size + 1 + 1 + 1) (w.heap.size + 1 + 1 + 1 + 1 + 1) W W1 ∧ Box W1 W.heap.size [.int .i64 nd.op,.slice ia m ic,.slice pa m2 pc] ∧ W1.heap.size = W.heap.size + 1 ∧ rr = ofR nd (f k)) := ⟨h1,hkp1,hnb,hs1,hrr⟩
    have hml : m ≤ 1000 := by rw [HND.out.2.1,HND.out.1]; exact HG.out.2.1 k hk
    clear hW1 hs1 h1 hkp1 hnb hrr g0 n0 n1 n2
    refine wp_region_each_in (fun f => hfn f) (fun h => CallsIn.inRound l (hcw h)) (fun _ => by omega) (nd_of (by kernel_rfl)) (fun W' => Below W1.heap.size W1 W') (NT (.agg #[.int .i64 nd.op,.slice ia m ic,.slice pa m2 pc]) (w.heap.size + 1 + 1 + 1) nds.length k (f k) W1.heap.size m rr) (by kernel_rfl) (by kernel_rfl) (Below.refl _ W1).drew ?hop ?hend
    case hop =>
      refine Each.get (n := 8) ⟨⟨⟨⟨⟨⟨⟨⟨trivial,?h0⟩,?h1⟩,?h2⟩,?h3⟩,?h4⟩,?h5⟩,?h6⟩,?h7⟩
      case h0 =>
        refine OpIs.plain (by kernel_rfl) _ rfl rfl fun vs ev W' hf hI hd => ?_
        have e0 : ev (.tmp 10) = .pointer (some ⟨W.heap.size,0,none⟩) := hf.off 10 rfl
        have d0 := (HX.out.2.2.1.call hI).cell 0 rfl
        have d1 := (HX.out.2.2.1.call hI).cell 1 rfl
        have d2 := (HX.out.2.2.1.call hI).cell 2 rfl
        clear hK7
        exact gives_pure (v := .agg #[.int .i64 nd.op,.slice ia m ic,.slice pa m2 pc]) hI (by simp [gives,go_sem,e0,d0,d1,d2]) rfl
      case h1 =>
        refine OpIs.plain (by kernel_rfl) _ rfl rfl fun vs ev W' hf hI hd => ?_
        have e0 : ev (.tmp 6) = .pointer (some ⟨w.heap.size + 1 + 1 + 1 + 1,0,none⟩) := hf.off 6 rfl
        have d0 := (HX.out.1.vb.call hI).cell 0 rfl
        clear hK7
        exact gives_pure (v := .slice (some ⟨w.heap.size + 1 + 1 + 1,0,none⟩) nds.length nds.length) hI (by simp [gives,go_sem,e0,d0]) rfl
      case h2 =>
        refine OpIs.plain (by kernel_rfl) _ rfl rfl fun vs ev W' hf hI hd => ?_
        have e0 : ev (.tmp 9) = .int .i64 k := hf.off 9 rfl
        clear hK7
        exact gives_pure (v := .int .i64 k) hI (by simp [gives,go_sem,e0]) rfl
      case h3 =>
        refine OpIs.plain (by kernel_rfl) _ rfl rfl fun vs ev W' hf hI hd => ?_
        have e0 : ev (.tmp 37) = .slice (some ⟨w.heap.size + 1 + 1 + 1,0,none⟩) nds.length nds.length := (hf.of 1 _ 37 rfl rfl rfl (of_decide_eq_true rfl)).trans (hd 1 (by kernel_rfl))
        have e1 : ev (.tmp 38) = .int .i64 k := (hf.of 2 _ 38 rfl rfl rfl (of_decide_eq_true rfl)).trans (hd 2 (by kernel_rfl))
        clear hK7
        exact gives_pure (v := .pointer (some ⟨w.heap.size + 1 + 1 + 1,k * 4,none⟩)) hI (by simp [gives,go_sem,e0,e1,hk0,hk1]) rfl
      case h4 =>
        refine OpIs.plain (by kernel_rfl) _ rfl rfl fun vs ev W' hf hI hd => ?_
        have e0 : ev (.tmp 39) = .pointer (some ⟨w.heap.size + 1 + 1 + 1,k * 4,none⟩) := (hf.of 3 _ 39 rfl rfl rfl (of_decide_eq_true rfl)).trans (hd 3 (by kernel_rfl))
        obtain ⟨d0,d1,d2,d3⟩ := rbox_get (HX.out.1.ob.call hI) (rl_get f hk)
        clear hK7
        exact gives_pure (v := rv (f k)) hI (by simp [gives,go_sem,e0,d0,d1,d2,d3]) rfl
      case h5 =>
        refine OpIs.plain (by kernel_rfl) _ rfl rfl fun vs ev W' hf hI hd => ?_
        have e0 : ev (.tmp 36) = .agg #[.int .i64 nd.op,.slice ia m ic,.slice pa m2 pc] := (hf.of 0 _ 36 rfl rfl rfl (of_decide_eq_true rfl)).trans (hd 0 (by kernel_rfl))
        have e1 : ev (.tmp 40) = rv (f k) := (hf.of 4 _ 40 rfl rfl rfl (of_decide_eq_true rfl)).trans (hd 4 (by kernel_rfl))
        refine gives_mono (R := fun v w' => ∃ e,e = Ending.returned v ∧ OfPost W' m rr e w') ?_ ?_
        · have hc := HOF.out _ hI
          clear hK7
          have e4 := hf.func 49
          simp [gives,execOp,resolve,invoke,e0,e1,e4,go_sem]
          exact hc.mono fun e w' h => by
            obtain ⟨P,hP,he,h2⟩ := h
            exact ⟨_,he,P,hP,rfl,h2⟩
        · rintro v w' ⟨e,he,P,hP,he2,h2,h3⟩
          rw [he] at he2
          cases he2
          exact ⟨⟨P,Nat.le_trans hI.size hP,rfl,h2⟩,hI.trans (h3.mono hI.size),fun j u _ h => h.below h3⟩
      case h6 =>
        refine OpIs.plain (by kernel_rfl) _ rfl rfl fun vs ev W' hf hI hd => ?_
        obtain ⟨P,_,hv,_⟩ := hd 5 (by kernel_rfl)
        have e0 : ev (.tmp 41) = .slice (some ⟨P,0,none⟩) m m := (hf.of 5 _ 41 rfl rfl rfl (of_decide_eq_true rfl)).trans hv
        clear hK7
        refine gives_pure (v := .int .i64 m) hI ?_ rfl
        unfold gives
        simp [e0,Builtin.len_,goInt,Tryz.underlying63,underlying,go_sem]
      case h7 =>
        refine OpIs.plain (by kernel_rfl) _ rfl rfl fun vs ev W' hf hI hd => ?_
        have e0 := hf.const (.int .i64 0)
        clear hK7
        exact gives_pure (v := .int .i64 0) hI (by simp [gives,go_sem,e0]) rfl
    case hend =>
      intro vs W2 hI hT
      obtain ⟨P,hP,v5,hPB⟩ := hT 5 (by decide)
      have v0 : vs 0 = .agg #[.int .i64 nd.op,.slice ia m ic,.slice pa m2 pc] := hT 0 (by decide)
      have v1 : vs 1 = .slice (some ⟨w.heap.size + 1 + 1 + 1,0,none⟩) nds.length nds.length := hT 1 (by decide)
      have v2 : vs 2 = .int .i64 k := hT 2 (by decide)
      have v3 : vs 3 = .pointer (some ⟨w.heap.size + 1 + 1 + 1,k * 4,none⟩) := hT 3 (by decide)
      have v4 : vs 4 = rv (f k) := hT 4 (by decide)
      have v6 : vs 6 = .int .i64 m := hT 6 (by decide)
      have v7 : vs 7 = .int .i64 0 := hT 7 (by decide)
      refine ⟨?_⟩
      simp [fr,Act.put,v0,v1,v2,v3,v4,v5,v6,v7]
      clear hT v0 v1 v2 v3 v4 v5 v6 v7
      refine hK7 _ _ ?_
      have HP1 : W.heap.size < P := by have := HX.out.2.2.2.1; omega
      have HL0 : Hid (LS w W (.slice (some ⟨b,o,none⟩) nds.length gc) out nds.length ⟨x0,y0,x1,y1⟩ (updL (f,s) (nd.ins.take 0) rr) [.int .i64 nd.op,.slice ia m ic,.slice pa m2 pc] P m rr W2) := by
        rw [List.take_zero]
        exact ⟨HX.out.1.call hI,HX.out.2.1.then hI,HX.out.2.2.1.call hI,hPB⟩
      clear hI hPB hP hK7 hbW hcap
      gi_wp2
      gi_loopw [43] (fun jv wr => ∃ j : Nat,j ≤ m ∧ jv = .int .i64 j ∧ LS w W (.slice (some ⟨b,o,none⟩) nds.length gc) out nds.length ⟨x0,y0,x1,y1⟩ (updL (f,s) (nd.ins.take j) rr) [.int .i64 nd.op,.slice ia m ic,.slice pa m2 pc] P m rr wr) (fun jv _ => m - (intOf jv).toNat)
      case atStart => exact ⟨0,Nat.zero_le _,rfl,HL0.out⟩
      case round =>
        obtain ⟨j,hj,rfl,hr⟩ := hrel
        have HRR : Hid (rr = ofR nd (f k)) := HX.out.2.2.2.2
        have HR : Hid (LS w W (.slice (some ⟨b,o,none⟩) nds.length gc) out nds.length ⟨x0,y0,x1,y1⟩ (updL (f,s) (nd.ins.take j) rr) [.int .i64 nd.op,.slice ia m ic,.slice pa m2 pc] P m rr wr) := hr
        clear hr HL0 HX
        by_cases hjl : j < m
        · obtain ⟨ib,io,ic2,hv2,hib,hicell,hic1,hic2⟩ := sl_cells (HR.out.2.1.sl (by omega) (by omega) (by have := HNA.out.1.below.size; omega) HND.out.2.2.2.1) (by rw [← HND.out.2.1]; omega)
          simp only [Value.slice.injEq] at hv2
          obtain ⟨rfl,hv3,hv4⟩ := hv2
          clear hv3 hv4
          have hib : ib < B := hib
          have hjn : j < nd.ins.length := by rw [← HND.out.2.1]; exact hjl
          have cx := hicell j hjn
          obtain ⟨x,hx⟩ : ∃ x,x = nd.ins.getD j 0 := ⟨_,rfl⟩
          rw [← hx] at cx
          have hxb : -1 ≤ x ∧ x < nds.length := by
            refine HG.out.2.2.2.2 k hk x ?_
            rw [← HND.out.1,hx,List.getD_eq_getElem?_getD,List.getElem?_eq_getElem hjn]
            exact List.getElem_mem hjn
          have HST : Hid (updL (f,s) (nd.ins.take (j + 1)) rr = updN (updL (f,s) (nd.ins.take j) rr) x rr) := by
            rw [hx]; exact updL_take _ _ _ hjn
          obtain ⟨stj,hstj⟩ : ∃ st,st = updL (f,s) (nd.ins.take j) rr := ⟨_,rfl⟩
          rw [← hstj] at HR HST
          have HSJ : Hid (stj = updL (f,s) (nd.ins.take j) rr) := hstj
          obtain ⟨fj,sj⟩ := stj
          obtain ⟨r0,r1,r2,r3⟩ := rr
          obtain ⟨p0,p1,p2,p3⟩ := rbox_get HR.out.2.2.2 (i := j) (r := ⟨r0,r1,r2,r3⟩) (by simp [hjl])
          have hj0 : (0 : Int) ≤ (j : Int) := by omega
          have hj1 : (j : Int) < (m : Int) := by omega
          have e1 := cell_alloc_lt (HR.out.2.2.1.cell 1 rfl) (.cells (cs4 r0 r1 r2 r3) 26)
          have e2 := cell_alloc_lt cx (.cells (cs4 r0 r1 r2 r3) 26)
          have HL3 : Hid (LS w W (.slice (some ⟨b,o,none⟩) nds.length gc) out nds.length ⟨x0,y0,x1,y1⟩ (fj,sj) [.int .i64 nd.op,.slice (some ⟨ib,io,none⟩) m ic,.slice pa m2 pc] P m (⟨r0,r1,r2,r3⟩ : Rc) (wr.alloc (.cells (cs4 r0 r1 r2 r3) 26)) ∧ Box (wr.alloc (.cells (cs4 r0 r1 r2 r3) 26)) wr.heap.size (cl4 ⟨r0,r1,r2,r3⟩)) := ⟨HR.out.call (below_new _ _),Box.new wr _ _⟩
          have HPX : Hid (w.heap.size + 6 ≤ W.heap.size ∧ W.heap.size < P) := ⟨by have := HNA.out.1.sb.lt; omega,HP1⟩
          clear hicell hic1 hic2 hx hjn cx hstj HR
          by_cases hx1 : x = -1
          · subst hx1
            gi_wp2
            obtain ⟨W4,hW4⟩ : ∃ W,W = wr.alloc (.cells #[.int .i64 r0,.int .i64 r1,.int .i64 r2,.int .i64 r3] 26) := ⟨_,rfl⟩
            have HL4 : Hid (LS w W (.slice (some ⟨b,o,none⟩) nds.length gc) out nds.length ⟨x0,y0,x1,y1⟩ (fj,sj) [.int .i64 nd.op,.slice (some ⟨ib,io,none⟩) m ic,.slice pa m2 pc] P m (⟨r0,r1,r2,r3⟩ : Rc) W4 ∧ Box W4 wr.heap.size (cl4 ⟨r0,r1,r2,r3⟩)) := by rw [hW4]; exact HL3.out
            rw [← hW4]
            clear hW4 HL3 e1 e2 p0 p1 p2 p3 hj0 hj1
            obtain ⟨q2,hq2⟩ : ∃ q,q = joinR sj ⟨r0,r1,r2,r3⟩ := ⟨_,rfl⟩
            have HJ2 : Hid (∀ s : Kept W4.heap.size W4,Calls Tryz.prog 29 #[rv sj,.agg #[.int .i64 r0,.int .i64 r1,.int .i64 r2,.int .i64 r3]] s.w (PPost s.w (rv q2))) := fun s => by
              rw [hq2]
              exact join_c sj ⟨r0,r1,r2,r3⟩ s.w
            have HQ2 : Hid (q2 = joinR sj ⟨r0,r1,r2,r3⟩) := hq2
            obtain ⟨t0,t1,t2,t3⟩ := box4 HL4.out.1.1.sb
            have k0 := fun s : Kept W4.heap.size W4 => s.at t0
            have k1 := fun s : Kept W4.heap.size W4 => s.at t1
            have k2 := fun s : Kept W4.heap.size W4 => s.at t2
            have k3 := fun s : Kept W4.heap.size W4 => s.at t3
            have k4 := fun s : Kept W4.heap.size W4 => s.at (HL4.out.2.cell 0 rfl)
            have k5 := fun s : Kept W4.heap.size W4 => s.at (HL4.out.2.cell 1 rfl)
            have k6 := fun s : Kept W4.heap.size W4 => s.at (HL4.out.2.cell 2 rfl)
            have k7 := fun s : Kept W4.heap.size W4 => s.at (HL4.out.2.cell 3 rfl)
            clear hq2 t0 t1 t2 t3
            refine wp_region_kept_last_in (fun f => hfn f) (fun h => CallsIn.inRound l (hcw h)) (fun _ => by omega) (nd_of (by kernel_rfl)) W4.heap.size 7 _ rfl rfl (by kernel_rfl) (by kernel_rfl) ?_
            simp only [List.take_succ_cons,List.take_zero]
            repeat (go_big_quiet_step (first | (go_at_call 29; with_reducible exact Calls.kept _ (Nat.le_refl _) (HJ2.out _))))
            refine wpQuiet_nil ?_
            intro s4
            have J4 := HL4.out.1.call s4.below
            obtain ⟨t0,t1,t2,t3⟩ := box4 J4.1.sb
            have f0 := J4.1.sb.frozen 0
            have f1 := J4.1.sb.frozen 1
            have f2 := J4.1.sb.frozen 2
            have f3 := J4.1.sb.frozen 3
            have H6 : Hid (LS w W (.slice (some ⟨b,o,none⟩) nds.length gc) out nds.length ⟨x0,y0,x1,y1⟩ (updN (fj,sj) (-1) ⟨r0,r1,r2,r3⟩) [.int .i64 nd.op,.slice (some ⟨ib,io,none⟩) m ic,.slice pa m2 pc] P m (⟨r0,r1,r2,r3⟩ : Rc) (setR s4.w (w.heap.size + 1 + 1 + 1 + 1 + 1) 0 q2)) := by
              have := J4.setX HPX.out.1 HPX.out.2 q2
              rw [HQ2.out] at this ⊢
              exact this
            refine ⟨steps_plain rfl (gives_mono (R := fun v w' => v = undef ∧ w' = setR s4.w (w.heap.size + 1 + 1 + 1 + 1 + 1) (0) q2) ?_ ?_)⟩
            · simp [gives,go_sem,t0,t1,t2,t3,f0,f1,f2,f3,setR]
            rintro _ _ ⟨rfl,rfl⟩
            obtain ⟨W6,hW6⟩ : ∃ W,W = setR s4.w (w.heap.size + 1 + 1 + 1 + 1 + 1) (0) q2 := ⟨_,rfl⟩
            rw [← hW6] at H6 ⊢
            clear hW6 J4 k0 k1 k2 k3 k4 k5 k6 k7 t0 t1 t2 t3 f0 f1 f2 f3 HJ2 HL4
            clear s4
            rename_i hK4
            refine hK4 _ _ ?_
            gi_wp2
            go_roundw
            case rel => exact ⟨j + 1,by omega,by go_num,by rw [HST.out]; exact H6.out⟩
            case measure => simp [intOf]; omega
          · obtain ⟨xn,rfl⟩ : ∃ n : Nat,x = n := ⟨x.toNat,by omega⟩
            have hx0 : (0 : Int) ≤ (xn : Int) := by omega
            have hx2 : (xn : Int) < (nds.length : Int) := hxb.2
            have hx3 : ((xn : Int) == -1) = false := by simp
            have hxn : xn < nds.length := by omega
            have HX1 : Hid (¬ (xn : Int) = -1) := hx1
            gi_wp2
            obtain ⟨W4,hW4⟩ : ∃ W,W = wr.alloc (.cells #[.int .i64 r0,.int .i64 r1,.int .i64 r2,.int .i64 r3] 26) := ⟨_,rfl⟩
            have HL4 : Hid (LS w W (.slice (some ⟨b,o,none⟩) nds.length gc) out nds.length ⟨x0,y0,x1,y1⟩ (fj,sj) [.int .i64 nd.op,.slice (some ⟨ib,io,none⟩) m ic,.slice pa m2 pc] P m (⟨r0,r1,r2,r3⟩ : Rc) W4 ∧ Box W4 wr.heap.size (cl4 ⟨r0,r1,r2,r3⟩)) := by rw [hW4]; exact HL3.out
            rw [← hW4]
            have e3 := HL4.out.1.1.vb.cell 0 rfl
            rw [← hW4] at e1 e2
            have k1 := fun s : Kept W4.heap.size W4 => s.at e1
            have k2 := fun s : Kept W4.heap.size W4 => s.at e2
            have k3 := fun s : Kept W4.heap.size W4 => s.at e3
            clear hW4 HL3 e1 e2 e3 p0 p1 p2 p3
            rename_i K12 hK12 hg12
            clear hg12
            refine wp_region_kept_in (fun f => hfn f) (fun h => CallsIn.inRound l (hcw h)) (fun _ => by omega) (nd_of (by kernel_rfl)) W4.heap.size (by kernel_rfl) (by kernel_rfl) ?_
            repeat (go_big_quiet_step (fail))
            refine wpQuiet_nil ?_
            rintro _ ⟨s,rfl⟩
            have HL5 : Hid (LS w W (.slice (some ⟨b,o,none⟩) nds.length gc) out nds.length ⟨x0,y0,x1,y1⟩ (fj,sj) [.int .i64 nd.op,.slice (some ⟨ib,io,none⟩) m ic,.slice pa m2 pc] P m (⟨r0,r1,r2,r3⟩ : Rc) s.w ∧ Box s.w wr.heap.size (cl4 ⟨r0,r1,r2,r3⟩)) := ⟨HL4.out.1.call s.below,HL4.out.2.call s.below⟩
            obtain ⟨W5,hW5⟩ : ∃ W,W = s.w := ⟨_,rfl⟩
            rw [← hW5] at HL5 ⊢
            clear hW5 HL4 k1 k2 k3 s
            refine hK12 _ _ ?_
            gi_wp2
            obtain ⟨q2,hq2⟩ : ∃ q,q = joinR (fj xn) ⟨r0,r1,r2,r3⟩ := ⟨_,rfl⟩
            have HJ2 : Hid (∀ s : Kept W5.heap.size W5,Calls Tryz.prog 29 #[rv (fj xn),.agg #[.int .i64 r0,.int .i64 r1,.int .i64 r2,.int .i64 r3]] s.w (PPost s.w (rv q2))) := fun s => by
              rw [hq2]
              exact join_c (fj xn) ⟨r0,r1,r2,r3⟩ s.w
            have HQ2 : Hid (q2 = joinR (fj xn) ⟨r0,r1,r2,r3⟩) := hq2
            obtain ⟨t0,t1,t2,t3⟩ := rbox_get HL5.out.1.1.ob (rl_get fj hxn)
            have k0 := fun s : Kept W5.heap.size W5 => s.at t0
            have k1 := fun s : Kept W5.heap.size W5 => s.at t1
            have k2 := fun s : Kept W5.heap.size W5 => s.at t2
            have k3 := fun s : Kept W5.heap.size W5 => s.at t3
            have k4 := fun s : Kept W5.heap.size W5 => s.at (HL5.out.2.cell 0 rfl)
            have k5 := fun s : Kept W5.heap.size W5 => s.at (HL5.out.2.cell 1 rfl)
            have k6 := fun s : Kept W5.heap.size W5 => s.at (HL5.out.2.cell 2 rfl)
            have k7 := fun s : Kept W5.heap.size W5 => s.at (HL5.out.2.cell 3 rfl)
            clear hq2 t0 t1 t2 t3
            refine wp_region_kept_last_in (fun f => hfn f) (fun h => CallsIn.inRound l (hcw h)) (fun _ => by omega) (nd_of (by kernel_rfl)) W5.heap.size 7 _ rfl rfl (by kernel_rfl) (by kernel_rfl) ?_
            simp only [List.take_succ_cons,List.take_zero]
            repeat (go_big_quiet_step (first | (go_at_call 29; with_reducible exact Calls.kept _ (Nat.le_refl _) (HJ2.out _))))
            refine wpQuiet_nil ?_
            intro s4
            have J4 := HL5.out.1.call s4.below
            obtain ⟨t0,t1,t2,t3⟩ := rbox_get J4.1.ob (rl_get fj hxn)
            have f0 := J4.1.ob.frozen (xn * 4)
            have f1 := J4.1.ob.frozen (xn * 4 + 1)
            have f2 := J4.1.ob.frozen (xn * 4 + 2)
            have f3 := J4.1.ob.frozen (xn * 4 + 3)
            have H6 : Hid (LS w W (.slice (some ⟨b,o,none⟩) nds.length gc) out nds.length ⟨x0,y0,x1,y1⟩ (updN (fj,sj) xn ⟨r0,r1,r2,r3⟩) [.int .i64 nd.op,.slice (some ⟨ib,io,none⟩) m ic,.slice pa m2 pc] P m (⟨r0,r1,r2,r3⟩ : Rc) (setR s4.w (w.heap.size + 1 + 1 + 1) (xn * 4) q2)) := by
              have := J4.setO HPX.out.1 HPX.out.2 xn q2
              have e : updN (fj,sj) xn ⟨r0,r1,r2,r3⟩ = (fun j => if j = xn then q2 else fj j,sj) := by
                have hxx := HX1.out
                unfold updN
                rw [if_neg hxx,Int.toNat_natCast,HQ2.out]
                congr 1
                funext j
                by_cases e : j = xn
                · subst e; rfl
                · rw [if_neg e,if_neg e]
              rw [e]
              exact this
            refine ⟨steps_plain rfl (gives_mono (R := fun v w' => v = undef ∧ w' = setR s4.w (w.heap.size + 1 + 1 + 1) (xn * 4) q2) ?_ ?_)⟩
            · simp [gives,go_sem,t0,t1,t2,t3,f0,f1,f2,f3,setR]
            rintro _ _ ⟨rfl,rfl⟩
            obtain ⟨W6,hW6⟩ : ∃ W,W = setR s4.w (w.heap.size + 1 + 1 + 1) (xn * 4) q2 := ⟨_,rfl⟩
            rw [← hW6] at H6 ⊢
            clear hW6 J4 k0 k1 k2 k3 k4 k5 k6 k7 t0 t1 t2 t3 f0 f1 f2 f3 HJ2 HL5
            clear s4
            rename_i hK4
            refine hK4 _ _ ?_
            gi_wp2
            go_roundw
            case rel => exact ⟨j + 1,by omega,by go_num,by rw [HST.out]; exact H6.out⟩
            case measure => simp [intOf]; omega
        · have ej : j = m := by omega
          subst ej
          gi_wp2
          have hW0 := HNA.out.2.1
          have hs3 := HS.out.1
          have hs4 := HS.out.2.1
          have hR := HR.out
          refine ⟨hR.2.1.keeps (by omega) (by omega),hR.2.1.mono hW0,?_,HNA.out.2.trans (hR.2.1.mono hW0)⟩
          have e : foldN nds ⟨x0,y0,x1,y1⟩ out (pre ++ [(i,(⟨k,hk⟩ : { k : Nat // k < nds.length }))]) = updL (f,s) (nd.ins.take j) rr := by
            rw [HM.out]
            have h1 := HND.out.1
            rw [HND.out.2.1,List.take_length,HRR.out,h1]
            rfl
          rw [e]
          exact hR.1
  case done =>
    rintro D ys W hD rfl ⟨hNA,hKp⟩ hK
    obtain ⟨fin,hfin⟩ : ∃ st,st = (ord (insOf nds)).reverse.foldl (stepN nds) (startN ⟨x0,y0,x1,y1⟩ out) := ⟨_,rfl⟩
    have HE : Hid (NA w (.slice ga nds.length gc) out nds.length ⟨x0,y0,x1,y1⟩ fin.1 fin.2 W) := by
      have e := fold_all (all := all) (n := nds.length) nds ⟨x0,y0,x1,y1⟩ out (fun j => (len - 1 - j,(zs (len - 1 - j)).2)) (fun j hj => by
        obtain ⟨_,_,h3,_,_,h6⟩ := HS.out
        rw [h6 _ (by omega),h3])
      rw [HS.out.2.2.2.2.1,← hfin] at e
      rw [← e]
      have h3 := HS.out.2.2.1
      rw [HS.out.2.2.2.2.1] at h3
      rw [← h3]
      exact hNA
    have HF : Hid (fin = (ord (insOf nds)).reverse.foldl (stepN nds) (startN ⟨x0,y0,x1,y1⟩ out)) := hfin
    clear hNA hKp hfin H0 J4 eS hac0
    obtain ⟨ff,s0,s1,s2,s3⟩ := fin
    have k0 := fun s : Kept W.heap.size W => s.at (HE.out.vb.cell 0 rfl)
    have k1 := fun s : Kept W.heap.size W => s.at (HE.out.sb.cell 0 rfl)
    have k2 := fun s : Kept W.heap.size W => s.at (HE.out.sb.cell 1 rfl)
    have k3 := fun s : Kept W.heap.size W => s.at (HE.out.sb.cell 2 rfl)
    have k4 := fun s : Kept W.heap.size W => s.at (HE.out.sb.cell 3 rfl)
    gi_wp2
    refine wp_region_kept_last_in hfn (fun h => hcw h) (fun _ => h1N) (nd_of (by kernel_rfl)) W.heap.size 3 _ rfl rfl (by kernel_rfl) (by kernel_rfl) ?_
    simp only [List.take_succ_cons,List.take_zero]
    repeat (go_big_quiet_step (fail))
    refine wpQuiet_nil ?_
    intro s
    have J5 := HE.out.call s.below
    obtain ⟨r0,r1,r2,r3⟩ := box4 J5.rb
    have f0 := J5.rb.frozen 0
    have f1 := J5.rb.frozen 1
    have f2 := J5.rb.frozen 2
    have f3 := J5.rb.frozen 3
    have H6 : Hid (Box ((((s.w.setCell ⟨w.heap.size + 1 + 1,0,none⟩ (.int .i64 s0)).setCell ⟨w.heap.size + 1 + 1,1,none⟩ (.int .i64 s1)).setCell ⟨w.heap.size + 1 + 1,2,none⟩ (.int .i64 s2)).setCell ⟨w.heap.size + 1 + 1,3,none⟩ (.int .i64 s3)) (w.heap.size + 1 + 1) (cl4 ⟨s0,s1,s2,s3⟩) ∧
        Box ((((s.w.setCell ⟨w.heap.size + 1 + 1,0,none⟩ (.int .i64 s0)).setCell ⟨w.heap.size + 1 + 1,1,none⟩ (.int .i64 s1)).setCell ⟨w.heap.size + 1 + 1,2,none⟩ (.int .i64 s2)).setCell ⟨w.heap.size + 1 + 1,3,none⟩ (.int .i64 s3)) (w.heap.size + 1 + 1 + 1) (rcs (rl nds.length ff)) ∧
        Below w.heap.size w ((((s.w.setCell ⟨w.heap.size + 1 + 1,0,none⟩ (.int .i64 s0)).setCell ⟨w.heap.size + 1 + 1,1,none⟩ (.int .i64 s1)).setCell ⟨w.heap.size + 1 + 1,2,none⟩ (.int .i64 s2)).setCell ⟨w.heap.size + 1 + 1,3,none⟩ (.int .i64 s3)) ∧
        ((((s.w.setCell ⟨w.heap.size + 1 + 1,0,none⟩ (.int .i64 s0)).setCell ⟨w.heap.size + 1 + 1,1,none⟩ (.int .i64 s1)).setCell ⟨w.heap.size + 1 + 1,2,none⟩ (.int .i64 s2)).setCell ⟨w.heap.size + 1 + 1,3,none⟩ (.int .i64 s3)).heap[D]? = some (.deferred (some []))) := by
      have hDl : D < W.heap.size := (Array.getElem?_eq_some_iff.1 hK).1
      have hDn : D ≠ w.heap.size + 1 + 1 := by omega
      have hD1 : s.w.heap[D]? = some (.deferred (some [])) := (s.below.block D hDl).trans hK
      refine ⟨set4_box J5.rb _ _ _ _,(((J5.ob.set (by simp) _).set (by simp) _).set (by simp) _).set (by simp) _,(((J5.below.setCell (by simp; omega) _).setCell (by simp; omega) _).setCell (by simp; omega) _).setCell (by simp; omega) _,?_⟩
      rw [Below.heap_setCell _ _ _ _ (by simpa using hDn),Below.heap_setCell _ _ _ _ (by simpa using hDn),Below.heap_setCell _ _ _ _ (by simpa using hDn),Below.heap_setCell _ _ _ _ (by simpa using hDn)]
      exact hD1
    clear J5
    refine ⟨steps_plain rfl (gives_mono (R := fun v w' => v = undef ∧ w' = (((s.w.setCell ⟨w.heap.size + 1 + 1,0,none⟩ (.int .i64 s0)).setCell ⟨w.heap.size + 1 + 1,1,none⟩ (.int .i64 s1)).setCell ⟨w.heap.size + 1 + 1,2,none⟩ (.int .i64 s2)).setCell ⟨w.heap.size + 1 + 1,3,none⟩ (.int .i64 s3)) ?_ ?_)⟩
    · simp [gives,go_sem,r0,r1,r2,r3,f0,f1,f2,f3]
    rintro _ _ ⟨rfl,rfl⟩
    obtain ⟨W6,hW6⟩ : ∃ W,W = ((((s.w.setCell ⟨w.heap.size + 1 + 1,0,none⟩ (.int .i64 s0)).setCell ⟨w.heap.size + 1 + 1,1,none⟩ (.int .i64 s1)).setCell ⟨w.heap.size + 1 + 1,2,none⟩ (.int .i64 s2)).setCell ⟨w.heap.size + 1 + 1,3,none⟩ (.int .i64 s3)) := ⟨_,rfl⟩
    rw [← hW6] at H6 ⊢
    clear hW6 k0 k1 k2 k3 k4 r0 r1 r2 r3 f0 f1 f2 f3 s
    rename_i hK9
    refine hK9 _ _ ?_
    gi_wp2
    obtain ⟨h1,h2,h3,h4⟩ := H6.out
    have hDx : w.heap.size + 6 ≤ D := by have := HS.out.1; omega
    refine ⟨by simp,.inl ⟨_,_,rfl,run_takeDeferred h4,?_⟩⟩
    obtain ⟨tt,ht⟩ := h1
    refine ⟨_,results_tmp_cell rfl _ _ (w.heap.size + 1 + 1) tt (cs4 s0 s1 s2 s3) (0,0) _ rfl ((World.putObj_heap_other (by omega)).trans ht) Tryz.underlying26 rfl (by kernel_rfl),?_⟩
    rw [← HF.out]
    refine ⟨w.heap.size + 1 + 1 + 1,by omega,rfl,?_,?_⟩
    · exact h2.of_block (World.putObj_heap_other (by omega))
    · exact h3.grown (grownBy_putObj' W6 D _) h3.size (fun k e => by cases e; omega)
  case stop =>
    rintro D c pre W _ _ h _
    exact h.elim
end
end Go.Proofs.YtaoamkbcegadcaaGreatDoor
/- Layer 14: the law's own 'right'; what a right filter is. -/
namespace Go.Proofs.YtaoamkbcegadcaaGreatDoor
open Go.RowKit Go.Bx Go.Od Go.Hp
attribute [local go_sem ↓] Go.wp_at_zero Go.wp_at_succ
set_option linter.unusedVariables false

def rightB (nds : List Nd) (out : Int) : Bool := fewB nds 12 && (chkB nds out == 0)
structure GoodN (nds : List Nd) (out : Int) : Prop where
  few : nds.length ≤ 100
  short : ∀ i,i < nds.length → (nds.getD i Nd.none).ins.length ≤ 1000
  pos : 0 < nds.length
  outs : 0 ≤ out ∧ out < nds.length
  full : ∀ i,i < nds.length → i ∈ ord (insOf nds)
  pa : ∀ i,i < nds.length → PaOk (nds.getD i Nd.none)
  rng : ∀ i,i < nds.length → ∀ x ∈ (nds.getD i Nd.none).ins,-1 ≤ x ∧ x < nds.length
theorem pa_of {nd : Nd} {n : Nat} (h : oneB nd n = 0) : PaOk nd ∧ ∀ x ∈ nd.ins,-1 ≤ x ∧ x < n := by
  unfold oneB at h
  split at h
  · cases h
  rename_i h1
  split at h
  · cases h
  rename_i h2
  split at h
  · cases h
  rename_i h3
  split at h
  · cases h
  rename_i h4
  have hp : (nd.p.length : Int) = parL.getD nd.op.toNat 0 := by
    have : ¬ ((nd.p.length : Int) == parL.getD nd.op.toNat 0) = false := fun e => h2 (.inr (.inr e))
    simpa using this
  have hb : bndB nd.op nd.p = true := by simpa using h4
  have hn : nearB nd.ins 0 nd.ins.length (-1) ((n : Int) - 1) = true := by simpa using h3
  rw [nearB_iff] at hn
  clear h h1 h2 h3 h4
  refine ⟨⟨fun e => ?_,fun e => ?_,fun e => ?_,fun e => ?_⟩,fun x hx => ?_⟩
  · rcases e with e | e
    · rw [e] at hp hb
      have hl : (nd.p.length : Int) = 2 := hp
      unfold bndB at hb
      rw [if_pos rfl,nearB_iff] at hb
      exact ⟨by omega,hb 0 (by omega) (by omega),hb 1 (by omega) (by omega)⟩
    · rw [e] at hp hb
      have hl : (nd.p.length : Int) = 8 := hp
      have hb : (nearB nd.p 0 2 (-1048576) 1048576 && (nearB nd.p 2 4 0 255 && pixB nd.p 4)) = true := hb
      simp only [Bool.and_eq_true,nearB_iff] at hb
      exact ⟨by omega,hb.1 0 (by omega) (by omega),hb.1 1 (by omega) (by omega)⟩
  · have hl : (nd.p.length : Int) = 2 := by rcases e with e | e | e <;> (rw [e] at hp; exact hp)
    have hb : nearB nd.p 0 2 0 255 = true := by rcases e with e | e | e <;> (rw [e] at hb; exact hb)
    rw [nearB_iff] at hb
    exact ⟨by omega,hb 0 (by omega) (by omega),hb 1 (by omega) (by omega)⟩
  · have hl : (nd.p.length : Int) = 4 := by rcases e with e | e <;> (rw [e] at hp; exact hp)
    have hb : nearB nd.p 0 4 (-1048576) 1048576 = true := by
      rcases e with e | e
      · rw [e] at hb; exact hb
      · rw [e] at hb
        have hb : (nearB nd.p 0 4 (-1048576) 1048576 && (decide (nd.p.getD 0 0 < nd.p.getD 2 0) && (decide (nd.p.getD 1 0 < nd.p.getD 3 0) && (decide (nd.p.getD 2 0 - nd.p.getD 0 0 ≤ 4096) && decide (nd.p.getD 3 0 - nd.p.getD 1 0 ≤ 4096))))) = true := hb
        rw [Bool.and_eq_true] at hb
        exact hb.1
    rw [nearB_iff] at hb
    refine ⟨by omega,?_,?_,?_,?_⟩
    · have := hb 0 (by omega) (by omega); unfold Pl pbox; dsimp only; omega
    · have := hb 1 (by omega) (by omega); unfold Pl pbox; dsimp only; omega
    · have := hb 2 (by omega) (by omega); unfold Pl pbox; dsimp only; omega
    · have := hb 3 (by omega) (by omega); unfold Pl pbox; dsimp only; omega
  · rw [e] at hp hb
    have hl : (nd.p.length : Int) = 8 := hp
    have hb : (nearB nd.p 0 2 (-1048576) 1048576 && (nearB nd.p 2 4 0 255 && pixB nd.p 4)) = true := hb
    simp only [Bool.and_eq_true,nearB_iff] at hb
    exact ⟨by omega,hb.2.1 2 (by omega) (by omega),hb.2.1 3 (by omega) (by omega)⟩
  · obtain ⟨j,hj,rfl⟩ := List.mem_iff_getElem.1 hx
    have := hn j (by omega) hj
    rw [List.getD_eq_getElem?_getD,List.getElem?_eq_getElem hj,Option.getD_some] at this
    omega
theorem goodN_of {nds : List Nd} {out : Int} (h : rightB nds out = true) : GoodN nds out := by
  unfold rightB at h
  rw [Bool.and_eq_true] at h
  obtain ⟨h1,h2⟩ := few_of h.1 (by omega)
  have hc := eq_of_beq h.2
  unfold chkB at hc
  by_cases c1 : nds.length < 1 ∨ 256 < nds.length
  · rw [if_pos c1] at hc; omega
  · rw [if_neg c1] at hc
    by_cases c2 : badB nds nds.length ≠ 0
    · rw [if_pos c2] at hc; exact absurd hc c2
    · rw [if_neg c2] at hc
      have hbad : ∀ q,q < nds.length → oneB (nds.getD q Nd.none) nds.length = 0 := (badB_iff _ _).1 (by simpa using c2)
      by_cases c3 : out < 0 ∨ (nds.length : Int) ≤ out
      · rw [if_pos c3] at hc; omega
      · rw [if_neg c3] at hc
        by_cases c4 : (ord (insOf nds)).length < nds.length
        · rw [if_pos c4] at hc; omega
        · refine ⟨h1,h2,by omega,by omega,fun i hi => ?_,fun i hi => (pa_of (hbad i hi)).1,fun i hi => (pa_of (hbad i hi)).2⟩
          have h5 := ord_len (insOf nds)
          rw [insOf_len] at h5
          exact (ord_full (insOf nds)).1 (by rw [insOf_len]; omega) i (by rw [insOf_len]; exact hi)
end Go.Proofs.YtaoamkbcegadcaaGreatDoor
/- Layer 14: what is needed: plain laws. -/
namespace Go.Proofs.YtaoamkbcegadcaaGreatDoor
open Go.RowKit Go.Bx Go.Od Go.Hp
set_option linter.unusedVariables false

def WiS (a b : Rc) : Prop := a.emp = true ∨ (b.x0 ≤ a.x0 ∧ b.y0 ≤ a.y0 ∧ a.x1 ≤ b.x1 ∧ a.y1 ≤ b.y1)
theorem emp_iff (r : Rc) : r.emp = true ↔ r.x1 ≤ r.x0 ∨ r.y1 ≤ r.y0 := by simp [Rc.emp]
theorem nemp_iff (r : Rc) : r.emp = false ↔ r.x0 < r.x1 ∧ r.y0 < r.y1 := by simp [Rc.emp]
theorem WiS.refl (a : Rc) : WiS a a := .inr ⟨Int.le_refl _,Int.le_refl _,Int.le_refl _,Int.le_refl _⟩
theorem WiS.trans {a b c : Rc} (h : WiS a b) (k : WiS b c) : WiS a c := by
  unfold WiS at *
  rw [emp_iff] at *
  omega
theorem WiS.nemp {a b : Rc} (h : WiS a b) (ha : a.emp = false) : b.emp = false := by
  unfold WiS at h
  rw [nemp_iff] at *
  rw [emp_iff] at h
  omega
theorem join_l (a b : Rc) : WiS a (joinR a b) := by
  cases ha : a.emp with
  | true => exact .inl ha
  | false =>
    cases hb : b.emp with
    | true => rw [joinR_ft ha hb]; exact WiS.refl _
    | false => rw [joinR_ff ha hb]; refine .inr ⟨?_,?_,?_,?_⟩ <;> (dsimp only; omega)
/-! ### states -/
def SL (s t : (Nat → Rc) × Rc) : Prop := (∀ k,WiS (s.1 k) (t.1 k)) ∧ WiS s.2 t.2
theorem SL.refl (s : (Nat → Rc) × Rc) : SL s s := ⟨fun _ => WiS.refl _,WiS.refl _⟩
theorem SL.trans {s t u : (Nat → Rc) × Rc} (h : SL s t) (k : SL t u) : SL s u := ⟨fun i => (h.1 i).trans (k.1 i),h.2.trans k.2⟩
theorem stepN_eq (nds : List Nd) (s : (Nat → Rc) × Rc) (k : Nat) : stepN nds s k = updL s (nds.getD k Nd.none).ins (ofR (nds.getD k Nd.none) (s.1 k)) := rfl
theorem upd_up (s : (Nat → Rc) × Rc) (x : Int) (r : Rc) : SL s (updN s x r) := by
  unfold updN
  split
  · exact ⟨fun _ => WiS.refl _,join_l _ _⟩
  · refine ⟨fun k => ?_,WiS.refl _⟩
    dsimp only
    split
    · exact join_l _ _
    · exact WiS.refl _
theorem updL_up (r : Rc) : ∀ (xs : List Int) (s : (Nat → Rc) × Rc),SL s (updL s xs r)
  | [],s => SL.refl s
  | x :: xs,s => (upd_up s x r).trans (updL_up r xs _)
theorem fold_up (nds : List Nd) : ∀ (l : List Nat) (s : (Nat → Rc) × Rc),SL s (l.foldl (stepN nds) s)
  | [],s => SL.refl s
  | k :: l,s => (by rw [stepN_eq]; exact updL_up _ _ _ : SL s (stepN nds s k)).trans (fold_up nds l _)
def there (s : (Nat → Rc) × Rc) (x : Int) : Rc := if x = -1 then s.2 else s.1 x.toNat
noncomputable def allN (nds : List Nd) (want : Rc) (out : Int) : (Nat → Rc) × Rc := (ord (insOf nds)).reverse.foldl (stepN nds) (startN want out)
theorem covers_out (nds : List Nd) (want : Rc) (out : Nat) : WiS want ((allN nds want out).1 out) := by
  refine WiS.trans ?_ ((fold_up nds _ (startN want out)).1 out)
  unfold startN
  dsimp only
  rw [if_pos rfl]
  exact join_l _ _
/-! ### of nodes that are not needed nothing is asked -/
theorem GoodN.cv {nds : List Nd} {out : Int} (hg : GoodN nds out) {a : Rc} (ha : RcP a) : CvN (allN nds a out) := by
  have : ∀ (l : List Nat) {st : (Nat → Rc) × Rc},(∀ k ∈ l,k < nds.length) → CvN st → CvN (l.foldl (stepN nds) st) := by
    intro l
    induction l with
    | nil => intro st _ h; exact h
    | cons x l ih => intro st hl h; exact ih (fun j hj => hl j (by simp [hj])) (h.step (hg.pa _ (hl x (by simp))))
  exact this _ (fun k hk => by have := (ord_fine (insOf nds)).bound k (by simpa using hk); rwa [insOf_len] at this) (CvN.start ha out)
end Go.Proofs.YtaoamkbcegadcaaGreatDoor
