/- A region that draws its order and whose operations only make memory: what each yields is told by an assertion that lasts. Each operation is looked at once. Plain: no program. -/
import Derived.Test.YtmhfabekmgcjnaaDoorKept
namespace Go.Bx
open Go.RowKit
set_option linter.unusedVariables false

/-- what an operation does, told by the value that it yields and the world behind it -/
def gives (P : Program) (o : Oper) (ev : Operand → Value) (w : World) (R : Value → World → Prop) : Prop :=
  match (execOp ev o).run P w with
  | .ok (.value v) w' => R v w'
  | .ok .skip w' => R undef w'
  | .ok (.enter f args) w' => Calls P f args w' (fun e w'' => ∃ v, e = .returned v ∧ R v w'')
  | _ => False
def stepsTo (P : Program) (ops : Array Oper) (o : Oper) (a : Act) (w : World) (R : Value → World → Prop) : Prop :=
  if Region.wanted o (yielded ops a.tmps) = true then gives P o a.eval w R else R undef w
def upd {α : Type} (L : Nat → α) (i : Nat) (v : α) : Nat → α := fun j => if j = i then v else L j
/-- the frame when the operations of L have yielded vs -/
def fr (L : Nat → Bool) (vs : Nat → Value) : List Oper → Nat → Act → Act
  | [], _, a => a
  | o :: l, k, a => fr L vs l (k + 1) (if L k = true then a.put o.dst (vs k) else a)
def depB (o : Oper) (j : Nat) : Bool := o.after.any fun e => Region.binds .any e && e.on == j
def monoB (l : List Oper) : Bool :=
  Region.noSelect l.toArray &&
  (List.range l.length).all fun i => match l[i]? with
    | none => false
    | some oi => (oi.after.all fun e => !Region.binds .any e || decide (e.on < i)) &&
        (i + 1 == l.length || (List.range l.length).any fun j => decide (i < j) && match l[j]? with
          | some oj => depB oj i
          | none => false) &&
        (List.range l.length).all fun j => match l[j]? with
          | none => false
          | some oj => match oj.dst with
            | none => true
            | some d => (i == j || oi.dst != some d) && (!(oi.looksAt l.toArray).contains d || depB oi j)

theorem gives_put {P : Program} {o : Oper} {a : Act} {w : World} {R : Value → World → Prop} {K : Act → World → Prop} {Q : Exit → Act → World → Prop} (h : gives P o a.eval w R) (hK : ∀ v w', R v w' → K (a.put o.dst v) w') : o.wp P a w K Q := by
  unfold gives at h
  unfold Oper.wp
  generalize (execOp a.eval o).run P w = r at *
  cases r with
  | ok n w' =>
    cases n <;> simp only [] at h <;> simp only [Oper.upon]
    case value u => exact hK _ _ h
    case skip => exact hK _ _ h
    case enter f args => exact h.mono fun e w'' ⟨v, he, hr⟩ => by subst he; exact hK _ _ hr
  | halt x w' => cases h
theorem gives_mono {P : Program} {o : Oper} {ev : Operand → Value} {w : World} {R R' : Value → World → Prop} (h : gives P o ev w R) (hR : ∀ v w', R v w' → R' v w') : gives P o ev w R' := by
  unfold gives at *
  generalize (execOp ev o).run P w = r at *
  cases r with
  | ok n w' =>
    cases n <;> simp only [] at h ⊢
    case value u => exact hR _ _ h
    case skip => exact hR _ _ h
    case enter f args => exact h.mono fun e w'' ⟨v, he, hr⟩ => ⟨v, he, hR _ _ hr⟩
  | halt x w' => cases h

theorem fr_congr {L L' : Nat → Bool} {vs vs' : Nat → Value} : ∀ (l : List Oper) (k : Nat) (a : Act), (∀ j, k ≤ j → L j = L' j ∧ vs j = vs' j) → fr L vs l k a = fr L' vs' l k a
  | [], _, _, _ => rfl
  | o :: l, k, a, h => by
    have h0 := h k (Nat.le_refl _)
    simp only [fr, h0.1, h0.2]
    exact fr_congr l (k + 1) _ fun j hj => h j (by omega)
theorem fr_put {L : Nat → Bool} {vs : Nat → Value} {d : Option Tmp} {v : Value} : ∀ (l : List Oper) (k : Nat) (a : Act), (∀ o ∈ l, ∀ t, d = some t → o.dst ≠ some t) → fr L vs l k (a.put d v) = (fr L vs l k a).put d v
  | [], _, _, _ => rfl
  | o :: l, k, a, h => by
    simp only [fr]
    rw [← fr_put l (k + 1) _ fun o' ho' => h o' (List.mem_cons_of_mem _ ho')]
    split
    · rw [Act.put_comm a v (vs k) (h o List.mem_cons_self)]
    · rfl
theorem fr_step {L : Nat → Bool} {vs : Nat → Value} {v : Value} : ∀ (l : List Oper) (k i : Nat) (a : Act) (o : Oper), l[i]? = some o → L (k + i) = false → (∀ j o', l[j]? = some o' → j ≠ i → ∀ t, o.dst = some t → o'.dst ≠ some t) →
    fr (upd L (k + i) true) (upd vs (k + i) v) l k a = (fr L vs l k a).put o.dst v
  | [], _, _, _, _, h, _, _ => by simp at h
  | x :: l, k, 0, a, o, h, hL, hd => by
    simp at h
    subst h
    have e : L k = false := hL
    simp only [fr, Nat.add_zero, upd, e, if_true, Bool.false_eq_true, if_false]
    rw [fr_congr (L' := L) (vs' := vs) l (k + 1) _ fun j hj => by
      have : j ≠ k := by omega
      exact ⟨if_neg this, if_neg this⟩]
    exact fr_put l (k + 1) a fun o' ho' => by
      obtain ⟨j, hj⟩ := List.getElem?_of_mem ho'
      exact hd (j + 1) o' (by simpa using hj) (by omega)
  | x :: l, k, i + 1, a, o, h, hL, hd => by
    have hk : k ≠ k + (i + 1) := by omega
    simp only [fr]
    have e1 : upd L (k + (i + 1)) true k = L k := if_neg hk
    have e2 : upd vs (k + (i + 1)) v k = vs k := if_neg hk
    rw [e1, e2, show k + (i + 1) = (k + 1) + i by omega]
    exact fr_step l (k + 1) i _ o (by simpa using h) (by rw [← hL]; congr 1; omega) fun j o' hj hne => hd (j + 1) o' (by simpa using hj) (by omega)
theorem put_at {a a' : Act} {t : Tmp} (h : a.tmps[t]? = a'.tmps[t]?) (d : Option Tmp) (v : Value) : (a.put d v).tmps[t]? = (a'.put d v).tmps[t]? := by
  cases d with
  | none => exact h
  | some d =>
    simp only [Act.put, Array.getElem?_setIfInBounds]
    by_cases e : d = t
    · subst e
      simp only [if_true]
      rcases Nat.lt_or_ge d a.tmps.size with h1 | h1
      · rcases Nat.lt_or_ge d a'.tmps.size with h2 | h2
        · simp [h1, h2]
        · rw [Array.getElem?_eq_none h2, Array.getElem?_eq_getElem h1] at h; cases h
      · rcases Nat.lt_or_ge d a'.tmps.size with h2 | h2
        · rw [Array.getElem?_eq_none h1, Array.getElem?_eq_getElem h2] at h; cases h
        · simp [Nat.not_lt.2 h1, Nat.not_lt.2 h2]
    · simp only [e, if_false]; exact h
theorem put_off {a : Act} {t : Tmp} (d : Option Tmp) (v : Value) (h : d ≠ some t) : (a.put d v).tmps[t]? = a.tmps[t]? := by
  cases d with
  | none => rfl
  | some d =>
    have : d ≠ t := fun e => h (by rw [e])
    simp [Act.put, this]
theorem fr_at {L L' : Nat → Bool} {vs : Nat → Value} {t : Tmp} : ∀ (l : List Oper) (k : Nat) (a a' : Act), a.tmps[t]? = a'.tmps[t]? → (∀ j o, l[j]? = some o → o.dst = some t → L (k + j) = L' (k + j)) → (fr L vs l k a).tmps[t]? = (fr L' vs l k a').tmps[t]?
  | [], _, _, _, h, _ => h
  | o :: l, k, a, a', h, hd => by
    simp only [fr]
    refine fr_at l (k + 1) _ _ ?_ fun j o' hj ho' => by
      have := hd (j + 1) o' (by simpa using hj) ho'
      rw [show k + (j + 1) = k + 1 + j by omega] at this
      exact this
    by_cases e : o.dst = some t
    · have := hd 0 o rfl e
      rw [Nat.add_zero] at this
      rw [this]
      split
      · exact put_at h _ _
      · exact h
    · split <;> split
      · rw [put_off _ _ e, put_off _ _ e]; exact h
      · rw [put_off _ _ e]; exact h
      · rw [put_off _ _ e]; exact h
      · exact h

theorem exec_same {ops : Array Oper} (o : Oper) (hs : ∀ cs b, o.op ≠ .select cs b) {a a' : Act} (h : ∀ t ∈ o.looksAt ops, a.tmps[t]? = a'.tmps[t]?) : execOp a.eval o = execOp a'.eval o :=
  execOp_congr o hs fun x hx => by
    cases x with
    | tmp t => simp only [Act.eval, Array.getD_eq_getD_getElem?]; rw [h t (List.mem_append_left _ (List.mem_filterMap.2 ⟨.tmp t, by simpa using hx, rfl⟩))]
    | _ => rfl
theorem wanted_same {ops : Array Oper} (o : Oper) {a a' : Act} (h : ∀ t ∈ o.looksAt ops, a.tmps[t]? = a'.tmps[t]?) : Region.wanted o (yielded ops a.tmps) = Region.wanted o (yielded ops a'.tmps) := by
  unfold Region.wanted
  cases hg : o.guard with
  | none => rfl
  | some gw =>
    obtain ⟨g, want⟩ := gw
    have hy : yielded ops a.tmps g = yielded ops a'.tmps g := by
      unfold yielded
      cases ht : (ops[g]?).bind (·.dst) with
      | none => rfl
      | some t =>
        simp only [Option.bind_some]
        rw [h t (by simp [Oper.looksAt, hg, ht])]
    simp only [hy]
theorem steps_same {P : Program} {ops : Array Oper} (o : Oper) (hs : ∀ cs b, o.op ≠ .select cs b) {a a' : Act} {w : World} {R : Value → World → Prop} (h : ∀ t ∈ o.looksAt ops, a.tmps[t]? = a'.tmps[t]?) (k : stepsTo P ops o a w R) : stepsTo P ops o a' w R := by
  unfold stepsTo gives at *
  rw [exec_same o hs h, wanted_same o h] at k
  exact k
theorem any_done {P : Program} {md : Region.Mode} {ops : Array Oper} {Q : Exit → Act → World → Prop} {listed : Array Bool} {a : Act} {w : World} (h : Region.ready md ops listed = []) (hq : Q .normal a w) : ∀ fuel, wpAny P md ops Q fuel listed a w
  | 0 => ⟨h, hq⟩
  | _ + 1 => ⟨fun _ => hq, fun i hi => by rw [h] at hi; cases hi⟩
theorem countP_one {f g : Nat → Bool} {i : Nat} (hf : f i = true) (hg : g i = false) (hne : ∀ j, j ≠ i → g j = f j) : ∀ n, i < n → (List.range n).countP g + 1 = (List.range n).countP f
  | 0, h => by omega
  | n + 1, h => by
    rw [List.range_succ, List.countP_append, List.countP_append]
    by_cases e : i = n
    · subst e
      have : (List.range i).countP g = (List.range i).countP f := List.countP_congr fun x hx => by
        have := List.mem_range.1 hx
        rw [hne x (by omega)]
      simp [this, hf, hg]
    · have := countP_one hf hg hne n (by omega)
      have e2 : [n].countP g = [n].countP f := by simp [List.countP_cons, hne n (fun x => e x.symm)]
      rw [e2]; omega

section
variable {P : Program} {Q : Exit → Act → World → Prop} {a0 : Act} {w0 : World} {l : List Oper}

/-- a statement, shut to whoever looks at a goal -/
structure Shut (p : Prop) : Prop where
  out : p
/-- what is asked of operation i -/
def OpOk (P : Program) (l : List Oper) (a0 : Act) (w0 : World) (T : Nat → Value → World → Prop) (i : Nat) : Prop :=
  ∀ o, l[i]? = some o → ∀ vs w, Below w0.heap.size w0 w → (∀ j, depB o j = true → T j (vs j) w) → stepsTo P l.toArray o (fr (fun _ => true) vs l 0 a0) w (fun v w' => T i v w' ∧ Below w.heap.size w w')

theorem mono_any (T : Nat → Value → World → Prop) (k : Nat) (last : Oper) (hl : l[k]? = some last) (hlen : l.length = k + 1) (hsel : Region.noSelect l.toArray = true)
    (hacyc : ∀ i oi, l[i]? = some oi → ∀ e ∈ oi.after, Region.binds .any e = true → e.on < i)
    (hcl : ∀ i, i < k → ∃ j oj, i < j ∧ l[j]? = some oj ∧ depB oj i = true)
    (hdst : ∀ i j oi oj d, l[i]? = some oi → l[j]? = some oj → oj.dst = some d → (i = j ∨ oi.dst ≠ some d) ∧ (d ∈ oi.looksAt l.toArray → depB oi j = true))
    (hstab : ∀ i v w w', T i v w → Below w.heap.size w w' → T i v w')
    (hop : ∀ i, i < k → OpOk P l a0 w0 T i)
    (hlast : ∀ vs w, Below w0.heap.size w0 w → (∀ i, i < k → T i (vs i) w) → stepsTo P l.toArray last (fr (fun j => decide (j < k)) vs l 0 a0) w (fun v w' => Q .normal ((fr (fun j => decide (j < k)) vs l 0 a0).put last.dst v) w')) :
    ∀ (fuel : Nat) (listed : Array Bool) (vs : Nat → Value) (w : World), listed.size = l.length →
      (∀ i oi, l[i]? = some oi → listed.getD i false = true → ∀ e ∈ oi.after, Region.binds .any e = true → listed.getD e.on false = true) →
      listed.getD k false = false → (∀ i, i < k → listed.getD i false = true → T i (vs i) w) → Below w0.heap.size w0 w → (List.range l.length).countP (fun i => !listed.getD i false) ≤ fuel →
      wpAny P .any l.toArray Q fuel listed (fr (fun j => listed.getD j false) vs l 0 a0) w := by
  intro fuel
  induction fuel with
  | zero =>
    intro listed vs w hsz hdown hk hT hw hf
    have : 0 < (List.range l.length).countP (fun i => !listed.getD i false) := List.countP_pos_iff.2 ⟨k, List.mem_range.2 (by omega), by simp [hk]⟩
    omega
  | succ fuel ih =>
    intro listed vs w hsz hdown hk hT hw hf
    have hgd : ∀ j, j < l.length → listed.getD j true = listed.getD j false := fun j hj => by
      rw [← hsz] at hj
      simp [hj]
    have hout : ∀ j, l.length ≤ j → listed.getD j false = false := fun j hj => by
      rw [← hsz] at hj
      simp [Array.getElem?_eq_none hj]
    have hselo : ∀ (j : Nat) (o : Oper) cs b, l[j]? = some o → o.op ≠ .select cs b := fun j o cs b ho => Region.noSelect_spec hsel j o cs b (by simpa using ho)
    refine ⟨fun h => ?_, fun i hi => ?_⟩
    · exfalso
      -- the least that has not come up may come up
      have hex : ∃ m, m ≤ k ∧ listed.getD m false = false ∧ ∀ j, j < m → listed.getD j false = true := by
        clear h hT hw hf hdown
        have : ∀ n, (∃ m, m ≤ n ∧ listed.getD m false = false ∧ ∀ j, j < m → listed.getD j false = true) ∨ ∀ j, j ≤ n → listed.getD j false = true := by
          intro n
          induction n with
          | zero =>
            cases e : listed.getD 0 false with
            | false => exact .inl ⟨0, Nat.le_refl _, e, fun j hj => by omega⟩
            | true => exact .inr fun j hj => by rw [show j = 0 by omega]; exact e
          | succ n ihn =>
            rcases ihn with ⟨m, hm, h1, h2⟩ | h1
            · exact .inl ⟨m, by omega, h1, h2⟩
            · cases e : listed.getD (n + 1) false with
              | false => exact .inl ⟨n + 1, Nat.le_refl _, e, fun j hj => h1 j (by omega)⟩
              | true =>
                refine .inr fun j hj => ?_
                by_cases hjn : j ≤ n
                · exact h1 j hjn
                · rw [show j = n + 1 by omega]; exact e
        rcases this k with h2 | h2
        · exact h2
        · rw [h2 k (Nat.le_refl _)] at hk; cases hk
      obtain ⟨m, hm, h1, h2⟩ := hex
      obtain ⟨o, ho⟩ : ∃ o, l[m]? = some o := ⟨_, List.getElem?_eq_getElem (by omega)⟩
      have : m ∈ Region.ready .any l.toArray listed := mem_ready.2 ⟨by rw [hgd m (by omega)]; exact h1, o, by simpa using ho, fun e he hb => h2 _ (hacyc m o ho e he hb)⟩
      rw [h] at this
      cases this
    · obtain ⟨hun, o, ho', hdeps⟩ := mem_ready.1 hi
      have ho : l[i]? = some o := by simpa using ho'
      have hil : i < l.length := (List.getElem?_eq_some_iff.1 ho).1
      rw [hgd i hil] at hun
      have hdep : ∀ j, depB o j = true → listed.getD j false = true := fun j hj => by
        unfold depB at hj
        rw [Array.any_eq_true'] at hj
        obtain ⟨e, he, hb⟩ := hj
        simp only [Bool.and_eq_true, beq_iff_eq] at hb
        rw [← hb.2]
        exact hdeps e he hb.1
      have hlooks : ∀ (L' : Nat → Bool), (∀ j, depB o j = true → L' j = true) → ∀ t ∈ o.looksAt l.toArray, (fr L' vs l 0 a0).tmps[t]? = (fr (fun j => listed.getD j false) vs l 0 a0).tmps[t]? := fun L' hL' t ht =>
        fr_at l 0 a0 a0 rfl fun j oj hj hd => by
          have hd2 := (hdst i j o oj t ho hj hd).2 ht
          rw [Nat.zero_add, hL' j hd2, hdep j hd2]
      by_cases hik : i = k
      · subst hik
        rw [hl] at ho
        cases ho
        have hall : ∀ n j, i - j ≤ n → j < i → listed.getD j false = true := by
          intro n
          induction n with
          | zero => intro j h1 h2; omega
          | succ n ihn =>
            intro j h1 h2
            obtain ⟨m, om, hm, hom, hd⟩ := hcl j h2
            have hml : m < l.length := (List.getElem?_eq_some_iff.1 hom).1
            by_cases e : m = i
            · subst e
              rw [hl] at hom
              cases hom
              exact hdep j hd
            · have := ihn m (by omega) (by omega)
              unfold depB at hd
              rw [Array.any_eq_true'] at hd
              obtain ⟨e', he, hb⟩ := hd
              simp only [Bool.and_eq_true, beq_iff_eq] at hb
              rw [← hb.2]
              exact hdown m om hom this e' he hb.1
        have hL : ∀ j, listed.getD j false = decide (j < i) := fun j => by
          by_cases h1 : j < i
          · rw [hall i j (by omega) h1]; simp [h1]
          · rw [decide_eq_false h1]
            by_cases h2 : j = i
            · rw [h2]; exact hun
            · exact hout j (by omega)
        have hfr : fr (fun j => listed.getD j false) vs l 0 a0 = fr (fun j => decide (j < i)) vs l 0 a0 := fr_congr l 0 a0 fun j _ => ⟨hL j, rfl⟩
        rw [hfr]
        have hs := hlast vs w hw (fun j hj => hT j hj (hall i j (by omega) hj))
        have hdone : ∀ a w', Q .normal a w' → wpAny P .any l.toArray Q fuel (listed.setIfInBounds i true) a w' := fun a w' hq => any_done (by
          rw [List.eq_nil_iff_forall_not_mem]
          intro j hj
          obtain ⟨h1, oj, hoj, _⟩ := mem_ready.1 hj
          by_cases e : i = j
          · subst e
            have : i < listed.size := by omega
            simp [this] at h1
          · rw [getD_set_ne true e] at h1
            have hjl : j < l.length := (List.getElem?_eq_some_iff.1 (by simpa using hoj)).1
            rw [hgd j hjl, hall i j (by omega) (by omega)] at h1
            cases h1) hq fuel
        unfold wpOp
        simp only [ho']
        unfold stepsTo at hs
        split
        · rename_i hw'
          simp only [hw', if_true] at hs
          exact .inl (gives_put hs fun v w' h => hdone _ _ h)
        · rename_i hw'
          simp only [hw'] at hs
          exact hdone _ _ hs
      · have hs0 := hop i (by omega) o ho vs w hw (fun j hj => hT j (by
          unfold depB at hj
          rw [Array.any_eq_true'] at hj
          obtain ⟨e, he, hb⟩ := hj
          simp only [Bool.and_eq_true, beq_iff_eq] at hb
          have := hacyc i o ho e he hb.1
          omega) (hdep j hj))
        have hs := steps_same o (fun cs b => hselo i o cs b ho) (hlooks (fun _ => true) fun _ _ => rfl) hs0
        have hnext : ∀ v w', T i v w' ∧ Below w.heap.size w w' → wpAny P .any l.toArray Q fuel (listed.setIfInBounds i true) ((fr (fun j => listed.getD j false) vs l 0 a0).put o.dst v) w' := by
          intro v w' ⟨hTv, hb⟩
          have hset : ∀ j, (listed.setIfInBounds i true).getD j false = upd (fun j => listed.getD j false) i true j := fun j => by
            by_cases e : i = j
            · subst e
              have : i < listed.size := by omega
              simp [this, upd]
            · rw [getD_set_ne false e]; exact (if_neg fun h => e h.symm).symm
          have hfr : fr (fun j => (listed.setIfInBounds i true).getD j false) (upd vs i v) l 0 a0 = (fr (fun j => listed.getD j false) vs l 0 a0).put o.dst v := by
            rw [fr_congr (L' := upd (fun j => listed.getD j false) (0 + i) true) (vs' := upd vs (0 + i) v) l 0 a0 fun j _ => by rw [Nat.zero_add]; exact ⟨hset j, rfl⟩]
            exact fr_step l 0 i a0 o ho (by rw [Nat.zero_add]; exact hun) fun j o' hj hne t ht => by
              rcases (hdst j i o' o t hj ho ht).1 with h | h
              · exact absurd h hne
              · exact h
          rw [← hfr]
          refine ih _ _ w' (by simpa using hsz) ?_ ?_ ?_ (hw.trans (hb.mono hw.size)) ?_
          · intro j oj hj hlj e he hbd
            rw [hset] at hlj
            rw [hset]
            by_cases e1 : e.on = i
            · exact if_pos e1
            · rw [show upd (fun j => listed.getD j false) i true e.on = listed.getD e.on false from if_neg e1]
              by_cases e2 : j = i
              · subst e2
                rw [ho] at hj
                cases hj
                exact hdeps e he hbd
              · rw [show upd (fun j => listed.getD j false) i true j = listed.getD j false from if_neg e2] at hlj
                exact hdown j oj hj hlj e he hbd
          · rw [hset]; rw [show upd (fun j => listed.getD j false) i true k = listed.getD k false from if_neg fun h => hik h.symm]; exact hk
          · intro j hj hlj
            by_cases e : j = i
            · subst e
              rw [show upd vs j v j = v from if_pos rfl]; exact hTv
            · rw [show upd vs i v j = vs j from if_neg e]
              rw [hset, show upd (fun j => listed.getD j false) i true j = listed.getD j false from if_neg e] at hlj
              exact hstab j _ w w' (hT j hj hlj) hb
          · have := countP_one (f := fun i => !listed.getD i false) (g := fun j => !(listed.setIfInBounds i true).getD j false) (i := i) (by simp only [hun]; rfl) (by simp only [hset, upd, if_true]; rfl) (fun j hj => by
              simp only [hset]
              rw [show upd (fun j => listed.getD j false) i true j = listed.getD j false from if_neg hj]) l.length hil
            omega
        unfold wpOp
        simp only [ho']
        unfold stepsTo at hs
        split
        · rename_i hw'
          simp only [hw', if_true] at hs
          exact .inl (gives_put hs hnext)
        · rename_i hw'
          simp only [hw'] at hs
          exact hnext _ _ hs

/-- **A region whose operations only make memory**: each operation is looked at once, wherever it comes up; the last one when all have come up. -/
theorem wp_region_mono {id : Nat} (T : Nat → Value → World → Prop) (k : Nat) (last : Oper) (hl : l[k]? = some last) (hlen : l.length = k + 1) (hm : P.follows .mixedOrders = true) (hB : monoB l = true)
    (hstab : ∀ i v w w', T i v w → Below w.heap.size w w' → T i v w')
    (hop : ∀ i, i < k → OpOk P l a0 w0 T i)
    (hlast : ∀ vs w, Below w0.heap.size w0 w → (∀ i, i < k → T i (vs i) w) → Shut (stepsTo P l.toArray last (fr (fun j => decide (j < k)) vs l 0 a0) w (fun v w' => Q .normal ((fr (fun j => decide (j < k)) vs l 0 a0).put last.dst v) w'))) :
    (Code.region id l.toArray true).wp P Q a0 w0 := by
  unfold monoB at hB
  rw [Bool.and_eq_true, List.all_eq_true] at hB
  obtain ⟨hsel, hB⟩ := hB
  have hB1 : ∀ i oi, l[i]? = some oi → _ := fun i oi hi => by
    have := hB i (List.mem_range.2 (List.getElem?_eq_some_iff.1 hi).1)
    simp only [hi, Bool.and_eq_true] at this
    exact this
  refine wp_region_any hm ?_
  have hfr : a0 = fr (fun j => (Array.replicate l.length false).getD j false) (fun _ => undef) l 0 a0 := by
    have hgen : ∀ (l' : List Oper) (k : Nat) (a : Act), a = fr (fun j => (Array.replicate l.length false).getD j false) (fun _ => undef) l' k a := by
      intro l'
      induction l' with
      | nil => intro _ _; rfl
      | cons o l' ih =>
        intro k a
        have : (Array.replicate l.length false).getD k false = false := by
          rcases Nat.lt_or_ge k l.length with h | h
          · simp [h]
          · simp [Array.getElem?_eq_none (xs := Array.replicate l.length false) (i := k) (by simpa using h)]
        simp only [fr, this, Bool.false_eq_true, if_false]
        exact ih (k + 1) a
    exact hgen l 0 a0
  have hrep : ∀ j, (Array.replicate l.length false).getD j false = false := fun k => by
    rcases Nat.lt_or_ge k l.length with h | h
    · simp [h]
    · simp [Array.getElem?_eq_none (xs := Array.replicate l.length false) (i := k) (by simpa using h)]
  have hmain := mono_any (P := P) (Q := Q) (a0 := a0) (w0 := w0) T k last hl hlen hsel ?_ ?_ ?_ hstab hop (fun vs w h1 h2 => (hlast vs w h1 h2).out) l.length (Array.replicate l.length false) (fun _ => undef) { w0 with drawn := w0.drawn + 1 } (by simp)
    (fun i _ _ h => by rw [hrep i] at h; cases h) (hrep k) (fun i _ h => by rw [hrep i] at h; cases h) ((Below.refl _ w0).drew) (by
      have := List.countP_le_length (p := fun i => !(Array.replicate l.length false).getD i false) (l := List.range l.length)
      simpa using this)
  · rw [← hfr] at hmain
    simpa using hmain
  · intro i oi hi e he hb
    have := (hB1 i oi hi).1.1
    rw [Array.all_eq_true'] at this
    have := this e he
    simpa [hb] using this
  · intro i hi
    have := (hB1 i l[i] (List.getElem?_eq_getElem (by omega))).1.2
    simp only [Bool.or_eq_true, beq_iff_eq, List.any_eq_true, Bool.and_eq_true, decide_eq_true_eq] at this
    rcases this with h | ⟨j, _, h1, h2⟩
    · omega
    · split at h2
      · rename_i oj hj
        exact ⟨j, oj, h1, hj, h2⟩
      · cases h2
  · intro i j oi oj d hi hj hd
    have := (hB1 i oi hi).2
    rw [List.all_eq_true] at this
    have := this j (List.mem_range.2 (List.getElem?_eq_some_iff.1 hj).1)
    simp only [hj, hd, Bool.and_eq_true, Bool.or_eq_true, beq_iff_eq, bne_iff_ne, Bool.not_eq_true', List.contains_eq_mem, decide_eq_false_iff_not, ne_eq] at this
    refine ⟨this.1, fun hm => ?_⟩
    rcases this.2 with h | h
    · exact absurd hm (by simpa using h)
    · exact h

/-- what an operation finds in the frame: what the others of the region yielded, and what stood there -/
structure Finds (L : Nat → Bool) (l : List Oper) (a0 : Act) (vs : Nat → Value) (ev : Operand → Value) : Prop where
  of : ∀ (j : Nat) (oj : Oper) (d : Tmp), L j = true → l[j]? = some oj → oj.dst = some d → d < a0.tmps.size → ev (.tmp d) = vs j
  off : ∀ t, (l.all fun o => o.dst != some t) = true → ev (.tmp t) = a0.eval (.tmp t)
  const : ∀ v, ev (.const v) = v
  func : ∀ f, ev (.func f) = .func (.func f) #[] #[]
theorem fr_off {L : Nat → Bool} {vs : Nat → Value} {t : Tmp} : ∀ (l : List Oper) (k : Nat) (a : Act), (∀ o ∈ l, o.dst ≠ some t) → (fr L vs l k a).tmps[t]? = a.tmps[t]?
  | [], _, _, _ => rfl
  | o :: l, k, a, h => by
    simp only [fr]
    rw [fr_off l (k + 1) _ fun o' ho' => h o' (List.mem_cons_of_mem _ ho')]
    split
    · exact put_off _ _ (h o List.mem_cons_self)
    · rfl
theorem put_size (a : Act) (d : Option Tmp) (v : Value) : (a.put d v).tmps.size = a.tmps.size := by cases d <;> simp [Act.put]
theorem fr_of {L : Nat → Bool} {vs : Nat → Value} {d : Tmp} : ∀ (l : List Oper) (k j : Nat) (a : Act) (oj : Oper), l[j]? = some oj → oj.dst = some d → L (k + j) = true → (∀ i o', l[i]? = some o' → i ≠ j → o'.dst ≠ some d) → d < a.tmps.size → (fr L vs l k a).tmps[d]? = some (vs (k + j))
  | [], _, _, _, _, h, _, _, _, _ => by simp at h
  | o :: l, k, 0, a, oj, h, hd, hL, hne, hlt => by
    simp at h
    subst h
    have e : L k = true := hL
    simp only [fr, e, if_true]
    rw [fr_off l (k + 1) _ fun o' ho' => by
      obtain ⟨i, hi⟩ := List.getElem?_of_mem ho'
      exact hne (i + 1) o' (by simpa using hi) (by omega)]
    rw [hd]
    simp [Act.put, hlt]
  | o :: l, k, j + 1, a, oj, h, hd, hL, hne, hlt => by
    simp only [fr]
    rw [fr_of l (k + 1) j _ oj (by simpa using h) hd (by rw [← hL]; congr 1; omega) (fun i o' hi hn => hne (i + 1) o' (by simpa using hi) (by omega)) (by split <;> first | exact hlt | (rw [put_size]; exact hlt))]
    congr 2; omega
theorem finds_fr {l : List Oper} {a0 : Act} {L : Nat → Bool} {vs : Nat → Value} (hB : monoB l = true) : Finds L l a0 vs (fr L vs l 0 a0).eval := by
  unfold monoB at hB
  rw [Bool.and_eq_true, List.all_eq_true] at hB
  refine ⟨fun j oj d hLj hj hd hlt => ?_, fun t ht => ?_, fun _ => rfl, fun _ => rfl⟩
  · have := fr_of (L := L) (vs := vs) l 0 j a0 oj hj hd (by rw [Nat.zero_add]; exact hLj) (fun i o' hi hne => by
      have := hB.2 i (List.mem_range.2 (List.getElem?_eq_some_iff.1 hi).1)
      simp only [hi, Bool.and_eq_true] at this
      have := this.2
      rw [List.all_eq_true] at this
      have := this j (List.mem_range.2 (List.getElem?_eq_some_iff.1 hj).1)
      simp only [hj, hd, Bool.and_eq_true, Bool.or_eq_true, beq_iff_eq, bne_iff_ne, ne_eq] at this
      rcases this.1 with h | h
      · exact absurd h hne
      · exact h) hlt
    rw [Nat.zero_add] at this
    simp only [Act.eval, Array.getD_eq_getD_getElem?, this, Option.getD_some]
  · rw [List.all_eq_true] at ht
    have := fr_off (L := L) (vs := vs) (t := t) l 0 a0 fun o ho => by simpa using ht o ho
    simp only [Act.eval, Array.getD_eq_getD_getElem?, this]

theorem OpOk.plain {T : Nat → Value → World → Prop} {i : Nat} (hB : monoB l = true) (o : Oper) (ho : l[i]? = some o) (hg : o.guard = none)
    (h : ∀ vs ev w, Finds (fun _ => true) l a0 vs ev → Below w0.heap.size w0 w → (∀ j, depB o j = true → T j (vs j) w) → gives P o ev w (fun v w' => T i v w' ∧ Below w.heap.size w w')) : OpOk P l a0 w0 T i := by
  intro o' ho' vs w hb hd
  rw [ho] at ho'
  cases ho'
  unfold stepsTo
  rw [if_pos (by simp [Region.wanted, hg])]
  exact h vs _ w (finds_fr hB) hb hd
/-- each below n -/
def Each (p : Nat → Prop) : Nat → Prop
  | 0 => True
  | n + 1 => Each p n ∧ p n
theorem Each.get {p : Nat → Prop} : ∀ {n : Nat}, Each p n → ∀ i, i < n → p i
  | 0, _, i, h => by omega
  | n + 1, ⟨h1, h2⟩, i, h => by
    by_cases e : i = n
    · rw [e]; exact h2
    · exact h1.get i (by omega)
/-- the last one, unguarded -/
theorem last_plain {k : Nat} {last : Oper} {vs : Nat → Value} {w : World} {Q : Exit → Act → World → Prop} (hB : monoB l = true) (hg : last.guard = none)
    (h : ∀ (F : Act) (ev : Operand → Value), F = fr (fun j => decide (j < k)) vs l 0 a0 → Finds (fun j => decide (j < k)) l a0 vs ev → gives P last ev w (fun v w' => Q .normal (F.put last.dst v) w')) :
    Shut (stepsTo P l.toArray last (fr (fun j => decide (j < k)) vs l 0 a0) w (fun v w' => Q .normal ((fr (fun j => decide (j < k)) vs l 0 a0).put last.dst v) w')) := by
  refine ⟨?_⟩
  unfold stepsTo
  rw [if_pos (by simp [Region.wanted, hg])]
  exact h _ _ rfl (finds_fr hB)
end
end Go.Bx
