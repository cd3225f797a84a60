/- Layer 11: the document's rounds of marking: plain laws. -/
import Derived.Test.YtmhfabekmgcjnaaDoorGa
namespace Go.Proofs.YtmhfabekmgcjnaaDoor
open Go.Od
set_option linter.unusedVariables false

/-- one round of marking, of whatever closure Q -/
theorem sweep_round {Q : (Nat → Bool) → Prop} {n t : Nat} {S0 S : Nat → Bool} (hP : Q S0 ∨ cntF n S0 + t ≤ n) (hb : ∀ r, S r = true → r < n) (mono : ∀ r, S0 r = true → S r = true) (keep : Q S0 → S = S0) (fin : S = S0 → Q S0) : Q S ∨ cntF n S + (t + 1) ≤ n := by
  by_cases e : S = S0
  · rw [e]; exact .inl (fin e)
  · rcases hP with h | h
    · exact absurd (keep h) e
    · right
      have hex : ∃ r, S r = true ∧ S0 r = false := by
        refine Classical.byContradiction fun hn => e (funext fun r => ?_)
        cases h0 : S0 r with
        | true => exact mono r h0
        | false =>
          cases h1 : S r with
          | false => rfl
          | true => exact absurd ⟨r, h1, h0⟩ hn
      obtain ⟨r, h1, h0⟩ := hex
      have hr := hb r h1
      have h2 : cntF n S + 1 ≤ cntF n S0 := by
        have h3 := cntF_set (n := n) (S := S0) hr h0
        have h4 : cntF n S ≤ cntF n (fun i => if i = r then true else S0 i) := by
          unfold cntF
          rw [← List.countP_eq_length_filter, ← List.countP_eq_length_filter]
          refine List.countP_mono_left fun x _ hx => ?_
          simp only [Bool.not_eq_true'] at hx ⊢
          by_cases e : x = r
          · subst e; rw [h1] at hx; cases hx
          · rw [if_neg e]
            cases h5 : S0 x with
            | false => rfl
            | true => rw [mono x h5] at hx; cases hx
        omega
      omega
theorem cntF_zero {n : Nat} {S : Nat → Bool} (h : cntF n S = 0) : ∀ r, r < n → S r = true := by
  intro r hr
  unfold cntF at h
  rw [List.length_eq_zero_iff, List.filter_eq_nil_iff] at h
  have := h r (List.mem_range.2 hr)
  simpa using this
theorem cntF_le (n : Nat) (S : Nat → Bool) : cntF n S ≤ n := by
  have := List.length_filter_le (fun i => !S i) (List.range n)
  simpa [cntF] using this

/-- a mark that is called for -/
theorem mark_eq {S0 S : Nat → Bool} {x : Nat} {b : Bool} (mono : ∀ r, S0 r = true → S r = true) (e : (fun r => if r = x then S x || b else S r) = S0) : S = S0 ∧ (b = true → S0 x = true) := by
  have h1 : ∀ r, S r = true → S0 r = true := fun r hr => by
    rw [← e]
    by_cases h : r = x
    · subst h; simp [hr]
    · simp [if_neg h, hr]
  refine ⟨funext fun r => ?_, fun hb => ?_⟩
  · cases h0 : S0 r with
    | true => exact mono r h0
    | false =>
      cases h2 : S r with
      | false => rfl
      | true => rw [h1 r h2] at h0; cases h0
  · rw [← e]; simp [hb]
theorem mark_mono {S0 S : Nat → Bool} {x : Nat} {b : Bool} (mono : ∀ r, S0 r = true → S r = true) : ∀ r, S0 r = true → (fun r => if r = x then S x || b else S r) r = true := fun r hr => by
  have := mono r hr
  by_cases h : r = x
  · subst h; simp [this]
  · simp [if_neg h, this]
theorem mark_sound {S : Nat → Bool} {p : Nat → Prop} {x : Nat} {b : Bool} (sound : ∀ r, S r = true → p r) (hb : b = true → p x) : ∀ r, (fun r => if r = x then S x || b else S r) r = true → p r := fun r hr => by
  by_cases h : r = x
  · subst h
    simp only [if_true, Bool.or_eq_true] at hr
    rcases hr with hr | hr
    · exact sound r hr
    · exact hb hr
  · simp only [if_neg h] at hr
    exact sound r hr
theorem mark_keep {S : Nat → Bool} {x : Nat} {b : Bool} (h : b = true → S x = true) : (fun r => if r = x then S x || b else S r) = S := by
  funext r
  by_cases e : r = x
  · subst e
    simp only [if_true]
    cases hb : b with
    | false => simp
    | true => simp [h hb]
  · simp [if_neg e]

/-! ### Round -/
def okr (n : Nat) (S : Nat → Bool) (xs : List Int) : Bool := xs.all fun x => decide (x < 0) || decide ((n : Int) ≤ x) || S x.toNat
theorem okr_snoc (n : Nat) (S : Nat → Bool) (xs : List Int) (x : Int) : okr n S (xs ++ [x]) = (okr n S xs && (decide (x < 0) || decide ((n : Int) ≤ x) || S x.toNat)) := by
  unfold okr
  rw [List.all_append]
  simp
theorem okr_iff (ins : List (List Int)) (S : Nat → Bool) (i : Nat) : okr ins.length S (ins.getD i []) = true ↔ ∀ k ∈ inp ins i, S k = true := by
  unfold okr
  rw [List.all_eq_true]
  constructor
  · intro h k hk
    obtain ⟨h1, h2⟩ := (inp_mem _ _ _).1 hk
    have := h _ h2
    simp only [Bool.or_eq_true, decide_eq_true_eq] at this
    rcases this with (h | h) | h
    · omega
    · omega
    · simpa using h
  · intro h x hx
    simp only [Bool.or_eq_true, decide_eq_true_eq]
    by_cases h0 : x < 0
    · exact .inl (.inl h0)
    · by_cases h1 : (ins.length : Int) ≤ x
      · exact .inl (.inr h1)
      · refine .inr (h x.toNat ((inp_mem _ _ _).2 ⟨by omega, ?_⟩))
        rw [show ((x.toNat : Nat) : Int) = x by omega]
        exact hx
def ClR (ins : List (List Int)) (S : Nat → Bool) : Prop := ∀ i, i < ins.length → (∀ k ∈ inp ins i, S k = true) → S i = true
/-- within a round: the first i nodes have been looked at -/
structure SwR (ins : List (List Int)) (i : Nat) (S0 S : Nat → Bool) : Prop where
  sound : ∀ r, S r = true → r ∈ ord ins
  mono : ∀ r, S0 r = true → S r = true
  keep : ClR ins S0 → S = S0
  part : S = S0 → ∀ j, j < i → (∀ k ∈ inp ins j, S0 k = true) → S0 j = true
def RInv (ins : List (List Int)) (t : Nat) (S : Nat → Bool) : Prop := (∀ r, S r = true → r ∈ ord ins) ∧ (ClR ins S ∨ cntF ins.length S + t ≤ ins.length)
theorem RInv.start (ins : List (List Int)) : RInv ins 0 fun _ => false := ⟨(fun r h => by cases h), .inr (cntF_le _ _)⟩
theorem RInv.sweep {ins : List (List Int)} {t : Nat} {S : Nat → Bool} (h : RInv ins t S) : SwR ins 0 S S := ⟨h.1, fun r h => h, fun _ => rfl, fun _ j hj => by omega⟩
theorem SwR.step {ins : List (List Int)} {i : Nat} {S0 S : Nat → Bool} (h : SwR ins i S0 S) (hi : i < ins.length) : SwR ins (i + 1) S0 (fun r => if r = i then S i || okr ins.length S (ins.getD i []) else S r) := by
  refine ⟨mark_sound h.sound fun hb => ord_closed ins hi fun k hk => h.sound k ((okr_iff _ _ _).1 hb k hk), mark_mono h.mono, fun hc => ?_, fun e j hj hk => ?_⟩
  · have hS := h.keep hc
    subst hS
    exact mark_keep fun hb => hc i hi ((okr_iff _ _ _).1 hb)
  · obtain ⟨h1, h2⟩ := mark_eq h.mono e
    by_cases hji : j < i
    · exact h.part h1 j hji hk
    · have : j = i := by omega
      subst this
      exact h2 ((okr_iff ins S j).2 (by rw [h1]; exact hk))
theorem SwR.fin {ins : List (List Int)} {t : Nat} {S0 S : Nat → Bool} (h : SwR ins ins.length S0 S) (hP : RInv ins t S0) : RInv ins (t + 1) S :=
  ⟨h.sound, sweep_round hP.2 (fun r hr => (ord_fine ins).bound r (h.sound r hr)) h.mono h.keep fun e => fun i hi hk => h.part e i hi hk⟩
/-- at the end just what stands in the order is marked -/
theorem RInv.done {ins : List (List Int)} {S : Nat → Bool} (h : RInv ins ins.length S) (i : Nat) (hi : i < ins.length) : S i = true ↔ i ∈ ord ins := by
  have hc : ClR ins S := by
    rcases h.2 with hc | hc
    · exact hc
    · exact fun i hi _ => cntF_zero (by omega) i hi
  exact ⟨h.1 i, ord_sub (S := fun i => S i = true) hc i⟩
theorem round_all {ins : List (List Int)} {S : Nat → Bool} (h : RInv ins ins.length S) (hall : ∀ i, i < ins.length → S i = true) : decide ((ord ins).length < ins.length) = false := by
  have := (ord_full ins).2 fun i hi => (h.done i hi).1 (hall i hi)
  exact decide_eq_false (by omega)
theorem round_one {ins : List (List Int)} {S : Nat → Bool} (h : RInv ins ins.length S) {i : Nat} (hi : i < ins.length) (hs : S i = false) : decide ((ord ins).length < ins.length) = true := by
  refine decide_eq_true ?_
  have h1 := ord_len ins
  have h2 : (ord ins).length ≠ ins.length := fun e => by
    have := (h.done i hi).2 ((ord_full ins).1 e i hi)
    rw [hs] at this
    cases this
  omega

/-! ### Needed -/
def ClN (ins : List (List Int)) (out : Int) (S : Nat → Bool) : Prop := (∀ i : Nat, i < ins.length → (i : Int) = out → S i = true) ∧ ∀ i, i < ins.length → S i = true → ∀ k ∈ inp ins i, S k = true
/-- within a round: the first i nodes have been looked at -/
structure SwN (ins : List (List Int)) (out : Int) (i : Nat) (S0 S : Nat → Bool) : Prop where
  sound : ∀ r, S r = true → Ned ins out r
  mono : ∀ r, S0 r = true → S r = true
  keep : ClN ins out S0 → S = S0
  part : S = S0 → ∀ j, j < i → ((j : Int) = out → S0 j = true) ∧ (S0 j = true → ∀ k ∈ inp ins j, S0 k = true)
/-- within a node: the first k places have been looked at -/
structure SwK (ins : List (List Int)) (out : Int) (i k : Nat) (S0 S : Nat → Bool) : Prop where
  sound : ∀ r, S r = true → Ned ins out r
  mono : ∀ r, S0 r = true → S r = true
  keep : ClN ins out S0 → S = S0
  part : S = S0 → ∀ j, j < i → ((j : Int) = out → S0 j = true) ∧ (S0 j = true → ∀ k ∈ inp ins j, S0 k = true)
  here : S = S0 → ((i : Int) = out → S0 i = true) ∧ (S0 i = true → ∀ x ∈ inp ins i, x < k → S0 x = true)
def NInv (ins : List (List Int)) (out : Int) (t : Nat) (S : Nat → Bool) : Prop := (∀ r, S r = true → Ned ins out r) ∧ (ClN ins out S ∨ cntF ins.length S + t ≤ ins.length)
theorem NInv.start (ins : List (List Int)) (out : Int) : NInv ins out 0 fun _ => false := ⟨(fun r h => by cases h), .inr (cntF_le _ _)⟩
theorem NInv.sweep {ins : List (List Int)} {out : Int} {t : Nat} {S : Nat → Bool} (h : NInv ins out t S) : SwN ins out 0 S S := ⟨h.1, fun r h => h, fun _ => rfl, fun _ j hj => by omega⟩
theorem SwN.first {ins : List (List Int)} {out : Int} {i : Nat} {S0 S : Nat → Bool} (h : SwN ins out i S0 S) (hi : i < ins.length) : SwK ins out i 0 S0 (fun r => if r = i then S i || decide ((i : Int) = out) else S r) := by
  refine ⟨mark_sound h.sound fun hb => ?_, mark_mono h.mono, fun hc => ?_, fun e => h.part (mark_eq h.mono e).1, fun e => ⟨fun ho => (mark_eq h.mono e).2 (decide_eq_true ho), fun _ x _ hx => by omega⟩⟩
  · have := of_decide_eq_true hb
    refine ⟨by omega, by omega, ?_⟩
    rw [show out.toNat = i by omega]
    exact .base
  · have hS := h.keep hc
    subst hS
    exact mark_keep fun hb => hc.1 i hi (of_decide_eq_true hb)
theorem SwK.next {ins : List (List Int)} {out : Int} {i k : Nat} {S0 S : Nat → Bool} (h : SwK ins out i k S0 S) (hi : i < ins.length) (hk : k < ins.length) (hs : S i = true) : SwK ins out i (k + 1) S0 (fun r => if r = k then S k || decide ((k : Int) ∈ ins.getD i []) else S r) := by
  have hm : decide ((k : Int) ∈ ins.getD i []) = true → k ∈ inp ins i := fun hb => (inp_mem _ _ _).2 ⟨hk, of_decide_eq_true hb⟩
  refine ⟨mark_sound h.sound fun hb => (h.sound i hs).next (hm hb), mark_mono h.mono, fun hc => ?_, fun e => h.part (mark_eq h.mono e).1, fun e => ?_⟩
  · have hS := h.keep hc
    subst hS
    exact mark_keep fun hb => hc.2 i hi hs k (hm hb)
  · obtain ⟨h1, h2⟩ := mark_eq h.mono e
    refine ⟨(h.here h1).1, fun h0 x hx hxk => ?_⟩
    by_cases e2 : x = k
    · subst e2
      exact h2 (decide_eq_true ((inp_mem _ _ _).1 hx).2)
    · exact (h.here h1).2 h0 x hx (by omega)
theorem SwK.skip {ins : List (List Int)} {out : Int} {i k : Nat} {S0 S : Nat → Bool} (h : SwK ins out i k S0 S) (hs : S i = false) : SwN ins out (i + 1) S0 S :=
  ⟨h.sound, h.mono, h.keep, fun e j hj => by
    by_cases hji : j < i
    · exact h.part e j hji
    · have : j = i := by omega
      subst this
      exact ⟨(h.here e).1, fun h0 => by rw [← e, hs] at h0; cases h0⟩⟩
theorem SwK.fin {ins : List (List Int)} {out : Int} {i : Nat} {S0 S : Nat → Bool} (h : SwK ins out i ins.length S0 S) : SwN ins out (i + 1) S0 S :=
  ⟨h.sound, h.mono, h.keep, fun e j hj => by
    by_cases hji : j < i
    · exact h.part e j hji
    · have : j = i := by omega
      subst this
      exact ⟨(h.here e).1, fun h0 x hx => (h.here e).2 h0 x hx ((inp_mem _ _ _).1 hx).1⟩⟩
theorem SwN.fin {ins : List (List Int)} {out : Int} {t : Nat} {S0 S : Nat → Bool} (h : SwN ins out ins.length S0 S) (hP : NInv ins out t S0) : NInv ins out (t + 1) S :=
  ⟨h.sound, sweep_round hP.2 (fun r hr => (h.sound r hr).lt) h.mono h.keep fun e => ⟨fun i hi => (h.part e i hi).1, fun i hi => (h.part e i hi).2⟩⟩
theorem NInv.done {ins : List (List Int)} {out : Int} {S : Nat → Bool} (h : NInv ins out (ins.length + 1) S) (i : Nat) : S i = ned ins out i := by
  have hc : ClN ins out S := by
    rcases h.2 with hc | hc
    · exact hc
    · omega
  rw [Bool.eq_iff_iff, ned_iff]
  refine ⟨h.1 i, fun hn => ?_⟩
  obtain ⟨h0, h1, h2⟩ := hn
  induction h2 with
  | base => exact hc.1 _ (by omega) (by omega)
  | @step j k hj hk ih => exact hc.2 j (Ned.lt ⟨h0, h1, hj⟩) ih k hk
end Go.Proofs.YtmhfabekmgcjnaaDoor
