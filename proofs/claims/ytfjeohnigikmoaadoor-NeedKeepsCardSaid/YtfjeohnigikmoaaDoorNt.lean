/- Layer 14: what is needed: plain laws. -/
import Derived.Test.YtfjeohnigikmoaaDoorNs
namespace Go.Proofs.YtfjeohnigikmoaaDoor
open Go.RowKit Go.Bx Go.Od Go.Hp
set_option linter.unusedVariables false

/-- all points of the one are the other's -/
def WiS (a b : Rc) : Prop := a.emp = true ∨ (b.x0 ≤ a.x0 ∧ b.y0 ≤ a.y0 ∧ a.x1 ≤ b.x1 ∧ a.y1 ≤ b.y1)
theorem emp_iff (r : Rc) : r.emp = true ↔ r.x1 ≤ r.x0 ∨ r.y1 ≤ r.y0 := by simp [Rc.emp]
theorem nemp_iff (r : Rc) : r.emp = false ↔ r.x0 < r.x1 ∧ r.y0 < r.y1 := by simp [Rc.emp]
theorem WiS.refl (a : Rc) : WiS a a := .inr ⟨Int.le_refl _, Int.le_refl _, Int.le_refl _, Int.le_refl _⟩
theorem WiS.trans {a b c : Rc} (h : WiS a b) (k : WiS b c) : WiS a c := by
  unfold WiS at *
  rw [emp_iff] at *
  omega
theorem WiS.nemp {a b : Rc} (h : WiS a b) (ha : a.emp = false) : b.emp = false := by
  unfold WiS at h
  rw [nemp_iff] at *
  rw [emp_iff] at h
  omega
theorem zero_emp : Rc.zero.emp = true := rfl
theorem WiS.zero (b : Rc) : WiS Rc.zero b := .inl rfl
theorem join_l (a b : Rc) : WiS a (joinR a b) := by
  cases ha : a.emp with
  | true => exact .inl ha
  | false =>
    cases hb : b.emp with
    | true => rw [joinR_ft ha hb]; exact WiS.refl _
    | false => rw [joinR_ff ha hb]; refine .inr ⟨?_, ?_, ?_, ?_⟩ <;> (dsimp only; omega)
theorem join_r (a b : Rc) : WiS b (joinR a b) := by
  cases hb : b.emp with
  | true => exact .inl hb
  | false =>
    cases ha : a.emp with
    | true => rw [joinR_tf ha hb]; exact WiS.refl _
    | false => rw [joinR_ff ha hb]; refine .inr ⟨?_, ?_, ?_, ?_⟩ <;> (dsimp only; omega)
theorem join_le {a b c : Rc} (ha : WiS a c) (hb : WiS b c) : WiS (joinR a b) c := by
  cases ea : a.emp with
  | true =>
    cases eb : b.emp with
    | true => rw [joinR_tt ea eb]; exact WiS.zero _
    | false => rw [joinR_tf ea eb]; exact hb
  | false =>
    cases eb : b.emp with
    | true => rw [joinR_ft ea eb]; exact ha
    | false =>
      rw [joinR_ff ea eb]
      unfold WiS at *
      rw [ea] at ha
      rw [eb] at hb
      simp only [Bool.false_eq_true, false_or] at ha hb
      refine .inr ⟨?_, ?_, ?_, ?_⟩ <;> (dsimp only; omega)
theorem join_mono {a b c d : Rc} (h : WiS a c) (k : WiS b d) : WiS (joinR a b) (joinR c d) := join_le (h.trans (join_l _ _)) (k.trans (join_r _ _))
/-- a rectangle that is nothing is nothing's -/
def Nrm (r : Rc) : Prop := r.emp = true → r = Rc.zero
theorem nrm_zero : Nrm Rc.zero := fun _ => rfl
theorem nrm_join (a b : Rc) : Nrm (joinR a b) := fun h => by
  cases ea : a.emp with
  | true =>
    cases eb : b.emp with
    | true => exact joinR_tt ea eb
    | false => rw [joinR_tf ea eb, eb] at h; cases h
  | false => rw [(join_l a b).nemp ea] at h; cases h
theorem join_zero {a : Rc} (h : Nrm a) : joinR a Rc.zero = a := by
  cases ea : a.emp with
  | true => rw [joinR_tt ea rfl, h ea]
  | false => rw [joinR_ft ea rfl]
theorem box_mono {a b : Rc} (h : b.x0 ≤ a.x0 ∧ b.y0 ≤ a.y0 ∧ a.x1 ≤ b.x1 ∧ a.y1 ≤ b.y1) : WiS (boxR a) (boxR b) := by
  cases ea : a.emp with
  | true => rw [show boxR a = Rc.zero by unfold boxR; rw [if_pos ea]]; exact WiS.zero _
  | false =>
    have eb : b.emp = false := WiS.nemp (a := a) (.inr h) ea
    rw [show boxR a = a by unfold boxR; rw [ea]; rfl, show boxR b = b by unfold boxR; rw [eb]; rfl]
    exact .inr h
theorem clip_mono {x y : Int} (h : x ≤ y) : clip x ≤ clip y := by unfold clip; omega
theorem wh_mono {a b : Rc} (h : b.x0 ≤ a.x0 ∧ b.y0 ≤ a.y0 ∧ a.x1 ≤ b.x1 ∧ a.y1 ≤ b.y1) : WiS (whR a) (whR b) :=
  box_mono ⟨clip_mono h.1, clip_mono h.2.1, clip_mono h.2.2.1, clip_mono h.2.2.2⟩
theorem moved_mono {x y d : Int} (hx : Pl x) (hy : Pl y) (h : x ≤ y) : clip (movedR x d) ≤ clip (movedR y d) := by
  unfold Pl at hx hy
  unfold movedR clip
  split <;> split <;> omega
theorem move_mono {a b : Rc} (ha : RcP a) (hb : RcP b) (h : WiS a b) (dx dy : Int) : WiS (moveR a dx dy) (moveR b dx dy) := by
  obtain ⟨a0, a1, a2, a3⟩ := ha
  obtain ⟨b0, b1, b2, b3⟩ := hb
  cases ea : a.emp with
  | true => rw [show moveR a dx dy = Rc.zero by unfold moveR; rw [if_pos ea]]; exact WiS.zero _
  | false =>
    have eb := h.nemp ea
    unfold WiS at h
    rw [ea] at h
    simp only [Bool.false_eq_true, false_or] at h
    unfold moveR
    rw [if_neg (by rw [ea]; simp), if_neg (by rw [eb]; simp)]
    unfold whR clipR
    exact box_mono ⟨moved_mono b0 a0 h.1, moved_mono b1 a1 h.2.1, moved_mono a2 b2 h.2.2.1, moved_mono a3 b3 h.2.2.2⟩
theorem grow_mono {a b : Rc} (h : WiS a b) (p q r s : Int) : WiS (growR a p q r s) (growR b p q r s) := by
  cases ea : a.emp with
  | true => rw [show growR a p q r s = Rc.zero by unfold growR; rw [if_pos ea]]; exact WiS.zero _
  | false =>
    have eb := h.nemp ea
    unfold WiS at h
    rw [ea] at h
    simp only [Bool.false_eq_true, false_or] at h
    unfold growR
    rw [if_neg (by rw [ea]; simp), if_neg (by rw [eb]; simp)]
    refine wh_mono ⟨?_, ?_, ?_, ?_⟩ <;> (dsimp only; omega)
theorem meet_mono {a b : Rc} (h : WiS a b) (c : Rc) (ha : a.emp = false) : WiS (meetR a c) (meetR b c) := by
  unfold WiS at h
  rw [ha] at h
  simp only [Bool.false_eq_true, false_or] at h
  unfold meetR
  refine box_mono ⟨?_, ?_, ?_, ?_⟩ <;> (dsimp only; omega)
theorem wiR_iff (a b : Rc) : wiR a b = true ↔ WiS a b := by
  unfold wiR WiS
  simp only [Bool.or_eq_true, Bool.and_eq_true, decide_eq_true_eq]
  constructor
  · rintro (h | h)
    · exact .inl h
    · exact .inr ⟨h.1.1.1, h.1.1.2, h.1.2, h.2⟩
  · rintro (h | h)
    · exact .inl h
    · exact .inr ⟨⟨⟨h.1, h.2.1⟩, h.2.2.1⟩, h.2.2.2⟩
theorem of_mono {nd : Nd} {a b : Rc} (ha : RcP a) (hb : RcP b) (h : WiS a b) : WiS (ofR nd a) (ofR nd b) := by
  cases ea : a.emp with
  | true => rw [show ofR nd a = Rc.zero by unfold ofR; rw [if_pos ea]]; exact WiS.zero _
  | false =>
    have eb := h.nemp ea
    unfold ofR
    rw [if_neg (by rw [ea]; simp), if_neg (by rw [eb]; simp)]
    unfold oneN
    split
    · exact move_mono ha hb h _ _
    · split
      · exact grow_mono h _ _ _ _
      · split
        · exact meet_mono h _ ea
        · split
          · by_cases hq : wiR b (pbox nd.p) = true
            · have hp : wiR a (pbox nd.p) = true := (wiR_iff _ _).2 (h.trans ((wiR_iff _ _).1 hq))
              rw [if_pos hq, if_pos hp]
              exact h
            · rw [if_neg hq]
              by_cases hp : wiR a (pbox nd.p) = true
              · rw [if_pos hp]; exact (wiR_iff _ _).1 hp
              · rw [if_neg hp]; exact WiS.refl _
          · split
            · exact join_mono h (grow_mono (move_mono ha hb h _ _) _ _ _ _)
            · exact h
/-! ### states -/
def SL (s t : (Nat → Rc) × Rc) : Prop := (∀ k, WiS (s.1 k) (t.1 k)) ∧ WiS s.2 t.2
theorem SL.refl (s : (Nat → Rc) × Rc) : SL s s := ⟨fun _ => WiS.refl _, WiS.refl _⟩
theorem SL.trans {s t u : (Nat → Rc) × Rc} (h : SL s t) (k : SL t u) : SL s u := ⟨fun i => (h.1 i).trans (k.1 i), h.2.trans k.2⟩
theorem SL.upd {s t : (Nat → Rc) × Rc} (h : SL s t) (x : Int) {a b : Rc} (hr : WiS a b) : SL (updN s x a) (updN t x b) := by
  unfold updN
  split
  · exact ⟨h.1, join_mono h.2 hr⟩
  · refine ⟨fun k => ?_, h.2⟩
    dsimp only
    split
    · exact join_mono (h.1 k) hr
    · exact h.1 k
theorem SL.updL {a b : Rc} (hr : WiS a b) : ∀ (xs : List Int) {s t : (Nat → Rc) × Rc}, SL s t → SL (updL s xs a) (updL t xs b)
  | [], _, _, h => h
  | x :: xs, _, _, h => SL.updL hr xs (h.upd x hr)
theorem stepN_eq (nds : List Nd) (s : (Nat → Rc) × Rc) (k : Nat) : stepN nds s k = updL s (nds.getD k Nd.none).ins (ofR (nds.getD k Nd.none) (s.1 k)) := rfl
theorem SL.step {nds : List Nd} {s t : (Nat → Rc) × Rc} (h : SL s t) (hs : CvN s) (ht : CvN t) (k : Nat) : SL (stepN nds s k) (stepN nds t k) := by
  rw [stepN_eq, stepN_eq]
  exact SL.updL (of_mono (hs.1 k) (ht.1 k) (h.1 k)) _ h
theorem SL.fold {nds : List Nd} (hok : ∀ i, i < nds.length → PaOk (nds.getD i Nd.none)) : ∀ (l : List Nat) {s t : (Nat → Rc) × Rc}, (∀ k ∈ l, k < nds.length) → SL s t → CvN s → CvN t → SL (l.foldl (stepN nds) s) (l.foldl (stepN nds) t)
  | [], _, _, _, h, _, _ => h
  | k :: l, _, _, hl, h, hs, ht => SL.fold hok l (fun i hi => hl i (by simp [hi])) (h.step hs ht k) (hs.step (hok k (hl k (by simp)))) (ht.step (hok k (hl k (by simp))))
theorem upd_up (s : (Nat → Rc) × Rc) (x : Int) (r : Rc) : SL s (updN s x r) := by
  unfold updN
  split
  · exact ⟨fun _ => WiS.refl _, join_l _ _⟩
  · refine ⟨fun k => ?_, WiS.refl _⟩
    dsimp only
    split
    · exact join_l _ _
    · exact WiS.refl _
theorem updL_up (r : Rc) : ∀ (xs : List Int) (s : (Nat → Rc) × Rc), SL s (updL s xs r)
  | [], s => SL.refl s
  | x :: xs, s => (upd_up s x r).trans (updL_up r xs _)
theorem fold_up (nds : List Nd) : ∀ (l : List Nat) (s : (Nat → Rc) × Rc), SL s (l.foldl (stepN nds) s)
  | [], s => SL.refl s
  | k :: l, s => (by rw [stepN_eq]; exact updL_up _ _ _ : SL s (stepN nds s k)).trans (fold_up nds l _)
/-- what is known of an input -/
def there (s : (Nat → Rc) × Rc) (x : Int) : Rc := if x = -1 then s.2 else s.1 x.toNat
theorem SL.there {s t : (Nat → Rc) × Rc} (h : SL s t) (x : Int) : WiS (there s x) (there t x) := by
  unfold Go.Proofs.YtfjeohnigikmoaaDoor.there
  split
  · exact h.2
  · exact h.1 _
theorem updL_there (r : Rc) : ∀ (xs : List Int) (s : (Nat → Rc) × Rc) (x : Int), x ∈ xs → WiS r (there (updL s xs r) x)
  | [], _, _, h => by cases h
  | y :: xs, s, x, h => by
    rcases List.mem_cons.1 h with rfl | h
    · refine WiS.trans ?_ ((updL_up r xs (updN s x r)).there x)
      unfold there updN
      by_cases e : x = -1
      · rw [if_pos e, if_pos e]; exact join_r _ _
      · rw [if_neg e, if_neg e]
        dsimp only
        rw [if_pos rfl]
        exact join_r _ _
    · exact updL_there r xs _ x h
theorem upd_keep (s : (Nat → Rc) × Rc) (x : Int) (r : Rc) {i : Nat} (hx : x ≠ i) (hx0 : -1 ≤ x) : (updN s x r).1 i = s.1 i := by
  unfold updN
  split
  · rfl
  · dsimp only
    rw [if_neg (by omega)]
theorem updL_keep (r : Rc) {i : Nat} : ∀ (xs : List Int) (s : (Nat → Rc) × Rc), (∀ x ∈ xs, x ≠ i ∧ -1 ≤ x) → (updL s xs r).1 i = s.1 i
  | [], _, _ => rfl
  | x :: xs, s, h => by
    have h1 := h x (by simp)
    have := updL_keep r xs (updN s x r) fun y hy => h y (by simp [hy])
    rw [upd_keep s x r h1.1 h1.2] at this
    exact this
theorem fold_keep (nds : List Nd) {i : Nat} : ∀ (l : List Nat) (s : (Nat → Rc) × Rc), (∀ k ∈ l, ∀ x ∈ (nds.getD k Nd.none).ins, x ≠ i ∧ -1 ≤ x) → (l.foldl (stepN nds) s).1 i = s.1 i
  | [], _, _ => rfl
  | k :: l, s, h => by
    rw [List.foldl_cons, fold_keep nds l _ fun j hj => h j (by simp [hj]), stepN_eq]
    exact updL_keep _ _ _ (h k (by simp))
/-- **All**: what it leaves -/
noncomputable def allN (nds : List Nd) (want : Rc) (out : Int) : (Nat → Rc) × Rc := (ord (insOf nds)).reverse.foldl (stepN nds) (startN want out)
theorem GoodN.inp_of {nds : List Nd} {out : Int} (h : GoodN nds out) {u : Nat} (hu : u < nds.length) {x : Int} (hx : x ∈ (nds.getD u Nd.none).ins) (h0 : 0 ≤ x) : x.toNat ∈ inp (insOf nds) u := by
  rw [inp_mem, insOf_get, insOf_len]
  have := h.rng u hu x hx
  exact ⟨by omega, by rw [show ((x.toNat : Nat) : Int) = x by omega]; exact hx⟩
/-- of each node: as much is known as is needed of it -/
theorem GoodN.covers {nds : List Nd} {out : Int} (h : GoodN nds out) (want : Rc) {i : Nat} (hi : i < nds.length) {x : Int} (hx : x ∈ (nds.getD i Nd.none).ins) : WiS (ofR (nds.getD i Nd.none) ((allN nds want out).1 i)) (there (allN nds want out) x) := by
  obtain ⟨pre, post, e⟩ := List.append_of_mem (h.full i hi)
  have hf := ord_fine (insOf nds)
  have hnd := hf.nodup
  rw [e] at hnd
  have hip : i ∉ pre := fun hx => (List.nodup_append.1 hnd).2.2 i hx i (by simp) rfl
  have hpre : ∀ u ∈ pre, i ∉ inp (insOf nds) u := fun u hu hin => by
    obtain ⟨m, hm, rfl⟩ := List.mem_iff_getElem.1 hu
    have hmm : (ord (insOf nds))[m]? = some pre[m] := by rw [e, List.getElem?_append_left hm, List.getElem?_eq_getElem hm]
    have := hf.behind m _ hmm i hin
    rw [e, List.take_append_of_le_length (Nat.le_of_lt hm)] at this
    exact hip (List.mem_of_mem_take this)
  have hown : i ∉ inp (insOf nds) i := fun hin => by
    have hmm : (ord (insOf nds))[pre.length]? = some i := by rw [e]; simp
    have := hf.behind pre.length _ hmm i hin
    rw [e, List.take_left'] at this
    · exact hip this
    · rfl
  have hlt : ∀ u ∈ pre, u < nds.length := fun u hu => by
    have := hf.bound u (by rw [e]; simp [hu])
    rwa [insOf_len] at this
  obtain ⟨s, hs⟩ : ∃ s, s = post.reverse.foldl (stepN nds) (startN want out) := ⟨_, rfl⟩
  have hall : allN nds want out = pre.reverse.foldl (stepN nds) (stepN nds s i) := by
    unfold allN
    rw [e, List.reverse_append, List.reverse_cons, List.append_assoc, List.foldl_append, List.foldl_append, ← hs]
    rfl
  have hk : (allN nds want out).1 i = s.1 i := by
    rw [hall, fold_keep nds pre.reverse _ fun u hu x hx => ?_, stepN_eq]
    · refine updL_keep _ _ _ fun x hx => ⟨fun ex => ?_, (h.rng i hi x hx).1⟩
      subst ex
      exact hown (by have := h.inp_of hi hx (by omega); simpa using this)
    · have hu' : u ∈ pre := List.mem_reverse.1 hu
      refine ⟨fun ex => ?_, (h.rng u (hlt u hu') x hx).1⟩
      subst ex
      exact hpre u hu' (by have := h.inp_of (hlt u hu') hx (by omega); simpa using this)
  rw [hk, hall]
  refine WiS.trans ?_ ((fold_up nds pre.reverse _).there x)
  rw [stepN_eq]
  exact updL_there _ _ _ x hx
/-- at Out is what is wanted -/
theorem covers_out (nds : List Nd) (want : Rc) (out : Nat) : WiS want ((allN nds want out).1 out) := by
  refine WiS.trans ?_ ((fold_up nds _ (startN want out)).1 out)
  unfold startN
  dsimp only
  rw [if_pos rfl]
  exact join_l _ _
/-! ### of nodes that are not needed nothing is asked -/
structure NzI (nds : List Nd) (out : Int) (s : (Nat → Rc) × Rc) : Prop where
  nz : ∀ k, ned (insOf nds) out k = false → s.1 k = Rc.zero
  n1 : ∀ k, Nrm (s.1 k)
  n2 : Nrm s.2
theorem NzI.upd {nds : List Nd} {out : Int} {s : (Nat → Rc) × Rc} (h : NzI nds out s) (x : Int) (r : Rc) (hr : 0 ≤ x → ned (insOf nds) out x.toNat = false → r = Rc.zero) (hx : -1 ≤ x) : NzI nds out (updN s x r) := by
  unfold updN
  split
  · exact ⟨h.nz, h.n1, nrm_join _ _⟩
  · refine ⟨fun k hk => ?_, fun k => ?_, h.n2⟩
    · dsimp only
      split
      · rename_i e
        subst e
        rw [hr (by omega) hk, h.nz _ hk]
        rfl
      · exact h.nz k hk
    · dsimp only
      split
      · exact nrm_join _ _
      · exact h.n1 k
theorem NzI.updL {nds : List Nd} {out : Int} {r : Rc} : ∀ (xs : List Int) {s : (Nat → Rc) × Rc}, NzI nds out s → (∀ x ∈ xs, (0 ≤ x → ned (insOf nds) out x.toNat = false → r = Rc.zero) ∧ -1 ≤ x) → NzI nds out (updL s xs r)
  | [], _, h, _ => h
  | x :: xs, _, h, hx => NzI.updL xs (h.upd x r (hx x (by simp)).1 (hx x (by simp)).2) fun y hy => hx y (by simp [hy])
theorem NzI.step {nds : List Nd} {out : Int} (hg : GoodN nds out) {s : (Nat → Rc) × Rc} (h : NzI nds out s) {k : Nat} (hk : k < nds.length) : NzI nds out (stepN nds s k) := by
  rw [stepN_eq]
  refine NzI.updL _ h fun x hx => ⟨fun h0 hn => ?_, (hg.rng k hk x hx).1⟩
  cases e : ned (insOf nds) out k with
  | false => rw [h.nz k e]; rfl
  | true =>
    have := (ned_iff _ _ _).2 (((ned_iff _ _ _).1 e).next (hg.inp_of hk hx h0))
    rw [this] at hn
    cases hn
theorem GoodN.unneeded {nds : List Nd} {out : Int} (hg : GoodN nds out) (want : Rc) {i : Nat} (hn : ned (insOf nds) out i = false) : (allN nds want out).1 i = Rc.zero := by
  have h0 : NzI nds out (startN want out) := by
    refine ⟨fun k hk => ?_, fun k => ?_, nrm_zero⟩
    · unfold startN
      dsimp only
      split
      · rename_i e
        have : ned (insOf nds) out k = true := (ned_iff _ _ _).2 ⟨hg.outs.1, by rw [insOf_len]; exact hg.outs.2, by rw [← e]; exact .base⟩
        rw [this] at hk
        cases hk
      · rfl
    · unfold startN
      dsimp only
      split
      · exact nrm_join _ _
      · exact nrm_zero
  have : ∀ (l : List Nat) {s : (Nat → Rc) × Rc}, (∀ k ∈ l, k < nds.length) → NzI nds out s → NzI nds out (l.foldl (stepN nds) s) := by
    intro l
    induction l with
    | nil => intro s _ h; exact h
    | cons k l ih => intro s hl h; exact ih (fun j hj => hl j (by simp [hj])) (h.step hg (hl k (by simp)))
  exact (this _ (fun k hk => by have := (ord_fine (insOf nds)).bound k (by simpa using hk); rwa [insOf_len] at this) h0).nz i hn
/-- for none nothing -/
theorem all_zero (nds : List Nd) (out : Int) : allN nds Rc.zero out = (fun _ => Rc.zero, Rc.zero) := by
  have h0 : startN Rc.zero out = (fun _ => Rc.zero, Rc.zero) := by
    unfold startN
    congr 1
    funext k
    split <;> rfl
  have hu : ∀ (xs : List Int), updL (fun _ => Rc.zero, Rc.zero) xs Rc.zero = (fun _ => Rc.zero, Rc.zero) := by
    intro xs
    induction xs with
    | nil => rfl
    | cons x xs ih =>
      have : updN (fun _ => Rc.zero, Rc.zero) x Rc.zero = (fun _ => Rc.zero, Rc.zero) := by
        unfold updN
        split
        · rfl
        · congr 1
          funext k
          split <;> rfl
      show updL (updN (fun _ => Rc.zero, Rc.zero) x Rc.zero) xs Rc.zero = _
      rw [this]
      exact ih
  unfold allN
  rw [h0]
  have : ∀ (l : List Nat), l.foldl (stepN nds) (fun _ => Rc.zero, Rc.zero) = (fun _ => Rc.zero, Rc.zero) := by
    intro l
    induction l with
    | nil => rfl
    | cons k l ih =>
      rw [List.foldl_cons, stepN_eq, show ofR (nds.getD k Nd.none) Rc.zero = Rc.zero from rfl, hu]
      exact ih
  exact this _
/-- for more no less -/
theorem GoodN.grows {nds : List Nd} {out : Int} (hg : GoodN nds out) {a b : Rc} (ha : RcP a) (hb : RcP b) (h : WiS a b) : SL (allN nds a out) (allN nds b out) := by
  refine SL.fold hg.pa _ (fun k hk => by have := (ord_fine (insOf nds)).bound k (by simpa using hk); rwa [insOf_len] at this) ⟨fun k => ?_, WiS.refl _⟩ (CvN.start ha out) (CvN.start hb out)
  unfold startN
  dsimp only
  split
  · exact join_mono h (WiS.refl _)
  · exact WiS.refl _
theorem GoodN.cv {nds : List Nd} {out : Int} (hg : GoodN nds out) {a : Rc} (ha : RcP a) : CvN (allN nds a out) := by
  have : ∀ (l : List Nat) {st : (Nat → Rc) × Rc}, (∀ k ∈ l, k < nds.length) → CvN st → CvN (l.foldl (stepN nds) st) := by
    intro l
    induction l with
    | nil => intro st _ h; exact h
    | cons x l ih => intro st hl h; exact ih (fun j hj => hl j (by simp [hj])) (h.step (hg.pa _ (hl x (by simp))))
  exact this _ (fun k hk => by have := (ord_fine (insOf nds)).bound k (by simpa using hk); rwa [insOf_len] at this) (CvN.start ha out)
end Go.Proofs.YtfjeohnigikmoaaDoor
