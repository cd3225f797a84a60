/- Texts joined: XYp XYq. -/
import Derived.Test.YthaniopkpmhalaaDoorYz
import Derived.Test.YthaniopkpmhalaaDoorAe
import Derived.Test.YthaniopkpmhalaaDoorAh
import Derived.Test.YthaniopkpmhalaaDoorAg
set_option maxRecDepth 4000
/- Layer 19: plain laws of plans. -/
namespace Go.Proofs.YthaniopkpmhalaaDoor
open Go.RowKit Go.Bx Go.Od Go.Hp
set_option linter.unusedVariables false

theorem fIdx_at {α : Type} {f : α → Bool} {l : List α} (d : α) (h : 0 ≤ fIdx f l) : (fIdx f l).toNat < l.length ∧ f (l.getD (fIdx f l).toNat d) = true := by
  unfold fIdx at h ⊢
  cases e : l.findIdx? f with
  | none => rw [e] at h; exact absurd h (by decide)
  | some k =>
    rw [List.findIdx?_eq_some_iff_getElem] at e
    obtain ⟨hk, hf, _⟩ := e
    dsimp only
    rw [Int.toNat_natCast]
    exact ⟨hk, by simpa [hk] using hf⟩
theorem szP_bd (p : Ps) : 0 ≤ szP p ∧ szP p ≤ 1099511627776 := sz_bd _
theorem sz_gt {n : Int} (h : 0 < n) : 0 < sz n := by
  unfold sz
  rw [if_neg (by omega)]
  have : 0 < 2 ^ szk n := Nat.pow_pos (by decide)
  omega
theorem szP_pos {p : Ps} (hr : RcP p.box) : 0 < szP p ↔ p.box.emp = false := by
  rw [← areaR_pos _ hr]
  unfold szP
  constructor
  · intro h
    by_cases e : 0 < areaR p.box
    · exact e
    · rw [sz_neg (by omega)] at h; omega
  · exact sz_gt
theorem rcEq_iff {a b : Rc} : rcEq a b = true ↔ a = b := by
  obtain ⟨a0, a1, a2, a3⟩ := a
  obtain ⟨b0, b1, b2, b3⟩ := b
  unfold rcEq
  simp only [Bool.and_eq_true, decide_eq_true_eq, Rc.mk.injEq]
/-- a slot is found: it holds something that dies there, or is free, or is new -/
theorem findS_cases (nds : List Nd) (c : Cf) (ps : List Ps) (at_ : Nat) (sl : List (Int × Int)) :
    (∃ k, k < sl.length ∧ findS nds c ps at_ sl = ((k : Int), sl) ∧ c.al = true ∧ inpl ps at_ (ps.getD at_ Ps.none) (sl.getD k (0, 0)) = true) ∨
    (∃ k, k < sl.length ∧ findS nds c ps at_ sl = ((k : Int), sl) ∧ c.al = true ∧ free (szP (ps.getD at_ Ps.none)) (sl.getD k (0, 0)) = true) ∨
    findS nds c ps at_ sl = ((sl.length : Int), sl ++ [(szP (ps.getD at_ Ps.none), 0)]) := by
  unfold findS
  split
  · rename_i h
    obtain ⟨h1, h2⟩ := h
    refine .inl ?_
    unfold inPlace at h2 ⊢
    split at h2
    · rename_i hb
      rw [if_pos hb]
      obtain ⟨e1, e2⟩ := fIdx_at (0, 0) h2
      exact ⟨_, e1, by rw [Int.toNat_of_nonneg h2], h1, e2⟩
    · exact absurd h2 (by decide)
  · split
    · rename_i h
      obtain ⟨h1, h2⟩ := h
      obtain ⟨e1, e2⟩ := fIdx_at (0, 0) h2
      exact .inr (.inl ⟨_, e1, by rw [Int.toNat_of_nonneg h2], h1, e2⟩)
    · exact .inr (.inr rfl)
theorem slset_ne {l : List (Int × Int)} {k i : Nat} (h : i ≠ k) (p : Int × Int) : (l.set k p).getD i (0, 0) = l.getD i (0, 0) := by simp [Ne.symm h]
/-- all slots' sizes -/
def totS : List (Int × Int) → Int
  | [] => 0
  | s :: l => s.1 + totS l
theorem totS_app (a b : List (Int × Int)) : totS (a ++ b) = totS a + totS b := by
  induction a with
  | nil => simp [totS]
  | cons x a ih => simp [totS, ih]; omega
theorem totS_set : ∀ (l : List (Int × Int)) (i : Nat) (o : Int), totS (l.set i ((l.getD i (0, 0)).1, o)) = totS l
  | [], i, o => by simp
  | x :: l, 0, o => by simp [totS]
  | x :: l, i + 1, o => by simp [totS]; simpa using totS_set l i o
theorem usedS_le : ∀ (l : List (Int × Int)), (∀ s ∈ l, 0 ≤ s.1) → 0 ≤ usedS l ∧ usedS l ≤ totS l
  | [], _ => ⟨Int.le_refl _, Int.le_refl _⟩
  | s :: l, h => by
    have ih := usedS_le l fun x hx => h x (List.mem_cons_of_mem _ hx)
    have h0 := h s (List.mem_cons_self ..)
    unfold usedS totS
    split <;> omega
theorem usedS_all : ∀ (l : List (Int × Int)), (∀ s ∈ l, 0 ≤ s.2) → usedS l = totS l
  | [], _ => rfl
  | s :: l, h => by
    have h0 := h s (List.mem_cons_self ..)
    unfold usedS totS
    rw [if_pos h0, usedS_all l fun x hx => h x (List.mem_cons_of_mem _ hx)]
theorem relS_len (ps : List Ps) (at_ : Nat) (sl : List (Int × Int)) : (relS ps at_ sl).length = sl.length := by simp [relS]
theorem relS_get (ps : List Ps) (at_ : Nat) (sl : List (Int × Int)) {j : Nat} (hj : j < sl.length) : (relS ps at_ sl).getD j (0, 0) = if dies ps at_ (sl.getD j (0, 0)) then ((sl.getD j (0, 0)).1, -1) else sl.getD j (0, 0) := by
  simp [relS, hj]
theorem totS_rel (ps : List Ps) (at_ : Nat) : ∀ sl : List (Int × Int), totS (relS ps at_ sl) = totS sl
  | [] => rfl
  | s :: l => by
    have := totS_rel ps at_ l
    unfold relS at this ⊢
    rw [List.map_cons]
    unfold totS
    rw [this]
    split <;> rfl
theorem rel_mem {ps : List Ps} {at_ : Nat} {sl : List (Int × Int)} {s : Int × Int} (h : s ∈ relS ps at_ sl) : ∃ t ∈ sl, t.1 = s.1 := by
  unfold relS at h
  obtain ⟨t, ht, rfl⟩ := List.mem_map.1 h
  refine ⟨t, ht, ?_⟩
  split <;> rfl
theorem getD_mem {α : Type} {l : List α} {i : Nat} (d : α) (h : i < l.length) : l.getD i d ∈ l := List.mem_of_getElem? (show l[i]? = some (l.getD i d) by simp [h])
/-- passes ahead of slots are alike but for slots -/
def Alk (ps0 ps : List Ps) : Prop := ps.length = ps0.length ∧ ∀ i, ∃ s, ps.getD i Ps.none = { ps0.getD i Ps.none with slot := s }
theorem Alk.refl (ps0 : List Ps) : Alk ps0 ps0 := ⟨rfl, fun i => ⟨_, rfl⟩⟩
theorem Alk.set {ps0 ps : List Ps} (h : Alk ps0 ps) (k : Nat) (s : Int) : Alk ps0 (ps.set k { ps.getD k Ps.none with slot := s }) := by
  refine ⟨by rw [List.length_set]; exact h.1, fun i => ?_⟩
  obtain ⟨t, ht⟩ := h.2 i
  by_cases e : i = k
  · subst e
    by_cases hi : i < ps.length
    · refine ⟨s, ?_⟩
      have : (ps.set i { ps.getD i Ps.none with slot := s }).getD i Ps.none = { ps.getD i Ps.none with slot := s } := by simp [hi]
      rw [this, ht]
    · refine ⟨t, ?_⟩
      rw [← ht, List.set_eq_of_length_le (by omega)]
  · refine ⟨t, ?_⟩
    rw [← ht]
    simp [Ne.symm e]
section
variable {ps0 ps : List Ps}
theorem Alk.last (h : Alk ps0 ps) (i : Nat) : (ps.getD i Ps.none).last = (ps0.getD i Ps.none).last := by obtain ⟨s, e⟩ := h.2 i; rw [e]
theorem Alk.box (h : Alk ps0 ps) (i : Nat) : (ps.getD i Ps.none).box = (ps0.getD i Ps.none).box := by obtain ⟨s, e⟩ := h.2 i; rw [e]
theorem Alk.nodes (h : Alk ps0 ps) (i : Nat) : (ps.getD i Ps.none).nodes = (ps0.getD i Ps.none).nodes := by obtain ⟨s, e⟩ := h.2 i; rw [e]
theorem Alk.reads (h : Alk ps0 ps) (i : Nat) : (ps.getD i Ps.none).reads = (ps0.getD i Ps.none).reads := by obtain ⟨s, e⟩ := h.2 i; rw [e]
theorem Alk.szP (h : Alk ps0 ps) (i : Nat) : Go.Proofs.YthaniopkpmhalaaDoor.szP (ps.getD i Ps.none) = Go.Proofs.YthaniopkpmhalaaDoor.szP (ps0.getD i Ps.none) := by unfold Go.Proofs.YthaniopkpmhalaaDoor.szP; rw [h.box]
theorem Alk.resP (h : Alk ps0 ps) (i : Nat) : Go.Proofs.YthaniopkpmhalaaDoor.resP (ps.getD i Ps.none) = Go.Proofs.YthaniopkpmhalaaDoor.resP (ps0.getD i Ps.none) := by unfold Go.Proofs.YthaniopkpmhalaaDoor.resP; rw [h.nodes]
end
/-! ### with aliasing, and without -/
/-- a state with aliasing, one without: as many pixels -/
structure TwoI (ps0 : List Ps) (s t : St) : Prop where
  sa : Alk ps0 s.ps
  ta : Alk ps0 t.ps
  ssz : ∀ x ∈ s.sl, 0 ≤ x.1
  tsz : ∀ x ∈ t.sl, 0 ≤ x.1
  town : ∀ x ∈ t.sl, 0 ≤ x.2
  len : s.sl.length ≤ t.sl.length
  tot : totS s.sl ≤ totS t.sl
  pk : s.pk ≤ t.pk
theorem mem_set_slot {l : List (Int × Int)} {k : Nat} {a : Int × Int} {x : Int × Int} (h : x ∈ l.set k a) : x ∈ l ∨ x = a := List.mem_or_eq_of_mem_set h
theorem findS_off {nds : List Nd} {c : Cf} (hc : c.al = false) (ps : List Ps) (at_ : Nat) (sl : List (Int × Int)) : findS nds c ps at_ sl = ((sl.length : Int), sl ++ [(szP (ps.getD at_ Ps.none), 0)]) := by
  unfold findS
  rw [if_neg (by rw [hc]; simp), if_neg (by rw [hc]; simp)]
/-- the slots with the pass's own -/
def slM (nds : List Nd) (c : Cf) (s : St) (at_ : Nat) : List (Int × Int) :=
  if 0 < szP (s.ps.getD at_ Ps.none) then (findS nds c s.ps at_ s.sl).2.set (findS nds c s.ps at_ s.sl).1.toNat (((findS nds c s.ps at_ s.sl).2.getD (findS nds c s.ps at_ s.sl).1.toNat (0, 0)).1, at_) else s.sl
def psM (nds : List Nd) (c : Cf) (s : St) (at_ : Nat) : List Ps :=
  if 0 < szP (s.ps.getD at_ Ps.none) then s.ps.set at_ { s.ps.getD at_ Ps.none with slot := (findS nds c s.ps at_ s.sl).1 } else s.ps
theorem stepA_eq (nds : List Nd) (c : Cf) (s : St) (at_ : Nat) : stepA nds c s at_ = ⟨psM nds c s at_, if c.al = true then relS (psM nds c s at_) at_ (slM nds c s at_) else slM nds c s at_, max s.pk (usedS (slM nds c s at_))⟩ := by
  unfold stepA psM slM
  dsimp only
  split <;> rfl
theorem slM_on (nds : List Nd) (c : Cf) (s : St) (at_ : Nat) (hs : ∀ x ∈ s.sl, 0 ≤ x.1) : (∀ x ∈ slM nds c s at_, 0 ≤ x.1) ∧ (slM nds c s at_).length ≤ s.sl.length + (if 0 < szP (s.ps.getD at_ Ps.none) then 1 else 0) ∧ totS (slM nds c s at_) ≤ totS s.sl + (if 0 < szP (s.ps.getD at_ Ps.none) then szP (s.ps.getD at_ Ps.none) else 0) := by
  have hb := szP_bd (s.ps.getD at_ Ps.none)
  unfold slM
  by_cases hp : 0 < szP (s.ps.getD at_ Ps.none)
  · rw [if_pos hp, if_pos hp, if_pos hp]
    rcases findS_cases nds c s.ps at_ s.sl with ⟨k, hk, e, _⟩ | ⟨k, hk, e, _⟩ | e
    · rw [e]
      dsimp only
      rw [Int.toNat_natCast, totS_set, List.length_set]
      refine ⟨fun x hx => ?_, by omega, by omega⟩
      rcases mem_set_slot hx with h | h
      · exact hs x h
      · subst h; exact (hs _ (getD_mem (0, 0) hk) : 0 ≤ (s.sl.getD k (0, 0)).1)
    · rw [e]
      dsimp only
      rw [Int.toNat_natCast, totS_set, List.length_set]
      refine ⟨fun x hx => ?_, by omega, by omega⟩
      rcases mem_set_slot hx with h | h
      · exact hs x h
      · subst h; exact (hs _ (getD_mem (0, 0) hk) : 0 ≤ (s.sl.getD k (0, 0)).1)
    · rw [e]
      dsimp only
      rw [Int.toNat_natCast, totS_set, List.length_set, totS_app, List.length_append]
      have h2 : ∀ x ∈ s.sl ++ [(szP (s.ps.getD at_ Ps.none), (0 : Int))], 0 ≤ x.1 := fun x hx => by
        rcases List.mem_append.1 hx with h | h
        · exact hs x h
        · rw [List.mem_singleton.1 h]; exact hb.1
      refine ⟨fun x hx => ?_, by simp, by simp only [totS]; omega⟩
      rcases mem_set_slot hx with h | h
      · exact h2 x h
      · subst h
        have h3 : s.sl.length < (s.sl ++ [(szP (s.ps.getD at_ Ps.none), (0 : Int))]).length := by rw [List.length_append]; exact Nat.lt_succ_self _
        exact (h2 _ (getD_mem (0, 0) h3) : 0 ≤ ((s.sl ++ [(szP (s.ps.getD at_ Ps.none), (0 : Int))]).getD s.sl.length (0, 0)).1)
  · rw [if_neg hp, if_neg hp, if_neg hp]
    exact ⟨hs, by omega, by omega⟩
theorem slM_off {nds : List Nd} {c : Cf} (hc : c.al = false) (s : St) (at_ : Nat) : slM nds c s at_ = if 0 < szP (s.ps.getD at_ Ps.none) then s.sl ++ [(szP (s.ps.getD at_ Ps.none), (at_ : Int))] else s.sl := by
  unfold slM
  split
  · rw [findS_off hc]
    dsimp only
    rw [Int.toNat_natCast]
    simp
  · rfl
theorem psM_alk {nds : List Nd} {c : Cf} {s : St} {at_ : Nat} {ps0 : List Ps} (h : Alk ps0 s.ps) : Alk ps0 (psM nds c s at_) := by
  unfold psM
  split
  · exact h.set _ _
  · exact h
theorem TwoI.step {nds nds' : List Nd} {ps0 : List Ps} {s t : St} (h : TwoI ps0 s t) {c d : Cf} (hd : d.al = false) (at_ : Nat) : TwoI ps0 (stepA nds c s at_) (stepA nds' d t at_) := by
  have h1 := slM_on nds c s at_ h.ssz
  have h2 := slM_off (nds := nds') hd t at_
  have e1 := h.sa.szP at_
  have e2 := h.ta.szP at_
  have hsz : (∀ x ∈ slM nds' d t at_, 0 ≤ x.1 ∧ 0 ≤ x.2) ∧ (slM nds' d t at_).length = t.sl.length + (if 0 < szP (t.ps.getD at_ Ps.none) then 1 else 0) ∧ totS (slM nds' d t at_) = totS t.sl + (if 0 < szP (t.ps.getD at_ Ps.none) then szP (t.ps.getD at_ Ps.none) else 0) := by
    rw [h2]
    split
    · refine ⟨fun x hx => ?_, by simp, by rw [totS_app]; simp [totS]⟩
      rcases List.mem_append.1 hx with hx | hx
      · exact ⟨h.tsz x hx, h.town x hx⟩
      · rw [List.mem_singleton.1 hx]; exact ⟨(szP_bd _).1, Int.natCast_nonneg _⟩
    · exact ⟨fun x hx => ⟨h.tsz x hx, h.town x hx⟩, by simp, by simp⟩
  have hu : usedS (slM nds' d t at_) = totS (slM nds' d t at_) := usedS_all _ fun x hx => (hsz.1 x hx).2
  have hv := usedS_le _ h1.1
  rw [e1] at h1
  rw [e2] at hsz
  have hl := h.len
  have ht := h.tot
  have hpk := h.pk
  have hstep : stepA nds' d t at_ = ⟨psM nds' d t at_, slM nds' d t at_, max t.pk (usedS (slM nds' d t at_))⟩ := by rw [stepA_eq, if_neg (by rw [hd]; simp)]
  rw [stepA_eq, hstep]
  have hrel : (∀ x ∈ (if c.al = true then relS (psM nds c s at_) at_ (slM nds c s at_) else slM nds c s at_), 0 ≤ x.1) ∧ (if c.al = true then relS (psM nds c s at_) at_ (slM nds c s at_) else slM nds c s at_).length = (slM nds c s at_).length ∧ totS (if c.al = true then relS (psM nds c s at_) at_ (slM nds c s at_) else slM nds c s at_) = totS (slM nds c s at_) := by
    split
    · refine ⟨fun x hx => ?_, relS_len _ _ _, totS_rel _ _ _⟩
      obtain ⟨t, ht, e⟩ := rel_mem hx
      rw [← e]
      exact h1.1 t ht
    · exact ⟨h1.1, rfl, rfl⟩
  refine ⟨psM_alk h.sa, psM_alk h.ta, hrel.1, fun x hx => (hsz.1 x hx).1, fun x hx => (hsz.1 x hx).2, ?_, ?_, ?_⟩
  · dsimp only; rw [hrel.2.1]; omega
  · dsimp only; rw [hrel.2.2]; omega
  · dsimp only; omega
theorem TwoI.fold {nds nds' : List Nd} {ps0 : List Ps} {c d : Cf} (hd : d.al = false) : ∀ (l : List Nat) {s t : St}, TwoI ps0 s t → TwoI ps0 (l.foldl (stepA nds c) s) (l.foldl (stepA nds' d) t)
  | [], _, _, h => h
  | a :: l, _, _, h => TwoI.fold hd l (h.step hd a)
theorem two_start (ps0 : List Ps) : TwoI ps0 ⟨ps0, [], 0⟩ ⟨ps0, [], 0⟩ := ⟨Alk.refl _, Alk.refl _, by simp, by simp, by simp, Nat.le_refl _, Int.le_refl _, Int.le_refl _⟩
theorem asg_two (nds : List Nd) {c d : Cf} (hd : d.al = false) (ps : List Ps) : TwoI ps (asg nds c ps) (asg nds d ps) := (two_start ps).fold hd _
/-! ### what is still read keeps its slot -/
structure SI (ps0 : List Ps) (at_ : Nat) (s : St) : Prop where
  alk : Alk ps0 s.ps
  early : ∀ i, i < at_ → -1 ≤ (s.ps.getD i Ps.none).slot ∧ (s.ps.getD i Ps.none).slot < s.sl.length ∧ ((s.ps.getD i Ps.none).slot < 0 ↔ ¬ 0 < szP (ps0.getD i Ps.none))
  late : ∀ i, at_ ≤ i → i < ps0.length → (s.ps.getD i Ps.none).slot = -1
  keep : ∀ k, k < at_ → 0 ≤ (s.ps.getD k Ps.none).slot → (at_ : Int) ≤ (ps0.getD k Ps.none).last → (s.sl.getD (s.ps.getD k Ps.none).slot.toNat (0, 0)).2 = k
  pair : ∀ i k, k < i → i < at_ → 0 ≤ (s.ps.getD i Ps.none).slot → (s.ps.getD k Ps.none).slot = (s.ps.getD i Ps.none).slot → (i : Int) ≤ (ps0.getD k Ps.none).last → (ps0.getD k Ps.none).last = i ∧ (ps0.getD k Ps.none).box = (ps0.getD i Ps.none).box ∧ (ps0.getD i Ps.none).reads.contains (resP (ps0.getD k Ps.none) : Int) = true
theorem set_at {l : List Ps} {k : Nat} (h : k < l.length) (p : Ps) : (l.set k p).getD k Ps.none = p := by simp [h]
theorem set_ne {l : List Ps} {k i : Nat} (h : i ≠ k) (p : Ps) : (l.set k p).getD i Ps.none = l.getD i Ps.none := by simp [Ne.symm h]
theorem SI.find {nds : List Nd} {ps0 : List Ps} {at_ : Nat} {s : St} {c : Cf} (h : SI ps0 at_ s) (ha : at_ < ps0.length) : ∃ (f : Nat) (sl2 : List (Int × Int)), findS nds c s.ps at_ s.sl = ((f : Int), sl2) ∧ f < sl2.length ∧ s.sl.length ≤ sl2.length ∧ (∀ j, j < s.sl.length → sl2.getD j (0, 0) = s.sl.getD j (0, 0)) ∧
    ∀ k, k < at_ → (s.ps.getD k Ps.none).slot = f → (at_ : Int) ≤ (ps0.getD k Ps.none).last → (ps0.getD k Ps.none).last = at_ ∧ (ps0.getD k Ps.none).box = (ps0.getD at_ Ps.none).box ∧ (ps0.getD at_ Ps.none).reads.contains (resP (ps0.getD k Ps.none) : Int) = true := by
  rcases findS_cases nds c s.ps at_ s.sl with ⟨f, hf, e, _, hi⟩ | ⟨f, hf, e, _, hi⟩ | e
  · refine ⟨f, s.sl, e, hf, Nat.le_refl _, fun j hj => rfl, fun k hk hs hl => ?_⟩
    have ho := h.keep k hk (by omega) hl
    rw [hs, Int.toNat_natCast] at ho
    unfold inpl at hi
    rw [ho] at hi
    rw [if_neg (by omega)] at hi
    simp only [Bool.and_eq_true, decide_eq_true_eq, Int.toNat_natCast] at hi
    obtain ⟨h1, h2, h3⟩ := hi
    rw [h.alk.last] at h1
    rw [rcEq_iff, h.alk.box, h.alk.box] at h2
    rw [h.alk.reads, h.alk.resP] at h3
    exact ⟨h1, h2, h3⟩
  · refine ⟨f, s.sl, e, hf, Nat.le_refl _, fun j hj => rfl, fun k hk hs hl => ?_⟩
    have ho := h.keep k hk (by omega) hl
    rw [hs, Int.toNat_natCast] at ho
    unfold free at hi
    rw [ho] at hi
    simp at hi
    omega
  · refine ⟨s.sl.length, _, e, by simp, by simp, fun j hj => by simp [List.getElem?_append_left hj], fun k hk hs hl => ?_⟩
    have := (h.early k hk).2.1
    omega
theorem SI.step {nds : List Nd} {ps0 : List Ps} {at_ : Nat} {s : St} {c : Cf} (hc : c.al = true) (hl : ∀ i, i < ps0.length → (i : Int) < (ps0.getD i Ps.none).last) (h : SI ps0 at_ s) (ha : at_ < ps0.length) : SI ps0 (at_ + 1) (stepA nds c s at_) := by
  have halk : Alk ps0 (psM nds c s at_) := psM_alk h.alk
  rw [stepA_eq, if_pos hc]
  have hla := hl at_ ha
  have rel2 : ∀ j, j < (slM nds c s at_).length → ∀ k : Nat, ((slM nds c s at_).getD j (0, 0)).2 = k → (ps0.getD k Ps.none).last ≠ at_ → ((relS (psM nds c s at_) at_ (slM nds c s at_)).getD j (0, 0)).2 = k := fun j hj k hk hne => by
    rw [relS_get _ _ _ hj]
    unfold dies
    rw [hk, Int.toNat_natCast, halk.last, decide_eq_false hne, Bool.and_false]
    exact hk
  by_cases hp : 0 < szP (s.ps.getD at_ Ps.none)
  · obtain ⟨f, sl2, e, hf, hle, hsl, hpair⟩ := h.find (nds := nds) (c := c) ha
    have hps : psM nds c s at_ = s.ps.set at_ { s.ps.getD at_ Ps.none with slot := (f : Int) } := by unfold psM; rw [if_pos hp, e]
    have hsm : slM nds c s at_ = sl2.set f ((sl2.getD f (0, 0)).1, (at_ : Int)) := by unfold slM; rw [if_pos hp, e]; simp only [Int.toNat_natCast]
    have hat : ((psM nds c s at_).getD at_ Ps.none).slot = f := by rw [hps, set_at (by rw [h.alk.1]; exact ha)]
    have hne : ∀ i, i ≠ at_ → ((psM nds c s at_).getD i Ps.none).slot = (s.ps.getD i Ps.none).slot := fun i hi => by rw [hps, set_ne hi]
    have hlen : (slM nds c s at_).length = sl2.length := by rw [hsm, List.length_set]
    rw [h.alk.szP] at hp
    refine ⟨halk, fun i hi => ?_, fun i hi hi2 => ?_, fun k hk h0 hk2 => ?_, fun i k hki hi h0 hs hk2 => ?_⟩
    · dsimp only
      rw [relS_len, hlen]
      by_cases ei : i = at_
      · subst ei
        rw [hat]
        exact ⟨by omega, by omega, by omega⟩
      · rw [hne i ei]
        have := h.early i (by omega)
        exact ⟨this.1, by omega, this.2.2⟩
    · dsimp only
      rw [hne i (by omega)]
      exact h.late i (by omega) hi2
    · dsimp only at h0 ⊢
      by_cases ek : k = at_
      · subst ek
        rw [hat, Int.toNat_natCast]
        refine rel2 f (by omega) k ?_ (by omega)
        rw [hsm]
        simp [hf]
      · rw [hne k ek] at h0 ⊢
        have hs := h.early k (by omega)
        have ho := h.keep k (by omega) h0 (by omega)
        refine rel2 _ (by omega) k ?_ (by omega)
        have hjf : (s.ps.getD k Ps.none).slot.toNat ≠ f := fun hj => by
          have := (hpair k (by omega) (by omega) (by omega)).1
          omega
        have : (slM nds c s at_).getD (s.ps.getD k Ps.none).slot.toNat (0, 0) = sl2.getD (s.ps.getD k Ps.none).slot.toNat (0, 0) := by
          rw [hsm, slset_ne hjf]
        rw [this, hsl _ (by omega), ho]
    · dsimp only at h0 hs
      by_cases ei : i = at_
      · subst ei
        rw [hat, hne k (by omega)] at hs
        exact hpair k hki hs hk2
      · rw [hne i ei] at h0 hs
        rw [hne k (by omega)] at hs
        exact h.pair i k hki (by omega) h0 hs hk2
  · have hps : psM nds c s at_ = s.ps := by unfold psM; rw [if_neg hp]
    have hsm : slM nds c s at_ = s.sl := by unfold slM; rw [if_neg hp]
    have hat := h.late at_ (Nat.le_refl _) ha
    rw [h.alk.szP] at hp
    rw [hps] at rel2 ⊢
    rw [hsm] at rel2 ⊢
    refine ⟨h.alk, fun i hi => ?_, fun i hi hi2 => ?_, fun k hk h0 hk2 => ?_, fun i k hki hi h0 hs hk2 => ?_⟩
    · dsimp only
      rw [relS_len]
      by_cases ei : i = at_
      · subst ei
        rw [hat]
        exact ⟨by omega, by omega, ⟨fun _ => hp, fun _ => by omega⟩⟩
      · exact h.early i (by omega)
    · exact h.late i (by omega) hi2
    · dsimp only at h0 ⊢
      by_cases ek : k = at_
      · subst ek; omega
      · have hs := h.early k (by omega)
        have ho := h.keep k (by omega) h0 (by omega)
        exact rel2 _ (by omega) k ho (by omega)
    · dsimp only at h0 hs
      by_cases ei : i = at_
      · subst ei; omega
      · exact h.pair i k hki (by omega) h0 hs hk2
theorem SI.fold {nds : List Nd} {ps0 : List Ps} {c : Cf} (hc : c.al = true) (hl : ∀ i, i < ps0.length → (i : Int) < (ps0.getD i Ps.none).last) {s : St} (h : SI ps0 0 s) : ∀ n, n ≤ ps0.length → SI ps0 n ((List.range n).foldl (stepA nds c) s)
  | 0, _ => h
  | n + 1, hn => by
    rw [List.range_succ, List.foldl_append]
    exact (SI.fold hc hl h n (by omega)).step hc hl (by omega)
theorem asg_si (nds : List Nd) {c : Cf} (hc : c.al = true) {ps : List Ps} (hl : ∀ i, i < ps.length → (i : Int) < (ps.getD i Ps.none).last) (hs : ∀ i, i < ps.length → (ps.getD i Ps.none).slot = -1) : SI ps ps.length (asg nds c ps) :=
  SI.fold hc hl ⟨Alk.refl _, fun i hi => by omega, fun i _ hi => hs i hi, fun k hk => by omega, fun i k hki hi => by omega⟩ _ (Nat.le_refl _)
end Go.Proofs.YthaniopkpmhalaaDoor
/- Layer 19: plain laws of plans: passes, boxes, fusing. -/
namespace Go.Proofs.YthaniopkpmhalaaDoor
open Go.RowKit Go.Bx Go.Od Go.Hp
set_option linter.unusedVariables false

section
variable {nds : List Nd} {out : Int} {on : Bool} {want : Rc}
/-- what a pass's box must hold -/
noncomputable def bxN (nds : List Nd) (want : Rc) (out : Int) (k : Nat) : Rc := (allN nds want out).1 k
noncomputable def rawP (nds : List Nd) (out : Int) (on : Bool) (want : Rc) (i : Nat) : Ps :=
  ⟨(grp nds out on).getD i [], (rL nds out on).getD i [], bxN nds want out (lastN ((grp nds out on).getD i [])), -1, uN nds out on i⟩
noncomputable def raws (nds : List Nd) (out : Int) (on : Bool) (want : Rc) : List Ps := (List.range (grp nds out on).length).map (rawP nds out on want)
noncomputable def hullO (nds : List Nd) (out : Int) (on : Bool) (want : Rc) : Rc := hullN ((raws nds out on want).map (·.box))
def wide (h : Rc) (p : Ps) : Ps := if p.box.emp then p else { p with box := h }
noncomputable def pss (nds : List Nd) (out : Int) (c : Cf) (want : Rc) : List Ps := if c.roi then raws nds out c.fuse want else (raws nds out c.fuse want).map (wide (hullO nds out c.fuse want))
noncomputable def srcO (nds : List Nd) (out : Int) (c : Cf) (want : Rc) : Rc := if c.roi = true ∨ (allN nds want out).2.emp = true then (allN nds want out).2 else joinR (allN nds want out).2 (hullO nds out c.fuse want)
theorem raws_len : (raws nds out on want).length = (grp nds out on).length := by simp [raws]
theorem raws_get {i : Nat} (hi : i < (grp nds out on).length) : (raws nds out on want).getD i Ps.none = rawP nds out on want i := by simp [raws, hi]
theorem pss_len {c : Cf} : (pss nds out c want).length = (grp nds out c.fuse).length := by
  unfold pss
  split <;> simp [raws_len]
theorem pss_get {c : Cf} {i : Nat} (hi : i < (grp nds out c.fuse).length) : (pss nds out c want).getD i Ps.none = if c.roi then rawP nds out c.fuse want i else wide (hullO nds out c.fuse want) (rawP nds out c.fuse want i) := by
  unfold pss
  split
  · exact raws_get hi
  · have h1 : i < (raws nds out c.fuse want).length := by rw [raws_len]; exact hi
    have h2 := raws_get (want := want) hi
    rw [← h2]
    simp [h1]
theorem wide_slot (h : Rc) (p : Ps) : (wide h p).slot = p.slot ∧ (wide h p).last = p.last ∧ (wide h p).nodes = p.nodes ∧ (wide h p).reads = p.reads := by
  unfold wide
  split <;> exact ⟨rfl, rfl, rfl, rfl⟩
/-- whatever the boxes: nodes, reads, last, no slot -/
theorem pss_all {c : Cf} {i : Nat} (hi : i < (grp nds out c.fuse).length) : ((pss nds out c want).getD i Ps.none).slot = -1 ∧ ((pss nds out c want).getD i Ps.none).last = uN nds out c.fuse i ∧ ((pss nds out c want).getD i Ps.none).nodes = (grp nds out c.fuse).getD i [] ∧ ((pss nds out c want).getD i Ps.none).reads = (rL nds out c.fuse).getD i [] := by
  rw [pss_get hi]
  split
  · exact ⟨rfl, rfl, rfl, rfl⟩
  · obtain ⟨h1, h2, h3, h4⟩ := wide_slot (hullO nds out c.fuse want) (rawP nds out c.fuse want i)
    rw [h1, h2, h3, h4]
    exact ⟨rfl, rfl, rfl, rfl⟩
theorem pss_al (c : Cf) (b : Bool) : pss nds out { c with al := b } want = pss nds out c want := rfl
theorem srcO_al (c : Cf) (b : Bool) : srcO nds out { c with al := b } want = srcO nds out c want := rfl
/-! ### the hull -/
theorem hull_step (l : List Rc) : ∀ a : Rc, WiS a (l.foldl joinR a) ∧ ∀ r ∈ l, WiS r (l.foldl joinR a) := by
  induction l with
  | nil => exact fun a => ⟨WiS.refl _, fun r hr => by simp at hr⟩
  | cons x l ih =>
    intro a
    obtain ⟨h1, h2⟩ := ih (joinR a x)
    refine ⟨(join_l a x).trans h1, fun r hr => ?_⟩
    rcases List.mem_cons.1 hr with rfl | hr
    · exact (join_r a r).trans h1
    · exact h2 r hr
theorem hull_in {l : List Rc} {r : Rc} (h : r ∈ l) : WiS r (hullN l) := (hull_step l Rc.zero).2 r h
theorem hull_pl : ∀ (l : List Rc) (a : Rc), RcP a → (∀ r ∈ l, RcP r) → RcP (l.foldl joinR a)
  | [], a, ha, _ => ha
  | x :: l, a, ha, h => hull_pl l (joinR a x) (joinR_pl ha (h x (List.mem_cons_self ..))) fun r hr => h r (List.mem_cons_of_mem _ hr)
theorem bxN_pl (hg : GoodN nds out) (hw : RcP want) (k : Nat) : RcP (bxN nds want out k) := (hg.cv hw).1 k
theorem hullO_pl (hg : GoodN nds out) (hw : RcP want) : RcP (hullO nds out on want) := by
  refine hull_pl _ _ zero_pl fun r hr => ?_
  obtain ⟨p, hp, rfl⟩ := List.mem_map.1 hr
  obtain ⟨i, hi, rfl⟩ := List.mem_map.1 hp
  exact bxN_pl hg hw _
theorem pss_pl {c : Cf} (hg : GoodN nds out) (hw : RcP want) {i : Nat} (hi : i < (grp nds out c.fuse).length) : RcP ((pss nds out c want).getD i Ps.none).box := by
  rw [pss_get hi]
  split
  · exact bxN_pl hg hw _
  · unfold wide
    split
    · exact bxN_pl hg hw _
    · exact hullO_pl hg hw
theorem srcO_pl {c : Cf} (hg : GoodN nds out) (hw : RcP want) : RcP (srcO nds out c want) := by
  unfold srcO
  split
  · exact (hg.cv hw).2
  · exact joinR_pl (hg.cv hw).2 (hullO_pl hg hw)
/-- with Roi no box is greater -/
theorem pss_within {c d : Cf} (hf : c.fuse = d.fuse) (hc : c.roi = true) (hd : d.roi = false) {i : Nat} (hi : i < (grp nds out c.fuse).length) : WiS ((pss nds out c want).getD i Ps.none).box ((pss nds out d want).getD i Ps.none).box := by
  rw [pss_get hi, if_pos hc, pss_get (hf ▸ hi), hd, if_neg (by simp), ← hf]
  unfold wide
  split
  · exact WiS.refl _
  · refine hull_in (List.mem_map.2 ⟨rawP nds out c.fuse want i, ?_, rfl⟩)
    exact List.mem_map.2 ⟨i, List.mem_range.2 hi, rfl⟩
theorem src_within {c d : Cf} (hc : c.roi = true) (hd : d.roi = false) : WiS (srcO nds out c want) (srcO nds out d want) := by
  unfold srcO
  rw [if_pos (.inl hc)]
  split
  · exact WiS.refl _
  · exact join_l _ _
theorem pss_out {c : Cf} (h : Good nds out) {i : Nat} (hi : i < (grp nds out c.fuse).length) (hr : c.roi = true) (e : ((lastN ((grp nds out c.fuse).getD i []) : Nat) : Int) = out) : WiS want ((pss nds out c want).getD i Ps.none).box := by
  rw [pss_get hi, if_pos hr]
  have := covers_out nds want (lastN ((grp nds out c.fuse).getD i []))
  rw [e] at this
  exact this
/-! ### without aliasing: the peak is a sum -/
def sumI : List Int → Int
  | [] => 0
  | x :: l => x + sumI l
theorem sumI_app (a b : List Int) : sumI (a ++ b) = sumI a + sumI b := by
  induction a with
  | nil => simp [sumI]
  | cons x a ih => simp [sumI, ih]; omega
theorem off_fold {nds' : List Nd} {c : Cf} (hc : c.al = false) {ps0 : List Ps} : ∀ (l : List Nat) {s : St}, Alk ps0 s.ps → (∀ x ∈ s.sl, 0 ≤ x.1 ∧ 0 ≤ x.2) → s.pk = totS s.sl →
    (l.foldl (stepA nds' c) s).pk = totS s.sl + sumI (l.map fun i => szP (ps0.getD i Ps.none))
  | [], s, _, _, h => by simp [sumI, h]
  | a :: l, s, hk, ho, h => by
    have h2 := slM_off (nds := nds') hc s a
    have e2 := hk.szP a
    have hb := szP_bd (s.ps.getD a Ps.none)
    have hsz : (∀ x ∈ slM nds' c s a, 0 ≤ x.1 ∧ 0 ≤ x.2) ∧ totS (slM nds' c s a) = totS s.sl + szP (s.ps.getD a Ps.none) := by
      rw [h2]
      split
      · refine ⟨fun x hx => ?_, by rw [totS_app]; simp [totS]⟩
        rcases List.mem_append.1 hx with hx | hx
        · exact ho x hx
        · rw [List.mem_singleton.1 hx]; exact ⟨hb.1, Int.natCast_nonneg _⟩
      · exact ⟨ho, by omega⟩
    have hu : usedS (slM nds' c s a) = totS (slM nds' c s a) := usedS_all _ fun x hx => (hsz.1 x hx).2
    have hs : stepA nds' c s a = ⟨psM nds' c s a, slM nds' c s a, max s.pk (usedS (slM nds' c s a))⟩ := by rw [stepA_eq, if_neg (by rw [hc]; simp)]
    rw [List.foldl_cons, hs, off_fold hc l (psM_alk hk) hsz.1 (by dsimp only; omega)]
    dsimp only
    rw [List.map_cons, sumI]
    omega
theorem asg_off (nds : List Nd) {c : Cf} (hc : c.al = false) (ps : List Ps) : (asg nds c ps).pk = sumI ((List.range ps.length).map fun i => szP (ps.getD i Ps.none)) := by
  unfold asg
  rw [off_fold hc _ (Alk.refl ps) (by simp) rfl]
  simp [totS]
theorem sum_mono {α : Type} {p q : α → Bool} {f : α → Int} (h : ∀ x, p x = true → q x = true) (h0 : ∀ x, 0 ≤ f x) : ∀ l : List α, sumI ((l.filter p).map f) ≤ sumI ((l.filter q).map f)
  | [] => Int.le_refl _
  | x :: l => by
    have ih := sum_mono h h0 l
    have := h0 x
    rw [List.filter_cons, List.filter_cons]
    by_cases hp : p x = true
    · rw [if_pos hp, if_pos (h x hp)]
      simp only [List.map_cons, sumI]
      omega
    · rw [if_neg hp]
      split
      · simp only [List.map_cons, sumI]; omega
      · exact ih
theorem filter_lasts {α β : Type} {f : α → β} {q : β → Bool} {g : β → α} : ∀ (l : List α), (∀ x ∈ l, q (f x) = true → g (f x) = x) → ((l.map f).filter q).map g = l.filter fun x => q (f x)
  | [], _ => rfl
  | x :: l, h => by
    have ih := filter_lasts (f := f) (q := q) (g := g) l fun y hy => h y (List.mem_cons_of_mem _ hy)
    rw [List.map_cons, List.filter_cons, List.filter_cons]
    split
    · rename_i hq
      rw [List.map_cons, ih, h x (List.mem_cons_self ..) hq]
    · exact ih
/-- the groups' last nodes -/
theorem Good.lasts (h : Good nds out) : (grp nds out on).map lastN = (ord (insOf nds)).filter fun l => decide (0 < ((ord (insOf nds)).filter (pR nds out on l)).length) := by
  unfold grp gsP
  rw [List.take_length]
  refine filter_lasts _ fun l hl hq => ?_
  have hq := of_decide_eq_true hq
  obtain ⟨k, hk⟩ := List.exists_mem_of_length_pos hq
  obtain ⟨hk1, hk2⟩ := List.mem_filter.1 hk
  obtain ⟨h1, h2⟩ := pR_iff.1 hk2
  obtain ⟨pre, hp⟩ := h.last (ord_lt hk1) h1 h2
  rw [hp]
  simp [lastN]
theorem Good.leads (h : Good nds out) {l : Nat} (hl : l ∈ ord (insOf nds)) (hp : 0 < ((ord (insOf nds)).filter (pR nds out true l)).length) : 0 < ((ord (insOf nds)).filter (pR nds out false l)).length := by
  obtain ⟨k, hk⟩ := List.exists_mem_of_length_pos hp
  obtain ⟨hk1, hk2⟩ := List.mem_filter.1 hk
  obtain ⟨h1, h2⟩ := pR_iff.1 hk2
  have h3 := (h.led_up (on := true) (ord_lt hk1)).2.2 h1
  rw [h2] at h3
  exact List.length_pos_of_mem (List.mem_filter.2 ⟨hl, pR_iff.2 ⟨h3, led_off⟩⟩)
theorem raw_sum (nds : List Nd) (out : Int) (on : Bool) (want : Rc) : sumI ((List.range (raws nds out on want).length).map fun i => szP ((raws nds out on want).getD i Ps.none)) = sumI (((grp nds out on).map lastN).map fun k => sz (areaR (bxN nds want out k))) := by
  congr 1
  rw [raws_len, List.map_map]
  refine List.ext_getElem (by simp) fun i h1 h2 => ?_
  have hi : i < (grp nds out on).length := by simpa using h1
  simp only [List.getElem_map, List.getElem_range]
  rw [raws_get hi]
  unfold szP rawP
  simp [hi]
theorem asg_fuse (h : Good nds out) {c d : Cf} (hc : c.al = false) (hd : d.al = false) (rc : c.roi = true) (rd : d.roi = true) (fc : c.fuse = false) (fd : d.fuse = true) : (asg nds d (pss nds out d want)).pk ≤ (asg nds c (pss nds out c want)).pk := by
  rw [asg_off nds hc, asg_off nds hd]
  unfold pss
  rw [if_pos rc, if_pos rd, fc, fd, raw_sum, raw_sum, h.lasts, h.lasts]
  have : (ord (insOf nds)).filter (fun l => decide (0 < ((ord (insOf nds)).filter (pR nds out true l)).length)) = (ord (insOf nds)).filter fun l => decide (0 < ((ord (insOf nds)).filter (pR nds out true l)).length) && decide (0 < ((ord (insOf nds)).filter (pR nds out false l)).length) := by
    refine List.filter_congr fun l hl => ?_
    by_cases hp : 0 < ((ord (insOf nds)).filter (pR nds out true l)).length
    · rw [decide_eq_true hp, decide_eq_true (h.leads hl hp)]; rfl
    · rw [decide_eq_false hp]; rfl
  rw [this]
  exact sum_mono (fun l hl => (Bool.and_eq_true _ _ ▸ hl : _ ∧ _).2) (fun k => (sz_bd _).1) _
end
end Go.Proofs.YthaniopkpmhalaaDoor
