/- Layer 17: what a right filter's groups read, and until when they are kept: plain laws. -/
import Derived.Test.YtmhfabekmgcjnaaDoorTb
namespace Go.Proofs.YtmhfabekmgcjnaaDoor
open Go.RowKit Go.Bx Go.Od Go.Hp Go.Sort
set_option linter.unusedVariables false

theorem rng_of {nd : Nd} {n : Nat} (h : oneB nd n = 0) : ∀ x ∈ nd.ins, -1 ≤ x ∧ x < n := by
  unfold oneB at h
  split at h
  · cases h
  split at h
  · cases h
  split at h
  · cases h
  rename_i h3
  have hn : nearB nd.ins 0 nd.ins.length (-1) ((n : Int) - 1) = true := by simpa using h3
  rw [nearB_iff] at hn
  intro x hx
  obtain ⟨j, hj, rfl⟩ := List.mem_iff_getElem.1 hx
  have := hn j (by omega) hj
  rw [List.getD_eq_getElem?_getD, List.getElem?_eq_getElem hj, Option.getD_some] at this
  omega
theorem right_rng {nds : List Nd} {out : Int} (h : rightB nds out = true) : ∀ i, ∀ x ∈ (nds.getD i Nd.none).ins, -1 ≤ x ∧ x < nds.length := by
  unfold rightB at h
  rw [Bool.and_eq_true] at h
  have hc := eq_of_beq h.2
  unfold chkB at hc
  intro i x hx
  by_cases c1 : nds.length < 1 ∨ 256 < nds.length
  · rw [if_pos c1] at hc; omega
  · rw [if_neg c1] at hc
    by_cases c2 : badB nds nds.length ≠ 0
    · rw [if_pos c2] at hc; exact absurd hc c2
    · have hbad : ∀ q, q < nds.length → oneB (nds.getD q Nd.none) nds.length = 0 := (badB_iff _ _).1 (by simpa using c2)
      by_cases hi : i < nds.length
      · exact rng_of (hbad i hi) x hx
      · have : nds.getD i Nd.none = Nd.none := by
          rw [List.getD_eq_getElem?_getD, List.getElem?_eq_none (by omega)]
          rfl
        rw [this] at hx
        cases hx
/-- a right filter -/
structure SGood (nds : List Nd) (out : Int) : Prop extends Good nds out where
  rng : ∀ i, ∀ x ∈ (nds.getD i Nd.none).ins, -1 ≤ x ∧ x < nds.length
  few20 : ∀ i, (nds.getD i Nd.none).ins.length ≤ 1000
theorem sgood_of {nds : List Nd} {out : Int} (h : rightB nds out = true) : SGood nds out := by
  refine ⟨good_of h, right_rng h, fun i => ?_⟩
  by_cases hi : i < nds.length
  · exact (good_of h).short i hi
  · have : nds.getD i Nd.none = Nd.none := by
      rw [List.getD_eq_getElem?_getD, List.getElem?_eq_none (by omega)]
      rfl
    rw [this]
    simp [Nd.none]
/-- the groups, as lists of ints -/
noncomputable def gL (nds : List Nd) (out : Int) (on : Bool) : List (List Int) := (grp nds out on).map ofN
section
variable {nds : List Nd} {out : Int} {on : Bool}
theorem gL_len : (gL nds out on).length = (grp nds out on).length := by simp [gL]
theorem gL_get {i : Nat} (hi : i < (grp nds out on).length) : (gL nds out on).getD i [] = ofN ((grp nds out on).getD i []) := by simp [gL, hi]
theorem grp_le (h : Good nds out) : (grp nds out on).length ≤ 100 := by
  have h1 := gsP_len (pR nds out on) (ord (insOf nds)) (ord (insOf nds)).length
  have h2 := ord_len (insOf nds)
  rw [insOf_len] at h2
  have := h.few
  unfold grp
  omega
theorem grp_at {i : Nat} (hi : i < (grp nds out on).length) : (grp nds out on).getD i [] ∈ grp nds out on := by
  have : (grp nds out on)[i]? = some ((grp nds out on).getD i []) := by simp [hi]
  exact List.mem_of_getElem? this
theorem grp_lens (h : Good nds out) {i : Nat} (hi : i < (grp nds out on).length) : 0 < ((grp nds out on).getD i []).length ∧ ((grp nds out on).getD i []).length ≤ 100 := by
  obtain ⟨h0, l, _, e⟩ := grp_mem.1 (grp_at hi)
  refine ⟨h0, ?_⟩
  rw [← e]
  refine Nat.le_trans (List.length_filter_le _ _) ?_
  have h2 := ord_len (insOf nds)
  rw [insOf_len] at h2
  have := h.few
  omega
theorem SGood.ok (h : SGood nds out) : GrpOk nds (gL nds out on) := by
  refine ⟨by have := h.few; omega, h.few20, h.rng, by rw [gL_len]; have := grp_le (on := on) h.toGood; omega, fun g hg => ?_⟩
  unfold gL at hg
  obtain ⟨l, hl, rfl⟩ := List.mem_map.1 hg
  obtain ⟨i, hi, rfl⟩ := List.mem_iff_getElem.1 hl
  have e : (grp nds out on)[i] = (grp nds out on).getD i [] := by simp [hi]
  rw [e]
  refine ⟨by rw [ofN_len]; exact grp_lens h.toGood hi, fun x hx => ?_⟩
  unfold ofN at hx
  obtain ⟨a, ha, rfl⟩ := List.mem_map.1 hx
  have := h.toGood.w_lt hi ha
  omega
theorem lstI_ofN (l : List Nat) : lstI (ofN l) = (lastN l : Nat) := by
  unfold lstI
  rw [ofN_len, ofN_get]
  unfold lastN
  cases l with
  | nil => rfl
  | cons a l =>
    rw [List.getLastD_eq_getLast?, List.getLast?_eq_getElem?]
    simp
theorem gL_last {i : Nat} (hi : i < (grp nds out on).length) : lstI ((gL nds out on).getD i []) = (lastN ((grp nds out on).getD i []) : Nat) := by rw [gL_get hi, lstI_ofN]
theorem count_two {L : List (List Nat)} {a i j : Nat} (hij : i < j) (hj : j < L.length) (h1 : a ∈ L.getD i []) (h2 : a ∈ L.getD j []) : 2 ≤ L.flatten.count a := by
  have e : L = L.take j ++ L.drop j := (List.take_append_drop j L).symm
  rw [e, List.flatten_append, List.count_append]
  have m1 : a ∈ (L.take j).flatten := by
    refine List.mem_flatten.2 ⟨L.getD i [], ?_, h1⟩
    have : (L.take j)[i]? = some (L.getD i []) := by rw [List.getElem?_take_of_lt hij]; simp [show i < L.length by omega]
    exact List.mem_of_getElem? this
  have m2 : a ∈ (L.drop j).flatten := by
    refine List.mem_flatten.2 ⟨L.getD j [], ?_, h2⟩
    have : (L.drop j)[0]? = some (L.getD j []) := by simp [hj]
    exact List.mem_of_getElem? this
  have c1 := List.count_pos_iff.2 m1
  have c2 := List.count_pos_iff.2 m2
  omega
/-- one lies in one group alone -/
theorem Good.one (h : Good nds out) {a i j : Nat} (hi : i < (grp nds out on).length) (hj : j < (grp nds out on).length) (h1 : a ∈ (grp nds out on).getD i []) (h2 : a ∈ (grp nds out on).getD j []) : i = j := by
  have hc := h.w_count (on := on) (h.w_lt hi h1)
  have hle : (grp nds out on).flatten.count a ≤ 1 := by rw [hc]; split <;> omega
  by_cases e : i = j
  · exact e
  · exfalso
    by_cases hlt : i < j
    · have := count_two hlt hj h1 h2; omega
    · have := count_two (show j < i by omega) hi h2 h1; omega
theorem Good.last_in (h : Good nds out) {i : Nat} (hi : i < (grp nds out on).length) : lastN ((grp nds out on).getD i []) ∈ (grp nds out on).getD i [] := by
  have h0 := (grp_lens h hi).1
  generalize (grp nds out on).getD i [] = g at *
  unfold lastN
  cases g with
  | nil => simp at h0
  | cons a g => simp only [List.getLastD_cons]; exact List.getLastD_mem_cons
theorem Good.needs (h : Good nds out) {i a : Nat} (hi : i < (grp nds out on).length) (ha : a ∈ (grp nds out on).getD i []) : ned (insOf nds) out a = true := by
  obtain ⟨_, l, _, e⟩ := grp_mem.1 (grp_at hi)
  rw [← e] at ha
  exact (pR_iff.1 (List.mem_filter.1 ha).2).1
theorem rd_mem {i : Nat} (hi : i < (grp nds out on).length) {x : Int} : x ∈ rdS nds ((gL nds out on).getD i []) ↔ (∃ a ∈ (grp nds out on).getD i [], x ∈ (nds.getD a Nd.none).ins) ∧ x ∉ ofN ((grp nds out on).getD i []) := by
  rw [rdS_mem, gL_get hi]
  constructor
  · rintro ⟨⟨k, hk, hx⟩, h2⟩
    obtain ⟨a, ha, rfl⟩ := List.mem_map.1 hk
    exact ⟨⟨a, ha, by simpa using hx⟩, h2⟩
  · rintro ⟨⟨a, ha, hx⟩, h2⟩
    exact ⟨⟨(a : Int), List.mem_map.2 ⟨a, ha, rfl⟩, by simpa using hx⟩, h2⟩
/-- what a group reads: Source, or the last of a group ahead -/
theorem SGood.ahead (h : SGood nds out) {i : Nat} (hi : i < (grp nds out on).length) {x : Int} (hx : x ∈ rdS nds ((gL nds out on).getD i [])) : x = -1 ∨ ∃ j, j < i ∧ ((lastN ((grp nds out on).getD j []) : Nat) : Int) = x := by
  obtain ⟨⟨a, ha, hin⟩, hni⟩ := (rd_mem hi).1 hx
  have hr := h.rng a x hin
  by_cases e : x = -1
  · exact .inl e
  · right
    obtain ⟨n, rfl⟩ : ∃ n : Nat, x = n := ⟨x.toNat, by omega⟩
    obtain ⟨k, hk, hke⟩ := List.mem_iff_getElem.1 ha
    have hk' : ((grp nds out on).getD i [])[k]? = some a := by rw [List.getElem?_eq_getElem hk, hke]
    have hs := h.toGood.w_behind hi hk' (by omega) hin
    have hng : n ∉ (grp nds out on).getD i [] := fun hm => hni (List.mem_map.2 ⟨n, hm, rfl⟩)
    rcases List.mem_append.1 hs with hs | hs
    · obtain ⟨g, hg, hn⟩ := List.mem_flatten.1 hs
      obtain ⟨j, hj, rfl⟩ := List.mem_iff_getElem.1 hg
      rw [List.length_take] at hj
      have hj1 : j < (grp nds out on).length := by omega
      have hje : ((grp nds out on).take i)[j] = (grp nds out on).getD j [] := by rw [List.getElem_take]; simp [hj1]
      rw [hje] at hn
      refine ⟨j, by omega, ?_⟩
      by_cases el : n = lastN ((grp nds out on).getD j [])
      · rw [el]
      · exfalso
        have := h.toGood.w_within hj1 hn el (h.toGood.w_lt hi ha) (h.toGood.needs hi ha) hin
        have := h.toGood.one hi hj1 ha this
        omega
    · exact absurd (List.mem_of_mem_take hs) hng
theorem SGood.behind (h : SGood nds out) {i k : Nat} (hi : i < (grp nds out on).length) (hk : k < (grp nds out on).length) (hx : lstI ((gL nds out on).getD i []) ∈ rdS nds ((gL nds out on).getD k [])) : i < k := by
  rw [gL_last hi] at hx
  rcases h.ahead hk hx with e | ⟨j, hj, e⟩
  · omega
  · have e' : lastN ((grp nds out on).getD j []) = lastN ((grp nds out on).getD i []) := by omega
    have m1 := h.toGood.last_in (on := on) (i := j) (by omega)
    rw [e'] at m1
    have := h.toGood.one hi (by omega) (h.toGood.last_in hi) m1
    omega
/-- each but Out's is read behind -/
theorem SGood.read (h : SGood nds out) {i : Nat} (hi : i < (grp nds out on).length) (hne : lstI ((gL nds out on).getD i []) ≠ out) : ∃ k, k < (grp nds out on).length ∧ lstI ((gL nds out on).getD i []) ∈ rdS nds ((gL nds out on).getD k []) := by
  rw [gL_last hi] at hne ⊢
  have hl := h.toGood.last_in hi
  obtain ⟨l, hle⟩ : ∃ l, l = lastN ((grp nds out on).getD i []) := ⟨_, rfl⟩
  rw [← hle] at hne hl ⊢
  have hn := (ned_iff _ _ _).1 (h.toGood.needs hi hl)
  obtain ⟨h0, h1, hr⟩ := hn
  cases hr with
  | base => omega
  | @step u _ hu hk =>
    have hnu : ned (insOf nds) out u = true := (ned_iff _ _ _).2 ⟨h0, h1, hu⟩
    have hul : u < nds.length := by have := Ned.lt (ins := insOf nds) ⟨h0, h1, hu⟩; rwa [insOf_len] at this
    have hin : (l : Int) ∈ (nds.getD u Nd.none).ins := by have := ((inp_mem _ _ _).1 hk).2; rwa [insOf_get] at this
    have hc := h.toGood.w_count (on := on) hul
    rw [hnu, if_pos rfl] at hc
    have hm : u ∈ (grp nds out on).flatten := List.count_pos_iff.1 (by omega)
    obtain ⟨g, hg, hug⟩ := List.mem_flatten.1 hm
    obtain ⟨k, hkl, rfl⟩ := List.mem_iff_getElem.1 hg
    have hke : (grp nds out on)[k] = (grp nds out on).getD k [] := by simp [hkl]
    rw [hke] at hug
    refine ⟨k, hkl, (rd_mem hkl).2 ⟨⟨u, hug, hin⟩, fun hm => ?_⟩⟩
    obtain ⟨l', hl', e⟩ := List.mem_map.1 hm
    have e' : l' = l := by omega
    subst e'
    have hik := h.toGood.one hi hkl hl hl'
    subst hik
    obtain ⟨L, e2, e3⟩ := h.toGood.w_last hi
    rw [← hle] at e3
    subst e3
    rw [e2] at hug
    obtain ⟨_, hp⟩ := List.mem_filter.1 hug
    have hled := (pR_iff.1 hp).2
    have h5 := (h.toGood.led_up (on := on) hul).1
    rw [hled] at h5
    have h6 := h.toGood.before hul hk
    omega
/-! ### until -/
noncomputable def rL (nds : List Nd) (out : Int) (on : Bool) : List (List Int) := (gL nds out on).map (rdS nds)
theorem rL_get {i : Nat} (hi : i < (grp nds out on).length) : (rL nds out on).getD i [] = rdS nds ((gL nds out on).getD i []) := by
  have : i < (gL nds out on).length := by rw [gL_len]; exact hi
  simp [rL, this]
theorem SGood.hits (h : SGood nds out) {i : Nat} (hi : i < (grp nds out on).length) : hitA (rL nds out on) (lstI ((gL nds out on).getD i [])) i (grp nds out on).length = hitB (rL nds out on) (lstI ((gL nds out on).getD i [])) (grp nds out on).length := by
  unfold hitA hitB
  congr 1
  refine List.filter_congr fun k hk => ?_
  have hkl := List.mem_range.1 hk
  rw [rL_get hkl]
  by_cases hc : (rdS nds ((gL nds out on).getD k [])).contains (lstI ((gL nds out on).getD i [])) = true
  · rw [hc, decide_eq_true (h.behind hi hkl (by simpa using hc))]
    rfl
  · rw [Bool.eq_false_iff.2 hc]
    simp
theorem SGood.untils (h : SGood nds out) : (List.range (gL nds out on).length).map (unA (rL nds out on) (gL nds out on) out) = (List.range (gL nds out on).length).map (unB (rL nds out on) (gL nds out on) out) := by
  refine List.map_congr_left fun i hi => ?_
  have hi' := List.mem_range.1 hi
  rw [gL_len] at hi'
  unfold unA unB
  rw [gL_len, h.hits hi']
theorem lastN_top {p : Nat → Bool} {k : Nat} : ∀ {m : Nat}, k < m → p k = true → k ≤ lastN ((List.range m).filter p)
  | m + 1, hk, hp => by
    rw [filter_step]
    split
    · omega
    · by_cases e : k = m
      · subst e; contradiction
      · exact lastN_top (by omega) hp
theorem lastN_in {l : List Nat} (h : l ≠ []) : lastN l ∈ l := by
  unfold lastN
  cases l with
  | nil => exact absurd rfl h
  | cons a g => simp only [List.getLastD_cons]; exact List.getLastD_mem_cons
/-- until when the i-th is kept -/
noncomputable def uN (nds : List Nd) (out : Int) (on : Bool) (i : Nat) : Int := unA (rL nds out on) (gL nds out on) out i
theorem uN_out {i : Nat} (e : lstI ((gL nds out on).getD i []) = out) : uN nds out on i = (grp nds out on).length := by
  unfold uN unA
  rw [if_pos e, gL_len]
theorem SGood.uN_not (h : SGood nds out) {i : Nat} (hi : i < (grp nds out on).length) (e : lstI ((gL nds out on).getD i []) ≠ out) : (i : Int) < uN nds out on i ∧ uN nds out on i < (grp nds out on).length ∧ ∀ k, k < (grp nds out on).length → lstI ((gL nds out on).getD i []) ∈ rdS nds ((gL nds out on).getD k []) → (k : Int) ≤ uN nds out on i := by
  unfold uN unA
  rw [if_neg e, gL_len]
  have htop : ∀ k, k < (grp nds out on).length → lstI ((gL nds out on).getD i []) ∈ rdS nds ((gL nds out on).getD k []) → k ≤ hitA (rL nds out on) (lstI ((gL nds out on).getD i [])) i (grp nds out on).length := fun k hk hm => by
    refine lastN_top hk ?_
    rw [rL_get hk, decide_eq_true (h.behind hi hk hm)]
    simpa using hm
  obtain ⟨k, hk, hm⟩ := h.read hi e
  have h1 := htop k hk hm
  have h2 := h.behind hi hk hm
  have h3 := hitA_lt (rL nds out on) (lstI ((gL nds out on).getD i [])) i (m := (grp nds out on).length) (by omega)
  exact ⟨by omega, by omega, fun k hk hm => by have := htop k hk hm; omega⟩
theorem SGood.uN_gt (h : SGood nds out) {i : Nat} (hi : i < (grp nds out on).length) : (i : Int) < uN nds out on i ∧ uN nds out on i ≤ (grp nds out on).length := by
  by_cases e : lstI ((gL nds out on).getD i []) = out
  · rw [uN_out e]; omega
  · have := h.uN_not hi e; omega
/-- just Out's is kept to the end -/
theorem SGood.uN_end (h : SGood nds out) {i : Nat} (hi : i < (grp nds out on).length) : uN nds out on i = (grp nds out on).length ↔ lstI ((gL nds out on).getD i []) = out := by
  constructor
  · intro hu
    by_cases e : lstI ((gL nds out on).getD i []) = out
    · exact e
    · have := h.uN_not hi e; omega
  · exact uN_out
theorem SGood.the_one (h : SGood nds out) : ∃ r, r < (grp nds out on).length ∧ ∀ i, i < (grp nds out on).length → (lstI ((gL nds out on).getD i []) = out ↔ i = r) := by
  obtain ⟨r, hr, e⟩ := h.toGood.has_out (on := on)
  refine ⟨r, hr, fun i hi => ?_⟩
  rw [gL_last hi]
  constructor
  · intro hl
    have e' : lastN ((grp nds out on).getD i []) = lastN ((grp nds out on).getD r []) := by omega
    have m1 := h.toGood.last_in hi
    rw [e'] at m1
    exact h.toGood.one hi hr m1 (h.toGood.last_in hr)
  · rintro rfl; exact e
/-- what is read is kept -/
theorem SGood.kept (h : SGood nds out) {i j : Nat} (hi : i < (grp nds out on).length) (hj : j < (grp nds out on).length) (hm : lstI ((gL nds out on).getD j []) ∈ rdS nds ((gL nds out on).getD i [])) : (i : Int) ≤ uN nds out on j := by
  by_cases e : lstI ((gL nds out on).getD j []) = out
  · rw [uN_out e]; omega
  · exact (h.uN_not hj e).2.2 i hi hm
end
end Go.Proofs.YtmhfabekmgcjnaaDoor
