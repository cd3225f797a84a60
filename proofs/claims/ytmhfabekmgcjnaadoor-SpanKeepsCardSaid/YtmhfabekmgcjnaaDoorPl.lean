/- Layer 16: groups: plain laws. -/
import Derived.Test.YtmhfabekmgcjnaaDoorRg
import Derived.Test.YtmhfabekmgcjnaaDoorRp
namespace Go.Proofs.YtmhfabekmgcjnaaDoor
open Go.RowKit Go.Bx Go.Od Go.Hp
set_option linter.unusedVariables false

/-- what a right filter's graph is -/
structure Good (nds : List Nd) (out : Int) : Prop where
  few : nds.length ≤ 100
  short : ∀ i, i < nds.length → (nds.getD i Nd.none).ins.length ≤ 1000
  pos : 0 < nds.length
  outs : 0 ≤ out ∧ out < nds.length
  full : ∀ i, i < nds.length → i ∈ ord (insOf nds)
theorem good_of {nds : List Nd} {out : Int} (h : rightB nds out = true) : Good nds out := by
  unfold rightB at h
  rw [Bool.and_eq_true] at h
  obtain ⟨h1, h2⟩ := few_of h.1 (by omega)
  have hc := eq_of_beq h.2
  unfold chkB at hc
  by_cases c1 : nds.length < 1 ∨ 256 < nds.length
  · rw [if_pos c1] at hc; omega
  · rw [if_neg c1] at hc
    by_cases c2 : badB nds nds.length ≠ 0
    · rw [if_pos c2] at hc; exact absurd hc c2
    · rw [if_neg c2] at hc
      by_cases c3 : out < 0 ∨ (nds.length : Int) ≤ out
      · rw [if_pos c3] at hc; omega
      · rw [if_neg c3] at hc
        by_cases c4 : (ord (insOf nds)).length < nds.length
        · rw [if_pos c4] at hc; omega
        · refine ⟨h1, h2, by omega, by omega, fun i hi => ?_⟩
          have h5 := ord_len (insOf nds)
          rw [insOf_len] at h5
          exact (ord_full (insOf nds)).1 (by rw [insOf_len]; omega) i (by rw [insOf_len]; exact hi)
theorem idx_take {l : List Nat} {m k : Nat} (h : k ∈ l.take m) : l.idxOf k < m := by
  have e : l = l.take m ++ l.drop m := (List.take_append_drop m l).symm
  have h1 : l.idxOf k = (l.take m).idxOf k := by
    have : (l.take m ++ l.drop m).idxOf k = (l.take m).idxOf k := by rw [List.idxOf_append, if_pos h]
    rwa [List.take_append_drop] at this
  rw [h1]
  have := List.idxOf_lt_length_of_mem h
  rw [List.length_take] at this
  omega
theorem idx_at {l : List Nat} {u : Nat} (h : u ∈ l) : l[l.idxOf u]? = some u := by
  have h1 := List.idxOf_lt_length_of_mem h
  rw [List.getElem?_eq_getElem h1, List.getElem_idxOf]
theorem us_mem {ins : List (List Int)} {k u : Nat} : u ∈ users ins k ↔ u < ins.length ∧ k ∈ inp ins u := by
  unfold users
  rw [List.mem_filter, List.mem_range]
  simp
section
variable {nds : List Nd} {out : Int} {on : Bool} {k u : Nat}
/-- where one stands -/
noncomputable def at_ (nds : List Nd) (k : Nat) : Nat := (ord (insOf nds)).idxOf k
theorem ord_lt (h : k ∈ ord (insOf nds)) : k < nds.length := by
  have := (ord_fine (insOf nds)).bound k h
  rwa [insOf_len] at this
theorem Good.at_lt (h : Good nds out) (hk : k < nds.length) : at_ nds k < nds.length := by
  have h1 := List.idxOf_lt_length_of_mem (h.full k hk)
  have h2 := ord_len (insOf nds)
  rw [insOf_len] at h2
  unfold at_
  omega
/-- an input stands before -/
theorem Good.before (h : Good nds out) (hu : u < nds.length) (hk : k ∈ inp (insOf nds) u) : at_ nds k < at_ nds u :=
  idx_take ((ord_fine (insOf nds)).behind _ u (idx_at (h.full u hu)) k hk)
theorem jO_some (h : jO nds out on k = some u) : on = true ∧ ned (insOf nds) out k = true ∧ (u < nds.length ∧ k ∈ inp (insOf nds) u ∧ ned (insOf nds) out u = true) ∧ (k : Int) ≠ out ∧ byPt (nds.getD k Nd.none).op = true ∧ byPt (nds.getD u Nd.none).op = true ∧
    ∀ j, j < nds.length → k ∈ inp (insOf nds) j → ned (insOf nds) out j = true → j = u := by
  unfold jO ldCond at h
  split at h
  · rename_i hc
    have hu := Option.some.inj h
    rw [Bool.and_eq_true, Bool.and_eq_true, Bool.and_eq_true, Bool.and_eq_true, Bool.and_eq_true] at hc
    obtain ⟨c1, c2, c3, c4, c5, c6⟩ := hc
    rw [hu] at c6
    have hl : ((users (insOf nds) k).filter (ned (insOf nds) out)).length = 1 := by have := eq_of_beq c3; omega
    obtain ⟨x, hx⟩ := List.length_eq_one_iff.1 hl
    have hxu : x = u := by rw [← hu, hx]; rfl
    subst hxu
    have hm : ∀ j, j ∈ (users (insOf nds) k).filter (ned (insOf nds) out) ↔ j = x := fun j => by rw [hx]; simp
    have hmx := (hm x).2 rfl
    rw [List.mem_filter, us_mem, insOf_len] at hmx
    refine ⟨c2, c1, ⟨hmx.1.1, hmx.1.2, hmx.2⟩, by simpa using c4, c5, c6, fun j hj hin hn => ?_⟩
    exact (hm j).1 (List.mem_filter.2 ⟨us_mem.2 ⟨by rw [insOf_len]; exact hj, hin⟩, hn⟩)
  · cases h
theorem jO_off : jO nds out false k = none := by unfold jO ldCond; simp
theorem Good.rk (h : Good nds out) (on : Bool) : Rk (jO nds out on) nds.length (fun k => nds.length - at_ nds k) := by
  refine ⟨fun k => Nat.sub_le _ _, fun k u hk e => ?_⟩
  obtain ⟨_, _, ⟨h1, h2, _⟩, _⟩ := jO_some e
  have h3 := h.before h1 h2
  have h4 := h.at_lt h1
  refine ⟨h1, ?_⟩
  show nds.length - at_ nds u < nds.length - at_ nds k
  omega
/-- the leader of one -/
noncomputable def led (nds : List Nd) (out : Int) (on : Bool) (k : Nat) : Nat := ldr (jO nds out on) nds.length k
theorem led_none (e : jO nds out on k = none) : led nds out on k = k := ldr_none e
theorem Good.led_some (h : Good nds out) (hk : k < nds.length) (e : jO nds out on k = some u) : led nds out on k = led nds out on u := ldr_step (h.rk on) hk e
theorem Good.fold (h : Good nds out) (on : Bool) : ∀ (s pre : List Nat), ord (insOf nds) = pre ++ s → ∀ k, (s.reverse.foldl (ldStep (ned (insOf nds) out) (users (insOf nds)) (fun k => (nds.getD k Nd.none).op) out on) fun _ => none) k = if k ∈ s ∧ ned (insOf nds) out k = true then some (led nds out on k) else none
  | [], pre, _, k => by simp
  | x :: s, pre, e, k => by
    have ih := h.fold on s (pre ++ [x]) (by rw [e]; simp)
    rw [List.reverse_cons, List.foldl_append]
    obtain ⟨m, hm⟩ : ∃ m, m = (s.reverse.foldl (ldStep (ned (insOf nds) out) (users (insOf nds)) (fun k => (nds.getD k Nd.none).op) out on) fun _ => none) := ⟨_, rfl⟩
    rw [← hm] at ih ⊢
    simp only [List.foldl_cons, List.foldl_nil]
    have hnd := (ord_fine (insOf nds)).nodup
    rw [e] at hnd
    have hxs : x ∉ s := by
      have := (List.nodup_append.1 hnd).2.1
      exact (List.nodup_cons.1 this).1
    have hxp : x ∉ pre := fun hx => (List.nodup_append.1 hnd).2.2 x hx x (by simp) rfl
    have hxn : x < nds.length := ord_lt (by rw [e]; simp)
    unfold ldStep
    by_cases hS : ned (insOf nds) out x = true
    · rw [if_pos hS]
      cases hj : jO nds out on x with
      | none =>
        have hc : ¬ (ldCond (ned (insOf nds) out) (users (insOf nds)) (fun k => (nds.getD k Nd.none).op) out on x = true) := fun hc => by
          unfold jO at hj
          rw [hS, hc] at hj
          cases hj
        rw [if_neg hc]
        unfold setM
        by_cases hkx : k = x
        · subst hkx
          rw [if_pos rfl, if_pos ⟨by simp, hS⟩, led_none hj]
        · rw [if_neg hkx, ih k]
          simp [hkx]
      | some u =>
        have hc : ldCond (ned (insOf nds) out) (users (insOf nds)) (fun k => (nds.getD k Nd.none).op) out on x = true := by
          by_cases hc : ldCond (ned (insOf nds) out) (users (insOf nds)) (fun k => (nds.getD k Nd.none).op) out on x = true
          · exact hc
          · unfold jO at hj
            rw [if_neg (by rw [Bool.and_eq_true]; exact fun hh => hc hh.2)] at hj
            cases hj
        have hlu : lastN ((users (insOf nds) x).filter (ned (insOf nds) out)) = u := by
          unfold jO at hj
          rw [hS, hc] at hj
          exact Option.some.inj hj
        rw [if_pos hc, hlu]
        obtain ⟨_, _, ⟨h1, h2, h3⟩, _⟩ := jO_some hj
        have hux : u ≠ x := fun e2 => by subst e2; have := h.before h1 h2; omega
        have hus : u ∈ s := by
          have hu := h.full u h1
          rw [e] at hu
          rcases List.mem_append.1 hu with hp | hp
          · exfalso
            obtain ⟨i, hi, hie⟩ := List.getElem_of_mem hp
            have h4 : (ord (insOf nds))[i]? = some u := by rw [e, List.getElem?_append_left hi, List.getElem?_eq_getElem hi, hie]
            have h5 := (ord_fine (insOf nds)).behind i u h4 x h2
            rw [e, List.take_append_of_le_length (by omega)] at h5
            exact hxp (List.mem_of_mem_take h5)
          · rcases List.mem_cons.1 hp with hp | hp
            · exact absurd hp hux
            · exact hp
        unfold setM
        by_cases hkx : k = x
        · subst hkx
          show (if k = k then some ((if u = k then some k else m u).getD 0) else (if k = k then some k else m k)) = _
          rw [if_neg hux, ih u, if_pos (show u ∈ s ∧ ned (insOf nds) out u = true from ⟨hus, h3⟩), h.led_some hxn hj, if_pos (Eq.refl k)]
          simp [hS]
        · rw [if_neg hkx, if_neg hkx, ih k]
          simp [hkx]
    · rw [if_neg hS, ih k]
      by_cases hkx : k = x
      · subst hkx
        rw [if_neg (fun h => hS h.2), if_neg (fun h => hS h.2)]
      · simp [hkx]
theorem Good.ldM (h : Good nds out) (on : Bool) (hk : k ∈ ord (insOf nds)) : ldM nds out on k = if ned (insOf nds) out k = true then some (led nds out on k) else none := by
  have := h.fold on (ord (insOf nds)) [] rfl k
  unfold Go.Proofs.YtmhfabekmgcjnaaDoor.ldM
  rw [this]
  simp [hk]
/-- the groups -/
noncomputable def grp (nds : List Nd) (out : Int) (on : Bool) : List (List Nat) := gsP (pR nds out on) (ord (insOf nds)) (ord (insOf nds)).length
theorem pR_iff {l : Nat} : pR nds out on l k = true ↔ ned (insOf nds) out k = true ∧ led nds out on k = l := by
  unfold pR led
  rw [Bool.and_eq_true, beq_iff_eq]
  constructor
  · rintro ⟨h1, h2⟩; exact ⟨h1, by omega⟩
  · rintro ⟨h1, h2⟩; exact ⟨h1, by omega⟩
theorem Good.same (h : Good nds out) (on : Bool) : gsF (Go.Proofs.YtmhfabekmgcjnaaDoor.ldM nds out on) (ord (insOf nds)) = grp nds out on := by
  unfold gsF grp gsP
  rw [List.take_length]
  congr 1
  refine List.map_congr_left fun l _ => List.filter_congr fun k hk => ?_
  rw [h.ldM on hk]
  rw [Bool.eq_iff_iff, pR_iff]
  by_cases hS : ned (insOf nds) out k = true
  · rw [if_pos hS]; simp [hS]
  · rw [if_neg hS]; simp [hS]
theorem Good.ne (h : Good nds out) : 0 < (ord (insOf nds)).length := List.length_pos_of_mem (h.full 0 h.pos)
end
theorem dgroups_c (B : Nat) (nv : Value) (nds : List Nd) (out : Int) (on : Bool) (w : World) (h : Good nds out) (hg : Gr B w nv nds) (hB : B ≤ w.heap.size) :
    Calls Tryd.prog 9 #[.agg #[nv, .int .i64 out], .bool on] w (GsPost w (grp nds out on)) :=
  rgroups_c B nv nds out on _ w (by have := h.few; omega) h.short hg hB h.ne (h.rk true)
end Go.Proofs.YtmhfabekmgcjnaaDoor
