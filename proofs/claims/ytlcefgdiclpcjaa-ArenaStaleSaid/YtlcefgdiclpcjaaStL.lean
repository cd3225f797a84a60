/- Layer 22: plain laws of names that are gone. -/
import Derived.Test.YtlcefgdiclpcjaaArM
namespace Go.Proofs.Ytlcefgdiclpcjaa
open Go.RowKit Go.Bx
set_option linter.unusedVariables false

/-- what holds of an arena, of the names taken, and of a name that is gone, behind i acts -/
structure StInv (i : Nat) (G : List Int) (L : List Bool) (ids : List (Int × Int)) (k0 : Nat) (gen0 : Int) : Prop where
  len : G.length = L.length
  pos : 1 ≤ G.length
  max : L.length ≤ 1024
  nn : ∀ x ∈ G, 0 ≤ x
  calm : ∀ x ∈ G, x ≤ 1099511627777 + i
  g0 : G.getD 0 0 = 0
  l0 : L.getD 0 false = true
  at_ : k0 < G.length
  gone : gen0 < G.getD k0 0
  few : ids.length ≤ i
  nodup : ids.Nodup
  all : ∀ x ∈ ids, hasB G L x.1 x.2 = true ∧ x.1 ≠ 0

theorem StInv.same {i : Nat} {G : List Int} {L : List Bool} {ids : List (Int × Int)} {k0 : Nat} {gen0 : Int} (h : StInv i G L ids k0 gen0) : StInv (i + 1) G L ids k0 gen0 :=
  { h with calm := fun x hx => by have := h.calm x hx; omega, few := by have := h.few; omega }
theorem StInv.start {G : List Int} {L : List Bool} {k0 : Nat} {gen0 : Int} (hok : okA G L = true) (hf : frOk G L k0 gen0 = true) : StInv 0 (frG G L k0 gen0) (frL G L k0 gen0) [] k0 gen0 := by
  obtain ⟨hlen, hpos, h1024, hnn, hcalm, hz0, hz1⟩ := okA_parts hok
  have hf' := hf
  unfold frOk at hf'
  simp only [Bool.and_eq_true, Bool.not_eq_true', decide_eq_false_iff_not] at hf'
  obtain ⟨k, hk, hkl, hls, hgk⟩ := (hasB_iff G L k0 gen0).1 hf'.1
  have hk' : k0 = k := by omega
  subst hk'
  have hne : k0 ≠ 0 := by have := hf'.2; omega
  unfold frG frL
  rw [if_pos hf, if_pos hf]
  simp only [Int.toNat_natCast]
  have hm : G.getD k0 0 ∈ G := by rw [List.getD_eq_getElem?_getD, List.getElem?_eq_getElem hkl]; exact List.getElem_mem hkl
  exact {
    len := by simp [hlen]
    pos := by simp; omega
    max := by simp; omega
    nn := fun x hx => by
      rcases List.mem_or_eq_of_mem_set hx with h | h
      · exact hnn x h
      · have := hnn _ hm; omega
    calm := fun x hx => by
      rcases List.mem_or_eq_of_mem_set hx with h | h
      · have := hcalm x h; omega
      · have := hcalm _ hm; omega
    g0 := by rw [getD_set _ _ _ _ _ hkl, if_neg (fun e => hne e.symm)]; exact hz0
    l0 := by rw [getD_set _ _ _ _ _ (by omega), if_neg (fun e => hne e.symm)]; exact hz1
    at_ := by simp; omega
    gone := by rw [getD_set _ _ _ _ _ hkl, if_pos rfl]; omega
    few := by simp
    nodup := List.nodup_nil
    all := fun x hx => by cases hx }
theorem StInv.dead {i : Nat} {G : List Int} {L : List Bool} {ids : List (Int × Int)} {k0 : Nat} {gen0 : Int} (h : StInv i G L ids k0 gen0) : hasB G L k0 gen0 = false := by
  cases e : hasB G L k0 gen0 with
  | false => rfl
  | true =>
    obtain ⟨k, hk, hkl, hls, hgk⟩ := (hasB_iff G L k0 gen0).1 e
    have hk' : k0 = k := by omega
    subst hk'
    have := h.gone; omega
theorem StInv.right {i : Nat} {G : List Int} {L : List Bool} {ids : List (Int × Int)} {k0 : Nat} {gen0 : Int} (h : StInv i G L ids k0 gen0) : rightA G L = true := by
  unfold rightA
  simp only [Bool.and_eq_true, decide_eq_true_eq, List.all_eq_true]
  exact ⟨⟨⟨⟨⟨h.len, h.pos⟩, by have := h.len; have := h.max; omega⟩, h.g0⟩, h.l0⟩, h.nn⟩
/-- taken -/
theorem StInv.take {i : Nat} {G : List Int} {L : List Bool} {ids : List (Int × Int)} {k0 : Nat} {gen0 : Int} (h : StInv i G L ids k0 gen0) (hok : tkOk L = true) :
    StInv (i + 1) (tkG G L) (tkL L) (ids ++ [(tkAt L, tkGen G L)]) k0 gen0 ∧ (∀ x ∈ ids, ¬ (x.1 = tkAt L ∧ x.2 = tkGen G L)) := by
  obtain ⟨_, t2, t3, t4⟩ := (tk_law G L h.len h.max).1 hok
  have hnew : ∀ x ∈ ids, ¬ (x.1 = tkAt L ∧ x.2 = tkGen G L) := fun x hx ⟨e1, e2⟩ => by
    have := (h.all x hx).1
    rw [e1, e2, t3] at this
    cases this
  have hk : freeAt L < 1024 := of_decide_eq_true hok
  have eA : tkAt L = freeAt L := if_pos hk
  have hle := freeAt_le L
  have h1 : freeAt L ≠ 0 := by
    intro e
    by_cases hfr : freeAt L < L.length
    · have := freeAt_lt L hfr
      rw [e, h.l0] at this; cases this
    · have := h.pos; have := h.len; omega
  have hlen2 := h.len
  have hmem : ∀ x ∈ tkG G L, x ∈ G ∨ x = 0 := by
    intro x hx
    unfold tkG at hx
    split at hx
    · exact .inl hx
    · split at hx
      · rcases List.mem_append.1 hx with hx | hx
        · exact .inl hx
        · simp at hx; exact .inr hx
      · exact .inl hx
  have hgd : ∀ j, j < G.length → (tkG G L).getD j 0 = G.getD j 0 := by
    intro j hj
    unfold tkG
    split
    · rfl
    · split
      · rw [getD_app, if_neg (by omega)]
      · rfl
  have hll : (tkG G L).length = (tkL L).length ∧ G.length ≤ (tkG G L).length ∧ (tkL L).length ≤ 1024 := by
    unfold tkG tkL
    have := h.max
    split
    · simp; omega
    · split
      · simp; omega
      · omega
  refine ⟨{
    len := hll.1
    pos := by have := h.pos; omega
    max := hll.2.2
    nn := fun x hx => by
      rcases hmem x hx with h' | h'
      · exact h.nn x h'
      · omega
    calm := fun x hx => by
      rcases hmem x hx with h' | h'
      · have := h.calm x h'; omega
      · omega
    g0 := by rw [hgd 0 (by have := h.pos; omega)]; exact h.g0
    l0 := by
      have h0 : 0 < L.length := by have := h.pos; omega
      unfold tkL
      split
      · rw [getD_set _ _ _ _ _ (by assumption)]
        split
        · rfl
        · exact h.l0
      · split
        · rw [getD_app, if_neg (by omega)]; exact h.l0
        · exact h.l0
    at_ := by have := h.at_; omega
    gone := by rw [hgd k0 h.at_]; exact h.gone
    few := by simp; exact h.few
    nodup := by
      rw [List.nodup_append]
      refine ⟨h.nodup, by simp, fun a ha b hb => ?_⟩
      simp at hb
      subst hb
      intro e
      subst e
      exact hnew _ ha ⟨rfl, rfl⟩
    all := fun x hx => by
      rcases List.mem_append.1 hx with hx | hx
      · refine ⟨?_, (h.all x hx).2⟩
        rw [t4 x.1 x.2 (fun ⟨e1, e2⟩ => hnew x hx ⟨e1.symm, e2.symm⟩)]
        exact (h.all x hx).1
      · simp at hx
        subst hx
        refine ⟨t2, ?_⟩
        rw [eA]; omega }, hnew⟩
/-- freed -/
theorem StInv.free {i : Nat} {G : List Int} {L : List Bool} {ids : List (Int × Int)} {k0 : Nat} {gen0 : Int} (h : StInv i G L ids k0 gen0) (j : Nat) (x : Int × Int) (hx : ids[j]? = some x) :
    frOk G L x.1 x.2 = true ∧ StInv (i + 1) (frG G L x.1 x.2) (frL G L x.1 x.2) (ids.eraseIdx j) k0 gen0 := by
  have hm : x ∈ ids := List.mem_of_getElem? hx
  obtain ⟨h1, h2⟩ := h.all x hm
  have ho : frOk G L x.1 x.2 = true := by unfold frOk; rw [h1]; simpa using h2
  obtain ⟨k, hk, hkl, hls, hgk⟩ := (hasB_iff G L x.1 x.2).1 h1
  refine ⟨ho, ?_⟩
  unfold frG frL
  rw [if_pos ho, if_pos ho, hk, Int.toNat_natCast, hgk]
  have hne : k ≠ 0 := by omega
  have hlen2 := h.len
  have hmem : x.2 ∈ G := by rw [← hgk, List.getD_eq_getElem?_getD, List.getElem?_eq_getElem hkl]; exact List.getElem_mem hkl
  exact {
    len := by simp [h.len]
    pos := by simp; exact h.pos
    max := by simp; exact h.max
    nn := fun y hy => by
      rcases List.mem_or_eq_of_mem_set hy with h' | h'
      · exact h.nn y h'
      · have := h.nn _ hmem; omega
    calm := fun y hy => by
      rcases List.mem_or_eq_of_mem_set hy with h' | h'
      · have := h.calm y h'; omega
      · have := h.calm _ hmem; omega
    g0 := by rw [getD_set _ _ _ _ _ hkl, if_neg (fun e => hne e.symm)]; exact h.g0
    l0 := by rw [getD_set _ _ _ _ _ (by omega), if_neg (fun e => hne e.symm)]; exact h.l0
    at_ := by simp; exact h.at_
    gone := by
      rw [getD_set _ _ _ _ _ hkl]
      have := h.gone
      split
      · rename_i e; rw [e, hgk] at this; omega
      · exact this
    few := by have := List.length_eraseIdx_le ids j; have := h.few; omega
    nodup := h.nodup.sublist (List.eraseIdx_sublist _ _)
    all := fun y hy => by
      have hy' : y ∈ ids := (List.eraseIdx_sublist ids j).subset hy
      obtain ⟨a1, a2⟩ := h.all y hy'
      refine ⟨?_, a2⟩
      obtain ⟨m, hm', hml, hms, hmg⟩ := (hasB_iff G L y.1 y.2).1 a1
      have hmk : m ≠ k := by
        intro e
        subst e
        have e1 : y = x := by
          have : y.1 = x.1 := by omega
          have h3 : y.2 = x.2 := by rw [← hmg, hgk]
          exact Prod.ext this h3
        subst e1
        have hjl : j < ids.length := (List.getElem?_eq_some_iff.1 hx).1
        have hxe : ids[j] = y := (List.getElem?_eq_some_iff.1 hx).2
        obtain ⟨q, hq, hqe⟩ := List.mem_iff_getElem.1 hy
        rw [List.getElem_eraseIdx] at hqe
        rw [List.length_eraseIdx] at hq
        have hnd := List.pairwise_iff_getElem.1 h.nodup
        split at hqe
        · rename_i hqj
          exact hnd q j (by omega) hjl hqj (by rw [hqe, hxe])
        · rename_i hqj
          have hq2 : q + 1 < ids.length := by split at hq <;> omega
          exact hnd j (q + 1) hjl hq2 (by omega) (by rw [hqe, hxe])
      rw [hasB_iff]
      exact ⟨m, hm', by simp; exact hml, by rw [getD_set _ _ _ _ _ (by omega), if_neg hmk]; exact hms, by rw [getD_set _ _ _ _ _ hkl, if_neg hmk]; exact hmg⟩ }
end Go.Proofs.Ytlcefgdiclpcjaa
