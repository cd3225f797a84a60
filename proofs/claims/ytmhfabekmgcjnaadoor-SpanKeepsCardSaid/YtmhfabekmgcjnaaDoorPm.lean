/- Layer 16: groups: plain laws, more. -/
import Derived.Test.YtmhfabekmgcjnaaDoorPl
namespace Go.Proofs.YtmhfabekmgcjnaaDoor
open Go.RowKit Go.Bx Go.Od Go.Hp
set_option linter.unusedVariables false
section
variable {nds : List Nd} {out : Int} {on : Bool} {k u l : Nat}
theorem Good.ldr_up (h : Good nds out) (on : Bool) : ∀ (f k : Nat), k < nds.length → at_ nds k ≤ at_ nds (ldr (jO nds out on) f k) ∧ ldr (jO nds out on) f k < nds.length ∧ (ned (insOf nds) out k = true → ned (insOf nds) out (ldr (jO nds out on) f k) = true)
  | 0, k, hk => ⟨Nat.le_refl _, hk, fun h => h⟩
  | f + 1, k, hk => by
    cases e : jO nds out on k with
    | none => rw [ldr_none e]; exact ⟨Nat.le_refl _, hk, fun h => h⟩
    | some u =>
      have hs : ldr (jO nds out on) (f + 1) k = ldr (jO nds out on) f u := by simp [ldr, e]
      rw [hs]
      obtain ⟨_, _, ⟨h1, h2, h3⟩, _⟩ := jO_some e
      have h4 := h.before h1 h2
      obtain ⟨i1, i2, i3⟩ := h.ldr_up on f u h1
      exact ⟨by omega, i2, fun _ => i3 h3⟩
theorem Good.led_up (h : Good nds out) (hk : k < nds.length) : at_ nds k ≤ at_ nds (led nds out on k) ∧ led nds out on k < nds.length ∧ (ned (insOf nds) out k = true → ned (insOf nds) out (led nds out on k) = true) := h.ldr_up on _ k hk
/-- a leader joins none -/
theorem Good.led_end (h : Good nds out) : ∀ (f k : Nat), k < nds.length → nds.length - at_ nds k ≤ f → jO nds out on (led nds out on k) = none
  | 0, k, hk, hf => by have := h.at_lt hk; omega
  | f + 1, k, hk, hf => by
    cases e : jO nds out on k with
    | none => rw [led_none e]; exact e
    | some u =>
      obtain ⟨_, _, ⟨h1, h2, h3⟩, _⟩ := jO_some e
      have h4 := h.before h1 h2
      rw [h.led_some hk e]
      exact h.led_end f u h1 (by omega)
theorem Good.led_led (h : Good nds out) (hk : k < nds.length) : led nds out on (led nds out on k) = led nds out on k := led_none (h.led_end _ k hk (Nat.le_refl _))
theorem led_off : led nds out false k = k := led_none jO_off
/-- the last of those that are left of a list -/
theorem last_filter {p : Nat → Bool} {o : Nat} {all : List Nat} (hn : all.Nodup) (ho : o ∈ all) (hp : p o = true) (hmax : ∀ x ∈ all, p x = true → all.idxOf x ≤ all.idxOf o) : ∃ pre, all.filter p = pre ++ [o] := by
  obtain ⟨pre, post, e⟩ := List.append_of_mem ho
  refine ⟨pre.filter p, ?_⟩
  have hpost : post.filter p = [] := by
    rw [List.filter_eq_nil_iff]
    intro x hx hpx
    have h1 := hmax x (by rw [e]; simp [hx]) hpx
    rw [e] at hn h1
    have hnd := List.nodup_append.1 hn
    have hxo : x ≠ o := fun e2 => by
      subst e2
      exact (List.nodup_cons.1 hnd.2.1).1 hx
    have hxp : x ∉ pre := fun h => hnd.2.2 x h x (by simp [hx]) rfl
    have hop : o ∉ pre := fun h => hnd.2.2 o h o (by simp) rfl
    rw [List.idxOf_append, if_neg hxp, List.idxOf_append, if_neg hop, List.idxOf_cons, List.idxOf_cons] at h1
    have hb : (o == x) = false := beq_eq_false_iff_ne.2 (Ne.symm hxo)
    rw [hb] at h1
    simp at h1
    omega
  rw [e, List.filter_append, List.filter_cons_of_pos hp, hpost]
/-- a group's leader is its last -/
theorem Good.last (h : Good nds out) (hk : k < nds.length) (hn : ned (insOf nds) out k = true) (hl : led nds out on k = l) : ∃ pre, (ord (insOf nds)).filter (pR nds out on l) = pre ++ [l] := by
  obtain ⟨h1, h2, h3⟩ := h.led_up (on := on) hk
  rw [hl] at h2 h3
  refine last_filter (ord_fine (insOf nds)).nodup (h.full l h2) (pR_iff.2 ⟨h3 hn, by rw [← hl]; exact h.led_led hk⟩) fun x hx hp => ?_
  obtain ⟨hx1, hx2⟩ := pR_iff.1 hp
  have := (h.led_up (on := on) (ord_lt hx)).1
  rw [hx2] at this
  exact this
theorem Good.outn (h : Good nds out) : out.toNat < nds.length ∧ ned (insOf nds) out out.toNat = true ∧ led nds out on out.toNat = out.toNat := by
  obtain ⟨h0, h1⟩ := h.outs
  refine ⟨by omega, (ned_iff _ _ _).2 ⟨h0, by rw [insOf_len]; exact h1, .base⟩, ?_⟩
  cases e : jO nds out on out.toNat with
  | none => exact led_none e
  | some u =>
    obtain ⟨_, _, _, h2, _⟩ := jO_some e
    exact absurd (by omega) h2
theorem grp_mem {g : List Nat} : g ∈ grp nds out on ↔ 0 < g.length ∧ ∃ l, l ∈ ord (insOf nds) ∧ (ord (insOf nds)).filter (pR nds out on l) = g := by
  unfold grp gsP
  rw [List.take_length, List.mem_filter, List.mem_map]
  constructor
  · rintro ⟨⟨l, h1, h2⟩, h3⟩; exact ⟨by simpa using h3, l, h1, h2⟩
  · rintro ⟨h3, l, h1, h2⟩; exact ⟨⟨l, h1, h2⟩, by simpa using h3⟩
theorem Good.has_out (h : Good nds out) : ∃ r, r < (grp nds out on).length ∧ ((lastN ((grp nds out on).getD r []) : Nat) : Int) = out := by
  obtain ⟨h1, h2, h3⟩ := h.outn (on := on)
  obtain ⟨pre, hp⟩ := h.last (on := on) h1 h2 h3
  have hm : pre ++ [out.toNat] ∈ grp nds out on := grp_mem.2 ⟨by simp, out.toNat, h.full _ h1, hp⟩
  obtain ⟨r, hr, e⟩ := List.getElem_of_mem hm
  refine ⟨r, hr, ?_⟩
  have : (grp nds out on).getD r [] = pre ++ [out.toNat] := by simp [hr, e]
  rw [this, lastN_snoc]
  have := h.outs
  omega
theorem Good.fewer (h : Good nds out) : (grp nds out true).length ≤ (grp nds out false).length := by
  unfold grp gsP
  rw [List.take_length, List.filter_map, List.filter_map, List.length_map, List.length_map, ← List.countP_eq_length_filter, ← List.countP_eq_length_filter]
  refine List.countP_mono_left fun l hl hp => ?_
  simp only [Function.comp, decide_eq_true_eq] at hp ⊢
  obtain ⟨k, hk⟩ := List.exists_mem_of_length_pos hp
  obtain ⟨h1, h2⟩ := List.mem_filter.1 hk
  obtain ⟨h3, h4⟩ := pR_iff.1 h2
  have h5 := (h.led_up (on := true) (ord_lt h1)).2.2 h3
  rw [h4] at h5
  exact List.length_pos_of_mem (List.mem_filter.2 ⟨hl, pR_iff.2 ⟨h5, led_off⟩⟩)
end
end Go.Proofs.YtmhfabekmgcjnaaDoor
