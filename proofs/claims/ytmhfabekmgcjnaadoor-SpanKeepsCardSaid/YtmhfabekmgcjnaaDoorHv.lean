/- Layer 11: container/heap's Pop. -/
import Derived.Test.YtmhfabekmgcjnaaDoorHt
namespace Go.Proofs.YtmhfabekmgcjnaaDoor
open Go.RowKit Go.Bx Go.Hp
attribute [local go_sem ↓] Go.wp_at_zero Go.wp_at_succ
set_option linter.unusedVariables false

theorem OwnP.less {w : World} {B g c N n : Nat} {hs : List Int} (hN : hs.length = N) (hn : n ≤ N) (h : OwnP w B (.slice (some ⟨g, 0, none⟩) N c) hs) : OwnP w B (.slice (some ⟨g, 0, none⟩) n c) (hs.take n) := by
  have hl : (hs.take n).length = n := by rw [List.length_take]; omega
  unfold OwnP at h ⊢
  rw [hl]
  refine ⟨by simp; omega, ?_⟩
  rcases h.2 with ⟨h', _⟩ | ⟨g', cap, cur, hv, hB, hblk, hle, hcap, hsz, htk⟩
  · cases h'
  · simp only [Value.slice.injEq, Option.some.injEq, Addr.mk.injEq, and_true] at hv
    obtain ⟨rfl, _, rfl⟩ := hv
    refine .inr ⟨g, c, cur, rfl, hB, hblk, by omega, hcap, hsz, ?_⟩
    rw [List.map_take, ← htk, List.take_take]
    congr 1
    omega
end Go.Proofs.YtmhfabekmgcjnaaDoor
/- Layer 11: container/heap's Pop. -/
namespace Go.Proofs.YtmhfabekmgcjnaaDoor
open Go.RowKit Go.Bx Go.Hp
attribute [local go_sem ↓] Go.wp_at_zero Go.wp_at_succ
set_option linter.unusedVariables false

theorem take_perm (hs : List Int) (n : Nat) (h : hs.length = n + 1) : (hs.getD n 0 :: hs.take n).Perm hs := by
  have e : hs.take n ++ [hs.getD n 0] = hs := by
    have h1 := List.take_succ_eq_append_getElem (l := hs) (i := n) (by omega)
    rw [List.take_of_length_le (by omega)] at h1
    rw [show hs.getD n 0 = hs[n] by simp [List.getD_eq_getElem?_getD, show n < hs.length by omega]]
    exact h1.symm
  have := (List.perm_append_singleton (hs.getD n 0) (hs.take n)).symm
  rw [e] at this
  exact this
end Go.Proofs.YtmhfabekmgcjnaaDoor
