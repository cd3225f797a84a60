/- Layer 11: container/heap's up. -/
import Derived.Test.YtijkcpkljmpplaaDoorHt
namespace Go.Proofs.YtijkcpkljmpplaaDoor
open Go.RowKit Go.Bx Go.Hp
attribute [local go_sem ↓] Go.wp_at_zero Go.wp_at_succ
set_option linter.unusedVariables false

/-- what up and down leave: a heap of the same numbers -/
def UpPost (w : World) (nb B : Nat) (v : Value) (xs : List Int) (e : Ending) (w' : World) : Prop := e = .returned (.tuple #[]) ∧ ∃ hs, IsHeap hs ∧ hs.Perm xs ∧ HpIs w' nb B v hs ∧ HFr nb v w w'
theorem HFr.refl (nb : Nat) (v : Value) (w : World) : HFr nb v w w := ⟨rfl, rfl, rfl, Nat.le_refl _, fun _ _ _ _ => rfl⟩
set_option maxHeartbeats 1600000 in
theorem up_c (nb B g c n : Nat) (xs : List Int) (j : Nat) (w : World) (hn : xs.length = n) (hm : n ≤ 1000) (hh : HpIs w nb B (.slice (some ⟨g, 0, none⟩) n c) xs) (hu : UpInv xs j) :
    Calls Tryd.prog 38 #[.iface 49 (.pointer (some ⟨nb, 0, none⟩)), .int .i64 j] w (UpPost w nb B (.slice (some ⟨g, 0, none⟩) n c) xs) := by
  go_enter Tryd.func38, Tryd.ntmps38
  go_wp2_with fail
  go_loopw [1] (fun jv wr => ∃ (j : Nat) (hs : List Int), jv = .int .i64 j ∧ UpInv hs j ∧ hs.Perm xs ∧ HpIs wr nb B (.slice (some ⟨g, 0, none⟩) n c) hs ∧ HFr nb (.slice (some ⟨g, 0, none⟩) n c) w wr) (fun jv _ => (intOf jv).toNat)
  case atStart => exact ⟨j, xs, rfl, hu, List.Perm.refl _, hh, HFr.refl _ _ _⟩
  case round =>
    obtain ⟨j, hs, rfl, hu, hp, hh, hf⟩ := hrel
    have hjl := hu.1
    have hln : hs.length = n := hp.length_eq.trans hn
    have bx : Box wr nb [.slice (some ⟨g, 0, none⟩) n c] := ⟨_, hh.2.1⟩
    have c0 := bx.cell 0 rfl
    obtain ⟨hc, hfz⟩ : (∀ k, k < hs.length → wr.cell? ⟨g, k, none⟩ = some (.int .i64 (hs.getD k 0))) ∧ ∀ k, wr.frozen? ⟨g, k, none⟩ = false := by
      rcases hh.1.form with ⟨h, _⟩ | ⟨g', cap, h, _, _, _, _, _, h2, h3⟩
      · cases h
      · cases h; exact ⟨h3, h2⟩
    by_cases h0 : j = 0
    · subst h0
      have HE : Hid (UpPost w nb B (.slice (some ⟨g, 0, none⟩) n c) xs (.returned (.tuple #[])) wr) := ⟨rfl, hs, up_exit hu (.inl rfl), hp, hh, hf⟩
      clear hu hp hh hf hc hfz
      go_wp2_with fail
      go_end0
      exact HE.out
    · have hpl : par j < j := by unfold par; omega
      have hpj : ((j : Int) - 1) / 2 = ((par j : Nat) : Int) := by unfold par; omega
      have hd : (((par j : Nat) : Int) == (j : Int)) = false := by simp; omega
      have hml := method_val 194 nb (.slice (some ⟨g, 0, none⟩) n c) "Less" _ wr m_less c0
      have HU : Hid (UpInv hs j ∧ hs.Perm xs ∧ HpIs wr nb B (.slice (some ⟨g, 0, none⟩) n c) hs ∧ HFr nb (.slice (some ⟨g, 0, none⟩) n c) w wr) := ⟨hu, hp, hh, hf⟩
      have h1 := hc j hjl
      have h2 := hc (par j) (by omega)
      clear hu hp hh hf hc
      go_wp2_with fail
      refine (less_c g c n _ _ j (par j) wr (by omega) (by omega) hm h1 h2).mono ?_; rintro e w2 ⟨rfl, hb2⟩
      obtain ⟨lt, hlt⟩ : ∃ lt, lt = decide (hs.getD j 0 < hs.getD (par j) 0) := ⟨_, rfl⟩
      have HL : Hid (lt = decide (hs.getD j 0 < hs.getD (par j) 0)) := hlt
      rw [← hlt]
      clear hlt
      have hh2 := HU.out.2.2.1.below hb2
      have bx2 : Box w2 nb [.slice (some ⟨g, 0, none⟩) n c] := ⟨_, hh2.2.1⟩
      have c2 := bx2.cell 0 rfl
      have hv : ∀ k, (Value.slice (some ⟨g, 0, none⟩) n c).ownBlock = some k → (Value.slice (some ⟨g, 0, none⟩) n c).ownBlock = some k ∨ w.heap.size ≤ k := fun k h => .inl h
      have hf2 := HU.out.2.2.2.trans (HFr.below hb2) hv
      cases lt
      · have HE : Hid (UpPost w nb B (.slice (some ⟨g, 0, none⟩) n c) xs (.returned (.tuple #[])) w2) := ⟨rfl, hs, up_exit HU.out.1 (.inr (by have := of_decide_eq_false HL.out.symm; omega)), HU.out.2.1, hh2, hf2⟩
        clear hh2 hf2 hb2 h1 h2 hml bx2 hv
        go_wp2_with fail
        go_end0
        exact HE.out
      · have hms := method_val 194 nb (.slice (some ⟨g, 0, none⟩) n c) "Swap" _ w2 m_swap c2
        have e1 := (hb2.cell (lt_of_cell h1)).trans h1
        have e2 := (hb2.cell (lt_of_cell h2)).trans h2
        have hfz2 : ∀ k, w2.frozen? ⟨g, k, none⟩ = false := by
          rcases hh2.1.form with ⟨h, _⟩ | ⟨g', cap, h, _, _, _, _, _, h2, h3⟩
          · cases h
          · cases h; exact h2
        have H2 : Hid (HpIs w2 nb B (.slice (some ⟨g, 0, none⟩) n c) hs ∧ HFr nb (.slice (some ⟨g, 0, none⟩) n c) w w2) := ⟨hh2, hf2⟩
        clear hh2 hf2 hb2 h1 h2 hml bx2 c0 hfz
        go_wp2_with fail
        refine (swap_c g c n _ _ (par j) j w2 (by omega) (by omega) hm e2 e1 hfz2 (by omega)).mono ?_; rintro e w3 ⟨rfl, k, rfl⟩
        have K1 := HpIs.sw hln H2.out.1 (par j) j k
        have K2 := H2.out.2.trans (HFr.sw (par j) j (.int .i64 (hs.getD j 0)) (.int .i64 (hs.getD (par j) 0)) k) hv
        have K3 := up_step HU.out.1 (by omega) (of_decide_eq_true HL.out.symm)
        have K4 := (sw_perm hs (par j) j (by omega) hjl).trans HU.out.2.1
        have HK : Hid (HpIs _ _ _ _ _ ∧ HFr _ _ _ _ ∧ UpInv _ _ ∧ List.Perm _ _) := ⟨K1, K2, K3, K4⟩
        clear K1 K2 K3 K4 hms e1 e2 hfz2 c2
        go_wp2_with fail
        go_roundw
        case rel => exact ⟨par j, Hp.sw hs (par j) j, by first | rfl | (rw [hpj]), HK.out.2.2.1, HK.out.2.2.2, HK.out.1, HK.out.2.1⟩
        case measure => simp [intOf]; omega
end Go.Proofs.YtijkcpkljmpplaaDoor
