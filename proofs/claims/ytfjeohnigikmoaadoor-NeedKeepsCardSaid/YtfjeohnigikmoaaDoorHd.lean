/- Layer 11: container/heap's down. Printed by mk_down.py. -/
import Derived.Test.YtfjeohnigikmoaaDoorHt
namespace Go.Proofs.YtfjeohnigikmoaaDoor
open Go.RowKit Go.Bx Go.Hp
attribute [local go_sem ↓] Go.wp_at_zero Go.wp_at_succ
set_option linter.unusedVariables false

theorem HpIs.cell {W : World} {nb B : Nat} {v : Value} {hs : List Int} (h : HpIs W nb B v hs) : W.cell? ⟨nb, 0, none⟩ = some v := (show Box W nb [v] from ⟨_, h.2.1⟩).cell 0 rfl
theorem HpIs.at {W : World} {nb B g n c : Nat} {hs : List Int} (h : HpIs W nb B (.slice (some ⟨g, 0, none⟩) n c) hs) {j : Nat} (hj : j < hs.length) : W.cell? ⟨g, j, none⟩ = some (.int .i64 (hs.getD j 0)) := by
  rcases h.1.form with ⟨h, _⟩ | ⟨g', cap, h, _, _, _, _, _, h2, h3⟩
  · cases h
  · cases h; exact h3 j hj
theorem HpIs.frz {W : World} {nb B g n c : Nat} {hs : List Int} (h : HpIs W nb B (.slice (some ⟨g, 0, none⟩) n c) hs) : ∀ k, W.frozen? ⟨g, k, none⟩ = false := by
  rcases h.1.form with ⟨h, _⟩ | ⟨g', cap, h, _, _, _, _, _, h2, h3⟩
  · cases h
  · cases h; exact h2
/-- what down leaves -/
def DnPost (w : World) (nb B n : Nat) (v : Value) (xs : List Int) (w' : World) : Prop := ∃ hs, IsHeap (hs.take n) ∧ hs.Perm xs ∧ hs.getD n 0 = xs.getD n 0 ∧ HpIs w' nb B v hs ∧ HFr nb v w w'
set_option maxHeartbeats 3200000 in
theorem down_c (nb B g c N n : Nat) (xs : List Int) (w : World) (hn : xs.length = N) (hN : N = n + 1) (hm : N ≤ 1000) (hh : HpIs w nb B (.slice (some ⟨g, 0, none⟩) N c) xs) (hu : DownInv xs n 0) :
    Calls Tryd.prog 48 #[.iface 60 (.pointer (some ⟨nb, 0, none⟩)), .int .i64 0, .int .i64 n] w (fun e w' => ∃ b, e = .returned (.bool b) ∧ DnPost w nb B n (.slice (some ⟨g, 0, none⟩) N c) xs w') := by
  have HN : Hid (N = n + 1) := hN
  clear hN
  go_enter Tryd.func48, Tryd.ntmps48
  go_wp2_with fail
  go_loopw [7] (fun iv wr => ∃ (i : Nat) (hs : List Int), i ≤ n ∧ iv = .int .i64 i ∧ DownInv hs n i ∧ hs.Perm xs ∧ hs.getD n 0 = xs.getD n 0 ∧ HpIs wr nb B (.slice (some ⟨g, 0, none⟩) N c) hs ∧ HFr nb (.slice (some ⟨g, 0, none⟩) N c) w wr) (fun iv _ => n - (intOf iv).toNat)
  case atStart => exact ⟨0, xs, by omega, rfl, hu, List.Perm.refl _, rfl, hh, HFr.refl _ _ _⟩
  case round =>
    obtain ⟨i, hs, hin, rfl, hu, hp, hlast, hh, hf⟩ := hrel
    have HLN : Hid (hs.length = N) := hp.length_eq.trans hn
    have D : Hid (DownInv hs n i ∧ hs.Perm xs ∧ hs.getD n 0 = xs.getD n 0 ∧ HpIs wr nb B (.slice (some ⟨g, 0, none⟩) N c) hs ∧ HFr nb (.slice (some ⟨g, 0, none⟩) N c) w wr) := ⟨hu, hp, hlast, hh, hf⟩
    have hNn : n < N := by have := HN.out; omega
    obtain ⟨k1, hk1⟩ : ∃ k1 : Nat, k1 = 2 * i + 1 := ⟨_, rfl⟩
    have e1 : 2 * (i : Int) + 1 = (k1 : Int) := by omega
    have HK1 : Hid (k1 = 2 * i + 1) := hk1
    clear hu hp hlast hh hf hk1
    by_cases hA : n ≤ k1
    · have hA1 : (n : Int) ≤ (k1 : Int) := by omega
      have HE : Hid (DnPost w nb B n (.slice (some ⟨g, 0, none⟩) N c) xs wr) := ⟨hs, down_exit D.out.1 (fun d d0 hd hp => by unfold par at hp; have := HK1.out; omega), D.out.2.1, D.out.2.2.1, D.out.2.2.2.1, D.out.2.2.2.2⟩
      clear D
      go_wp2_with fail
      go_ret
      exact ⟨_, rfl, HE.out⟩
    · have hA1 : (k1 : Int) < (n : Int) := by omega
      obtain ⟨k2, hk2⟩ : ∃ k2 : Nat, k2 = k1 + 1 := ⟨_, rfl⟩
      have e2 : (k1 : Int) + 1 = (k2 : Int) := by omega
      have HK2 : Hid (k2 = k1 + 1) := hk2
      clear hk2
      by_cases hB2 : k2 < n
      · have hB1 : (k2 : Int) < (n : Int) := by omega
        have hml := method_val (100 + 108) nb (.slice (some ⟨g, 0, none⟩) N c) "Less" _ wr m_less (HpIs.cell D.out.2.2.2.1)
        have y1 := HpIs.at D.out.2.2.2.1 (j := k1) (by have := HLN.out; omega)
        have y2 := HpIs.at D.out.2.2.2.1 (j := k2) (by have := HLN.out; omega)
        go_wp2_with fail
        refine (less_c g c N _ _ k2 k1 wr (by omega) (by omega) (by omega) y2 y1).mono ?_; rintro e W ⟨rfl, hb5⟩
        obtain ⟨l2, hl2⟩ : ∃ l2, l2 = decide (hs.getD k2 0 < hs.getD k1 0) := ⟨_, rfl⟩
        have HL2 : Hid (l2 = decide (hs.getD k2 0 < hs.getD k1 0)) := hl2
        rw [← hl2]
        clear hl2
        have D0 := D.out
        have D : Hid (DownInv hs n i ∧ hs.Perm xs ∧ hs.getD n 0 = xs.getD n 0 ∧ HpIs W nb B (.slice (some ⟨g, 0, none⟩) N c) hs ∧ HFr nb (.slice (some ⟨g, 0, none⟩) N c) w W) := ⟨D0.1, D0.2.1, D0.2.2.1, D0.2.2.2.1.below hb5, D0.2.2.2.2.trans (HFr.below hb5) fun k h => .inl h⟩
        clear D0 hb5 y1 y2 hml
        cases l2
        · have HCN : Hid (0 < k1 ∧ k1 < n ∧ par k1 = i ∧ ∀ d, 0 < d → d < n → par d = i → hs.getD k1 0 ≤ hs.getD d 0) := by
            refine ⟨by have := HK1.out; omega, by omega, by have := HK1.out; unfold par; omega, fun d d0 hd hp => ?_⟩
            have h : d = k1 ∨ d = k2 := by have := HK1.out; have := HK2.out; unfold par at hp; omega
            rcases h with h | h
            · subst h; exact Int.le_refl _
            · subst h; have := of_decide_eq_false HL2.out.symm; omega
          have hmlC := method_val (100 + 108) nb (.slice (some ⟨g, 0, none⟩) N c) "Less" _ W m_less (HpIs.cell D.out.2.2.2.1)
          have x1 := HpIs.at D.out.2.2.2.1 (j := k1) (by have := HLN.out; have := HCN.out.2.1; omega)
          have x2 := HpIs.at D.out.2.2.2.1 (j := i) (by have := HLN.out; omega)
          go_wp2_with fail
          refine (less_c g c N _ _ k1 i W (by have := HCN.out.2.1; omega) (by omega) (by omega) x1 x2).mono ?_; rintro e w6 ⟨rfl, hb6⟩
          obtain ⟨lt, hlt⟩ : ∃ lt, lt = decide (hs.getD k1 0 < hs.getD i 0) := ⟨_, rfl⟩
          have HL : Hid (lt = decide (hs.getD k1 0 < hs.getD i 0)) := hlt
          rw [← hlt]
          clear hlt
          have E : Hid (DownInv hs n i ∧ hs.Perm xs ∧ hs.getD n 0 = xs.getD n 0 ∧ HpIs w6 nb B (.slice (some ⟨g, 0, none⟩) N c) hs ∧ HFr nb (.slice (some ⟨g, 0, none⟩) N c) w w6) := ⟨D.out.1, D.out.2.1, D.out.2.2.1, D.out.2.2.2.1.below hb6, D.out.2.2.2.2.trans (HFr.below hb6) fun k h => .inl h⟩
          clear D hb6 x1 x2 hmlC
          cases lt
          · have HE : Hid (DnPost w nb B n (.slice (some ⟨g, 0, none⟩) N c) xs w6) := ⟨hs, down_exit E.out.1 (fun d d0 hd hp => by have := HCN.out.2.2.2 d d0 hd hp; have := of_decide_eq_false HL.out.symm; omega), E.out.2.1, E.out.2.2.1, E.out.2.2.2.1, E.out.2.2.2.2⟩
            clear E
            go_wp2_with fail
            go_ret
            exact ⟨_, rfl, HE.out⟩
          · have hms := method_val (100 + 108) nb (.slice (some ⟨g, 0, none⟩) N c) "Swap" _ w6 m_swap (HpIs.cell E.out.2.2.2.1)
            have x3 := HpIs.at E.out.2.2.2.1 (j := k1) (by have := HLN.out; have := HCN.out.2.1; omega)
            have x4 := HpIs.at E.out.2.2.2.1 (j := i) (by have := HLN.out; omega)
            have hfz := HpIs.frz E.out.2.2.2.1
            go_wp2_with fail
            refine (swap_c g c N _ _ i k1 w6 (by omega) (by have := HCN.out.2.1; omega) (by omega) x4 x3 hfz (by have := HCN.out; have h : par k1 = i := this.2.2.1; have h0 : 0 < k1 := this.1; unfold par at h; omega)).mono ?_; rintro e w7 ⟨rfl, k, rfl⟩
            have K1 := HpIs.sw HLN.out E.out.2.2.2.1 i k1 k
            have K2 := E.out.2.2.2.2.trans (HFr.sw (n := N) (c := c) i k1 (.int .i64 (hs.getD k1 0)) (.int .i64 (hs.getD i 0)) k) fun k h => .inl h
            have K3 := down_step E.out.1 HCN.out.1 HCN.out.2.1 HCN.out.2.2.1 (of_decide_eq_true HL.out.symm) HCN.out.2.2.2
            have hci : i < k1 := by have h : par k1 = i := HCN.out.2.2.1; have h0 := HCN.out.1; unfold par at h; omega
            have hcn := HCN.out.2.1
            have K4 := (sw_perm hs i k1 (by have := HLN.out; omega) (by have := HLN.out; omega)).trans E.out.2.1
            have K5 : (sw hs i k1).getD n 0 = xs.getD n 0 := by rw [sw_get _ _ _ _ (by have := HLN.out; omega) (by have := HLN.out; omega), if_neg (by omega), if_neg (by omega)]; exact E.out.2.2.1
            have HK : Hid (HpIs _ _ _ _ _ ∧ HFr _ _ _ _ ∧ DownInv _ _ _ ∧ List.Perm _ _ ∧ _) := ⟨K1, K2, K3, K4, K5⟩
            clear K1 K2 K3 K4 K5 hms x3 x4 hfz E
            go_wp2_with fail
            go_roundw
            case rel => exact ⟨k1, sw hs i k1, by omega, rfl, HK.out.2.2.1, HK.out.2.2.2.1, HK.out.2.2.2.2, HK.out.1, HK.out.2.1⟩
            case measure => simp [intOf]; omega

        · have HCN : Hid (0 < k2 ∧ k2 < n ∧ par k2 = i ∧ ∀ d, 0 < d → d < n → par d = i → hs.getD k2 0 ≤ hs.getD d 0) := by
            refine ⟨by have := HK2.out; omega, by omega, by have := HK1.out; have := HK2.out; unfold par; omega, fun d d0 hd hp => ?_⟩
            have h : d = k1 ∨ d = k2 := by have := HK1.out; have := HK2.out; unfold par at hp; omega
            rcases h with h | h
            · subst h; have := of_decide_eq_true HL2.out.symm; omega
            · subst h; exact Int.le_refl _
          have hmlC := method_val (100 + 108) nb (.slice (some ⟨g, 0, none⟩) N c) "Less" _ W m_less (HpIs.cell D.out.2.2.2.1)
          have x1 := HpIs.at D.out.2.2.2.1 (j := k2) (by have := HLN.out; have := HCN.out.2.1; omega)
          have x2 := HpIs.at D.out.2.2.2.1 (j := i) (by have := HLN.out; omega)
          go_wp2_with fail
          refine (less_c g c N _ _ k2 i W (by have := HCN.out.2.1; omega) (by omega) (by omega) x1 x2).mono ?_; rintro e w6 ⟨rfl, hb6⟩
          obtain ⟨lt, hlt⟩ : ∃ lt, lt = decide (hs.getD k2 0 < hs.getD i 0) := ⟨_, rfl⟩
          have HL : Hid (lt = decide (hs.getD k2 0 < hs.getD i 0)) := hlt
          rw [← hlt]
          clear hlt
          have E : Hid (DownInv hs n i ∧ hs.Perm xs ∧ hs.getD n 0 = xs.getD n 0 ∧ HpIs w6 nb B (.slice (some ⟨g, 0, none⟩) N c) hs ∧ HFr nb (.slice (some ⟨g, 0, none⟩) N c) w w6) := ⟨D.out.1, D.out.2.1, D.out.2.2.1, D.out.2.2.2.1.below hb6, D.out.2.2.2.2.trans (HFr.below hb6) fun k h => .inl h⟩
          clear D hb6 x1 x2 hmlC
          cases lt
          · have HE : Hid (DnPost w nb B n (.slice (some ⟨g, 0, none⟩) N c) xs w6) := ⟨hs, down_exit E.out.1 (fun d d0 hd hp => by have := HCN.out.2.2.2 d d0 hd hp; have := of_decide_eq_false HL.out.symm; omega), E.out.2.1, E.out.2.2.1, E.out.2.2.2.1, E.out.2.2.2.2⟩
            clear E
            go_wp2_with fail
            go_ret
            exact ⟨_, rfl, HE.out⟩
          · have hms := method_val (100 + 108) nb (.slice (some ⟨g, 0, none⟩) N c) "Swap" _ w6 m_swap (HpIs.cell E.out.2.2.2.1)
            have x3 := HpIs.at E.out.2.2.2.1 (j := k2) (by have := HLN.out; have := HCN.out.2.1; omega)
            have x4 := HpIs.at E.out.2.2.2.1 (j := i) (by have := HLN.out; omega)
            have hfz := HpIs.frz E.out.2.2.2.1
            go_wp2_with fail
            refine (swap_c g c N _ _ i k2 w6 (by omega) (by have := HCN.out.2.1; omega) (by omega) x4 x3 hfz (by have := HCN.out; have h : par k2 = i := this.2.2.1; have h0 : 0 < k2 := this.1; unfold par at h; omega)).mono ?_; rintro e w7 ⟨rfl, k, rfl⟩
            have K1 := HpIs.sw HLN.out E.out.2.2.2.1 i k2 k
            have K2 := E.out.2.2.2.2.trans (HFr.sw (n := N) (c := c) i k2 (.int .i64 (hs.getD k2 0)) (.int .i64 (hs.getD i 0)) k) fun k h => .inl h
            have K3 := down_step E.out.1 HCN.out.1 HCN.out.2.1 HCN.out.2.2.1 (of_decide_eq_true HL.out.symm) HCN.out.2.2.2
            have hci : i < k2 := by have h : par k2 = i := HCN.out.2.2.1; have h0 := HCN.out.1; unfold par at h; omega
            have hcn := HCN.out.2.1
            have K4 := (sw_perm hs i k2 (by have := HLN.out; omega) (by have := HLN.out; omega)).trans E.out.2.1
            have K5 : (sw hs i k2).getD n 0 = xs.getD n 0 := by rw [sw_get _ _ _ _ (by have := HLN.out; omega) (by have := HLN.out; omega), if_neg (by omega), if_neg (by omega)]; exact E.out.2.2.1
            have HK : Hid (HpIs _ _ _ _ _ ∧ HFr _ _ _ _ ∧ DownInv _ _ _ ∧ List.Perm _ _ ∧ _) := ⟨K1, K2, K3, K4, K5⟩
            clear K1 K2 K3 K4 K5 hms x3 x4 hfz E
            go_wp2_with fail
            go_roundw
            case rel => exact ⟨k2, sw hs i k2, by omega, rfl, HK.out.2.2.1, HK.out.2.2.2.1, HK.out.2.2.2.2, HK.out.1, HK.out.2.1⟩
            case measure => simp [intOf]; omega

      · have hB1 : ¬ (k2 : Int) < (n : Int) := by omega
        have hB3 : decide ((k2 : Int) < (n : Int)) = false := decide_eq_false hB1
        have HCN : Hid (0 < k1 ∧ k1 < n ∧ par k1 = i ∧ ∀ d, 0 < d → d < n → par d = i → hs.getD k1 0 ≤ hs.getD d 0) := by
          refine ⟨by have := HK1.out; omega, by omega, by have := HK1.out; unfold par; omega, fun d d0 hd hp => ?_⟩
          have h : d = k1 := by have := HK1.out; have := HK2.out; unfold par at hp; omega
          subst h; exact Int.le_refl _
        obtain ⟨W, hW⟩ : ∃ W, W = wr := ⟨_, rfl⟩
        subst hW
        have hmlC := method_val (100 + 108) nb (.slice (some ⟨g, 0, none⟩) N c) "Less" _ W m_less (HpIs.cell D.out.2.2.2.1)
        have x1 := HpIs.at D.out.2.2.2.1 (j := k1) (by have := HLN.out; have := HCN.out.2.1; omega)
        have x2 := HpIs.at D.out.2.2.2.1 (j := i) (by have := HLN.out; omega)
        go_wp2_with fail
        refine (less_c g c N _ _ k1 i W (by have := HCN.out.2.1; omega) (by omega) (by omega) x1 x2).mono ?_; rintro e w6 ⟨rfl, hb6⟩
        obtain ⟨lt, hlt⟩ : ∃ lt, lt = decide (hs.getD k1 0 < hs.getD i 0) := ⟨_, rfl⟩
        have HL : Hid (lt = decide (hs.getD k1 0 < hs.getD i 0)) := hlt
        rw [← hlt]
        clear hlt
        have E : Hid (DownInv hs n i ∧ hs.Perm xs ∧ hs.getD n 0 = xs.getD n 0 ∧ HpIs w6 nb B (.slice (some ⟨g, 0, none⟩) N c) hs ∧ HFr nb (.slice (some ⟨g, 0, none⟩) N c) w w6) := ⟨D.out.1, D.out.2.1, D.out.2.2.1, D.out.2.2.2.1.below hb6, D.out.2.2.2.2.trans (HFr.below hb6) fun k h => .inl h⟩
        clear D hb6 x1 x2 hmlC
        cases lt
        · have HE : Hid (DnPost w nb B n (.slice (some ⟨g, 0, none⟩) N c) xs w6) := ⟨hs, down_exit E.out.1 (fun d d0 hd hp => by have := HCN.out.2.2.2 d d0 hd hp; have := of_decide_eq_false HL.out.symm; omega), E.out.2.1, E.out.2.2.1, E.out.2.2.2.1, E.out.2.2.2.2⟩
          clear E
          go_wp2_with fail
          go_ret
          exact ⟨_, rfl, HE.out⟩
        · have hms := method_val (100 + 108) nb (.slice (some ⟨g, 0, none⟩) N c) "Swap" _ w6 m_swap (HpIs.cell E.out.2.2.2.1)
          have x3 := HpIs.at E.out.2.2.2.1 (j := k1) (by have := HLN.out; have := HCN.out.2.1; omega)
          have x4 := HpIs.at E.out.2.2.2.1 (j := i) (by have := HLN.out; omega)
          have hfz := HpIs.frz E.out.2.2.2.1
          go_wp2_with fail
          refine (swap_c g c N _ _ i k1 w6 (by omega) (by have := HCN.out.2.1; omega) (by omega) x4 x3 hfz (by have := HCN.out; have h : par k1 = i := this.2.2.1; have h0 : 0 < k1 := this.1; unfold par at h; omega)).mono ?_; rintro e w7 ⟨rfl, k, rfl⟩
          have K1 := HpIs.sw HLN.out E.out.2.2.2.1 i k1 k
          have K2 := E.out.2.2.2.2.trans (HFr.sw (n := N) (c := c) i k1 (.int .i64 (hs.getD k1 0)) (.int .i64 (hs.getD i 0)) k) fun k h => .inl h
          have K3 := down_step E.out.1 HCN.out.1 HCN.out.2.1 HCN.out.2.2.1 (of_decide_eq_true HL.out.symm) HCN.out.2.2.2
          have hci : i < k1 := by have h : par k1 = i := HCN.out.2.2.1; have h0 := HCN.out.1; unfold par at h; omega
          have hcn := HCN.out.2.1
          have K4 := (sw_perm hs i k1 (by have := HLN.out; omega) (by have := HLN.out; omega)).trans E.out.2.1
          have K5 : (sw hs i k1).getD n 0 = xs.getD n 0 := by rw [sw_get _ _ _ _ (by have := HLN.out; omega) (by have := HLN.out; omega), if_neg (by omega), if_neg (by omega)]; exact E.out.2.2.1
          have HK : Hid (HpIs _ _ _ _ _ ∧ HFr _ _ _ _ ∧ DownInv _ _ _ ∧ List.Perm _ _ ∧ _) := ⟨K1, K2, K3, K4, K5⟩
          clear K1 K2 K3 K4 K5 hms x3 x4 hfz E
          go_wp2_with fail
          go_roundw
          case rel => exact ⟨k1, sw hs i k1, by omega, rfl, HK.out.2.2.1, HK.out.2.2.2.1, HK.out.2.2.2.2, HK.out.1, HK.out.2.1⟩
          case measure => simp [intOf]; omega

end Go.Proofs.YtfjeohnigikmoaaDoor
