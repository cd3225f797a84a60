/- Layer 11: container/heap's Pop. -/
import Derived.Test.YtfjeohnigikmoaaDoorHd
namespace Go.Proofs.YtfjeohnigikmoaaDoor
open Go.RowKit Go.Bx Go.Hp
attribute [local go_sem ↓] Go.wp_at_zero Go.wp_at_succ
set_option linter.unusedVariables false

theorem OwnP.less {w : World} {B g c N n : Nat} {hs : List Int} (hN : hs.length = N) (hn : n ≤ N) (h : OwnP w B (.slice (some ⟨g, 0, none⟩) N c) hs) : OwnP w B (.slice (some ⟨g, 0, none⟩) n c) (hs.take n) := by
  have hl : (hs.take n).length = n := by rw [List.length_take]; omega
  unfold OwnP at h ⊢
  rw [hl]
  refine ⟨by simp; omega, ?_⟩
  rcases h.2 with ⟨h', _⟩ | ⟨g', cap, cur, hv, hB, hblk, hle, hcap, hsz, htk⟩
  · cases h'
  · simp only [Value.slice.injEq, Option.some.injEq, Addr.mk.injEq, and_true] at hv
    obtain ⟨rfl, _, rfl⟩ := hv
    refine .inr ⟨g, c, cur, rfl, hB, hblk, by omega, hcap, hsz, ?_⟩
    rw [List.map_take, ← htk, List.take_take]
    congr 1
    omega
/-- what the method Pop leaves -/
def PoPost (w : World) (nb B g c n : Nat) (v : Value) (hs : List Int) (e : Ending) (w' : World) : Prop := e = .returned (.iface 3 (.int .i64 (hs.getD n 0))) ∧ HpIs w' nb B (.slice (some ⟨g, 0, none⟩) n c) (hs.take n) ∧ HFr nb v w w'
set_option maxHeartbeats 1600000 in
theorem ppop_c (nb B g c N n : Nat) (hs : List Int) (w : World) (hl : hs.length = N) (hN : N = n + 1) (hm : N ≤ 1000) (hh : HpIs w nb B (.slice (some ⟨g, 0, none⟩) N c) hs) :
    Calls Tryd.prog 72 #[.pointer (some ⟨nb, 0, none⟩)] w (PoPost w nb B g c n (.slice (some ⟨g, 0, none⟩) N c) hs) := by
  have bx : Box w nb [.slice (some ⟨g, 0, none⟩) N c] := ⟨_, hh.2.1⟩
  have c0 := bx.cell 0 rfl
  have f0 := bx.frozen 0
  have c1 := HpIs.at hh (j := n) (by omega)
  have hcap : N ≤ c := by
    rcases hh.1.form with ⟨h, _⟩ | ⟨g', cap, h, _, _, h2, _⟩
    · cases h
    · cases h; omega
  have HH : Hid (PoPost w nb B g c n (.slice (some ⟨g, 0, none⟩) N c) hs (.returned (.iface 3 (.int .i64 (hs.getD n 0)))) (w.setCell ⟨nb, 0, none⟩ (.slice (some ⟨g, 0, none⟩) n c))) := by
    have hg := (World.ownsRow.lt hh.1 g rfl).1
    refine ⟨rfl, ⟨own_set_ne (hh.1.less hl (by omega)) (by exact hh.2.2) _, ?_, hh.2.2⟩, ⟨rfl, rfl, rfl, by rw [size_set]; exact Nat.le_refl _, fun k hk hkn hko => Below.heap_setCell _ _ _ _ hkn⟩⟩
    simp [World.setCell, Array.getElem?_modify, hh.2.1]
  generalize hs.getD n 0 = x at *
  have e1 : (N : Int) - 1 = (n : Int) := by omega
  have hn0 : (0 : Int) ≤ (n : Int) := by omega
  have hn1 : (n : Int) < (N : Int) := by omega
  have hn2 : (n : Int) ≤ (c : Int) := by omega
  have hN' : Hid (N = n + 1) := hN
  clear bx hh hl hN hcap
  go_enter Tryd.func72, Tryd.ntmps72
  go_wp2_with fail
  go_ret
  exact HH.out
end Go.Proofs.YtfjeohnigikmoaaDoor
/- Layer 11: container/heap's Pop. -/
namespace Go.Proofs.YtfjeohnigikmoaaDoor
open Go.RowKit Go.Bx Go.Hp
attribute [local go_sem ↓] Go.wp_at_zero Go.wp_at_succ
set_option linter.unusedVariables false

theorem take_perm (hs : List Int) (n : Nat) (h : hs.length = n + 1) : (hs.getD n 0 :: hs.take n).Perm hs := by
  have e : hs.take n ++ [hs.getD n 0] = hs := by
    have h1 := List.take_succ_eq_append_getElem (l := hs) (i := n) (by omega)
    rw [List.take_of_length_le (by omega)] at h1
    rw [show hs.getD n 0 = hs[n] by simp [List.getD_eq_getElem?_getD, show n < hs.length by omega]]
    exact h1.symm
  have := (List.perm_append_singleton (hs.getD n 0) (hs.take n)).symm
  rw [e] at this
  exact this
/-- what heap.Pop leaves -/
def HoPost (w : World) (nb B g c n : Nat) (v : Value) (xs : List Int) (e : Ending) (w' : World) : Prop := e = .returned (.iface 3 (.int .i64 (xs.getD 0 0))) ∧ ∃ hs, IsHeap hs ∧ (xs.getD 0 0 :: hs).Perm xs ∧ HpIs w' nb B (.slice (some ⟨g, 0, none⟩) n c) hs ∧ HFr nb v w w'
set_option maxHeartbeats 1600000 in
theorem hpop_c (nb B g c N n : Nat) (xs : List Int) (w : World) (hl : xs.length = N) (hN : N = n + 1) (hm : N ≤ 1000) (hh : HpIs w nb B (.slice (some ⟨g, 0, none⟩) N c) xs) (hp : IsHeap xs) :
    Calls Tryd.prog 38 #[.iface 60 (.pointer (some ⟨nb, 0, none⟩))] w (HoPost w nb B g c n (.slice (some ⟨g, 0, none⟩) N c) xs) := by
  have hml := method_val (100 + 108) nb (.slice (some ⟨g, 0, none⟩) N c) "Len" _ w m_len (HpIs.cell hh)
  have HH : Hid (HpIs w nb B (.slice (some ⟨g, 0, none⟩) N c) xs ∧ IsHeap xs ∧ xs.length = n + 1 ∧ N = n + 1) := ⟨hh, hp, by omega, hN⟩
  have e1 : (N : Int) - 1 = (n : Int) := by omega
  have hnN : n < N := by omega
  clear hh hp hl hN
  go_enter Tryd.func38, Tryd.ntmps38
  go_wp2_with fail
  refine (len_c (some ⟨g, 0, none⟩) N c w).mono ?_; rintro e w2 ⟨rfl, hb2⟩
  have hh2 := HH.out.1.below hb2
  have hms := method_val (100 + 108) nb (.slice (some ⟨g, 0, none⟩) N c) "Swap" _ w2 m_swap (HpIs.cell hh2)
  have hsw : Hid (Calls Tryd.prog 74 #[.slice (some ⟨g, 0, none⟩) N c, .int .i64 0, .int .i64 n] w2 (SwPost w2 g 0 n (xs.getD 0 0) (xs.getD n 0))) := by
    have x0 := HpIs.at hh2 (j := 0) (by have := HH.out.2.2.1; omega)
    have xn := HpIs.at hh2 (j := n) (by have := HH.out.2.2.1; omega)
    by_cases h0 : n = 0
    · have e0 := HH.out.2.2.2
      subst h0
      exact swap_same g c N _ w2 (by omega) hm x0 (HpIs.frz hh2)
    · exact swap_c g c N _ _ 0 n w2 (by omega) hnN hm x0 xn (HpIs.frz hh2) (fun e => h0 e.symm)
  have H2 : Hid (HpIs w2 nb B (.slice (some ⟨g, 0, none⟩) N c) xs ∧ HFr nb (.slice (some ⟨g, 0, none⟩) N c) w w2) := ⟨hh2, HFr.below hb2⟩
  clear hml hh2 hb2
  go_wp2_with fail
  refine hsw.out.mono ?_; rintro e w3 ⟨rfl, k, rfl⟩
  have K1 := HpIs.sw (by rw [HH.out.2.2.1, HH.out.2.2.2]) H2.out.1 0 n k
  have K2 := H2.out.2.trans (HFr.sw (n := N) (c := c) 0 n (.int .i64 (xs.getD n 0)) (.int .i64 (xs.getD 0 0)) k) fun k h => .inl h
  have K3 := down_start HH.out.2.1 HH.out.2.2.1
  have K4 : (sw xs 0 n).getD n 0 = xs.getD 0 0 := by rw [sw_get _ _ _ _ (by have := HH.out.2.2.1; omega) (by have := HH.out.2.2.1; omega), if_pos rfl]
  have HK : Hid (HpIs _ _ _ _ _ ∧ HFr _ _ _ _ ∧ DownInv _ _ _ ∧ _) := ⟨K1, K2, K3, K4⟩
  have hperm := sw_perm xs 0 n (by have := HH.out.2.2.1; omega) (by have := HH.out.2.2.1; omega)
  clear K1 K2 K3 K4 hms hsw H2
  go_wp2_with fail
  refine (down_c nb B g c N n (sw xs 0 n) _ (by rw [sw_len, HH.out.2.2.1, HH.out.2.2.2]) HH.out.2.2.2 hm HK.out.1 HK.out.2.2.1).mono ?_; rintro e w4 ⟨bb, rfl, hs, q1, q2, q3, q4, q5⟩
  have hmp := method_ptr (100 + 108) nb "Pop" _ w4 m_pop
  have hl4 : hs.length = N := q2.length_eq.trans (by rw [sw_len, HH.out.2.2.1, HH.out.2.2.2])
  have H4 : Hid (IsHeap (hs.take n) ∧ hs.Perm xs ∧ hs.getD n 0 = xs.getD 0 0 ∧ HpIs w4 nb B (.slice (some ⟨g, 0, none⟩) N c) hs ∧ HFr nb (.slice (some ⟨g, 0, none⟩) N c) w w4 ∧ hs.length = N) := ⟨q1, q2.trans hperm, q3.trans HK.out.2.2.2, q4, HK.out.2.1.trans q5 fun k h => .inl h, hl4⟩
  clear q1 q2 q3 q4 q5 hperm HK hl4
  go_wp2_with fail
  refine (ppop_c nb B g c N n hs w4 H4.out.2.2.2.2.2 HH.out.2.2.2 hm H4.out.2.2.2.1).mono ?_; rintro e w5 ⟨rfl, r1, r2⟩
  have HE : Hid (HoPost w nb B g c n (.slice (some ⟨g, 0, none⟩) N c) xs (.returned (.iface 3 (.int .i64 (xs.getD 0 0)))) w5) := by
    refine ⟨rfl, hs.take n, H4.out.1, ?_, r1, H4.out.2.2.2.2.1.trans r2 fun k h => .inl h⟩
    have := (take_perm hs n (by rw [H4.out.2.2.2.2.2, HH.out.2.2.2])).trans H4.out.2.1
    rw [H4.out.2.2.1] at this
    exact this
  rw [H4.out.2.2.1]
  clear r1 r2 hmp
  go_wp2_with fail
  go_ret
  exact HE.out
end Go.Proofs.YtfjeohnigikmoaaDoor
