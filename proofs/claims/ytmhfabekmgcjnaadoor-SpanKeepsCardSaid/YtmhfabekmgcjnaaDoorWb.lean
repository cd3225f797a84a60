/- Layer 11: lists, Few. -/
import Derived.Test.YtmhfabekmgcjnaaDoorRl
namespace Go.Proofs.YtmhfabekmgcjnaaDoor
open Go.RowKit Go.Bx Go.Od Go.Hp
attribute [local go_sem ↓] Go.wp_at_zero Go.wp_at_succ
set_option linter.unusedVariables false

theorem sl_one {W : World} {b B : Nat} {x : Int} (h : Box W b [.int .i64 x]) (hx : In64 x) (hb : b < B) : SlOf RInt 1 (· < B) W (.slice (some ⟨b, 0, none⟩) 1 1) [x] := by
  refine ⟨_, 1, rfl, Nat.le_refl _, by decide, .inr ⟨b, 0, rfl, hb, fun i y hi => ?_⟩⟩
  cases i with
  | zero =>
    simp at hi
    subst hi
    refine ⟨[.int .i64 x], rfl, fun j u hu => ?_, rfl, hx⟩
    cases j with
    | zero => simp at hu; subst hu; exact h.cell 0 rfl
    | succ j => simp at hu
  | succ i => simp at hi
theorem sl_nil (W : World) (B : Nat) : SlOf RInt 1 (· < B) W (.slice none 0 0) [] := ⟨none, 0, rfl, Nat.le_refl _, by decide, .inl rfl⟩
theorem lies3 {W : World} {b : Nat} {cs : List Value} (h : Box W b cs) (o : Nat) {x y z : Value} (h0 : cs[o]? = some x) (h1 : cs[o + 1]? = some y) (h2 : cs[o + 2]? = some z) : LiesAt W b o [x, y, z] := by
  intro j u hu
  match j, hu with
  | 0, hu => simp at hu; subst hu; exact h.cell _ h0
  | 1, hu => simp at hu; subst hu; exact h.cell _ h1
  | 2, hu => simp at hu; subst hu; exact h.cell _ h2
  | j + 3, hu => simp at hu
theorem in0 : In64 0 := by unfold In64; omega
theorem in1 : In64 1 := by unfold In64; omega
theorem own_sl_int {w : World} {B : Nat} {v : Value} {l : List Nat} (h : OwnP w B v (ofN l)) (hb : ∀ k ∈ l, k < 1000) : SlOf RInt 1 (· < w.heap.size) w v (ofN l) := by
  rcases h.form with ⟨rfl, h'⟩ | ⟨g, cap, rfl, hB, hlt, hle, hcap, _, _, hc⟩
  · rw [h']; exact sl_nil _ _
  · refine ⟨_, cap, rfl, hle, hcap, .inr ⟨g, 0, rfl, hlt, fun i x hi => ?_⟩⟩
    obtain ⟨hil, hx⟩ := List.getElem?_eq_some_iff.1 hi
    refine ⟨[.int .i64 x], rfl, fun j u hu => ?_, rfl, ?_⟩
    · cases j with
      | zero =>
        simp at hu
        subst hu
        simp only [Nat.mul_one, Nat.zero_add, Nat.add_zero]
        rw [hc i hil]
        simp [hi]
      | succ j => simp at hu
    · have hm := List.mem_of_getElem? hi
      unfold ofN at hm
      obtain ⟨k, hk, rfl⟩ := List.mem_map.1 hm
      have := hb k hk
      unfold In64
      omega
theorem SlOf.in_lt {B C : Nat} {w : World} {v : Value} {xs : List Int} (h : SlOf RInt 1 (· < B) w v xs) (hC : B ≤ C) : SlOf RInt 1 (· < C) w v xs := SlOf.mono RInt.ok (fun b hb => by have : b < B := hb; show b < C; omega) h
theorem sl_below {B : Nat} {w w' : World} {v : Value} {xs : List Int} (h : SlOf RInt 1 (· < B) w v xs) (hb : Below B w w') : SlOf RInt 1 (· < B) w' v xs := SlOf.same RInt.ok (Same.of_below hb fun b hb => hb) h
theorem own_new (W : World) (B : Nat) (xs : List Int) (hB : B ≤ W.heap.size) (hl : xs.length ≤ maxLen) : OwnP (W.alloc (.cells (xs.map (Value.int .i64)).toArray 3)) B (.slice (some ⟨W.heap.size, 0, none⟩) xs.length xs.length) xs :=
  ⟨by simp, .inr ⟨W.heap.size, xs.length, _, rfl, hB, alloc_at W _, Nat.le_refl _, hl, by simp, by simp [List.take_of_length_le]⟩⟩
/-! ### few -/
def fewB (nds : List Nd) (most : Nat) : Bool := decide (nds.length ≤ most) && nds.all fun x => decide (x.ins.length ≤ 20) && decide (x.p.length ≤ 40)
theorem fewB_iff (nds : List Nd) (most : Nat) : fewB nds most = true ↔ nds.length ≤ most ∧ ∀ i, i < nds.length → (nds.getD i Nd.none).ins.length ≤ 20 ∧ (nds.getD i Nd.none).p.length ≤ 40 := by
  unfold fewB
  simp only [Bool.and_eq_true, decide_eq_true_eq, List.all_eq_true]
  constructor
  · rintro ⟨h1, h2⟩
    refine ⟨h1, fun i hi => ?_⟩
    have := h2 nds[i] (List.getElem_mem hi)
    simpa [hi] using this
  · rintro ⟨h1, h2⟩
    refine ⟨h1, fun x hx => ?_⟩
    obtain ⟨i, hi, rfl⟩ := List.mem_iff_getElem.1 hx
    simpa [hi] using h2 i hi
set_option maxHeartbeats 1600000 in
theorem rfew_c (B : Nat) (nv : Value) (nds : List Nd) (out : Int) (most : Nat) (w : World) (hmost : most ≤ 1000) (hg : Gr B w nv nds) :
    Calls Tryd.prog 16 #[.agg #[nv, .int .i64 out], .int .i64 most] w (PPost w (.bool (fewB nds most))) := by
  have hlen := hg.len_le
  have HG : Hid (Gr B w nv nds) := hg
  obtain ⟨ga, gc, rfl⟩ := hg.isSl
  clear hg
  by_cases hm : nds.length ≤ most
  · go_enter Tryd.func16, Tryd.ntmps16
    have hm' : ¬ ((nds.length : Int) > (most : Int)) := by omega
    go_wp2_with fail
    go_loop [5] (fun jv => ∃ j : Nat, j ≤ nds.length ∧ jv = .int .i64 j ∧ Hid (∀ q, q < j → (nds.getD q Nd.none).ins.length ≤ 20 ∧ (nds.getD q Nd.none).p.length ≤ 40)) (fun jv => nds.length - (intOf jv).toNat)
    case atStart => exact ⟨0, by omega, rfl, fun j hj => by omega⟩
    case round =>
      obtain ⟨j, hj, rfl, hall⟩ := hrel
      by_cases hjl : j < nds.length
      · obtain ⟨b, o, cap, ia, ic, pa, pc, hv, hbB, hcap, hcm, k0, k1, k2, s1, s2⟩ := HG.out.node hjl
        simp only [Value.slice.injEq] at hv
        obtain ⟨rfl, _, rfl⟩ := hv
        obtain ⟨p, hp⟩ : ∃ p, p = (nds.getD j Nd.none).ins.length := ⟨_, rfl⟩
        obtain ⟨q, hq⟩ : ∃ q, q = (nds.getD j Nd.none).p.length := ⟨_, rfl⟩
        rw [← hp] at k1
        rw [← hq] at k2
        have HPQ : Hid (p = (nds.getD j Nd.none).ins.length ∧ q = (nds.getD j Nd.none).p.length) := ⟨hp, hq⟩
        have hpl : p ≤ 9223372036854775807 := by rw [hp]; exact s1.len_le
        have hql : q ≤ 9223372036854775807 := by rw [hq]; exact s2.len_le
        have d1 := cell_alloc_lt k1 (.cells #[.slice (some ⟨b, o, none⟩) nds.length gc, .int .i64 out] 24)
        have d2 := cell_alloc_lt k2 (.cells #[.slice (some ⟨b, o, none⟩) nds.length gc, .int .i64 out] 24)
        have hj0 : (0 : Int) ≤ (j : Int) := by omega
        have hj1 : (j : Int) < (nds.length : Int) := by omega
        unfold maxLen at hcm
        clear k0 k1 k2 s1 s2 hp hq
        by_cases h20 : p ≤ 20
        · have h20' : ¬ ((p : Int) > 20) := by omega
          by_cases h40 : q ≤ 40
          · have h40' : ¬ ((q : Int) > 40) := by omega
            have H5 : Hid (∀ q, q < j + 1 → (nds.getD q Nd.none).ins.length ≤ 20 ∧ (nds.getD q Nd.none).p.length ≤ 40) := fun r hr => by
              by_cases e : r = j
              · subst e; exact ⟨by rw [← HPQ.out.1]; exact h20, by rw [← HPQ.out.2]; exact h40⟩
              · exact hall.out r (by omega)
            go_wp2_with fail
            go_round
            case rel => exact ⟨j + 1, by omega, by go_num, H5⟩
            case measure => simp [intOf]; omega
          · have h40' : (q : Int) > 40 := by omega
            have HE : Hid (fewB nds most = false) := by
              cases e : fewB nds most with
              | false => rfl
              | true => have := ((fewB_iff _ _).1 e).2 j hjl; rw [← HPQ.out.2] at this; omega
            go_wp2_with fail
            go_ret
            exact ⟨ret_b HE.out.symm, below_alloc _ _⟩
        · have h20' : (p : Int) > 20 := by omega
          have HE : Hid (fewB nds most = false) := by
            cases e : fewB nds most with
            | false => rfl
            | true => have := ((fewB_iff _ _).1 e).2 j hjl; rw [← HPQ.out.1] at this; omega
          go_wp2_with fail
          go_ret
          exact ⟨ret_b HE.out.symm, below_alloc _ _⟩
      · have ej : j = nds.length := by omega
        subst ej
        have HE : Hid (fewB nds most = true) := (fewB_iff _ _).2 ⟨hm, hall.out⟩
        go_wp2_with fail
        go_ret
        exact ⟨ret_b HE.out.symm, below_alloc _ _⟩
  · have HE : Hid (fewB nds most = false) := by
      cases e : fewB nds most with
      | false => rfl
      | true => have := ((fewB_iff _ _).1 e).1; omega
    have hm' : (nds.length : Int) > (most : Int) := by omega
    go_enter Tryd.func16, Tryd.ntmps16
    go_wp2_with fail
    go_ret
    exact ⟨ret_b HE.out.symm, below_alloc _ _⟩
end Go.Proofs.YtmhfabekmgcjnaaDoor
