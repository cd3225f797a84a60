/- Layer 11: awake. -/
import Derived.Test.YthjfbcmbjfkodaaRl
namespace Go.Proofs.Ythjfbcmbjfkodaa
open Go.RowKit Go.Bx Go.Od Go.Hp
attribute [local go_sem ↓] Go.wp_at_zero Go.wp_at_succ
set_option linter.unusedVariables false

theorem sl_one {W : World} {b B : Nat} {x : Int} (h : Box W b [.int .i64 x]) (hx : In64 x) (hb : b < B) : SlOf RInt 1 (· < B) W (.slice (some ⟨b, 0, none⟩) 1 1) [x] := by
  refine ⟨_, 1, rfl, Nat.le_refl _, by decide, .inr ⟨b, 0, rfl, hb, fun i y hi => ?_⟩⟩
  cases i with
  | zero =>
    simp at hi
    subst hi
    refine ⟨[.int .i64 x], rfl, fun j u hu => ?_, rfl, hx⟩
    cases j with
    | zero => simp at hu; subst hu; exact h.cell 0 rfl
    | succ j => simp at hu
  | succ i => simp at hi
theorem sl_nil (W : World) (B : Nat) : SlOf RInt 1 (· < B) W (.slice none 0 0) [] := ⟨none, 0, rfl, Nat.le_refl _, by decide, .inl rfl⟩
theorem lies3 {W : World} {b : Nat} {cs : List Value} (h : Box W b cs) (o : Nat) {x y z : Value} (h0 : cs[o]? = some x) (h1 : cs[o + 1]? = some y) (h2 : cs[o + 2]? = some z) : LiesAt W b o [x, y, z] := by
  intro j u hu
  match j, hu with
  | 0, hu => simp at hu; subst hu; exact h.cell _ h0
  | 1, hu => simp at hu; subst hu; exact h.cell _ h1
  | 2, hu => simp at hu; subst hu; exact h.cell _ h2
  | j + 3, hu => simp at hu
def nds3 : List Nd := [⟨0, [1], []⟩, ⟨0, [], []⟩, ⟨0, [1], []⟩]
def nds1 : List Nd := [⟨0, [0], []⟩]
theorem in0 : In64 0 := by unfold In64; omega
theorem in1 : In64 1 := by unfold In64; omega
theorem gr3 {W : World} {b1 b2 g B : Nat} (h1 : Box W b1 [.int .i64 1]) (h2 : Box W b2 [.int .i64 1])
    (hg : Box W g [.int .i64 0, .slice (some ⟨b1, 0, none⟩) 1 1, .slice none 0 0, .int .i64 0, .slice none 0 0, .slice none 0 0, .int .i64 0, .slice (some ⟨b2, 0, none⟩) 1 1, .slice none 0 0]) (l1 : b1 < B) (l2 : b2 < B) (l3 : g < B) : Gr B W (.slice (some ⟨g, 0, none⟩) 3 3) nds3 := by
  refine ⟨_, 3, rfl, Nat.le_refl _, by decide, .inr ⟨g, 0, rfl, l3, fun i x hi => ?_⟩⟩
  match i, hi with
  | 0, hi => simp [nds3] at hi; subst hi; exact ⟨_, rfl, lies3 hg 0 rfl rfl rfl, _, _, rfl, in0, sl_one h1 in1 l1, sl_nil _ _⟩
  | 1, hi => simp [nds3] at hi; subst hi; exact ⟨_, rfl, lies3 hg 3 rfl rfl rfl, _, _, rfl, in0, sl_nil _ _, sl_nil _ _⟩
  | 2, hi => simp [nds3] at hi; subst hi; exact ⟨_, rfl, lies3 hg 6 rfl rfl rfl, _, _, rfl, in0, sl_one h2 in1 l2, sl_nil _ _⟩
  | i + 3, hi => simp [nds3] at hi
theorem gr1 {W : World} {b1 g B : Nat} (h1 : Box W b1 [.int .i64 0]) (hg : Box W g [.int .i64 0, .slice (some ⟨b1, 0, none⟩) 1 1, .slice none 0 0]) (l1 : b1 < B) (l3 : g < B) : Gr B W (.slice (some ⟨g, 0, none⟩) 1 1) nds1 := by
  refine ⟨_, 1, rfl, Nat.le_refl _, by decide, .inr ⟨g, 0, rfl, l3, fun i x hi => ?_⟩⟩
  match i, hi with
  | 0, hi => simp [nds1] at hi; subst hi; exact ⟨_, rfl, lies3 hg 0 rfl rfl rfl, _, _, rfl, in0, sl_one h1 in0 l1, sl_nil _ _⟩
  | i + 1, hi => simp [nds1] at hi
theorem ord3 : ord (insOf nds3) = [1, 0, 2] := by decide
theorem ord1 : ord (insOf nds1) = [] := by decide
theorem few3 : ∀ i, i < nds3.length → (nds3.getD i Nd.none).ins.length ≤ 1000 := by decide
theorem few1 : ∀ i, i < nds1.length → (nds1.getD i Nd.none).ins.length ≤ 1000 := by decide
theorem ned30 : ned (insOf nds3) 0 0 = true := (ned_iff _ _ _).2 ⟨by decide, by decide, .base⟩
theorem ned31 : ned (insOf nds3) 0 1 = true := (ned_iff _ _ _).2 ⟨by decide, by decide, .step .base (by decide)⟩
theorem ned32 : ned (insOf nds3) 0 2 = false := by
  cases e : ned (insOf nds3) 0 2 with
  | false => rfl
  | true =>
    obtain ⟨_, _, h⟩ := (ned_iff _ _ _).1 e
    have : ∀ i, Rch (insOf nds3) (0 : Int).toNat i → i = 0 ∨ i = 1 := by
      intro i hi
      induction hi with
      | base => exact .inl rfl
      | step _ hk ih =>
        rcases ih with rfl | rfl
        · have e : inp (insOf nds3) 0 = [1] := by decide
          rw [e] at hk
          simp at hk
          exact .inr hk
        · have e : inp (insOf nds3) 1 = [] := by decide
          rw [e] at hk
          cases hk
    have := this 2 h
    omega
theorem own_sl_int {w : World} {B : Nat} {v : Value} {l : List Nat} (h : OwnP w B v (ofN l)) (hb : ∀ k ∈ l, k < 1000) : SlOf RInt 1 (· < w.heap.size) w v (ofN l) := by
  rcases h.form with ⟨rfl, h'⟩ | ⟨g, cap, rfl, hB, hlt, hle, hcap, _, _, hc⟩
  · rw [h']; exact sl_nil _ _
  · refine ⟨_, cap, rfl, hle, hcap, .inr ⟨g, 0, rfl, hlt, fun i x hi => ?_⟩⟩
    obtain ⟨hil, hx⟩ := List.getElem?_eq_some_iff.1 hi
    refine ⟨[.int .i64 x], rfl, fun j u hu => ?_, rfl, ?_⟩
    · cases j with
      | zero =>
        simp at hu
        subst hu
        simp only [Nat.mul_one, Nat.zero_add, Nat.add_zero]
        rw [hc i hil]
        simp [hi]
      | succ j => simp at hu
    · have hm := List.mem_of_getElem? hi
      unfold ofN at hm
      obtain ⟨k, hk, rfl⟩ := List.mem_map.1 hm
      have := hb k hk
      unfold In64
      omega
theorem SlOf.in_lt {B C : Nat} {w : World} {v : Value} {xs : List Int} (h : SlOf RInt 1 (· < B) w v xs) (hC : B ≤ C) : SlOf RInt 1 (· < C) w v xs := SlOf.mono RInt.ok (fun b hb => by have : b < B := hb; show b < C; omega) h
theorem sl_below {B : Nat} {w w' : World} {v : Value} {xs : List Int} (h : SlOf RInt 1 (· < B) w v xs) (hb : Below B w w') : SlOf RInt 1 (· < B) w' v xs := SlOf.same RInt.ok (Same.of_below hb fun b hb => hb) h
theorem own_new (W : World) (B : Nat) (xs : List Int) (hB : B ≤ W.heap.size) (hl : xs.length ≤ maxLen) : OwnP (W.alloc (.cells (xs.map (Value.int .i64)).toArray 3)) B (.slice (some ⟨W.heap.size, 0, none⟩) xs.length xs.length) xs :=
  ⟨by simp, .inr ⟨W.heap.size, xs.length, _, rfl, hB, alloc_at W _, Nat.le_refl _, hl, by simp, by simp [List.take_of_length_le]⟩⟩
set_option maxHeartbeats 3200000 in
theorem awake_c (w : World) : Calls Try.prog 8 #[] w (PPost w (.bool true)) := by
  go_enter Try.func8, Try.ntmps8
  go_wp2_with fail
  obtain ⟨W1, hW1⟩ : ∃ W, W = (((w.alloc (.cells #[.int .i64 1] 3)).alloc (.cells #[.int .i64 1] 3)).alloc (.cells #[.int .i64 0, .slice (some ⟨w.heap.size, 0, none⟩) 1 1, .slice none 0 0, .int .i64 0, .slice none 0 0, .slice none 0 0, .int .i64 0, .slice (some ⟨w.heap.size + 1, 0, none⟩) 1 1, .slice none 0 0] 36)).alloc (.cells #[.slice (some ⟨w.heap.size + 1 + 1, 0, none⟩) 3 3, .int .i64 0] 24) := ⟨_, rfl⟩
  rw [← hW1]
  have a0 := Box.new w [.int .i64 1] 3
  have a1 := Box.new (w.alloc (.cells #[.int .i64 1] 3)) [.int .i64 1] 3
  have a2 := Box.new ((w.alloc (.cells #[.int .i64 1] 3)).alloc (.cells #[.int .i64 1] 3)) [.int .i64 0, .slice (some ⟨w.heap.size, 0, none⟩) 1 1, .slice none 0 0, .int .i64 0, .slice none 0 0, .slice none 0 0, .int .i64 0, .slice (some ⟨w.heap.size + 1, 0, none⟩) 1 1, .slice none 0 0] 36
  have a3 := Box.new (((w.alloc (.cells #[.int .i64 1] 3)).alloc (.cells #[.int .i64 1] 3)).alloc (.cells #[.int .i64 0, .slice (some ⟨w.heap.size, 0, none⟩) 1 1, .slice none 0 0, .int .i64 0, .slice none 0 0, .slice none 0 0, .int .i64 0, .slice (some ⟨w.heap.size + 1, 0, none⟩) 1 1, .slice none 0 0] 36)) [.slice (some ⟨w.heap.size + 1 + 1, 0, none⟩) 3 3, .int .i64 0] 24
  simp only [size_alloc] at a1 a2 a3
  have HG : Hid (Gr W1.heap.size W1 (.slice (some ⟨w.heap.size + 1 + 1, 0, none⟩) 3 3) nds3 ∧ Box W1 (w.heap.size + 1 + 1 + 1) [.slice (some ⟨w.heap.size + 1 + 1, 0, none⟩) 3 3, .int .i64 0] ∧ Below w.heap.size w W1 ∧ W1.heap.size = w.heap.size + 4) := by
    have hs : W1.heap.size = w.heap.size + 4 := by rw [hW1]; simp only [size_alloc]
    rw [hs]
    refine ⟨?_, ?_, ?_, rfl⟩
    · rw [hW1]
      exact gr3 (((a0.alloc _).alloc _).alloc _) ((a1.alloc _).alloc _) (a2.alloc _) (by omega) (by omega) (by omega)
    · rw [hW1]; exact a3
    · rw [hW1]
      exact ((((Below.refl _ _).alloc (Nat.le_refl _) _).alloc (by simp only [size_alloc]; omega) _).alloc (by simp only [size_alloc]; omega) _).alloc (by simp only [size_alloc]; omega) _
  clear a0 a1 a2 a3 hW1
  refine (show Calls _ _ _ _ (NePost W1 3 (ned (insOf nds3) 0)) from needed_c W1.heap.size _ nds3 0 W1 (by decide) few3 HG.out.1 (Nat.le_refl _)).mono ?_; rintro e w5 ⟨O, hO, rfl, hbo, hb5⟩
  have HO : Hid (Box w5 O [.bool true, .bool true, .bool false] ∧ Below W1.heap.size W1 w5) := by
    refine ⟨?_, hb5⟩
    have e : bc 3 (ned (insOf nds3) 0) = [.bool true, .bool true, .bool false] := by
      show [Value.bool (ned (insOf nds3) 0 0), Value.bool (ned (insOf nds3) 0 1), Value.bool (ned (insOf nds3) 0 2)] = _
      rw [ned30, ned31, ned32]
    rw [← e]
    exact hbo
  have g0 := (HG.out.2.1.call hb5).cell 0 rfl
  have g1 := (HG.out.2.1.call hb5).cell 1 rfl
  clear hbo hb5 hO
  go_wp2_with fail
  refine (show Calls _ _ _ _ (InPost w5 [1, 0, 2]) from ord3 ▸ all_c W1.heap.size _ nds3 0 w5 (by decide) few3 (HG.out.1.below HO.out.2 (Nat.le_refl _)) HO.out.2.size).mono ?_; rintro e w6 ⟨a6, c6, rfl, hown6, hb6⟩
  have B6 := HO.out.2.trans (hb6.mono HO.out.2.size)
  have H6 : Hid (Below W1.heap.size W1 w6 ∧ Box w6 O [.bool true, .bool true, .bool false] ∧ SlOf RInt 1 (· < w6.heap.size) w6 (.slice a6 3 c6) [1, 0, 2]) := ⟨B6, HO.out.1.call hb6, own_sl_int (l := [1, 0, 2]) hown6 (by decide)⟩
  clear hown6 hb6 g0 g1 B6
  go_wp2_with fail
  have S7 : SlOf RInt 1 (· < w6.heap.size + 1) (w6.alloc (.cells #[.int .i64 1, .int .i64 0, .int .i64 2] 3)) (.slice (some ⟨w6.heap.size, 0, none⟩) 3 3) [1, 0, 2] := by
    have h := own_sl_int (l := [1, 0, 2]) (show OwnP (w6.alloc (.cells #[.int .i64 1, .int .i64 0, .int .i64 2] 3)) 0 (.slice (some ⟨w6.heap.size, 0, none⟩) 3 3) (ofN [1, 0, 2]) from own_new w6 0 [1, 0, 2] (by omega) (by decide)) (by decide)
    rw [size_alloc] at h
    exact h
  have B7 := below_alloc w6 (.cells #[.int .i64 1, .int .i64 0, .int .i64 2] 3)
  have H7 : Hid (Below W1.heap.size W1 (w6.alloc (.cells #[.int .i64 1, .int .i64 0, .int .i64 2] 3)) ∧ Box (w6.alloc (.cells #[.int .i64 1, .int .i64 0, .int .i64 2] 3)) O [.bool true, .bool true, .bool false]) := ⟨H6.out.1.trans (B7.mono H6.out.1.size), H6.out.2.1.alloc _⟩
  have S6 := sl_below H6.out.2.2 B7
  generalize w6.alloc (.cells #[.int .i64 1, .int .i64 0, .int .i64 2] 3) = W7 at *
  refine (show Calls _ _ _ _ (PPost W7 (.bool true)) from equal_c _ _ [1, 0, 2] [1, 0, 2] W7 S6 S7).mono ?_; rintro e w8 ⟨rfl, hb8⟩
  have HX : Hid (Below W1.heap.size W1 w8 ∧ Box w8 (w.heap.size + 1 + 1 + 1) [.slice (some ⟨w.heap.size + 1 + 1, 0, none⟩) 3 3, .int .i64 0] ∧ Box w8 O [.bool true, .bool true, .bool false]) := by
    have b := H7.out.1.trans (hb8.mono H7.out.1.size)
    exact ⟨b, HG.out.2.1.call b, H7.out.2.call hb8⟩
  have o0 := HX.out.2.2.cell 0 rfl
  have o1 := HX.out.2.2.cell 1 rfl
  have o2 := HX.out.2.2.cell 2 rfl
  have g0 := HX.out.2.1.cell 0 rfl
  have g1 := HX.out.2.1.cell 1 rfl
  clear S6 S7 B7 hb8 H7 H6 HO
  go_wp2_with fail
  refine (show Calls _ _ _ _ (PPost w8 (.bool false)) from (show decide ((ord (insOf nds3)).length < nds3.length) = false by decide) ▸ round_c W1.heap.size _ nds3 0 w8 (by decide) few3 (HG.out.1.below HX.out.1 (Nat.le_refl _)) HX.out.1.size).mono ?_; rintro e w9 ⟨rfl, hb9⟩
  have H9 : Hid (Below w.heap.size w w9) := by
    have b := HX.out.1.trans (hb9.mono HX.out.1.size)
    exact HG.out.2.2.1.trans (b.mono HG.out.2.2.1.size)
  clear hb9 o0 o1 o2 g0 g1
  go_wp2_with fail
  have a0 := (Box.new w9 [.int .i64 0] 3).alloc (.cells #[.int .i64 0, .slice (some ⟨w9.heap.size, 0, none⟩) 1 1, .slice none 0 0] 36)
  have a1 := Box.new (w9.alloc (.cells #[.int .i64 0] 3)) [.int .i64 0, .slice (some ⟨w9.heap.size, 0, none⟩) 1 1, .slice none 0 0] 36
  have B0 : Below w9.heap.size w9 ((w9.alloc (.cells #[.int .i64 0] 3)).alloc (.cells #[.int .i64 0, .slice (some ⟨w9.heap.size, 0, none⟩) 1 1, .slice none 0 0] 36)) := (below_alloc w9 _).alloc (by rw [size_alloc]; omega) _
  have hs : ((w9.alloc (.cells #[.int .i64 0] 3)).alloc (.cells #[.int .i64 0, .slice (some ⟨w9.heap.size, 0, none⟩) 1 1, .slice none 0 0] 36)).heap.size = w9.heap.size + 2 := by simp only [size_alloc]
  simp only [size_alloc] at a1
  have H10 : Hid (Below w.heap.size w ((w9.alloc (.cells #[.int .i64 0] 3)).alloc (.cells #[.int .i64 0, .slice (some ⟨w9.heap.size, 0, none⟩) 1 1, .slice none 0 0] 36))) := H9.out.trans (B0.mono H9.out.size)
  generalize (w9.alloc (.cells #[.int .i64 0] 3)).alloc (.cells #[.int .i64 0, .slice (some ⟨w9.heap.size, 0, none⟩) 1 1, .slice none 0 0] 36) = W10 at *
  have G10 : Gr W10.heap.size W10 (.slice (some ⟨w9.heap.size + 1, 0, none⟩) 1 1) nds1 := by rw [hs]; exact gr1 a0 a1 (by omega) (by omega)
  refine (show Calls _ _ _ _ (PPost W10 (.bool true)) from (show decide ((ord (insOf nds1)).length < nds1.length) = true by decide) ▸ round_c W10.heap.size _ nds1 0 W10 (by decide) few1 G10 (Nat.le_refl _)).mono ?_; rintro e w11 ⟨rfl, hb11⟩
  have HE : Hid (Below w.heap.size w w11) := H10.out.trans (hb11.mono H10.out.size)
  clear a0 a1 B0 hs hb11 G10
  go_wp2_with fail
  go_ret
  exact ⟨rfl, HE.out⟩

/-! ### few -/
def fewB (nds : List Nd) (most : Nat) : Bool := decide (nds.length ≤ most) && nds.all fun x => decide (x.ins.length ≤ 20) && decide (x.p.length ≤ 40)
theorem fewB_iff (nds : List Nd) (most : Nat) : fewB nds most = true ↔ nds.length ≤ most ∧ ∀ i, i < nds.length → (nds.getD i Nd.none).ins.length ≤ 20 ∧ (nds.getD i Nd.none).p.length ≤ 40 := by
  unfold fewB
  simp only [Bool.and_eq_true, decide_eq_true_eq, List.all_eq_true]
  constructor
  · rintro ⟨h1, h2⟩
    refine ⟨h1, fun i hi => ?_⟩
    have := h2 nds[i] (List.getElem_mem hi)
    simpa [hi] using this
  · rintro ⟨h1, h2⟩
    refine ⟨h1, fun x hx => ?_⟩
    obtain ⟨i, hi, rfl⟩ := List.mem_iff_getElem.1 hx
    simpa [hi] using h2 i hi
set_option maxHeartbeats 1600000 in
theorem rfew_c (B : Nat) (nv : Value) (nds : List Nd) (out : Int) (most : Nat) (w : World) (hmost : most ≤ 1000) (hg : Gr B w nv nds) :
    Calls Try.prog 19 #[.agg #[nv, .int .i64 out], .int .i64 most] w (PPost w (.bool (fewB nds most))) := by
  have hlen := hg.len_le
  have HG : Hid (Gr B w nv nds) := hg
  obtain ⟨ga, gc, rfl⟩ := hg.isSl
  clear hg
  by_cases hm : nds.length ≤ most
  · go_enter Try.func19, Try.ntmps19
    have hm' : ¬ ((nds.length : Int) > (most : Int)) := by omega
    go_wp2_with fail
    go_loop [5] (fun jv => ∃ j : Nat, j ≤ nds.length ∧ jv = .int .i64 j ∧ Hid (∀ q, q < j → (nds.getD q Nd.none).ins.length ≤ 20 ∧ (nds.getD q Nd.none).p.length ≤ 40)) (fun jv => nds.length - (intOf jv).toNat)
    case atStart => exact ⟨0, by omega, rfl, fun j hj => by omega⟩
    case round =>
      obtain ⟨j, hj, rfl, hall⟩ := hrel
      by_cases hjl : j < nds.length
      · obtain ⟨b, o, cap, ia, ic, pa, pc, hv, hbB, hcap, hcm, k0, k1, k2, s1, s2⟩ := HG.out.node hjl
        simp only [Value.slice.injEq] at hv
        obtain ⟨rfl, _, rfl⟩ := hv
        obtain ⟨p, hp⟩ : ∃ p, p = (nds.getD j Nd.none).ins.length := ⟨_, rfl⟩
        obtain ⟨q, hq⟩ : ∃ q, q = (nds.getD j Nd.none).p.length := ⟨_, rfl⟩
        rw [← hp] at k1
        rw [← hq] at k2
        have HPQ : Hid (p = (nds.getD j Nd.none).ins.length ∧ q = (nds.getD j Nd.none).p.length) := ⟨hp, hq⟩
        have hpl : p ≤ 9223372036854775807 := by rw [hp]; exact s1.len_le
        have hql : q ≤ 9223372036854775807 := by rw [hq]; exact s2.len_le
        have d1 := cell_alloc_lt k1 (.cells #[.slice (some ⟨b, o, none⟩) nds.length gc, .int .i64 out] 24)
        have d2 := cell_alloc_lt k2 (.cells #[.slice (some ⟨b, o, none⟩) nds.length gc, .int .i64 out] 24)
        have hj0 : (0 : Int) ≤ (j : Int) := by omega
        have hj1 : (j : Int) < (nds.length : Int) := by omega
        unfold maxLen at hcm
        clear k0 k1 k2 s1 s2 hp hq
        by_cases h20 : p ≤ 20
        · have h20' : ¬ ((p : Int) > 20) := by omega
          by_cases h40 : q ≤ 40
          · have h40' : ¬ ((q : Int) > 40) := by omega
            have H5 : Hid (∀ q, q < j + 1 → (nds.getD q Nd.none).ins.length ≤ 20 ∧ (nds.getD q Nd.none).p.length ≤ 40) := fun r hr => by
              by_cases e : r = j
              · subst e; exact ⟨by rw [← HPQ.out.1]; exact h20, by rw [← HPQ.out.2]; exact h40⟩
              · exact hall.out r (by omega)
            go_wp2_with fail
            go_round
            case rel => exact ⟨j + 1, by omega, by go_num, H5⟩
            case measure => simp [intOf]; omega
          · have h40' : (q : Int) > 40 := by omega
            have HE : Hid (fewB nds most = false) := by
              cases e : fewB nds most with
              | false => rfl
              | true => have := ((fewB_iff _ _).1 e).2 j hjl; rw [← HPQ.out.2] at this; omega
            go_wp2_with fail
            go_ret
            exact ⟨ret_b HE.out.symm, below_alloc _ _⟩
        · have h20' : (p : Int) > 20 := by omega
          have HE : Hid (fewB nds most = false) := by
            cases e : fewB nds most with
            | false => rfl
            | true => have := ((fewB_iff _ _).1 e).2 j hjl; rw [← HPQ.out.1] at this; omega
          go_wp2_with fail
          go_ret
          exact ⟨ret_b HE.out.symm, below_alloc _ _⟩
      · have ej : j = nds.length := by omega
        subst ej
        have HE : Hid (fewB nds most = true) := (fewB_iff _ _).2 ⟨hm, hall.out⟩
        go_wp2_with fail
        go_ret
        exact ⟨ret_b HE.out.symm, below_alloc _ _⟩
  · have HE : Hid (fewB nds most = false) := by
      cases e : fewB nds most with
      | false => rfl
      | true => have := ((fewB_iff _ _).1 e).1; omega
    have hm' : (nds.length : Int) > (most : Int) := by omega
    go_enter Try.func19, Try.ntmps19
    go_wp2_with fail
    go_ret
    exact ⟨ret_b HE.out.symm, below_alloc _ _⟩
end Go.Proofs.Ythjfbcmbjfkodaa
