/- The walk of 'FuseWhole'. -/
import Derived.Test.YtijkcpkljmpplaaDoorAw
import Derived.Test.YtijkcpkljmpplaaDoorPw
import Derived.Deep.LoopGhost
import Derived.Deep.DeepCutAuto
namespace Go.Proofs.YtijkcpkljmpplaaDoor
open Go.RowKit Go.Bx Go.Od Go.Hp
attribute [local go_sem ↓] Go.wp_at_zero Go.wp_at_succ
set_option linter.unusedVariables false

set_option maxHeartbeats 1600000 in
theorem in_c {F : Nat → Prop} (av : Value) (xs : List Int) (x : Int) (w : World) (h1 : SlOf RInt 1 F w av xs) :
    Calls Tryd.prog 15 #[av, .int .i64 x] w fun e w' => e = .returned (.bool (decide (x ∈ xs))) ∧ w' = w := by
  obtain ⟨a, cap, rfl, hcap, hcm, hin, hcell⟩ := h1.ints
  have HC : Hid (∀ j, j < xs.length → ∃ b2 o2, a = some ⟨b2, o2, none⟩ ∧ w.cell? ⟨b2, o2 + j, none⟩ = some (.int .i64 (xs.getD j 0))) := fun j hj => by
    obtain ⟨b', o', h1, h2, h3⟩ := hcell j hj
    exact ⟨b', o', h1, h3 j hj⟩
  unfold maxLen at hcm
  clear hin hcell h1
  go_enter Tryd.func15, Tryd.ntmps15
  go_wp2_with fail
  go_loop [5] (fun jv => ∃ j : Nat, j ≤ xs.length ∧ jv = .int .i64 j ∧ Hid (∀ q, q < j → xs.getD q 0 ≠ x)) (fun jv => xs.length - (intOf jv).toNat)
  case atStart => exact ⟨0, by omega, rfl, fun j hj => by omega⟩
  case round =>
    obtain ⟨j, hj, rfl, hall⟩ := hrel
    by_cases h1 : j < xs.length
    · obtain ⟨b', o', rfl, hc⟩ := HC.out j h1
      obtain ⟨z, hz⟩ : ∃ z, z = xs.getD j 0 := ⟨_, rfl⟩
      rw [← hz] at hc
      have HZ : Hid (z = xs.getD j 0) := hz
      have hj0 : (0 : Int) ≤ (j : Int) := by omega
      have hj1 : (j : Int) < (xs.length : Int) := by omega
      clear hz
      by_cases h2 : z = x
      · have h3 : (z == x) = true := by simp [h2]
        have HE : Hid (decide (x ∈ xs) = true) := decide_eq_true (by rw [← h2, HZ.out]; simp [h1])
        have h4 : decide (z = x) = true := decide_eq_true h2
        clear h2
        go_wp2_with fail
        go_ret
        exact ⟨ret_b HE.out.symm, rfl⟩
      · have h3 : (z == x) = false := by simp [h2]
        have h4 : decide (z = x) = false := decide_eq_false h2
        have H5 : Hid (∀ q, q < j + 1 → xs.getD q 0 ≠ x) := fun q hq => by
          by_cases e : q = j
          · subst e; rw [← HZ.out]; exact h2
          · exact hall.out q (by omega)
        go_wp2_with fail
        go_round
        case rel => exact ⟨j + 1, by omega, by go_num, H5⟩
        case measure => simp [intOf]; omega
    · have : j = xs.length := by omega
      subst this
      have HE : Hid (decide (x ∈ xs) = false) := dec_any_end hall.out
      go_wp2_with fail
      go_ret
      exact ⟨ret_b HE.out.symm, rfl⟩
/-- how often each has been walked -/
def ci (n : Nat) (V : List Nat) : List Value := (List.range n).map fun r => .int .i64 (V.count r : Nat)
theorem ci_get {n r : Nat} (V : List Nat) (h : r < n) : (ci n V)[r]? = some (.int .i64 (V.count r : Nat)) := by simp [ci, h]
theorem ci_set (n a : Nat) (V : List Nat) : (ci n V).set a (.int .i64 ((V.count a : Nat) + 1 : Int)) = ci n (V ++ [a]) := by
  apply List.ext_getElem?
  intro r
  by_cases hr : r < n
  · rw [ci_get _ hr]
    by_cases e : r = a
    · subst e
      rw [List.getElem?_set_self (by simp [ci]; exact hr)]
      simp [List.count_append]
    · rw [List.getElem?_set_ne (fun h => e h.symm), ci_get _ hr]
      simp [List.count_append, Ne.symm e]
  · rw [List.getElem?_eq_none (by simp [ci]; omega), List.getElem?_eq_none (by simp [ci]; omega)]
theorem ci_nil (n : Nat) : List.replicate n (Value.int .i64 0) = ci n [] := by
  apply List.ext_getElem?
  intro r
  by_cases hr : r < n
  · rw [ci_get _ hr]; simp [hr]
  · rw [List.getElem?_eq_none (by simp; omega), List.getElem?_eq_none (by simp [ci]; omega)]
theorem seen_step {G : List (List Nat)} {i k a : Nat} (h : (G.getD i [])[k]? = some a) : seenL G i (k + 1) = seenL G i k ++ [a] := by
  unfold seenL
  rw [take_next h, List.append_assoc]
theorem seen_next {G : List (List Nat)} {i k : Nat} (hi : i < G.length) (hk : (G.getD i []).length ≤ k) : seenL G i k = seenL G (i + 1) 0 := by
  unfold seenL
  rw [List.take_of_length_le hk, List.take_zero, List.append_nil, List.take_succ_eq_append_getElem hi, List.flatten_append]
  simp [hi]
theorem seen_count {G : List (List Nat)} {i k : Nat} (hi : i < G.length) (r : Nat) : (seenL G i k).count r ≤ G.flatten.count r := by
  have e : G.flatten = (G.take i).flatten ++ ((G.getD i []) ++ (G.drop (i + 1)).flatten) := by
    have h1 : G = G.take i ++ (G.getD i [] :: G.drop (i + 1)) := by
      have h2 : G.drop i = G.getD i [] :: G.drop (i + 1) := by
        rw [List.drop_eq_getElem_cons hi]
        simp [hi]
      rw [← h2, List.take_append_drop]
    conv => lhs; rw [h1]
    rw [List.flatten_append, List.flatten_cons]
  rw [e]
  unfold seenL
  rw [List.count_append, List.count_append, List.count_append]
  have := (List.take_sublist k (G.getD i [])).count_le r
  omega
theorem own_nat {W : World} {B n k x : Nat} {a : Option Addr} {c : Nat} {l : List Nat} (h : OwnP W B (.slice a n c) (ofN l)) (hn : n = l.length) (hk : l[k]? = some x) : ∃ g, a = some ⟨g, 0, none⟩ ∧ W.cell? ⟨g, k, none⟩ = some (.int .i64 (x : Nat)) := by
  subst hn
  have hkl := (List.getElem?_eq_some_iff.1 hk).1
  rcases h.form with ⟨h', h2⟩ | ⟨g, cap, h1, _, _, _, _, _, _, h5⟩
  · have : l.length = 0 := by rw [← ofN_len, h2]; rfl
    omega
  · rw [ofN_len] at h1 h5
    cases h1
    refine ⟨g, rfl, ?_⟩
    rw [h5 k hkl]
    unfold ofN
    simp [hk]
theorem getD_ofN {l : List Nat} {x : Nat} : ((x : Int) ∈ ofN l) ↔ x ∈ l := by
  unfold ofN
  rw [List.mem_map]
  constructor
  · rintro ⟨y, hy, e⟩
    have : y = x := by omega
    subst this
    exact hy
  · intro h; exact ⟨x, h, rfl⟩
set_option maxRecDepth 10000 in
set_option maxHeartbeats 6400000 in
theorem fuseWhole_walk (nv : Value) (nds : List Nd) (out : Int) (on : Bool) (w : World) (ht : Tabs w) (hg : Gr w.heap.size w nv nds) :
    Calls Tryd.prog 4 #[.agg #[nv, .int .i64 out], .bool on] w (TPost w) := by
  have HG : Hid (Gr w.heap.size w nv nds ∧ Tabs w) := ⟨hg, ht⟩
  obtain ⟨ga, gc, rfl⟩ := hg.isSl
  have hgl := hg.len_le
  clear hg ht
  go_enter Tryd.func4, Tryd.ntmps4
  go_wp2_with fail
  have X := Box.new w [.slice ga nds.length gc, .int .i64 out] 24
  have hb1 := below_alloc w (.cells #[.slice ga nds.length gc, .int .i64 out] 24)
  obtain ⟨W1, hW1⟩ : ∃ W, W = w.alloc (.cells #[.slice ga nds.length gc, .int .i64 out] 24) := ⟨_, rfl⟩
  rw [← hW1] at X hb1 ⊢
  clear hW1
  refine (awake16_c W1).mono ?_; rintro e w2 ⟨rfl, hb2⟩
  have H2 : Hid (Box w2 w.heap.size [.slice ga nds.length gc, .int .i64 out] ∧ Below w.heap.size w w2) := ⟨X.call hb2, hb1.trans (hb2.mono hb1.size)⟩
  clear X hb1 hb2
  have g0 := H2.out.1.cell 0 rfl
  have g1 := H2.out.1.cell 1 rfl
  go_wp2_with fail
  refine (right16_c w.heap.size _ nds out w2 (HG.out.2.below H2.out.2) (HG.out.1.below H2.out.2 (Nat.le_refl _)) H2.out.2.size).mono ?_; rintro e w3 ⟨rfl, hb3⟩
  have H3 : Hid (Box w3 w.heap.size [.slice ga nds.length gc, .int .i64 out] ∧ Below w.heap.size w w3) := ⟨H2.out.1.call hb3, H2.out.2.trans (hb3.mono H2.out.2.size)⟩
  clear g0 g1 hb3 H2
  obtain ⟨r, hr⟩ : ∃ r, r = rightB nds out := ⟨_, rfl⟩
  rw [← hr]
  cases r with
  | false =>
    go_wp2_with fail
    refine (awake16_c w3).mono ?_; rintro e w4 ⟨rfl, hb4⟩
    have HE : Hid (Below w.heap.size w w4) := H3.out.2.trans (hb4.mono H3.out.2.size)
    go_wp2_with fail
    go_ret
    exact ⟨rfl, HE.out⟩
  | true =>
    have hgood := good_of hr.symm
    have HGD : Hid (Good nds out) := hgood
    have hn100 := hgood.few
    have g0 := H3.out.1.cell 0 rfl
    have g1 := H3.out.1.cell 1 rfl
    clear hr hgood
    go_wp2_with fail
    refine (fgroups_c w.heap.size _ nds out on w3 HGD.out (HG.out.1.below H3.out.2 (Nat.le_refl _)) H3.out.2.size).mono ?_; rintro e w4 ⟨a4, c4, vs4, rfl, hu4, hb4⟩
    have H4 : Hid (Box w4 w.heap.size [.slice ga nds.length gc, .int .i64 out] ∧ Below w.heap.size w w4) := ⟨H3.out.1.call hb4, H3.out.2.trans (hb4.mono H3.out.2.size)⟩
    obtain ⟨r0, hr0, hq0⟩ := HGD.out.has_out (on := on)
    obtain ⟨o4, q4, q5, rfl, hq1, hq2⟩ := hu4.at rfl hr0
    have HU : Hid (GU w3.heap.size (grp nds out on) (.slice (some ⟨o4, 0, none⟩) (grp nds out on).length c4) vs4 w4) := hu4
    clear g0 g1 hb4 hu4 H3 hq1 hq2 hq0 hr0
    have g0 := H4.out.1.cell 0 rfl
    have g1 := H4.out.1.cell 1 rfl
    go_wp2_with fail
    refine (rneeded_c w.heap.size _ nds out w4 (by omega) HGD.out.short (HG.out.1.below H4.out.2 (Nat.le_refl _)) H4.out.2.size).mono ?_; rintro e w5 ⟨O, hO, rfl, hbO, hb5⟩
    have H5 : Hid (Box w5 w.heap.size [.slice ga nds.length gc, .int .i64 out] ∧ Below w.heap.size w w5 ∧ GU w3.heap.size (grp nds out on) (.slice (some ⟨o4, 0, none⟩) (grp nds out on).length c4) vs4 w5 ∧ Box w5 O (bc nds.length (ned (insOf nds) out))) := ⟨H4.out.1.call hb5, H4.out.2.trans (hb5.mono H4.out.2.size), HU.out.call hb5, hbO⟩
    have HLAW : Hid ((∀ i, i < (grp nds out on).length → 0 < ((grp nds out on).getD i []).length ∧ (on = true ∨ ((grp nds out on).getD i []).length ≤ 1) ∧ ((grp nds out on).getD i []).length ≤ 100 ∧
        ∀ a ∈ (grp nds out on).getD i [], a < nds.length ∧ (1 < ((grp nds out on).getD i []).length → byPt (nds.getD a Nd.none).op = true) ∧
          (∀ j, j < nds.length → a ≠ lastN ((grp nds out on).getD i []) → ned (insOf nds) out j = true → (a : Int) ∈ (nds.getD j Nd.none).ins → j ∈ (grp nds out on).getD i []) ∧
          (∀ k j, ((grp nds out on).getD i [])[k]? = some a → j < nds.length → (j : Int) ∈ (nds.getD a Nd.none).ins → j ∈ seenL (grp nds out on) i k)) ∧
        ∀ r, r < nds.length → (grp nds out on).flatten.count r = if ned (insOf nds) out r = true then 1 else 0) := by
      refine ⟨fun i hi => ⟨?_, ?_, ?_, fun a ha => ⟨HGD.out.w_lt hi ha, fun hl => HGD.out.w_point hi hl ha, fun j hj hne hn hin => HGD.out.w_within hi ha hne hj hn hin, fun k j hk hj hin => HGD.out.w_behind hi hk hj hin⟩⟩, fun r hr => HGD.out.w_count hr⟩
      · obtain ⟨_, _, _, _, _, h, _⟩ := grp_i hi; exact h
      · cases on with
        | true => exact .inl rfl
        | false => exact .inr (HGD.out.w_short hi)
      · obtain ⟨_, l, _, _, h, _⟩ := grp_i hi
        rw [h]
        refine Nat.le_trans (List.length_filter_le _ _) ?_
        have h2 := ord_len (insOf nds)
        rw [insOf_len] at h2
        omega
    have hgl2 : (grp nds out on).length ≤ 100 := by
      have h1 := gsP_len (pR nds out on) (ord (insOf nds)) (ord (insOf nds)).length
      have h2 := ord_len (insOf nds)
      rw [insOf_len] at h2
      unfold grp
      omega
    clear g0 g1 hb5 hbO hO HU H4
    generalize grp nds out on = G at *
    obtain ⟨S, hS⟩ : ∃ S, S = ned (insOf nds) out := ⟨_, rfl⟩
    rw [← hS] at H5 HLAW
    clear hS
    have g0 := H5.out.1.cell 0 rfl
    have g1 := H5.out.1.cell 1 rfl
    obtain ⟨i3, hi3, hz0, hz1, hz2⟩ := info_parts infoI
    go_wp2_with (at_make; refine wpList_make_full _ rfl _ _ 30 rfl w5.heap.size 3 i3 (.int .i64 0) 1 Tryd.underlying30 hi3 hz0 hz1 .i64 .i64 _ _ nds.length rfl rfl rfl rfl (by rw [hz2]; omega) (by unfold maxLen; omega) (Nat.le_refl _) ?_; intro w6 hown6 hgrow6; have HM6 : Hid (w6.ownsRow w5.heap.size 3 1 (.slice (some ⟨w5.heap.size, 0, none⟩) nds.length nds.length) nds.length (madeCells (Value.int .i64 0).cells (nds.length * 1)).toList ∧ w5.grownBy w6 none) := ⟨hown6, hgrow6⟩; clear hown6 hgrow6)
    have H6 : Hid (Below w5.heap.size w5 w6 ∧ Box w6 w5.heap.size (ci nds.length (seenL G 0 0))) := by
      have hB6 : Below w5.heap.size w5 w6 := (Below.refl _ _).grown HM6.out.2 (Nat.le_refl _) (fun k hk => by cases hk)
      have := box_own HM6.out.1
      have e : (madeCells (Value.int .i64 0).cells (nds.length * 1)).toList = List.replicate nds.length (.int .i64 0) := by
        rw [Nat.mul_one]
        exact toList_madeCells_one _ _
      have h1 : seenL G 0 0 = [] := by simp [seenL]
      rw [e, ci_nil, ← h1] at this
      exact ⟨hB6, this⟩
    obtain ⟨C, hC⟩ : ∃ C, C = w5.heap.size := ⟨_, rfl⟩
    have HC : Hid (C = w5.heap.size) := hC
    rw [← hC] at H6 ⊢
    have HFX : Hid (∀ W, Below C w5 W → W.cell? ⟨w.heap.size, 0, none⟩ = some (.slice ga nds.length gc) ∧ W.cell? ⟨w.heap.size, 1, none⟩ = some (.int .i64 out) ∧ Box W O (bc nds.length S) ∧ Gr w.heap.size W (.slice ga nds.length gc) nds ∧ GU w3.heap.size G (.slice (some ⟨o4, 0, none⟩) G.length c4) vs4 W ∧ Below w.heap.size w W) := fun W hb => by
      rw [hC] at hb
      have hbw := H5.out.2.1.trans (hb.mono H5.out.2.1.size)
      exact ⟨(H5.out.1.call hb).cell 0 rfl, (H5.out.1.call hb).cell 1 rfl, H5.out.2.2.2.call hb, HG.out.1.below hbw (Nat.le_refl _), H5.out.2.2.1.call hb, hbw⟩
    have HBP : Hid (∀ (op : Int) (W : World), Calls Tryd.prog 13 #[.int .i64 op] W fun e w' => e = .returned (.bool (byPt op)) ∧ w' = W) := fun op W => rbypoint_c op W
    clear g0 g1 HM6 hC hz0 hz1 hz2 hi3
    go_wp2_with fail
    go_loopg [8] G.length (fun g iv wr => ∃ i : Nat, G.length ≤ i + g ∧ i ≤ G.length ∧ iv = .int .i64 i ∧ Below C w5 wr ∧ Box wr C (ci nds.length (seenL G i 0)))
    case atStart => exact ⟨0, by omega, by omega, rfl, H6.out.1, H6.out.2⟩
    case round =>
      obtain ⟨i, hgk, hi, rfl, hb, hx⟩ := hrel
      clear H6
      by_cases hil : i < G.length
      · obtain ⟨o4', x4, y4, e4, cr, owr⟩ := (HFX.out w5 (Below.refl _ _)).2.2.2.2.1.at rfl hil
        simp only [Option.some.injEq, Addr.mk.injEq] at e4
        obtain ⟨rfl, _, _⟩ := e4
        obtain ⟨L, hL⟩ : ∃ L, L = G.getD i [] := ⟨_, rfl⟩
        have HL : Hid (L = G.getD i []) := hL
        obtain ⟨hp0, hon, hL100, hlaw⟩ := HLAW.out.1 i hil
        rw [← hL] at hp0 hon hL100 hlaw cr owr
        obtain ⟨m, hm⟩ : ∃ m, L.length = m + 1 := ⟨L.length - 1, by omega⟩
        have HM : Hid (L.length = m + 1) := hm
        have hm100 : m ≤ 100 := by omega
        obtain ⟨o6, rfl, hq6⟩ := own_nat owr rfl (List.getElem?_eq_getElem hp0)
        clear hq6
        obtain ⟨z, hz⟩ : ∃ z, z = lastN L := ⟨_, rfl⟩
        have hlast : L[m]? = some z := by
          rw [hz]
          unfold lastN
          rw [List.getLastD_eq_getLast?, List.getLast?_eq_getElem?, hm]
          have : L[m]? = some L[m] := List.getElem?_eq_getElem (by omega)
          simp [this]
        have HROW : Hid (∀ W, Below C w5 W → W.cell? ⟨o4, i, none⟩ = some (.slice (some ⟨o6, 0, none⟩) (m + 1) y4) ∧ (∀ k a : Nat, L[k]? = some a → W.cell? ⟨o6, k, none⟩ = some (.int .i64 (a : Nat))) ∧ SlOf RInt 1 (· < W.heap.size) W (.slice (some ⟨o6, 0, none⟩) (m + 1) y4) (ofN L)) := fun W hb => by
          have ho : OwnP W w3.heap.size (.slice (some ⟨o6, 0, none⟩) L.length y4) (ofN L) := by
            have hb' := hb
            rw [HC.out] at hb'
            exact owr.below hb'
          refine ⟨?_, fun k a hk => ?_, ?_⟩
          · rw [← hm]
            exact (hb.cell (by rw [HC.out]; exact lt_of_cell cr)).trans cr
          · obtain ⟨g, e, h⟩ := own_nat ho rfl hk
            simp only [Option.some.injEq, Addr.mk.injEq] at e
            rw [e.1]
            exact h
          · rw [← hm]
            exact own_sl_int ho fun k hk => by have := (hlaw k hk).1; omega
        have HWL : Hid (∀ a ∈ L, a < nds.length ∧ (0 < m → byPt (nds.getD a Nd.none).op = true) ∧ (∀ j, j < nds.length → a ≠ z → S j = true → (a : Int) ∈ (nds.getD j Nd.none).ins → j ∈ L) ∧ (∀ k j, L[k]? = some a → j < nds.length → (j : Int) ∈ (nds.getD a Nd.none).ins → j ∈ seenL G i k)) := fun a ha => by
          obtain ⟨h1, h2, h3, h4⟩ := hlaw a ha
          refine ⟨h1, fun hm0 => h2 (by omega), ?_, h4⟩
          rw [hz]
          exact h3
        have HHAS : Hid (∀ W, Below C w5 W → ∀ (i : Nat) (x : Int), i < nds.length → Calls Tryd.prog 14 #[.agg #[.slice ga nds.length gc, .int .i64 out], .int .i64 i, .int .i64 x] W (PPost W (.bool (decide (x ∈ (nds.getD i Nd.none).ins))))) := fun W hb i x hi => has_c w.heap.size _ nds out x i W hi (by omega) (HGD.out.short i hi) (HFX.out W hb).2.2.2.1
        have HIN : Hid (∀ W, Below C w5 W → ∀ x : Int, Calls Tryd.prog 15 #[.slice (some ⟨o6, 0, none⟩) (m + 1) y4, .int .i64 x] W fun e w' => e = .returned (.bool (decide (x ∈ ofN L))) ∧ w' = W) := fun W hb x => by
          have h := in_c _ (ofN L) x W (HROW.out W hb).2.2
          exact h
        have HCB : Hid (∀ W, Below C w5 W → C ≤ W.heap.size) := fun W hb => by rw [HC.out]; rw [HC.out] at hb; exact hb.size
        have hon' : on = true ∨ m = 0 := by
          rcases hon with h | h
          · exact .inl h
          · exact .inr (by omega)
        have HON : Hid (on = true ∨ m = 0) := hon'
        have r0 := (HROW.out wr hb).1
        have hi0 : (0 : Int) ≤ (i : Int) := by omega
        have hi1 : (i : Int) < (G.length : Int) := by omega
        have H7 : Hid (Below C w5 wr ∧ Box wr C (ci nds.length (seenL G i 0))) := ⟨hb, hx⟩
        have HLZ : Hid (L[m]? = some z) := hlast
        generalize gk = gk1 at *
        clear cr owr hb hx hL hp0 hon hL100 hlaw hm hz hon' hlast
        go_upto_region 9 with fail
        go_cut [55] (fun b wx => b = .bool false ∧ Below wr.heap.size wr wx)
        case first =>
          cases on with
          | true =>
            go_wp2_with fail
            go_meet
            exact ⟨rfl, Below.refl _ _⟩
          | false =>
            have hm0 : m = 0 := by
              rcases HON.out with h | h
              · cases h
              · exact h
            subst hm0
            go_wp2_with fail
            go_meet
            exact ⟨rfl, Below.refl _ _⟩
        case rest =>
        obtain ⟨rfl, hbc⟩ := hcut
        have H8 : Hid (Below C w5 wc ∧ Box wc C (ci nds.length (seenL G i 0))) := ⟨H7.out.1.trans (hbc.mono (HCB.out _ H7.out.1)), H7.out.2.call hbc⟩
        clear hbc r0
        have r0 := (HROW.out wc H8.out.1).1
        have rl := (HROW.out wc H8.out.1).2.1 m z HLZ.out
        have k0 := fun s : Kept wc.heap.size wc => s.at r0
        have k1 := fun s : Kept wc.heap.size wc => s.at rl
        clear r0 rl
        go_wp2_with fail
        refine wp_region_kept wc.heap.size (by kernel_rfl) (by kernel_rfl) ?_
        repeat (go_big_quiet_step (fail))
        refine wpQuiet_nil ?_
        rintro _ ⟨s, rfl⟩
        have H9 : Hid (Below C w5 s.w ∧ Box s.w C (ci nds.length (seenL G i 0))) := ⟨H8.out.1.trans (s.below.mono (HCB.out _ H8.out.1)), H8.out.2.call s.below⟩
        clear k0 k1
        go_wp2_with fail
        go_loopg [10] (m + 1) (fun g kv wr => ∃ k : Nat, m + 1 ≤ k + g ∧ k ≤ m + 1 ∧ kv = .int .i64 k ∧ Below C w5 wr ∧ Box wr C (ci nds.length (seenL G i k)))
        case atStart => exact ⟨0, by omega, by omega, rfl, H9.out⟩
        case round =>
          obtain ⟨k, hgk2, hk, rfl, hb, hx⟩ := hrel
          clear H9
          generalize gk = gk2 at *
          have H10 : Hid (Below C w5 wr ∧ Box wr C (ci nds.length (seenL G i k))) := ⟨hb, hx⟩
          have r0 := (HROW.out wr hb).1
          by_cases hkl : k < m + 1
          · obtain ⟨a, ha⟩ : ∃ a, L[k]? = some a := ⟨L[k]'(by rw [HM.out]; exact hkl), List.getElem?_eq_getElem _⟩
            have HA : Hid (L[k]? = some a ∧ a ∈ L) := ⟨ha, List.mem_of_getElem? ha⟩
            have haN := (HWL.out a (List.mem_of_getElem? ha)).1
            have ca := (HROW.out wr hb).2.1 k a ha
            have g0 := (HFX.out wr hb).1
            have hk0 : (0 : Int) ≤ (k : Int) := by omega
            have hk1 : (k : Int) < (m : Int) + 1 := by omega
            have ha0 : (0 : Int) ≤ (a : Int) := by omega
            have ha1 : (a : Int) < (nds.length : Int) := by omega
            have hda : decide ((a : Int) < 0) = false := decide_eq_false (by omega)
            have hdb : decide ((nds.length : Int) ≤ (a : Int)) = false := decide_eq_false (by omega)
            clear ha hb hx
            go_upto_region 18 with fail
            go_cut [108] (fun b wx => b = .bool false ∧ Below wr.heap.size wr wx)
            case first =>
              by_cases hm1 : 0 < m
              · obtain ⟨gb, go, gcap, ia, ic, pa, pc, hv, hbB, hcap, hcm, n0, n1, n2, s1, s2⟩ := (HFX.out wr H10.out.1).2.2.2.1.node haN
                simp only [Value.slice.injEq] at hv
                obtain ⟨rfl, _, rfl⟩ := hv
                have hbp := (HWL.out a HA.out.2).2.1 hm1
                obtain ⟨oo, hoo⟩ : ∃ oo, oo = (nds.getD a Nd.none).op := ⟨_, rfl⟩
                rw [← hoo] at hbp n0
                have hcc := HBP.out oo
                rw [hbp] at hcc
                have HCC : Hid (∀ W, Calls Tryd.prog 13 #[.int .i64 oo] W fun e w' => e = .returned (.bool true) ∧ w' = W) := hcc
                unfold maxLen at hcm
                clear n1 n2 s1 s2 hbp hoo hcc
                go_wp2_with fail
                refine (HCC.out _).mono ?_; rintro e w7 ⟨rfl, rfl⟩
                go_wp2_with fail
                go_meet
                exact ⟨rfl, Below.refl _ _⟩
              · have hm0 : m = 0 := by omega
                subst hm0
                go_wp2_with fail
                go_meet
                exact ⟨rfl, Below.refl _ _⟩
            case rest =>
            obtain ⟨rfl, hbc⟩ := hcut
            have H11 : Hid (Below C w5 wc ∧ Box wc C (ci nds.length (seenL G i k))) := ⟨H10.out.1.trans (hbc.mono (HCB.out _ H10.out.1)), H10.out.2.call hbc⟩
            clear hbc r0 ca g0 hda hdb
            go_wp2_with fail
            go_loopg [12] nds.length (fun g jv wr => ∃ j : Nat, nds.length ≤ j + g ∧ j ≤ nds.length ∧ jv = .int .i64 j ∧ Below C w5 wr ∧ Box wr C (ci nds.length (seenL G i k)))
            case atStart => exact ⟨0, by omega, by omega, rfl, H11.out⟩
            case round =>
              obtain ⟨j, hgk3, hj, rfl, hb, hx⟩ := hrel
              clear H11
              have H12 : Hid (Below C w5 wr ∧ Box wr C (ci nds.length (seenL G i k))) := ⟨hb, hx⟩
              have g0 := (HFX.out wr hb).1
              have g1 := (HFX.out wr hb).2.1
              by_cases hjn : j < nds.length
              · have fO := (HFX.out wr hb).2.2.1.cell j (bc_get _ hjn)
                have r0 := (HROW.out wr hb).1
                obtain ⟨s', hs'⟩ : ∃ s', s' = S j := ⟨_, rfl⟩
                have HSJ : Hid (s' = S j) := hs'
                rw [← hs'] at fO
                have hj0 : (0 : Int) ≤ (j : Int) := by omega
                have hj1 : (j : Int) < (nds.length : Int) := by omega
                clear hb hx hs'
                go_upto_region 23 with fail
                go_cut [139] (fun b wx => b = .bool false ∧ Below wr.heap.size wr wx)
                case first =>
                  by_cases haz : a = z
                  · have hne : ((a : Int) != (z : Int)) = false := by simp [haz]
                    clear haz
                    go_wp2_with fail
                    go_meet
                    exact ⟨rfl, Below.refl _ _⟩
                  · have hne : ((a : Int) != (z : Int)) = true := bne_iff_ne.2 (by omega)
                    cases s' with
                    | false =>
                      clear haz
                      go_wp2_with fail
                      go_meet
                      exact ⟨rfl, Below.refl _ _⟩
                    | true =>
                      have HAZ : Hid (a ≠ z) := haz
                      clear haz
                      go_wp2_with fail
                      refine (HHAS.out wr H12.out.1 j a hjn).mono ?_; rintro e w7 ⟨rfl, hb7⟩
                      obtain ⟨h, hh⟩ : ∃ h, h = decide ((a : Int) ∈ (nds.getD j Nd.none).ins) := ⟨_, rfl⟩
                      rw [← hh]
                      cases h with
                      | false =>
                        have HB7 : Hid (Below wr.heap.size wr w7) := hb7
                        clear hh hb7
                        go_wp2_with fail
                        go_meet
                        exact ⟨rfl, HB7.out⟩
                      | true =>
                        have hin : decide ((j : Int) ∈ ofN L) = true := decide_eq_true (getD_ofN.2 ((HWL.out a HA.out.2).2.2.1 j hjn HAZ.out HSJ.out.symm (of_decide_eq_true hh.symm)))
                        have HB7 : Hid (Below wr.heap.size wr w7 ∧ Below C w5 w7) := ⟨hb7, H12.out.1.trans (hb7.mono (HCB.out _ H12.out.1))⟩
                        have r1 := (HROW.out w7 HB7.out.2).1
                        have hc := HIN.out w7 HB7.out.2 j
                        rw [hin] at hc
                        have HCI : Hid _ := hc
                        clear hh hb7 hin hc
                        go_wp2_with fail
                        refine Calls.mono HCI.out ?_; rintro e w8 ⟨rfl, rfl⟩
                        go_wp2_with fail
                        go_meet
                        exact ⟨rfl, HB7.out.1⟩
                case rest =>
                obtain ⟨rfl, hbc⟩ := hcut
                have H13 : Hid (Below C w5 wc ∧ Box wc C (ci nds.length (seenL G i k))) := ⟨H12.out.1.trans (hbc.mono (HCB.out _ H12.out.1)), H12.out.2.call hbc⟩
                clear hbc r0 fO g0 g1
                have g0 := (HFX.out wc H13.out.1).1
                have g1 := (HFX.out wc H13.out.1).2.1
                go_upto_region 25 with fail
                go_cut [155] (fun b wx => b = .bool false ∧ Below wc.heap.size wc wx)
                case first =>
                  by_cases hja : j = a
                  · have hne : ((j : Int) != (a : Int)) = false := by simp [hja]
                    clear hja
                    go_wp2_with fail
                    go_meet
                    exact ⟨rfl, Below.refl _ _⟩
                  · have hne : ((j : Int) != (a : Int)) = true := bne_iff_ne.2 (by omega)
                    clear hja
                    go_wp2_with fail
                    refine (HHAS.out wc H13.out.1 a j haN).mono ?_; rintro e w7 ⟨rfl, hb7⟩
                    obtain ⟨h, hh⟩ : ∃ h, h = decide ((j : Int) ∈ (nds.getD a Nd.none).ins) := ⟨_, rfl⟩
                    rw [← hh]
                    have HB7 : Hid (Below wc.heap.size wc w7) := hb7
                    cases h with
                    | false =>
                      clear hh hb7
                      go_wp2_with fail
                      go_meet
                      exact ⟨rfl, HB7.out⟩
                    | true =>
                      have hmem := (HWL.out a HA.out.2).2.2.2 k j HA.out.1 hjn (of_decide_eq_true hh.symm)
                      have cc := (H13.out.2.call hb7).cell j (ci_get _ hjn)
                      obtain ⟨c, hc⟩ : ∃ c, c = (seenL G i k).count j := ⟨_, rfl⟩
                      rw [← hc] at cc
                      have hc0 : ((c : Int) == 0) = false := beq_eq_false_iff_ne.2 (by
                        have := List.count_pos_iff.2 hmem
                        omega)
                      clear hh hb7 hmem hc
                      go_wp2_with fail
                      go_meet
                      exact ⟨rfl, HB7.out⟩
                case rest =>
                obtain ⟨rfl, hbc⟩ := hcut
                have H14 : Hid (Below C w5 wc ∧ Box wc C (ci nds.length (seenL G i k))) := ⟨H13.out.1.trans (hbc.mono (HCB.out _ H13.out.1)), H13.out.2.call hbc⟩
                clear hbc g0 g1
                go_wp2_with fail
                go_roundg (gk - 1)
                case measure => omega
                case rel => exact ⟨j + 1, by omega, by omega, by go_num, H14.out⟩
              · have ej : j = nds.length := by omega
                subst ej
                have cc := hx.cell a (ci_get _ haN)
                have fc := hx.frozen a
                obtain ⟨c, hc⟩ : ∃ c, c = (seenL G i k).count a := ⟨_, rfl⟩
                have hc1 : c ≤ 1 := by
                  have h1 := seen_count (k := k) hil a
                  have h2 := HLAW.out.2 a haN
                  rw [hc]
                  split at h2 <;> omega
                rw [← hc] at cc
                have H15 : Hid (Below C w5 (wr.setCell ⟨C, a, none⟩ (.int .i64 ((c : Nat) + 1 : Int))) ∧ Box (wr.setCell ⟨C, a, none⟩ (.int .i64 ((c : Nat) + 1 : Int))) C (ci nds.length (seenL G i (k + 1)))) := by
                  refine ⟨hb.setCell (p := ⟨C, a, none⟩) (Nat.le_refl _) _, ?_⟩
                  have h1 := hx.self a (.int .i64 ((c : Nat) + 1 : Int))
                  rw [hc, ci_set, ← seen_step (by rw [← HL.out]; exact HA.out.1), ← hc] at h1
                  exact h1
                clear hb hx hc
                go_wp2_with fail
                go_roundg (gk2 - 1)
                case measure => omega
                case rel => exact ⟨k + 1, by omega, by omega, by go_num, H15.out⟩
          · have H16 : Hid (Below C w5 wr ∧ Box wr C (ci nds.length (seenL G (i + 1) 0))) := by
              refine ⟨hb, ?_⟩
              rw [← seen_next (k := k) hil (by rw [← HL.out, HM.out]; omega)]
              exact hx
            have ek : k = m + 1 := by omega
            subst ek
            clear hb hx
            go_wp2_with fail
            go_roundg (gk1 - 1)
            case measure => omega
            case rel => exact ⟨i + 1, by omega, by omega, by go_num, H16.out⟩
      · have ei : i = G.length := by omega
        subst ei
        have hflat : seenL G G.length 0 = G.flatten := by simp [seenL]
        rw [hflat] at hx
        have g0 := (HFX.out wr hb).1
        have HX : Hid (Below C w5 wr ∧ Box wr C (ci nds.length G.flatten)) := ⟨hb, hx⟩
        have HE : Hid (Below w.heap.size w wr) := (HFX.out wr hb).2.2.2.2.2
        clear hb hx hflat
        go_wp2_with fail
        go_loop [13] (fun iv => ∃ r : Nat, r ≤ nds.length ∧ iv = .int .i64 r) (fun iv => nds.length - (intOf iv).toNat)
        case atStart => exact ⟨0, by omega, rfl⟩
        case round =>
          obtain ⟨r, hr, rfl⟩ := hrel
          by_cases hrn : r < nds.length
          · have hr0 : (0 : Int) ≤ (r : Int) := by omega
            have hr1 : (r : Int) < (nds.length : Int) := by omega
            have fO := (HFX.out _ HX.out.1).2.2.1.cell r (bc_get _ hrn)
            have cc := HX.out.2.cell r (ci_get _ hrn)
            have hcn := HLAW.out.2 r hrn
            rw [hcn] at cc
            clear hcn
            obtain ⟨s', hs'⟩ : ∃ s', s' = S r := ⟨_, rfl⟩
            rw [← hs'] at fO cc
            clear hs'
            cases s' with
            | true =>
              have c1 : _ = some (Value.int .i64 1) := cc
              clear cc
              go_wp2_with fail
              go_round
              case rel => exact ⟨r + 1, by omega, by go_num⟩
              case measure => simp [intOf]; omega
            | false =>
              have c1 : _ = some (Value.int .i64 0) := cc
              clear cc
              go_wp2_with fail
              go_round
              case rel => exact ⟨r + 1, by omega, by go_num⟩
              case measure => simp [intOf]; omega
          · have er : r = nds.length := by omega
            subst er
            go_wp2_with fail
            go_ret
            exact ⟨rfl, HE.out⟩
section
open Go.ChangeShapes Go.WideShapes Go.ChangeAt
variable {H : Type} {enc : TypeId × Value → H} {W : World} {base : Nat}
theorem fuseWhole.fuseWhole_law (W : World) (ht : Tabs W) {v0 v1 : Value} {d0 d1 : DataW H} {p0 p1 : List MemPlace}
    (h0 : DataW.Trod enc Tryd.prog W 0 (fun _ => true) true 24 v0 d0 p0) (h1 : DataW.Trod enc Tryd.prog W 0 (fun _ => true) true 4 v1 d1 p1)
    (k0 : Value.okWide Tryd.prog W .any base 24 v0) (k1 : Value.okWide Tryd.prog W .any base 4 v1) :
    Calls Tryd.prog 4 #[v0, v1] W (TPost W) := by
  obtain ⟨nv, out, nds, rfl, hg, hout⟩ := graph_arg h0 k0
  obtain ⟨z, rfl⟩ := okWide_bool Tryd.underlying4 k1
  exact fuseWhole_walk nv nds out z W ht hg
end
end Go.Proofs.YtijkcpkljmpplaaDoor
