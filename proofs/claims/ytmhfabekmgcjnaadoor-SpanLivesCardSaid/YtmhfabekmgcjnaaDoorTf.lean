/- The walk of 'SpanLives'. (Printed by mk_span.py.) -/
import Derived.Test.YtmhfabekmgcjnaaDoorTc
namespace Go.Proofs.YtmhfabekmgcjnaaDoor
open Go.RowKit Go.Bx Go.Od Go.Hp Go.Sort
attribute [local go_sem ↓] Go.wp_at_zero Go.wp_at_succ
set_option linter.unusedVariables false

/-- what 'found' tells behind j rounds -/
def FoundAt (L : List (List Int)) (u : Nat → Int) (v : Int) (i j : Nat) (bb : Bool) : Prop := bb = true ↔ v = -1 ∨ ∃ r, r < j ∧ lstI (L.getD r []) = v ∧ (i : Int) ≤ u r
set_option maxRecDepth 4000 in
set_option maxHeartbeats 6400000 in
theorem spanLives_walk (nv : Value) (nds : List Nd) (out : Int) (on : Bool) (w : World) (ht : Tabs w) (hg : Gr w.heap.size w nv nds) :
    Calls Tryd.prog 4 #[.agg #[nv, .int .i64 out], .bool on] w (TPost w) := by
  obtain ⟨ga, gc, rfl⟩ := hg.isSl
  have hgl := hg.len_le
  have X := Box.new w [.slice ga nds.length gc, .int .i64 out] 24
  have hb1 := below_alloc w (.cells #[.slice ga nds.length gc, .int .i64 out] 24)
  have HG : Hid (Gr w.heap.size w (.slice ga nds.length gc) nds ∧ Tabs w) := ⟨hg, ht⟩
  clear hg ht
  go_enter Tryd.func4, Tryd.ntmps4
  go_wp2_with fail
  obtain ⟨W1, hW1⟩ : ∃ W, W = w.alloc (.cells #[.slice ga nds.length gc, .int .i64 out] 24) := ⟨_, rfl⟩
  rw [← hW1] at X hb1 ⊢
  clear hW1
  refine (awake17_c W1).mono ?_; rintro e w1 ⟨rfl, hb2⟩
  have H1 : Hid (Box w1 w.heap.size [.slice ga nds.length gc, .int .i64 out] ∧ Below w.heap.size w w1) := ⟨X.call hb2, hb1.trans (hb2.mono hb1.size)⟩
  clear X hb1 hb2
  have g0 := H1.out.1.cell 0 rfl
  have g1 := H1.out.1.cell 1 rfl
  go_wp2_with fail
  refine (right17_c w.heap.size _ nds out w1 (HG.out.2.below H1.out.2) (HG.out.1.below H1.out.2 (Nat.le_refl _)) H1.out.2.size).mono ?_; rintro e w2 ⟨rfl, hb3⟩
  have H2 : Hid (Box w2 w.heap.size [.slice ga nds.length gc, .int .i64 out] ∧ Below w.heap.size w w2) := ⟨H1.out.1.call hb3, H1.out.2.trans (hb3.mono H1.out.2.size)⟩
  clear g0 g1 hb3 H1
  have g0 := H2.out.1.cell 0 rfl
  have g1 := H2.out.1.cell 1 rfl
  obtain ⟨r, hr⟩ : ∃ r, r = rightB nds out := ⟨_, rfl⟩
  rw [← hr]
  cases r with
  | false =>
    clear hr
    go_wp2_with fail
    refine (awake17_c w2).mono ?_; rintro e w4 ⟨rfl, hb4⟩
    have HE : Hid (Below w.heap.size w w4) := H2.out.2.trans (hb4.mono H2.out.2.size)
    clear g0 g1 hb4
    go_wp2_with fail
    go_ret
    exact ⟨rfl, HE.out⟩
  | true =>
  have HGD : Hid (SGood nds out) := sgood_of hr.symm
  clear hr
  go_wp2_with fail
  refine (dgroups_c w.heap.size _ nds out on w2 HGD.out.toGood (HG.out.1.below H2.out.2 (Nat.le_refl _)) H2.out.2.size).mono ?_; rintro e w3 ⟨la, lc, lvs, rfl, hu3, hb3⟩
  have hnn := gL_len (nds := nds) (out := out) (on := on)
  have hnl : (grp nds out on).length ≤ 100 := grp_le HGD.out.toGood
  have hll : LL w3.heap.size w3 (.slice la (gL nds out on).length lc) (gL nds out on) := by
    rw [hnn]
    exact hu3.gi.ll fun g hg x hx => by
      obtain ⟨l, hl, rfl⟩ := List.mem_map.1 hg
      obtain ⟨a, ha, rfl⟩ := List.mem_map.1 hx
      obtain ⟨i, hi, rfl⟩ := List.mem_iff_getElem.1 hl
      have e : (grp nds out on)[i] = (grp nds out on).getD i [] := by simp [hi]
      rw [e] at ha
      have h1 := HGD.out.toGood.w_lt hi ha
      have h2 := HGD.out.few
      unfold In64
      omega
  have H3 : Hid (Box w3 w.heap.size [.slice ga nds.length gc, .int .i64 out] ∧ Below w.heap.size w w3 ∧ LL w3.heap.size w3 (.slice la (gL nds out on).length lc) (gL nds out on) ∧ Gr w3.heap.size w3 (.slice ga nds.length gc) nds) := ⟨H2.out.1.call hb3, H2.out.2.trans (hb3.mono H2.out.2.size), hll, (HG.out.1.below (H2.out.2.trans (hb3.mono H2.out.2.size)) (Nat.le_refl _)).mono (H2.out.2.trans (hb3.mono H2.out.2.size)).size⟩
  rw [← hnn] at hnl ⊢
  have HNN : Hid ((gL nds out on).length = (grp nds out on).length) := hnn
  have HOK : Hid (GrpOk nds (gL nds out on)) := HGD.out.ok
  clear g0 g1 hu3 hb3 hll H2 hnn
  have g0 := H3.out.1.cell 0 rfl
  have g1 := H3.out.1.cell 1 rfl
  go_wp2_with fail
  refine (readsG_c w3.heap.size _ _ nds out (gL nds out on) w3 HOK.out H3.out.2.2.2 H3.out.2.2.1 (Nat.le_refl _)).mono ?_; rintro e w4 ⟨ra, rc, rvs, rfl, hR, hb4⟩
  have hR64 := HOK.out.in64
  have hRR : (gL nds out on).map (rdS nds) = rL nds out on := rfl
  rw [hRR] at hR hR64 ⊢
  have hrl : (rL nds out on).length = (gL nds out on).length := by simp [rL]
  have hllR := hR.ll hR64
  rw [hrl] at hllR ⊢
  have H4 : Hid (Box w4 w.heap.size [.slice ga nds.length gc, .int .i64 out] ∧ Below w3.heap.size w3 w4 ∧ LL w4.heap.size w4 (.slice ra (gL nds out on).length rc) (rL nds out on)) := ⟨H3.out.1.call hb4, hb4, hllR⟩
  clear g0 g1 hR hR64 hb4 hllR
  have g0 := H4.out.1.cell 0 rfl
  have g1 := H4.out.1.cell 1 rfl
  go_wp2_with fail
  refine (until_c w3.heap.size _ _ nds out (gL nds out on) w4 HOK.out (H3.out.2.2.2.below H4.out.2.1 (Nat.le_refl _)) (H3.out.2.2.1.below H4.out.2.1) H4.out.2.1.size).mono ?_; rintro e w5 ⟨U, hU, rfl, hbU, hb5⟩
  obtain ⟨n, hn⟩ : ∃ n, n = (gL nds out on).length := ⟨_, rfl⟩
  obtain ⟨u, hu⟩ : ∃ u, u = uN nds out on := ⟨_, rfl⟩
  have hue : unA ((gL nds out on).map (rdS nds)) (gL nds out on) out = u := hu.symm
  rw [hue] at hbU ⊢
  have hul : ((List.range (gL nds out on).length).map u).length = (gL nds out on).length := by simp
  rw [hul]
  have HFX : Hid (∀ W, Below w5.heap.size w5 W → LL w3.heap.size W (.slice la n lc) (gL nds out on) ∧ LL w4.heap.size W (.slice ra n rc) (rL nds out on) ∧ Box W U (((List.range n).map u).map (Value.int .i64)) ∧ Below w.heap.size w W) := fun W hb => by
    have h45 := hb5.trans (hb.mono hb5.size)
    have h35 := H4.out.2.1.trans (h45.mono H4.out.2.1.size)
    rw [hn]
    exact ⟨H3.out.2.2.1.below h35, H4.out.2.2.below h45, hbU.call hb, H3.out.2.1.trans (h35.mono H3.out.2.1.size)⟩
  have HL : Hid (n = (gL nds out on).length ∧ (rL nds out on).length = n ∧ n = (grp nds out on).length) := ⟨hn, by rw [hn]; exact hrl, by rw [hn]; exact HNN.out⟩
  have HUP : Hid (∀ i, i < n → (i : Int) < u i ∧ u i ≤ n) := fun i hi => by
    rw [hu, HL.out.2.2]
    exact HGD.out.uN_gt (by rw [← HL.out.2.2]; exact hi)
  have HRD : Hid (∀ i, i < n → (rL nds out on).getD i [] = rdS nds ((gL nds out on).getD i [])) := fun i hi => rL_get (by rw [← HL.out.2.2]; exact hi)
  have HAH : Hid (∀ i x, i < n → x ∈ (rL nds out on).getD i [] → -1 ≤ x ∧ (x = -1 ∨ ∃ j, j < i ∧ lstI ((gL nds out on).getD j []) = x ∧ (i : Int) ≤ u j)) := fun i x hi hx => by
    rw [HRD.out i hi] at hx
    have hi' : i < (grp nds out on).length := by rw [← HL.out.2.2]; exact hi
    refine ⟨?_, ?_⟩
    · obtain ⟨⟨k, _, hk⟩, _⟩ := rdS_mem.1 hx
      exact (HGD.out.rng _ x hk).1
    · rcases HGD.out.ahead hi' hx with e | ⟨j, hj, e⟩
      · exact .inl e
      · have hl : lstI ((gL nds out on).getD j []) = x := by rw [gL_last (by omega), e]
        refine .inr ⟨j, hj, hl, ?_⟩
        rw [hu]
        exact HGD.out.kept hi' (by omega) (by rw [hl]; exact hx)
  have HST : Hid (∀ i, i < n → ((rL nds out on).getD i []).Pairwise (· < ·)) := fun i hi => by rw [HRD.out i hi]; exact rdS_lt _ _
  rw [← hn] at hnl ⊢
  have HLT : Hid (∀ i, i < n → ((rL nds out on).getD i []).length ≤ 101) := fun i hi => by
    rw [HRD.out i hi, ← rfR_eq (fun k _ x hx => HGD.out.rng _ x hx)]
    have := rfR_len nds ((gL nds out on).getD i []) (nds.length + 1)
    have := HGD.out.few
    omega
  clear g0 g1 hU hbU hb5 hn hu hue hul hrl hRR H3 H4
  have hnn : ((n : Int) != (n : Int)) = false := by simp
  go_wp2_with fail
  go_loopw [8] (fun iv wr => ∃ i : Nat, i ≤ n ∧ iv = .int .i64 i ∧ Below w5.heap.size w5 wr) (fun iv _ => n - (intOf iv).toNat)
  case atStart => exact ⟨0, Nat.zero_le _, rfl, Below.refl _ _⟩
  case round =>
    obtain ⟨i, hi, rfl, hb⟩ := hrel
    have HB : Hid (Below w5.heap.size w5 wr) := hb
    by_cases hin : i < n
    · have u0 := (HFX.out wr hb).2.2.1.cell i (show (((List.range n).map u).map (Value.int .i64))[i]? = some (.int .i64 (u i)) by simp [hin])
      obtain ⟨hu1, hu2⟩ := HUP.out i hin
      obtain ⟨ui, hui⟩ : ∃ ui, ui = u i := ⟨_, rfl⟩
      rw [← hui] at u0 hu1 hu2
      have hd1 : decide (ui ≤ (i : Int)) = false := decide_eq_false (by omega)
      have hd2 : decide ((n : Int) < ui) = false := decide_eq_false (by omega)
      have hn1 : ¬ ui ≤ (i : Int) := by omega
      have hn2 : ¬ (n : Int) < ui := by omega
      obtain ⟨b, o, c, x, y, hlv, hbB, c5, s5⟩ := (HFX.out w5 (Below.refl _ _)).2.1.at (i := i) (by rw [HL.out.2.1]; exact hin)
      rw [HL.out.2.1] at hlv
      simp only [Value.slice.injEq, true_and] at hlv
      obtain ⟨rfl, rfl⟩ := hlv
      obtain ⟨r, hr⟩ : ∃ r, r = (rL nds out on).getD i [] := ⟨_, rfl⟩
      rw [← hr] at c5 s5
      obtain ⟨q, hq⟩ : ∃ q, q = r.length := ⟨_, rfl⟩
      rw [← hq] at c5 s5
      have hq101 : q ≤ 101 := by rw [hq, hr]; exact HLT.out i hin
      have HR : Hid (∀ W, Below w5.heap.size w5 W → W.cell? ⟨b, o + i, none⟩ = some (.slice x q y) ∧ SlOf RInt 1 (· < w4.heap.size) W (.slice x q y) r) := fun W hW => by
        obtain ⟨b', o', c', x', y', hlv', _, c6, s6⟩ := (HFX.out W hW).2.1.at (i := i) (by rw [HL.out.2.1]; exact hin)
        rw [HL.out.2.1] at hlv'
        simp only [Value.slice.injEq, Option.some.injEq, Addr.mk.injEq, and_true, true_and] at hlv'
        obtain ⟨⟨rfl, rfl⟩, rfl⟩ := hlv'
        rw [← hr, ← hq] at c6 s6
        have := (hW.cell (lt_of_cell c5)).trans c5
        rw [this] at c6
        cases c6
        exact ⟨this, s6⟩
      have HQ : Hid (q = r.length ∧ r = (rL nds out on).getD i [] ∧ r.Pairwise (· < ·)) := ⟨hq, hr, by rw [hr]; exact HST.out i hin⟩
      have hi0 : (0 : Int) ≤ (i : Int) := by omega
      have hi1 : (i : Int) < (n : Int) := by omega
      clear hui c5 s5 hr hq hb hu1 hu2
      go_wp2_with fail
      clear u0 hd1 hd2 hn1 hn2
      go_loopw [9] (fun kv wr => ∃ k : Nat, k ≤ q ∧ kv = .int .i64 k ∧ Below w5.heap.size w5 wr) (fun kv _ => q - (intOf kv).toNat)
      case atStart => exact ⟨0, Nat.zero_le _, rfl, HB.out⟩
      case round =>
        obtain ⟨k, hk, rfl, hb⟩ := hrel
        clear HB
        have HB : Hid (Below w5.heap.size w5 wr) := hb
        obtain ⟨c0, s0⟩ := HR.out wr hb
        by_cases hkq : k < q
        · obtain ⟨rb, ro, rcap, hrv, _, hrc, _, _⟩ := sl_cellsS s0 (by rw [← HQ.out.1]; omega)
          simp only [Value.slice.injEq] at hrv
          obtain ⟨rfl, he1, he2⟩ := hrv
          clear he1 he2
          have c1 := hrc k (by rw [← HQ.out.1]; exact hkq)
          obtain ⟨v, hv⟩ : ∃ v, v = r.getD k 0 := ⟨_, rfl⟩
          rw [← hv] at c1
          have hvm : v ∈ r := by
            have hkl : k < r.length := by rw [← HQ.out.1]; exact hkq
            have : r[k]? = some v := by rw [hv]; simp [hkl]
            exact List.mem_of_getElem? this
          obtain ⟨hv1, hv2⟩ := HAH.out i v hin (by rw [← HQ.out.2.1]; exact hvm)
          have HV : Hid (v = -1 ∨ ∃ j, j < i ∧ lstI ((gL nds out on).getD j []) = v ∧ (i : Int) ≤ u j) := hv2
          have hd3 : decide (v < -1) = false := decide_eq_false (by omega)
          have hn3 : ¬ v < -1 := by omega
          have hk0 : (0 : Int) ≤ (k : Int) := by omega
          have hk1 : (k : Int) < (q : Int) := by omega
          have HC1 : Hid (∀ W, Below w5.heap.size w5 W → W.cell? ⟨rb, ro + k, none⟩ = some (.int .i64 v)) := fun W hW => by
            obtain ⟨rb', ro', rcap', hrv', _, hrc', _, _⟩ := sl_cellsS (HR.out W hW).2 (by rw [← HQ.out.1]; omega)
            simp only [Value.slice.injEq, Option.some.injEq, Addr.mk.injEq, and_true] at hrv'
            obtain ⟨⟨rfl, rfl⟩, _, _⟩ := hrv'
            rw [hv]
            exact hrc' k (by rw [← HQ.out.1]; exact hkq)
          have kk0 := fun s : Kept wr.heap.size wr => s.at c0
          have kk1 := fun s : Kept wr.heap.size wr => s.at c1
          have hend : ∀ W9 : World, Below w5.heap.size w5 W9 → Hid (Below w5.heap.size w5 W9) := fun W9 h => h
          obtain ⟨k', hk'⟩ : ∃ k', k' = k - 1 := ⟨_, rfl⟩
          by_cases hkz : k = 0
          · subst hkz
            have hdz : decide ((0 : Int) < ((0 : Nat) : Int)) = false := by decide
            have HC1 : Hid (∀ W, Below w5.heap.size w5 W → W.cell? ⟨rb, ro, none⟩ = some (.int .i64 v)) := HC1.out
            have kk1 : ∀ s : Kept wr.heap.size wr, s.w.cell? ⟨rb, ro, none⟩ = some (.int .i64 v) := kk1
            clear s0 hrc hv hv1 hv2 hvm hb hk'
            go_wp2_with fail
            clear c0 c1
            refine wp_region_kept wr.heap.size (by kernel_rfl) (by kernel_rfl) ?_
            repeat (go_big_quiet_step (fail))
            refine wpQuiet_nil ?_
            rintro _ ⟨s, rfl⟩
            clear kk0 kk1
            have HB2 : Hid (Below w5.heap.size w5 s.w) := HB.out.trans (s.below.mono HB.out.size)
            obtain ⟨W6, hW6⟩ : ∃ W, W = s.w := ⟨_, rfl⟩
            rw [← hW6] at HB2 ⊢
            clear hW6 s
            have c0 := (HR.out W6 HB2.out).1
            have c1 := HC1.out W6 HB2.out
            obtain ⟨fq, hfq⟩ : ∃ fq, (v == (-1 : Int)) = fq := ⟨_, rfl⟩
            have H0 : Hid (FoundAt (gL nds out on) u v i 0 fq) := by
              have : FoundAt (gL nds out on) u v i 0 fq := by
                unfold FoundAt
                rw [← hfq, beq_iff_eq]
                constructor
                · intro h; exact .inl h
                · rintro (h | ⟨j, hj, _⟩)
                  · exact h
                  · omega
              exact this
            go_wp2_with fail
            clear c0 c1
            go_loopw [10, 11] (fun bv jv wr => ∃ (j : Nat) (bb : Bool), j ≤ i ∧ jv = .int .i64 j ∧ bv = .bool bb ∧ Hid (FoundAt (gL nds out on) u v i j bb) ∧ Below w5.heap.size w5 wr) (fun _ jv _ => i - (intOf jv).toNat)
            case atStart => exact ⟨0, fq, Nat.zero_le _, rfl, rfl, H0, HB2.out⟩
            case round =>
              obtain ⟨j, bb, hj, rfl, rfl, hbb, hb⟩ := hrel
              clear H0 HB2 hfq
              have HB3 : Hid (Below w5.heap.size w5 wr) := hb
              by_cases hji : j < i
              · have hj0 : (0 : Int) ≤ (j : Int) := by omega
                have hj1 : (j : Int) < (n : Int) := by omega
                have hji' : (j : Int) < (i : Int) := by omega
                cases bb with
                | true =>
                  have HN : Hid (FoundAt (gL nds out on) u v i (j + 1) true) := by
                    have : FoundAt (gL nds out on) u v i (j + 1) true := by
                      refine ⟨fun _ => ?_, fun _ => rfl⟩
                      rcases hbb.out.1 rfl with h | ⟨r, h1, h2⟩
                      · exact .inl h
                      · exact .inr ⟨r, by omega, h2⟩
                    exact this
                  clear hb hbb
                  go_wp2_with fail
                  refine wp_region_kept wr.heap.size (by kernel_rfl) (by kernel_rfl) ?_
                  repeat (go_big_quiet_step (fail))
                  refine wpQuiet_nil ?_
                  rintro _ ⟨s, rfl⟩
                  have HE : Hid (Below w5.heap.size w5 s.w) := HB3.out.trans (s.below.mono HB3.out.size)
                  go_wp2_with fail
                  go_roundw
                  case rel => exact ⟨j + 1, true, by omega, by go_num, rfl, HN, HE.out⟩
                  case measure => simp [intOf]; omega
                | false =>
                  have hno : ¬ (v = -1 ∨ ∃ r, r < j ∧ lstI ((gL nds out on).getD r []) = v ∧ (i : Int) ≤ u r) := fun h => by have := hbb.out.2 h; cases this
                  have HNO : Hid (¬ (v = -1 ∨ ∃ r, r < j ∧ lstI ((gL nds out on).getD r []) = v ∧ (i : Int) ≤ u r)) := hno
                  have hF := HFX.out wr hb
                  obtain ⟨lb, lo, lcap, x2, y2, hlv2, _, d0, t0⟩ := hF.1.at (i := j) (by rw [← HL.out.1]; omega)
                  rw [← HL.out.1] at hlv2
                  simp only [Value.slice.injEq, true_and] at hlv2
                  obtain ⟨rfl, rfl⟩ := hlv2
                  have hgo := HOK.out.at (i := j) (by rw [← HL.out.1]; omega)
                  obtain ⟨g, hg⟩ : ∃ g, g = (gL nds out on).getD j [] := ⟨_, rfl⟩
                  rw [← hg] at d0 t0 hgo
                  obtain ⟨m, hm⟩ : ∃ m, g.length = m + 1 := ⟨g.length - 1, by omega⟩
                  have hm100 : m ≤ 100 := by omega
                  rw [hm] at d0 t0
                  obtain ⟨gb, go, rfl, d1⟩ := sl_lastS t0 hm
                  obtain ⟨z, hz⟩ : ∃ z, z = lstI g := ⟨_, rfl⟩
                  rw [← hz] at d1
                  have HZ : Hid (z = lstI ((gL nds out on).getD j [])) := by
                    have : z = lstI ((gL nds out on).getD j []) := by rw [hz, hg]
                    exact this
                  have e0 := (HR.out wr hb).1
                  have e1 := HC1.out wr hb
                  have u0 := hF.2.2.1.cell j (show (((List.range n).map u).map (Value.int .i64))[j]? = some (.int .i64 (u j)) by simp [show j < n by omega])
                  obtain ⟨uj, huj⟩ : ∃ uj, uj = u j := ⟨_, rfl⟩
                  rw [← huj] at u0
                  have HUJ : Hid (uj = u j) := huj
                  have k0 := fun s : Kept wr.heap.size wr => s.at d0
                  have k1 := fun s : Kept wr.heap.size wr => s.at d1
                  have k2 := fun s : Kept wr.heap.size wr => s.at e0
                  have k3 := fun s : Kept wr.heap.size wr => s.at e1
                  have k4 := fun s : Kept wr.heap.size wr => s.at u0
                  clear hb hbb hno hF t0 hgo hg hm hz huj
                  by_cases hzv : z = v
                  · have hzv' : (z == v) = true := by simp [hzv]
                    obtain ⟨gq, hgq⟩ : ∃ gq, decide ((i : Int) ≤ uj) = gq := ⟨_, rfl⟩
                    have HN : Hid (FoundAt (gL nds out on) u v i (j + 1) gq) := by
                      have : FoundAt (gL nds out on) u v i (j + 1) gq := by
                        unfold FoundAt
                        rw [← hgq, decide_eq_true_eq, HUJ.out]
                        constructor
                        · intro h; exact .inr ⟨j, by omega, by rw [← HZ.out]; exact hzv, h⟩
                        · rintro (h | ⟨r, h1, h2, h3⟩)
                          · exact absurd (.inl h) HNO.out
                          · by_cases e : r = j
                            · rw [← e]; exact h3
                            · exact absurd (.inr ⟨r, by omega, h2, h3⟩) HNO.out
                      exact this
                    clear hzv
                    go_wp2_with fail
                    clear d0 d1 e0 e1 u0
                    refine wp_region_kept wr.heap.size (by kernel_rfl) (by kernel_rfl) ?_
                    repeat (go_big_quiet_step (fail))
                    refine wpQuiet_nil ?_
                    rintro _ ⟨s, rfl⟩
                    have HE : Hid (Below w5.heap.size w5 s.w) := HB3.out.trans (s.below.mono HB3.out.size)
                    clear k0 k1 k2 k3 k4
                    go_wp2_with fail
                    go_roundw
                    case rel => exact ⟨j + 1, gq, by omega, by go_num, rfl, HN, HE.out⟩
                    case measure => simp [intOf]; omega
                  · have hzv' : (z == v) = false := beq_eq_false_iff_ne.2 hzv
                    have HN : Hid (FoundAt (gL nds out on) u v i (j + 1) false) := by
                      have : FoundAt (gL nds out on) u v i (j + 1) false := by
                        constructor
                        · intro h; cases h
                        · rintro (h | ⟨r, h1, h2, h3⟩)
                          · exact absurd (.inl h) HNO.out
                          · by_cases e : r = j
                            · rw [e, ← HZ.out] at h2; exact absurd h2 hzv
                            · exact absurd (.inr ⟨r, by omega, h2, h3⟩) HNO.out
                      exact this
                    clear hzv
                    go_wp2_with fail
                    clear d0 d1 e0 e1 u0
                    refine wp_region_kept wr.heap.size (by kernel_rfl) (by kernel_rfl) ?_
                    repeat (go_big_quiet_step (fail))
                    refine wpQuiet_nil ?_
                    rintro _ ⟨s, rfl⟩
                    have HE : Hid (Below w5.heap.size w5 s.w) := HB3.out.trans (s.below.mono HB3.out.size)
                    clear k0 k1 k2 k3 k4
                    go_wp2_with fail
                    go_roundw
                    case rel => exact ⟨j + 1, false, by omega, by go_num, rfl, HN, HE.out⟩
                    case measure => simp [intOf]; omega
              · have ej : j = i := by omega
                subst ej
                have hbt : bb = true := hbb.out.2 HV.out
                subst hbt
                clear hb hbb
                go_wp2_with fail
                go_roundw
                case rel => exact ⟨1, by omega, by go_num, HB3.out⟩
                case measure => simp [intOf]; omega
          · obtain ⟨k', rfl⟩ : ∃ k', k = k' + 1 := ⟨k - 1, by omega⟩
            have c2 := hrc k' (by rw [← HQ.out.1]; omega)
            obtain ⟨v0, hv0⟩ : ∃ v0, v0 = r.getD k' 0 := ⟨_, rfl⟩
            rw [← hv0] at c2
            have hlt : v0 < v := by
              have hl1 : k' < r.length := by rw [← HQ.out.1]; omega
              have hl2 : k' + 1 < r.length := by rw [← HQ.out.1]; omega
              have := List.pairwise_iff_getElem.1 HQ.out.2.2 k' (k' + 1) hl1 hl2 (by omega)
              rw [hv, hv0]
              simpa [hl1, hl2] using this
            have kk2 := fun s : Kept wr.heap.size wr => s.at c2
            have hd4 : decide (v ≤ v0) = false := decide_eq_false (by omega)
            have hn4 : ¬ v ≤ v0 := by omega
            have hk2 : (0 : Int) ≤ (k' : Int) := by omega
            have hk3 : (k' : Int) < (q : Int) := by omega
            have hkd : decide ((0 : Int) < ((k' + 1 : Nat) : Int)) = true := decide_eq_true (by omega)
            clear s0 hrc hv hv0 hv1 hv2 hvm hb hlt hkz
            go_wp2_with fail
            clear c0 c1 c2
            refine wp_region_kept wr.heap.size (by kernel_rfl) (by kernel_rfl) ?_
            repeat (go_big_quiet_step (fail))
            refine wpQuiet_nil ?_
            rintro _ ⟨s, rfl⟩
            clear kk0 kk1 kk2
            have HB2 : Hid (Below w5.heap.size w5 s.w) := HB.out.trans (s.below.mono HB.out.size)
            obtain ⟨W6, hW6⟩ : ∃ W, W = s.w := ⟨_, rfl⟩
            rw [← hW6] at HB2 ⊢
            clear hW6 s
            have c0 := (HR.out W6 HB2.out).1
            have c1 := HC1.out W6 HB2.out
            obtain ⟨fq, hfq⟩ : ∃ fq, (v == (-1 : Int)) = fq := ⟨_, rfl⟩
            have H0 : Hid (FoundAt (gL nds out on) u v i 0 fq) := by
              have : FoundAt (gL nds out on) u v i 0 fq := by
                unfold FoundAt
                rw [← hfq, beq_iff_eq]
                constructor
                · intro h; exact .inl h
                · rintro (h | ⟨j, hj, _⟩)
                  · exact h
                  · omega
              exact this
            go_wp2_with fail
            clear c0 c1
            go_loopw [10, 11] (fun bv jv wr => ∃ (j : Nat) (bb : Bool), j ≤ i ∧ jv = .int .i64 j ∧ bv = .bool bb ∧ Hid (FoundAt (gL nds out on) u v i j bb) ∧ Below w5.heap.size w5 wr) (fun _ jv _ => i - (intOf jv).toNat)
            case atStart => exact ⟨0, fq, Nat.zero_le _, rfl, rfl, H0, HB2.out⟩
            case round =>
              obtain ⟨j, bb, hj, rfl, rfl, hbb, hb⟩ := hrel
              clear H0 HB2 hfq
              have HB3 : Hid (Below w5.heap.size w5 wr) := hb
              by_cases hji : j < i
              · have hj0 : (0 : Int) ≤ (j : Int) := by omega
                have hj1 : (j : Int) < (n : Int) := by omega
                have hji' : (j : Int) < (i : Int) := by omega
                cases bb with
                | true =>
                  have HN : Hid (FoundAt (gL nds out on) u v i (j + 1) true) := by
                    have : FoundAt (gL nds out on) u v i (j + 1) true := by
                      refine ⟨fun _ => ?_, fun _ => rfl⟩
                      rcases hbb.out.1 rfl with h | ⟨r, h1, h2⟩
                      · exact .inl h
                      · exact .inr ⟨r, by omega, h2⟩
                    exact this
                  clear hb hbb
                  go_wp2_with fail
                  refine wp_region_kept wr.heap.size (by kernel_rfl) (by kernel_rfl) ?_
                  repeat (go_big_quiet_step (fail))
                  refine wpQuiet_nil ?_
                  rintro _ ⟨s, rfl⟩
                  have HE : Hid (Below w5.heap.size w5 s.w) := HB3.out.trans (s.below.mono HB3.out.size)
                  go_wp2_with fail
                  go_roundw
                  case rel => exact ⟨j + 1, true, by omega, by go_num, rfl, HN, HE.out⟩
                  case measure => simp [intOf]; omega
                | false =>
                  have hno : ¬ (v = -1 ∨ ∃ r, r < j ∧ lstI ((gL nds out on).getD r []) = v ∧ (i : Int) ≤ u r) := fun h => by have := hbb.out.2 h; cases this
                  have HNO : Hid (¬ (v = -1 ∨ ∃ r, r < j ∧ lstI ((gL nds out on).getD r []) = v ∧ (i : Int) ≤ u r)) := hno
                  have hF := HFX.out wr hb
                  obtain ⟨lb, lo, lcap, x2, y2, hlv2, _, d0, t0⟩ := hF.1.at (i := j) (by rw [← HL.out.1]; omega)
                  rw [← HL.out.1] at hlv2
                  simp only [Value.slice.injEq, true_and] at hlv2
                  obtain ⟨rfl, rfl⟩ := hlv2
                  have hgo := HOK.out.at (i := j) (by rw [← HL.out.1]; omega)
                  obtain ⟨g, hg⟩ : ∃ g, g = (gL nds out on).getD j [] := ⟨_, rfl⟩
                  rw [← hg] at d0 t0 hgo
                  obtain ⟨m, hm⟩ : ∃ m, g.length = m + 1 := ⟨g.length - 1, by omega⟩
                  have hm100 : m ≤ 100 := by omega
                  rw [hm] at d0 t0
                  obtain ⟨gb, go, rfl, d1⟩ := sl_lastS t0 hm
                  obtain ⟨z, hz⟩ : ∃ z, z = lstI g := ⟨_, rfl⟩
                  rw [← hz] at d1
                  have HZ : Hid (z = lstI ((gL nds out on).getD j [])) := by
                    have : z = lstI ((gL nds out on).getD j []) := by rw [hz, hg]
                    exact this
                  have e0 := (HR.out wr hb).1
                  have e1 := HC1.out wr hb
                  have u0 := hF.2.2.1.cell j (show (((List.range n).map u).map (Value.int .i64))[j]? = some (.int .i64 (u j)) by simp [show j < n by omega])
                  obtain ⟨uj, huj⟩ : ∃ uj, uj = u j := ⟨_, rfl⟩
                  rw [← huj] at u0
                  have HUJ : Hid (uj = u j) := huj
                  have k0 := fun s : Kept wr.heap.size wr => s.at d0
                  have k1 := fun s : Kept wr.heap.size wr => s.at d1
                  have k2 := fun s : Kept wr.heap.size wr => s.at e0
                  have k3 := fun s : Kept wr.heap.size wr => s.at e1
                  have k4 := fun s : Kept wr.heap.size wr => s.at u0
                  clear hb hbb hno hF t0 hgo hg hm hz huj
                  by_cases hzv : z = v
                  · have hzv' : (z == v) = true := by simp [hzv]
                    obtain ⟨gq, hgq⟩ : ∃ gq, decide ((i : Int) ≤ uj) = gq := ⟨_, rfl⟩
                    have HN : Hid (FoundAt (gL nds out on) u v i (j + 1) gq) := by
                      have : FoundAt (gL nds out on) u v i (j + 1) gq := by
                        unfold FoundAt
                        rw [← hgq, decide_eq_true_eq, HUJ.out]
                        constructor
                        · intro h; exact .inr ⟨j, by omega, by rw [← HZ.out]; exact hzv, h⟩
                        · rintro (h | ⟨r, h1, h2, h3⟩)
                          · exact absurd (.inl h) HNO.out
                          · by_cases e : r = j
                            · rw [← e]; exact h3
                            · exact absurd (.inr ⟨r, by omega, h2, h3⟩) HNO.out
                      exact this
                    clear hzv
                    go_wp2_with fail
                    clear d0 d1 e0 e1 u0
                    refine wp_region_kept wr.heap.size (by kernel_rfl) (by kernel_rfl) ?_
                    repeat (go_big_quiet_step (fail))
                    refine wpQuiet_nil ?_
                    rintro _ ⟨s, rfl⟩
                    have HE : Hid (Below w5.heap.size w5 s.w) := HB3.out.trans (s.below.mono HB3.out.size)
                    clear k0 k1 k2 k3 k4
                    go_wp2_with fail
                    go_roundw
                    case rel => exact ⟨j + 1, gq, by omega, by go_num, rfl, HN, HE.out⟩
                    case measure => simp [intOf]; omega
                  · have hzv' : (z == v) = false := beq_eq_false_iff_ne.2 hzv
                    have HN : Hid (FoundAt (gL nds out on) u v i (j + 1) false) := by
                      have : FoundAt (gL nds out on) u v i (j + 1) false := by
                        constructor
                        · intro h; cases h
                        · rintro (h | ⟨r, h1, h2, h3⟩)
                          · exact absurd (.inl h) HNO.out
                          · by_cases e : r = j
                            · rw [e, ← HZ.out] at h2; exact absurd h2 hzv
                            · exact absurd (.inr ⟨r, by omega, h2, h3⟩) HNO.out
                      exact this
                    clear hzv
                    go_wp2_with fail
                    clear d0 d1 e0 e1 u0
                    refine wp_region_kept wr.heap.size (by kernel_rfl) (by kernel_rfl) ?_
                    repeat (go_big_quiet_step (fail))
                    refine wpQuiet_nil ?_
                    rintro _ ⟨s, rfl⟩
                    have HE : Hid (Below w5.heap.size w5 s.w) := HB3.out.trans (s.below.mono HB3.out.size)
                    clear k0 k1 k2 k3 k4
                    go_wp2_with fail
                    go_roundw
                    case rel => exact ⟨j + 1, false, by omega, by go_num, rfl, HN, HE.out⟩
                    case measure => simp [intOf]; omega
              · have ej : j = i := by omega
                subst ej
                have hbt : bb = true := hbb.out.2 HV.out
                subst hbt
                clear hb hbb
                go_wp2_with fail
                go_roundw
                case rel => exact ⟨k' + 1 + 1, by omega, by go_num, HB3.out⟩
                case measure => simp [intOf]; omega
        · have ek : k = q := by omega
          subst ek
          clear s0 hb
          go_wp2_with fail
          go_roundw
          case rel => exact ⟨i + 1, by omega, by go_num, HB.out⟩
          case measure => simp [intOf]; omega
    · have ei : i = n := by omega
      subst ei
      have HE : Hid (Below w.heap.size w wr) := (HFX.out wr hb).2.2.2
      clear hb
      go_wp2_with fail
      go_ret
      exact ⟨rfl, HE.out⟩
/-! ### the law -/
section
open Go.ChangeShapes Go.WideShapes Go.ChangeAt
variable {H : Type} {enc : TypeId × Value → H} {W : World} {base : Nat}
theorem spanLives.spanLives_law (W : World) (ht : Tabs W) {v0 v1 : Value} {d0 d1 : DataW H} {p0 p1 : List MemPlace}
    (h0 : DataW.Trod enc Tryd.prog W 0 (fun _ => true) true 24 v0 d0 p0) (h1 : DataW.Trod enc Tryd.prog W 0 (fun _ => true) true 4 v1 d1 p1)
    (k0 : Value.okWide Tryd.prog W .any base 24 v0) (k1 : Value.okWide Tryd.prog W .any base 4 v1) :
    Calls Tryd.prog 4 #[v0, v1] W (TPost W) := by
  obtain ⟨nv, out, nds, rfl, hg, hout⟩ := graph_arg h0 k0
  obtain ⟨b, rfl⟩ := okWide_bool Tryd.underlying4 k1
  exact spanLives_walk nv nds out b W ht hg
end
end Go.Proofs.YtmhfabekmgcjnaaDoor
