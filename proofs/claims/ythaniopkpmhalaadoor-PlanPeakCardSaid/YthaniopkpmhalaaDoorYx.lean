/- Texts joined: XYx. -/
import Derived.Test.YthaniopkpmhalaaDoorYt
import Derived.Test.YthaniopkpmhalaaDoorYv
import Derived.Test.YthaniopkpmhalaaDoorYu
set_option maxRecDepth 4000
/- The walk of 'PlanPeak'. (Printed.) -/
namespace Go.Proofs.YthaniopkpmhalaaDoor
open Go.RowKit Go.Bx Go.Od Go.Hp
attribute [local go_sem ↓] Go.wp_at_zero Go.wp_at_succ
set_option linter.unusedVariables false

theorem peak_law {nds : List Nd} {out : Int} {want : Rc} {fu ro da : Bool} {rm : Int} (h : PlOk nds out want) {s t : St} (hs : s = plS nds out ⟨fu, true, ro, da, rm⟩ want) (ht : t = plS nds out ⟨fu, false, ro, da, rm⟩ want) :
    s.pk ≤ t.pk ∧ t.ps.length = s.ps.length ∧ s.sl.length ≤ t.sl.length ∧ s.ps.length ≤ 100 ∧ ∀ i, i < s.ps.length → (s.ps.getD i Ps.none).box = (t.ps.getD i Ps.none).box ∧ -1 ≤ (s.ps.getD i Ps.none).slot ∧ (s.ps.getD i Ps.none).slot < s.sl.length ∧ decide ((s.ps.getD i Ps.none).slot < 0) = (s.ps.getD i Ps.none).box.emp ∧ POk (s.ps.getD i Ps.none) ∧
      ∀ k, k < i → 0 ≤ (s.ps.getD i Ps.none).slot → (s.ps.getD k Ps.none).slot = (s.ps.getD i Ps.none).slot → (i : Int) ≤ (s.ps.getD k Ps.none).last → (s.ps.getD k Ps.none).last = i ∧ (s.ps.getD k Ps.none).box = (s.ps.getD i Ps.none).box ∧ (s.ps.getD i Ps.none).reads.contains (resP (s.ps.getD k Ps.none) : Int) = true := by
  obtain ⟨ps, hps⟩ : ∃ p, p = pss nds out ⟨fu, true, ro, da, rm⟩ want := ⟨_, rfl⟩
  have hps2 : ps = pss nds out ⟨fu, false, ro, da, rm⟩ want := hps
  have hs' : s = asg nds ⟨fu, true, ro, da, rm⟩ ps := by rw [hs, hps]; rfl
  have ht' : t = asg nds ⟨fu, false, ro, da, rm⟩ ps := by rw [ht, hps2]; rfl
  have h2 := asg_two nds (c := ⟨fu, true, ro, da, rm⟩) (d := ⟨fu, false, ro, da, rm⟩) rfl ps
  rw [← hs', ← ht'] at h2
  have hn : ps.length = (grp nds out fu).length := by rw [hps, pss_len]
  have hall : ∀ i, i < ps.length → (ps.getD i Ps.none).slot = -1 ∧ (ps.getD i Ps.none).last = uN nds out fu i := fun i hi => by
    rw [hn] at hi
    have := pss_all (c := ⟨fu, true, ro, da, rm⟩) (want := want) hi
    rw [← hps] at this
    exact ⟨this.1, this.2.1⟩
  have hsi := asg_si nds (c := ⟨fu, true, ro, da, rm⟩) (ps := ps) rfl (fun i hi => by rw [(hall i hi).2]; rw [hn] at hi; exact (h.sg.uN_gt hi).1) (fun i hi => (hall i hi).1)
  rw [← hs'] at hsi
  have hokp : ∀ x ∈ ps, POk x := by rw [hps]; exact pss_ok h
  refine ⟨h2.pk, by rw [h2.ta.1, h2.sa.1], h2.len, by rw [h2.sa.1, hn]; exact grp_le h.sg.toGood, fun i hi => ?_⟩
  rw [h2.sa.1] at hi
  have he := hsi.early i hi
  refine ⟨by rw [h2.sa.box, h2.ta.box], he.1, he.2.1, ?_, POk.alk h2.sa hokp _ (getD_mem _ (by rw [h2.sa.1]; exact hi)), fun k hk h0 h1 h3 => ?_⟩
  · have hp := szP_pos (p := ps.getD i Ps.none) (hokp _ (getD_mem _ hi)).2.2.2
    rw [h2.sa.box, Bool.eq_iff_iff, decide_eq_true_eq, he.2.2]
    rw [hp]
    simp
  · rw [h2.sa.last] at h3
    have := hsi.pair i k hk hi (by omega) h1 (by omega)
    rw [h2.sa.last, h2.sa.box, h2.sa.box, h2.sa.reads, h2.sa.resP]
    exact this
set_option maxRecDepth 10000 in
set_option maxHeartbeats 12800000 in
theorem planPeak_walk (nv : Value) (nds : List Nd) (out : Int) (want : Rc) (c : Cf) (w : World) (ht : Tabs w) (hg : Gr w.heap.size w nv nds) :
    Calls Tryd.prog 3 #[.agg #[nv, .int .i64 out], rv want, cfv c] w (TPost w) := by
  have HG : Hid (Gr w.heap.size w nv nds ∧ Tabs w) := ⟨hg, ht⟩
  obtain ⟨ga, gc, rfl⟩ := hg.isSl
  have hgl := hg.len_le
  obtain ⟨x0, y0, x1, y1⟩ := want
  obtain ⟨fu, al, ro, da, rm⟩ := c
  clear hg ht
  have H1 : Hid (CB w (((w.alloc (.cells #[.slice ga nds.length gc, .int .i64 out] 24)).alloc (.cells (cs4 x0 y0 x1 y1) 26)).alloc (.cells #[.bool fu, .bool al, .bool ro, .bool da, .int .i64 rm] 28)) (.slice ga nds.length gc) (.int .i64 out) ⟨x0, y0, x1, y1⟩ ⟨fu, al, ro, da, rm⟩) := CB.new w _ _ ⟨x0, y0, x1, y1⟩ ⟨fu, al, ro, da, rm⟩ _ _
  go_enter Tryd.func3, Tryd.ntmps3
  go_wp2_with fail
  generalize (((w.alloc (.cells #[.slice ga nds.length gc, .int .i64 out] 24)).alloc (.cells (cs4 x0 y0 x1 y1) 26)).alloc (.cells #[.bool fu, .bool al, .bool ro, .bool da, .int .i64 rm] 28)) = W1 at *
  refine (awake19_c W1).mono ?_; rintro e w2 ⟨rfl, hb2⟩
  have H2 : Hid (CB w w2 (.slice ga nds.length gc) (.int .i64 out) ⟨x0, y0, x1, y1⟩ ⟨fu, al, ro, da, rm⟩) := H1.out.call hb2
  clear hb2 H1
  have g0 := H2.out.1.cell 0 rfl
  have g1 := H2.out.1.cell 1 rfl
  obtain ⟨r0, r1, r2, r3⟩ := box4 H2.out.2.1
  go_wp2_with fail
  refine (right19_c w.heap.size _ nds out ⟨x0, y0, x1, y1⟩ w2 (HG.out.2.below H2.out.2.2.2) (HG.out.1.below H2.out.2.2.2 (Nat.le_refl _)) H2.out.2.2.2.size).mono ?_; rintro e w3 ⟨rfl, hb3⟩
  have H3 : Hid (CB w w3 (.slice ga nds.length gc) (.int .i64 out) ⟨x0, y0, x1, y1⟩ ⟨fu, al, ro, da, rm⟩) := H2.out.call hb3
  clear g0 g1 r0 r1 r2 r3 hb3 H2
  obtain ⟨r, hr⟩ : ∃ r, r = rightP nds out ⟨x0, y0, x1, y1⟩ := ⟨_, rfl⟩
  rw [← hr]
  cases r with
  | false =>
    clear hr
    go_wp2_with fail
    refine (awake19_c w3).mono ?_; rintro e w4 ⟨rfl, hb4⟩
    have HE : Hid (Below w.heap.size w w4) := H3.out.2.2.2.trans (hb4.mono H3.out.2.2.2.size)
    clear H3 hb4
    go_wp2_with fail
    go_ret
    exact ⟨rfl, HE.out⟩
  | true =>
  have HP : Hid (PlOk nds out ⟨x0, y0, x1, y1⟩) := plOk_of hr.symm
  clear hr
  have hcB0 := H3.out.conf
  have sB0 := hcB0.2.1
  have tB0 := hcB0.2.2.2.2.2 1
  have H7s0 : Hid (CB w (w3.setCell ⟨w.heap.size + 1 + 1, 1, none⟩ (.bool false)) (.slice ga nds.length gc) (.int .i64 out) ⟨x0, y0, x1, y1⟩ ⟨fu, false, ro, da, rm⟩) := H3.out.put 1 _ ⟨fu, false, ro, da, rm⟩ rfl
  clear hcB0
  have g0 := H7s0.out.1.cell 0 rfl
  have g1 := H7s0.out.1.cell 1 rfl
  obtain ⟨r0, r1, r2, r3⟩ := box4 H7s0.out.2.1
  obtain ⟨m0, m1, m2, m3, m4, mf⟩ := H7s0.out.conf
  go_wp2_with fail
  clear g0 g1 r0 r1 r2 r3 m0 m1 m2 m3 m4 mf sB0 tB0
  obtain ⟨w5B, hw5⟩ : ∃ W, W = (w3.setCell ⟨w.heap.size + 1 + 1, 1, none⟩ (.bool false)) := ⟨_, rfl⟩
  rw [← hw5] at H7s0 ⊢
  clear hw5
  clear H3
  have hmk := make_c w.heap.size _ nds out ⟨x0, y0, x1, y1⟩ ⟨fu, false, ro, da, rm⟩ w5B HP.out (HG.out.1.below H7s0.out.2.2.2 (Nat.le_refl _)) H7s0.out.2.2.2.size
  obtain ⟨stB, hstB⟩ : ∃ s, s = plS nds out ⟨fu, false, ro, da, rm⟩ ⟨x0, y0, x1, y1⟩ := ⟨_, rfl⟩
  obtain ⟨srB, hsrB⟩ : ∃ s, s = srcO nds out ⟨fu, false, ro, da, rm⟩ ⟨x0, y0, x1, y1⟩ := ⟨_, rfl⟩
  have HSB : Hid (stB = plS nds out ⟨fu, false, ro, da, rm⟩ ⟨x0, y0, x1, y1⟩ ∧ srB = srcO nds out ⟨fu, false, ro, da, rm⟩ ⟨x0, y0, x1, y1⟩) := ⟨hstB, hsrB⟩
  rw [← hstB, ← hsrB] at hmk
  clear hstB hsrB
  refine hmk.mono ?_; rintro e w6 ⟨plB, pvB, rfl, hpl, hpr, hb6⟩
  clear hmk
  obtain ⟨paB, pcB, hpv⟩ := hpr.form
  obtain ⟨pnB, hpn⟩ : ∃ n, n = plB.length := ⟨_, rfl⟩
  have HNB : Hid (pnB = plB.length) := hpn
  rw [← hpn] at hpv
  subst hpv
  obtain ⟨snB, hsn⟩ : ∃ n, n = stB.sl.length := ⟨_, rfl⟩
  obtain ⟨pkB, hpk⟩ : ∃ n, n = stB.pk := ⟨_, rfl⟩
  have HKB : Hid (snB = stB.sl.length ∧ pkB = stB.pk ∧ psl plB = stB.ps) := ⟨hsn, hpk, hpl⟩
  obtain ⟨aB0, aB1, aB2, aB3⟩ := srB
  obtain ⟨nB, hn⟩ : ∃ n, n = w5B.heap.size := ⟨_, rfl⟩
  obtain ⟨qB, hq⟩ : ∃ n, n = w6.heap.size := ⟨_, rfl⟩
  have HBnB : Hid (w.heap.size + 1 + 1 < nB ∧ qB ≠ w.heap.size + 1 + 1) := by
    have h1 := H7s0.out.2.2.1.lt
    have h2 := hb6.size
    have : w.heap.size + 1 + 1 < nB ∧ qB ≠ w.heap.size + 1 + 1 := by omega
    exact this
  have H7 : Hid (CB w (w6.alloc (.cells #[.slice paB pnB pcB, .int .i64 aB0, .int .i64 aB1, .int .i64 aB2, .int .i64 aB3, .int .i64 snB, .int .i64 pkB] 33)) (.slice ga nds.length gc) (.int .i64 out) ⟨x0, y0, x1, y1⟩ ⟨fu, false, ro, da, rm⟩ ∧ PV nB qB stB.ps ⟨aB0, aB1, aB2, aB3⟩ snB pkB plB (.slice paB pnB pcB) (w6.alloc (.cells #[.slice paB pnB pcB, .int .i64 aB0, .int .i64 aB1, .int .i64 aB2, .int .i64 aB3, .int .i64 snB, .int .i64 pkB] 33))) := by
    have hbn := below_new w6 (.cells #[.slice paB pnB pcB, .int .i64 aB0, .int .i64 aB1, .int .i64 aB2, .int .i64 aB3, .int .i64 snB, .int .i64 pkB] 33)
    have hpv' : PV nB qB stB.ps ⟨aB0, aB1, aB2, aB3⟩ snB pkB plB (.slice paB pnB pcB) (w6.alloc (.cells #[.slice paB pnB pcB, .int .i64 aB0, .int .i64 aB1, .int .i64 aB2, .int .i64 aB3, .int .i64 snB, .int .i64 pkB] 33)) := by
      rw [hn, hq]
      exact PV.new (src := ⟨aB0, aB1, aB2, aB3⟩) hpl hpr
    exact ⟨(H7s0.out.call hb6).call hbn, hpv'⟩
  rw [← hsn, ← hpk]
  dsimp only
  clear hb6 hpl hpr hpn hsn hpk hn
  clear H7s0
  have hcA0 := H7.out.1.conf
  have sA0 := hcA0.2.1
  have tA0 := hcA0.2.2.2.2.2 1
  have H9s0 : Hid (CB w ((w6.alloc (.cells #[.slice paB pnB pcB, .int .i64 aB0, .int .i64 aB1, .int .i64 aB2, .int .i64 aB3, .int .i64 snB, .int .i64 pkB] 33)).setCell ⟨w.heap.size + 1 + 1, 1, none⟩ (.bool true)) (.slice ga nds.length gc) (.int .i64 out) ⟨x0, y0, x1, y1⟩ ⟨fu, true, ro, da, rm⟩ ∧ PV nB qB stB.ps ⟨aB0, aB1, aB2, aB3⟩ snB pkB plB (.slice paB pnB pcB) ((w6.alloc (.cells #[.slice paB pnB pcB, .int .i64 aB0, .int .i64 aB1, .int .i64 aB2, .int .i64 aB3, .int .i64 snB, .int .i64 pkB] 33)).setCell ⟨w.heap.size + 1 + 1, 1, none⟩ (.bool true))) := ⟨H7.out.1.put 1 _ ⟨fu, true, ro, da, rm⟩ rfl, H7.out.2.setq (p := ⟨w.heap.size + 1 + 1, 1, none⟩) HBnB.out.1 HBnB.out.2 _⟩
  clear hcA0
  have g0 := H9s0.out.1.1.cell 0 rfl
  have g1 := H9s0.out.1.1.cell 1 rfl
  obtain ⟨r0, r1, r2, r3⟩ := box4 H9s0.out.1.2.1
  obtain ⟨m0, m1, m2, m3, m4, mf⟩ := H9s0.out.1.conf
  go_wp2_with fail
  clear g0 g1 r0 r1 r2 r3 m0 m1 m2 m3 m4 mf sA0 tA0
  rw [← hq]
  clear hq
  obtain ⟨w5A, hw5⟩ : ∃ W, W = ((w6.alloc (.cells #[.slice paB pnB pcB, .int .i64 aB0, .int .i64 aB1, .int .i64 aB2, .int .i64 aB3, .int .i64 snB, .int .i64 pkB] 33)).setCell ⟨w.heap.size + 1 + 1, 1, none⟩ (.bool true)) := ⟨_, rfl⟩
  rw [← hw5] at H9s0 ⊢
  clear hw5
  clear H7
  clear w6
  have hmk := make_c w.heap.size _ nds out ⟨x0, y0, x1, y1⟩ ⟨fu, true, ro, da, rm⟩ w5A HP.out (HG.out.1.below H9s0.out.1.2.2.2 (Nat.le_refl _)) H9s0.out.1.2.2.2.size
  obtain ⟨stA, hstA⟩ : ∃ s, s = plS nds out ⟨fu, true, ro, da, rm⟩ ⟨x0, y0, x1, y1⟩ := ⟨_, rfl⟩
  obtain ⟨srA, hsrA⟩ : ∃ s, s = srcO nds out ⟨fu, true, ro, da, rm⟩ ⟨x0, y0, x1, y1⟩ := ⟨_, rfl⟩
  have HSA : Hid (stA = plS nds out ⟨fu, true, ro, da, rm⟩ ⟨x0, y0, x1, y1⟩ ∧ srA = srcO nds out ⟨fu, true, ro, da, rm⟩ ⟨x0, y0, x1, y1⟩) := ⟨hstA, hsrA⟩
  rw [← hstA, ← hsrA] at hmk
  clear hstA hsrA
  refine hmk.mono ?_; rintro e w6 ⟨plA, pvA, rfl, hpl, hpr, hb6⟩
  clear hmk
  obtain ⟨paA, pcA, hpv⟩ := hpr.form
  obtain ⟨pnA, hpn⟩ : ∃ n, n = plA.length := ⟨_, rfl⟩
  have HNA : Hid (pnA = plA.length) := hpn
  rw [← hpn] at hpv
  subst hpv
  obtain ⟨snA, hsn⟩ : ∃ n, n = stA.sl.length := ⟨_, rfl⟩
  obtain ⟨pkA, hpk⟩ : ∃ n, n = stA.pk := ⟨_, rfl⟩
  have HKA : Hid (snA = stA.sl.length ∧ pkA = stA.pk ∧ psl plA = stA.ps) := ⟨hsn, hpk, hpl⟩
  obtain ⟨aA0, aA1, aA2, aA3⟩ := srA
  obtain ⟨nA, hn⟩ : ∃ n, n = w5A.heap.size := ⟨_, rfl⟩
  obtain ⟨qA, hq⟩ : ∃ n, n = w6.heap.size := ⟨_, rfl⟩
  have HBnA : Hid (w.heap.size + 1 + 1 < nA ∧ qA ≠ w.heap.size + 1 + 1) := by
    have h1 := H9s0.out.1.2.2.1.lt
    have h2 := hb6.size
    have : w.heap.size + 1 + 1 < nA ∧ qA ≠ w.heap.size + 1 + 1 := by omega
    exact this
  have H9 : Hid (CB w (w6.alloc (.cells #[.slice paA pnA pcA, .int .i64 aA0, .int .i64 aA1, .int .i64 aA2, .int .i64 aA3, .int .i64 snA, .int .i64 pkA] 33)) (.slice ga nds.length gc) (.int .i64 out) ⟨x0, y0, x1, y1⟩ ⟨fu, true, ro, da, rm⟩ ∧ PV nB qB stB.ps ⟨aB0, aB1, aB2, aB3⟩ snB pkB plB (.slice paB pnB pcB) (w6.alloc (.cells #[.slice paA pnA pcA, .int .i64 aA0, .int .i64 aA1, .int .i64 aA2, .int .i64 aA3, .int .i64 snA, .int .i64 pkA] 33)) ∧ PV nA qA stA.ps ⟨aA0, aA1, aA2, aA3⟩ snA pkA plA (.slice paA pnA pcA) (w6.alloc (.cells #[.slice paA pnA pcA, .int .i64 aA0, .int .i64 aA1, .int .i64 aA2, .int .i64 aA3, .int .i64 snA, .int .i64 pkA] 33))) := by
    have hbn := below_new w6 (.cells #[.slice paA pnA pcA, .int .i64 aA0, .int .i64 aA1, .int .i64 aA2, .int .i64 aA3, .int .i64 snA, .int .i64 pkA] 33)
    have hpv' : PV nA qA stA.ps ⟨aA0, aA1, aA2, aA3⟩ snA pkA plA (.slice paA pnA pcA) (w6.alloc (.cells #[.slice paA pnA pcA, .int .i64 aA0, .int .i64 aA1, .int .i64 aA2, .int .i64 aA3, .int .i64 snA, .int .i64 pkA] 33)) := by
      rw [hn, hq]
      exact PV.new (src := ⟨aA0, aA1, aA2, aA3⟩) hpl hpr
    exact ⟨(H9s0.out.1.call hb6).call hbn, (H9s0.out.2.call hb6).call hbn, hpv'⟩
  rw [← hsn, ← hpk]
  dsimp only
  clear hb6 hpl hpr hpn hsn hpk hn
  clear H9s0
  have hlaw := peak_law HP.out HSA.out.1 HSB.out.1
  have h1 := congrArg List.length HKB.out.2.2
  have h2 := congrArg List.length HKA.out.2.2
  rw [psl_len, ← HNB.out] at h1
  rw [psl_len, ← HNA.out] at h2
  obtain ⟨l1, l2, l3, l4, l5⟩ := hlaw
  rw [← h2] at l4 l5
  rw [← HKA.out.1, ← HKB.out.1] at l3
  rw [← HKA.out.2.1, ← HKB.out.2.1] at l1
  rw [← HKA.out.1] at l5
  obtain rfl : pnB = pnA := by rw [h1, l2, h2]
  have HLAW : Hid (∀ i, i < pnB → (stA.ps.getD i Ps.none).box = (stB.ps.getD i Ps.none).box ∧ -1 ≤ (stA.ps.getD i Ps.none).slot ∧ (stA.ps.getD i Ps.none).slot < snA ∧ decide ((stA.ps.getD i Ps.none).slot < 0) = (stA.ps.getD i Ps.none).box.emp ∧ POk (stA.ps.getD i Ps.none) ∧ ∀ k, k < i → 0 ≤ (stA.ps.getD i Ps.none).slot → (stA.ps.getD k Ps.none).slot = (stA.ps.getD i Ps.none).slot → (i : Int) ≤ (stA.ps.getD k Ps.none).last → (stA.ps.getD k Ps.none).last = i ∧ (stA.ps.getD k Ps.none).box = (stA.ps.getD i Ps.none).box ∧ (stA.ps.getD i Ps.none).reads.contains (resP (stA.ps.getD k Ps.none) : Int) = true) := l5
  have hd0 : decide (pkA > pkB) = false := decide_eq_false (by omega)
  have hd9 : decide (snB < snA) = false := decide_eq_false (by omega)
  clear l2 l5 h1 h2
  have b0 := H9.out.2.1.1.box.cell 0 rfl
  have b5 := H9.out.2.1.1.box.cell 5 rfl
  have b6 := H9.out.2.1.1.box.cell 6 rfl
  have a0 := H9.out.2.2.1.box.cell 0 rfl
  rw [hq] at a0
  have a5 := H9.out.2.2.1.box.cell 5 rfl
  rw [hq] at a5
  have a6 := H9.out.2.2.1.box.cell 6 rfl
  rw [hq] at a6
  go_wp2_with fail
  clear a0 a5 a6 b0 b5 b6
  rw [← hq]
  clear hq
  generalize (w6.alloc (.cells #[.slice paA pnB pcA, .int .i64 aA0, .int .i64 aA1, .int .i64 aA2, .int .i64 aA3, .int .i64 snA, .int .i64 pkA] 33)) = w7 at *
  clear w6
  have HFX : Hid (∀ W, Below w7.heap.size w7 W → CB w W (.slice ga nds.length gc) (.int .i64 out) ⟨x0, y0, x1, y1⟩ ⟨fu, true, ro, da, rm⟩ ∧ PV nB qB stB.ps ⟨aB0, aB1, aB2, aB3⟩ snB pkB plB (.slice paB pnB pcB) W ∧ PV nA qA stA.ps ⟨aA0, aA1, aA2, aA3⟩ snA pkA plA (.slice paA pnB pcA) W) := fun W hW => ⟨H9.out.1.call hW, H9.out.2.1.call hW, H9.out.2.2.call hW⟩
  clear H9 hd0 l1
  go_loopw [9, 10, 11, 12] (fun iv _ _ _ W => ∃ i : Nat, i ≤ pnB ∧ iv = .int .i64 i ∧ Below w7.heap.size w7 W) (fun iv _ _ _ _ => pnB - (intOf iv).toNat)
  case atStart => exact ⟨0, Nat.zero_le _, rfl, Below.refl _ _⟩
  case round =>
    obtain ⟨i, hi3, rfl, hbi⟩ := hrel
    obtain ⟨hcb, hpb, hpa⟩ := HFX.out wr hbi
    have HBI : Hid (Below w7.heap.size w7 wr) := hbi
    have qa0 := hpa.1.box.cell 0 rfl
    by_cases hil : i < pnB
    · obtain ⟨x, hx⟩ : ∃ x, x = (psl plA).getD i Ps.none := ⟨_, rfl⟩
      obtain ⟨y, hy⟩ : ∃ y, y = (psl plB).getD i Ps.none := ⟨_, rfl⟩
      obtain ⟨gA, capA, nax, ncx, rax, rcx, hvA, _, hgAl, hmA, _, pcA', _, orx⟩ := hpa.2.2.at (by rw [← HNA.out]; exact hil) hx
      obtain ⟨gB, capB, naB, ncB, raB, rcB, hvB, _, _, _, _, pcB', _, _⟩ := hpb.2.2.at (by rw [← HNB.out]; exact hil) hy
      simp only [Value.slice.injEq] at hvA hvB
      obtain ⟨rfl, hq1, hq2⟩ := hvA
      obtain ⟨rfl, hq3, hq4⟩ := hvB
      clear hq1 hq2 hq3 hq4
      rw [HKA.out.2.2] at hx
      rw [HKB.out.2.2] at hy
      have hli := HLAW.out i hil
      rw [← hx, ← hy] at hli
      obtain ⟨nnx, hnn⟩ : ∃ n, n = x.nodes.length := ⟨_, rfl⟩
      obtain ⟨rnx, hrn⟩ : ∃ n, n = x.reads.length := ⟨_, rfl⟩
      rw [← hnn, ← hrn] at pcA'
      obtain ⟨bs, bt, hbs⟩ : ∃ s t, PC wr gB (i * 8) s t y := ⟨_, _, pcB'⟩
      have HX : Hid (POk x ∧ x = stA.ps.getD i Ps.none ∧ OwnP wr nA (.slice rax x.reads.length rcx) x.reads ∧ rnx = x.reads.length) := ⟨hli.2.2.2.2.1, hx, orx, hrn⟩
      have HPAIR : Hid (∀ k, k < i → 0 ≤ x.slot → (stA.ps.getD k Ps.none).slot = x.slot → (i : Int) ≤ (stA.ps.getD k Ps.none).last → (stA.ps.getD k Ps.none).last = i ∧ (stA.ps.getD k Ps.none).box = x.box ∧ x.reads.contains (resP (stA.ps.getD k Ps.none) : Int) = true) := by
        have h := hli.2.2.2.2.2
        exact h
      have hbox := hli.1
      have hs1 := hli.2.1
      have hs2 := hli.2.2.1
      have hemp := hli.2.2.2.1
      obtain ⟨ns, rs, ⟨ux0, ux1, ux2, ux3⟩, sox, lox⟩ := x
      obtain ⟨ns', rs', yb, so', lo'⟩ := y
      dsimp only at hbox hs1 hs2 hemp
      subst hbox
      obtain ⟨_, _, d2, d3, d4, d5, _, _⟩ := hbs
      obtain ⟨p0, p1, p2, p3, p4, p5, p6, p7⟩ := pcA'
      dsimp only at d2 d3 d4 d5 p2 p3 p4 p5 p6 p7
      have hbw := below_new wr (.cells #[.slice nax nnx ncx, .slice rax rnx rcx, .int .i64 ux0, .int .i64 ux1, .int .i64 ux2, .int .i64 ux3, .int .i64 sox, .int .i64 lox] 37)
      have XB := Box.new wr [.slice nax nnx ncx, .slice rax rnx rcx, .int .i64 ux0, .int .i64 ux1, .int .i64 ux2, .int .i64 ux3, .int .i64 sox, .int .i64 lox] 37
      obtain ⟨zx, hzx⟩ : ∃ z, z = wr.heap.size := ⟨_, rfl⟩
      rw [← hzx] at XB
      have hqb := hpb.1.box.cell 0 rfl
      have hqa5 := hpa.1.box.cell 5 rfl
      unfold maxLen at hmA
      have hi0 : (0 : Int) ≤ (i : Int) := by omega
      have hi1 : (i : Int) < (pnB : Int) := by omega
      have HB2 : Hid (Below w7.heap.size w7 (wr.alloc (.cells #[.slice nax nnx ncx, .slice rax rnx rcx, .int .i64 ux0, .int .i64 ux1, .int .i64 ux2, .int .i64 ux3, .int .i64 sox, .int .i64 lox] 37)) ∧ Box (wr.alloc (.cells #[.slice nax nnx ncx, .slice rax rnx rcx, .int .i64 ux0, .int .i64 ux1, .int .i64 ux2, .int .i64 ux3, .int .i64 sox, .int .i64 lox] 37)) zx [.slice nax nnx ncx, .slice rax rnx rcx, .int .i64 ux0, .int .i64 ux1, .int .i64 ux2, .int .i64 ux3, .int .i64 sox, .int .i64 lox] ∧ Below wr.heap.size wr (wr.alloc (.cells #[.slice nax nnx ncx, .slice rax rnx rcx, .int .i64 ux0, .int .i64 ux1, .int .i64 ux2, .int .i64 ux3, .int .i64 sox, .int .i64 lox] 37))) := ⟨hbi.trans (hbw.mono hbi.size), XB, hbw⟩
      have c0 := (hbw.cell (lt_of_cell hqa5)).trans hqa5
      have c1 := (hbw.cell (lt_of_cell hqb)).trans hqb
      have c2 := (hbw.cell (lt_of_cell d2)).trans d2
      have c3 := (hbw.cell (lt_of_cell d3)).trans d3
      have c4 := (hbw.cell (lt_of_cell d4)).trans d4
      have c5 := (hbw.cell (lt_of_cell d5)).trans d5
      clear hcb hpa hpb hbi hli hx hy hnn hrn orx XB hbw hqb hqa5 hgAl d2 d3 d4 d5
      go_wp2_with fail
      clear p0 p1 p2 p3 p4 p5 p6 p7 qa0
      rw [← hzx]
      clear hzx
      obtain ⟨W2, hW2⟩ : ∃ W, W = (wr.alloc (.cells #[.slice nax nnx ncx, .slice rax rnx rcx, .int .i64 ux0, .int .i64 ux1, .int .i64 ux2, .int .i64 ux3, .int .i64 sox, .int .i64 lox] 37)) := ⟨_, rfl⟩
      rw [← hW2] at HB2 c0 c1 c2 c3 c4 c5 ⊢
      clear hW2
      have k0 := fun s : Kept W2.heap.size W2 => s.at c0
      have k1 := fun s : Kept W2.heap.size W2 => s.at c1
      have k2 := fun s : Kept W2.heap.size W2 => s.at c2
      have k3 := fun s : Kept W2.heap.size W2 => s.at c3
      have k4 := fun s : Kept W2.heap.size W2 => s.at c4
      have k5 := fun s : Kept W2.heap.size W2 => s.at c5
      have j0 := fun s : Kept W2.heap.size W2 => s.at (HB2.out.2.1.cell 0 rfl)
      have j1 := fun s : Kept W2.heap.size W2 => s.at (HB2.out.2.1.cell 1 rfl)
      have j2 := fun s : Kept W2.heap.size W2 => s.at (HB2.out.2.1.cell 2 rfl)
      have j3 := fun s : Kept W2.heap.size W2 => s.at (HB2.out.2.1.cell 3 rfl)
      have j4 := fun s : Kept W2.heap.size W2 => s.at (HB2.out.2.1.cell 4 rfl)
      have j5 := fun s : Kept W2.heap.size W2 => s.at (HB2.out.2.1.cell 5 rfl)
      have j6 := fun s : Kept W2.heap.size W2 => s.at (HB2.out.2.1.cell 6 rfl)
      have j7 := fun s : Kept W2.heap.size W2 => s.at (HB2.out.2.1.cell 7 rfl)
      clear c0 c1 c2 c3 c4 c5
      have hq := neqRc ⟨ux0, ux1, ux2, ux3⟩ ⟨ux0, ux1, ux2, ux3⟩
      rw [show rcEq ⟨ux0, ux1, ux2, ux3⟩ ⟨ux0, ux1, ux2, ux3⟩ = true from rcEq_iff.2 rfl] at hq
      have hqf : (!true) = false := rfl
      rw [hqf] at hq
      obtain ⟨eb, heb⟩ : ∃ e, e = Rc.emp ⟨ux0, ux1, ux2, ux3⟩ := ⟨_, rfl⟩
      have HEMP : Hid (∀ s : Kept W2.heap.size W2, Calls Tryd.prog 10 #[.agg #[.int .i64 ux0, .int .i64 ux1, .int .i64 ux2, .int .i64 ux3]] s.w (PPost s.w (.bool eb))) := fun s => by
        rw [heb]
        exact rempty_c ⟨ux0, ux1, ux2, ux3⟩ s.w
      rw [← heb] at hemp
      have hd1 : decide (sox < -1) = false := decide_eq_false (by omega)
      have hd2 : decide (sox ≥ (snA : Int)) = false := decide_eq_false (by omega)
      have HSO : Hid (-1 ≤ sox ∧ sox < (snA : Int)) := ⟨hs1, hs2⟩
      clear heb hqf hs1 hs2
      go_wp2_with fail
      refine wp_region_kept W2.heap.size (by kernel_rfl) (by kernel_rfl) ?_
      repeat (go_big_quiet_step (first | (go_at_call 10; with_reducible exact Calls.kept _ (Nat.le_refl _) (HEMP.out _))))
      refine wpQuiet_nil ?_
      rintro _ ⟨s, rfl⟩
      obtain ⟨W3, hW3⟩ : ∃ W, W = s.w := ⟨_, rfl⟩
      have HB3 : Hid (Below w7.heap.size w7 W3 ∧ Box W3 zx [.slice nax nnx ncx, .slice rax rnx rcx, .int .i64 ux0, .int .i64 ux1, .int .i64 ux2, .int .i64 ux3, .int .i64 sox, .int .i64 lox]) := by
        rw [hW3]
        exact ⟨HB2.out.1.trans (s.below.mono HB2.out.1.size), HB2.out.2.1.call s.below⟩
      have HX3 : Hid (OwnP W3 nA (.slice rax rnx rcx) rs ∧ ∀ z ∈ rs, In64 z) := by
        rw [hW3]
        have hrn := HX.out.2.2.2
        exact ⟨by rw [hrn]; exact (HX.out.2.2.1.below HB2.out.2.2).below s.below, HX.out.1.2.2.1⟩
      rw [← hW3]
      clear k0 k1 k2 k3 k4 k5 j0 j1 j2 j3 j4 j5 j6 j7 HEMP hW3 hd1 hd2 hq HB2
      clear s
      clear W2
      go_wp2_with fail
      go_loopw [11, 12] (fun kv _ W => ∃ k : Nat, k ≤ i ∧ kv = .int .i64 k ∧ Below W3.heap.size W3 W) (fun kv _ _ => i - (intOf kv).toNat)
      case atStart => exact ⟨0, Nat.zero_le _, rfl, Below.refl _ _⟩
      case round =>
        obtain ⟨k, hk3, rfl, hbk⟩ := hrel
        rename World => wk
        have HBK : Hid (Below W3.heap.size W3 wk) := hbk
        by_cases hkl : k < i
        · obtain ⟨hcb, hpb, hpa⟩ := HFX.out wk (HB3.out.1.trans (hbk.mono HB3.out.1.size))
          obtain ⟨z, hz⟩ : ∃ z, z = (psl plA).getD k Ps.none := ⟨_, rfl⟩
          obtain ⟨g', cap', naz, ncz, raz, rcz, hvA, _, _, _, _, pcz, onz, _⟩ := hpa.2.2.at (by rw [← HNA.out]; omega) hz
          simp only [Value.slice.injEq, Option.some.injEq, Addr.mk.injEq, and_true] at hvA
          obtain ⟨rfl, hq1, hq2⟩ := hvA
          clear hq1 hq2
          rw [HKA.out.2.2] at hz
          have hokz : POk z := by rw [hz]; exact (HLAW.out k (by omega)).2.2.2.2.1
          obtain ⟨nnz, hnn⟩ : ∃ n, n = z.nodes.length := ⟨_, rfl⟩
          obtain ⟨rnz, hrn⟩ : ∃ n, n = z.reads.length := ⟨_, rfl⟩
          rw [← hnn, ← hrn] at pcz
          have hpair := HPAIR.out k hkl
          rw [← hz] at hpair
          have HRES : Hid (∀ W, Below wk.heap.size wk W → Calls Tryd.prog 12 #[pvl naz nnz ncz raz rnz rcz z] W (PPost W (.int .i64 (resP z : Nat)))) := fun W hW =>
            rresult_c naz nnz ncz raz rnz rcz z W hnn (by rw [hnn]; exact hokz.1) (own_sl_int ((hnn ▸ onz).below hW) hokz.2.1)
          have HIN : Hid (∀ W, Below W3.heap.size W3 W → Calls Tryd.prog 11 #[.slice rax rnx rcx, .int .i64 (resP z : Nat)] W (PPost W (.bool (rs.contains (resP z : Int))))) := fun W hW =>
            (in_c _ rs (resP z : Int) W (own_sl_x (HX3.out.1.below hW) HX3.out.2)).mono fun e w' ⟨h1, h2⟩ => ⟨h1, by rw [h2]; exact Below.refl _ _⟩
          obtain ⟨res, hres⟩ : ∃ r, r = resP z := ⟨_, rfl⟩
          rw [← hres] at HRES HIN hpair
          obtain ⟨nsz, rsz, ⟨uz0, uz1, uz2, uz3⟩, soz, loz⟩ := z
          obtain ⟨p0, p1, p2, p3, p4, p5, p6, p7⟩ := pcz
          dsimp only at p2 p3 p4 p5 p6 p7 hpair
          have HPR : Hid (0 ≤ sox → soz = sox → (i : Int) ≤ loz → loz = i ∧ (⟨uz0, uz1, uz2, uz3⟩ : Rc) = ⟨ux0, ux1, ux2, ux3⟩ ∧ rs.contains (res : Int) = true) := hpair
          have hbz := below_new wk (.cells #[.slice naz nnz ncz, .slice raz rnz rcz, .int .i64 uz0, .int .i64 uz1, .int .i64 uz2, .int .i64 uz3, .int .i64 soz, .int .i64 loz] 37)
          have XZ := Box.new wk [.slice naz nnz ncz, .slice raz rnz rcz, .int .i64 uz0, .int .i64 uz1, .int .i64 uz2, .int .i64 uz3, .int .i64 soz, .int .i64 loz] 37
          have hxb := (HB3.out.2.call hbk).alloc (.cells #[.slice naz nnz ncz, .slice raz rnz rcz, .int .i64 uz0, .int .i64 uz1, .int .i64 uz2, .int .i64 uz3, .int .i64 soz, .int .i64 loz] 37)
          have x6 := hxb.cell 6 rfl
          have z6 := XZ.cell 6 rfl
          have z7 := XZ.cell 7 rfl
          have qa0 := hpa.1.box.cell 0 rfl
          have hk0 : (0 : Int) ≤ (k : Int) := by omega
          have hk1 : (k : Int) < (pnB : Int) := by omega
          have HZ : Hid (Below W3.heap.size W3 (wk.alloc (.cells #[.slice naz nnz ncz, .slice raz rnz rcz, .int .i64 uz0, .int .i64 uz1, .int .i64 uz2, .int .i64 uz3, .int .i64 soz, .int .i64 loz] 37)) ∧ Box (wk.alloc (.cells #[.slice naz nnz ncz, .slice raz rnz rcz, .int .i64 uz0, .int .i64 uz1, .int .i64 uz2, .int .i64 uz3, .int .i64 soz, .int .i64 loz] 37)) wk.heap.size [.slice naz nnz ncz, .slice raz rnz rcz, .int .i64 uz0, .int .i64 uz1, .int .i64 uz2, .int .i64 uz3, .int .i64 soz, .int .i64 loz] ∧ Box (wk.alloc (.cells #[.slice naz nnz ncz, .slice raz rnz rcz, .int .i64 uz0, .int .i64 uz1, .int .i64 uz2, .int .i64 uz3, .int .i64 soz, .int .i64 loz] 37)) zx [.slice nax nnx ncx, .slice rax rnx rcx, .int .i64 ux0, .int .i64 ux1, .int .i64 ux2, .int .i64 ux3, .int .i64 sox, .int .i64 lox] ∧ Below wk.heap.size wk (wk.alloc (.cells #[.slice naz nnz ncz, .slice raz rnz rcz, .int .i64 uz0, .int .i64 uz1, .int .i64 uz2, .int .i64 uz3, .int .i64 soz, .int .i64 loz] 37))) := ⟨hbk.trans (hbz.mono hbk.size), XZ, hxb, hbz⟩
          clear hcb hpb hpa hbk hokz hnn hrn hpair hres hz onz hbz XZ hxb
          by_cases h1 : sox < 0
          · have e1 : decide (sox < 0) = true := decide_eq_true h1
            have e1' : eb = true := by rw [← hemp, e1]
            subst e1'
            go_wp2_with fail
            go_roundw
            case rel => exact ⟨k + 1, by omega, by go_num, HZ.out.1⟩
            case measure => simp [intOf]; omega
          have e1 : eb = false := by rw [← hemp]; exact decide_eq_false h1
          subst e1
          by_cases h2 : soz = sox
          · subst h2
            by_cases h3 : loz < (i : Int)
            · have e3 : decide (loz < (i : Int)) = true := decide_eq_true h3
              go_wp2_with fail
              go_roundw
              case rel => exact ⟨k + 1, by omega, by go_num, HZ.out.1⟩
              case measure => simp [intOf]; omega
            · have e3 : decide (loz < (i : Int)) = false := decide_eq_false h3
              obtain ⟨r1, r2, r3⟩ := HPR.out (by omega) rfl (by omega)
              simp only [Rc.mk.injEq] at r2
              obtain ⟨rfl, rfl, rfl, rfl⟩ := r2
              subst r1
              have hq := neqRc ⟨uz0, uz1, uz2, uz3⟩ ⟨uz0, uz1, uz2, uz3⟩
              rw [show rcEq ⟨uz0, uz1, uz2, uz3⟩ ⟨uz0, uz1, uz2, uz3⟩ = true from rcEq_iff.2 rfl] at hq
              rw [show (!true) = false from rfl] at hq
              rw [r3] at HIN
              go_wp2_with fail
              clear p0 p1 p2 p3 p4 p5 p6 p7 x6 z6 z7 qa0 e3 h3 h1
              obtain ⟨W4, hW4⟩ : ∃ W, W = (wk.alloc (.cells #[.slice naz nnz ncz, .slice raz rnz rcz, .int .i64 uz0, .int .i64 uz1, .int .i64 uz2, .int .i64 uz3, .int .i64 soz, .int .i64 i] 37)) := ⟨_, rfl⟩
              obtain ⟨zy, hzy⟩ : ∃ z, z = wk.heap.size := ⟨_, rfl⟩
              have hba : Below wk.heap.size wk W4 := by rw [hW4]; exact HZ.out.2.2.2
              have hbb : Below W3.heap.size W3 W4 := by rw [hW4]; exact HZ.out.1
              have HBA : Hid (Below wk.heap.size wk W4 ∧ Below W3.heap.size W3 W4) := ⟨hba, hbb⟩
              clear hba hbb
              rw [← hW4, ← hzy] at HZ
              rw [← hW4, ← hzy]
              clear hW4 hzy
              have HR1 : Hid (∀ s : Kept W4.heap.size W4, Calls Tryd.prog 12 #[.agg #[.slice naz nnz ncz, .slice raz rnz rcz, .int .i64 uz0, .int .i64 uz1, .int .i64 uz2, .int .i64 uz3, .int .i64 soz, .int .i64 i]] s.w (PPost s.w (.int .i64 (res : Nat)))) := fun s => HRES.out s.w (HBA.out.1.trans (s.below.mono HBA.out.1.size))
              have HI1 : Hid (∀ s : Kept W4.heap.size W4, Calls Tryd.prog 11 #[.slice rax rnx rcx, .int .i64 (res : Nat)] s.w (PPost s.w (.bool true))) := fun s => HIN.out s.w (HBA.out.2.trans (s.below.mono HBA.out.2.size))
              have j0 := fun s : Kept W4.heap.size W4 => s.at (HZ.out.2.1.cell 0 rfl)
              have j1 := fun s : Kept W4.heap.size W4 => s.at (HZ.out.2.1.cell 1 rfl)
              have j2 := fun s : Kept W4.heap.size W4 => s.at (HZ.out.2.1.cell 2 rfl)
              have j3 := fun s : Kept W4.heap.size W4 => s.at (HZ.out.2.1.cell 3 rfl)
              have j4 := fun s : Kept W4.heap.size W4 => s.at (HZ.out.2.1.cell 4 rfl)
              have j5 := fun s : Kept W4.heap.size W4 => s.at (HZ.out.2.1.cell 5 rfl)
              have j6 := fun s : Kept W4.heap.size W4 => s.at (HZ.out.2.1.cell 6 rfl)
              have j7 := fun s : Kept W4.heap.size W4 => s.at (HZ.out.2.1.cell 7 rfl)
              have l0 := fun s : Kept W4.heap.size W4 => s.at (HZ.out.2.2.1.cell 0 rfl)
              have l1 := fun s : Kept W4.heap.size W4 => s.at (HZ.out.2.2.1.cell 1 rfl)
              have l2 := fun s : Kept W4.heap.size W4 => s.at (HZ.out.2.2.1.cell 2 rfl)
              have l3 := fun s : Kept W4.heap.size W4 => s.at (HZ.out.2.2.1.cell 3 rfl)
              have l4 := fun s : Kept W4.heap.size W4 => s.at (HZ.out.2.2.1.cell 4 rfl)
              have l5 := fun s : Kept W4.heap.size W4 => s.at (HZ.out.2.2.1.cell 5 rfl)
              have l6 := fun s : Kept W4.heap.size W4 => s.at (HZ.out.2.2.1.cell 6 rfl)
              have l7 := fun s : Kept W4.heap.size W4 => s.at (HZ.out.2.2.1.cell 7 rfl)
              refine wp_region_kept W4.heap.size (by kernel_rfl) (by kernel_rfl) ?_
              repeat (go_big_quiet_step (first | (go_at_call 12; with_reducible exact Calls.kept _ (Nat.le_refl _) (HR1.out _)) | (go_at_call 11; with_reducible exact Calls.kept _ (Nat.le_refl _) (HI1.out _))))
              refine wpQuiet_nil ?_
              rintro _ ⟨s, rfl⟩
              have HE : Hid (Below W3.heap.size W3 s.w) := HZ.out.1.trans (s.below.mono HZ.out.1.size)
              clear j0 j1 j2 j3 j4 j5 j6 j7 l0 l1 l2 l3 l4 l5 l6 l7 HR1 HI1 hq
              go_wp2_with fail
              go_roundw
              case rel => exact ⟨k + 1, by omega, by go_num, HE.out⟩
              case measure => simp [intOf]; omega
          · have e2 : (soz == sox) = false := beq_eq_false_iff_ne.2 h2
            go_wp2_with fail
            go_roundw
            case rel => exact ⟨k + 1, by omega, by go_num, HZ.out.1⟩
            case measure => simp [intOf]; omega
        · have ek : k = i := by omega
          have HE : Hid (Below w7.heap.size w7 wk) := HB3.out.1.trans (hbk.mono HB3.out.1.size)
          clear hbk HBK
          go_wp2_with fail
          go_roundw
          case rel => exact ⟨i + 1, by omega, by go_num, HE.out⟩
          case measure => simp [intOf]; omega
    · have ei : i = pnB := by omega
      have HE : Hid (Below w.heap.size w wr) := hcb.2.2.2
      clear hcb hpa hpb hbi HFX
      go_wp2_with fail
      go_ret
      exact ⟨rfl, HE.out⟩
end Go.Proofs.YthaniopkpmhalaaDoor
/-! ### the law -/
namespace Go.Proofs.YthaniopkpmhalaaDoor
open Go.RowKit Go.Bx Go.Od Go.Hp Go.ChangeShapes Go.WideShapes Go.ChangeAt
set_option linter.unusedVariables false
section
variable {H : Type} {enc : TypeId × Value → H} {W : World} {base : Nat}
theorem planPeak.planPeak_law (W : World) (ht : Tabs W) {v0 v1 v2 : Value} {d0 d1 d2 : DataW H} {p0 p1 p2 : List MemPlace}
    (h0 : DataW.Trod enc Tryd.prog W 0 (fun _ => true) true 24 v0 d0 p0) (h1 : DataW.Trod enc Tryd.prog W 0 (fun _ => true) true 26 v1 d1 p1) (h2 : DataW.Trod enc Tryd.prog W 0 (fun _ => true) true 28 v2 d2 p2)
    (k0 : Value.okWide Tryd.prog W .any base 24 v0) (k1 : Value.okWide Tryd.prog W .any base 26 v1) (k2 : Value.okWide Tryd.prog W .any base 28 v2) :
    Calls Tryd.prog 3 #[v0, v1, v2] W (TPost W) := by
  obtain ⟨nv, out, nds, rfl, hg, hout⟩ := graph_arg h0 k0
  obtain ⟨r, rfl⟩ := rect_arg h1 k1
  obtain ⟨c, rfl⟩ := conf_arg h2 k2
  exact planPeak_walk nv nds out r c W ht hg
end
end Go.Proofs.YthaniopkpmhalaaDoor
