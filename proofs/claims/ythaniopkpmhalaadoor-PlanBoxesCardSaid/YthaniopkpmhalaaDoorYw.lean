/- Texts joined: XYw. -/
import Derived.Test.YthaniopkpmhalaaDoorYt
import Derived.Test.YthaniopkpmhalaaDoorYv
import Derived.Test.YthaniopkpmhalaaDoorYu
set_option maxRecDepth 4000
/- The walk of 'PlanBoxes'. (Printed.) -/
namespace Go.Proofs.YthaniopkpmhalaaDoor
open Go.RowKit Go.Bx Go.Od Go.Hp
attribute [local go_sem ↓] Go.wp_at_zero Go.wp_at_succ
set_option linter.unusedVariables false

theorem boxes_law {nds : List Nd} {out : Int} {want : Rc} {c d : Cf} (h : PlOk nds out want) (hf : c.fuse = d.fuse) (hc : c.roi = true) (hd : d.roi = false) :
    (plS nds out d want).ps.length = (plS nds out c want).ps.length ∧ WiS (srcO nds out c want) (srcO nds out d want) ∧ RcP (srcO nds out c want) ∧ (plS nds out c want).ps.length ≤ 100 ∧ ∀ i, i < (plS nds out c want).ps.length → RcP ((plS nds out c want).ps.getD i Ps.none).box ∧ WiS ((plS nds out c want).ps.getD i Ps.none).box ((plS nds out d want).ps.getD i Ps.none).box ∧ POk ((plS nds out c want).ps.getD i Ps.none) ∧
      (((resP ((plS nds out c want).ps.getD i Ps.none) : Nat) : Int) = out → WiS want ((plS nds out c want).ps.getD i Ps.none).box ∧ ((plS nds out c want).ps.getD i Ps.none).last = (plS nds out c want).ps.length) := by
  refine ⟨by rw [plS_len, plS_len, hf], src_within hc hd, srcO_pl h.gn h.rc, by rw [plS_len]; exact grp_le h.sg.toGood, fun i hi => ?_⟩
  have ha := plS_alk (nds := nds) (out := out) (c := c) (want := want)
  have hb := plS_alk (nds := nds) (out := out) (c := d) (want := want)
  have hi2 : i < (grp nds out c.fuse).length := by rw [← plS_len (want := want)]; exact hi
  obtain ⟨_, h2, h3, h4⟩ := pss_all (want := want) hi2
  rw [ha.box, hb.box, ha.last, ha.resP]
  refine ⟨pss_pl h.gn h.rc hi2, pss_within hf hc hd hi2, POk.alk ha (pss_ok h) _ (getD_mem _ hi), fun e => ?_⟩
  unfold resP at e
  rw [h3] at e
  refine ⟨pss_out h.sg.toGood hi2 hc e, ?_⟩
  rw [h2, plS_len]
  exact uN_out (by rw [gL_last hi2]; exact e)
set_option maxRecDepth 10000 in
set_option maxHeartbeats 12800000 in
theorem planBoxes_walk (nv : Value) (nds : List Nd) (out : Int) (want : Rc) (c : Cf) (w : World) (ht : Tabs w) (hg : Gr w.heap.size w nv nds) :
    Calls Tryd.prog 4 #[.agg #[nv, .int .i64 out], rv want, cfv c] w (TPost w) := by
  have HG : Hid (Gr w.heap.size w nv nds ∧ Tabs w) := ⟨hg, ht⟩
  obtain ⟨ga, gc, rfl⟩ := hg.isSl
  have hgl := hg.len_le
  obtain ⟨x0, y0, x1, y1⟩ := want
  obtain ⟨fu, al, ro, da, rm⟩ := c
  clear hg ht
  have H1 : Hid (CB w (((w.alloc (.cells #[.slice ga nds.length gc, .int .i64 out] 24)).alloc (.cells (cs4 x0 y0 x1 y1) 26)).alloc (.cells #[.bool fu, .bool al, .bool ro, .bool da, .int .i64 rm] 28)) (.slice ga nds.length gc) (.int .i64 out) ⟨x0, y0, x1, y1⟩ ⟨fu, al, ro, da, rm⟩) := CB.new w _ _ ⟨x0, y0, x1, y1⟩ ⟨fu, al, ro, da, rm⟩ _ _
  go_enter Tryd.func4, Tryd.ntmps4
  go_wp2_with fail
  generalize (((w.alloc (.cells #[.slice ga nds.length gc, .int .i64 out] 24)).alloc (.cells (cs4 x0 y0 x1 y1) 26)).alloc (.cells #[.bool fu, .bool al, .bool ro, .bool da, .int .i64 rm] 28)) = W1 at *
  refine (awake19_c W1).mono ?_; rintro e w2 ⟨rfl, hb2⟩
  have H2 : Hid (CB w w2 (.slice ga nds.length gc) (.int .i64 out) ⟨x0, y0, x1, y1⟩ ⟨fu, al, ro, da, rm⟩) := H1.out.call hb2
  clear hb2 H1
  have g0 := H2.out.1.cell 0 rfl
  have g1 := H2.out.1.cell 1 rfl
  obtain ⟨r0, r1, r2, r3⟩ := box4 H2.out.2.1
  go_wp2_with fail
  refine (right19_c w.heap.size _ nds out ⟨x0, y0, x1, y1⟩ w2 (HG.out.2.below H2.out.2.2.2) (HG.out.1.below H2.out.2.2.2 (Nat.le_refl _)) H2.out.2.2.2.size).mono ?_; rintro e w3 ⟨rfl, hb3⟩
  have H3 : Hid (CB w w3 (.slice ga nds.length gc) (.int .i64 out) ⟨x0, y0, x1, y1⟩ ⟨fu, al, ro, da, rm⟩) := H2.out.call hb3
  clear g0 g1 r0 r1 r2 r3 hb3 H2
  obtain ⟨r, hr⟩ : ∃ r, r = rightP nds out ⟨x0, y0, x1, y1⟩ := ⟨_, rfl⟩
  rw [← hr]
  cases r with
  | false =>
    clear hr
    go_wp2_with fail
    refine (awake19_c w3).mono ?_; rintro e w4 ⟨rfl, hb4⟩
    have HE : Hid (Below w.heap.size w w4) := H3.out.2.2.2.trans (hb4.mono H3.out.2.2.2.size)
    clear H3 hb4
    go_wp2_with fail
    go_ret
    exact ⟨rfl, HE.out⟩
  | true =>
  have HP : Hid (PlOk nds out ⟨x0, y0, x1, y1⟩) := plOk_of hr.symm
  clear hr
  have hcA0 := H3.out.conf
  have sA0 := hcA0.2.2.1
  have tA0 := hcA0.2.2.2.2.2 2
  have H7s0 : Hid (CB w (w3.setCell ⟨w.heap.size + 1 + 1, 2, none⟩ (.bool true)) (.slice ga nds.length gc) (.int .i64 out) ⟨x0, y0, x1, y1⟩ ⟨fu, al, true, da, rm⟩) := H3.out.put 2 _ ⟨fu, al, true, da, rm⟩ rfl
  clear hcA0
  have g0 := H7s0.out.1.cell 0 rfl
  have g1 := H7s0.out.1.cell 1 rfl
  obtain ⟨r0, r1, r2, r3⟩ := box4 H7s0.out.2.1
  obtain ⟨m0, m1, m2, m3, m4, mf⟩ := H7s0.out.conf
  go_wp2_with fail
  clear g0 g1 r0 r1 r2 r3 m0 m1 m2 m3 m4 mf sA0 tA0
  obtain ⟨w5A, hw5⟩ : ∃ W, W = (w3.setCell ⟨w.heap.size + 1 + 1, 2, none⟩ (.bool true)) := ⟨_, rfl⟩
  rw [← hw5] at H7s0 ⊢
  clear hw5
  clear H3
  have hmk := make_c w.heap.size _ nds out ⟨x0, y0, x1, y1⟩ ⟨fu, al, true, da, rm⟩ w5A HP.out (HG.out.1.below H7s0.out.2.2.2 (Nat.le_refl _)) H7s0.out.2.2.2.size
  obtain ⟨stA, hstA⟩ : ∃ s, s = plS nds out ⟨fu, al, true, da, rm⟩ ⟨x0, y0, x1, y1⟩ := ⟨_, rfl⟩
  obtain ⟨srA, hsrA⟩ : ∃ s, s = srcO nds out ⟨fu, al, true, da, rm⟩ ⟨x0, y0, x1, y1⟩ := ⟨_, rfl⟩
  have HSA : Hid (stA = plS nds out ⟨fu, al, true, da, rm⟩ ⟨x0, y0, x1, y1⟩ ∧ srA = srcO nds out ⟨fu, al, true, da, rm⟩ ⟨x0, y0, x1, y1⟩) := ⟨hstA, hsrA⟩
  rw [← hstA, ← hsrA] at hmk
  clear hstA hsrA
  refine hmk.mono ?_; rintro e w6 ⟨plA, pvA, rfl, hpl, hpr, hb6⟩
  clear hmk
  obtain ⟨paA, pcA, hpv⟩ := hpr.form
  obtain ⟨pnA, hpn⟩ : ∃ n, n = plA.length := ⟨_, rfl⟩
  have HNA : Hid (pnA = plA.length) := hpn
  rw [← hpn] at hpv
  subst hpv
  obtain ⟨snA, hsn⟩ : ∃ n, n = stA.sl.length := ⟨_, rfl⟩
  obtain ⟨pkA, hpk⟩ : ∃ n, n = stA.pk := ⟨_, rfl⟩
  have HKA : Hid (snA = stA.sl.length ∧ pkA = stA.pk ∧ psl plA = stA.ps) := ⟨hsn, hpk, hpl⟩
  obtain ⟨aA0, aA1, aA2, aA3⟩ := srA
  obtain ⟨nA, hn⟩ : ∃ n, n = w5A.heap.size := ⟨_, rfl⟩
  obtain ⟨qA, hq⟩ : ∃ n, n = w6.heap.size := ⟨_, rfl⟩
  have HBnA : Hid (w.heap.size + 1 + 1 < nA ∧ qA ≠ w.heap.size + 1 + 1) := by
    have h1 := H7s0.out.2.2.1.lt
    have h2 := hb6.size
    have : w.heap.size + 1 + 1 < nA ∧ qA ≠ w.heap.size + 1 + 1 := by omega
    exact this
  have H7 : Hid (CB w (w6.alloc (.cells #[.slice paA pnA pcA, .int .i64 aA0, .int .i64 aA1, .int .i64 aA2, .int .i64 aA3, .int .i64 snA, .int .i64 pkA] 33)) (.slice ga nds.length gc) (.int .i64 out) ⟨x0, y0, x1, y1⟩ ⟨fu, al, true, da, rm⟩ ∧ PV nA qA stA.ps ⟨aA0, aA1, aA2, aA3⟩ snA pkA plA (.slice paA pnA pcA) (w6.alloc (.cells #[.slice paA pnA pcA, .int .i64 aA0, .int .i64 aA1, .int .i64 aA2, .int .i64 aA3, .int .i64 snA, .int .i64 pkA] 33))) := by
    have hbn := below_new w6 (.cells #[.slice paA pnA pcA, .int .i64 aA0, .int .i64 aA1, .int .i64 aA2, .int .i64 aA3, .int .i64 snA, .int .i64 pkA] 33)
    have hpv' : PV nA qA stA.ps ⟨aA0, aA1, aA2, aA3⟩ snA pkA plA (.slice paA pnA pcA) (w6.alloc (.cells #[.slice paA pnA pcA, .int .i64 aA0, .int .i64 aA1, .int .i64 aA2, .int .i64 aA3, .int .i64 snA, .int .i64 pkA] 33)) := by
      rw [hn, hq]
      exact PV.new (src := ⟨aA0, aA1, aA2, aA3⟩) hpl hpr
    exact ⟨(H7s0.out.call hb6).call hbn, hpv'⟩
  rw [← hsn, ← hpk]
  dsimp only
  clear hb6 hpl hpr hpn hsn hpk hn
  clear H7s0
  have hcB0 := H7.out.1.conf
  have sB0 := hcB0.2.2.1
  have tB0 := hcB0.2.2.2.2.2 2
  have H9s0 : Hid (CB w ((w6.alloc (.cells #[.slice paA pnA pcA, .int .i64 aA0, .int .i64 aA1, .int .i64 aA2, .int .i64 aA3, .int .i64 snA, .int .i64 pkA] 33)).setCell ⟨w.heap.size + 1 + 1, 2, none⟩ (.bool false)) (.slice ga nds.length gc) (.int .i64 out) ⟨x0, y0, x1, y1⟩ ⟨fu, al, false, da, rm⟩ ∧ PV nA qA stA.ps ⟨aA0, aA1, aA2, aA3⟩ snA pkA plA (.slice paA pnA pcA) ((w6.alloc (.cells #[.slice paA pnA pcA, .int .i64 aA0, .int .i64 aA1, .int .i64 aA2, .int .i64 aA3, .int .i64 snA, .int .i64 pkA] 33)).setCell ⟨w.heap.size + 1 + 1, 2, none⟩ (.bool false))) := ⟨H7.out.1.put 2 _ ⟨fu, al, false, da, rm⟩ rfl, H7.out.2.setq (p := ⟨w.heap.size + 1 + 1, 2, none⟩) HBnA.out.1 HBnA.out.2 _⟩
  clear hcB0
  have g0 := H9s0.out.1.1.cell 0 rfl
  have g1 := H9s0.out.1.1.cell 1 rfl
  obtain ⟨r0, r1, r2, r3⟩ := box4 H9s0.out.1.2.1
  obtain ⟨m0, m1, m2, m3, m4, mf⟩ := H9s0.out.1.conf
  go_wp2_with fail
  clear g0 g1 r0 r1 r2 r3 m0 m1 m2 m3 m4 mf sB0 tB0
  rw [← hq]
  clear hq
  obtain ⟨w5B, hw5⟩ : ∃ W, W = ((w6.alloc (.cells #[.slice paA pnA pcA, .int .i64 aA0, .int .i64 aA1, .int .i64 aA2, .int .i64 aA3, .int .i64 snA, .int .i64 pkA] 33)).setCell ⟨w.heap.size + 1 + 1, 2, none⟩ (.bool false)) := ⟨_, rfl⟩
  rw [← hw5] at H9s0 ⊢
  clear hw5
  clear H7
  clear w6
  have hmk := make_c w.heap.size _ nds out ⟨x0, y0, x1, y1⟩ ⟨fu, al, false, da, rm⟩ w5B HP.out (HG.out.1.below H9s0.out.1.2.2.2 (Nat.le_refl _)) H9s0.out.1.2.2.2.size
  obtain ⟨stB, hstB⟩ : ∃ s, s = plS nds out ⟨fu, al, false, da, rm⟩ ⟨x0, y0, x1, y1⟩ := ⟨_, rfl⟩
  obtain ⟨srB, hsrB⟩ : ∃ s, s = srcO nds out ⟨fu, al, false, da, rm⟩ ⟨x0, y0, x1, y1⟩ := ⟨_, rfl⟩
  have HSB : Hid (stB = plS nds out ⟨fu, al, false, da, rm⟩ ⟨x0, y0, x1, y1⟩ ∧ srB = srcO nds out ⟨fu, al, false, da, rm⟩ ⟨x0, y0, x1, y1⟩) := ⟨hstB, hsrB⟩
  rw [← hstB, ← hsrB] at hmk
  clear hstB hsrB
  refine hmk.mono ?_; rintro e w6 ⟨plB, pvB, rfl, hpl, hpr, hb6⟩
  clear hmk
  obtain ⟨paB, pcB, hpv⟩ := hpr.form
  obtain ⟨pnB, hpn⟩ : ∃ n, n = plB.length := ⟨_, rfl⟩
  have HNB : Hid (pnB = plB.length) := hpn
  rw [← hpn] at hpv
  subst hpv
  obtain ⟨snB, hsn⟩ : ∃ n, n = stB.sl.length := ⟨_, rfl⟩
  obtain ⟨pkB, hpk⟩ : ∃ n, n = stB.pk := ⟨_, rfl⟩
  have HKB : Hid (snB = stB.sl.length ∧ pkB = stB.pk ∧ psl plB = stB.ps) := ⟨hsn, hpk, hpl⟩
  obtain ⟨aB0, aB1, aB2, aB3⟩ := srB
  obtain ⟨nB, hn⟩ : ∃ n, n = w5B.heap.size := ⟨_, rfl⟩
  obtain ⟨qB, hq⟩ : ∃ n, n = w6.heap.size := ⟨_, rfl⟩
  have HBnB : Hid (w.heap.size + 1 + 1 < nB ∧ qB ≠ w.heap.size + 1 + 1) := by
    have h1 := H9s0.out.1.2.2.1.lt
    have h2 := hb6.size
    have : w.heap.size + 1 + 1 < nB ∧ qB ≠ w.heap.size + 1 + 1 := by omega
    exact this
  have H9 : Hid (CB w (w6.alloc (.cells #[.slice paB pnB pcB, .int .i64 aB0, .int .i64 aB1, .int .i64 aB2, .int .i64 aB3, .int .i64 snB, .int .i64 pkB] 33)) (.slice ga nds.length gc) (.int .i64 out) ⟨x0, y0, x1, y1⟩ ⟨fu, al, false, da, rm⟩ ∧ PV nA qA stA.ps ⟨aA0, aA1, aA2, aA3⟩ snA pkA plA (.slice paA pnA pcA) (w6.alloc (.cells #[.slice paB pnB pcB, .int .i64 aB0, .int .i64 aB1, .int .i64 aB2, .int .i64 aB3, .int .i64 snB, .int .i64 pkB] 33)) ∧ PV nB qB stB.ps ⟨aB0, aB1, aB2, aB3⟩ snB pkB plB (.slice paB pnB pcB) (w6.alloc (.cells #[.slice paB pnB pcB, .int .i64 aB0, .int .i64 aB1, .int .i64 aB2, .int .i64 aB3, .int .i64 snB, .int .i64 pkB] 33))) := by
    have hbn := below_new w6 (.cells #[.slice paB pnB pcB, .int .i64 aB0, .int .i64 aB1, .int .i64 aB2, .int .i64 aB3, .int .i64 snB, .int .i64 pkB] 33)
    have hpv' : PV nB qB stB.ps ⟨aB0, aB1, aB2, aB3⟩ snB pkB plB (.slice paB pnB pcB) (w6.alloc (.cells #[.slice paB pnB pcB, .int .i64 aB0, .int .i64 aB1, .int .i64 aB2, .int .i64 aB3, .int .i64 snB, .int .i64 pkB] 33)) := by
      rw [hn, hq]
      exact PV.new (src := ⟨aB0, aB1, aB2, aB3⟩) hpl hpr
    exact ⟨(H9s0.out.1.call hb6).call hbn, (H9s0.out.2.call hb6).call hbn, hpv'⟩
  rw [← hsn, ← hpk]
  dsimp only
  clear hb6 hpl hpr hpn hsn hpk hn
  clear H9s0
  have hlaw := boxes_law (c := ⟨fu, al, true, da, rm⟩) (d := ⟨fu, al, false, da, rm⟩) HP.out rfl rfl rfl
  rw [← HSA.out.1, ← HSB.out.1, ← HSA.out.2, ← HSB.out.2] at hlaw
  have h1 := congrArg List.length HKA.out.2.2
  have h2 := congrArg List.length HKB.out.2.2
  rw [psl_len, ← HNA.out] at h1
  rw [psl_len, ← HNB.out] at h2
  rw [← h1] at hlaw
  obtain ⟨l1, l2, l3, l4, l5⟩ := hlaw
  obtain rfl : pnB = pnA := by rw [h2, l1]
  have HLAW : Hid (WiS ⟨aA0, aA1, aA2, aA3⟩ ⟨aB0, aB1, aB2, aB3⟩ ∧ RcP ⟨aA0, aA1, aA2, aA3⟩ ∧ ∀ i, i < pnB → RcP (stA.ps.getD i Ps.none).box ∧ WiS (stA.ps.getD i Ps.none).box (stB.ps.getD i Ps.none).box ∧ POk (stA.ps.getD i Ps.none) ∧ (((resP (stA.ps.getD i Ps.none) : Nat) : Int) = out → WiS ⟨x0, y0, x1, y1⟩ (stA.ps.getD i Ps.none).box ∧ (stA.ps.getD i Ps.none).last = pnB)) := ⟨l2, l3, l5⟩
  clear l1 l2 l3 l5 h1 h2
  have a0 := H9.out.2.1.1.box.cell 0 rfl
  have a1 := H9.out.2.1.1.box.cell 1 rfl
  have a2 := H9.out.2.1.1.box.cell 2 rfl
  have a3 := H9.out.2.1.1.box.cell 3 rfl
  have a4 := H9.out.2.1.1.box.cell 4 rfl
  have b0 := H9.out.2.2.1.box.cell 0 rfl
  rw [hq] at b0
  have b1 := H9.out.2.2.1.box.cell 1 rfl
  rw [hq] at b1
  have b2 := H9.out.2.2.1.box.cell 2 rfl
  rw [hq] at b2
  have b3 := H9.out.2.2.1.box.cell 3 rfl
  rw [hq] at b3
  have b4 := H9.out.2.2.1.box.cell 4 rfl
  rw [hq] at b4
  go_wp2_with fail
  clear a0 a1 a2 a3 a4 b0 b1 b2 b3 b4
  rw [← hq]
  clear hq
  generalize (w6.alloc (.cells #[.slice paB pnB pcB, .int .i64 aB0, .int .i64 aB1, .int .i64 aB2, .int .i64 aB3, .int .i64 snB, .int .i64 pkB] 33)) = w7 at *
  clear w6
  have hwi := rwithin_c ⟨aA0, aA1, aA2, aA3⟩ ⟨aB0, aB1, aB2, aB3⟩ w7 HLAW.out.2.1
  rw [refWi_of HLAW.out.1] at hwi
  refine hwi.mono ?_; rintro e w8 ⟨rfl, hb8⟩
  have HFX : Hid (∀ W, Below w8.heap.size w8 W → CB w W (.slice ga nds.length gc) (.int .i64 out) ⟨x0, y0, x1, y1⟩ ⟨fu, al, false, da, rm⟩ ∧ PV nA qA stA.ps ⟨aA0, aA1, aA2, aA3⟩ snA pkA plA (.slice paA pnB pcA) W ∧ PV nB qB stB.ps ⟨aB0, aB1, aB2, aB3⟩ snB pkB plB (.slice paB pnB pcB) W) := fun W hW => ⟨(H9.out.1.call hb8).call hW, (H9.out.2.1.call hb8).call hW, (H9.out.2.2.call hb8).call hW⟩
  clear hwi hb8 H9
  have hq0 := (HFX.out w8 (Below.refl _ _)).2.1.1.box.cell 0 rfl
  go_wp2_with fail
  clear hq0
  go_loopw [9] (fun iv W => ∃ i : Nat, i ≤ pnB ∧ iv = .int .i64 i ∧ Below w8.heap.size w8 W) (fun iv _ => pnB - (intOf iv).toNat)
  case atStart => exact ⟨0, Nat.zero_le _, rfl, Below.refl _ _⟩
  case round =>
    obtain ⟨i, hi3, rfl, hbi⟩ := hrel
    obtain ⟨hcb, hpa, hpb⟩ := HFX.out wr hbi
    have HBI : Hid (Below w8.heap.size w8 wr) := hbi
    have hqa := hpa.1.box.cell 0 rfl
    by_cases hil : i < pnB
    · obtain ⟨x, hx⟩ : ∃ x, x = (psl plA).getD i Ps.none := ⟨_, rfl⟩
      obtain ⟨y, hy⟩ : ∃ y, y = (psl plB).getD i Ps.none := ⟨_, rfl⟩
      obtain ⟨gA, capA, naA, ncA, raA, rcA, hvA, _, _, hmA, _, pcA', oA, _⟩ := hpa.2.2.at (by rw [← HNA.out]; exact hil) hx
      obtain ⟨gB, capB, naB, ncB, raB, rcB, hvB, _, _, _, _, pcB', _, _⟩ := hpb.2.2.at (by rw [← HNB.out]; exact hil) hy
      simp only [Value.slice.injEq] at hvA hvB
      obtain ⟨rfl, hq1, hq2⟩ := hvA
      obtain ⟨rfl, hq3, hq4⟩ := hvB
      clear hq1 hq2 hq3 hq4
      rw [HKA.out.2.2] at hx
      rw [HKB.out.2.2] at hy
      have hli := HLAW.out.2.2 i hil
      rw [← hx, ← hy] at hli
      obtain ⟨nn, hnn⟩ : ∃ n, n = x.nodes.length := ⟨_, rfl⟩
      obtain ⟨rn, hrn⟩ : ∃ n, n = x.reads.length := ⟨_, rfl⟩
      rw [← hnn, ← hrn] at pcA'
      have HRES : Hid (∀ W, Below wr.heap.size wr W → Calls Tryd.prog 12 #[pvl naA nn ncA raA rn rcA x] W (PPost W (.int .i64 (resP x : Nat)))) := fun W hW =>
        rresult_c naA nn ncA raA rn rcA x W hnn (by rw [hnn]; exact hli.2.2.1.1) (own_sl_int ((hnn ▸ oA).below hW) hli.2.2.1.2.1)
      have HWI : Hid (∀ W, Calls Tryd.prog 13 #[rv x.box, rv y.box] W (PPost W (.bool true))) := fun W => by
        have h := rwithin_c x.box y.box W hli.1
        rw [refWi_of hli.2.1] at h
        exact h
      obtain ⟨bs, bt, hbs⟩ : ∃ s t, PC wr gB (i * 8) s t y := ⟨_, _, pcB'⟩
      have HC : Hid (∀ W, Below wr.heap.size wr W → W.cell? ⟨qA, 0, none⟩ = some (.slice (some ⟨gA, 0, none⟩) pnB pcA) ∧ W.cell? ⟨qB, 0, none⟩ = some (.slice (some ⟨gB, 0, none⟩) pnB pcB) ∧ PC W gA (i * 8) (.slice naA nn ncA) (.slice raA rn rcA) x ∧ PC W gB (i * 8) bs bt y ∧ W.cell? ⟨w.heap.size, 1, none⟩ = some (.int .i64 out) ∧ Box W (w.heap.size + 1) (cl4 ⟨x0, y0, x1, y1⟩)) := fun W hW => ⟨(hpa.1.box.call hW).cell 0 rfl, (hpb.1.box.call hW).cell 0 rfl, pcA'.call hW, hbs.call hW, (hcb.1.call hW).cell 1 rfl, hcb.2.1.call hW⟩
      have HOUT : Hid (((resP x : Nat) : Int) = out → WiS ⟨x0, y0, x1, y1⟩ x.box ∧ x.last = pnB) := hli.2.2.2
      have HWP : Hid (∀ W, ((resP x : Nat) : Int) = out → Calls Tryd.prog 13 #[rv ⟨x0, y0, x1, y1⟩, rv x.box] W (PPost W (.bool true))) := fun W e => by
        have h := rwithin_c ⟨x0, y0, x1, y1⟩ x.box W HP.out.rc
        rw [refWi_of (hli.2.2.2 e).1] at h
        exact h
      obtain ⟨res, hres⟩ : ∃ r, r = resP x := ⟨_, rfl⟩
      rw [← hres] at HRES HOUT HWP
      obtain ⟨ns, rs, ⟨u0, v0, u1, v1⟩, so, lo⟩ := x
      obtain ⟨ns', rs', ⟨u0', v0', u1', v1'⟩, so', lo'⟩ := y
      obtain ⟨c0, c1, ⟨_, _, c2, c3, c4, c5, _, _⟩, ⟨_, _, d2, d3, d4, d5, _, _⟩, _, _⟩ := HC.out wr (Below.refl _ _)
      dsimp only at c2 c3 c4 c5 d2 d3 d4 d5
      unfold maxLen at hmA
      have hi0 : (0 : Int) ≤ (i : Int) := by omega
      have hi1 : (i : Int) < (pnB : Int) := by omega
      have k0 := fun s : Kept wr.heap.size wr => s.at c0
      have k1 := fun s : Kept wr.heap.size wr => s.at c1
      have k2 := fun s : Kept wr.heap.size wr => s.at c2
      have k3 := fun s : Kept wr.heap.size wr => s.at c3
      have k4 := fun s : Kept wr.heap.size wr => s.at c4
      have k5 := fun s : Kept wr.heap.size wr => s.at c5
      have k6 := fun s : Kept wr.heap.size wr => s.at d2
      have k7 := fun s : Kept wr.heap.size wr => s.at d3
      have k8 := fun s : Kept wr.heap.size wr => s.at d4
      have k9 := fun s : Kept wr.heap.size wr => s.at d5
      have HW1 : Hid (∀ s : Kept wr.heap.size wr, Calls Tryd.prog 13 #[.agg #[.int .i64 u0, .int .i64 v0, .int .i64 u1, .int .i64 v1], .agg #[.int .i64 u0', .int .i64 v0', .int .i64 u1', .int .i64 v1']] s.w (PPost s.w (.bool true))) := fun s => HWI.out s.w
      clear hcb hpa hpb hbi hqa hli hx hy hnn hrn pcA' pcB' hbs oA hres c2 c3 c4 c5 d2 d3 d4 d5 c1 hmA
      go_wp2_with fail
      clear c0
      refine wp_region_kept wr.heap.size (by kernel_rfl) (by kernel_rfl) ?_
      repeat (go_big_quiet_step (first | (go_at_call 13; with_reducible exact Calls.kept _ (Nat.le_refl _) (HW1.out _))))
      refine wpQuiet_nil ?_
      rintro _ ⟨s, rfl⟩
      obtain ⟨W2, hW2⟩ : ∃ W, W = s.w := ⟨_, rfl⟩
      have HB2 : Hid (Below wr.heap.size wr W2) := by rw [hW2]; exact s.below
      rw [← hW2]
      clear k0 k1 k2 k3 k4 k5 k6 k7 k8 k9 HW1 hW2
      obtain ⟨c0, c1, ⟨p0, p1, c2, c3, c4, c5, c6, c7⟩, _, co, cw⟩ := HC.out W2 HB2.out
      obtain ⟨w0', w1', w2', w3'⟩ := box4 cw
      dsimp only at c2 c3 c4 c5 c6 c7
      have k0 := fun s : Kept W2.heap.size W2 => s.at c0
      have k1 := fun s : Kept W2.heap.size W2 => s.at p0
      have k2 := fun s : Kept W2.heap.size W2 => s.at p1
      have k3 := fun s : Kept W2.heap.size W2 => s.at c2
      have k4 := fun s : Kept W2.heap.size W2 => s.at c3
      have k5 := fun s : Kept W2.heap.size W2 => s.at c4
      have k6 := fun s : Kept W2.heap.size W2 => s.at c5
      have k7 := fun s : Kept W2.heap.size W2 => s.at c6
      have k8 := fun s : Kept W2.heap.size W2 => s.at c7
      have k9 := fun s : Kept W2.heap.size W2 => s.at co
      have j0 := fun s : Kept W2.heap.size W2 => s.at w0'
      have j1 := fun s : Kept W2.heap.size W2 => s.at w1'
      have j2 := fun s : Kept W2.heap.size W2 => s.at w2'
      have j3 := fun s : Kept W2.heap.size W2 => s.at w3'
      have HR1 : Hid (∀ s : Kept W2.heap.size W2, Calls Tryd.prog 12 #[.agg #[.slice naA nn ncA, .slice raA rn rcA, .int .i64 u0, .int .i64 v0, .int .i64 u1, .int .i64 v1, .int .i64 so, .int .i64 lo]] s.w (PPost s.w (.int .i64 (res : Nat)))) := fun s => HRES.out s.w (HB2.out.trans (s.below.mono HB2.out.size))
      by_cases he : ((res : Nat) : Int) = out
      · have hd : (((res : Nat) : Int) == out) = true := by rw [he]; simp
        have hlo : lo = (pnB : Int) := (HOUT.out he).2
        subst hlo
        have HW1 : Hid (∀ s : Kept W2.heap.size W2, Calls Tryd.prog 13 #[.agg #[.int .i64 x0, .int .i64 y0, .int .i64 x1, .int .i64 y1], .agg #[.int .i64 u0, .int .i64 v0, .int .i64 u1, .int .i64 v1]] s.w (PPost s.w (.bool true))) := fun s => HWP.out s.w he
        clear he c0 c1 c2 c3 c4 c5 c6 c7 p0 p1 co cw w0' w1' w2' w3'
        go_wp2_with fail
        refine wp_region_kept W2.heap.size (by kernel_rfl) (by kernel_rfl) ?_
        repeat (go_big_quiet_step (first | (go_at_call 13; with_reducible exact Calls.kept _ (Nat.le_refl _) (HW1.out _)) | (go_at_call 12; with_reducible exact Calls.kept _ (Nat.le_refl _) (HR1.out _))))
        refine wpQuiet_nil ?_
        rintro _ ⟨s, rfl⟩
        have HE : Hid (Below w8.heap.size w8 s.w) := HBI.out.trans ((HB2.out.trans (s.below.mono HB2.out.size)).mono HBI.out.size)
        clear k0 k1 k2 k3 k4 k5 k6 k7 k8 k9 j0 j1 j2 j3 HR1 HW1
        go_wp2_with fail
        go_roundw
        case rel => exact ⟨i + 1, by omega, by go_num, HE.out⟩
        case measure => simp [intOf]; omega
      · have hd : (((res : Nat) : Int) == out) = false := beq_eq_false_iff_ne.2 he
        clear he c0 c1 c2 c3 c4 c5 c6 c7 p0 p1 co cw w0' w1' w2' w3'
        go_wp2_with fail
        refine wp_region_kept W2.heap.size (by kernel_rfl) (by kernel_rfl) ?_
        repeat (go_big_quiet_step (first | (go_at_call 12; with_reducible exact Calls.kept _ (Nat.le_refl _) (HR1.out _))))
        refine wpQuiet_nil ?_
        rintro _ ⟨s, rfl⟩
        have HE : Hid (Below w8.heap.size w8 s.w) := HBI.out.trans ((HB2.out.trans (s.below.mono HB2.out.size)).mono HBI.out.size)
        clear k0 k1 k2 k3 k4 k5 k6 k7 k8 k9 j0 j1 j2 j3 HR1
        go_wp2_with fail
        go_roundw
        case rel => exact ⟨i + 1, by omega, by go_num, HE.out⟩
        case measure => simp [intOf]; omega
    · have ei : i = pnB := by omega
      have HE : Hid (Below w.heap.size w wr) := hcb.2.2.2
      have hni : ¬ i < pnB := hil
      clear hcb hpa hpb hbi HFX
      subst ei
      go_wp2_with fail
      go_ret
      exact ⟨rfl, HE.out⟩
end Go.Proofs.YthaniopkpmhalaaDoor
/-! ### the law -/
namespace Go.Proofs.YthaniopkpmhalaaDoor
open Go.RowKit Go.Bx Go.Od Go.Hp Go.ChangeShapes Go.WideShapes Go.ChangeAt
set_option linter.unusedVariables false
section
variable {H : Type} {enc : TypeId × Value → H} {W : World} {base : Nat}
theorem planBoxes.planBoxes_law (W : World) (ht : Tabs W) {v0 v1 v2 : Value} {d0 d1 d2 : DataW H} {p0 p1 p2 : List MemPlace}
    (h0 : DataW.Trod enc Tryd.prog W 0 (fun _ => true) true 24 v0 d0 p0) (h1 : DataW.Trod enc Tryd.prog W 0 (fun _ => true) true 26 v1 d1 p1) (h2 : DataW.Trod enc Tryd.prog W 0 (fun _ => true) true 28 v2 d2 p2)
    (k0 : Value.okWide Tryd.prog W .any base 24 v0) (k1 : Value.okWide Tryd.prog W .any base 26 v1) (k2 : Value.okWide Tryd.prog W .any base 28 v2) :
    Calls Tryd.prog 4 #[v0, v1, v2] W (TPost W) := by
  obtain ⟨nv, out, nds, rfl, hg, hout⟩ := graph_arg h0 k0
  obtain ⟨r, rfl⟩ := rect_arg h1 k1
  obtain ⟨c, rfl⟩ := conf_arg h2 k2
  exact planBoxes_walk nv nds out r c W ht hg
end
end Go.Proofs.YthaniopkpmhalaaDoor
