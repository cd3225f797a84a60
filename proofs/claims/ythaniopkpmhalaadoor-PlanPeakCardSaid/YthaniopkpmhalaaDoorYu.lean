/- Texts joined: XYu. -/
import Derived.Test.YthaniopkpmhalaaDoorYt
set_option maxRecDepth 4000
/- The walk of 'PlanFuse'. (Printed.) -/
namespace Go.Proofs.YthaniopkpmhalaaDoor
open Go.RowKit Go.Bx Go.Od Go.Hp
attribute [local go_sem ↓] Go.wp_at_zero Go.wp_at_succ
set_option linter.unusedVariables false

theorem plS_alk {nds : List Nd} {out : Int} {c : Cf} {want : Rc} : Alk (pss nds out c want) (plS nds out c want).ps := (asg_two nds (c := c) (d := { c with al := false }) rfl _).sa
theorem plS_len {nds : List Nd} {out : Int} {c : Cf} {want : Rc} : (plS nds out c want).ps.length = (grp nds out c.fuse).length := by rw [plS_alk.1, pss_len]
theorem fuse_law {nds : List Nd} {out : Int} {want : Rc} {c d : Cf} (h : PlOk nds out want) (hc : c.al = false) (hd : d.al = false) (hr : c.roi = d.roi) (fc : c.fuse = false) (fd : d.fuse = true) : (plS nds out d want).ps.length ≤ (plS nds out c want).ps.length ∧ (d.roi = true → (plS nds out d want).pk ≤ (plS nds out c want).pk) := by
  refine ⟨?_, fun hdr => asg_fuse h.sg.toGood hc hd (hr.trans hdr) hdr fc fd⟩
  rw [plS_len, plS_len, fc, fd]
  exact h.sg.toGood.fewer
set_option maxRecDepth 10000 in
set_option maxHeartbeats 12800000 in
theorem planFuse_walk (nv : Value) (nds : List Nd) (out : Int) (want : Rc) (c : Cf) (w : World) (ht : Tabs w) (hg : Gr w.heap.size w nv nds) :
    Calls Tryd.prog 5 #[.agg #[nv, .int .i64 out], rv want, cfv c] w (TPost w) := by
  have HG : Hid (Gr w.heap.size w nv nds ∧ Tabs w) := ⟨hg, ht⟩
  obtain ⟨ga, gc, rfl⟩ := hg.isSl
  have hgl := hg.len_le
  obtain ⟨x0, y0, x1, y1⟩ := want
  obtain ⟨fu, al, ro, da, rm⟩ := c
  clear hg ht
  have H1 : Hid (CB w (((w.alloc (.cells #[.slice ga nds.length gc, .int .i64 out] 24)).alloc (.cells (cs4 x0 y0 x1 y1) 26)).alloc (.cells #[.bool fu, .bool al, .bool ro, .bool da, .int .i64 rm] 28)) (.slice ga nds.length gc) (.int .i64 out) ⟨x0, y0, x1, y1⟩ ⟨fu, al, ro, da, rm⟩) := CB.new w _ _ ⟨x0, y0, x1, y1⟩ ⟨fu, al, ro, da, rm⟩ _ _
  go_enter Tryd.func5, Tryd.ntmps5
  go_wp2_with fail
  generalize (((w.alloc (.cells #[.slice ga nds.length gc, .int .i64 out] 24)).alloc (.cells (cs4 x0 y0 x1 y1) 26)).alloc (.cells #[.bool fu, .bool al, .bool ro, .bool da, .int .i64 rm] 28)) = W1 at *
  refine (awake19_c W1).mono ?_; rintro e w2 ⟨rfl, hb2⟩
  have H2 : Hid (CB w w2 (.slice ga nds.length gc) (.int .i64 out) ⟨x0, y0, x1, y1⟩ ⟨fu, al, ro, da, rm⟩) := H1.out.call hb2
  clear hb2 H1
  have g0 := H2.out.1.cell 0 rfl
  have g1 := H2.out.1.cell 1 rfl
  obtain ⟨r0, r1, r2, r3⟩ := box4 H2.out.2.1
  go_wp2_with fail
  refine (right19_c w.heap.size _ nds out ⟨x0, y0, x1, y1⟩ w2 (HG.out.2.below H2.out.2.2.2) (HG.out.1.below H2.out.2.2.2 (Nat.le_refl _)) H2.out.2.2.2.size).mono ?_; rintro e w3 ⟨rfl, hb3⟩
  have H3 : Hid (CB w w3 (.slice ga nds.length gc) (.int .i64 out) ⟨x0, y0, x1, y1⟩ ⟨fu, al, ro, da, rm⟩) := H2.out.call hb3
  clear g0 g1 r0 r1 r2 r3 hb3 H2
  obtain ⟨r, hr⟩ : ∃ r, r = rightP nds out ⟨x0, y0, x1, y1⟩ := ⟨_, rfl⟩
  rw [← hr]
  cases r with
  | false =>
    clear hr
    go_wp2_with fail
    refine (awake19_c w3).mono ?_; rintro e w4 ⟨rfl, hb4⟩
    have HE : Hid (Below w.heap.size w w4) := H3.out.2.2.2.trans (hb4.mono H3.out.2.2.2.size)
    clear H3 hb4
    go_wp2_with fail
    go_ret
    exact ⟨rfl, HE.out⟩
  | true =>
  have HP : Hid (PlOk nds out ⟨x0, y0, x1, y1⟩) := plOk_of hr.symm
  clear hr
  have hcA0 := H3.out.conf
  have sA0 := hcA0.2.1
  have tA0 := hcA0.2.2.2.2.2 1
  have H7s0 : Hid (CB w (w3.setCell ⟨w.heap.size + 1 + 1, 1, none⟩ (.bool false)) (.slice ga nds.length gc) (.int .i64 out) ⟨x0, y0, x1, y1⟩ ⟨fu, false, ro, da, rm⟩) := H3.out.put 1 _ ⟨fu, false, ro, da, rm⟩ rfl
  clear hcA0
  have hcA1 := H7s0.out.conf
  have sA1 := hcA1.1
  have tA1 := hcA1.2.2.2.2.2 0
  have H7s1 : Hid (CB w ((w3.setCell ⟨w.heap.size + 1 + 1, 1, none⟩ (.bool false)).setCell ⟨w.heap.size + 1 + 1, 0, none⟩ (.bool false)) (.slice ga nds.length gc) (.int .i64 out) ⟨x0, y0, x1, y1⟩ ⟨false, false, ro, da, rm⟩) := H7s0.out.put 0 _ ⟨false, false, ro, da, rm⟩ rfl
  clear hcA1
  have g0 := H7s1.out.1.cell 0 rfl
  have g1 := H7s1.out.1.cell 1 rfl
  obtain ⟨r0, r1, r2, r3⟩ := box4 H7s1.out.2.1
  obtain ⟨m0, m1, m2, m3, m4, mf⟩ := H7s1.out.conf
  go_wp2_with fail
  clear g0 g1 r0 r1 r2 r3 m0 m1 m2 m3 m4 mf sA0 tA0 sA1 tA1
  obtain ⟨w5A, hw5⟩ : ∃ W, W = ((w3.setCell ⟨w.heap.size + 1 + 1, 1, none⟩ (.bool false)).setCell ⟨w.heap.size + 1 + 1, 0, none⟩ (.bool false)) := ⟨_, rfl⟩
  rw [← hw5] at H7s1 ⊢
  clear hw5
  clear H3 H7s0
  have hmk := make_c w.heap.size _ nds out ⟨x0, y0, x1, y1⟩ ⟨false, false, ro, da, rm⟩ w5A HP.out (HG.out.1.below H7s1.out.2.2.2 (Nat.le_refl _)) H7s1.out.2.2.2.size
  obtain ⟨stA, hstA⟩ : ∃ s, s = plS nds out ⟨false, false, ro, da, rm⟩ ⟨x0, y0, x1, y1⟩ := ⟨_, rfl⟩
  obtain ⟨srA, hsrA⟩ : ∃ s, s = srcO nds out ⟨false, false, ro, da, rm⟩ ⟨x0, y0, x1, y1⟩ := ⟨_, rfl⟩
  have HSA : Hid (stA = plS nds out ⟨false, false, ro, da, rm⟩ ⟨x0, y0, x1, y1⟩ ∧ srA = srcO nds out ⟨false, false, ro, da, rm⟩ ⟨x0, y0, x1, y1⟩) := ⟨hstA, hsrA⟩
  rw [← hstA, ← hsrA] at hmk
  clear hstA hsrA
  refine hmk.mono ?_; rintro e w6 ⟨plA, pvA, rfl, hpl, hpr, hb6⟩
  clear hmk
  obtain ⟨paA, pcA, hpv⟩ := hpr.form
  obtain ⟨pnA, hpn⟩ : ∃ n, n = plA.length := ⟨_, rfl⟩
  have HNA : Hid (pnA = plA.length) := hpn
  rw [← hpn] at hpv
  subst hpv
  obtain ⟨snA, hsn⟩ : ∃ n, n = stA.sl.length := ⟨_, rfl⟩
  obtain ⟨pkA, hpk⟩ : ∃ n, n = stA.pk := ⟨_, rfl⟩
  have HKA : Hid (snA = stA.sl.length ∧ pkA = stA.pk ∧ psl plA = stA.ps) := ⟨hsn, hpk, hpl⟩
  obtain ⟨aA0, aA1, aA2, aA3⟩ := srA
  obtain ⟨nA, hn⟩ : ∃ n, n = w5A.heap.size := ⟨_, rfl⟩
  obtain ⟨qA, hq⟩ : ∃ n, n = w6.heap.size := ⟨_, rfl⟩
  have HBnA : Hid (w.heap.size + 1 + 1 < nA ∧ qA ≠ w.heap.size + 1 + 1) := by
    have h1 := H7s1.out.2.2.1.lt
    have h2 := hb6.size
    have : w.heap.size + 1 + 1 < nA ∧ qA ≠ w.heap.size + 1 + 1 := by omega
    exact this
  have H7 : Hid (CB w (w6.alloc (.cells #[.slice paA pnA pcA, .int .i64 aA0, .int .i64 aA1, .int .i64 aA2, .int .i64 aA3, .int .i64 snA, .int .i64 pkA] 33)) (.slice ga nds.length gc) (.int .i64 out) ⟨x0, y0, x1, y1⟩ ⟨false, false, ro, da, rm⟩ ∧ PV nA qA stA.ps ⟨aA0, aA1, aA2, aA3⟩ snA pkA plA (.slice paA pnA pcA) (w6.alloc (.cells #[.slice paA pnA pcA, .int .i64 aA0, .int .i64 aA1, .int .i64 aA2, .int .i64 aA3, .int .i64 snA, .int .i64 pkA] 33))) := by
    have hbn := below_new w6 (.cells #[.slice paA pnA pcA, .int .i64 aA0, .int .i64 aA1, .int .i64 aA2, .int .i64 aA3, .int .i64 snA, .int .i64 pkA] 33)
    have hpv' : PV nA qA stA.ps ⟨aA0, aA1, aA2, aA3⟩ snA pkA plA (.slice paA pnA pcA) (w6.alloc (.cells #[.slice paA pnA pcA, .int .i64 aA0, .int .i64 aA1, .int .i64 aA2, .int .i64 aA3, .int .i64 snA, .int .i64 pkA] 33)) := by
      rw [hn, hq]
      exact PV.new (src := ⟨aA0, aA1, aA2, aA3⟩) hpl hpr
    exact ⟨(H7s1.out.call hb6).call hbn, hpv'⟩
  rw [← hsn, ← hpk]
  dsimp only
  clear hb6 hpl hpr hpn hsn hpk hn
  clear H7s1
  have hcB0 := H7.out.1.conf
  have sB0 := hcB0.1
  have tB0 := hcB0.2.2.2.2.2 0
  have H9s0 : Hid (CB w ((w6.alloc (.cells #[.slice paA pnA pcA, .int .i64 aA0, .int .i64 aA1, .int .i64 aA2, .int .i64 aA3, .int .i64 snA, .int .i64 pkA] 33)).setCell ⟨w.heap.size + 1 + 1, 0, none⟩ (.bool true)) (.slice ga nds.length gc) (.int .i64 out) ⟨x0, y0, x1, y1⟩ ⟨true, false, ro, da, rm⟩ ∧ PV nA qA stA.ps ⟨aA0, aA1, aA2, aA3⟩ snA pkA plA (.slice paA pnA pcA) ((w6.alloc (.cells #[.slice paA pnA pcA, .int .i64 aA0, .int .i64 aA1, .int .i64 aA2, .int .i64 aA3, .int .i64 snA, .int .i64 pkA] 33)).setCell ⟨w.heap.size + 1 + 1, 0, none⟩ (.bool true))) := ⟨H7.out.1.put 0 _ ⟨true, false, ro, da, rm⟩ rfl, H7.out.2.setq (p := ⟨w.heap.size + 1 + 1, 0, none⟩) HBnA.out.1 HBnA.out.2 _⟩
  clear hcB0
  have g0 := H9s0.out.1.1.cell 0 rfl
  have g1 := H9s0.out.1.1.cell 1 rfl
  obtain ⟨r0, r1, r2, r3⟩ := box4 H9s0.out.1.2.1
  obtain ⟨m0, m1, m2, m3, m4, mf⟩ := H9s0.out.1.conf
  go_wp2_with fail
  clear g0 g1 r0 r1 r2 r3 m0 m1 m2 m3 m4 mf sB0 tB0
  rw [← hq]
  clear hq
  obtain ⟨w5B, hw5⟩ : ∃ W, W = ((w6.alloc (.cells #[.slice paA pnA pcA, .int .i64 aA0, .int .i64 aA1, .int .i64 aA2, .int .i64 aA3, .int .i64 snA, .int .i64 pkA] 33)).setCell ⟨w.heap.size + 1 + 1, 0, none⟩ (.bool true)) := ⟨_, rfl⟩
  rw [← hw5] at H9s0 ⊢
  clear hw5
  clear H7
  clear w6
  have hmk := make_c w.heap.size _ nds out ⟨x0, y0, x1, y1⟩ ⟨true, false, ro, da, rm⟩ w5B HP.out (HG.out.1.below H9s0.out.1.2.2.2 (Nat.le_refl _)) H9s0.out.1.2.2.2.size
  obtain ⟨stB, hstB⟩ : ∃ s, s = plS nds out ⟨true, false, ro, da, rm⟩ ⟨x0, y0, x1, y1⟩ := ⟨_, rfl⟩
  obtain ⟨srB, hsrB⟩ : ∃ s, s = srcO nds out ⟨true, false, ro, da, rm⟩ ⟨x0, y0, x1, y1⟩ := ⟨_, rfl⟩
  have HSB : Hid (stB = plS nds out ⟨true, false, ro, da, rm⟩ ⟨x0, y0, x1, y1⟩ ∧ srB = srcO nds out ⟨true, false, ro, da, rm⟩ ⟨x0, y0, x1, y1⟩) := ⟨hstB, hsrB⟩
  rw [← hstB, ← hsrB] at hmk
  clear hstB hsrB
  refine hmk.mono ?_; rintro e w6 ⟨plB, pvB, rfl, hpl, hpr, hb6⟩
  clear hmk
  obtain ⟨paB, pcB, hpv⟩ := hpr.form
  obtain ⟨pnB, hpn⟩ : ∃ n, n = plB.length := ⟨_, rfl⟩
  have HNB : Hid (pnB = plB.length) := hpn
  rw [← hpn] at hpv
  subst hpv
  obtain ⟨snB, hsn⟩ : ∃ n, n = stB.sl.length := ⟨_, rfl⟩
  obtain ⟨pkB, hpk⟩ : ∃ n, n = stB.pk := ⟨_, rfl⟩
  have HKB : Hid (snB = stB.sl.length ∧ pkB = stB.pk ∧ psl plB = stB.ps) := ⟨hsn, hpk, hpl⟩
  obtain ⟨aB0, aB1, aB2, aB3⟩ := srB
  obtain ⟨nB, hn⟩ : ∃ n, n = w5B.heap.size := ⟨_, rfl⟩
  obtain ⟨qB, hq⟩ : ∃ n, n = w6.heap.size := ⟨_, rfl⟩
  have HBnB : Hid (w.heap.size + 1 + 1 < nB ∧ qB ≠ w.heap.size + 1 + 1) := by
    have h1 := H9s0.out.1.2.2.1.lt
    have h2 := hb6.size
    have : w.heap.size + 1 + 1 < nB ∧ qB ≠ w.heap.size + 1 + 1 := by omega
    exact this
  have H9 : Hid (CB w (w6.alloc (.cells #[.slice paB pnB pcB, .int .i64 aB0, .int .i64 aB1, .int .i64 aB2, .int .i64 aB3, .int .i64 snB, .int .i64 pkB] 33)) (.slice ga nds.length gc) (.int .i64 out) ⟨x0, y0, x1, y1⟩ ⟨true, false, ro, da, rm⟩ ∧ PV nA qA stA.ps ⟨aA0, aA1, aA2, aA3⟩ snA pkA plA (.slice paA pnA pcA) (w6.alloc (.cells #[.slice paB pnB pcB, .int .i64 aB0, .int .i64 aB1, .int .i64 aB2, .int .i64 aB3, .int .i64 snB, .int .i64 pkB] 33)) ∧ PV nB qB stB.ps ⟨aB0, aB1, aB2, aB3⟩ snB pkB plB (.slice paB pnB pcB) (w6.alloc (.cells #[.slice paB pnB pcB, .int .i64 aB0, .int .i64 aB1, .int .i64 aB2, .int .i64 aB3, .int .i64 snB, .int .i64 pkB] 33))) := by
    have hbn := below_new w6 (.cells #[.slice paB pnB pcB, .int .i64 aB0, .int .i64 aB1, .int .i64 aB2, .int .i64 aB3, .int .i64 snB, .int .i64 pkB] 33)
    have hpv' : PV nB qB stB.ps ⟨aB0, aB1, aB2, aB3⟩ snB pkB plB (.slice paB pnB pcB) (w6.alloc (.cells #[.slice paB pnB pcB, .int .i64 aB0, .int .i64 aB1, .int .i64 aB2, .int .i64 aB3, .int .i64 snB, .int .i64 pkB] 33)) := by
      rw [hn, hq]
      exact PV.new (src := ⟨aB0, aB1, aB2, aB3⟩) hpl hpr
    exact ⟨(H9s0.out.1.call hb6).call hbn, (H9s0.out.2.call hb6).call hbn, hpv'⟩
  rw [← hsn, ← hpk]
  dsimp only
  clear hb6 hpl hpr hpn hsn hpk hn
  clear H9s0
  have hlaw := fuse_law (c := ⟨false, false, ro, da, rm⟩) (d := ⟨true, false, ro, da, rm⟩) HP.out rfl rfl rfl rfl rfl
  rw [← HSA.out.1, ← HSB.out.1] at hlaw
  have hlen : pnB ≤ pnA := by
    have h1 := congrArg List.length HKA.out.2.2
    have h2 := congrArg List.length HKB.out.2.2
    rw [psl_len, ← HNA.out] at h1
    rw [psl_len, ← HNB.out] at h2
    have := hlaw.1
    omega
  have hpkl : ro = true → pkB ≤ pkA := fun h => by
    have := hlaw.2 h
    rw [HKA.out.2.1, HKB.out.2.1]
    exact this
  have hd0 : decide ((pnB : Int) ≤ (pnA : Int)) = true := decide_eq_true (by omega)
  have a0 := H9.out.2.1.1.box.cell 0 rfl
  have a6 := H9.out.2.1.1.box.cell 6 rfl
  have b0 := H9.out.2.2.1.box.cell 0 rfl
  rw [hq] at b0
  have b6 := H9.out.2.2.1.box.cell 6 rfl
  rw [hq] at b6
  have m2 := H9.out.1.conf.2.2.1
  have HE : Hid (Below w.heap.size w (w6.alloc (.cells #[.slice paB pnB pcB, .int .i64 aB0, .int .i64 aB1, .int .i64 aB2, .int .i64 aB3, .int .i64 snB, .int .i64 pkB] 33))) := H9.out.1.2.2.2
  clear H9 hlaw hq
  by_cases hpk : pkB ≤ pkA
  · have hd1 : decide (pkB ≤ pkA) = true := decide_eq_true hpk
    clear hpkl
    go_wp2_with fail
    go_ret
    exact ⟨rfl, HE.out⟩
  · have hd1 : decide (pkB ≤ pkA) = false := decide_eq_false hpk
    cases ro with
    | true => exact absurd (hpkl rfl) hpk
    | false =>
      clear hpkl hpk
      go_wp2_with fail
      go_ret
      exact ⟨rfl, HE.out⟩
end Go.Proofs.YthaniopkpmhalaaDoor
/-! ### the law -/
namespace Go.Proofs.YthaniopkpmhalaaDoor
open Go.RowKit Go.Bx Go.Od Go.Hp Go.ChangeShapes Go.WideShapes Go.ChangeAt
set_option linter.unusedVariables false
section
variable {H : Type} {enc : TypeId × Value → H} {W : World} {base : Nat}
theorem planFuse.planFuse_law (W : World) (ht : Tabs W) {v0 v1 v2 : Value} {d0 d1 d2 : DataW H} {p0 p1 p2 : List MemPlace}
    (h0 : DataW.Trod enc Tryd.prog W 0 (fun _ => true) true 24 v0 d0 p0) (h1 : DataW.Trod enc Tryd.prog W 0 (fun _ => true) true 26 v1 d1 p1) (h2 : DataW.Trod enc Tryd.prog W 0 (fun _ => true) true 28 v2 d2 p2)
    (k0 : Value.okWide Tryd.prog W .any base 24 v0) (k1 : Value.okWide Tryd.prog W .any base 26 v1) (k2 : Value.okWide Tryd.prog W .any base 28 v2) :
    Calls Tryd.prog 5 #[v0, v1, v2] W (TPost W) := by
  obtain ⟨nv, out, nds, rfl, hg, hout⟩ := graph_arg h0 k0
  obtain ⟨r, rfl⟩ := rect_arg h1 k1
  obtain ⟨c, rfl⟩ := conf_arg h2 k2
  exact planFuse_walk nv nds out r c W ht hg
end
end Go.Proofs.YthaniopkpmhalaaDoor
