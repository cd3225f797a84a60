/- Texts joined: XZu. -/
import Derived.Test.YtaoamkbcegadcaaGreatDoorZt
set_option maxRecDepth 4000
/- The walk of 'ProofKeeps'. (Printed.) -/
namespace Go.Proofs.YtaoamkbcegadcaaGreatDoor
open Go.RowKit Go.Bx Go.Od Go.Hp
attribute [local go_sem ↓] Go.wp_at_zero Go.wp_at_succ
set_option linter.unusedVariables false

/-- what the drawn region's call of Make yields -/
def KR (p : Pn) (i : Nat) (v : Value) (W : World) : Prop := ∃ pa pc N, v = pnv (.slice pa p.ps.length pc) p ∧ Gp N W (.slice pa p.ps.length pc) p.ps ∧ N ≤ W.heap.size
theorem KR.stab {p : Pn} (i : Nat) (v : Value) (W W' : World) (h : KR p i v W) (hb : Below W.heap.size W W') : KR p i v W' := by
  obtain ⟨pa, pc, N, h1, h2, h3⟩ := h
  exact ⟨pa, pc, N, h1, h2.below hb h3, Nat.le_trans h3 hb.size⟩
/-- what plan.Make tells may be gone over -/
theorem chN {nds : List Nd} {out : Int} {want : Rc} {c : Cf} (h : PlOk nds out want) (h12 : nds.length ≤ 12) {p : Pn} (hp : p = planN nds out c want) : ChOk nds p := by
  subst hp
  have h1 := plS_le h (c := c)
  have h2 := plS_sl h (c := c)
  exact ChOk.of h h12 (by omega) (plS_mk h) (by omega)
set_option maxRecDepth 10000 in
set_option maxHeartbeats 12800000 in
theorem proofKeeps_walk (nv : Value) (nds : List Nd) (out : Int) (want : Rc) (c : Cf) (w : World) (ht : Tabs w) (hg : Gr w.heap.size w nv nds) :
    Calls Tryz.prog 5 #[.agg #[nv, .int .i64 out], rv want, cfv c] w (TPost w) := by
  have HG : Hid (Gr w.heap.size w nv nds ∧ Tabs w) := ⟨hg, ht⟩
  obtain ⟨ga, gc, rfl⟩ := hg.isSl
  have hgl := hg.len_le
  obtain ⟨x0, y0, x1, y1⟩ := want
  obtain ⟨fu, al, ro, da, rm⟩ := c
  clear hg ht
  have H1 : Hid (CB w (((w.alloc (.cells #[.slice ga nds.length gc, .int .i64 out] 24)).alloc (.cells (cs4 x0 y0 x1 y1) 26)).alloc (.cells #[.bool fu, .bool al, .bool ro, .bool da, .int .i64 rm] 28)) (.slice ga nds.length gc) (.int .i64 out) ⟨x0, y0, x1, y1⟩ ⟨fu, al, ro, da, rm⟩) := CB.new w _ _ ⟨x0, y0, x1, y1⟩ ⟨fu, al, ro, da, rm⟩ _ _
  go_enter Tryz.func5, Tryz.ntmps5
  go_wp2_with fail
  generalize (((w.alloc (.cells #[.slice ga nds.length gc, .int .i64 out] 24)).alloc (.cells (cs4 x0 y0 x1 y1) 26)).alloc (.cells #[.bool fu, .bool al, .bool ro, .bool da, .int .i64 rm] 28)) = W1 at *
  refine (awake20_c W1).mono ?_; rintro e w2 ⟨rfl, hb2⟩
  have H2 : Hid (CB w w2 (.slice ga nds.length gc) (.int .i64 out) ⟨x0, y0, x1, y1⟩ ⟨fu, al, ro, da, rm⟩) := H1.out.call hb2
  clear hb2 H1
  have g0 := H2.out.1.cell 0 rfl
  have g1 := H2.out.1.cell 1 rfl
  obtain ⟨r0, r1, r2, r3⟩ := box4 H2.out.2.1
  go_wp2_with fail
  refine (right19_c w.heap.size _ nds out ⟨x0, y0, x1, y1⟩ w2 (HG.out.2.below H2.out.2.2.2) (HG.out.1.below H2.out.2.2.2 (Nat.le_refl _)) H2.out.2.2.2.size).mono ?_; rintro e w3 ⟨rfl, hb3⟩
  have H3 : Hid (CB w w3 (.slice ga nds.length gc) (.int .i64 out) ⟨x0, y0, x1, y1⟩ ⟨fu, al, ro, da, rm⟩) := H2.out.call hb3
  clear g0 g1 r0 r1 r2 r3 hb3 H2
  obtain ⟨r, hr⟩ : ∃ r, r = rightP nds out ⟨x0, y0, x1, y1⟩ := ⟨_, rfl⟩
  rw [← hr]
  cases r with
  | false =>
    clear hr
    go_wp2_with fail
    refine (awake20_c w3).mono ?_; rintro e w4 ⟨rfl, hb4⟩
    have HE : Hid (Below w.heap.size w w4) := H3.out.2.2.2.trans (hb4.mono H3.out.2.2.2.size)
    clear H3 hb4
    go_wp2_with fail
    go_ret
    exact ⟨rfl, HE.out⟩
  | true =>
  have HP : Hid (PlOk nds out ⟨x0, y0, x1, y1⟩ ∧ nds.length ≤ 12) := ⟨plOk_of hr.symm, few12_of hr.symm⟩
  clear hr
  have g0 := H3.out.1.cell 0 rfl
  have g1 := H3.out.1.cell 1 rfl
  obtain ⟨r0, r1, r2, r3⟩ := box4 H3.out.2.1
  obtain ⟨m0, m1, m2, m3, m4, mf⟩ := H3.out.conf
  have hmk := makeG_c w.heap.size _ nds out ⟨x0, y0, x1, y1⟩ ⟨fu, al, ro, da, rm⟩ w3 HP.out.1 (HG.out.1.below H3.out.2.2.2 (Nat.le_refl _)) H3.out.2.2.2.size
  obtain ⟨p, hp⟩ : ∃ p, p = planN nds out ⟨fu, al, ro, da, rm⟩ ⟨x0, y0, x1, y1⟩ := ⟨_, rfl⟩
  rw [← hp] at hmk
  obtain ⟨ps, ⟨s0, s1, s2, s3⟩, sn, pk⟩ := p
  have HPN : Hid ((⟨ps, ⟨s0, s1, s2, s3⟩, sn, pk⟩ : Pn) = planN nds out ⟨fu, al, ro, da, rm⟩ ⟨x0, y0, x1, y1⟩) := hp
  clear hp
  go_wp2_with fail
  with_reducible refine hmk.mono ?_
  rintro e w5 ⟨pa, pc, rfl, hgp, hpc1, hpc2, hb5⟩
  unfold maxLen at hpc2
  dsimp only at hgp hpc1
  obtain ⟨P, hP⟩ : ∃ P, P = ps.length := ⟨_, rfl⟩
  have HPL : Hid (P = ps.length) := hP
  unfold pnv
  dsimp only
  rw [← hP] at hgp hpc1 ⊢
  obtain ⟨n, hn⟩ : ∃ n, n = w5.heap.size := ⟨_, rfl⟩
  have HS5 : Hid (PS w (.slice ga nds.length gc) (.int .i64 out) ⟨x0, y0, x1, y1⟩ ⟨fu, al, ro, da, rm⟩ n n [.slice pa P pc, .int .i64 s0, .int .i64 s1, .int .i64 s2, .int .i64 s3, .int .i64 sn, .int .i64 pk] (.slice pa P pc) ps (w5.alloc (.cells #[.slice pa P pc, .int .i64 s0, .int .i64 s1, .int .i64 s2, .int .i64 s3, .int .i64 sn, .int .i64 pk] 33)) ∧ w.heap.size ≤ n) := by
    have hbn := below_new w5 (.cells #[.slice pa P pc, .int .i64 s0, .int .i64 s1, .int .i64 s2, .int .i64 s3, .int .i64 sn, .int .i64 pk] 33)
    have h5 := H3.out.call hb5
    rw [hn]
    exact ⟨⟨h5.call hbn, TB.new w5 _ _, hgp.below hbn (Nat.le_refl _), hbn.size⟩, h5.2.2.2.size⟩
  clear g0 g1 r0 r1 r2 r3 m0 m1 m2 m3 m4 mf hmk hgp hb5 H3 hP
  have g0 := HS5.out.1.1.1.cell 0 rfl
  have g1 := HS5.out.1.1.1.cell 1 rfl
  obtain ⟨r0, r1, r2, r3⟩ := box4 HS5.out.1.1.2.1
  obtain ⟨m0, m1, m2, m3, m4, mf⟩ := HS5.out.1.1.conf
  have hck := qcheck_c (B := n) (nds := nds) (out := out) (want := ⟨x0, y0, x1, y1⟩) (c := ⟨fu, al, ro, da, rm⟩) (p := ⟨ps, ⟨s0, s1, s2, s3⟩, sn, pk⟩) (w5.alloc (.cells #[.slice pa P pc, .int .i64 s0, .int .i64 s1, .int .i64 s2, .int .i64 s3, .int .i64 sn, .int .i64 pk] 33)) ((HG.out.1.below HS5.out.1.1.2.2.2 (Nat.le_refl _)).mono HS5.out.2) HS5.out.1.2.2.1 HS5.out.1.2.2.2 HP.out.1.gn HP.out.1.rc HP.out.1.ne (chN HP.out.1 HP.out.2 HPN.out)
  unfold pnv at hck
  dsimp only at hck
  go_wp2_with fail
  with_reducible refine hck.mono ?_
  rintro e w6 ⟨rfl, hb6⟩
  have HS6 : Hid (PS w (.slice ga nds.length gc) (.int .i64 out) ⟨x0, y0, x1, y1⟩ ⟨fu, al, ro, da, rm⟩ n n [.slice pa P pc, .int .i64 s0, .int .i64 s1, .int .i64 s2, .int .i64 s3, .int .i64 sn, .int .i64 pk] (.slice pa P pc) ps w6) := HS5.out.1.call hb6
  have HWN : Hid (w.heap.size ≤ n) := HS5.out.2
  rw [← hn]
  clear hck hb6 hn HS5 g0 g1 r0 r1 r2 r3 m0 m1 m2 m3 m4 mf
  clear w5
  go_wp2_with fail
  rename_i K hK
  have HPF : Hid (ps.length ≤ 1000) := (chN HP.out.1 HP.out.2 HPN.out).few
  have HMK : Hid (∀ W, Below w6.heap.size w6 W → PS w (.slice ga nds.length gc) (.int .i64 out) ⟨x0, y0, x1, y1⟩ ⟨fu, al, ro, da, rm⟩ n n [.slice pa P pc, .int .i64 s0, .int .i64 s1, .int .i64 s2, .int .i64 s3, .int .i64 sn, .int .i64 pk] (.slice pa P pc) ps W ∧ Calls Tryz.prog 8 #[.agg #[.slice ga nds.length gc, .int .i64 out], .agg #[.int .i64 x0, .int .i64 y0, .int .i64 x1, .int .i64 y1], .agg #[.bool fu, .bool al, .bool ro, .bool da, .int .i64 rm]] W (MkG W ⟨ps, ⟨s0, s1, s2, s3⟩, sn, pk⟩)) := fun W hW => by
    have h := HS6.out.call hW
    refine ⟨h, ?_⟩
    have hm := makeG_c w.heap.size _ nds out ⟨x0, y0, x1, y1⟩ ⟨fu, al, ro, da, rm⟩ W HP.out.1 (HG.out.1.below h.1.2.2.2 (Nat.le_refl _)) h.1.2.2.2.size
    rw [← HPN.out] at hm
    exact hm
  refine wp_region_mono (QT [.agg #[.slice pa P pc, .int .i64 s0, .int .i64 s1, .int .i64 s2, .int .i64 s3, .int .i64 sn, .int .i64 pk], .agg #[.slice ga nds.length gc, .int .i64 out], .agg #[.int .i64 x0, .int .i64 y0, .int .i64 x1, .int .i64 y1], .agg #[.bool fu, .bool al, .bool ro, .bool da, .int .i64 rm], undef, .bool true] [4] (KR ⟨ps, ⟨s0, s1, s2, s3⟩, sn, pk⟩)) 6 _ rfl rfl (by kernel_rfl) (by kernel_rfl) (QT.stab KR.stab) ?hop ?hlast
  case hop =>
    refine Each.get (n := 6) ⟨⟨⟨⟨⟨⟨trivial, ?h0⟩, ?h1⟩, ?h2⟩, ?h3⟩, ?h4⟩, ?h5⟩
    case h0 =>
      refine OpOk.plain (by kernel_rfl) _ rfl rfl fun vs ev W hf hb hd => ?_
      have e0 : ev (.tmp 7) = .pointer (some ⟨n, 0, none⟩) := hf.off 7 rfl
      have d0 := (HMK.out W hb).1.2.1.box.cell 0 rfl
      have d1 := (HMK.out W hb).1.2.1.box.cell 1 rfl
      have d2 := (HMK.out W hb).1.2.1.box.cell 2 rfl
      have d3 := (HMK.out W hb).1.2.1.box.cell 3 rfl
      have d4 := (HMK.out W hb).1.2.1.box.cell 4 rfl
      have d5 := (HMK.out W hb).1.2.1.box.cell 5 rfl
      have d6 := (HMK.out W hb).1.2.1.box.cell 6 rfl
      clear hK
      exact gives_mono (R := fun v w' => v = .agg #[.slice pa P pc, .int .i64 s0, .int .i64 s1, .int .i64 s2, .int .i64 s3, .int .i64 sn, .int .i64 pk] ∧ w' = W) (by simp [gives, go_sem, e0, d0, d1, d2, d3, d4, d5, d6]) fun _ _ ⟨h1, h2⟩ => by subst h2; exact ⟨.inr ⟨by decide, h1⟩, Below.refl _ _⟩
    case h1 =>
      refine OpOk.plain (by kernel_rfl) _ rfl rfl fun vs ev W hf hb hd => ?_
      have e0 : ev (.tmp 3) = .pointer (some ⟨w.heap.size, 0, none⟩) := hf.off 3 rfl
      have d0 := (HMK.out W hb).1.1.1.cell 0 rfl
      have d1 := (HMK.out W hb).1.1.1.cell 1 rfl
      clear hK
      exact gives_mono (R := fun v w' => v = .agg #[.slice ga nds.length gc, .int .i64 out] ∧ w' = W) (by simp [gives, go_sem, e0, d0, d1]) fun _ _ ⟨h1, h2⟩ => by subst h2; exact ⟨.inr ⟨by decide, h1⟩, Below.refl _ _⟩
    case h2 =>
      refine OpOk.plain (by kernel_rfl) _ rfl rfl fun vs ev W hf hb hd => ?_
      have e0 : ev (.tmp 4) = .pointer (some ⟨w.heap.size + 1, 0, none⟩) := hf.off 4 rfl
      have d0 := (box4 (HMK.out W hb).1.1.2.1).1
      have d1 := (box4 (HMK.out W hb).1.1.2.1).2.1
      have d2 := (box4 (HMK.out W hb).1.1.2.1).2.2.1
      have d3 := (box4 (HMK.out W hb).1.1.2.1).2.2.2
      clear hK
      exact gives_mono (R := fun v w' => v = .agg #[.int .i64 x0, .int .i64 y0, .int .i64 x1, .int .i64 y1] ∧ w' = W) (by simp [gives, go_sem, e0, d0, d1, d2, d3]) fun _ _ ⟨h1, h2⟩ => by subst h2; exact ⟨.inr ⟨by decide, h1⟩, Below.refl _ _⟩
    case h3 =>
      refine OpOk.plain (by kernel_rfl) _ rfl rfl fun vs ev W hf hb hd => ?_
      have e0 : ev (.tmp 5) = .pointer (some ⟨w.heap.size + 1 + 1, 0, none⟩) := hf.off 5 rfl
      have d0 := (HMK.out W hb).1.1.conf.1
      have d1 := (HMK.out W hb).1.1.conf.2.1
      have d2 := (HMK.out W hb).1.1.conf.2.2.1
      have d3 := (HMK.out W hb).1.1.conf.2.2.2.1
      have d4 := (HMK.out W hb).1.1.conf.2.2.2.2.1
      clear hK
      exact gives_mono (R := fun v w' => v = .agg #[.bool fu, .bool al, .bool ro, .bool da, .int .i64 rm] ∧ w' = W) (by simp [gives, go_sem, e0, d0, d1, d2, d3, d4]) fun _ _ ⟨h1, h2⟩ => by subst h2; exact ⟨.inr ⟨by decide, h1⟩, Below.refl _ _⟩
    case h4 =>
      refine OpOk.plain (by kernel_rfl) _ rfl rfl fun vs ev W hf hb hd => ?_
      have e0 : ev (.tmp 27) = .agg #[.slice ga nds.length gc, .int .i64 out] := (hf.of 1 _ 27 rfl rfl rfl (of_decide_eq_true rfl)).trans ((hd 1 (by kernel_rfl)).val (by decide))
      have e1 : ev (.tmp 28) = .agg #[.int .i64 x0, .int .i64 y0, .int .i64 x1, .int .i64 y1] := (hf.of 2 _ 28 rfl rfl rfl (of_decide_eq_true rfl)).trans ((hd 2 (by kernel_rfl)).val (by decide))
      have e2 : ev (.tmp 29) = .agg #[.bool fu, .bool al, .bool ro, .bool da, .int .i64 rm] := (hf.of 3 _ 29 rfl rfl rfl (of_decide_eq_true rfl)).trans ((hd 3 (by kernel_rfl)).val (by decide))
      have hc := (HMK.out W hb).2
      clear hK
      have ef := hf.func 8
      refine gives_mono (R := fun v w' => ∃ e, e = Ending.returned v ∧ MkG W ⟨ps, ⟨s0, s1, s2, s3⟩, sn, pk⟩ e w') ?_ ?_
      · simp [gives, execOp, resolve, invoke, e0, e1, e2, ef, go_sem]
        exact hc.mono fun e w' h => by
          obtain ⟨pa, pc, he, h2⟩ := h
          exact ⟨_, he, pa, pc, rfl, h2⟩
      · rintro v w' ⟨e, he, pa', pc', he2, h2, h3, h4, h5⟩
        rw [he] at he2
        cases he2
        exact ⟨.inl ⟨by decide, pa', pc', w'.heap.size, rfl, h2, Nat.le_refl _⟩, h5⟩
    case h5 =>
      refine OpOk.plain (by kernel_rfl) _ rfl rfl fun vs ev W hf hb hd => ?_
      have e0 : ev (.tmp 26) = .agg #[.slice pa P pc, .int .i64 s0, .int .i64 s1, .int .i64 s2, .int .i64 s3, .int .i64 sn, .int .i64 pk] := (hf.of 0 _ 26 rfl rfl rfl (of_decide_eq_true rfl)).trans ((hd 0 (by kernel_rfl)).val (by decide))
      obtain ⟨pa', pc', N, hv, hg2, hN⟩ := (hd 4 (by kernel_rfl)).spec (by decide)
      have e1 := (hf.of 4 _ 30 rfl rfl rfl (of_decide_eq_true rfl)).trans hv
      have hs := (HMK.out W hb).1
      have hc := same19_c (B := W.heap.size) (p := ⟨ps, ⟨s0, s1, s2, s3⟩, sn, pk⟩) W (hs.2.2.1.mono hs.2.2.2) (hg2.mono hN) (Nat.le_refl _) (by dsimp only; have := HPF.out; omega)
      unfold pnv at hc
      clear hK
      have ef := hf.func 10
      refine gives_mono (R := fun v w' => v = .bool true ∧ Below W.heap.size W w') ?_ ?_
      · unfold pnv at e1
        simp [gives, execOp, resolve, invoke, e0, e1, ef, go_sem]
        exact hc.mono fun e w' h => ⟨_, h.1, rfl, h.2⟩
      · rintro v w' ⟨h1, h2⟩
        exact ⟨.inr ⟨by decide, h1⟩, h2⟩
  case hlast =>
  intro vs W hb hT
  have s5 := (hT 5 (by decide)).val (by decide)
  refine last_plain (by kernel_rfl) rfl fun F ev hF hf => ?_
  have e1 := (hf.of 5 _ 31 rfl rfl rfl (of_decide_eq_true rfl)).trans s5
  have HE : Hid (Below w.heap.size w W) := HS6.out.1.2.2.2.trans (hb.mono HS6.out.1.2.2.2.size)
  refine gives_mono (R := fun v w' => v = .bool true ∧ w' = W) (by simp [gives, go_sem, e1]) ?_
  rintro _ _ ⟨rfl, rfl⟩
  subst hF
  simp [fr, Act.put, s5]
  generalize vs 0 = u0 at *
  generalize vs 1 = u1 at *
  generalize vs 2 = u2 at *
  generalize vs 3 = u3 at *
  generalize vs 4 = u4 at *
  generalize vs 5 = u5 at *
  refine hK _ _ ?_
  clear hK hT hf
  go_wp2_with fail
  go_ret
  exact ⟨rfl, HE.out⟩
end Go.Proofs.YtaoamkbcegadcaaGreatDoor
/-! ### the law -/
namespace Go.Proofs.YtaoamkbcegadcaaGreatDoor
open Go.RowKit Go.Bx Go.Od Go.Hp Go.ChangeShapes Go.WideShapes Go.ChangeAt
set_option linter.unusedVariables false
section
variable {H : Type} {enc : TypeId × Value → H} {W : World} {base : Nat}
theorem proofKeeps.proofKeeps_law (W : World) (ht : Tabs W) {v0 v1 v2 : Value} {d0 d1 d2 : DataW H} {p0 p1 p2 : List MemPlace}
    (h0 : DataW.Trod enc Tryz.prog W 0 (fun _ => true) true 24 v0 d0 p0) (h1 : DataW.Trod enc Tryz.prog W 0 (fun _ => true) true 26 v1 d1 p1) (h2 : DataW.Trod enc Tryz.prog W 0 (fun _ => true) true 28 v2 d2 p2)
    (k0 : Value.okWide Tryz.prog W .any base 24 v0) (k1 : Value.okWide Tryz.prog W .any base 26 v1) (k2 : Value.okWide Tryz.prog W .any base 28 v2) :
    Calls Tryz.prog 5 #[v0, v1, v2] W (TPost W) := by
  obtain ⟨nv, out, nds, rfl, hg, hout⟩ := graph_arg h0 k0
  obtain ⟨r, rfl⟩ := rect_arg h1 k1
  obtain ⟨c, rfl⟩ := conf_arg h2 k2
  exact proofKeeps_walk nv nds out r c W ht hg
end
end Go.Proofs.YtaoamkbcegadcaaGreatDoor
