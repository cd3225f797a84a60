/- The walk of 'NeedGrows'. -/
import Derived.Test.YtfjeohnigikmoaaDoorRa
import Derived.Deep.LoopGhost
import Derived.Deep.DeepCutAuto
namespace Go.Proofs.YtfjeohnigikmoaaDoor
open Go.RowKit Go.Bx Go.Od Go.Hp
attribute [local go_sem ↓] Go.wp_at_zero Go.wp_at_succ
set_option linter.unusedVariables false

theorem boxSame {W : World} {b : Nat} {cs ds : List Value} (h : Box W b cs) (k : Box W b ds) : cs = ds := by
  obtain ⟨t, h⟩ := h
  obtain ⟨u, k⟩ := k
  rw [h] at k
  simp only [Option.some.injEq, Obj.cells.injEq] at k
  have := congrArg Array.toList k.1
  simpa using this
/-- a graph and two rectangles, boxed -/
def GV (w W : World) (a b : Value) (r q : Rc) : Prop := Box W w.heap.size [a, b] ∧ Box W (w.heap.size + 1) (cl4 r) ∧ Box W (w.heap.size + 1 + 1) (cl4 q) ∧ Below w.heap.size w W
theorem GV.new (w : World) (a b : Value) (r q : Rc) (t1 t2 t3 : TypeId) : GV w (((w.alloc (.cells #[a, b] t1)).alloc (.cells (cs4 r.x0 r.y0 r.x1 r.y1) t2)).alloc (.cells (cs4 q.x0 q.y0 q.x1 q.y1) t3)) a b r q := by
  have h0 := Box.new w [a, b] t1
  have h1 := Box.new (w.alloc (.cells #[a, b] t1)) (cl4 r) t2
  have h2 := Box.new ((w.alloc (.cells #[a, b] t1)).alloc (.cells (cl4 r).toArray t2)) (cl4 q) t3
  simp only [size_alloc] at h1 h2
  have b0 := below_new w (.cells #[a, b] t1)
  have b1 := b0.alloc b0.size (.cells (cs4 r.x0 r.y0 r.x1 r.y1) t2)
  exact ⟨(h0.alloc _).alloc _, h1.alloc _, h2, b1.alloc b1.size _⟩
theorem GV.call {w W W' : World} {a b : Value} {r q : Rc} (h : GV w W a b r q) (hb : Below W.heap.size W W') : GV w W' a b r q := ⟨h.1.call hb, h.2.1.call hb, h.2.2.1.call hb, h.2.2.2.trans (hb.mono h.2.2.2.size)⟩
theorem GV.set {w W : World} {a b : Value} {r q : Rc} (h : GV w W a b r q) {p : Addr} (hp : w.heap.size + 1 + 1 < p.block) (v : Value) : GV w (W.setCell p v) a b r q := ⟨h.1.set (by omega) v, h.2.1.set (by omega) v, h.2.2.1.set (by omega) v, h.2.2.2.setCell (by omega) v⟩
/-- what the operations of 'm, t := need.All(g, Join(a, b))' yield -/
def GT (gv : Value) (a b c : Rc) (n m : Nat) (f : Nat → Rc) (t : Rc) (i : Nat) (v : Value) (W : World) : Prop := match i with
  | 0 => v = gv
  | 1 => v = rv a
  | 2 => v = rv b
  | 3 => v = rv c
  | 4 => ∃ O, n ≤ O ∧ v = .tuple #[.slice (some ⟨O, 0, none⟩) m m, rv t] ∧ Box W O (rcs (rl m f))
  | 5 => ∃ O, n ≤ O ∧ v = .tuple #[.slice (some ⟨O, 0, none⟩) m m, rv t] ∧ Box W O (rcs (rl m f))
  | 6 => ∃ O, n ≤ O ∧ v = .slice (some ⟨O, 0, none⟩) m m ∧ Box W O (rcs (rl m f))
  | 7 => v = rv t
  | 8 => ∃ q, n ≤ q ∧ v = .pointer (some ⟨q, 0, none⟩) ∧ Box W q (cl4 ⟨0, 0, 0, 0⟩)
  | 9 => ∃ O, n ≤ O ∧ v = .slice (some ⟨O, 0, none⟩) m m ∧ Box W O (rcs (rl m f))
  | _ => True
theorem GT.stab {gv : Value} {a b c : Rc} {n m : Nat} {f : Nat → Rc} {t : Rc} (i : Nat) (v : Value) (W W' : World) (h : GT gv a b c n m f t i v W) (hb : Below W.heap.size W W') : GT gv a b c n m f t i v W' := by
  match i, h with
  | 0, h => exact h
  | 1, h => exact h
  | 2, h => exact h
  | 3, h => exact h
  | 4, ⟨b, h1, h2, h3⟩ => exact ⟨b, h1, h2, h3.call hb⟩
  | 5, ⟨b, h1, h2, h3⟩ => exact ⟨b, h1, h2, h3.call hb⟩
  | 6, ⟨b, h1, h2, h3⟩ => exact ⟨b, h1, h2, h3.call hb⟩
  | 7, h => exact h
  | 8, ⟨b, h1, h2, h3⟩ => exact ⟨b, h1, h2, h3.call hb⟩
  | 9, ⟨b, h1, h2, h3⟩ => exact ⟨b, h1, h2, h3.call hb⟩
  | _ + 10, _ => trivial
/-- one node of whom nothing is asked asks nothing -/
theorem GoodN.alone {nds : List Nd} {out : Int} (hg : GoodN nds out) {c : Rc} (hn : Nrm c) (h : rcs (rl nds.length (allN nds c out).1) = cl4 ⟨0, 0, 0, 0⟩) : (allN nds c out).2 = ⟨0, 0, 0, 0⟩ := by
  cases e : c.emp with
  | true =>
    rw [hn e, all_zero]
    rfl
  | false =>
    exfalso
    have hc := covers_out nds c out.toNat
    have ho := hg.outs
    rw [show ((out.toNat : Nat) : Int) = out by omega] at hc
    have hne := hc.nemp e
    have hl := congrArg List.length h
    have hl1 : (rcs (rl nds.length (allN nds c out).1)).length = 4 * nds.length := by rw [rcs_len]; simp [rl, Nat.mul_comm]
    rw [hl1] at hl
    have hl2 : nds.length = 1 := by simp [cl4] at hl; omega
    have ho0 : out.toNat = 0 := by omega
    rw [ho0] at hne
    generalize (allN nds c out).1 = f at *
    rw [hl2] at h
    obtain ⟨r, hr⟩ : ∃ r, r = f 0 := ⟨_, rfl⟩
    simp [rcs, rl, ← hr] at h
    rw [← hr] at hne
    rw [nemp_iff] at hne
    omega

set_option maxRecDepth 10000 in
set_option maxHeartbeats 6400000 in
theorem needGrows_walk (nv : Value) (nds : List Nd) (out : Int) (ra rb : Rc) (w : World) (ht : Tabs w) (hg : Gr w.heap.size w nv nds) :
    Calls Tryd.prog 4 #[.agg #[nv, .int .i64 out], rv ra, rv rb] w (TPost w) := by
  have HG : Hid (Gr w.heap.size w nv nds ∧ Tabs w) := ⟨hg, ht⟩
  obtain ⟨ga, gc, rfl⟩ := hg.isSl
  have hgl := hg.len_le
  obtain ⟨x0, y0, x1, y1⟩ := ra
  obtain ⟨u0, v0, u1, v1⟩ := rb
  clear hg ht
  have H1 : Hid (GV w (((w.alloc (.cells #[.slice ga nds.length gc, .int .i64 out] 24)).alloc (.cells (cs4 x0 y0 x1 y1) 26)).alloc (.cells (cs4 u0 v0 u1 v1) 26)) (.slice ga nds.length gc) (.int .i64 out) ⟨x0, y0, x1, y1⟩ ⟨u0, v0, u1, v1⟩) := GV.new w _ _ ⟨x0, y0, x1, y1⟩ ⟨u0, v0, u1, v1⟩ _ _ _
  go_enter Tryd.func4, Tryd.ntmps4
  go_wp2_with fail
  generalize (((w.alloc (.cells #[.slice ga nds.length gc, .int .i64 out] 24)).alloc (.cells (cs4 x0 y0 x1 y1) 26)).alloc (.cells (cs4 u0 v0 u1 v1) 26)) = W1 at *
  refine (awake14_c W1).mono ?_; rintro e w2 ⟨rfl, hb2⟩
  have H2 : Hid (GV w w2 (.slice ga nds.length gc) (.int .i64 out) ⟨x0, y0, x1, y1⟩ ⟨u0, v0, u1, v1⟩) := H1.out.call hb2
  clear hb2 H1
  have g0 := H2.out.1.cell 0 rfl
  have g1 := H2.out.1.cell 1 rfl
  go_wp2_with fail
  refine (right14_c w.heap.size _ nds out w2 (HG.out.2.below H2.out.2.2.2) (HG.out.1.below H2.out.2.2.2 (Nat.le_refl _)) H2.out.2.2.2.size).mono ?_; rintro e w3 ⟨rfl, hb3⟩
  have H3 : Hid (GV w w3 (.slice ga nds.length gc) (.int .i64 out) ⟨x0, y0, x1, y1⟩ ⟨u0, v0, u1, v1⟩) := H2.out.call hb3
  clear g0 g1 hb3 H2
  obtain ⟨r, hr⟩ : ∃ r, r = rightB nds out := ⟨_, rfl⟩
  rw [← hr]
  cases r with
  | false =>
    clear hr
    go_wp2_with fail
    refine (awake14_c w3).mono ?_; rintro e w4 ⟨rfl, hb4⟩
    have HE : Hid (Below w.heap.size w w4) := H3.out.2.2.2.trans (hb4.mono H3.out.2.2.2.size)
    go_wp2_with fail
    go_ret
    exact ⟨rfl, HE.out⟩
  | true =>
  have HGD : Hid (GoodN nds out) := goodN_of hr.symm
  have hn100 := HGD.out.few
  obtain ⟨c0, c1, c2, c3⟩ := box4 H3.out.2.1
  clear hr
  go_wp2_with fail
  refine (right03_c ⟨x0, y0, x1, y1⟩ w3).mono ?_; rintro e w4 ⟨rfl, hb4⟩
  have H4 : Hid (GV w w4 (.slice ga nds.length gc) (.int .i64 out) ⟨x0, y0, x1, y1⟩ ⟨u0, v0, u1, v1⟩) := H3.out.call hb4
  clear c0 c1 c2 c3 hb4 H3
  obtain ⟨r, hr⟩ : ∃ r, r = rightR ⟨x0, y0, x1, y1⟩ := ⟨_, rfl⟩
  rw [← hr]
  cases r with
  | false =>
    clear hr
    go_wp2_with fail
    refine (awake14_c w4).mono ?_; rintro e w5 ⟨rfl, hb5⟩
    have HE : Hid (Below w.heap.size w w5) := H4.out.2.2.2.trans (hb5.mono H4.out.2.2.2.size)
    go_wp2_with fail
    go_ret
    exact ⟨rfl, HE.out⟩
  | true =>
  have HA : Hid (RcP ⟨x0, y0, x1, y1⟩) := (rightR_iff _).1 hr.symm
  obtain ⟨c0, c1, c2, c3⟩ := box4 H4.out.2.2.1
  clear hr
  go_wp2_with fail
  refine (right03_c ⟨u0, v0, u1, v1⟩ w4).mono ?_; rintro e w5 ⟨rfl, hb5⟩
  have H5 : Hid (GV w w5 (.slice ga nds.length gc) (.int .i64 out) ⟨x0, y0, x1, y1⟩ ⟨u0, v0, u1, v1⟩) := H4.out.call hb5
  clear c0 c1 c2 c3 hb5 H4
  obtain ⟨r, hr⟩ : ∃ r, r = rightR ⟨u0, v0, u1, v1⟩ := ⟨_, rfl⟩
  rw [← hr]
  cases r with
  | false =>
    clear hr
    go_wp2_with fail
    refine (awake14_c w5).mono ?_; rintro e w6 ⟨rfl, hb6⟩
    have HE : Hid (Below w.heap.size w w6) := H5.out.2.2.2.trans (hb6.mono H5.out.2.2.2.size)
    go_wp2_with fail
    go_ret
    exact ⟨rfl, HE.out⟩
  | true =>
  have HB : Hid (RcP ⟨u0, v0, u1, v1⟩) := (rightR_iff _).1 hr.symm
  obtain ⟨c0, c1, c2, c3⟩ := box4 H5.out.2.1
  have g0 := H5.out.1.cell 0 rfl
  have g1 := H5.out.1.cell 1 rfl
  clear hr
  go_wp2_with fail
  refine (all14_c w.heap.size _ nds out ⟨x0, y0, x1, y1⟩ w5 HGD.out (HG.out.1.below H5.out.2.2.2 (Nat.le_refl _)) H5.out.2.2.2.size HA.out).mono ?_; rintro e w6 ⟨O, hO, rfl, hbO, hb6⟩
  obtain ⟨c, hc⟩ : ∃ c, c = joinR ⟨x0, y0, x1, y1⟩ ⟨u0, v0, u1, v1⟩ := ⟨_, rfl⟩
  have HC : Hid (c = joinR ⟨x0, y0, x1, y1⟩ ⟨u0, v0, u1, v1⟩ ∧ RcP c ∧ Nrm c) := ⟨hc, by rw [hc]; exact joinR_pl HA.out HB.out, by rw [hc]; exact nrm_join _ _⟩
  have HLAW : Hid (SL (allN nds ⟨x0, y0, x1, y1⟩ out) (allN nds c out) ∧ CvN (allN nds ⟨x0, y0, x1, y1⟩ out) ∧ CvN (allN nds c out)) := ⟨HGD.out.grows HA.out HC.out.2.1 (by rw [hc]; exact join_l _ _), HGD.out.cv HA.out, HGD.out.cv HC.out.2.1⟩
  have HAL : Hid (rcs (rl nds.length (allN nds c out).1) = cl4 ⟨0, 0, 0, 0⟩ → (allN nds c out).2 = ⟨0, 0, 0, 0⟩) := HGD.out.alone HC.out.2.2
  have HALL : Hid (∀ W, Below w.heap.size w W → Calls Tryd.prog 9 #[.agg #[.slice ga nds.length gc, .int .i64 out], rv c] W (NaPost W nds.length (allN nds c out)) ∧ Calls Tryd.prog 9 #[.agg #[.slice ga nds.length gc, .int .i64 out], rv Rc.zero] W (NaPost W nds.length (fun _ => Rc.zero, Rc.zero))) := fun W hb => by
    have h0 := all14_c w.heap.size _ nds out c W HGD.out (HG.out.1.below hb (Nat.le_refl _)) hb.size HC.out.2.1
    have h1 := all14_c w.heap.size _ nds out Rc.zero W HGD.out (HG.out.1.below hb (Nat.le_refl _)) hb.size zero_pl
    rw [all_zero] at h1
    exact ⟨h0, h1⟩
  clear hc
  obtain ⟨st, hst⟩ : ∃ st, st = allN nds ⟨x0, y0, x1, y1⟩ out := ⟨_, rfl⟩
  obtain ⟨st2, hst2⟩ : ∃ st, st = allN nds c out := ⟨_, rfl⟩
  rw [← hst] at hbO HLAW ⊢
  rw [← hst2] at HLAW HAL HALL
  clear hst hst2
  obtain ⟨f, s0, s1, s2, s3⟩ := st
  obtain ⟨f2, t0, t1, t2, t3⟩ := st2
  have H6' : Hid (GV w w6 (.slice ga nds.length gc) (.int .i64 out) ⟨x0, y0, x1, y1⟩ ⟨u0, v0, u1, v1⟩ ∧ Box w6 O (rcs (rl nds.length f))) := ⟨H5.out.call hb6, hbO⟩
  clear c0 c1 c2 c3 g0 g1 hb6 hbO H5 hO
  have H6 : Hid (GV w (w6.alloc (.cells (cs4 s0 s1 s2 s3) 26)) (.slice ga nds.length gc) (.int .i64 out) ⟨x0, y0, x1, y1⟩ ⟨u0, v0, u1, v1⟩ ∧ Box (w6.alloc (.cells (cs4 s0 s1 s2 s3) 26)) O (rcs (rl nds.length f)) ∧ Box (w6.alloc (.cells (cs4 s0 s1 s2 s3) 26)) w6.heap.size (cl4 ⟨s0, s1, s2, s3⟩)) := ⟨H6'.out.1.call (below_new _ _), H6'.out.2.call (below_new _ _), Box.new w6 _ _⟩
  clear H6'
  go_wp2_with fail
  rename_i K hK
  obtain ⟨SP, hSP⟩ : ∃ SP, SP = w6.heap.size := ⟨_, rfl⟩
  rw [← hSP] at H6 ⊢
  clear hSP
  generalize (w6.alloc (.cells (cs4 s0 s1 s2 s3) 26)) = W6 at *
  clear w6
  refine wp_region_mono (GT (.agg #[.slice ga nds.length gc, .int .i64 out]) ⟨x0, y0, x1, y1⟩ ⟨u0, v0, u1, v1⟩ c W6.heap.size nds.length f2 ⟨t0, t1, t2, t3⟩) 10 _ rfl rfl (by kernel_rfl) (by kernel_rfl) GT.stab ?hop ?hlast
  case hop =>
    refine Each.get (n := 10) ⟨⟨⟨⟨⟨⟨⟨⟨⟨⟨trivial, ?h0⟩, ?h1⟩, ?h2⟩, ?h3⟩, ?h4⟩, ?h5⟩, ?h6⟩, ?h7⟩, ?h8⟩, ?h9⟩
    case h0 =>
      refine OpOk.plain (by kernel_rfl) _ rfl rfl fun vs ev W hf hb hd => ?_
      have e : ev (.tmp 3) = .pointer (some ⟨w.heap.size, 0, none⟩) := hf.off 3 rfl
      have d0 := (H6.out.1.call hb).1.cell 0 rfl
      have d1 := (H6.out.1.call hb).1.cell 1 rfl
      clear hK
      exact gives_mono (R := fun v w' => v = .agg #[.slice ga nds.length gc, .int .i64 out] ∧ w' = W) (by simp [gives, go_sem, e, d0, d1]) fun _ _ ⟨h1, h2⟩ => by subst h2; exact ⟨h1, Below.refl _ _⟩
    case h1 =>
      refine OpOk.plain (by kernel_rfl) _ rfl rfl fun vs ev W hf hb hd => ?_
      have e : ev (.tmp 4) = .pointer (some ⟨w.heap.size + 1, 0, none⟩) := hf.off 4 rfl
      obtain ⟨d0, d1, d2, d3⟩ := box4 (H6.out.1.call hb).2.1
      clear hK
      exact gives_mono (R := fun v w' => v = rv ⟨x0, y0, x1, y1⟩ ∧ w' = W) (by simp [gives, go_sem, e, d0, d1, d2, d3]) fun _ _ ⟨h1, h2⟩ => by subst h2; exact ⟨h1, Below.refl _ _⟩
    case h2 =>
      refine OpOk.plain (by kernel_rfl) _ rfl rfl fun vs ev W hf hb hd => ?_
      have e : ev (.tmp 5) = .pointer (some ⟨w.heap.size + 1 + 1, 0, none⟩) := hf.off 5 rfl
      obtain ⟨d0, d1, d2, d3⟩ := box4 (H6.out.1.call hb).2.2.1
      clear hK
      exact gives_mono (R := fun v w' => v = rv ⟨u0, v0, u1, v1⟩ ∧ w' = W) (by simp [gives, go_sem, e, d0, d1, d2, d3]) fun _ _ ⟨h1, h2⟩ => by subst h2; exact ⟨h1, Below.refl _ _⟩
    case h3 =>
      refine OpOk.plain (by kernel_rfl) _ rfl rfl fun vs ev W hf hb hd => ?_
      have e0 : ev (.tmp 40) = rv ⟨x0, y0, x1, y1⟩ := (hf.of 1 _ 40 rfl rfl rfl (of_decide_eq_true rfl)).trans (hd 1 (by kernel_rfl))
      have e1 : ev (.tmp 41) = rv ⟨u0, v0, u1, v1⟩ := (hf.of 2 _ 41 rfl rfl rfl (of_decide_eq_true rfl)).trans (hd 2 (by kernel_rfl))
      refine gives_mono (R := fun v w' => v = rv c ∧ Below W.heap.size W w') ?_ (fun _ _ ⟨h1, h2⟩ => ⟨h1, h2⟩)
      have hc := rjoin_c ⟨x0, y0, x1, y1⟩ ⟨u0, v0, u1, v1⟩ W
      rw [← HC.out.1] at hc
      have e4 := hf.func 13
      clear hK
      simp [gives, execOp, resolve, invoke, e0, e1, e4, go_sem]
      exact hc.mono fun e w' h => ⟨_, h.1, rfl, h.2⟩
    case h4 =>
      refine OpOk.plain (by kernel_rfl) _ rfl rfl fun vs ev W hf hb hd => ?_
      have e0 : ev (.tmp 39) = .agg #[.slice ga nds.length gc, .int .i64 out] := (hf.of 0 _ 39 rfl rfl rfl (of_decide_eq_true rfl)).trans (hd 0 (by kernel_rfl))
      have e1 : ev (.tmp 42) = rv c := (hf.of 3 _ 42 rfl rfl rfl (of_decide_eq_true rfl)).trans (hd 3 (by kernel_rfl))
      refine gives_mono (R := fun v w' => ∃ e, e = Ending.returned v ∧ NaPost W nds.length (f2, ⟨t0, t1, t2, t3⟩) e w') ?_ ?_
      · have hc := (HALL.out W (H6.out.1.call hb).2.2.2).1
        clear hK
        have e4 := hf.func 9
        simp [gives, execOp, resolve, invoke, e0, e1, e4, go_sem]
        exact hc.mono fun e w' h => by
          obtain ⟨O, hO, he, h2⟩ := h
          exact ⟨_, he, O, hO, rfl, h2⟩
      · rintro v w' ⟨e, he, O, hO, he2, h2, h3⟩
        rw [he] at he2
        cases he2
        exact ⟨⟨O, Nat.le_trans hb.size hO, rfl, h2⟩, h3⟩
    case h5 =>
      refine OpOk.plain (by kernel_rfl) _ rfl rfl fun vs ev W hf hb hd => ?_
      obtain ⟨O, h1, h2, h3⟩ := hd 4 (by kernel_rfl)
      have e1 := (hf.of 4 _ 43 rfl rfl rfl (of_decide_eq_true rfl)).trans h2
      clear hK
      refine gives_mono (R := fun v w' => v = .tuple #[.slice (some ⟨O, 0, none⟩) nds.length nds.length, rv ⟨t0, t1, t2, t3⟩] ∧ w' = W) (by simp [gives, go_sem, e1]) ?_
      rintro _ _ ⟨rfl, rfl⟩
      exact ⟨⟨O, h1, rfl, h3⟩, Below.refl _ _⟩
    case h6 =>
      refine OpOk.plain (by kernel_rfl) _ rfl rfl fun vs ev W hf hb hd => ?_
      obtain ⟨O, h1, h2, h3⟩ := hd 5 (by kernel_rfl)
      have e1 := (hf.of 5 _ 38 rfl rfl rfl (of_decide_eq_true rfl)).trans h2
      clear hK
      refine gives_mono (R := fun v w' => v = .slice (some ⟨O, 0, none⟩) nds.length nds.length ∧ w' = W) (by simp [gives, go_sem, e1]) ?_
      rintro _ _ ⟨rfl, rfl⟩
      exact ⟨⟨O, h1, rfl, h3⟩, Below.refl _ _⟩
    case h7 =>
      refine OpOk.plain (by kernel_rfl) _ rfl rfl fun vs ev W hf hb hd => ?_
      obtain ⟨O, h1, h2, h3⟩ := hd 5 (by kernel_rfl)
      have e1 := (hf.of 5 _ 38 rfl rfl rfl (of_decide_eq_true rfl)).trans h2
      clear hK
      refine gives_mono (R := fun v w' => v = rv ⟨t0, t1, t2, t3⟩ ∧ w' = W) (by simp [gives, go_sem, e1]) ?_
      rintro _ _ ⟨rfl, rfl⟩
      exact ⟨rfl, Below.refl _ _⟩
    case h8 =>
      refine OpOk.plain (by kernel_rfl) _ rfl rfl fun vs ev W hf hb hd => ?_
      clear hK
      refine gives_mono (R := fun v w' => v = .pointer (some ⟨W.heap.size, 0, none⟩) ∧ w' = W.alloc (.cells (cs4 0 0 0 0) 26)) (by simp [gives, go_sem]) ?_
      rintro _ _ ⟨rfl, rfl⟩
      exact ⟨⟨_, hb.size, rfl, Box.new W _ _⟩, below_alloc _ _⟩
    case h9 =>
      refine OpOk.plain (by kernel_rfl) _ rfl rfl fun vs ev W hf hb hd => ?_
      obtain ⟨O, h1, h2, h3⟩ := hd 6 (by kernel_rfl)
      have e1 := (hf.of 6 _ 44 rfl rfl rfl (of_decide_eq_true rfl)).trans h2
      clear hK
      refine gives_mono (R := fun v w' => v = .slice (some ⟨O, 0, none⟩) nds.length nds.length ∧ w' = W) (by simp [gives, go_sem, e1]) ?_
      rintro _ _ ⟨rfl, rfl⟩
      exact ⟨⟨O, h1, rfl, h3⟩, Below.refl _ _⟩
  case hlast =>
  intro vs W hb hT
  have h7 : vs 7 = rv ⟨t0, t1, t2, t3⟩ := hT 7 (by decide)
  obtain ⟨q, n8, h8, x8⟩ := hT 8 (by decide)
  obtain ⟨O2, n9, h9, x9⟩ := hT 9 (by decide)
  refine last_plain (by kernel_rfl) rfl fun F ev hF hf => ?_
  have e1 := (hf.of 7 _ 45 rfl rfl rfl (of_decide_eq_true rfl)).trans h7
  have e2 := (hf.of 8 _ 10 rfl rfl rfl (of_decide_eq_true rfl)).trans h8
  obtain ⟨q0, q1, q2, q3⟩ := box4 x8
  have f0 := x8.frozen 0
  have f1 := x8.frozen 1
  have f2' := x8.frozen 2
  have f3 := x8.frozen 3
  have H7 : Hid (GV w ((((W.setCell ⟨q, 0, none⟩ (.int .i64 t0)).setCell ⟨q, 1, none⟩ (.int .i64 t1)).setCell ⟨q, 2, none⟩ (.int .i64 t2)).setCell ⟨q, 3, none⟩ (.int .i64 t3)) (.slice ga nds.length gc) (.int .i64 out) ⟨x0, y0, x1, y1⟩ ⟨u0, v0, u1, v1⟩ ∧ Box ((((W.setCell ⟨q, 0, none⟩ (.int .i64 t0)).setCell ⟨q, 1, none⟩ (.int .i64 t1)).setCell ⟨q, 2, none⟩ (.int .i64 t2)).setCell ⟨q, 3, none⟩ (.int .i64 t3)) O (rcs (rl nds.length f)) ∧ Box ((((W.setCell ⟨q, 0, none⟩ (.int .i64 t0)).setCell ⟨q, 1, none⟩ (.int .i64 t1)).setCell ⟨q, 2, none⟩ (.int .i64 t2)).setCell ⟨q, 3, none⟩ (.int .i64 t3)) SP (cl4 ⟨s0, s1, s2, s3⟩) ∧ Box ((((W.setCell ⟨q, 0, none⟩ (.int .i64 t0)).setCell ⟨q, 1, none⟩ (.int .i64 t1)).setCell ⟨q, 2, none⟩ (.int .i64 t2)).setCell ⟨q, 3, none⟩ (.int .i64 t3)) O2 (rcs (rl nds.length f2)) ∧ Box ((((W.setCell ⟨q, 0, none⟩ (.int .i64 t0)).setCell ⟨q, 1, none⟩ (.int .i64 t1)).setCell ⟨q, 2, none⟩ (.int .i64 t2)).setCell ⟨q, 3, none⟩ (.int .i64 t3)) q (cl4 ⟨t0, t1, t2, t3⟩)) := by
    have hs : w.heap.size + 1 + 1 < q := by have := H6.out.1.2.2.1.lt; omega
    have hO : O ≠ q := by have := H6.out.2.1.lt; omega
    have hS : SP ≠ q := by have := H6.out.2.2.lt; omega
    have g := H6.out.1.call hb
    have y1 := H6.out.2.1.call hb
    have y2 := H6.out.2.2.call hb
    refine ⟨(((g.set hs _).set hs _).set hs _).set hs _, (((y1.set hO _).set hO _).set hO _).set hO _, (((y2.set hS _).set hS _).set hS _).set hS _, ?_, set4_box x8 _ _ _ _⟩
    by_cases hne : O2 = q
    · subst hne
      have he := boxSame x9 x8
      have ht := HAL.out he
      rw [he]
      have := set4_box x8 t0 t1 t2 t3
      rw [ht] at this
      exact this
    · exact (((x9.set hne _).set hne _).set hne _).set hne _
  refine gives_mono (R := fun v w' => v = undef ∧ w' = ((((W.setCell ⟨q, 0, none⟩ (.int .i64 t0)).setCell ⟨q, 1, none⟩ (.int .i64 t1)).setCell ⟨q, 2, none⟩ (.int .i64 t2)).setCell ⟨q, 3, none⟩ (.int .i64 t3))) (by simp [gives, go_sem, e1, e2, q0, q1, q2, q3, f0, f1, f2', f3]) ?_
  rintro _ _ ⟨rfl, rfl⟩
  subst hF
  simp [fr, Act.put, h8, h9]
  generalize vs 0 = w0 at *
  generalize vs 1 = w1 at *
  generalize vs 2 = w2 at *
  generalize vs 3 = w3 at *
  generalize vs 4 = w4 at *
  generalize vs 5 = w5 at *
  generalize vs 6 = w6 at *
  generalize vs 7 = w7 at *
  clear hT hf h7 h8 h9 e1 e2
  refine hK _ _ ?_
  clear hK q0 q1 q2 q3 f0 f1 f2' f3 hb n8 n9 x8 x9 H6 HAL
  generalize ((((W.setCell ⟨q, 0, none⟩ (.int .i64 t0)).setCell ⟨q, 1, none⟩ (.int .i64 t1)).setCell ⟨q, 2, none⟩ (.int .i64 t2)).setCell ⟨q, 3, none⟩ (.int .i64 t3)) = W7 at *
  clear W
  have g0 := H7.out.1.1.cell 0 rfl
  have g1 := H7.out.1.1.cell 1 rfl
  go_wp2_with fail
  refine ((HALL.out W7 H7.out.1.2.2.2).2).mono ?_; rintro e w8 ⟨O3, hO3, rfl, hbO3, hb8⟩
  have H8' : Hid (GV w w8 (.slice ga nds.length gc) (.int .i64 out) ⟨x0, y0, x1, y1⟩ ⟨u0, v0, u1, v1⟩ ∧ Box w8 O (rcs (rl nds.length f)) ∧ Box w8 SP (cl4 ⟨s0, s1, s2, s3⟩) ∧ Box w8 O2 (rcs (rl nds.length f2)) ∧ Box w8 q (cl4 ⟨t0, t1, t2, t3⟩)) := ⟨H7.out.1.call hb8, H7.out.2.1.call hb8, H7.out.2.2.1.call hb8, H7.out.2.2.2.1.call hb8, H7.out.2.2.2.2.call hb8⟩
  clear g0 g1 hbO3 hO3 hb8 H7
  have H8 : Hid (∀ W, Below (w8.alloc (.cells (cs4 Rc.zero.x0 Rc.zero.y0 Rc.zero.x1 Rc.zero.y1) 26)).heap.size (w8.alloc (.cells (cs4 Rc.zero.x0 Rc.zero.y0 Rc.zero.x1 Rc.zero.y1) 26)) W → GV w W (.slice ga nds.length gc) (.int .i64 out) ⟨x0, y0, x1, y1⟩ ⟨u0, v0, u1, v1⟩ ∧ Box W O (rcs (rl nds.length f)) ∧ Box W SP (cl4 ⟨s0, s1, s2, s3⟩) ∧ Box W O2 (rcs (rl nds.length f2)) ∧ Box W q (cl4 ⟨t0, t1, t2, t3⟩) ∧ Box W w8.heap.size (cl4 ⟨0, 0, 0, 0⟩)) := fun W hb =>
    ⟨(H8'.out.1.call (below_new _ _)).call hb, (H8'.out.2.1.call (below_new _ _)).call hb, (H8'.out.2.2.1.call (below_new _ _)).call hb, (H8'.out.2.2.2.1.call (below_new _ _)).call hb, (H8'.out.2.2.2.2.call (below_new _ _)).call hb, (Box.new w8 (cl4 ⟨0, 0, 0, 0⟩) _).call hb⟩
  clear H8'
  go_wp2_with fail
  obtain ⟨NP, hNP⟩ : ∃ NP, NP = w8.heap.size := ⟨_, rfl⟩
  rw [← hNP] at H8 ⊢
  clear hNP
  generalize (w8.alloc (.cells (cs4 Rc.zero.x0 Rc.zero.y0 Rc.zero.x1 Rc.zero.y1) 26)) = W8 at *
  clear w8
  go_loopg [13] nds.length (fun g iv wr => ∃ i : Nat, nds.length ≤ i + g ∧ i ≤ nds.length ∧ iv = .int .i64 i ∧ Below W8.heap.size W8 wr)
  case atStart => exact ⟨0, by omega, by omega, rfl, Below.refl _ _⟩
  case round =>
  obtain ⟨i, hgk, hi, rfl, hb⟩ := hrel
  by_cases hin : i < nds.length
  · have HX := H8.out wr hb
    obtain ⟨p, hp⟩ : ∃ p : Rc, p = f i := ⟨_, rfl⟩
    obtain ⟨q', hq'⟩ : ∃ p : Rc, p = f2 i := ⟨_, rfl⟩
    have HN : Hid (∀ s : Kept wr.heap.size wr, Calls Tryd.prog 11 #[.agg #[.int .i64 p.x0, .int .i64 p.y0, .int .i64 p.x1, .int .i64 p.y1], .agg #[.int .i64 q'.x0, .int .i64 q'.y0, .int .i64 q'.x1, .int .i64 q'.y1]] s.w (PPost s.w (.bool true))) := fun s => by
      have := rwithin_c p q' s.w (by rw [hp]; exact HLAW.out.2.1.1 i)
      rw [refWi_of (by rw [hp, hq']; exact HLAW.out.1.1 i)] at this
      exact this
    obtain ⟨a0, a1, a2, a3⟩ := rbox_get HX.2.1 (rl_get f hin)
    obtain ⟨b0, b1, b2, b3⟩ := rbox_get HX.2.2.2.1 (rl_get f2 hin)
    rw [← hp] at a0 a1 a2 a3
    rw [← hq'] at b0 b1 b2 b3
    have HB1 : Hid (Below W8.heap.size W8 wr) := hb
    have hi0 : (0 : Int) ≤ (i : Int) := by omega
    have hi1 : (i : Int) < (nds.length : Int) := by omega
    have k0 := fun s : Kept wr.heap.size wr => s.at a0
    have k1 := fun s : Kept wr.heap.size wr => s.at a1
    have k2 := fun s : Kept wr.heap.size wr => s.at a2
    have k3 := fun s : Kept wr.heap.size wr => s.at a3
    have k4 := fun s : Kept wr.heap.size wr => s.at b0
    have k5 := fun s : Kept wr.heap.size wr => s.at b1
    have k6 := fun s : Kept wr.heap.size wr => s.at b2
    have k7 := fun s : Kept wr.heap.size wr => s.at b3
    clear a0 a1 a2 a3 b0 b1 b2 b3 hp hq' hb HX
    go_wp2_with fail
    refine wp_region_kept wr.heap.size (by kernel_rfl) (by kernel_rfl) ?_
    repeat (go_big_quiet_step (first | (go_at_call 11; with_reducible exact Calls.kept _ (Nat.le_refl _) (HN.out _))))
    refine wpQuiet_nil ?_
    rintro _ ⟨s, rfl⟩
    have H10 : Hid (Below W8.heap.size W8 s.w) := HB1.out.trans (s.below.mono HB1.out.size)
    clear k0 k1 k2 k3 k4 k5 k6 k7
    go_wp2_with fail
    go_roundg (gk - 1)
    case measure => omega
    case rel => exact ⟨i + 1, by omega, by omega, by go_num, H10.out⟩
  · have ei : i = nds.length := by omega
    subst ei
    have HX := H8.out wr hb
    have HW : Hid (GV w wr (.slice ga nds.length gc) (.int .i64 out) ⟨x0, y0, x1, y1⟩ ⟨u0, v0, u1, v1⟩ ∧ Box wr NP (cl4 ⟨0, 0, 0, 0⟩)) := ⟨HX.1, HX.2.2.2.2.2⟩
    obtain ⟨a0, a1, a2, a3⟩ := box4 HX.2.2.1
    obtain ⟨b0, b1, b2, b3⟩ := box4 HX.2.2.2.2.1
    clear HX hb
    go_wp2_with fail
    have hw := rwithin_c ⟨s0, s1, s2, s3⟩ ⟨t0, t1, t2, t3⟩ wr HLAW.out.2.1.2
    rw [refWi_of HLAW.out.1.2] at hw
    refine hw.mono ?_; rintro e w9 ⟨rfl, hb9⟩
    have HE : Hid (Below w.heap.size w w9) := (HW.out.1.call hb9).2.2.2
    obtain ⟨c0, c1, c2, c3⟩ := box4 (HW.out.2.call hb9)
    have hq0 : ∀ W, (binOp .eql 26 (.agg #[.int .i64 0, .int .i64 0, .int .i64 0, .int .i64 0]) (.agg #[.int .i64 0, .int .i64 0, .int .i64 0, .int .i64 0])).run Tryd.prog W = .ok (.bool true) W := fun W => eqlR _ _ _ _ W
    clear hw hb9 a0 a1 a2 a3 b0 b1 b2 b3
    go_wp2_with fail
    go_ret
    exact ⟨rfl, HE.out⟩
end Go.Proofs.YtfjeohnigikmoaaDoor
/-! ### the law -/
namespace Go.Proofs.YtfjeohnigikmoaaDoor
open Go.RowKit Go.Bx Go.Od Go.Hp Go.ChangeShapes Go.WideShapes Go.ChangeAt
set_option linter.unusedVariables false
section
variable {H : Type} {enc : TypeId × Value → H} {W : World} {base : Nat}
theorem needGrows.needGrows_law (W : World) (ht : Tabs W) {v0 v1 v2 : Value} {d0 d1 d2 : DataW H} {p0 p1 p2 : List MemPlace}
    (h0 : DataW.Trod enc Tryd.prog W 0 (fun _ => true) true 24 v0 d0 p0) (h1 : DataW.Trod enc Tryd.prog W 0 (fun _ => true) true 26 v1 d1 p1) (h2 : DataW.Trod enc Tryd.prog W 0 (fun _ => true) true 26 v2 d2 p2)
    (k0 : Value.okWide Tryd.prog W .any base 24 v0) (k1 : Value.okWide Tryd.prog W .any base 26 v1) (k2 : Value.okWide Tryd.prog W .any base 26 v2) :
    Calls Tryd.prog 4 #[v0, v1, v2] W (TPost W) := by
  obtain ⟨nv, out, nds, rfl, hg, hout⟩ := graph_arg h0 k0
  obtain ⟨ra, rfl⟩ := rect_arg h1 k1
  obtain ⟨rb, rfl⟩ := rect_arg h2 k2
  exact needGrows_walk nv nds out ra rb W ht hg
end
end Go.Proofs.YtfjeohnigikmoaaDoor
