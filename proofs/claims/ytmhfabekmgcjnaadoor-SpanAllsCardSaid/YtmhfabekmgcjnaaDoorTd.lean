/- The walk of 'SpanAlls'. (Printed by mk_span.py.) -/
import Derived.Test.YtmhfabekmgcjnaaDoorTc
namespace Go.Proofs.YtmhfabekmgcjnaaDoor
open Go.RowKit Go.Bx Go.Od Go.Hp Go.Sort
attribute [local go_sem ↓] Go.wp_at_zero Go.wp_at_succ
set_option linter.unusedVariables false

/-- what the operations of 'Equal(Until(g, l), Until(g, l))' yield -/
def SA (gv lv : Value) (B n : Nat) (us : List Int) (j : Nat) (v : Value) (W : World) : Prop := match j with
  | 0 => v = gv
  | 1 => v = lv
  | 2 => ∃ O, v = .slice (some ⟨O, 0, none⟩) n n ∧ Box W O (us.map (Value.int .i64))
  | 3 => v = gv
  | 4 => v = lv
  | 5 => ∃ a c, v = .slice a n c ∧ OwnP W B (.slice a n c) us
  | 6 => v = .bool true
  | 7 => v = .bool true
  | _ => True
theorem SA.below {gv lv : Value} {B n : Nat} {us : List Int} {j : Nat} {v : Value} {W W' : World} (h : SA gv lv B n us j v W) (hb : Below W.heap.size W W') : SA gv lv B n us j v W' := by
  match j, h with
  | 0, h => exact h
  | 1, h => exact h
  | 2, ⟨O, h1, h2⟩ => exact ⟨O, h1, h2.call hb⟩
  | 3, h => exact h
  | 4, h => exact h
  | 5, ⟨a, c, h1, h2⟩ => exact ⟨a, c, h1, h2.below hb⟩
  | 6, h => exact h
  | 7, h => exact h
  | _ + 8, _ => trivial
set_option maxRecDepth 4000 in
set_option maxHeartbeats 6400000 in
theorem spanAlls_walk (nv : Value) (nds : List Nd) (out : Int) (on : Bool) (w : World) (ht : Tabs w) (hg : Gr w.heap.size w nv nds) :
    Calls Tryd.prog 3 #[.agg #[nv, .int .i64 out], .bool on] w (TPost w) := by
  obtain ⟨ga, gc, rfl⟩ := hg.isSl
  have hgl := hg.len_le
  have X := Box.new w [.slice ga nds.length gc, .int .i64 out] 24
  have hb1 := below_alloc w (.cells #[.slice ga nds.length gc, .int .i64 out] 24)
  have HG : Hid (Gr w.heap.size w (.slice ga nds.length gc) nds ∧ Tabs w) := ⟨hg, ht⟩
  clear hg ht
  go_enter Tryd.func3, Tryd.ntmps3
  go_wp2_with fail
  obtain ⟨W1, hW1⟩ : ∃ W, W = w.alloc (.cells #[.slice ga nds.length gc, .int .i64 out] 24) := ⟨_, rfl⟩
  rw [← hW1] at X hb1 ⊢
  clear hW1
  refine (awake17_c W1).mono ?_; rintro e w1 ⟨rfl, hb2⟩
  have H1 : Hid (Box w1 w.heap.size [.slice ga nds.length gc, .int .i64 out] ∧ Below w.heap.size w w1) := ⟨X.call hb2, hb1.trans (hb2.mono hb1.size)⟩
  clear X hb1 hb2
  have g0 := H1.out.1.cell 0 rfl
  have g1 := H1.out.1.cell 1 rfl
  go_wp2_with fail
  refine (right17_c w.heap.size _ nds out w1 (HG.out.2.below H1.out.2) (HG.out.1.below H1.out.2 (Nat.le_refl _)) H1.out.2.size).mono ?_; rintro e w2 ⟨rfl, hb3⟩
  have H2 : Hid (Box w2 w.heap.size [.slice ga nds.length gc, .int .i64 out] ∧ Below w.heap.size w w2) := ⟨H1.out.1.call hb3, H1.out.2.trans (hb3.mono H1.out.2.size)⟩
  clear g0 g1 hb3 H1
  have g0 := H2.out.1.cell 0 rfl
  have g1 := H2.out.1.cell 1 rfl
  obtain ⟨r, hr⟩ : ∃ r, r = rightB nds out := ⟨_, rfl⟩
  rw [← hr]
  cases r with
  | false =>
    clear hr
    go_wp2_with fail
    refine (awake17_c w2).mono ?_; rintro e w4 ⟨rfl, hb4⟩
    have HE : Hid (Below w.heap.size w w4) := H2.out.2.trans (hb4.mono H2.out.2.size)
    clear g0 g1 hb4
    go_wp2_with fail
    go_ret
    exact ⟨rfl, HE.out⟩
  | true =>
  have HGD : Hid (SGood nds out) := sgood_of hr.symm
  clear hr
  go_wp2_with fail
  refine (dgroups_c w.heap.size _ nds out on w2 HGD.out.toGood (HG.out.1.below H2.out.2 (Nat.le_refl _)) H2.out.2.size).mono ?_; rintro e w3 ⟨la, lc, lvs, rfl, hu3, hb3⟩
  have hnn := gL_len (nds := nds) (out := out) (on := on)
  have hnl : (grp nds out on).length ≤ 100 := grp_le HGD.out.toGood
  have hll : LL w3.heap.size w3 (.slice la (gL nds out on).length lc) (gL nds out on) := by
    rw [hnn]
    exact hu3.gi.ll fun g hg x hx => by
      obtain ⟨l, hl, rfl⟩ := List.mem_map.1 hg
      obtain ⟨a, ha, rfl⟩ := List.mem_map.1 hx
      obtain ⟨i, hi, rfl⟩ := List.mem_iff_getElem.1 hl
      have e : (grp nds out on)[i] = (grp nds out on).getD i [] := by simp [hi]
      rw [e] at ha
      have h1 := HGD.out.toGood.w_lt hi ha
      have h2 := HGD.out.few
      unfold In64
      omega
  have H3 : Hid (Box w3 w.heap.size [.slice ga nds.length gc, .int .i64 out] ∧ Below w.heap.size w w3 ∧ LL w3.heap.size w3 (.slice la (gL nds out on).length lc) (gL nds out on) ∧ Gr w3.heap.size w3 (.slice ga nds.length gc) nds) := ⟨H2.out.1.call hb3, H2.out.2.trans (hb3.mono H2.out.2.size), hll, (HG.out.1.below (H2.out.2.trans (hb3.mono H2.out.2.size)) (Nat.le_refl _)).mono (H2.out.2.trans (hb3.mono H2.out.2.size)).size⟩
  rw [← hnn] at hnl ⊢
  have HNN : Hid ((gL nds out on).length = (grp nds out on).length) := hnn
  have HOK : Hid (GrpOk nds (gL nds out on)) := HGD.out.ok
  clear g0 g1 hu3 hb3 hll H2 hnn
  have g0 := H3.out.1.cell 0 rfl
  have g1 := H3.out.1.cell 1 rfl
  go_wp2_with fail
  refine (readsG_c w3.heap.size _ _ nds out (gL nds out on) w3 HOK.out H3.out.2.2.2 H3.out.2.2.1 (Nat.le_refl _)).mono ?_; rintro e w4 ⟨ra, rc, rvs, rfl, hR, hb4⟩
  have hR64 := HOK.out.in64
  have hRR : (gL nds out on).map (rdS nds) = rL nds out on := rfl
  rw [hRR] at hR hR64 ⊢
  have hrl : (rL nds out on).length = (gL nds out on).length := by simp [rL]
  have hllR := hR.ll hR64
  have H4 : Hid (Box w4 w.heap.size [.slice ga nds.length gc, .int .i64 out] ∧ Below w3.heap.size w3 w4 ∧ LL w4.heap.size w4 (.slice ra (rL nds out on).length rc) (rL nds out on)) := ⟨H3.out.1.call hb4, hb4, hllR⟩
  clear g0 g1 hR hR64 hb4 hllR
  have g0 := H4.out.1.cell 0 rfl
  have g1 := H4.out.1.cell 1 rfl
  go_wp2_with fail
  refine (rreads_c w3.heap.size _ _ nds out (gL nds out on) w4 HOK.out (H3.out.2.2.2.below H4.out.2.1 (Nat.le_refl _)) (H3.out.2.2.1.below H4.out.2.1) H4.out.2.1.size).mono ?_; rintro e w5 ⟨pa, pc, pvs, rfl, hP, hb5⟩
  have hP64 := HOK.out.in64
  rw [hRR] at hP hP64 ⊢
  have hllP := hP.ll hP64
  rw [hrl] at H4 hllP ⊢
  obtain ⟨n, hn⟩ : ∃ n, n = (gL nds out on).length := ⟨_, rfl⟩
  have HFX : Hid (∀ W, Below w5.heap.size w5 W → Box W w.heap.size [.slice ga nds.length gc, .int .i64 out] ∧ LL w3.heap.size W (.slice la n lc) (gL nds out on) ∧ LL w4.heap.size W (.slice ra n rc) (rL nds out on) ∧ LL w5.heap.size W (.slice pa n pc) (rL nds out on) ∧ Below w.heap.size w W ∧ Gr w3.heap.size W (.slice ga nds.length gc) nds ∧ w3.heap.size ≤ W.heap.size) := fun W hb => by
    have h45 := hb5.trans (hb.mono hb5.size)
    have h35 := H4.out.2.1.trans (h45.mono H4.out.2.1.size)
    rw [hn]
    exact ⟨H4.out.1.call h45, H3.out.2.2.1.below h35, H4.out.2.2.below h45, hllP.below hb, H3.out.2.1.trans (h35.mono H3.out.2.1.size), H3.out.2.2.2.below h35 (Nat.le_refl _), h35.size⟩
  have HL : Hid (n = (gL nds out on).length ∧ (rL nds out on).length = n ∧ n = (grp nds out on).length) := ⟨hn, by rw [hn]; exact hrl, by rw [hn]; exact HNN.out⟩
  rw [← hn] at hnl ⊢
  have H45 : Hid (w4.heap.size ≤ w5.heap.size) := hb5.size
  clear g0 g1 hP hP64 hb5 hllP hrl hRR hn H3 H4
  go_wp2_with fail
  go_loopw [8] (fun iv wr => ∃ i : Nat, i ≤ n ∧ iv = .int .i64 i ∧ Below w5.heap.size w5 wr) (fun iv _ => n - (intOf iv).toNat)
  case atStart => exact ⟨0, Nat.zero_le _, rfl, Below.refl _ _⟩
  case round =>
    obtain ⟨i, hi, rfl, hb⟩ := hrel
    have HB : Hid (Below w5.heap.size w5 wr) := hb
    by_cases hin : i < n
    · have hF := HFX.out wr hb
      obtain ⟨b, o, c, x, y, hlv, hbB, c0, s0⟩ := hF.2.2.1.at (i := i) (by rw [HL.out.2.1]; exact hin)
      rw [HL.out.2.1] at hlv
      simp only [Value.slice.injEq, true_and] at hlv
      obtain ⟨rfl, rfl⟩ := hlv
      obtain ⟨b2, o2, c2, x2, y2, hlv, hbB2, c02, s02⟩ := hF.2.2.2.1.at (i := i) (by rw [HL.out.2.1]; exact hin)
      rw [HL.out.2.1] at hlv
      simp only [Value.slice.injEq, true_and] at hlv
      obtain ⟨rfl, rfl⟩ := hlv
      obtain ⟨q, hq⟩ : ∃ q, q = ((rL nds out on).getD i []).length := ⟨_, rfl⟩
      rw [← hq] at c0 s0 c02 s02
      have HA : Hid (∀ s : Kept wr.heap.size wr, Calls Tryd.prog 12 #[.slice x q y, .slice x2 q y2] s.w (PPost s.w (.bool true))) := fun s => by
        have := equal_c _ _ _ _ s.w (sl_below s0 (s.below.mono (Nat.le_trans H45.out hb.size))) (sl_below s02 (s.below.mono hb.size))
        rw [decide_eq_true rfl] at this
        exact this
      have k0 := fun s : Kept wr.heap.size wr => s.at c0
      have k1 := fun s : Kept wr.heap.size wr => s.at c02
      have hi0 : (0 : Int) ≤ (i : Int) := by omega
      have hi1 : (i : Int) < (n : Int) := by omega
      clear s0 s02 hF hq hbB hbB2 hb
      go_wp2_with fail
      clear c0 c02
      refine wp_region_kept wr.heap.size (by kernel_rfl) (by kernel_rfl) ?_
      repeat (go_big_quiet_step (first | (go_at_call 12; with_reducible exact Calls.kept _ (Nat.le_refl _) (HA.out _))))
      refine wpQuiet_nil ?_
      rintro _ ⟨s, rfl⟩
      have HE : Hid (Below w5.heap.size w5 s.w) := HB.out.trans (s.below.mono HB.out.size)
      clear k0 k1 HA
      go_wp2_with fail
      go_roundw
      case rel => exact ⟨i + 1, by omega, by go_num, HE.out⟩
      case measure => simp [intOf]; omega
    · have ei : i = n := by omega
      subst ei
      obtain ⟨us, hus⟩ : ∃ us, us = (List.range (gL nds out on).length).map (unA (rL nds out on) (gL nds out on) out) := ⟨_, rfl⟩
      have HUS : Hid (us = (List.range (gL nds out on).length).map (unA (rL nds out on) (gL nds out on) out) ∧ us.length = i ∧ ∀ z ∈ us, In64 z) := by
        refine ⟨hus, by rw [hus, HL.out.1]; simp, fun z hz => ?_⟩
        rw [hus] at hz
        obtain ⟨j, hj, rfl⟩ := List.mem_map.1 hz
        have hj' := List.mem_range.1 hj
        rw [HNN.out] at hj'
        have := HGD.out.uN_gt (on := on) hj'
        unfold uN at this
        have hg := grp_le (on := on) HGD.out.toGood
        unfold In64
        omega
      have HU1 : Hid (∀ W, Below wr.heap.size wr W → Calls Tryd.prog 13 #[.agg #[.slice ga nds.length gc, .int .i64 out], .slice la i lc] W (UnPost W us)) := fun W hW => by
        have hF := HFX.out W (hb.trans (hW.mono hb.size))
        rw [hus]
        exact until_c w3.heap.size _ _ nds out (gL nds out on) W HOK.out hF.2.2.2.2.2.1 hF.2.1 hF.2.2.2.2.2.2
      have HU2 : Hid (∀ W, Below wr.heap.size wr W → Calls Tryd.prog 14 #[.agg #[.slice ga nds.length gc, .int .i64 out], .slice la i lc] W (RuPost17 W us)) := fun W hW => by
        have hF := HFX.out W (hb.trans (hW.mono hb.size))
        rw [hus, HGD.out.untils]
        exact runtil_c w3.heap.size _ _ nds out (gL nds out on) W HOK.out hF.2.2.2.2.2.1 hF.2.1 hF.2.2.2.2.2.2
      clear hus hb
      go_wp2_with fail
      rename_i K hK
      refine wp_region_each (fun W' => Below wr.heap.size wr W') (SA (.agg #[.slice ga nds.length gc, .int .i64 out]) (.slice la i lc) wr.heap.size i us) (by kernel_rfl) (by kernel_rfl) (Below.refl _ wr).drew ?hop ?hend
      case hop =>
        have HFX : Hid (∀ W, Below wr.heap.size wr W → Box W w.heap.size [.slice ga nds.length gc, .int .i64 out]) := fun W hW => (HFX.out W (HB.out.trans (hW.mono HB.out.size))).1
        refine Each.get (n := 8) ⟨⟨⟨⟨⟨⟨⟨⟨trivial, ?h0⟩, ?h1⟩, ?h2⟩, ?h3⟩, ?h4⟩, ?h5⟩, ?h6⟩, ?h7⟩
        case h0 =>
          refine OpIs.plain (by kernel_rfl) _ rfl rfl fun vs ev W' hf hI hd => ?_
          have e0 : ev (.tmp 2) = .pointer (some ⟨w.heap.size, 0, none⟩) := hf.off 2 rfl
          have d0 := (HFX.out W' hI).cell 0 rfl
          have d1 := (HFX.out W' hI).cell 1 rfl
          clear hK
          exact gives_pure (v := .agg #[.slice ga nds.length gc, .int .i64 out]) hI (by simp [gives, go_sem, e0, d0, d1]) rfl
        case h1 =>
          refine OpIs.plain (by kernel_rfl) _ rfl rfl fun vs ev W' hf hI hd => ?_
          have e0 : ev (.tmp 5) = .slice la i lc := hf.off 5 rfl
          clear hK
          exact gives_pure (v := .slice la i lc) hI (by simp [gives, go_sem, e0]) rfl
        case h2 =>
          refine OpIs.plain (by kernel_rfl) _ rfl rfl fun vs ev W' hf hI hd => ?_
          have e0 : ev (.tmp 47) = .agg #[.slice ga nds.length gc, .int .i64 out] := (hf.of 0 _ 47 rfl rfl rfl (of_decide_eq_true rfl)).trans (hd 0 (by kernel_rfl))
          have e1 : ev (.tmp 48) = .slice la i lc := (hf.of 1 _ 48 rfl rfl rfl (of_decide_eq_true rfl)).trans (hd 1 (by kernel_rfl))
          refine gives_mono (R := fun v w' => ∃ e, e = Ending.returned v ∧ UnPost W' us e w') ?_ ?_
          · have hc := HU1.out _ hI
            clear hK
            have e4 := hf.func 13
            simp [gives, execOp, resolve, invoke, e0, e1, e4, go_sem]
            exact hc.mono fun e w' h => by
              obtain ⟨P, hP, he, h2⟩ := h
              exact ⟨_, he, P, hP, rfl, h2⟩
          · rintro v w' ⟨e, he, P, hP, he2, h2, h3⟩
            rw [he] at he2
            cases he2
            rw [HUS.out.2.1]
            exact ⟨⟨P, rfl, h2⟩, hI.trans (h3.mono hI.size), fun j u _ h => h.below h3⟩
        case h3 =>
          refine OpIs.plain (by kernel_rfl) _ rfl rfl fun vs ev W' hf hI hd => ?_
          have e0 : ev (.tmp 2) = .pointer (some ⟨w.heap.size, 0, none⟩) := hf.off 2 rfl
          have d0 := (HFX.out W' hI).cell 0 rfl
          have d1 := (HFX.out W' hI).cell 1 rfl
          clear hK
          exact gives_pure (v := .agg #[.slice ga nds.length gc, .int .i64 out]) hI (by simp [gives, go_sem, e0, d0, d1]) rfl
        case h4 =>
          refine OpIs.plain (by kernel_rfl) _ rfl rfl fun vs ev W' hf hI hd => ?_
          have e0 : ev (.tmp 5) = .slice la i lc := hf.off 5 rfl
          clear hK
          exact gives_pure (v := .slice la i lc) hI (by simp [gives, go_sem, e0]) rfl
        case h5 =>
          refine OpIs.plain (by kernel_rfl) _ rfl rfl fun vs ev W' hf hI hd => ?_
          have e0 : ev (.tmp 50) = .agg #[.slice ga nds.length gc, .int .i64 out] := (hf.of 3 _ 50 rfl rfl rfl (of_decide_eq_true rfl)).trans (hd 3 (by kernel_rfl))
          have e1 : ev (.tmp 51) = .slice la i lc := (hf.of 4 _ 51 rfl rfl rfl (of_decide_eq_true rfl)).trans (hd 4 (by kernel_rfl))
          refine gives_mono (R := fun v w' => ∃ e, e = Ending.returned v ∧ RuPost17 W' us e w') ?_ ?_
          · have hc := HU2.out _ hI
            clear hK
            have e4 := hf.func 14
            simp [gives, execOp, resolve, invoke, e0, e1, e4, go_sem]
            exact hc.mono fun e w' h => by
              obtain ⟨a, c, he, h2⟩ := h
              exact ⟨_, he, a, c, rfl, h2⟩
          · rintro v w' ⟨e, he, a, c, he2, h2, h3⟩
            rw [he] at he2
            cases he2
            rw [HUS.out.2.1] at h2 ⊢
            exact ⟨⟨a, c, rfl, OwnP.mono h2 hI.size⟩, hI.trans (h3.mono hI.size), fun j u _ h => h.below h3⟩
        case h6 =>
          refine OpIs.plain (by kernel_rfl) _ rfl rfl fun vs ev W' hf hI hd => ?_
          obtain ⟨O, v2, b2⟩ := hd 2 (by kernel_rfl)
          obtain ⟨a, c, v5, o5⟩ := hd 5 (by kernel_rfl)
          have e0 : ev (.tmp 49) = .slice (some ⟨O, 0, none⟩) i i := (hf.of 2 _ 49 rfl rfl rfl (of_decide_eq_true rfl)).trans v2
          have e1 : ev (.tmp 52) = .slice a i c := (hf.of 5 _ 52 rfl rfl rfl (of_decide_eq_true rfl)).trans v5
          have hc := equal_c _ _ us us W' (sl_box b2 HUS.out.2.1.symm HUS.out.2.2 b2.lt (by unfold maxLen; omega)) (own_sl_x o5 HUS.out.2.2)
          rw [decide_eq_true rfl] at hc
          refine gives_mono (R := fun v w' => v = .bool true ∧ Below W'.heap.size W' w') ?_ ?_
          · clear hK
            have e4 := hf.func 12
            simp [gives, execOp, resolve, invoke, e0, e1, e4, go_sem]
            exact hc.mono fun e w' h => ⟨_, h.1, rfl, h.2⟩
          · rintro v w' ⟨rfl, h3⟩
            exact ⟨rfl, hI.trans (h3.mono hI.size), fun j u _ h => h.below h3⟩
        case h7 =>
          refine OpIs.plain (by kernel_rfl) _ rfl rfl fun vs ev W' hf hI hd => ?_
          have e0 : ev (.tmp 53) = .bool true := (hf.of 6 _ 53 rfl rfl rfl (of_decide_eq_true rfl)).trans (hd 6 (by kernel_rfl))
          clear hK
          exact gives_pure (v := .bool true) hI (by simp [gives, go_sem, e0]) rfl
      case hend =>
        intro vs W2 hI hT
        have v7 := hT 7 (by decide)
        have v7 : vs 7 = .bool true := v7
        refine ⟨?_⟩
        simp [fr, Act.put, v7]
        have HE : Hid (Below w.heap.size w W2) := (HFX.out W2 (HB.out.trans (hI.mono HB.out.size))).2.2.2.2.1
        generalize vs 0 = v0 at *
        generalize vs 1 = v1 at *
        generalize vs 2 = v2 at *
        generalize vs 3 = v3 at *
        generalize vs 4 = v4 at *
        generalize vs 5 = v5 at *
        generalize vs 6 = v6 at *
        clear hT v7 hI
        refine hK _ _ ?_
        clear hK HU1 HU2
        go_wp2_with fail
        go_ret
        exact ⟨rfl, HE.out⟩
/-! ### the law -/
section
open Go.ChangeShapes Go.WideShapes Go.ChangeAt
variable {H : Type} {enc : TypeId × Value → H} {W : World} {base : Nat}
theorem spanAlls.spanAlls_law (W : World) (ht : Tabs W) {v0 v1 : Value} {d0 d1 : DataW H} {p0 p1 : List MemPlace}
    (h0 : DataW.Trod enc Tryd.prog W 0 (fun _ => true) true 24 v0 d0 p0) (h1 : DataW.Trod enc Tryd.prog W 0 (fun _ => true) true 4 v1 d1 p1)
    (k0 : Value.okWide Tryd.prog W .any base 24 v0) (k1 : Value.okWide Tryd.prog W .any base 4 v1) :
    Calls Tryd.prog 3 #[v0, v1] W (TPost W) := by
  obtain ⟨nv, out, nds, rfl, hg, hout⟩ := graph_arg h0 k0
  obtain ⟨b, rfl⟩ := okWide_bool Tryd.underlying4 k1
  exact spanAlls_walk nv nds out b W ht hg
end
end Go.Proofs.YtmhfabekmgcjnaaDoor
