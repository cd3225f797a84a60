/- 'OrderAlls' of whatever graph. -/
import Derived.Test.YthjfbcmbjfkodaaRr
import Derived.Test.YthjfbcmbjfkodaaRn
import Derived.Test.YthjfbcmbjfkodaaRu
import Derived.Test.YthjfbcmbjfkodaaOz
import Derived.Test.YthjfbcmbjfkodaaEach
namespace Go.Proofs.Ythjfbcmbjfkodaa
open Go.RowKit Go.Bx Go.Od Go.Hp
attribute [local go_sem ↓] Go.wp_at_zero Go.wp_at_succ
set_option linter.unusedVariables false

set_option maxHeartbeats 1600000 in
theorem few_c (B : Nat) (nv : Value) (nds : List Nd) (out : Int) (w : World) (hg : Gr B w nv nds) (hB : B ≤ w.heap.size) :
    Calls Try.prog 9 #[.agg #[nv, .int .i64 out]] w (PPost w (.bool (fewB nds 24))) := by
  have X := Box.new w [nv, .int .i64 out] 24
  have c0 := X.cell 0 rfl
  have c1 := X.cell 1 rfl
  have B1 := below_alloc w (.cells #[nv, .int .i64 out] 24)
  have HG : Hid (Gr B (w.alloc (.cells #[nv, .int .i64 out] 24)) nv nds) := hg.below B1 hB
  clear X hg
  go_enter Try.func9, Try.ntmps9
  go_wp2_with fail
  generalize w.alloc (.cells #[nv, .int .i64 out] 24) = W1 at *
  refine (rfew_c B _ nds out 24 W1 (by decide) HG.out).mono ?_; rintro e w2 ⟨rfl, hb2⟩
  have HE : Hid (Below w.heap.size w w2) := B1.trans (hb2.mono B1.size)
  clear c0 c1 B1 hb2
  go_wp2_with fail
  go_ret
  exact ⟨rfl, HE.out⟩
/-- what the operations of the first test yield -/
def A3 (B : Nat) (gv : Value) (l : List Nat) (r : Bool) (i : Nat) (v : Value) (W : World) : Prop := match i with
  | 0 => v = gv
  | 1 => ∃ a c, v = .slice a l.length c ∧ OwnP W B (.slice a l.length c) (ofN l)
  | 2 => v = gv
  | 3 => ∃ a c, v = .slice a l.length c ∧ OwnP W B (.slice a l.length c) (ofN l)
  | 4 => v = .bool true
  | 5 => v = .bool false
  | 6 => v = .bool false
  | 7 => v = gv
  | 8 => v = .bool r
  | 9 => v = gv
  | 10 => v = .bool r
  | 11 => v = .bool false
  | 12 => v = .bool false
  | _ => True
theorem A3.below {B : Nat} {gv : Value} {l : List Nat} {r : Bool} {i : Nat} {v : Value} {W W' : World} (h : A3 B gv l r i v W) (hb : Below W.heap.size W W') : A3 B gv l r i v W' := by
  match i, h with
  | 0, h => exact h
  | 1, ⟨a, c, h1, h2⟩ => exact ⟨a, c, h1, h2.below hb⟩
  | 2, h => exact h
  | 3, ⟨a, c, h1, h2⟩ => exact ⟨a, c, h1, h2.below hb⟩
  | 4, h => exact h
  | 5, h => exact h
  | 6, h => exact h
  | 7, h => exact h
  | 8, h => exact h
  | 9, h => exact h
  | 10, h => exact h
  | 11, h => exact h
  | 12, h => exact h
  | _ + 13, _ => trivial
def AI (w : World) (nv : Value) (out : Int) (W : World) : Prop := Box W w.heap.size [nv, .int .i64 out] ∧ Below w.heap.size w W
theorem AI.below {w W W' : World} {nv : Value} {out : Int} (h : AI w nv out W) (hb : Below W.heap.size W W') : AI w nv out W' := ⟨h.1.call hb, h.2.trans (hb.mono h.2.size)⟩
set_option maxRecDepth 4000 in
set_option maxHeartbeats 3200000 in
theorem orderAlls_walk (nv : Value) (nds : List Nd) (out : Int) (w : World) (hg : Gr w.heap.size w nv nds) :
    Calls Try.prog 3 #[.agg #[nv, .int .i64 out]] w (TPost w) := by
  obtain ⟨ga, gc, rfl⟩ := hg.isSl
  have hgl := hg.len_le
  have b0' := Box.new w [.slice ga nds.length gc, .int .i64 out] 24
  have B0 := below_alloc w (.cells #[.slice ga nds.length gc, .int .i64 out] 24)
  have HG : Hid (Gr w.heap.size w (.slice ga nds.length gc) nds) := hg
  clear hg
  go_enter Try.func3, Try.ntmps3
  go_wp2_with fail
  have H0 : Hid (AI w (.slice ga nds.length gc) out (w.alloc (.cells #[.slice ga nds.length gc, .int .i64 out] 24))) := ⟨b0', B0⟩
  clear b0' B0
  generalize w.alloc (.cells #[.slice ga nds.length gc, .int .i64 out] 24) = W0 at *
  refine (awake_c W0).mono ?_; rintro e w1 ⟨rfl, hb1⟩
  have H1 : Hid (AI w (.slice ga nds.length gc) out w1) := H0.out.below hb1
  have g0 := H1.out.1.cell 0 rfl
  have g1 := H1.out.1.cell 1 rfl
  clear hb1 H0
  go_wp2_with fail
  refine (few_c w.heap.size _ nds out w1 (HG.out.below H1.out.2 (Nat.le_refl _)) H1.out.2.size).mono ?_; rintro e w2 ⟨rfl, hb2⟩
  have H2 : Hid (AI w (.slice ga nds.length gc) out w2) := H1.out.below hb2
  clear g0 g1 hb2 H1
  have g0 := H2.out.1.cell 0 rfl
  have g1 := H2.out.1.cell 1 rfl
  obtain ⟨q, hq⟩ : ∃ q, q = fewB nds 24 := ⟨_, rfl⟩
  have HQ : Hid (q = fewB nds 24) := hq
  rw [← hq]
  clear hq
  cases q with
  | false =>
    go_wp2_with fail
    refine (awake_c w2).mono ?_; rintro e w3 ⟨rfl, hb3⟩
    have HE : Hid (Below w.heap.size w w3) := (H2.out.below hb3).2
    clear g0 g1 hb3
    go_wp2_with fail
    go_ret
    exact ⟨rfl, HE.out⟩
  | true =>
    have HF : Hid (nds.length ≤ 100 ∧ ∀ i, i < nds.length → (nds.getD i Nd.none).ins.length ≤ 1000) := few_of HQ.out.symm (by decide)
    have hn100 := HF.out.1
    obtain ⟨ins, hins⟩ : ∃ ins, ins = insOf nds := ⟨_, rfl⟩
    have HI : Hid (ins = insOf nds ∧ ins.length = nds.length) := ⟨hins, by rw [hins, insOf_len]⟩
    obtain ⟨l, hl⟩ : ∃ l, l = ord ins := ⟨_, rfl⟩
    have HL : Hid (l = ord ins ∧ ∀ k ∈ l, k < 1000) := ⟨hl, fun k hk => by rw [hl] at hk; have := (ord_fine ins).bound k hk; have := HI.out.2; omega⟩
    obtain ⟨r, hr⟩ : ∃ r, r = decide ((ord ins).length < nds.length) := ⟨_, rfl⟩
    have HC : Hid (∀ W, AI w (.slice ga nds.length gc) out W → Calls Try.prog 11 #[.agg #[.slice ga nds.length gc, .int .i64 out]] W (InPost W l) ∧ Calls Try.prog 12 #[.agg #[.slice ga nds.length gc, .int .i64 out]] W (InPost W l) ∧
        Calls Try.prog 13 #[.agg #[.slice ga nds.length gc, .int .i64 out]] W (PPost W (.bool r)) ∧ Calls Try.prog 14 #[.agg #[.slice ga nds.length gc, .int .i64 out]] W (PPost W (.bool r))) := fun W hW => by
      rw [hl, hr, hins]
      have hgW := HG.out.below hW.2 (Nat.le_refl _)
      exact ⟨all_c _ _ nds out W (by omega) HF.out.2 hgW hW.2.size, rall_c _ _ nds out W (by omega) HF.out.2 hgW hW.2.size, round_c _ _ nds out W (by omega) HF.out.2 hgW hW.2.size, rround_c _ _ nds out W (by omega) HF.out.2 hgW hW.2.size⟩
    clear HQ hl hr hins
    go_wp2_with fail
    rename_i K hK
    refine wp_region_each (AI w (.slice ga nds.length gc) out) (A3 w.heap.size (.agg #[.slice ga nds.length gc, .int .i64 out]) l r) (by kernel_rfl) (by kernel_rfl) ⟨H2.out.1.drew, H2.out.2.drew⟩ ?hop ?hend
    case hop =>
      refine Each.get (n := 13) ⟨⟨⟨⟨⟨⟨⟨⟨⟨⟨⟨⟨⟨trivial, ?h0⟩, ?h1⟩, ?h2⟩, ?h3⟩, ?h4⟩, ?h5⟩, ?h6⟩, ?h7⟩, ?h8⟩, ?h9⟩, ?h10⟩, ?h11⟩, ?h12⟩
      case h0 =>
        refine OpIs.plain (by kernel_rfl) _ rfl rfl fun vs ev W hf hI hd => ?_
        have e0 : ev (.tmp 1) = .pointer (some ⟨w.heap.size, 0, none⟩) := hf.off 1 rfl
        have d0 := hI.1.cell 0 rfl
        have d1 := hI.1.cell 1 rfl
        clear hK
        exact gives_pure (v := .agg #[.slice ga nds.length gc, .int .i64 out]) hI (by simp [gives, go_sem, e0, d0, d1]) rfl
      case h1 =>
        refine OpIs.plain (by kernel_rfl) _ rfl rfl fun vs ev W hf hI hd => ?_
        have e0 : ev (.tmp 16) = .agg #[.slice ga nds.length gc, .int .i64 out] := (hf.of 0 _ 16 rfl rfl rfl (of_decide_eq_true rfl)).trans (hd 0 (by kernel_rfl))
        refine gives_mono (R := fun v w' => InPost W l (.returned v) w') ?_ ?_
        · have hc := (HC.out W hI).1
          clear hK
          have e4 := hf.func 11
          simp [gives, execOp, resolve, invoke, e0, e4, go_sem]
          exact hc.mono fun e w' h => by
            obtain ⟨a, c, he, h2⟩ := h
            exact ⟨_, he, a, c, rfl, h2⟩
        · rintro v w' ⟨a, c, he, h2, h3⟩
          cases he
          exact ⟨⟨a, c, rfl, OwnP.mono h2 hI.2.size⟩, hI.below h3, fun j u _ h => h.below h3⟩
      case h2 =>
        refine OpIs.plain (by kernel_rfl) _ rfl rfl fun vs ev W hf hI hd => ?_
        have e0 : ev (.tmp 1) = .pointer (some ⟨w.heap.size, 0, none⟩) := hf.off 1 rfl
        have d0 := hI.1.cell 0 rfl
        have d1 := hI.1.cell 1 rfl
        clear hK
        exact gives_pure (v := .agg #[.slice ga nds.length gc, .int .i64 out]) hI (by simp [gives, go_sem, e0, d0, d1]) rfl
      case h3 =>
        refine OpIs.plain (by kernel_rfl) _ rfl rfl fun vs ev W hf hI hd => ?_
        have e0 : ev (.tmp 18) = .agg #[.slice ga nds.length gc, .int .i64 out] := (hf.of 2 _ 18 rfl rfl rfl (of_decide_eq_true rfl)).trans (hd 2 (by kernel_rfl))
        refine gives_mono (R := fun v w' => InPost W l (.returned v) w') ?_ ?_
        · have hc := (HC.out W hI).2.1
          clear hK
          have e4 := hf.func 12
          simp [gives, execOp, resolve, invoke, e0, e4, go_sem]
          exact hc.mono fun e w' h => by
            obtain ⟨a, c, he, h2⟩ := h
            exact ⟨_, he, a, c, rfl, h2⟩
        · rintro v w' ⟨a, c, he, h2, h3⟩
          cases he
          exact ⟨⟨a, c, rfl, OwnP.mono h2 hI.2.size⟩, hI.below h3, fun j u _ h => h.below h3⟩
      case h4 =>
        refine OpIs.plain (by kernel_rfl) _ rfl rfl fun vs ev W hf hI hd => ?_
        obtain ⟨a, c, h1, h2⟩ := hd 1 (by kernel_rfl)
        obtain ⟨a', c', h3, h4⟩ := hd 3 (by kernel_rfl)
        have e0 := (hf.of 1 _ 17 rfl rfl rfl (of_decide_eq_true rfl)).trans h1
        have e1 := (hf.of 3 _ 19 rfl rfl rfl (of_decide_eq_true rfl)).trans h3
        refine gives_mono (R := fun v w' => PPost W (.bool true) (.returned v) w') ?_ ?_
        · have hc := equal_c _ _ (ofN l) (ofN l) W (own_sl_int h2 HL.out.2) (own_sl_int h4 HL.out.2)
          rw [decide_eq_true rfl] at hc
          clear hK
          have e4 := hf.func 10
          simp [gives, execOp, resolve, invoke, e0, e1, e4, go_sem]
          exact hc.mono fun e w' h => ⟨_, h.1, rfl, h.2⟩
        · rintro v w' ⟨he, h2⟩
          cases he
          exact ⟨rfl, hI.below h2, fun j u _ h => h.below h2⟩
      case h5 =>
        refine OpIs.plain (by kernel_rfl) _ rfl rfl fun vs ev W hf hI hd => ?_
        have e0 : ev (.tmp 20) = .bool true := (hf.of 4 _ 20 rfl rfl rfl (of_decide_eq_true rfl)).trans (hd 4 (by kernel_rfl))
        clear hK
        exact gives_pure (v := .bool false) hI (by simp [gives, go_sem, e0]) rfl
      case h6 =>
        refine OpIs.plain (by kernel_rfl) _ rfl rfl fun vs ev W hf hI hd => ?_
        have e0 : ev (.tmp 21) = .bool false := (hf.of 5 _ 21 rfl rfl rfl (of_decide_eq_true rfl)).trans (hd 5 (by kernel_rfl))
        clear hK
        exact gives_pure (v := .bool false) hI (by simp [gives, go_sem, e0]) rfl
      case h7 =>
        refine OpIs.want (by kernel_rfl) _ rfl 6 false _ 22 rfl rfl rfl (of_decide_eq_true rfl) (by kernel_rfl) (fun v w h => h) fun vs ev W hf hI hd => ?_
        have e0 : ev (.tmp 1) = .pointer (some ⟨w.heap.size, 0, none⟩) := hf.off 1 rfl
        have d0 := hI.1.cell 0 rfl
        have d1 := hI.1.cell 1 rfl
        clear hK
        exact gives_pure (v := .agg #[.slice ga nds.length gc, .int .i64 out]) hI (by simp [gives, go_sem, e0, d0, d1]) rfl
      case h8 =>
        refine OpIs.want (by kernel_rfl) _ rfl 6 false _ 22 rfl rfl rfl (of_decide_eq_true rfl) (by kernel_rfl) (fun v w h => h) fun vs ev W hf hI hd => ?_
        have e0 : ev (.tmp 23) = .agg #[.slice ga nds.length gc, .int .i64 out] := (hf.of 7 _ 23 rfl rfl rfl (of_decide_eq_true rfl)).trans (hd 7 (by kernel_rfl))
        refine gives_mono (R := fun v w' => PPost W (.bool r) (.returned v) w') ?_ ?_
        · have hc := (HC.out W hI).2.2.1
          clear hK
          have e4 := hf.func 13
          simp [gives, execOp, resolve, invoke, e0, e4, go_sem]
          exact hc.mono fun e w' h => ⟨_, h.1, rfl, h.2⟩
        · rintro v w' ⟨he, h2⟩
          cases he
          exact ⟨rfl, hI.below h2, fun j u _ h => h.below h2⟩
      case h9 =>
        refine OpIs.want (by kernel_rfl) _ rfl 6 false _ 22 rfl rfl rfl (of_decide_eq_true rfl) (by kernel_rfl) (fun v w h => h) fun vs ev W hf hI hd => ?_
        have e0 : ev (.tmp 1) = .pointer (some ⟨w.heap.size, 0, none⟩) := hf.off 1 rfl
        have d0 := hI.1.cell 0 rfl
        have d1 := hI.1.cell 1 rfl
        clear hK
        exact gives_pure (v := .agg #[.slice ga nds.length gc, .int .i64 out]) hI (by simp [gives, go_sem, e0, d0, d1]) rfl
      case h10 =>
        refine OpIs.want (by kernel_rfl) _ rfl 6 false _ 22 rfl rfl rfl (of_decide_eq_true rfl) (by kernel_rfl) (fun v w h => h) fun vs ev W hf hI hd => ?_
        have e0 : ev (.tmp 25) = .agg #[.slice ga nds.length gc, .int .i64 out] := (hf.of 9 _ 25 rfl rfl rfl (of_decide_eq_true rfl)).trans (hd 9 (by kernel_rfl))
        refine gives_mono (R := fun v w' => PPost W (.bool r) (.returned v) w') ?_ ?_
        · have hc := (HC.out W hI).2.2.2
          clear hK
          have e4 := hf.func 14
          simp [gives, execOp, resolve, invoke, e0, e4, go_sem]
          exact hc.mono fun e w' h => ⟨_, h.1, rfl, h.2⟩
        · rintro v w' ⟨he, h2⟩
          cases he
          exact ⟨rfl, hI.below h2, fun j u _ h => h.below h2⟩
      case h11 =>
        refine OpIs.want (by kernel_rfl) _ rfl 6 false _ 22 rfl rfl rfl (of_decide_eq_true rfl) (by kernel_rfl) (fun v w h => h) fun vs ev W hf hI hd => ?_
        have e0 : ev (.tmp 24) = .bool r := (hf.of 8 _ 24 rfl rfl rfl (of_decide_eq_true rfl)).trans (hd 8 (by kernel_rfl))
        have e1 : ev (.tmp 26) = .bool r := (hf.of 10 _ 26 rfl rfl rfl (of_decide_eq_true rfl)).trans (hd 10 (by kernel_rfl))
        clear hK
        exact gives_pure (v := .bool false) hI (by simp [gives, go_sem, e0, e1]) rfl
      case h12 =>
        refine OpIs.plain (by kernel_rfl) _ rfl rfl fun vs ev W hf hI hd => ?_
        have e0 : ev (.tmp 22) = .bool false := (hf.of 6 _ 22 rfl rfl rfl (of_decide_eq_true rfl)).trans (hd 6 (by kernel_rfl))
        have e1 : ev (.tmp 27) = .bool false := (hf.of 11 _ 27 rfl rfl rfl (of_decide_eq_true rfl)).trans (hd 11 (by kernel_rfl))
        clear hK
        exact gives_pure (v := .bool false) hI (by simp [gives, go_sem, e0, e1, hf.const]) rfl
    case hend =>
      intro vs W hI hT
      refine ⟨?_⟩
      have h42 : vs 12 = .bool false := hT 12 (by decide)
      simp [fr, Act.put, h42]
      clear hT h42
      have H3 : Hid (AI w (.slice ga nds.length gc) out W) := hI
      clear g0 g1 H2 hI HC
      have g0 := H3.out.1.cell 0 rfl
      have g1 := H3.out.1.cell 1 rfl
      refine hK _ _ ?_
      clear hK
      generalize vs 0 = v0 at *
      generalize vs 1 = v1 at *
      generalize vs 2 = v2 at *
      generalize vs 3 = v3 at *
      generalize vs 4 = v4 at *
      generalize vs 5 = v5 at *
      generalize vs 6 = v6 at *
      generalize vs 7 = v7 at *
      generalize vs 8 = v8 at *
      generalize vs 9 = v9 at *
      generalize vs 10 = v10 at *
      generalize vs 11 = v11 at *
      go_wp2_with fail
      refine (needed_c w.heap.size _ nds out W (by omega) HF.out.2 (HG.out.below H3.out.2 (Nat.le_refl _)) H3.out.2.size).mono ?_; rintro e w4 ⟨N, hN, rfl, hbn, hb4⟩
      have H4 : Hid (AI w (.slice ga nds.length gc) out w4 ∧ Box w4 N (bc nds.length (ned ins out))) := ⟨H3.out.below hb4, by rw [HI.out.1]; exact hbn⟩
      clear g0 g1 hN hbn hb4 H3
      have g0 := H4.out.1.1.cell 0 rfl
      have g1 := H4.out.1.1.cell 1 rfl
      go_wp2_with fail
      refine (rneeded_c w.heap.size _ nds out w4 (by omega) HF.out.2 (HG.out.below H4.out.1.2 (Nat.le_refl _)) H4.out.1.2.size).mono ?_; rintro e w5 ⟨M, hM, rfl, hbm, hb5⟩
      have H5 : Hid (AI w (.slice ga nds.length gc) out w5 ∧ Box w5 N (bc nds.length (ned ins out)) ∧ Box w5 M (bc nds.length (ned ins out))) := ⟨H4.out.1.below hb5, H4.out.2.call hb5, by rw [HI.out.1]; exact hbm⟩
      clear g0 g1 hM hbm hb5 H4
      have g0 := H5.out.1.1.cell 0 rfl
      have g1 := H5.out.1.1.cell 1 rfl
      go_wp2_with fail
      refine (uses_c w.heap.size _ nds out w5 (by omega) HF.out.2 (HG.out.below H5.out.1.2 (Nat.le_refl _)) H5.out.1.2.size).mono ?_; rintro e w6 ⟨U, us, hU, rfl, hus, hb6⟩
      have H6 : Hid (AI w (.slice ga nds.length gc) out w6 ∧ Box w6 N (bc nds.length (ned ins out)) ∧ Box w6 M (bc nds.length (ned ins out)) ∧ US w6 U nds.length none (users ins) us) := ⟨H5.out.1.below hb6, H5.out.2.1.call hb6, H5.out.2.2.call hb6, by rw [HI.out.1]; exact hus⟩
      clear g0 g1 hU hus hb6 H5
      have g0 := H6.out.1.1.cell 0 rfl
      have g1 := H6.out.1.1.cell 1 rfl
      go_wp2_with fail
      refine (ruses_c w.heap.size _ nds out w6 (by omega) HF.out.2 (HG.out.below H6.out.1.2 (Nat.le_refl _)) H6.out.1.2.size).mono ?_; rintro e w7 ⟨ra, rc, rs, rfl, hro, hri, hb7⟩
      have H7 : Hid (AI w (.slice ga nds.length gc) out w7 ∧ Box w7 N (bc nds.length (ned ins out)) ∧ Box w7 M (bc nds.length (ned ins out)) ∧ US w7 U nds.length none (users ins) us ∧ w7.ownsRow w6.heap.size 28 1 (.slice ra nds.length rc) nds.length rs ∧ ∀ r, r < nds.length → OwnP w7 w6.heap.size (rs.getD r undef) (ofN (users ins r))) := ⟨H6.out.1.below hb7, H6.out.2.1.call hb7, H6.out.2.2.1.call hb7, H6.out.2.2.2.grow hb7, hro, fun r hr => by rw [HI.out.1]; exact hri r hr⟩
      clear g0 g1 hro hri hb7 H6
      have g0 := H7.out.1.1.cell 0 rfl
      go_wp2_with fail
      clear g0
      go_loopw [7] (fun iv wr => ∃ i : Nat, i ≤ nds.length ∧ iv = .int .i64 i ∧ Below w7.heap.size w7 wr) (fun iv _ => nds.length - (intOf iv).toNat)
      case atStart => exact ⟨0, Nat.zero_le _, rfl, Below.refl _ _⟩
      case round =>
        obtain ⟨i, hi, rfl, hb⟩ := hrel
        have HB : Hid (Below w7.heap.size w7 wr) := hb
        have g0 := (H7.out.1.1.call hb).cell 0 rfl
        by_cases hil : i < nds.length
        · obtain ⟨m, hm'⟩ : ∃ m, m = ned ins out i := ⟨_, rfl⟩
          have c1 := (H7.out.2.1.call hb).cell i (bc_get _ hil)
          have c2 := (H7.out.2.2.1.call hb).cell i (bc_get _ hil)
          rw [← hm'] at c1 c2
          obtain ⟨ua, uc, c3, o3⟩ := us_row (H7.out.2.2.2.1.grow hb) hil
          have hrow := owns_below H7.out.2.2.2.2.1 hb (Nat.le_refl _)
          have o4 := (H7.out.2.2.2.2.2 i hil).below hb
          obtain ⟨sa, sc, hsv⟩ := own_sl o4
          rw [hsv] at o4
          obtain ⟨gR, rfl, c4⟩ : ∃ gR, ra = some ⟨gR, 0, none⟩ ∧ wr.cell? ⟨gR, i, none⟩ = some (.slice sa (users ins i).length sc) := by
            rcases hrow.2 with ⟨h, h0⟩ | ⟨gR, cap, cur, h, _⟩
            · omega
            · cases h
              refine ⟨gR, rfl, ?_⟩
              have h1 := World.ownsRow.cellAt hrow i (by omega)
              rw [h1, ← hsv]
              have hlr : i < rs.length := by have := hrow.1; omega
              simp [hlr]
          obtain ⟨L, hL⟩ : ∃ L, L = users ins i := ⟨_, rfl⟩
          rw [← hL] at c3 c4 o3 o4
          have hLk : ∀ k ∈ L, k < 1000 := fun k hk => by rw [hL] at hk; have := ((users_mem ins i k).1 hk).1; have := HI.out.2; omega
          have k0 := fun s : Kept wr.heap.size wr => s.at g0
          have k1 := fun s : Kept wr.heap.size wr => s.at c1
          have k2 := fun s : Kept wr.heap.size wr => s.at c2
          have k3 := fun s : Kept wr.heap.size wr => s.at c3
          have k4 := fun s : Kept wr.heap.size wr => s.at c4
          have HA : Hid (∀ s : Kept wr.heap.size wr, Calls Try.prog 10 #[.slice ua L.length uc, .slice sa L.length sc] s.w (PPost s.w (.bool true))) := fun s => by
            have h := equal_c _ _ (ofN L) (ofN L) s.w (own_sl_int (o3.below s.below) hLk) (own_sl_int (o4.below s.below) hLk)
            rw [decide_eq_true rfl] at h
            exact h
          have hi0 : (0 : Int) ≤ (i : Int) := by omega
          have hi1 : (i : Int) < (nds.length : Int) := by omega
          clear c1 c2 c3 c4 o3 o4 hrow hsv hm' hLk hL hb
          cases m with
          | true =>
            go_wp2_with fail
            clear g0
            refine wp_region_kept wr.heap.size (by kernel_rfl) (by kernel_rfl) ?_
            repeat (go_big_quiet_step (first | (go_at_call 10; with_reducible exact Calls.kept _ (Nat.le_refl _) (HA.out _))))
            refine wpQuiet_nil ?_
            rintro _ ⟨s, rfl⟩
            have HE : Hid (Below w7.heap.size w7 s.w) := HB.out.trans (s.below.mono HB.out.size)
            clear k0 k1 k2 k3 k4 HA
            go_wp2_with fail
            go_roundw
            case rel => exact ⟨i + 1, by omega, by go_num, HE.out⟩
            case measure => simp [intOf]; omega
          | false =>
            go_wp2_with fail
            clear g0
            refine wp_region_kept wr.heap.size (by kernel_rfl) (by kernel_rfl) ?_
            repeat (go_big_quiet_step (first | (go_at_call 10; with_reducible exact Calls.kept _ (Nat.le_refl _) (HA.out _))))
            refine wpQuiet_nil ?_
            rintro _ ⟨s, rfl⟩
            have HE : Hid (Below w7.heap.size w7 s.w) := HB.out.trans (s.below.mono HB.out.size)
            clear k0 k1 k2 k3 k4 HA
            go_wp2_with fail
            go_roundw
            case rel => exact ⟨i + 1, by omega, by go_num, HE.out⟩
            case measure => simp [intOf]; omega
        · have ei : i = nds.length := by omega
          subst ei
          have HE : Hid (Below w.heap.size w wr) := H7.out.1.2.trans (hb.mono H7.out.1.2.size)
          clear hb
          go_wp2_with fail
          go_ret
          exact ⟨rfl, HE.out⟩
end Go.Proofs.Ythjfbcmbjfkodaa
