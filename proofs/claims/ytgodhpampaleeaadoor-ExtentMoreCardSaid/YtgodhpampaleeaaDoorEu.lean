/- Texts joined: XEu. -/
import Derived.Test.YtgodhpampaleeaaDoorEs
import Derived.Test.YtgodhpampaleeaaDoorEp
set_option maxRecDepth 4000
/- Layer 24: one kid more widens: the walk. -/
namespace Go.Proofs.YtgodhpampaleeaaDoor
open Go.RowKit Go.Bx Go.Od Go.Hp Go.ChangeShapes Go.WideShapes Go.ChangeAt
attribute [local go_sem ↓] Go.wp_at_zero Go.wp_at_succ
set_option linter.unusedVariables false

set_option maxRecDepth 8000 in
set_option maxHeartbeats 12800000 in
theorem extentMore_walk (l x : Ly) (N : Nat) (Lc Xc : List Value) (w : World) (ht : Tabs w) (hl : RLy (N + 2) (· < w.heap.size) w Lc l) (hx : RLy (N + 1) (· < w.heap.size) w Xc x) : Calls Tryd.prog 4 #[.agg Lc.toArray, .agg Xc.toArray] w (TPost w) := by
  have HRG : Hid (∀ W, Below w.heap.size w W → Calls Tryd.prog 6 #[.agg Lc.toArray, .int .i64 0] W (PPost W (.bool (rightN (N + 2) 0 l)))) := fun W hb =>
    right24_c (N + 2) w.heap.size l Lc 0 W ((RLy.ok (N + 2)).same (Same.of_below hb fun b h => h) hl) hb.size (ht.below hb) (by omega) (by omega)
  have HRX : Hid (∀ W, Below w.heap.size w W → Calls Tryd.prog 6 #[.agg Xc.toArray, .int .i64 1] W (PPost W (.bool (rightN (N + 1) 1 x)))) := fun W hb =>
    right24_c (N + 1) w.heap.size x Xc 1 W ((RLy.ok (N + 1)).same (Same.of_below hb fun b h => h) hx) hb.size (ht.below hb) (by omega) (by omega)
  have HOK : Hid ((rightN (N + 2) 0 l = true → LyOk (N + 2) l ∧ l.kids.length ≤ 8) ∧ (rightN (N + 1) 1 x = true → LyOk (N + 1) x)) := by
    refine ⟨fun e => ⟨rightN_ok (N + 2) 0 l _ w Lc hl e, ?_⟩, rightN_ok (N + 1) 1 x _ w Xc hx⟩
    unfold rightN at e
    simp only [Bool.and_eq_true, Bool.not_eq_true', decide_eq_false_iff_not] at e
    omega
  have HL : Hid (RLy (N + 2) (· < w.heap.size) w Lc l ∧ RLy (N + 1) (· < w.heap.size) w Xc x) := ⟨hl, hx⟩
  have HL1 : Hid ((∀ u ∈ Lc, u.oneCell' = true) ∧ Lc.length = 31) := ly_one hl
  have HX1 : Hid ((∀ u ∈ Xc, u.oneCell' = true) ∧ Xc.length = 31) := ly_one hx
  obtain ⟨ka, kc, HK⟩ : ∃ (ka : Option Addr) (kc : Nat), Hid (Lc[30]? = some (.slice ka l.kids.length kc) ∧ SlOf (RLy (N + 1)) 31 (· < w.heap.size) w (.slice ka l.kids.length kc) l.kids) := by
    obtain ⟨pv, fv, bv, kv, rfl, _, _, _, hK⟩ := hl
    obtain ⟨ka, kc, rfl, h1, h2, h3⟩ := hK
    exact ⟨ka, kc, rfl, ka, kc, rfl, h1, h2, h3⟩
  clear hl hx ht
  obtain ⟨rg, hrg⟩ : ∃ r, r = rightN (N + 2) 0 l := ⟨_, rfl⟩
  obtain ⟨rx, hrx⟩ : ∃ r, r = rightN (N + 1) 1 x := ⟨_, rfl⟩
  rw [← hrg] at HRG
  rw [← hrx] at HRX
  rw [← hrg, ← hrx] at HOK
  clear hrg hrx
  have H0 : Hid (Bag w ((w.alloc (.cells Lc.toArray 38)).alloc (.cells Xc.toArray 38)) [(w.heap.size, Lc), (w.heap.size + 1, Xc)]) := bag2 w Lc Xc _ _
  have hiL : (Tryd.prog.info? 38).map (·.size) = some Lc.length := by rw [HL1.out.2]; kernel_rfl
  have hiX : (Tryd.prog.info? 38).map (·.size) = some Xc.length := by rw [HX1.out.2]; kernel_rfl
  have HS31 : Hid ((Tryd.prog.info? 38).map (·.size) = some Lc.toArray.size ∧ 31 = Lc.toArray.size ∧ Lc.toArray.all (·.oneCell') = true) := ⟨by rw [List.size_toArray]; exact hiL, by rw [List.size_toArray, HL1.out.2], by rw [List.all_toArray, List.all_eq_true]; exact HL1.out.1⟩
  have HIL : Hid _ := hiL
  have HIX : Hid _ := hiX
  clear hiL hiX
  go_enter Tryd.func4, Tryd.ntmps4
  go_wp2_with fail
  generalize ((w.alloc (.cells Lc.toArray 38)).alloc (.cells Xc.toArray 38)) = W0 at *
  refine (awake24_c W0).mono ?_; rintro e W1 ⟨rfl, hb1⟩
  have H1 : Hid (Bag w W1 [(w.heap.size, Lc), (w.heap.size + 1, Xc)]) := H0.out.call hb1
  have HR1 : Hid (W1.rangeAt w.heap.size 0 Lc) := (by have h := H1.out.range 0 rfl 0 31; rwa [List.drop_zero, List.take_of_length_le (by first | (rw [HL1.out.2]; exact Nat.le_refl _) | (rw [HX1.out.2]; exact Nat.le_refl _))] at h)
  clear hb1 H0
  go_wp2_with (with_reducible refine wpList_load_want rfl 38 _ rfl w.heap.size 0 rfl Lc _ HR1.out Tryd.underlying38 rfl HIL.out ?_; simp only [Act.put, List.setIfInBounds_toArray, List.set_cons_succ, List.set_cons_zero])
  refine (HRG.out W1 H1.out.below).mono ?_; rintro e W2 ⟨rfl, hb2⟩
  have H2 : Hid (Bag w W2 [(w.heap.size, Lc), (w.heap.size + 1, Xc)]) := H1.out.call hb2
  have HR2 : Hid (W2.rangeAt (w.heap.size + 1) 0 Xc) := (by have h := H2.out.range 1 rfl 0 31; rwa [List.drop_zero, List.take_of_length_le (by first | (rw [HL1.out.2]; exact Nat.le_refl _) | (rw [HX1.out.2]; exact Nat.le_refl _))] at h)
  clear hb2 H1 HR1 HRG
  cases rg with
  | false =>
    go_wp2_with fail
    refine (awake24_c W2).mono ?_; rintro e W3 ⟨rfl, hb3⟩
    have HB : Hid (Below w.heap.size w W3) := H2.out.below.trans (hb3.mono H2.out.below.size)
    clear hb3
    go_wp2_with fail
    go_ret
    exact ⟨rfl, HB.out⟩
  | true =>
  go_wp2_with (with_reducible refine wpList_load_want rfl 38 _ rfl (w.heap.size + 1) 0 rfl Xc _ HR2.out Tryd.underlying38 rfl HIX.out ?_; simp only [Act.put, List.setIfInBounds_toArray, List.set_cons_succ, List.set_cons_zero])
  refine (HRX.out W2 H2.out.below).mono ?_; rintro e W3 ⟨rfl, hb3⟩
  have H3 : Hid (Bag w W3 [(w.heap.size, Lc), (w.heap.size + 1, Xc)]) := H2.out.call hb3
  have HR3 : Hid (W3.rangeAt w.heap.size 0 Lc) := (by have h := H3.out.range 0 rfl 0 31; rwa [List.drop_zero, List.take_of_length_le (by first | (rw [HL1.out.2]; exact Nat.le_refl _) | (rw [HX1.out.2]; exact Nat.le_refl _))] at h)
  clear hb3 H2 HR2 HRX
  cases rx with
  | false =>
    go_wp2_with fail
    refine (awake24_c W3).mono ?_; rintro e W4 ⟨rfl, hb4⟩
    have HB : Hid (Below w.heap.size w W4) := H3.out.below.trans (hb4.mono H3.out.below.size)
    clear hb4
    go_wp2_with fail
    go_ret
    exact ⟨rfl, HB.out⟩
  | true =>
  have HOL : Hid (LyOk (N + 2) l ∧ l.kids.length ≤ 8 ∧ LyOk (N + 1) x) := ⟨(HOK.out.1 (by trivial)).1, (HOK.out.1 (by trivial)).2, HOK.out.2 (by trivial)⟩
  clear HOK
  go_wp2_with (first
    | (with_reducible refine wpList_load_want rfl 38 _ rfl w.heap.size 0 rfl Lc _ HR3.out Tryd.underlying38 rfl HIL.out ?_; simp only [Act.put, List.setIfInBounds_toArray, List.set_cons_succ, List.set_cons_zero])
    | (with_reducible refine wpList_alloc_store rfl rfl 38 rfl _ _ rfl _ Lc.toArray alLayer rfl rfl HS31.out.1 (Eq.trans (b := 31) (by kernel_rfl) HS31.out.2.1) HS31.out.2.2 ?_; simp only [Act.put, List.setIfInBounds_toArray, List.set_cons_succ, List.set_cons_zero]))
  have H4 : Hid (Bag w (W3.alloc (.cells Lc.toArray 38)) [(w.heap.size, Lc), (w.heap.size + 1, Xc), (W3.heap.size, Lc)]) := H3.out.alloc Lc _
  have HMB : Hid (w.heap.size + 1 < W3.heap.size ∧ W3.heap.size < (W3.alloc (.cells Lc.toArray 38)).heap.size) := ⟨(H3.out.box 1 rfl).lt, by rw [size_alloc]; omega⟩
  clear H3 HR3
  generalize (W3.alloc (.cells Lc.toArray 38)) = W4 at *
  generalize W3.heap.size = M at *
  clear W3
  obtain ⟨B, hB⟩ : ∃ B, B = W4.heap.size := ⟨_, rfl⟩
  rw [← hB] at HMB
  obtain ⟨n, hn⟩ : ∃ n, n = l.kids.length := ⟨_, rfl⟩
  obtain ⟨kcs, HF⟩ : ∃ kcs : List Value, Hid (kcs.length = n * 31 ∧ (∀ b, ka = some b → ∀ j u, kcs[j]? = some u → w.cell? (b.add j) = some u) ∧ (∀ i x, l.kids[i]? = some x → RLy (N + 1) (· < w.heap.size) w ((kcs.drop (i * 31)).take 31) x) ∧ (ka = none → n = 0)) := by
    rw [hn]
    obtain ⟨cells, _, h1, h2, h3, h4⟩ := sl_flat HK.out.2
    exact ⟨cells, h1, h2, h3, h4⟩
  have HK30 : Hid (Lc[30]? = some (.slice ka n kc)) := by
    have h := HK.out.1
    rw [← hn] at h
    exact h
  have HN : Hid (n = l.kids.length ∧ n ≤ 8) := ⟨hn, by rw [hn]; exact HOL.out.2.1⟩
  have HI4 : Hid (MI w B M Lc Xc W4) := ⟨⟨.slice ka n kc, by rw [set30 HK30.out]; exact H4.out⟩, Nat.le_of_eq hB⟩
  clear H4 HK hn hB
  rename_i K hK
  refine wp_region_eachR (MI w B M Lc Xc) (fun _ => false) (fun j => if j = 8 then 6 else j) (fun j => match j with | 0 => 6 | 3 => 6 | 5 => 6 | _ => 100) (MT B w.heap.size M ka n kc kcs Lc Xc) (by kernel_rfl) (by kernel_rfl) ⟨⟨_, HI4.out.1.choose_spec.drew⟩, HI4.out.2⟩ (by kernel_rfl) ?hop ?hend
  case hop =>
    clear hK
    refine Each.get (n := 9) ⟨⟨⟨⟨⟨⟨⟨⟨⟨trivial, ?h0⟩, ?h1⟩, ?h2⟩, ?h3⟩, ?h4⟩, ?h5⟩, ?h6⟩, ?h7⟩, ?h8⟩
    case h0 =>
      refine OpIsR.plain (by kernel_rfl) _ rfl rfl fun vs ev W hf hI hd => ?_
      refine gives_mono (R := fun v w' => v = .slice (some ⟨W.heap.size, 0, none⟩) 0 0 ∧ w' = W.alloc (.cells #[] 38)) (by simp [gives, go_sem]) ?_
      rintro _ _ ⟨rfl, rfl⟩
      have hb : Below W.heap.size W (W.alloc (.cells #[] 38)) := (Below.refl _ _).alloc (Nat.le_refl _) _
      exact ⟨⟨_, rfl, World.ownsRow_made W #[] 0 hI.2 (Nat.zero_le _) (by simp)⟩, hI.call hb, fun j u u' _ _ h => h.below hb⟩
    case h1 =>
      refine OpIsR.plain (by kernel_rfl) _ rfl rfl fun vs ev W hf hI hd => ?_
      have e0 : ev (.tmp 2) = .pointer (some ⟨w.heap.size, 0, none⟩) := hf.off 2 rfl
      exact gives_pureR (f := fun _ => _) hI (by simp [gives, go_sem, e0]) rfl
    case h2 =>
      refine OpIsR.plain (by kernel_rfl) _ rfl rfl fun vs ev W hf hI hd => ?_
      have e0 : ev (.tmp 21) = .pointer (some ⟨w.heap.size, 30, none⟩) := (hf.of 1 _ 21 rfl rfl rfl (of_decide_eq_true rfl)).trans (hd 1 (by kernel_rfl) (.inr (.inl (by decide))))
      have e1 := hI.1.choose_spec.cell 0 rfl 30 HK30.out
      exact gives_pureR (f := fun _ => _) hI (by simp [gives, go_sem, e0, e1]) rfl
    case h3 =>
      refine OpIsR.plain (by kernel_rfl) _ rfl rfl fun vs ev W hf hI hd => ?_
      obtain ⟨g0, h1, h2⟩ := hd 0 (by kernel_rfl) (.inr (.inr ⟨_, rfl, by kernel_rfl⟩))
      have e0 := (hf.of 0 _ 20 rfl rfl rfl (of_decide_eq_true rfl)).trans h1
      have e1 : ev (.tmp 22) = .slice ka n kc := (hf.of 2 _ 22 rfl rfl rfl (of_decide_eq_true rfl)).trans (hd 2 (by kernel_rfl) (.inr (.inl (by decide))))
      obtain ⟨i3, z3, hi3, hz0, hz1, hz2, hz3⟩ := infoLy'
      obtain ⟨a', c', W', hr, ho, hbl⟩ := app_emptyR (P := Tryd.prog) 36 38 i3 z3 31 i3.bytes Tryd.underlying36 hi3 hz0 hz1 rfl hz3 (by decide) h2 ka n kc kcs HF.out.1
        (fun b hb j u hu => by have h := HF.out.2.1 b hb j u hu; rw [hI.bel.cell (cell_lt h)]; exact h) (flat_one (by rw [HF.out.1, HN.out.1]) HF.out.2.2.1) HF.out.2.2.2 (by have := HN.out.2; unfold maxLen; omega) (by have := Nat.mul_le_mul HN.out.2 hz2; omega) hI.2
      refine gives_mono (R := fun v w' => v = .slice a' n c' ∧ w' = W') (by unfold gives; simp [execOp, resolve, invoke, builtin, e0, e1, hr, Result.andThen]) ?_
      rintro _ _ ⟨rfl, rfl⟩
      exact ⟨⟨a', c', rfl, ho⟩, hI.call hbl, fun j u u' _ _ h => h.below hbl⟩
    case h4 =>
      refine OpIsR.plain (by kernel_rfl) _ rfl rfl fun vs ev W hf hI hd => ?_
      have e0 : ev (.tmp 3) = .pointer (some ⟨w.heap.size + 1, 0, none⟩) := hf.off 3 rfl
      have hr : W.rangeAt (w.heap.size + 1) 0 Xc := by
        have h := hI.1.choose_spec.range 1 rfl 0 31
        rwa [List.drop_zero, List.take_of_length_le (by rw [HX1.out.2]; exact Nat.le_refl _)] at h
      exact gives_pureR (f := fun _ => _) hI (gives_load 38 _ rfl (w.heap.size + 1) 0 e0 Xc _ hr Tryd.underlying38 rfl HIX.out) rfl
    case h5 =>
      refine OpIsR.plain (by kernel_rfl) _ rfl rfl fun vs ev W hf hI hd => ?_
      have e0 : ev (.tmp 24) = .agg Xc.toArray := (hf.of 4 _ 24 rfl rfl rfl (of_decide_eq_true rfl)).trans (hd 4 (by kernel_rfl) (.inr (.inl (by decide))))
      obtain ⟨i3, z3, hi3, hz0, hz1, hz2, hz3⟩ := infoLy'
      refine gives_mono (gives_one 36 38 _ rfl Xc e0 i3 z3 31 Tryd.underlying36 hi3 hz0 hz1 (by decide) (by decide) HX1.out.2) ?_
      rintro _ _ ⟨rfl, rfl⟩
      have hb : Below W.heap.size W (W.alloc (.cells Xc.toArray 38)) := (Below.refl _ _).alloc (Nat.le_refl _) _
      exact ⟨⟨_, rfl, World.ownsRow_lit W Xc.toArray 1 hI.2 (by unfold maxLen; omega) (by rw [List.size_toArray, HX1.out.2])⟩, hI.call hb, fun j u u' _ _ h => h.below hb⟩
    case h6 =>
      refine OpIsR.plain (by kernel_rfl) _ rfl rfl fun vs ev W hf hI hd => ?_
      obtain ⟨a3, c3, h1, h2⟩ := hd 3 (by kernel_rfl) (.inl rfl)
      obtain ⟨g5, h3, h4⟩ := hd 5 (by kernel_rfl) (.inl rfl)
      have e0 := (hf.of 3 _ 23 rfl rfl rfl (of_decide_eq_true rfl)).trans h1
      have e1 := (hf.of 5 _ 25 rfl rfl rfl (of_decide_eq_true rfl)).trans h3
      obtain ⟨i3, z3, hi3, hz0, hz1, hz2, hz3⟩ := infoLy'
      obtain ⟨g', c', W', hr, ho, _, hg⟩ := app_kept (P := Tryd.prog) 36 38 i3 z3 31 i3.bytes Tryd.underlying36 hi3 hz0 hz1 rfl hz3 (by decide) _ n kcs h2 ⟨g5, 0, none⟩ 1 1 Xc (by rw [HX1.out.2])
        (fun j u hu => by
          rw [Go.WideShapes.add_plain, Nat.zero_add, World.ownsRow.cellAt h4 j (by have := (List.getElem?_eq_some_iff.1 hu).1; rw [HX1.out.2] at this; omega)]
          exact hu) HX1.out.1 (by decide) (by have := HN.out.2; unfold maxLen; omega) (by have := Nat.mul_le_mul (show n + 1 ≤ 9 from Nat.succ_le_succ HN.out.2) hz2; omega) hI.2
      refine gives_mono (R := fun v w' => v = .slice (some ⟨g', 0, none⟩) (n + 1) c' ∧ w' = W') (by unfold gives; simp [execOp, resolve, invoke, builtin, e0, e1, hr, Result.andThen]) ?_
      rintro _ _ ⟨rfl, rfl⟩
      have hM := HMB.out
      refine ⟨⟨_, c', rfl, ho⟩, ⟨⟨_, hI.1.choose_spec.grown hg h2 (fun p hp => ?_) (by omega)⟩, Nat.le_trans hI.2 hg.size⟩, fun j u u' hj hdj h => ?_⟩
      · simp only [List.mem_cons, List.not_mem_nil, or_false] at hp
        rcases hp with rfl | rfl | rfl <;> (dsimp only; omega)
      · exact h.grow (fun e => hdj (by subst e; rfl)) (fun e => hdj (by subst e; rfl)) (fun e => hdj (by subst e; rfl)) hj hM.2 h2 hg
    case h7 =>
      refine OpIsR.plain (by kernel_rfl) _ rfl rfl fun vs ev W hf hI hd => ?_
      have e0 : ev (.tmp 5) = .pointer (some ⟨M, 0, none⟩) := hf.off 5 rfl
      exact gives_pureR (f := fun _ => _) hI (by simp [gives, go_sem, e0]) rfl
    case h8 =>
      refine OpIsR.plain (by kernel_rfl) _ rfl rfl fun vs ev W hf hI hd => ?_
      obtain ⟨a6, c6, h1, h2⟩ := hd 6 (by kernel_rfl) (.inr (.inl (by decide)))
      have e0 := (hf.of 6 _ 26 rfl rfl rfl (of_decide_eq_true rfl)).trans h1
      have e1 : ev (.tmp 27) = .pointer (some ⟨M, 30, none⟩) := (hf.of 7 _ 27 rfl rfl rfl (of_decide_eq_true rfl)).trans (hd 7 (by kernel_rfl) (.inr (.inl (by decide))))
      have e2 := hI.1.choose_spec.frozen 2 rfl 30
      have e3 := hI.1.choose_spec.cell 2 rfl 30 (List.getElem?_set_self (by rw [HL1.out.2]; decide))
      refine gives_mono (R := fun v w' => w' = W.setCell ⟨M, 30, none⟩ (.slice a6 (n + 1) c6)) (by simp [gives, go_sem, e0, e1, e2, e3]) ?_
      rintro _ _ rfl
      have hb := hI.1.choose_spec.set 2 rfl 30 (.slice a6 (n + 1) c6)
      refine ⟨?_, ⟨⟨.slice a6 (n + 1) c6, ?_⟩, ?_⟩, fun j u u' hj _ h => h.set hj HMB.out.2 _⟩
      · show Box _ M (Lc.set 30 (upd vs 8 _ 6))
        rw [show upd vs 8 _ 6 = vs 6 from if_neg (by decide), h1]
        have h := (hI.1.choose_spec.box 2 rfl).self 30 (.slice a6 (n + 1) c6)
        rw [List.set_set] at h
        exact h
      · rw [List.set_set] at hb
        exact hb
      · exact Nat.le_trans hI.2 (Nat.le_of_eq (by simp [World.setCell]))
  case hend =>
    intro vs W hI hT
    obtain ⟨a6, c6, h6, ho⟩ := hT 6 (by decide) (by decide)
    have h8 : Box W M (Lc.set 30 (vs 6)) := hT 8 (by decide) (by decide)
    rw [h6] at h8
    have HO : Hid (W.ownsRow B 38 31 (.slice a6 (n + 1) c6) (n + 1) (kcs ++ Xc)) := ho
    have HM : Hid (Box W M (Lc.set 30 (.slice a6 (n + 1) c6))) := h8
    have HI : Hid (MI w B M Lc Xc W) := hI
    refine ⟨?_⟩
    simp only [fr, Act.put, h6]
    clear hT h8 ho hI h6 HI4
    simp
    refine hK _ _ ?_
    clear hK
    obtain ⟨m, hm⟩ : ∃ m, m = Ly.mk l.i0 l.i1 l.look (l.kids ++ [x]) := ⟨_, rfl⟩
    have hMO : LyOk (N + 2) m := by
      rw [hm]
      refine ⟨HOL.out.1.1, fun k hk => ?_⟩
      rcases List.mem_append.1 hk with hk | hk
      · exact HOL.out.1.2 k hk
      · rw [List.mem_singleton.1 hk]; exact HOL.out.2.2
    have hMW : WiS (grpN (N + 1) l) (grpN (N + 1) m) ∧ WiS (resN (N + 1) x) (grpN (N + 1) m) := by
      rw [hm]
      have h := grp_more (N + 1) l.i0 l.i1 l.look l.kids x
      have e : Ly.mk l.i0 l.i1 l.look l.kids = l := by cases l; rfl
      rw [e] at h
      exact h
    have hMR : ∀ s : Kept W.heap.size W, RLy (N + 2) (· < s.w.heap.size) s.w (Lc.set 30 (.slice a6 (n + 1) c6)) m := fun s => by
      have hb := HI.out.bel.trans (s.below.mono HI.out.bel.size)
      rw [hm]
      refine m_reads hb HL.out.1 HL.out.2 (B := B) (kcs := kcs) ?_ (by rw [HF.out.1, HN.out.1]) HF.out.2.2.1
      have h := owns_below HO.out s.below (Nat.le_refl _)
      rw [HN.out.1] at h
      rw [HN.out.1]
      exact h
    obtain ⟨gl, hgl⟩ : ∃ g, g = grpN (N + 1) l := ⟨_, rfl⟩
    obtain ⟨gm, hgm⟩ : ∃ g, g = grpN (N + 1) m := ⟨_, rfl⟩
    obtain ⟨gx, hgx⟩ : ∃ g, g = resN (N + 1) x := ⟨_, rfl⟩
    have HC : Hid (∀ s : Kept W.heap.size W, Calls Tryd.prog 10 #[.agg Lc.toArray] s.w (PPost s.w (rv gl)) ∧ Calls Tryd.prog 10 #[.agg (Lc.set 30 (.slice a6 (n + 1) c6)).toArray] s.w (PPost s.w (rv gm)) ∧ Calls Tryd.prog 11 #[.agg Xc.toArray] s.w (PPost s.w (rv gx))
        ∧ Calls Tryd.prog 9 #[rv gl, rv gm] s.w (PPost s.w (.bool true)) ∧ Calls Tryd.prog 9 #[rv gx, rv gm] s.w (PPost s.w (.bool true))) := fun s => by
      have hb := HI.out.bel.trans (s.below.mono HI.out.bel.size)
      have hS : Same (· < w.heap.size) w s.w := Same.of_below hb fun b h => h
      have h4 := rwithin_c gl gm s.w (by rw [hgl]; exact grpN_pl HOL.out.1)
      have h5 := rwithin_c gx gm s.w (by rw [hgx]; exact resN_pl _ _)
      rw [refWi_of (by rw [hgl, hgm]; exact hMW.1)] at h4
      rw [refWi_of (by rw [hgx, hgm]; exact hMW.2)] at h5
      refine ⟨?_, ?_, ?_, h4, h5⟩
      · rw [hgl]; exact group_c (N + 1) w.heap.size l Lc s.w ((RLy.ok (N + 2)).same hS HL.out.1) hb.size HOL.out.1
      · rw [hgm]; exact group_c (N + 1) s.w.heap.size m _ s.w (hMR s) (Nat.le_refl _) hMO
      · rw [hgx]; exact result_c (N + 1) w.heap.size x Xc s.w ((RLy.ok (N + 1)).same hS HL.out.2) hb.size HOL.out.2.2
    have HLL : Hid (∀ w', (∃ s : Kept W.heap.size W, w' = s.w) → w'.rangeAt w.heap.size 0 Lc) := fun w' ⟨s, hs⟩ => by
      rw [hs]
      have h := (HI.out.1.choose_spec.call s.below).range 0 rfl 0 31
      rwa [List.drop_zero, List.take_of_length_le (by rw [HL1.out.2]; exact Nat.le_refl _)] at h
    have HLX : Hid (∀ w', (∃ s : Kept W.heap.size W, w' = s.w) → w'.rangeAt (w.heap.size + 1) 0 Xc) := fun w' ⟨s, hs⟩ => by
      rw [hs]
      have h := (HI.out.1.choose_spec.call s.below).range 1 rfl 0 31
      rwa [List.drop_zero, List.take_of_length_le (by rw [HX1.out.2]; exact Nat.le_refl _)] at h
    have HLM : Hid (∀ w', (∃ s : Kept W.heap.size W, w' = s.w) → w'.rangeAt M 0 (Lc.set 30 (.slice a6 (n + 1) c6))) := fun w' ⟨s, hs⟩ => by
      rw [hs]
      have h := (HM.out.call s.below).range 0 31
      rwa [List.drop_zero, List.take_of_length_le (by rw [List.length_set, HL1.out.2]; exact Nat.le_refl _)] at h
    have HIM : Hid ((Tryd.prog.info? 38).map (·.size) = some (Lc.set 30 (.slice a6 (n + 1) c6)).length) := by
      have h : (Tryd.prog.info? 38).map (·.size) = some (Lc.set 30 (.slice a6 (n + 1) c6)).length := by rw [List.length_set]; exact HIL.out
      exact h
    have HBW : Hid (Below w.heap.size w W) := HI.out.bel
    clear hMO hMW hMR hgl hgm hgx hm HO HM HI HF HK30 HN HMB HOL HL
    obtain ⟨Mc, hMc⟩ : ∃ Mc, Mc = Lc.set 30 (.slice a6 (n + 1) c6) := ⟨_, rfl⟩
    rw [← hMc] at HC HLM HIM
    clear hMc
    go_wp2_with fail
    refine wp_region_kept W.heap.size (by kernel_rfl) (by kernel_rfl) ?_
    refine wpQuiet_load rfl 38 _ rfl w.heap.size 0 rfl Lc _ HLL.out Tryd.underlying38 rfl HIL.out ?_
    simp only [Act.put, List.setIfInBounds_toArray, List.set_cons_succ, List.set_cons_zero]
    (go_big_quiet_step (first
      | (go_at_call 10; with_reducible exact Calls.kept _ (Nat.le_refl _) (HC.out _).1)
      | (go_at_call 10; with_reducible exact Calls.kept _ (Nat.le_refl _) (HC.out _).2.1)
      | (go_at_call 11; with_reducible exact Calls.kept _ (Nat.le_refl _) (HC.out _).2.2.1)
      | (go_at_call 9; with_reducible exact Calls.kept _ (Nat.le_refl _) (HC.out _).2.2.2.1)
      | (go_at_call 9; with_reducible exact Calls.kept _ (Nat.le_refl _) (HC.out _).2.2.2.2)))
    refine wpQuiet_load rfl 38 _ rfl M 0 rfl Mc _ HLM.out Tryd.underlying38 rfl HIM.out ?_
    simp only [Act.put, List.setIfInBounds_toArray, List.set_cons_succ, List.set_cons_zero]
    iterate 3 (go_big_quiet_step (first
      | (go_at_call 10; with_reducible exact Calls.kept _ (Nat.le_refl _) (HC.out _).1)
      | (go_at_call 10; with_reducible exact Calls.kept _ (Nat.le_refl _) (HC.out _).2.1)
      | (go_at_call 11; with_reducible exact Calls.kept _ (Nat.le_refl _) (HC.out _).2.2.1)
      | (go_at_call 9; with_reducible exact Calls.kept _ (Nat.le_refl _) (HC.out _).2.2.2.1)
      | (go_at_call 9; with_reducible exact Calls.kept _ (Nat.le_refl _) (HC.out _).2.2.2.2)))
    refine wpQuiet_load_want rfl 38 _ rfl (w.heap.size + 1) 0 rfl Xc _ HLX.out Tryd.underlying38 rfl HIX.out ?_
    simp only [Act.put, List.setIfInBounds_toArray, List.set_cons_succ, List.set_cons_zero]
    (go_big_quiet_step (first
      | (go_at_call 10; with_reducible exact Calls.kept _ (Nat.le_refl _) (HC.out _).1)
      | (go_at_call 10; with_reducible exact Calls.kept _ (Nat.le_refl _) (HC.out _).2.1)
      | (go_at_call 11; with_reducible exact Calls.kept _ (Nat.le_refl _) (HC.out _).2.2.1)
      | (go_at_call 9; with_reducible exact Calls.kept _ (Nat.le_refl _) (HC.out _).2.2.2.1)
      | (go_at_call 9; with_reducible exact Calls.kept _ (Nat.le_refl _) (HC.out _).2.2.2.2)))
    refine wpQuiet_load_want rfl 38 _ rfl M 0 rfl Mc _ HLM.out Tryd.underlying38 rfl HIM.out ?_
    simp only [Act.put, List.setIfInBounds_toArray, List.set_cons_succ, List.set_cons_zero]
    repeat (go_big_quiet_step (first
      | (go_at_call 10; with_reducible exact Calls.kept _ (Nat.le_refl _) (HC.out _).1)
      | (go_at_call 10; with_reducible exact Calls.kept _ (Nat.le_refl _) (HC.out _).2.1)
      | (go_at_call 11; with_reducible exact Calls.kept _ (Nat.le_refl _) (HC.out _).2.2.1)
      | (go_at_call 9; with_reducible exact Calls.kept _ (Nat.le_refl _) (HC.out _).2.2.2.1)
      | (go_at_call 9; with_reducible exact Calls.kept _ (Nat.le_refl _) (HC.out _).2.2.2.2)))
    refine wpQuiet_nil ?_
    rintro _ ⟨s, rfl⟩
    have HE : Hid (Below w.heap.size w s.w) := HBW.out.trans (s.below.mono HBW.out.size)
    go_wp2_with fail
    go_ret
    exact ⟨rfl, HE.out⟩
section
variable {H : Type} {enc : TypeId × Value → H} {W : World} {base : Nat}
theorem extentMore.extentMore_law (W : World) (ht : Tabs W) {v0 v1 : Value} {d0 d1 : DataW H} {p0 p1 : List MemPlace}
    (h0 : DataW.Trod enc Tryd.prog W 0 (fun _ => true) true 38 v0 d0 p0) (h1 : DataW.Trod enc Tryd.prog W 0 (fun _ => true) true 38 v1 d1 p1)
    (k0 : Value.okWide Tryd.prog W .any base 38 v0) (k1 : Value.okWide Tryd.prog W .any base 38 v1) :
    Calls Tryd.prog 4 #[v0, v1] W (TPost W) := by
  obtain ⟨l, n, cs, rfl, hl⟩ := layer24_arg h0 k0
  obtain ⟨x, n', cx, rfl, hx⟩ := layer24_arg h1 k1
  exact extentMore_walk l x (max n n') cs cx W ht (RLy.up (n + 1) (max n n' + 2) (by omega) hl) (RLy.up (n' + 1) (max n n' + 1) (by omega) hx)
end
end Go.Proofs.YtgodhpampaleeaaDoor
