/- The walk of 'ArenaCounts'. -/
import Derived.Test.YtlcefgdiclpcjaaArL
import Derived.Test.YtlcefgdiclpcjaaKept
import Derived.Deep.RegionHeld3
namespace Go.Proofs.Ytlcefgdiclpcjaa
open Go.RowKit Go.Bx Go.ChangeShapes Go.WideShapes Go.ChangeAt
attribute [local go_sem ↓] Go.wp_at_zero Go.wp_at_succ
set_option linter.unusedVariables false

theorem okA_parts {gs : List Int} {ls : List Bool} (h : okA gs ls = true) : gs.length = ls.length ∧ 1 ≤ gs.length ∧ ls.length ≤ 1024 ∧ (∀ x ∈ gs, 0 ≤ x) ∧ (∀ x ∈ gs, x ≤ 1099511627776) ∧ gs.getD 0 0 = 0 ∧ ls.getD 0 false = true := by
  unfold okA rightA calmB at h
  simp only [Bool.and_eq_true, decide_eq_true_eq, List.all_eq_true] at h
  obtain ⟨⟨h1, ⟨⟨⟨⟨⟨h2, h3⟩, h4⟩, h5⟩, h6⟩, h7⟩⟩, h8⟩ := h
  exact ⟨h2, h3, by omega, h7, h8, h5, h6⟩

theorem keep8 {W w' : World} {b1 b2 b3 b4 : Nat} {x1 x2 x3 x4 x5 x6 x7 x8 : Value} (hb : Below W.heap.size W w')
    (k : W.cell? ⟨b1, 0, none⟩ = some x1 ∧ W.cell? ⟨b1, 1, none⟩ = some x2 ∧ W.cell? ⟨b2, 0, none⟩ = some x3 ∧ W.cell? ⟨b2, 1, none⟩ = some x4 ∧ W.cell? ⟨b3, 0, none⟩ = some x5 ∧ W.cell? ⟨b3, 1, none⟩ = some x6 ∧ W.cell? ⟨b4, 0, none⟩ = some x7 ∧ W.cell? ⟨b4, 1, none⟩ = some x8) :
    w'.cell? ⟨b1, 0, none⟩ = some x1 ∧ w'.cell? ⟨b1, 1, none⟩ = some x2 ∧ w'.cell? ⟨b2, 0, none⟩ = some x3 ∧ w'.cell? ⟨b2, 1, none⟩ = some x4 ∧ w'.cell? ⟨b3, 0, none⟩ = some x5 ∧ w'.cell? ⟨b3, 1, none⟩ = some x6 ∧ w'.cell? ⟨b4, 0, none⟩ = some x7 ∧ w'.cell? ⟨b4, 1, none⟩ = some x8 := by
  obtain ⟨k1, k2, k3, k4, k5, k6, k7, k8⟩ := k
  exact ⟨(hb.cell (lt_of_cell k1)).trans k1, (hb.cell (lt_of_cell k2)).trans k2, (hb.cell (lt_of_cell k3)).trans k3, (hb.cell (lt_of_cell k4)).trans k4, (hb.cell (lt_of_cell k5)).trans k5, (hb.cell (lt_of_cell k6)).trans k6, (hb.cell (lt_of_cell k7)).trans k7, (hb.cell (lt_of_cell k8)).trans k8⟩

set_option maxHeartbeats 3200000 in
theorem arenaCounts_walk (gv lv : Value) (gs : List Int) (ls : List Bool) (at_ gen : Int) (w : World) (hg : SlOf RInt 1 (· < w.heap.size) w gv gs) (hl : SlOf RBool 1 (· < w.heap.size) w lv ls) :
    Calls Try.prog 9 #[.agg #[gv, lv], .agg #[.int .i64 at_, .int .i64 gen]] w (TPost w) := by
  have hI : Hid (∀ W, Below w.heap.size w W → SlOf RInt 1 (· < w.heap.size) W gv gs) := fun W hb => hg.same RInt.ok (Same.of_below hb (fun _ h => h))
  have hB : Hid (∀ W, Below w.heap.size w W → SlOf RBool 1 (· < w.heap.size) W lv ls) := fun W hb => hl.same RBool.ok (Same.of_below hb (fun _ h => h))
  have hin : Hid (∀ x ∈ gs, In64 x) := by obtain ⟨_, _, _, _, _, h, _⟩ := hg.ints; exact h
  clear hg hl
  have X0 := (Box.new w [gv, lv] 46).alloc (.cells #[.int .i64 at_, .int .i64 gen] 48)
  have Y0 := Box.new (w.alloc (.cells #[gv, lv] 46)) [.int .i64 at_, .int .i64 gen] 48
  rw [size_alloc] at Y0
  have B0 : Below w.heap.size w ((w.alloc (.cells #[gv, lv] 46)).alloc (.cells #[.int .i64 at_, .int .i64 gen] 48)) := ((Below.refl _ w).alloc (Nat.le_refl _) _).alloc (by simp) _
  go_enter Try.func9, Try.ntmps9
  go_wp2_with fail
  generalize (w.alloc (.cells #[gv, lv] 46)).alloc (.cells #[.int .i64 at_, .int .i64 gen] 48) = W0 at *
  refine (awake22_c _).mono ?_; rintro e w1 ⟨rfl, hb1⟩
  have X1 := X0.call hb1
  have Y1 := Y0.call hb1
  have B1 := after B0 B0.size hb1
  have c0 := X1.cell 0 rfl
  have c1 := X1.cell 1 rfl
  clear X0 Y0 B0 hb1
  go_wp2_with fail
  refine (right22_c _ _ gs ls _ (fun b hb => Nat.lt_of_lt_of_le hb B1.size) (hI.out _ B1) (hB.out _ B1)).mono ?_; rintro e w2 ⟨rfl, hb2⟩
  clear c0 c1
  have X2 := X1.call hb2
  have Y2 := Y1.call hb2
  have B2 := after B1 B1.size hb2
  have c0 := X2.cell 0 rfl
  have c1 := X2.cell 1 rfl
  clear X1 Y1 B1 hb2
  obtain ⟨ok, hok⟩ : ∃ ok, ok = okA gs ls := ⟨_, rfl⟩
  rw [← hok]
  cases ok
  · go_wp2_with fail
    refine (awake22_c _).mono ?_; rintro e w3 ⟨rfl, hb3⟩
    have B3 := after B2 B2.size hb3
    go_wp2_with fail
    go_ret
    exact ⟨rfl, B3⟩
  · obtain ⟨hlen, hpos, h1024, hnn, hcalm, hz0, hz1⟩ := okA_parts hok.symm
    have HN : Hid (gs.length = ls.length) := hlen
    have HT : Hid _ := tk_law gs ls hlen h1024
    have HFr : Hid _ := fr_law gs ls at_ gen hlen
    have hcb := cntB_bd ls ls.length
    rw [take_all] at hcb
    have HC : Hid (∀ x ∈ gs, x < 9223372036854775807) := fun x hx => by have := hcalm x hx; omega
    have HZ : Hid (In64 (tkGen gs ls)) := by
      show In64 (tkGen gs ls)
      unfold tkGen
      split
      · unfold In64
        by_cases hk : freeAt ls < gs.length
        · have hmem : gs.getD (freeAt ls) 0 ∈ gs := by rw [List.getD_eq_getElem?_getD, List.getElem?_eq_getElem hk]; exact List.getElem_mem hk
          have := hcalm _ hmem; have := hnn _ hmem; omega
        · rw [show gs.getD (freeAt ls) 0 = 0 from by rw [List.getD_eq_getElem?_getD, List.getElem?_eq_none (by omega)]; rfl]; omega
      · unfold In64; omega
    clear hok hlen hcalm hnn hz0 hz1 hpos
    go_wp2_with fail
    refine (count_c _ _ ls _ (hB.out _ B2)).mono ?_; rintro e w3 ⟨rfl, hb3⟩
    clear c0 c1
    have X3 := X2.call hb3
    have Y3 := Y2.call hb3
    have B3 := after B2 B2.size hb3
    have c0 := X3.cell 0 rfl
    have c1 := X3.cell 1 rfl
    clear X2 Y2 B2 hb3
    go_wp2_with fail
    refine (take_c _ _ gs ls _ HN.out h1024 (fun b hb => Nat.lt_of_lt_of_le hb B3.size) (hI.out _ B3) (hB.out _ B3)).mono ?_; rintro e w4 ⟨a4, p4, b4, q4, rfl, g4, l4, hb4⟩
    clear c0 c1
    obtain ⟨T1, T2⟩ := HT.out
    have hG4 : ∀ x ∈ tkG gs ls, In64 x := by
      intro x hx
      unfold tkG at hx
      split at hx
      · exact hin.out x hx
      · split at hx
        · rcases List.mem_append.1 hx with hx | hx
          · exact hin.out x hx
          · simp at hx; subst hx; unfold In64; omega
        · exact hin.out x hx
    have hl4 : (tkG gs ls).length = (tkL ls).length := by
      have := HN.out
      unfold tkG tkL
      split
      · simp [this]
      · split <;> simp [this]
    clear HT
    have H1024 : Hid (ls.length ≤ 1100) := (by omega : ls.length ≤ 1100)
    have hn1 : cntB ls ≤ 1024 := by omega
    have hn0 : 0 ≤ cntB ls := hcb.1
    clear h1024 hcb
    have HL4 : Hid ((tkG gs ls).length = (tkL ls).length) := hl4
    have HG4 : Hid (∀ x ∈ tkG gs ls, In64 x) := hG4
    clear hl4 hG4
    generalize tkG gs ls = G at *
    generalize tkL ls = L at *
    generalize tkAt ls = A at *
    generalize tkGen gs ls = N at *
    generalize tkOk ls = O at *
    obtain ⟨OBJ, hOBJ⟩ : ∃ o, o = Obj.cells #[.slice a4 G.length p4, .slice b4 L.length q4] 46 := ⟨_, rfl⟩
    obtain ⟨OBI, hOBI⟩ : ∃ o, o = Obj.cells #[.int .i64 A, .int .i64 N] 48 := ⟨_, rfl⟩
    have U5 := (Box.new w4 [.slice a4 G.length p4, .slice b4 L.length q4] 46).alloc (.cells #[.int .i64 A, .int .i64 N] 48)
    have V5 := Box.new (w4.alloc (.cells #[.slice a4 G.length p4, .slice b4 L.length q4] 46)) [.int .i64 A, .int .i64 N] 48
    rw [size_alloc] at V5
    have X5 := ((X3.call hb4).alloc (.cells #[.slice a4 G.length p4, .slice b4 L.length q4] 46)).alloc (.cells #[.int .i64 A, .int .i64 N] 48)
    have Y5 := ((Y3.call hb4).alloc (.cells #[.slice a4 G.length p4, .slice b4 L.length q4] 46)).alloc (.cells #[.int .i64 A, .int .i64 N] 48)
    have B4 := after B3 B3.size hb4
    have B5 := (B4.alloc B4.size (.cells #[.slice a4 G.length p4, .slice b4 L.length q4] 46)).alloc (B4.alloc B4.size _).size (.cells #[.int .i64 A, .int .i64 N] 48)
    have g5 := (g4.alloc (.cells #[.slice a4 G.length p4, .slice b4 L.length q4] 46)).alloc (.cells #[.int .i64 A, .int .i64 N] 48)
    have l5 := (l4.alloc (.cells #[.slice a4 G.length p4, .slice b4 L.length q4] 46)).alloc (.cells #[.int .i64 A, .int .i64 N] 48)
    have c0 := X5.cell 0 rfl
    have c1 := X5.cell 1 rfl
    have c2 := Y5.cell 0 rfl
    have c3 := Y5.cell 1 rfl
    have c4 := U5.cell 0 rfl
    have c5 := U5.cell 1 rfl
    have c6 := V5.cell 0 rfl
    have c7 := V5.cell 1 rfl
    clear X3 Y3 B3 hb4 B4 g4 l4 OBJ hOBJ OBI hOBI
    have HT : Hid _ := And.intro T1 T2
    clear T1 T2
    obtain ⟨n, hnn⟩ : ∃ n, cntB ls = n := ⟨_, rfl⟩
    rw [hnn] at HT hn0 hn1 ⊢
    have hn : Hid (cntB ls = n) := hnn
    clear hnn
    by_cases hx : A = at_ ∧ N = gen
    · have hq : ∀ W, (binOp .neq 48 (.agg #[.int .i64 A, .int .i64 N]) (.agg #[.int .i64 at_, .int .i64 gen])).run Try.prog W = .ok (.bool false) W := fun W => by rw [neqId, decide_eq_true hx]; rfl
      cases O
      · have hc : n = 1024 := HT.out.2 rfl
        subst hc
        clear HT hx
        go_wp2_with fail
        generalize (w4.alloc (.cells #[.slice a4 G.length p4, .slice b4 L.length q4] 46)).alloc (.cells #[.int .i64 A, .int .i64 N] 48) = W5 at *
        clear g5 l5 U5 V5
        go_quiet (fail)
        rename_i nq
        have c0' := (X5.drewN nq).cell 0 rfl
        have c1' := (X5.drewN nq).cell 1 rfl
        have c2' := (Y5.drewN nq).cell 0 rfl
        have c3' := (Y5.drewN nq).cell 1 rfl
        have B6 := below_drewN B5 nq
        go_wp2_with fail
        refine (free_c _ _ gs ls at_ gen _ HN.out H1024.out HC.out (fun b hb => Nat.lt_of_lt_of_le hb B6.size) (hI.out _ B6) (hB.out _ B6)).mono ?_; rintro e w8 ⟨a8, p8, b8, q8, rfl, g8, l8, hb8⟩
        have B8 := after B6 B6.size hb8
        obtain ⟨F1, F2⟩ := HFr.out
        generalize frOk gs ls at_ gen = O8 at *
        generalize frG gs ls at_ gen = G8 at *
        generalize frL gs ls at_ gen = L8 at *
        have U9 := Box.new w8 [.slice a8 G8.length p8, .slice b8 L8.length q8] 46
        have l9 := l8.alloc (.cells #[.slice a8 G8.length p8, .slice b8 L8.length q8] 46)
        have B9 := B8.alloc B8.size (.cells #[.slice a8 G8.length p8, .slice b8 L8.length q8] 46)
        have d0 := U9.cell 0 rfl
        have d1 := U9.cell 1 rfl
        cases O8
        · have hc8 : cntB L8 = 1024 := by rw [(F2 rfl).1]; exact hn.out
          have HC8 : Hid (cntB L8 = 1024) := hc8
          clear F1 F2 HFr hc8 g8 l8 hb8 B8
          go_wp2_with fail
          refine (count_c _ _ L8 _ l9.sl).mono ?_; rintro e w10 ⟨rfl, hb10⟩
          have BF := after B9 B9.size hb10
          rw [HC8.out]
          go_wp2_with fail
          go_ret
          exact ⟨rfl, BF⟩
        · have hc8 : cntB L8 = (1024 : Int) - 1 := by rw [F1 rfl, hn.out]
          have HC8 : Hid (cntB L8 = (1024 : Int) - 1) := hc8
          clear F1 F2 HFr hc8 g8 l8 hb8 B8
          go_wp2_with fail
          refine (count_c _ _ L8 _ l9.sl).mono ?_; rintro e w10 ⟨rfl, hb10⟩
          have BF := after B9 B9.size hb10
          rw [HC8.out]
          go_wp2_with fail
          go_ret
          exact ⟨rfl, BF⟩
      · obtain ⟨T1, T2, T3, T4⟩ := HT.out.1 rfl
        have HT1 : Hid (cntB L = n + 1 ∧ hasB G L A N = true ∧ hasB gs ls A N = false ∧ hasB G L at_ gen = hasB gs ls at_ gen ∨ False ∨ cntB L = n + 1 ∧ hasB G L A N = true ∧ hasB gs ls A N = false) := .inr (.inr ⟨T1, T2, T3⟩)
        have HTa : Hid (cntB L = n + 1) := T1
        have HTb : Hid (hasB G L A N = true) := T2
        have HTc : Hid (hasB gs ls A N = false) := T3
        have HTd : Hid (∀ at_ gen, ¬(A = at_ ∧ N = gen) → hasB G L at_ gen = hasB gs ls at_ gen) := T4
        clear T1 T2 T3 T4 HT HT1 hx
        go_wp2_with fail
        generalize (w4.alloc (.cells #[.slice a4 G.length p4, .slice b4 L.length q4] 46)).alloc (.cells #[.int .i64 A, .int .i64 N] 48) = W5 at *
        have HS : Hid ((∀ W, Below W5.heap.size W5 W → SlOf RInt 1 (fun b => w3.heap.size ≤ b ∧ b < W.heap.size) W (.slice a4 G.length p4) G) ∧ ∀ W, Below W5.heap.size W5 W → SlOf RBool 1 (fun b => w3.heap.size ≤ b ∧ b < W.heap.size) W (.slice b4 L.length q4) L) := ⟨fun W hb => (g5.below hb).sl HG4.out, fun W hb => (l5.below hb).sl⟩
        clear g5 l5
        refine (count_c _ _ L _ (HS.out.2 _ (Below.refl _ _))).mono ?_; rintro e w6 ⟨rfl, hb6⟩
        rw [HTa.out]
        clear c0 c1 c2 c3 c4 c5 c6 c7
        have c4 := (U5.call hb6).cell 0 rfl
        have c5 := (U5.call hb6).cell 1 rfl
        have c6 := (V5.call hb6).cell 0 rfl
        have c7 := (V5.call hb6).cell 1 rfl
        go_wp2_with fail
        refine (has_c _ _ G L A N _ (HS.out.1 _ hb6) (HS.out.2 _ hb6) HL4.out).mono ?_; rintro e w7 ⟨rfl, hb7⟩
        rw [HTb.out]
        have hb7' := after hb6 hb6.size hb7
        clear c4 c5 c6 c7 hb7 hb6
        have c0 := (X5.call hb7').cell 0 rfl
        have c1 := (X5.call hb7').cell 1 rfl
        have c6 := (V5.call hb7').cell 0 rfl
        have c7 := (V5.call hb7').cell 1 rfl
        have B7 := after B5 B5.size hb7'
        go_wp2_with fail
        refine (has_c _ _ gs ls A N _ (hI.out _ B7) (hB.out _ B7) HN.out).mono ?_; rintro e w9 ⟨rfl, hb9⟩
        rw [HTc.out]
        have hb9' := after hb7' hb7'.size hb9
        clear c0 c1 c6 c7 hb9 hb7' B7
        have c0 := (X5.call hb9').cell 0 rfl
        have c1 := (X5.call hb9').cell 1 rfl
        have c2 := (Y5.call hb9').cell 0 rfl
        have c3 := (Y5.call hb9').cell 1 rfl
        have c4 := (U5.call hb9').cell 0 rfl
        have c5 := (U5.call hb9').cell 1 rfl
        have c6 := (V5.call hb9').cell 0 rfl
        have c7 := (V5.call hb9').cell 1 rfl
        have B9 := after B5 B5.size hb9'
        go_wp2_with fail
        go_quiet (fail)
        rename_i nq
        have c0' := ((X5.call hb9').drewN nq).cell 0 rfl
        have c1' := ((X5.call hb9').drewN nq).cell 1 rfl
        have c2' := ((Y5.call hb9').drewN nq).cell 0 rfl
        have c3' := ((Y5.call hb9').drewN nq).cell 1 rfl
        have B6 := below_drewN B9 nq
        clear B9 HTd
        go_wp2_with fail
        refine (free_c _ _ gs ls at_ gen _ HN.out H1024.out HC.out (fun b hb => Nat.lt_of_lt_of_le hb B6.size) (hI.out _ B6) (hB.out _ B6)).mono ?_; rintro e w8 ⟨a8, p8, b8, q8, rfl, g8, l8, hb8⟩
        have B8 := after B6 B6.size hb8
        obtain ⟨F1, F2⟩ := HFr.out
        generalize frOk gs ls at_ gen = O8 at *
        generalize frG gs ls at_ gen = G8 at *
        generalize frL gs ls at_ gen = L8 at *
        have U9 := Box.new w8 [.slice a8 G8.length p8, .slice b8 L8.length q8] 46
        have l9 := l8.alloc (.cells #[.slice a8 G8.length p8, .slice b8 L8.length q8] 46)
        have B9 := B8.alloc B8.size (.cells #[.slice a8 G8.length p8, .slice b8 L8.length q8] 46)
        have d0 := U9.cell 0 rfl
        have d1 := U9.cell 1 rfl
        cases O8
        · have hc8 : cntB L8 = n := by rw [(F2 rfl).1]; exact hn.out
          have HC8 : Hid (cntB L8 = n) := hc8
          clear F1 F2 HFr hc8 g8 l8 hb8 B8
          go_wp2_with fail
          refine (count_c _ _ L8 _ l9.sl).mono ?_; rintro e w10 ⟨rfl, hb10⟩
          have BF := after B9 B9.size hb10
          rw [HC8.out]
          go_wp2_with fail
          go_ret
          exact ⟨rfl, BF⟩
        · have hc8 : cntB L8 = n - 1 := by rw [F1 rfl, hn.out]
          have HC8 : Hid (cntB L8 = n - 1) := hc8
          clear F1 F2 HFr hc8 g8 l8 hb8 B8
          go_wp2_with fail
          refine (count_c _ _ L8 _ l9.sl).mono ?_; rintro e w10 ⟨rfl, hb10⟩
          have BF := after B9 B9.size hb10
          rw [HC8.out]
          go_wp2_with fail
          go_ret
          exact ⟨rfl, BF⟩
    · have hq : ∀ W, (binOp .neq 48 (.agg #[.int .i64 A, .int .i64 N]) (.agg #[.int .i64 at_, .int .i64 gen])).run Try.prog W = .ok (.bool true) W := fun W => by rw [neqId, decide_eq_false hx]; rfl
      cases O
      · have hc : n = 1024 := HT.out.2 rfl
        subst hc
        clear HT hx
        go_wp2_with fail
        generalize (w4.alloc (.cells #[.slice a4 G.length p4, .slice b4 L.length q4] 46)).alloc (.cells #[.int .i64 A, .int .i64 N] 48) = W5 at *
        clear g5 l5 U5 V5
        go_quiet (fail)
        rename_i nq
        have c0' := (X5.drewN nq).cell 0 rfl
        have c1' := (X5.drewN nq).cell 1 rfl
        have c2' := (Y5.drewN nq).cell 0 rfl
        have c3' := (Y5.drewN nq).cell 1 rfl
        have B6 := below_drewN B5 nq
        go_wp2_with fail
        refine (free_c _ _ gs ls at_ gen _ HN.out H1024.out HC.out (fun b hb => Nat.lt_of_lt_of_le hb B6.size) (hI.out _ B6) (hB.out _ B6)).mono ?_; rintro e w8 ⟨a8, p8, b8, q8, rfl, g8, l8, hb8⟩
        have B8 := after B6 B6.size hb8
        obtain ⟨F1, F2⟩ := HFr.out
        generalize frOk gs ls at_ gen = O8 at *
        generalize frG gs ls at_ gen = G8 at *
        generalize frL gs ls at_ gen = L8 at *
        have U9 := Box.new w8 [.slice a8 G8.length p8, .slice b8 L8.length q8] 46
        have l9 := l8.alloc (.cells #[.slice a8 G8.length p8, .slice b8 L8.length q8] 46)
        have B9 := B8.alloc B8.size (.cells #[.slice a8 G8.length p8, .slice b8 L8.length q8] 46)
        have d0 := U9.cell 0 rfl
        have d1 := U9.cell 1 rfl
        cases O8
        · have hc8 : cntB L8 = 1024 := by rw [(F2 rfl).1]; exact hn.out
          have HC8 : Hid (cntB L8 = 1024) := hc8
          clear F1 F2 HFr hc8 g8 l8 hb8 B8
          go_wp2_with fail
          refine (count_c _ _ L8 _ l9.sl).mono ?_; rintro e w10 ⟨rfl, hb10⟩
          have BF := after B9 B9.size hb10
          rw [HC8.out]
          go_wp2_with fail
          go_ret
          exact ⟨rfl, BF⟩
        · have hc8 : cntB L8 = (1024 : Int) - 1 := by rw [F1 rfl, hn.out]
          have HC8 : Hid (cntB L8 = (1024 : Int) - 1) := hc8
          clear F1 F2 HFr hc8 g8 l8 hb8 B8
          go_wp2_with fail
          refine (count_c _ _ L8 _ l9.sl).mono ?_; rintro e w10 ⟨rfl, hb10⟩
          have BF := after B9 B9.size hb10
          rw [HC8.out]
          go_wp2_with fail
          go_ret
          exact ⟨rfl, BF⟩
      · obtain ⟨T1, T2, T3, T4⟩ := HT.out.1 rfl
        have HT1 : Hid (cntB L = n + 1 ∧ hasB G L A N = true ∧ hasB gs ls A N = false ∧ hasB G L at_ gen = hasB gs ls at_ gen ∨ False ∨ cntB L = n + 1 ∧ hasB G L A N = true ∧ hasB gs ls A N = false) := .inr (.inr ⟨T1, T2, T3⟩)
        have HTa : Hid (cntB L = n + 1) := T1
        have HTb : Hid (hasB G L A N = true) := T2
        have HTc : Hid (hasB gs ls A N = false) := T3
        have HTd : Hid (∀ at_ gen, ¬(A = at_ ∧ N = gen) → hasB G L at_ gen = hasB gs ls at_ gen) := T4
        clear T1 T2 T3 T4 HT HT1
        go_wp2_with fail
        generalize (w4.alloc (.cells #[.slice a4 G.length p4, .slice b4 L.length q4] 46)).alloc (.cells #[.int .i64 A, .int .i64 N] 48) = W5 at *
        have HS : Hid ((∀ W, Below W5.heap.size W5 W → SlOf RInt 1 (fun b => w3.heap.size ≤ b ∧ b < W.heap.size) W (.slice a4 G.length p4) G) ∧ ∀ W, Below W5.heap.size W5 W → SlOf RBool 1 (fun b => w3.heap.size ≤ b ∧ b < W.heap.size) W (.slice b4 L.length q4) L) := ⟨fun W hb => (g5.below hb).sl HG4.out, fun W hb => (l5.below hb).sl⟩
        clear g5 l5
        refine (count_c _ _ L _ (HS.out.2 _ (Below.refl _ _))).mono ?_; rintro e w6 ⟨rfl, hb6⟩
        rw [HTa.out]
        clear c0 c1 c2 c3 c4 c5 c6 c7
        have c4 := (U5.call hb6).cell 0 rfl
        have c5 := (U5.call hb6).cell 1 rfl
        have c6 := (V5.call hb6).cell 0 rfl
        have c7 := (V5.call hb6).cell 1 rfl
        go_wp2_with fail
        refine (has_c _ _ G L A N _ (HS.out.1 _ hb6) (HS.out.2 _ hb6) HL4.out).mono ?_; rintro e w7 ⟨rfl, hb7⟩
        rw [HTb.out]
        have hb7' := after hb6 hb6.size hb7
        clear c4 c5 c6 c7 hb7 hb6
        have c0 := (X5.call hb7').cell 0 rfl
        have c1 := (X5.call hb7').cell 1 rfl
        have c6 := (V5.call hb7').cell 0 rfl
        have c7 := (V5.call hb7').cell 1 rfl
        have B7 := after B5 B5.size hb7'
        go_wp2_with fail
        refine (has_c _ _ gs ls A N _ (hI.out _ B7) (hB.out _ B7) HN.out).mono ?_; rintro e w9 ⟨rfl, hb9⟩
        rw [HTc.out]
        have hb9' := after hb7' hb7'.size hb9
        clear c0 c1 c6 c7 hb9 hb7' B7
        have c0 := (X5.call hb9').cell 0 rfl
        have c1 := (X5.call hb9').cell 1 rfl
        have c2 := (Y5.call hb9').cell 0 rfl
        have c3 := (Y5.call hb9').cell 1 rfl
        have c4 := (U5.call hb9').cell 0 rfl
        have c5 := (U5.call hb9').cell 1 rfl
        have c6 := (V5.call hb9').cell 0 rfl
        have c7 := (V5.call hb9').cell 1 rfl
        have B9 := after B5 B5.size hb9'
        have XY : Hid (Box w9 w.heap.size [gv, lv] ∧ Box w9 (w.heap.size + 1) [.int .i64 at_, .int .i64 gen] ∧ Box w9 w4.heap.size [.slice a4 G.length p4, .slice b4 L.length q4]) := ⟨X5.call hb9', Y5.call hb9', U5.call hb9'⟩
        have BR : Below w9.heap.size w9 w9 := Below.refl _ _
        have HTe : Hid (hasB G L at_ gen = hasB gs ls at_ gen) := HTd.out at_ gen hx
        clear HTd X5 Y5 U5 V5 B5
        go_wp2_with fail
        have HH : Hid ((Hid (∀ W, Below w9.heap.size w9 W → SlOf RInt 1 (· < w.heap.size) W gv gs)) ∧ (Hid (∀ W, Below w9.heap.size w9 W → SlOf RBool 1 (· < w.heap.size) W lv ls)) ∧ (Hid (∀ W, Below w9.heap.size w9 W → SlOf RInt 1 (fun b => w3.heap.size ≤ b ∧ b < W.heap.size) W (.slice a4 G.length p4) G)) ∧ (Hid (∀ W, Below w9.heap.size w9 W → SlOf RBool 1 (fun b => w3.heap.size ≤ b ∧ b < W.heap.size) W (.slice b4 L.length q4) L)) ∧ Hid (gs.length = ls.length) ∧ Hid (G.length = L.length)) :=
          ⟨fun W hb => hI.out _ (after B9 B9.size hb), fun W hb => hB.out _ (after B9 B9.size hb), fun W hb => HS.out.1 _ (after hb9' hb9'.size hb), fun W hb => HS.out.2 _ (after hb9' hb9'.size hb), HN, HL4⟩
        have HL9 : Hid (hasB G L at_ gen = hasB gs ls at_ gen ∧ Below w.heap.size w w9) := ⟨HTe.out, B9⟩
        clear HS hb9' B9 HTe BR
        have k0 := fun s : Kept w9.heap.size w9 => s.at c0
        have k1 := fun s : Kept w9.heap.size w9 => s.at c1
        have k2 := fun s : Kept w9.heap.size w9 => s.at c2
        have k3 := fun s : Kept w9.heap.size w9 => s.at c3
        have k4 := fun s : Kept w9.heap.size w9 => s.at c4
        have k5 := fun s : Kept w9.heap.size w9 => s.at c5
        have k6 := fun s : Kept w9.heap.size w9 => s.at c6
        have k7 := fun s : Kept w9.heap.size w9 => s.at c7
        have HA : Hid ((∀ s : Kept w9.heap.size w9, Calls Try.prog 35 #[.agg #[gv, lv], .agg #[.int .i64 at_, .int .i64 gen]] s.w (PPost s.w (.bool (hasB gs ls at_ gen)))) ∧ ∀ s : Kept w9.heap.size w9, Calls Try.prog 35 #[.agg #[.slice a4 G.length p4, .slice b4 L.length q4], .agg #[.int .i64 at_, .int .i64 gen]] s.w (PPost s.w (.bool (hasB gs ls at_ gen)))) :=
          ⟨fun s => has_c gv lv gs ls at_ gen _ (HH.out.1.out _ s.below) (HH.out.2.1.out _ s.below) HH.out.2.2.2.2.1.out, fun s => HL9.out.1 ▸ has_c (.slice a4 G.length p4) (.slice b4 L.length q4) G L at_ gen _ (HH.out.2.2.1.out _ s.below) (HH.out.2.2.2.1.out _ s.below) HH.out.2.2.2.2.2.out⟩
        have B9 := HL9.out.2
        clear hx HH HL9
        generalize hasB gs ls at_ gen = hb at *
        refine wp_region_kept w9.heap.size (by kernel_rfl) (by kernel_rfl) ?_
        repeat (go_big_quiet_step (first
          | (go_at_call 35; with_reducible exact Calls.kept _ (Nat.le_refl _) (HA.out.1 _))
          | (go_at_call 35; with_reducible exact Calls.kept _ (Nat.le_refl _) (HA.out.2 _))))
        refine wpQuiet_nil ?_
        rintro _ ⟨s, rfl⟩
        have c0' := k0 s
        have c1' := k1 s
        have c2' := k2 s
        have c3' := k3 s
        have B6 := after B9 B9.size s.below
        clear k0 k1 k2 k3 k4 k5 k6 k7 c0 c1 c2 c3 c4 c5 c6 c7 HA B9 XY
        generalize s.w = W6 at *
        go_wp2_with fail
        refine (free_c _ _ gs ls at_ gen _ HN.out H1024.out HC.out (fun b hb => Nat.lt_of_lt_of_le hb B6.size) (hI.out _ B6) (hB.out _ B6)).mono ?_; rintro e w8 ⟨a8, p8, b8, q8, rfl, g8, l8, hb8⟩
        have B8 := after B6 B6.size hb8
        obtain ⟨F1, F2⟩ := HFr.out
        generalize frOk gs ls at_ gen = O8 at *
        generalize frG gs ls at_ gen = G8 at *
        generalize frL gs ls at_ gen = L8 at *
        have U9 := Box.new w8 [.slice a8 G8.length p8, .slice b8 L8.length q8] 46
        have l9 := l8.alloc (.cells #[.slice a8 G8.length p8, .slice b8 L8.length q8] 46)
        have B9 := B8.alloc B8.size (.cells #[.slice a8 G8.length p8, .slice b8 L8.length q8] 46)
        have d0 := U9.cell 0 rfl
        have d1 := U9.cell 1 rfl
        cases O8
        · have hc8 : cntB L8 = n := by rw [(F2 rfl).1]; exact hn.out
          have HC8 : Hid (cntB L8 = n) := hc8
          clear F1 F2 HFr hc8 g8 l8 hb8 B8
          go_wp2_with fail
          refine (count_c _ _ L8 _ l9.sl).mono ?_; rintro e w10 ⟨rfl, hb10⟩
          have BF := after B9 B9.size hb10
          rw [HC8.out]
          go_wp2_with fail
          go_ret
          exact ⟨rfl, BF⟩
        · have hc8 : cntB L8 = n - 1 := by rw [F1 rfl, hn.out]
          have HC8 : Hid (cntB L8 = n - 1) := hc8
          clear F1 F2 HFr hc8 g8 l8 hb8 B8
          go_wp2_with fail
          refine (count_c _ _ L8 _ l9.sl).mono ?_; rintro e w10 ⟨rfl, hb10⟩
          have BF := after B9 B9.size hb10
          rw [HC8.out]
          go_wp2_with fail
          go_ret
          exact ⟨rfl, BF⟩
section
variable {H : Type} {enc : TypeId × Value → H} {W : World} {base : Nat}
theorem arenaCounts.arenaCounts_law (W : World) {v0 v1 : Value} {d0 d1 : DataW H} {p0 p1 : List MemPlace}
    (h0 : DataW.Trod enc Try.prog W 0 (fun _ => true) true 46 v0 d0 p0) (h1 : DataW.Trod enc Try.prog W 0 (fun _ => true) true 48 v1 d1 p1)
    (k0 : Value.okWide Try.prog W .any base 46 v0) (k1 : Value.okWide Try.prog W .any base 48 v1) :
    Calls Try.prog 9 #[v0, v1] W (TPost W) := by
  obtain ⟨gv, lv, gs, ls, rfl, hg, hl⟩ := arena_arg h0 k0
  obtain ⟨at_, gen, rfl⟩ := id_arg h1 k1
  exact arenaCounts_walk gv lv gs ls at_ gen W hg hl
end
end Go.Proofs.Ytlcefgdiclpcjaa
