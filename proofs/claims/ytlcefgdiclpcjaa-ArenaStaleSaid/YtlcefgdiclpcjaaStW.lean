/- The walk of 'ArenaStale'. -/
import Derived.Test.YtlcefgdiclpcjaaStM
import Derived.Test.YtlcefgdiclpcjaaStF
namespace Go.Proofs.Ytlcefgdiclpcjaa
open Go.RowKit Go.Bx Go.ChangeShapes Go.WideShapes Go.ChangeAt
attribute [local go_sem ↓] Go.wp_at_zero Go.wp_at_succ
set_option linter.unusedVariables false

/-- k acts done -/
def SR (w : World) (nb : Nat) (gv lv x y : Value) (k0 : Nat) (gen0 : Int) (k : Nat) (sl : Value) (W : World) : Prop :=
  ∃ (G : List Int) (L : List Bool) (ids : List (Int × Int)) (a : Option Addr) (p : Nat) (b : Option Addr) (q : Nat) (d : Option Addr) (r : Nat), sl = .slice d ids.length r ∧
    SI w nb gv lv x y (.slice a G.length p) (.slice b L.length q) G L (.slice d ids.length r) ids W ∧ StInv k G L ids k0 gen0

set_option maxHeartbeats 3200000 in
set_option maxRecDepth 100000 in
theorem arenaStale_walk (gv lv av : Value) (gs : List Int) (ls : List Bool) (at_ gen : Int) (xs : List Int) (w : World) (hg : SlOf RInt 1 (· < w.heap.size) w gv gs) (hl : SlOf RBool 1 (· < w.heap.size) w lv ls) (ha : SlOf RInt 1 (· < w.heap.size) w av xs) :
    Calls Try.prog 12 #[.agg #[gv, lv], .agg #[.int .i64 at_, .int .i64 gen], av] w (TPost w) := by
  obtain ⟨ga, gc, rfl, -, hgm, hin0, -⟩ := hg.ints
  obtain ⟨la, lc, rfl, -, hlm, -⟩ := hl.bools
  obtain ⟨aa, ac, rfl, hxc, hxm, hxin, hxcell⟩ := ha.ints
  have hI3 : Hid (∀ W, Below w.heap.size w W → SlOf RInt 1 (· < w.heap.size) W (.slice ga gs.length gc) gs ∧ SlOf RBool 1 (· < w.heap.size) W (.slice la ls.length lc) ls) := fun W hb => ⟨hg.same RInt.ok (Same.of_below hb (fun _ h => h)), hl.same RBool.ok (Same.of_below hb (fun _ h => h))⟩
  have hin : Hid (∀ x ∈ gs, In64 x) := hin0
  have HX : Hid ((∀ x ∈ xs, In64 x) ∧ ∀ i, i < xs.length → ∃ b o, aa = some ⟨b, o, none⟩ ∧ b < w.heap.size ∧ ∀ j, j < xs.length → w.cell? ⟨b, o + j, none⟩ = some (.int .i64 (xs.getD j 0))) := ⟨hxin, hxcell⟩
  clear hg hl ha hin0 hxin hxcell hgm hlm hxc hxm
  have X0 := (Box.new w [.slice ga gs.length gc, .slice la ls.length lc] 46).alloc (.cells #[.int .i64 at_, .int .i64 gen] 48)
  have Y0 := Box.new (w.alloc (.cells #[.slice ga gs.length gc, .slice la ls.length lc] 46)) [.int .i64 at_, .int .i64 gen] 48
  rw [size_alloc] at Y0
  have B0 : Below w.heap.size w ((w.alloc (.cells #[.slice ga gs.length gc, .slice la ls.length lc] 46)).alloc (.cells #[.int .i64 at_, .int .i64 gen] 48)) := ((Below.refl _ w).alloc (Nat.le_refl _) _).alloc (by simp) _
  go_enter Try.func12, Try.ntmps12
  go_wp2_with fail
  generalize (w.alloc (.cells #[.slice ga gs.length gc, .slice la ls.length lc] 46)).alloc (.cells #[.int .i64 at_, .int .i64 gen] 48) = W0 at *
  refine (awake22_c _).mono ?_; rintro e w1 ⟨rfl, hb1⟩
  have X1 := X0.call hb1
  have Y1 := Y0.call hb1
  have B1 := after B0 B0.size hb1
  have c0 := X1.cell 0 rfl
  have c1 := X1.cell 1 rfl
  clear X0 Y0 B0 hb1
  go_wp2_with fail
  refine (right22_c _ _ gs ls _ (fun b hb => Nat.lt_of_lt_of_le hb B1.size) (hI3.out _ B1).1 (hI3.out _ B1).2).mono ?_; rintro e w2 ⟨rfl, hb2⟩
  clear c0 c1
  have X2 := X1.call hb2
  have Y2 := Y1.call hb2
  have B2 := after B1 B1.size hb2
  have c0 := X2.cell 0 rfl
  have c1 := X2.cell 1 rfl
  have c2 := Y2.cell 0 rfl
  have c3 := Y2.cell 1 rfl
  clear X1 Y1 B1 hb2
  obtain ⟨ok, hok⟩ : ∃ ok, ok = okA gs ls := ⟨_, rfl⟩
  have HO : Hid (ok = okA gs ls) := hok
  rw [← hok]
  clear hok
  cases ok
  · go_wp2_with fail
    refine (awake22_c _).mono ?_; rintro e w3 ⟨rfl, hb3⟩
    have B3 := after B2 B2.size hb3
    go_wp2_with fail
    go_ret
    exact ⟨rfl, B3⟩
  by_cases h60 : 60 < xs.length
  · have h1' : (60 : Int) < (xs.length : Int) := by omega
    go_wp2_with fail
    refine (awake22_c _).mono ?_; rintro e w3 ⟨rfl, hb3⟩
    have B3 := after B2 B2.size hb3
    go_wp2_with fail
    go_ret
    exact ⟨rfl, B3⟩
  have h1' : ¬ (60 : Int) < (xs.length : Int) := by omega
  have H60 : Hid (xs.length ≤ 60) := (by omega : xs.length ≤ 60)
  obtain ⟨hlen, hpos, h1024, hnn, hcalm, hz0, hz1⟩ := okA_parts HO.out.symm
  have HN : Hid (gs.length = ls.length) := hlen
  have HC : Hid (∀ x ∈ gs, x < 9223372036854775807) := fun x hx => by have := hcalm x hx; omega
  have H1024 : Hid (ls.length ≤ 1024) := h1024
  clear hlen hpos h1024 hnn hcalm hz0 hz1 h60
  go_wp2_with fail
  refine (free_c _ _ gs ls at_ gen _ HN.out (Nat.le_trans H1024.out (by decide)) HC.out (fun b hb => Nat.lt_of_lt_of_le hb B2.size) (hI3.out _ B2).1 (hI3.out _ B2).2).mono ?_; rintro e w3 ⟨a3, p3, b3, q3, rfl, g3, l3, hb3⟩
  clear c0 c1 c2 c3 h1'
  have X3 := (X2.call hb3).alloc (.cells #[.slice a3 (frG gs ls at_ gen).length p3, .slice b3 (frL gs ls at_ gen).length q3] 46)
  have Y3 := (Y2.call hb3).alloc (.cells #[.slice a3 (frG gs ls at_ gen).length p3, .slice b3 (frL gs ls at_ gen).length q3] 46)
  have U3 := Box.new w3 [.slice a3 (frG gs ls at_ gen).length p3, .slice b3 (frL gs ls at_ gen).length q3] 46
  have N3 : (w3.alloc (.cells #[.slice a3 (frG gs ls at_ gen).length p3, .slice b3 (frL gs ls at_ gen).length q3] 46)).heap[w3.heap.size]? = some (.cells #[.slice a3 (frG gs ls at_ gen).length p3, .slice b3 (frL gs ls at_ gen).length q3] 46 (0, 0)) := heap_alloc_new w3 _
  have B3 := (after B2 B2.size hb3).alloc (after B2 B2.size hb3).size (.cells #[.slice a3 (frG gs ls at_ gen).length p3, .slice b3 (frL gs ls at_ gen).length q3] 46)
  have hz2 : w.heap.size + 2 ≤ w2.heap.size := by have := Y2.lt; omega
  have hz3 : w2.heap.size ≤ w3.heap.size := hb3.size
  have g4 := (g3.alloc (.cells #[.slice a3 (frG gs ls at_ gen).length p3, .slice b3 (frL gs ls at_ gen).length q3] 46)).mono hz2
  have l4 := (l3.alloc (.cells #[.slice a3 (frG gs ls at_ gen).length p3, .slice b3 (frL gs ls at_ gen).length q3] 46)).mono hz2
  clear X2 Y2 B2 hb3 g3 l3
  have c0 := X3.cell 0 rfl
  have c1 := X3.cell 1 rfl
  have c2 := Y3.cell 0 rfl
  have c3 := Y3.cell 1 rfl
  have c4 := U3.cell 0 rfl
  have c5 := U3.cell 1 rfl
  have HE : Hid (frOk gs ls at_ gen = false → frL gs ls at_ gen = ls ∧ frG gs ls at_ gen = gs) := (fr_law gs ls at_ gen HN.out).2
  obtain ⟨O, hO⟩ : ∃ O, O = frOk gs ls at_ gen := ⟨_, rfl⟩
  rw [← hO]
  have HOK : Hid (O = frOk gs ls at_ gen) := hO
  clear hO
  have HST : Hid (O = true → ∃ k0 : Nat, at_ = k0 ∧ StInv 0 (frG gs ls at_ gen) (frL gs ls at_ gen) [] k0 gen ∧ hasB gs ls at_ gen = true) := by
    intro h
    have h' : frOk gs ls at_ gen = true := HOK.out.symm.trans h
    have h'' := h'
    unfold frOk at h''
    simp only [Bool.and_eq_true] at h''
    obtain ⟨k, hk, _⟩ := (hasB_iff gs ls at_ gen).1 h''.1
    subst hk
    exact ⟨k, rfl, StInv.start HO.out.symm h', h''.1⟩
  cases O
  · obtain ⟨e1, e2⟩ := HE.out HOK.out.symm
    clear HE HST HOK
    generalize frL gs ls at_ gen = L' at *
    generalize frG gs ls at_ gen = G' at *
    have e1' := e1.symm
    have e2' := e2.symm
    clear e1 e2
    subst e1' e2'
    have R0 : Ar _ _ _ _ _ := ⟨own_slI g4 hin.out, own_slB l4⟩
    have HR : Hid (Ar _ _ _ _ _) := R0
    clear R0 g4 l4 N3
    go_wp2_with fail
    generalize w3.alloc (.cells #[.slice a3 gs.length p3, .slice b3 ls.length q3] 46) = W3 at *
    refine (same22_c _ _ _ _ gs gs ls ls _ (hI3.out _ B3).1 (hI3.out _ B3).2 HR.out.1 HR.out.2).mono ?_; rintro e w9 ⟨rfl, hb9⟩
    have BF := after B3 B3.size hb9
    go_wp2_with fail
    go_ret
    exact ⟨ret_b (by simp [sameA]), BF⟩
  obtain ⟨k0, hk0, hst, hhas⟩ := HST.out rfl
  subst hk0
  have HD : Hid (hasB (frG gs ls k0 gen) (frL gs ls k0 gen) k0 gen = false) := hst.dead
  have HH : Hid (hasB gs ls k0 gen = true) := hhas
  have HS0 : Hid (StInv 0 (frG gs ls k0 gen) (frL gs ls k0 gen) [] k0 gen) := hst
  clear HST hst hhas HE HOK HO HC
  generalize frG gs ls k0 gen = G at *
  generalize frL gs ls k0 gen = L at *
  go_wp2_with fail
  generalize hW3 : w3.alloc (.cells #[.slice a3 G.length p3, .slice b3 L.length q3] 46) = W3 at *
  clear hW3
  generalize w3.heap.size = nb at *
  clear w3
  have HG : Hid (∀ x ∈ G, In64 x) := fun x hx => by have := HS0.out.nn x hx; have := HS0.out.calm x hx; unfold In64; omega
  have SI0 : SI w nb (.slice ga gs.length gc) (.slice la ls.length lc) (.int .i64 k0) (.int .i64 gen) (.slice a3 G.length p3) (.slice b3 L.length q3) G L (.slice none 0 0) [] W3 := ⟨X3, Y3, N3, by omega, g4, l4, OwnD.nil _ _, B3⟩
  clear X3 Y3 N3 g4 l4 B3 U3 hz2 hz3
  refine (has_c _ _ gs ls k0 gen _ (hI3.out _ SI0.2.2.2.2.2.2.2).1 (hI3.out _ SI0.2.2.2.2.2.2.2).2 HN.out).mono ?_; rintro e w4 ⟨rfl, hb4⟩
  rw [HH.out]
  have SI1 := SI0.below hb4
  clear SI0 hb4 c0 c1 c2 c3 c4 c5
  have c2 := SI1.2.1.cell 0 rfl
  have c3 := SI1.2.1.cell 1 rfl
  have c4 := SI1.box.cell 0 rfl
  have c5 := SI1.box.cell 1 rfl
  go_wp2_with fail
  refine (has_c _ _ G L k0 gen _ (SI1.ar HG.out).1 (SI1.ar HG.out).2 HS0.out.len).mono ?_; rintro e w5 ⟨rfl, hb5⟩
  rw [HD.out]
  have SI2 := SI1.below hb5
  clear SI1 hb5 c2 c3 c4 c5
  have HI0 : Hid (SI w nb (.slice ga gs.length gc) (.slice la ls.length lc) (.int .i64 k0) (.int .i64 gen) (.slice a3 G.length p3) (.slice b3 L.length q3) G L (.slice none 0 0) [] w5) := SI2
  clear SI2 HD HH HG hI3 hin HN H1024
  go_wp2_with fail
  go_loopw [9, 10] (fun l i wr => ∃ k : Nat, k ≤ xs.length ∧ i = .int .i64 k ∧ SR w nb (.slice ga gs.length gc) (.slice la ls.length lc) (.int .i64 k0) (.int .i64 gen) k0 gen k l wr) (fun _ i _ => xs.length - (intOf i).toNat)
  case atStart => exact ⟨0, by omega, rfl, G, L, [], a3, p3, b3, q3, none, 0, rfl, HI0.out, HS0.out⟩
  case round =>
    obtain ⟨k, hk, rfl, G, L, ids, a, p, b, q, d, r, rfl, S, V⟩ := hrel
    clear HI0 HS0
    by_cases hlt : k < xs.length
    · obtain ⟨b0, o0, haa, hb0, hcl⟩ := HX.out.2 k hlt
      subst haa
      have d0 := (S.2.2.2.2.2.2.2.cell (p := ⟨b0, o0 + k, none⟩) hb0).trans (hcl k hlt)
      have hxi : In64 (xs.getD k 0) := HX.out.1 _ (by rw [List.getD_eq_getElem?_getD, List.getElem?_eq_getElem hlt]; exact List.getElem_mem hlt)
      have hk0 : (0 : Int) ≤ (k : Int) := by omega
      have hk1 : (k : Int) < (xs.length : Int) := by omega
      have hkm : k ≤ 60 := by have := H60.out; omega
      generalize xs.getD k 0 = x at *
      have HV : Hid (StInv k G L ids k0 gen) := V
      have HG : Hid (∀ x ∈ G, In64 x) := fun y hy => by have := V.nn y hy; have := V.calm y hy; unfold In64; omega
      have c4 := S.box.cell 0 rfl
      have c5 := S.box.cell 1 rfl
      have hil : ids.length ≤ 60 := by have := V.few; omega
      clear hcl V
      by_cases hA : Int.tmod x 3 = 0
      · by_cases hE : ids = []
        · have HNL : Hid (ids.length = 0) := by rw [hE]; rfl
          have HNL' := HNL.out
          clear hE hil
          rw [HNL'] at S ⊢
          clear HNL'
          go_wp2_with fail
          refine (take_c _ _ G L _ HV.out.len HV.out.max (fun b hb => hb) (S.ar HG.out).1 (S.ar HG.out).2).mono ?_; rintro e w6 ⟨a6, p6, b6, q6, rfl, g6, l6, hb6⟩
          have S6 := ((S.below hb6).alloc (.cells #[.slice a6 (tkG G L).length p6, .slice b6 (tkL L).length q6] 46)).alloc (.cells #[.int .i64 (tkAt L), .int .i64 (tkGen G L)] 48)
          have U6 := (Box.new w6 [.slice a6 (tkG G L).length p6, .slice b6 (tkL L).length q6] 46).alloc (.cells #[.int .i64 (tkAt L), .int .i64 (tkGen G L)] 48)
          have UN := (heap_alloc_new w6 (.cells #[.slice a6 (tkG G L).length p6, .slice b6 (tkL L).length q6] 46)) |> fun h => (((Below.refl _ _).alloc (Nat.le_refl _) (.cells #[.int .i64 (tkAt L), .int .i64 (tkGen G L)] 48)).block w6.heap.size (by rw [size_alloc]; omega) : ((w6.alloc (.cells #[.slice a6 (tkG G L).length p6, .slice b6 (tkL L).length q6] 46)).alloc (.cells #[.int .i64 (tkAt L), .int .i64 (tkGen G L)] 48)).heap[w6.heap.size]? = _).trans h
          have V6 := Box.new (w6.alloc (.cells #[.slice a6 (tkG G L).length p6, .slice b6 (tkL L).length q6] 46)) [.int .i64 (tkAt L), .int .i64 (tkGen G L)] 48
          rw [size_alloc] at V6
          have g7 := (((g6.mono S.size).alloc (.cells #[.slice a6 (tkG G L).length p6, .slice b6 (tkL L).length q6] 46)).alloc (.cells #[.int .i64 (tkAt L), .int .i64 (tkGen G L)] 48))
          have l7 := (((l6.mono S.size).alloc (.cells #[.slice a6 (tkG G L).length p6, .slice b6 (tkL L).length q6] 46)).alloc (.cells #[.int .i64 (tkAt L), .int .i64 (tkGen G L)] 48))
          have HT : Hid (tkOk L = true → StInv (k + 1) (tkG G L) (tkL L) (ids ++ [(tkAt L, tkGen G L)]) k0 gen ∧ (∀ x ∈ ids, ¬ (x.1 = tkAt L ∧ x.2 = tkGen G L))) := fun h => HV.out.take h
          clear c4 c5 d0 S g6 l6 hb6
          have c2 := S6.2.1.cell 0 rfl
          have c3 := S6.2.1.cell 1 rfl
          have c4 := S6.box.cell 0 rfl
          have c5 := S6.box.cell 1 rfl
          have u0 := U6.cell 0 rfl
          have u1 := U6.cell 1 rfl
          have v0 := V6.cell 0 rfl
          have v1 := V6.cell 1 rfl
          generalize tkG G L = G6 at *
          generalize tkL L = L6 at *
          generalize tkAt L = A at *
          generalize tkGen G L = N at *
          generalize tkOk L = O at *
          cases O
          · have HW : Hid (StInv (k + 1) G L ids k0 gen) := HV.out.same
            clear HT g7 l7 u0 u1 v0 v1 U6 V6 UN
            go_wp2_with fail
            generalize (w6.alloc (.cells #[.slice a6 G6.length p6, .slice b6 L6.length q6] 46)).alloc (.cells #[.int .i64 A, .int .i64 N] 48) = W6 at *
            clear c2 c3 c4 c5
            refine (has_c _ _ G L k0 gen _ (S6.ar HG.out).1 (S6.ar HG.out).2 HW.out.len).mono ?_; rintro e w20 ⟨rfl, hb20⟩
            rw [HW.out.dead]
            have S20 := S6.below hb20
            clear S6 hb20
            have t2 := S20.2.1.cell 0 rfl
            have t3 := S20.2.1.cell 1 rfl
            have t4 := S20.box.cell 0 rfl
            have t5 := S20.box.cell 1 rfl
            go_wp2_with fail
            refine (right_c _ _ G L _ (fun b hb => hb) (S20.ar HG.out).1 (S20.ar HG.out).2).mono ?_; rintro e w21 ⟨rfl, hb21⟩
            rw [HW.out.right]
            have S21 := S20.below hb21
            clear S20 hb21 t2 t3 t4 t5
            go_wp2_with fail
            go_roundw
            case rel => exact ⟨k + 1, by omega, by go_num, G, L, ids, a, p, b, q, d, r, by rw [HNL.out], by rw [HNL.out]; exact S21, HW.out⟩
            case measure => simp [intOf]; omega

          · obtain ⟨hT1, hT2⟩ := HT.out rfl
            have HW : Hid (StInv (k + 1) G6 L6 (ids ++ [(A, N)]) k0 gen) := hT1
            have HNE : Hid (∀ x ∈ ids, ¬ (x.1 = A ∧ x.2 = N)) := hT2
            clear HT hT1 hT2
            go_wp2_with fail
            generalize (w6.alloc (.cells #[.slice a6 G6.length p6, .slice b6 L6.length q6] 46)).alloc (.cells #[.int .i64 A, .int .i64 N] 48) = W6 at *
            generalize w6.heap.size = nc at *
            clear w6
            have w0 := S6.2.2.1
            go_loopw [14] (fun i wr => ∃ j n : Nat, j ≤ 0 ∧ i = .int .i64 j ∧ wr = W6.drewN n) (fun i _ => 0 - (intOf i).toNat)
            case atStart => exact ⟨0, 0, by omega, rfl, rfl⟩
            case round =>
              obtain ⟨j, n, hj, rfl, rfl⟩ := hrel
              by_cases hjl : j < 0
              · omega
              · have hje : 0 = j := by omega
                subst hje
                have S7 := S6.drewN n
                have J7 : SJ w nc (.slice a6 G6.length p6) (.slice b6 L6.length q6) G6 L6 (W6.drewN n) := ⟨UN, g7.below (below_drewN (Below.refl _ _) n), l7.below (below_drewN (Below.refl _ _) n)⟩
                have v2 : (W6.drewN n).cell? ⟨nc + 1, 0, none⟩ = some (.int .i64 A) := v0
                have v3 : (W6.drewN n).cell? ⟨nc + 1, 1, none⟩ = some (.int .i64 N) := v1
                clear c2 c3 c4 c5 u0 u1 v0 v1 w0 S6 U6 V6 g7 l7 HNE UN
                generalize W6.drewN n = W7 at *
                obtain ⟨i3, hi3, hz0, hz1, hz2⟩ := info_parts infoD
                have hsz7 := S7.size
                have HLI : Hid (0 + 1 ≤ maxLen ∧ (0 + 1) * 16 ≤ 140737488355328) := by
                  refine ⟨?_, ?_⟩
                  · unfold maxLen; omega
                  · omega
                go_wp2_with (at_builtin; refine wpList_append_lies _ rfl _ _ 58 rfl (w.heap.size + 2) 48 i3 (.agg #[.int .i64 0, .int .i64 0]) 2 16 Try.underlying58 hi3 hz0 hz1 hz2 rfl (by decide) (.slice d 0 r) 0 (idCells ids) rfl (show World.ownsRow _ _ _ _ _ _ _ from by have h := (S7.2.2.2.2.2.2.1.alloc (.cells #[.int .i64 A, .int .i64 N] 48)); unfold OwnD at h; rw [HNL.out] at h; exact h) _ 1 1 [.int .i64 A, .int .i64 N] rfl rfl (news_two (by simp) (by simp)) (by simp [Value.oneCell']) (by decide) HLI.out.1 HLI.out.2 (by first | omega | (simp; omega)) _ rfl ?_; intro g8 c8 w8 hown8 hgrow8 hat8 hlt8; have O8 := ownD_one (x := (A, N)) HNL.out hown8; have S8 := (S7.alloc (.cells #[.int .i64 A, .int .i64 N] 48)).app hgrow8 O8; have J8 := (J7.alloc (.cells #[.int .i64 A, .int .i64 N] 48)).app (S7.2.2.2.2.2.2.1.alloc (.cells #[.int .i64 A, .int .i64 N] 48)) hgrow8; have S9 := S8.setB J8.2.1 J8.2.2; have k0' := J8.box.cell 0 rfl; have k1' := J8.box.cell 1 rfl; have k2' := S8.box.cell 0 rfl; have k3' := S8.box.cell 1 rfl; have k4' := S8.box.frozen 0; have k5' := S8.box.frozen 1; have k6' := S9.box.cell 0 rfl; have k7' := S9.box.cell 1 rfl; have k8' := S9.2.1.cell 0 rfl; have k9' := S9.2.1.cell 1 rfl; clear hown8 hgrow8 hat8 hlt8)
                have HG6 : Hid (∀ x ∈ G6, In64 x) := fun y hy => by have := HW.out.nn y hy; have := HW.out.calm y hy; unfold In64; omega
                have HNL9 : Hid ((ids ++ [(A, N)]).length = 0 + 1) := (by rw [List.length_append, HNL.out]; rfl : (ids ++ [(A, N)]).length = 0 + 1)
                clear k0' k1' k2' k3' k4' k5' k6' k7' k8' k9' S7 S8 J7 J8 O8 HLI hi3 hz0 hz1 hz2 hsz7 v2 v3
                generalize (w8.setCell ⟨nb, 0, none⟩ (.slice a6 G6.length p6)).setCell ⟨nb, 1, none⟩ (.slice b6 L6.length q6) = W9 at *
                refine (has_c _ _ G6 L6 k0 gen _ (S9.ar HG6.out).1 (S9.ar HG6.out).2 HW.out.len).mono ?_; rintro e w20 ⟨rfl, hb20⟩
                rw [HW.out.dead]
                have S20 := S9.below hb20
                clear S9 hb20
                have t2 := S20.2.1.cell 0 rfl
                have t3 := S20.2.1.cell 1 rfl
                have t4 := S20.box.cell 0 rfl
                have t5 := S20.box.cell 1 rfl
                go_wp2_with fail
                refine (right_c _ _ G6 L6 _ (fun b hb => hb) (S20.ar HG6.out).1 (S20.ar HG6.out).2).mono ?_; rintro e w21 ⟨rfl, hb21⟩
                rw [HW.out.right]
                have S21 := S20.below hb21
                clear S20 hb21 t2 t3 t4 t5
                go_wp2_with fail
                go_roundw
                case rel => exact ⟨k + 1, by omega, by go_num, G6, L6, (ids ++ [(A, N)]), a6, p6, b6, q6, (some ⟨g8, 0, none⟩), c8, by rw [HNL9.out], by rw [HNL9.out]; exact S21, HW.out⟩
                case measure => simp [intOf]; omega


        · have HE0 : Hid (0 < ids.length) := (by cases ids with
            | nil => exact absurd rfl hE
            | cons _ _ => simp : 0 < ids.length)
          have hE1 : ((ids.length : Int) == 0) = false := by have := HE0.out; simp only [beq_eq_false_iff_ne, ne_eq]; omega
          go_wp2_with fail
          obtain ⟨jj, hjj, ejj⟩ := index_ok x ids.length HE0.out hil
          rw [ejj]
          obtain ⟨gd, i1, i2, hdd, -, hgd, hx, -, -⟩ := S.2.2.2.2.2.2.1.at hjj
          subst hdd
          have HXJ : Hid (ids[jj]? = some (i1, i2)) := hx
          have HFR := HV.out.free jj (i1, i2) hx
          have HFO : Hid (frOk G L i1 i2 = true) := HFR.1
          have HW : Hid (StInv (k + 1) (frG G L i1 i2) (frL G L i1 i2) (ids.eraseIdx jj) k0 gen) := HFR.2
          have HCM : Hid (∀ y ∈ G, y < 9223372036854775807) := fun y hy => by have := HV.out.calm y hy; omega
          have HNB : Hid (nb < wr.heap.size) := (Array.getElem?_eq_some_iff.1 S.2.2.1).1
          have hj0 : (0 : Int) ≤ (jj : Int) := by omega
          have hj1 : (jj : Int) < (ids.length : Int) := by omega
          clear ejj hx HFR c4 c5 d0
          rename_i K hK
          refine wp_region_eachR (fun W => SI w nb (.slice ga gs.length gc) (.slice la ls.length lc) (.int .i64 k0) (.int .i64 gen) (.slice a G.length p) (.slice b L.length q) G L (.slice (some ⟨gd, 0, none⟩) ids.length r) ids W ∧ wr.heap.size ≤ W.heap.size) (fun _ => false) (fun j => if j = 10 then 9 else j) (fun _ => 100) (FT (w.heap.size + 2) wr.heap.size (.slice a G.length p) (.slice b L.length q) (.slice (some ⟨gd, 0, none⟩) ids.length r) jj gd i1 i2 (frG G L i1 i2) (frL G L i1 i2)) (by kernel_rfl) (by kernel_rfl) ⟨S.drewN 1, Nat.le_refl _⟩ (by kernel_rfl) ?hop ?hend
          case hop =>
            refine Each.get (n := 12) ⟨⟨⟨⟨⟨⟨⟨⟨⟨⟨⟨⟨trivial, ?h0⟩, ?h1⟩, ?h2⟩, ?h3⟩, ?h4⟩, ?h5⟩, ?h6⟩, ?h7⟩, ?h8⟩, ?h9⟩, ?h10⟩, ?h11⟩
            case h0 =>
              refine OpIsR.plain (by kernel_rfl) _ rfl rfl fun vs ev W hf hI hd => ?_
              have e0 : ev (.tmp 7) = .pointer (some ⟨nb, 0, none⟩) := hf.off 7 rfl
              have d1 := hI.1.box.cell 0 rfl
              have d2 := hI.1.box.cell 1 rfl
              clear hK
              exact gives_pureR (f := fun _ => _) hI (by simp [gives, go_sem, e0, d1, d2]) rfl
            case h1 =>
              refine OpIsR.plain (by kernel_rfl) _ rfl rfl fun vs ev W hf hI hd => ?_
              have e0 : ev (.tmp 9) = .slice (some ⟨gd, 0, none⟩) ids.length r := hf.off 9 rfl
              clear hK
              exact gives_pureR (f := fun _ => _) hI (by simp [gives, go_sem, e0]) rfl
            case h2 =>
              refine OpIsR.plain (by kernel_rfl) _ rfl rfl fun vs ev W hf hI hd => ?_
              have e0 : ev (.tmp 15) = .int .i64 jj := hf.off 15 rfl
              clear hK
              exact gives_pureR (f := fun _ => _) hI (by simp [gives, go_sem, e0]) rfl
            case h3 =>
              refine OpIsR.plain (by kernel_rfl) _ rfl rfl fun vs ev W hf hI hd => ?_
              have e0 : ev (.tmp 105) = .slice (some ⟨gd, 0, none⟩) ids.length r := (hf.of 1 _ 105 rfl rfl rfl (of_decide_eq_true rfl)).trans (hd 1 (by kernel_rfl) (.inr (by decide)))
              have e1 : ev (.tmp 106) = .int .i64 jj := (hf.of 2 _ 106 rfl rfl rfl (of_decide_eq_true rfl)).trans (hd 2 (by kernel_rfl) (.inr (by decide)))
              clear hK
              exact gives_pureR (f := fun _ => _) hI (by simp [gives, go_sem, e0, e1, hj0, hj1]) rfl
            case h4 =>
              refine OpIsR.plain (by kernel_rfl) _ rfl rfl fun vs ev W hf hI hd => ?_
              have e0 : ev (.tmp 107) = .pointer (some ⟨gd, jj * 2, none⟩) := (hf.of 3 _ 107 rfl rfl rfl (of_decide_eq_true rfl)).trans (hd 3 (by kernel_rfl) (.inr (by decide)))
              obtain ⟨gd', j1, j2, hd', _, _, hx', q1, q2⟩ := hI.1.2.2.2.2.2.2.1.at hjj
              cases hd'
              rw [HXJ.out] at hx'
              cases hx'
              clear hK
              exact gives_pureR (f := fun _ => _) hI (by simp [gives, go_sem, e0, q1, q2]) rfl
            case h5 =>
              refine OpIsR.plain (by kernel_rfl) _ rfl rfl fun vs ev W hf hI hd => ?_
              have e0 : ev (.tmp 104) = .agg #[.slice a G.length p, .slice b L.length q] := (hf.of 0 _ 104 rfl rfl rfl (of_decide_eq_true rfl)).trans (hd 0 (by kernel_rfl) (.inr (by decide)))
              have e1 : ev (.tmp 108) = .agg #[.int .i64 i1, .int .i64 i2] := (hf.of 4 _ 108 rfl rfl rfl (of_decide_eq_true rfl)).trans (hd 4 (by kernel_rfl) (.inr (by decide)))
              refine gives_mono (R := fun v w' => FrPost W (frG G L i1 i2) (frL G L i1 i2) true (.returned v) w') ?_ ?_
              · have hc : Calls _ _ _ _ (FrPost W (frG G L i1 i2) (frL G L i1 i2) true) := HFO.out ▸ free_c _ _ G L i1 i2 W HV.out.len (Nat.le_trans HV.out.max (by decide)) HCM.out (fun b hb => hb) (hI.1.ar HG.out).1 (hI.1.ar HG.out).2
                clear hK
                have e4 := hf.func 36
                simp [gives, execOp, resolve, invoke, e0, e1, e4, go_sem]
                exact hc.mono fun e w' h => by
                  obtain ⟨a, p, b, q, he, h2⟩ := h
                  exact ⟨_, he, a, p, b, q, rfl, h2⟩
              · rintro v w' ⟨a, p, b, q, he, h2, h3, h4⟩
                cases he
                exact ⟨⟨a, p, b, q, rfl, h2.mono hI.1.size, h3.mono hI.1.size⟩, ⟨hI.1.below h4, Nat.le_trans hI.2 h4.size⟩, fun j u u' _ _ h => h.below h4⟩
            case h6 =>
              refine OpIsR.plain (by kernel_rfl) _ rfl rfl fun vs ev W hf hI hd => ?_
              obtain ⟨a, p, b, q, h1, h2, h3⟩ := hd 5 (by kernel_rfl) (.inr (by decide))
              have e0 := (hf.of 5 _ 109 rfl rfl rfl (of_decide_eq_true rfl)).trans h1
              clear hK
              refine gives_mono (R := fun v w' => v = .tuple #[.agg #[.slice a (frG G L i1 i2).length p, .slice b (frL G L i1 i2).length q], .bool true] ∧ w' = W) (by simp [gives, go_sem, e0]) ?_
              rintro _ _ ⟨rfl, rfl⟩
              exact ⟨⟨a, p, b, q, rfl, h2, h3⟩, hI, fun _ _ _ _ _ h => h⟩
            case h7 =>
              refine OpIsR.plain (by kernel_rfl) _ rfl rfl fun vs ev W hf hI hd => ?_
              obtain ⟨a, p, b, q, h1, h2, h3⟩ := hd 6 (by kernel_rfl) (.inr (by decide))
              have e0 := (hf.of 6 _ 103 rfl rfl rfl (of_decide_eq_true rfl)).trans h1
              clear hK
              refine gives_mono (R := fun v w' => v = .agg #[.slice a (frG G L i1 i2).length p, .slice b (frL G L i1 i2).length q] ∧ w' = W) (by simp [gives, go_sem, e0]) ?_
              rintro _ _ ⟨rfl, rfl⟩
              exact ⟨⟨a, p, b, q, rfl, h2, h3⟩, hI, fun _ _ _ _ _ h => h⟩
            case h8 =>
              refine OpIsR.plain (by kernel_rfl) _ rfl rfl fun vs ev W hf hI hd => ?_
              obtain ⟨a, p, b, q, h1, h2, h3⟩ := hd 6 (by kernel_rfl) (.inr (by decide))
              have e0 := (hf.of 6 _ 103 rfl rfl rfl (of_decide_eq_true rfl)).trans h1
              clear hK
              refine gives_mono (R := fun v w' => v = .bool true ∧ w' = W) (by simp [gives, go_sem, e0]) ?_
              rintro _ _ ⟨rfl, rfl⟩
              exact ⟨rfl, hI, fun _ _ _ _ _ h => h⟩
            case h9 =>
              refine OpIsR.plain (by kernel_rfl) _ rfl rfl fun vs ev W hf hI hd => ?_
              clear hK
              refine gives_mono (R := fun v w' => v = .pointer (some ⟨W.heap.size, 0, none⟩) ∧ w' = W.alloc (.cells #[.slice none 0 0, .slice none 0 0] 46)) (by simp [gives, go_sem]) ?_
              rintro _ _ ⟨rfl, rfl⟩
              have hb : Below W.heap.size W (W.alloc (.cells #[.slice none 0 0, .slice none 0 0] 46)) := (Below.refl _ _).alloc (Nat.le_refl _) _
              exact ⟨⟨_, _, _, rfl, hI.2, heap_alloc_new W _⟩, ⟨hI.1.below hb, Nat.le_trans hI.2 hb.size⟩, fun j u u' _ _ h => h.below hb⟩
            case h10 =>
              refine OpIsR.plain (by kernel_rfl) _ rfl rfl fun vs ev W hf hI hd => ?_
              obtain ⟨g, c, d, h1, h2, h3⟩ := hd 9 (by kernel_rfl) (.inr (by decide))
              obtain ⟨a', p', b', q', h4, h5, h6⟩ := hd 7 (by kernel_rfl) (.inr (by decide))
              have e0 := (hf.of 9 _ 16 rfl rfl rfl (of_decide_eq_true rfl)).trans h1
              have e1 := (hf.of 7 _ 110 rfl rfl rfl (of_decide_eq_true rfl)).trans h4
              have x0 : Box W g [c, d] := ⟨_, h3⟩
              have q0 := x0.cell 0 rfl
              have q1 := x0.cell 1 rfl
              have f0 := x0.frozen 0
              have f1 := x0.frozen 1
              clear hK
              refine gives_mono (R := fun v w' => w' = (W.setCell ⟨g, 0, none⟩ (.slice a' (frG G L i1 i2).length p')).setCell ⟨g, 1, none⟩ (.slice b' (frL G L i1 i2).length q')) (by simp [gives, go_sem, e0, e1, q0, q1, f0, f1]) ?_
              rintro v w' rfl
              have h7 := heap_set (i := 0) (.slice a' (frG G L i1 i2).length p') h3
              have h8 := heap_set (i := 1) (.slice b' (frL G L i1 i2).length q') h7
              have hng : nb < g := by have := HNB.out; omega
              refine ⟨⟨g, a', p', b', q', ?_, h2, h8, (h5.put' (p := ⟨g, 0, none⟩) (own_offI h5 h3 (by decide)) _).put' (p := ⟨g, 1, none⟩) (own_offI h5 h3 (by decide)) _, (h6.put' (p := ⟨g, 0, none⟩) (own_offB h6 h3 (by decide)) _).put' (p := ⟨g, 1, none⟩) (own_offB h6 h3 (by decide)) _⟩, ⟨(hI.1.put h3 hng 0 _).put h7 hng 1 _, by rw [size_set, size_set]; exact hI.2⟩, fun j u u' hj _ h => (h.put hj h3 _).put hj h7 _⟩
              show upd vs 10 v 9 = _
              exact (if_neg (by decide)).trans h1
            case h11 =>
              refine OpIsR.plain (by kernel_rfl) _ rfl rfl fun vs ev W hf hI hd => ?_
              have e0 : ev (.tmp 111) = .bool true := (hf.of 8 _ 111 rfl rfl rfl (of_decide_eq_true rfl)).trans (hd 8 (by kernel_rfl) (.inr (by decide)))
              clear hK
              exact gives_pureR (f := fun _ => _) hI (by simp [gives, go_sem, e0]) rfl

          case hend =>
            intro vs W hI hT
            obtain ⟨g, a', p', b', q', h1, h2, h3, h4, h5⟩ := hT 10 (by decide) (by decide)
            have h6 : vs 11 = .bool true := hT 11 (by decide) (by decide)
            have h9 : vs 9 = .pointer (some ⟨g, 0, none⟩) := h1
            refine ⟨?_⟩
            simp [fr, Act.put, h6, h9]
            refine hK _ _ ?_
            clear hK
            have x0 : Box W g [.slice a' (frG G L i1 i2).length p', .slice b' (frL G L i1 i2).length q'] := ⟨_, h3⟩
            have q0 := x0.cell 0 rfl
            have q1 := x0.cell 1 rfl
            have S7 := hI.1
            have c4 := S7.box.cell 0 rfl
            have c5 := S7.box.cell 1 rfl
            have c6 := S7.box.frozen 0
            have c7 := S7.box.frozen 1
            have S8 := S7.setB h4 h5
            clear hT h1 h6 h9 x0 S7 h4 h5 h3 hI S HCM HFO HXJ HV HG
            have HS8 : Hid _ := S8
            clear S8
            generalize frG G L i1 i2 = G8 at *
            generalize frL G L i1 i2 = L8 at *
            go_wp2_with fail
            have S8 : SI w nb (.slice ga gs.length gc) (.slice la ls.length lc) (.int .i64 k0) (.int .i64 gen) (.slice a' G8.length p') (.slice b' L8.length q') G8 L8 (.slice (some ⟨gd, 0, none⟩) ids.length r) ids _ := HS8.out
            clear HS8 c4 c5 c6 c7 q0 q1
            generalize (W.setCell ⟨nb, 0, none⟩ (.slice a' G8.length p')).setCell ⟨nb, 1, none⟩ (.slice b' L8.length q') = W8 at *
            clear W
            have HGD : Hid (gd < W8.heap.size ∧ ∀ i, i < ids.length * 2 → W8.cell? ⟨gd, i, none⟩ = (idCells ids)[i]?) := by
              rcases S8.2.2.2.2.2.2.1.form with ⟨h, _⟩ | ⟨g', cap, h, _, hl, _, _, _, hc⟩
              · cases h
              · cases h; exact ⟨hl, hc⟩
            have hcap : ids.length ≤ r := by
              rcases S8.2.2.2.2.2.2.1.form with ⟨h, _⟩ | ⟨g', cap, h, _, hl, hc, _⟩
              · cases h
              · cases h; exact hc
            have HJJ : Hid (jj < ids.length ∧ ids.length ≤ 60) := ⟨hjj, hil⟩
            have hj2 : (jj : Int) ≤ (r : Int) := by omega
            have hj3 : (jj : Int) ≤ (ids.length : Int) := by omega
            have HJ5 : Hid (IntKind.i64.wrap ((jj : Int) + 1) = (jj : Int) + 1) := wrap_succ jj _ hjj hil
            have hj6 : (0 : Int) ≤ (jj : Int) + 1 := by omega
            have hj7 : (jj : Int) + 1 ≤ (ids.length : Int) := by omega
            rename_i Ka hKa Kb hKb
            refine wp_region_eachR (fun W => Below W8.heap.size W8 W) (fun j => j == 10) (fun j => if j = 10 then 9 else j) (fun j => match j with | 0 => 9 | 4 => 9 | _ => 100) (DT W8.heap.size r jj gd ids) (by kernel_rfl) (by kernel_rfl) ((Below.refl _ _).drew) (by kernel_rfl) ?hop ?hend
            case hop =>
              refine Each.get (n := 11) ⟨⟨⟨⟨⟨⟨⟨⟨⟨⟨⟨trivial, ?h0⟩, ?h1⟩, ?h2⟩, ?h3⟩, ?h4⟩, ?h5⟩, ?h6⟩, ?h7⟩, ?h8⟩, ?h9⟩, ?h10⟩
              case h0 =>
                refine OpIsR.plain (by kernel_rfl) _ rfl rfl fun vs ev W hf hI hd => ?_
                clear hKa hKb
                refine gives_mono (R := fun v w' => v = .slice (some ⟨W.heap.size, 0, none⟩) 0 0 ∧ w' = W.alloc (.cells #[] 48)) (by simp [gives, go_sem]) ?_
                rintro _ _ ⟨rfl, rfl⟩
                have hb : Below W.heap.size W (W.alloc (.cells #[] 48)) := (Below.refl _ _).alloc (Nat.le_refl _) _
                exact ⟨⟨_, rfl, World.ownsRow_made W #[] 0 hI.size (Nat.zero_le _) (by simp)⟩, after hI hI.size hb, fun j u u' _ _ h => h.below hb⟩
              case h1 =>
                refine OpIsR.plain (by kernel_rfl) _ rfl rfl fun vs ev W hf hI hd => ?_
                have e0 : ev (.tmp 9) = .slice (some ⟨gd, 0, none⟩) ids.length r := hf.off 9 rfl
                exact gives_pureR (f := fun _ => _) hI (by simp [gives, go_sem, e0]) rfl
              case h2 =>
                refine OpIsR.plain (by kernel_rfl) _ rfl rfl fun vs ev W hf hI hd => ?_
                have e0 : ev (.tmp 15) = .int .i64 jj := hf.off 15 rfl
                exact gives_pureR (f := fun _ => _) hI (by simp [gives, go_sem, e0]) rfl
              case h3 =>
                refine OpIsR.plain (by kernel_rfl) _ rfl rfl fun vs ev W hf hI hd => ?_
                have e0 : ev (.tmp 116) = .slice (some ⟨gd, 0, none⟩) ids.length r := (hf.of 1 _ 116 rfl rfl rfl (of_decide_eq_true rfl)).trans (hd 1 (by kernel_rfl) (.inr (.inl (by decide))))
                have e1 : ev (.tmp 117) = .int .i64 jj := (hf.of 2 _ 117 rfl rfl rfl (of_decide_eq_true rfl)).trans (hd 2 (by kernel_rfl) (.inr (.inl (by decide))))
                exact gives_pureR (f := fun _ => _) hI (by simp [gives, go_sem, e0, e1, hj0, hj2, hj3]) rfl
              case h4 =>
                refine OpIsR.plain (by kernel_rfl) _ rfl rfl fun vs ev W hf hI hd => ?_
                obtain ⟨g0, h1, h2⟩ := hd 0 (by kernel_rfl) (.inr (.inr ⟨_, rfl, by kernel_rfl⟩))
                have e0 := (hf.of 0 _ 115 rfl rfl rfl (of_decide_eq_true rfl)).trans h1
                have e1 : ev (.tmp 118) = .slice (some ⟨gd, 0, none⟩) jj r := (hf.of 3 _ 118 rfl rfl rfl (of_decide_eq_true rfl)).trans (hd 3 (by kernel_rfl) (.inr (.inl (by decide))))
                obtain ⟨i3, hi3, hz0, hz1, hz2⟩ := info_parts infoD
                have hjl : (ids.take jj).length = jj := by rw [List.length_take]; have := HJJ.out; omega
                obtain ⟨a', c', W', hr, ho, hbl⟩ := app_emptyN (P := Try.prog) 58 48 i3 (.agg #[.int .i64 0, .int .i64 0]) 2 16 Try.underlying58 hi3 hz0 hz1 hz2 rfl (by decide) h2 (some ⟨gd, 0, none⟩) jj r (idCells (ids.take jj)) (by rw [idCells_len, hjl]) (by
                  intro b hbe j u hu
                  cases hbe
                  have hj : j < jj * 2 := by have := (List.getElem?_eq_some_iff.1 hu).1; rw [idCells_len, hjl] at this; exact this
                  rw [Go.WideShapes.add_plain, Nat.zero_add, (hI.cell (p := ⟨gd, j, none⟩) HGD.out.1).trans (HGD.out.2 j (by have := HJJ.out; omega)), ← hu, ← idCells_take, List.getElem?_take, if_pos hj]) idCells_one (by intro h; cases h) (by have := HJJ.out; unfold maxLen; omega) (by have := HJJ.out; omega) hI.size
                clear hKa hKb
                refine gives_mono (R := fun v w' => v = .slice a' jj c' ∧ w' = W') (by unfold gives; simp [execOp, resolve, invoke, builtin, e0, e1, hr, Result.andThen]) ?_
                rintro _ _ ⟨rfl, rfl⟩
                refine ⟨⟨a', c', by rw [hjl], ?_⟩, after hI hI.size hbl, fun j u u' _ _ h => h.below hbl⟩
                unfold OwnD
                rw [hjl]
                exact ho
              case h5 =>
                refine OpIsR.plain (by kernel_rfl) _ rfl rfl fun vs ev W hf hI hd => ?_
                have e0 : ev (.tmp 9) = .slice (some ⟨gd, 0, none⟩) ids.length r := hf.off 9 rfl
                exact gives_pureR (f := fun _ => _) hI (by simp [gives, go_sem, e0]) rfl
              case h6 =>
                refine OpIsR.plain (by kernel_rfl) _ rfl rfl fun vs ev W hf hI hd => ?_
                have e0 : ev (.tmp 15) = .int .i64 jj := hf.off 15 rfl
                exact gives_pureR (f := fun _ => _) hI (by simp [gives, go_sem, e0]) rfl
              case h7 =>
                refine OpIsR.plain (by kernel_rfl) _ rfl rfl fun vs ev W hf hI hd => ?_
                have e0 : ev (.tmp 121) = .int .i64 jj := (hf.of 6 _ 121 rfl rfl rfl (of_decide_eq_true rfl)).trans (hd 6 (by kernel_rfl) (.inr (.inl (by decide))))
                have e9 := hf.const (.int .i64 1)
                have hj5 := HJ5.out
                exact gives_pureR (f := fun _ => _) hI (by simp [gives, go_sem, e0, e9, hj5]) rfl
              case h8 =>
                refine OpIsR.plain (by kernel_rfl) _ rfl rfl fun vs ev W hf hI hd => ?_
                have e0 : ev (.tmp 120) = .slice (some ⟨gd, 0, none⟩) ids.length r := (hf.of 5 _ 120 rfl rfl rfl (of_decide_eq_true rfl)).trans (hd 5 (by kernel_rfl) (.inr (.inl (by decide))))
                have e1 : ev (.tmp 122) = .int .i64 ((jj : Int) + 1) := (hf.of 7 _ 122 rfl rfl rfl (of_decide_eq_true rfl)).trans (hd 7 (by kernel_rfl) (.inr (.inl (by decide))))
                clear hKa hKb
                refine gives_mono (R := fun v w' => v = .slice (if r = jj + 1 then some ⟨gd, 0, none⟩ else some ⟨gd, (jj + 1) * 2, none⟩) (ids.length - (jj + 1)) (r - (jj + 1)) ∧ w' = W) (by simp [gives, go_sem, e0, e1, hj6, hj7]) ?_
                rintro _ _ ⟨rfl, rfl⟩
                exact ⟨⟨_, _, rfl, fun h => if_neg (by omega)⟩, hI, fun _ _ _ _ _ h => h⟩
              case h9 =>
                refine OpIsR.plain (by kernel_rfl) _ rfl rfl fun vs ev W hf hI hd => ?_
                obtain ⟨a', c', h1, h2⟩ := hd 4 (by kernel_rfl) (.inl rfl)
                obtain ⟨ao, co, h3, h4⟩ := hd 8 (by kernel_rfl) (.inr (.inl (by decide)))
                have e0 := (hf.of 4 _ 119 rfl rfl rfl (of_decide_eq_true rfl)).trans h1
                have e1 := (hf.of 8 _ 123 rfl rfl rfl (of_decide_eq_true rfl)).trans h3
                obtain ⟨a2, c2, W', hr, ho, hg⟩ := app_rest HJJ.out.1 HJJ.out.2 h2 hI.size ao gd co h4 (fun i hi => (hI.cell (p := ⟨gd, i, none⟩) HGD.out.1).trans (HGD.out.2 i hi))
                have hbl : Below W8.heap.size W8 W' := hI.grown hg hI.size (fun k hk => (World.ownsRow.lt h2 k hk).1)
                clear hKa hKb
                refine gives_mono (R := fun v w' => v = .slice a2 (ids.eraseIdx jj).length c2 ∧ w' = W') (by generalize (ids.take jj).length = m1 at *; generalize ids.length - (jj + 1) = m2 at *; generalize (ids.eraseIdx jj).length = m3 at *; unfold gives; simp [execOp, resolve, invoke, builtin, e0, e1, hr, Result.andThen]) ?_
                rintro _ _ ⟨rfl, rfl⟩
                refine ⟨⟨a2, c2, rfl, ho⟩, hbl, fun j u u' hj hd h => ?_⟩
                exact h.far (fun e => hd (by subst e; rfl)) (fun e => hd (by subst e; rfl)) hj
              case h10 =>
                refine OpIsR.plain (by kernel_rfl) _ rfl rfl fun vs ev W hf hI hd => ?_
                have e0 := hf.of 9 _ 124 rfl rfl rfl (of_decide_eq_true rfl)
                clear hKa hKb
                refine gives_mono (R := fun v w' => v = vs 9 ∧ w' = W) (by simp [gives, go_sem, e0]) ?_
                rintro _ _ ⟨rfl, rfl⟩
                exact ⟨(if_neg (by decide) : upd vs 10 (vs 9) 9 = vs 9).symm, hI, fun _ _ _ _ _ h => h⟩

            case hend =>
              intro vs W hI hT
              obtain ⟨a9, c9, h1, h2⟩ := hT 9 (by decide) (by decide)
              have h10 : vs 10 = .slice a9 (ids.eraseIdx jj).length c9 := (show vs 10 = vs 9 from hT 10 (by decide) (by decide)).trans h1
              refine ⟨?_⟩
              simp only [fr, Act.put, h1, h10]
              simp
              first
              | refine K _ _ ?_
              | refine hKb _ _ ?_
              | refine Kb _ _ ?_
              | refine Ka _ _ ?_
              | refine hKa _ _ ?_
              clear hT h1 h10
              have T := S8.below hI
              have S9 : SI w nb (.slice ga gs.length gc) (.slice la ls.length lc) (.int .i64 k0) (.int .i64 gen) (.slice a' G8.length p') (.slice b' L8.length q') G8 L8 (.slice a9 (ids.eraseIdx jj).length c9) (ids.eraseIdx jj) W := ⟨T.1, T.2.1, T.2.2.1, T.2.2.2.1, T.2.2.2.2.1, T.2.2.2.2.2.1, World.ownsRow.mono h2 S8.size, T.2.2.2.2.2.2.2⟩
              have HG8 : Hid (∀ x ∈ G8, In64 x) := fun y hy => by have := HW.out.nn y hy; have := HW.out.calm y hy; unfold In64; omega
              clear T S8 hI h2 HGD HJJ HJ5
              have t2 := S9.2.1.cell 0 rfl
              have t3 := S9.2.1.cell 1 rfl
              have t4 := S9.box.cell 0 rfl
              have t5 := S9.box.cell 1 rfl
              generalize ids.eraseIdx jj = ids9 at *
              obtain ⟨n9, hn9⟩ : ∃ n9, n9 = ids9.length := ⟨_, rfl⟩
              have HNL9 : Hid (ids9.length = n9) := hn9.symm
              rw [← hn9] at S9 ⊢
              clear hn9
              go_wp2_with fail
              clear t2 t3 t4 t5
              refine (has_c _ _ G8 L8 k0 gen _ (S9.ar HG8.out).1 (S9.ar HG8.out).2 HW.out.len).mono ?_; rintro e w20 ⟨rfl, hb20⟩
              rw [HW.out.dead]
              have S20 := S9.below hb20
              clear S9 hb20
              have t2 := S20.2.1.cell 0 rfl
              have t3 := S20.2.1.cell 1 rfl
              have t4 := S20.box.cell 0 rfl
              have t5 := S20.box.cell 1 rfl
              go_wp2_with fail
              refine (right_c _ _ G8 L8 _ (fun b hb => hb) (S20.ar HG8.out).1 (S20.ar HG8.out).2).mono ?_; rintro e w21 ⟨rfl, hb21⟩
              rw [HW.out.right]
              have S21 := S20.below hb21
              clear S20 hb21 t2 t3 t4 t5
              go_wp2_with fail
              go_roundw
              case rel => exact ⟨k + 1, by omega, by go_num, G8, L8, ids9, a', p', b', q', a9, c9, by rw [HNL9.out], by rw [HNL9.out]; exact S21, HW.out⟩
              case measure => simp [intOf]; omega


      · obtain ⟨nn, hnn⟩ : ∃ nn, nn = ids.length := ⟨_, rfl⟩
        have HNL : Hid (ids.length = nn) := hnn.symm
        rw [← hnn] at S hil ⊢
        clear hnn
        go_wp2_with fail
        refine (take_c _ _ G L _ HV.out.len HV.out.max (fun b hb => hb) (S.ar HG.out).1 (S.ar HG.out).2).mono ?_; rintro e w6 ⟨a6, p6, b6, q6, rfl, g6, l6, hb6⟩
        have S6 := ((S.below hb6).alloc (.cells #[.slice a6 (tkG G L).length p6, .slice b6 (tkL L).length q6] 46)).alloc (.cells #[.int .i64 (tkAt L), .int .i64 (tkGen G L)] 48)
        have U6 := (Box.new w6 [.slice a6 (tkG G L).length p6, .slice b6 (tkL L).length q6] 46).alloc (.cells #[.int .i64 (tkAt L), .int .i64 (tkGen G L)] 48)
        have UN := (heap_alloc_new w6 (.cells #[.slice a6 (tkG G L).length p6, .slice b6 (tkL L).length q6] 46)) |> fun h => (((Below.refl _ _).alloc (Nat.le_refl _) (.cells #[.int .i64 (tkAt L), .int .i64 (tkGen G L)] 48)).block w6.heap.size (by rw [size_alloc]; omega) : ((w6.alloc (.cells #[.slice a6 (tkG G L).length p6, .slice b6 (tkL L).length q6] 46)).alloc (.cells #[.int .i64 (tkAt L), .int .i64 (tkGen G L)] 48)).heap[w6.heap.size]? = _).trans h
        have V6 := Box.new (w6.alloc (.cells #[.slice a6 (tkG G L).length p6, .slice b6 (tkL L).length q6] 46)) [.int .i64 (tkAt L), .int .i64 (tkGen G L)] 48
        rw [size_alloc] at V6
        have g7 := (((g6.mono S.size).alloc (.cells #[.slice a6 (tkG G L).length p6, .slice b6 (tkL L).length q6] 46)).alloc (.cells #[.int .i64 (tkAt L), .int .i64 (tkGen G L)] 48))
        have l7 := (((l6.mono S.size).alloc (.cells #[.slice a6 (tkG G L).length p6, .slice b6 (tkL L).length q6] 46)).alloc (.cells #[.int .i64 (tkAt L), .int .i64 (tkGen G L)] 48))
        have HT : Hid (tkOk L = true → StInv (k + 1) (tkG G L) (tkL L) (ids ++ [(tkAt L, tkGen G L)]) k0 gen ∧ (∀ x ∈ ids, ¬ (x.1 = tkAt L ∧ x.2 = tkGen G L))) := fun h => HV.out.take h
        clear c4 c5 d0 S g6 l6 hb6
        have c2 := S6.2.1.cell 0 rfl
        have c3 := S6.2.1.cell 1 rfl
        have c4 := S6.box.cell 0 rfl
        have c5 := S6.box.cell 1 rfl
        have u0 := U6.cell 0 rfl
        have u1 := U6.cell 1 rfl
        have v0 := V6.cell 0 rfl
        have v1 := V6.cell 1 rfl
        generalize tkG G L = G6 at *
        generalize tkL L = L6 at *
        generalize tkAt L = A at *
        generalize tkGen G L = N at *
        generalize tkOk L = O at *
        cases O
        · have HW : Hid (StInv (k + 1) G L ids k0 gen) := HV.out.same
          clear HT g7 l7 u0 u1 v0 v1 U6 V6 UN
          go_wp2_with fail
          generalize (w6.alloc (.cells #[.slice a6 G6.length p6, .slice b6 L6.length q6] 46)).alloc (.cells #[.int .i64 A, .int .i64 N] 48) = W6 at *
          clear c2 c3 c4 c5
          refine (has_c _ _ G L k0 gen _ (S6.ar HG.out).1 (S6.ar HG.out).2 HW.out.len).mono ?_; rintro e w20 ⟨rfl, hb20⟩
          rw [HW.out.dead]
          have S20 := S6.below hb20
          clear S6 hb20
          have t2 := S20.2.1.cell 0 rfl
          have t3 := S20.2.1.cell 1 rfl
          have t4 := S20.box.cell 0 rfl
          have t5 := S20.box.cell 1 rfl
          go_wp2_with fail
          refine (right_c _ _ G L _ (fun b hb => hb) (S20.ar HG.out).1 (S20.ar HG.out).2).mono ?_; rintro e w21 ⟨rfl, hb21⟩
          rw [HW.out.right]
          have S21 := S20.below hb21
          clear S20 hb21 t2 t3 t4 t5
          go_wp2_with fail
          go_roundw
          case rel => exact ⟨k + 1, by omega, by go_num, G, L, ids, a, p, b, q, d, r, by rw [HNL.out], by rw [HNL.out]; exact S21, HW.out⟩
          case measure => simp [intOf]; omega

        · obtain ⟨hT1, hT2⟩ := HT.out rfl
          have HW : Hid (StInv (k + 1) G6 L6 (ids ++ [(A, N)]) k0 gen) := hT1
          have HNE : Hid (∀ x ∈ ids, ¬ (x.1 = A ∧ x.2 = N)) := hT2
          clear HT hT1 hT2
          go_wp2_with fail
          generalize (w6.alloc (.cells #[.slice a6 G6.length p6, .slice b6 L6.length q6] 46)).alloc (.cells #[.int .i64 A, .int .i64 N] 48) = W6 at *
          generalize w6.heap.size = nc at *
          clear w6
          have w0 := S6.2.2.1
          go_loopw [14] (fun i wr => ∃ j n : Nat, j ≤ nn ∧ i = .int .i64 j ∧ wr = W6.drewN n) (fun i _ => nn - (intOf i).toNat)
          case atStart => exact ⟨0, 0, by omega, rfl, rfl⟩
          case round =>
            obtain ⟨j, n, hj, rfl, rfl⟩ := hrel
            by_cases hjl : j < nn
            · obtain ⟨gd, i1, i2, hd, _, hgd, hx, e1, e2⟩ := S6.2.2.2.2.2.2.1.at (by rw [HNL.out]; exact hjl)
              subst hd
              have hne := HNE.out (i1, i2) (List.mem_of_getElem? hx)
              have hq : ∀ W, (binOp .eql 48 (.agg #[.int .i64 i1, .int .i64 i2]) (.agg #[.int .i64 A, .int .i64 N])).run Try.prog W = .ok (.bool false) W := fun W => by rw [eqlId, decide_eq_false hne]
              have hj0 : (0 : Int) ≤ (j : Int) := by omega
              have hj1 : (j : Int) < (nn : Int) := by omega
              clear hne hx S6 U6 V6 g7 l7 w0
              go_wp2_with fail
              go_quiet (fail)
              rename_i nq
              go_wp2_with fail
              go_roundw
              case rel => exact ⟨j + 1, n + nq, by omega, by go_num, rfl⟩
              case measure => simp [intOf]; omega
            · have hje : nn = j := by omega
              subst hje
              have S7 := S6.drewN n
              have J7 : SJ w nc (.slice a6 G6.length p6) (.slice b6 L6.length q6) G6 L6 (W6.drewN n) := ⟨UN, g7.below (below_drewN (Below.refl _ _) n), l7.below (below_drewN (Below.refl _ _) n)⟩
              have v2 : (W6.drewN n).cell? ⟨nc + 1, 0, none⟩ = some (.int .i64 A) := v0
              have v3 : (W6.drewN n).cell? ⟨nc + 1, 1, none⟩ = some (.int .i64 N) := v1
              clear c2 c3 c4 c5 u0 u1 v0 v1 w0 S6 U6 V6 g7 l7 HNE UN
              generalize W6.drewN n = W7 at *
              obtain ⟨i3, hi3, hz0, hz1, hz2⟩ := info_parts infoD
              have hsz7 := S7.size
              have HLI : Hid (nn + 1 ≤ maxLen ∧ (nn + 1) * 16 ≤ 140737488355328) := by
                refine ⟨?_, ?_⟩
                · unfold maxLen; omega
                · omega
              go_wp2_with (at_builtin; refine wpList_append_lies _ rfl _ _ 58 rfl (w.heap.size + 2) 48 i3 (.agg #[.int .i64 0, .int .i64 0]) 2 16 Try.underlying58 hi3 hz0 hz1 hz2 rfl (by decide) (.slice d nn r) nn (idCells ids) rfl (show World.ownsRow _ _ _ _ _ _ _ from by have h := (S7.2.2.2.2.2.2.1.alloc (.cells #[.int .i64 A, .int .i64 N] 48)); unfold OwnD at h; rw [HNL.out] at h; exact h) _ 1 1 [.int .i64 A, .int .i64 N] rfl rfl (news_two (by simp) (by simp)) (by simp [Value.oneCell']) (by decide) HLI.out.1 HLI.out.2 (by first | omega | (simp; omega)) _ rfl ?_; intro g8 c8 w8 hown8 hgrow8 hat8 hlt8; have O8 := ownD_one (x := (A, N)) HNL.out hown8; have S8 := (S7.alloc (.cells #[.int .i64 A, .int .i64 N] 48)).app hgrow8 O8; have J8 := (J7.alloc (.cells #[.int .i64 A, .int .i64 N] 48)).app (S7.2.2.2.2.2.2.1.alloc (.cells #[.int .i64 A, .int .i64 N] 48)) hgrow8; have S9 := S8.setB J8.2.1 J8.2.2; have k0' := J8.box.cell 0 rfl; have k1' := J8.box.cell 1 rfl; have k2' := S8.box.cell 0 rfl; have k3' := S8.box.cell 1 rfl; have k4' := S8.box.frozen 0; have k5' := S8.box.frozen 1; have k6' := S9.box.cell 0 rfl; have k7' := S9.box.cell 1 rfl; have k8' := S9.2.1.cell 0 rfl; have k9' := S9.2.1.cell 1 rfl; clear hown8 hgrow8 hat8 hlt8)
              have HG6 : Hid (∀ x ∈ G6, In64 x) := fun y hy => by have := HW.out.nn y hy; have := HW.out.calm y hy; unfold In64; omega
              have HNL9 : Hid ((ids ++ [(A, N)]).length = nn + 1) := (by rw [List.length_append, HNL.out]; rfl : (ids ++ [(A, N)]).length = nn + 1)
              clear k0' k1' k2' k3' k4' k5' k6' k7' k8' k9' S7 S8 J7 J8 O8 HLI hi3 hz0 hz1 hz2 hsz7 v2 v3
              generalize (w8.setCell ⟨nb, 0, none⟩ (.slice a6 G6.length p6)).setCell ⟨nb, 1, none⟩ (.slice b6 L6.length q6) = W9 at *
              refine (has_c _ _ G6 L6 k0 gen _ (S9.ar HG6.out).1 (S9.ar HG6.out).2 HW.out.len).mono ?_; rintro e w20 ⟨rfl, hb20⟩
              rw [HW.out.dead]
              have S20 := S9.below hb20
              clear S9 hb20
              have t2 := S20.2.1.cell 0 rfl
              have t3 := S20.2.1.cell 1 rfl
              have t4 := S20.box.cell 0 rfl
              have t5 := S20.box.cell 1 rfl
              go_wp2_with fail
              refine (right_c _ _ G6 L6 _ (fun b hb => hb) (S20.ar HG6.out).1 (S20.ar HG6.out).2).mono ?_; rintro e w21 ⟨rfl, hb21⟩
              rw [HW.out.right]
              have S21 := S20.below hb21
              clear S20 hb21 t2 t3 t4 t5
              go_wp2_with fail
              go_roundw
              case rel => exact ⟨k + 1, by omega, by go_num, G6, L6, (ids ++ [(A, N)]), a6, p6, b6, q6, (some ⟨g8, 0, none⟩), c8, by rw [HNL9.out], by rw [HNL9.out]; exact S21, HW.out⟩
              case measure => simp [intOf]; omega


    · have hke : k = xs.length := by omega
      have HV : Hid (StInv k G L ids k0 gen) := V
      have HG : Hid (∀ x ∈ G, In64 x) := fun y hy => by have := V.nn y hy; have := V.calm y hy; unfold In64; have := H60.out; omega
      have hil : ids.length ≤ 60 := by have := V.few; have := H60.out; omega
      subst hke
      clear V
      go_wp2_with fail
      obtain ⟨wm, hwm⟩ : ∃ wm : World, wm = wr := ⟨_, rfl⟩
      subst hwm
      go_loopw [18] (fun i wr => ∃ j : Nat, j ≤ ids.length ∧ i = .int .i64 j ∧ SI w nb (.slice ga gs.length gc) (.slice la ls.length lc) (.int .i64 k0) (.int .i64 gen) (.slice a G.length p) (.slice b L.length q) G L (.slice d ids.length r) ids wr) (fun i _ => ids.length - (intOf i).toNat)
      case atStart => exact ⟨0, by omega, rfl, S⟩
      case round =>
        obtain ⟨j, hj, rfl, S2⟩ := hrel
        clear S
        by_cases hjl : j < ids.length
        · obtain ⟨gd, i1, i2, hd, -, hgd, hx, e1, e2⟩ := S2.2.2.2.2.2.2.1.at hjl
          subst hd
          have hh := (HV.out.all (i1, i2) (List.mem_of_getElem? hx)).1
          have q0 := fun s : Kept wr.heap.size wr => s.at (S2.box.cell 0 rfl)
          have q1 := fun s : Kept wr.heap.size wr => s.at (S2.box.cell 1 rfl)
          have q2 := fun s : Kept wr.heap.size wr => s.at e1
          have q3 := fun s : Kept wr.heap.size wr => s.at e2
          have HA : Hid (∀ s : Kept wr.heap.size wr, Calls Try.prog 35 #[.agg #[.slice a G.length p, .slice b L.length q], .agg #[.int .i64 i1, .int .i64 i2]] s.w (PPost s.w (.bool true))) := fun s => hh ▸ has_c _ _ G L i1 i2 _ ((S2.ar HG.out).call s.below).1 ((S2.ar HG.out).call s.below).2 HV.out.len
          have hj0 : (0 : Int) ≤ (j : Int) := by omega
          have hj1 : (j : Int) < (ids.length : Int) := by omega
          clear hh hx e1 e2
          go_wp2_with fail
          refine wp_region_kept wr.heap.size (by kernel_rfl) (by kernel_rfl) ?_
          repeat (go_big_quiet_step ((go_at_call 35; with_reducible exact Calls.kept _ (Nat.le_refl _) (HA.out _))))
          refine wpQuiet_nil ?_
          rintro _ ⟨s, rfl⟩
          have S3 := S2.below s.below
          clear q0 q1 q2 q3 HA S2
          generalize s.w = W3 at *
          go_wp2_with fail
          go_roundw
          case rel => exact ⟨j + 1, by omega, by go_num, S3⟩
          case measure => simp [intOf]; omega
        · have hje : ids.length = j := by omega
          have HB := S2.2.2.2.2.2.2.2
          clear S2
          go_wp2_with fail
          go_ret
          exact ⟨rfl, HB⟩
end Go.Proofs.Ytlcefgdiclpcjaa
