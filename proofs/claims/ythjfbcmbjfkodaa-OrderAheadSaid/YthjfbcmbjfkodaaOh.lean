/- 'OrderAhead' of whatever graph. -/
import Derived.Test.YthjfbcmbjfkodaaGa
namespace Go.Proofs.Ythjfbcmbjfkodaa
open Go.RowKit Go.Bx Go.Od Go.Hp
attribute [local go_sem ↓] Go.wp_at_zero Go.wp_at_succ
set_option linter.unusedVariables false

/-- between the rounds: the order in row lv, the marks in block D -/
structure AH (w : World) (nv : Value) (out : Int) (n : Nat) (lv : Value) (l : List Nat) (D : Nat) (S : Nat → Bool) (wr : World) : Prop where
  gb : Box wr w.heap.size [nv, .int .i64 out]
  below : Below w.heap.size w wr
  own : OwnP wr w.heap.size lv (ofN l)
  db : Box wr D (bc n S)
  ne : lv.ownBlock ≠ some D
  ged : w.heap.size < D
section
variable {w wr w3 w4 : World} {nv lv : Value} {out : Int} {n D : Nat} {l : List Nat} {S : Nat → Bool}
theorem AH.made (h1 : Box w3 w.heap.size [nv, .int .i64 out]) (h2 : Below w.heap.size w w3) (h3 : OwnP w3 w.heap.size lv (ofN l)) (hown : w4.ownsRow w3.heap.size 4 1 (.slice (some ⟨w3.heap.size, 0, none⟩) n n) n (madeCells (Value.bool false).cells (n * 1)).toList)
    (hg : w3.grownBy w4 none) : AH w nv out n lv l w3.heap.size (mkd []) w4 := by
  have hb := box_own hown
  have e : (madeCells (Value.bool false).cells (n * 1)).toList = List.replicate n (.bool false) := by
    rw [Nat.mul_one]
    exact toList_madeCells_one _ _
  rw [e, bc_false] at hb
  exact ⟨h1.grown' hg (by simp), h2.grown hg h2.size (fun k hk => by cases hk), World.ownsRow.kept h3 hg (by cases e : lv.ownBlock with
    | none => exact .inl rfl
    | some j => exact .inr (by simp)), hb, fun e => by have := (row_ge h3 _ e).2; omega, h1.lt⟩
theorem AH.call (h : AH w nv out n lv l D S wr) (hb : Below wr.heap.size wr w4) : AH w nv out n lv l D S w4 := ⟨h.gb.call hb, h.below.trans (hb.mono h.below.size), h.own.below hb, h.db.call hb, h.ne, h.ged⟩
theorem AH.mark (h : AH w nv out n lv l D S wr) (x : Nat) (b : Bool) : AH w nv out n lv l D (fun r => if r = x then b else S r) (wr.setCell ⟨D, x, none⟩ (.bool b)) :=
  ⟨h.gb.set (by have := h.ged; simp; omega) _, h.below.setCell (by have := h.ged; simp; omega) _, own_set_ne h.own h.ne _, by rw [← bc_set]; exact h.db.self _ _, h.ne, h.ged⟩
theorem AH.congr {S' : Nat → Bool} (h : AH w nv out n lv l D S wr) (e : ∀ r, r < n → S r = S' r) : AH w nv out n lv l D S' wr := ⟨h.gb, h.below, h.own, by rw [← bc_congr e]; exact h.db, h.ne, h.ged⟩
end
/-- a number of a row -/
theorem row_cell {w : World} {B : Nat} {a : Option Addr} {n c : Nat} {l : List Nat} (h : OwnP w B (.slice a n c) (ofN l)) {j u : Nat} (hj : l[j]? = some u) : ∃ g, a = some ⟨g, 0, none⟩ ∧ w.cell? ⟨g, j, none⟩ = some (.int .i64 u) := by
  have hjl : j < l.length := (List.getElem?_eq_some_iff.1 hj).1
  rcases h.form with ⟨_, h'⟩ | ⟨g, cap, h1, _, _, _, _, _, _, hc⟩
  · have : l.length = 0 := by rw [← ofN_len, h']; rfl
    omega
  · simp only [Value.slice.injEq] at h1
    obtain ⟨rfl, _, _⟩ := h1
    refine ⟨g, rfl, ?_⟩
    rw [hc j (by rw [ofN_len]; exact hjl)]
    unfold ofN
    simp [hj]
set_option maxRecDepth 4000 in
set_option maxHeartbeats 3200000 in
theorem orderAhead_walk (nv : Value) (nds : List Nd) (out : Int) (w : World) (hg : Gr w.heap.size w nv nds) :
    Calls Try.prog 4 #[.agg #[nv, .int .i64 out]] w (TPost w) := by
  obtain ⟨ga, gc, rfl⟩ := hg.isSl
  have hgl := hg.len_le
  obtain ⟨i4, hi4, hy0, hy1, hy2⟩ := info_parts infoB
  have b0' := Box.new w [.slice ga nds.length gc, .int .i64 out] 24
  have B0 := below_alloc w (.cells #[.slice ga nds.length gc, .int .i64 out] 24)
  have HG : Hid (Gr w.heap.size w (.slice ga nds.length gc) nds) := hg
  clear hg
  go_enter Try.func4, Try.ntmps4
  go_wp2_with fail
  have H0 : Hid (Box (w.alloc (.cells #[.slice ga nds.length gc, .int .i64 out] 24)) w.heap.size [.slice ga nds.length gc, .int .i64 out] ∧ Below w.heap.size w (w.alloc (.cells #[.slice ga nds.length gc, .int .i64 out] 24))) := ⟨b0', B0⟩
  clear b0' B0
  generalize w.alloc (.cells #[.slice ga nds.length gc, .int .i64 out] 24) = W0 at *
  refine (awake_c W0).mono ?_; rintro e w1 ⟨rfl, hb1⟩
  have H1 : Hid (Box w1 w.heap.size [.slice ga nds.length gc, .int .i64 out] ∧ Below w.heap.size w w1) := ⟨H0.out.1.call hb1, H0.out.2.trans (hb1.mono H0.out.2.size)⟩
  have g0 := H1.out.1.cell 0 rfl
  have g1 := H1.out.1.cell 1 rfl
  clear hb1 H0
  go_wp2_with fail
  refine (rfew_c w.heap.size _ nds out 100 w1 (by decide) (HG.out.below H1.out.2 (Nat.le_refl _))).mono ?_; rintro e w2 ⟨rfl, hb2⟩
  have H2 : Hid (Box w2 w.heap.size [.slice ga nds.length gc, .int .i64 out] ∧ Below w.heap.size w w2) := ⟨H1.out.1.call hb2, H1.out.2.trans (hb2.mono H1.out.2.size)⟩
  clear g0 g1 hb2 H1
  have g0 := H2.out.1.cell 0 rfl
  have g1 := H2.out.1.cell 1 rfl
  obtain ⟨q, hq⟩ : ∃ q, q = fewB nds 100 := ⟨_, rfl⟩
  have HQ : Hid (q = fewB nds 100) := hq
  rw [← hq]
  clear hq
  cases q with
  | false =>
    go_wp2_with fail
    refine (awake_c w2).mono ?_; rintro e w3 ⟨rfl, hb3⟩
    have HE : Hid (Below w.heap.size w w3) := H2.out.2.trans (hb3.mono H2.out.2.size)
    clear g0 g1 hb3
    go_wp2_with fail
    go_ret
    exact ⟨rfl, HE.out⟩
  | true =>
    have HF : Hid (nds.length ≤ 100 ∧ ∀ i, i < nds.length → (nds.getD i Nd.none).ins.length ≤ 1000) := few_of HQ.out.symm (by decide)
    have hn100 := HF.out.1
    obtain ⟨ins, hins⟩ : ∃ ins, ins = insOf nds := ⟨_, rfl⟩
    have HI : Hid (ins = insOf nds ∧ ins.length = nds.length) := ⟨hins, by rw [hins, insOf_len]⟩
    clear hins HQ
    go_wp2_with fail
    refine (all_c w.heap.size _ nds out w2 (by omega) HF.out.2 (HG.out.below H2.out.2 (Nat.le_refl _)) H2.out.2.size).mono ?_; rintro e w3 ⟨la, lc', rfl, hown3, hb3⟩
    rw [← HI.out.1] at hown3
    rw [← HI.out.1]
    obtain ⟨l, hl⟩ : ∃ l, l = ord ins := ⟨_, rfl⟩
    have HL : Hid (l = ord ins ∧ Fine ins l ∧ l.length ≤ nds.length) := ⟨hl, by rw [hl]; exact ord_fine ins, by rw [hl, ← HI.out.2]; exact ord_len ins⟩
    have hll := HL.out.2.2
    rw [← hl] at hown3
    rw [← hl]
    have H3 : Hid (Box w3 w.heap.size [.slice ga nds.length gc, .int .i64 out] ∧ Below w.heap.size w w3 ∧ OwnP w3 w.heap.size (.slice la l.length lc') (ofN l)) := ⟨H2.out.1.call hb3, H2.out.2.trans (hb3.mono H2.out.2.size), OwnP.mono hown3 H2.out.2.size⟩
    clear g0 g1 hl hown3 hb3 H2
    have g0 := H3.out.1.cell 0 rfl
    go_wp2_with (at_make; refine wpList_make_full _ rfl _ _ 30 rfl w3.heap.size 4 i4 (.bool false) 1 Try.underlying30 hi4 hy0 hy1 .i64 .i64 _ _ nds.length rfl rfl rfl rfl (by rw [hy2]; omega) (by unfold maxLen; omega) (by simp) ?_; intro w4 hown4 hgrow4; have H4 : Hid (AH w (.slice ga nds.length gc) out nds.length (.slice la l.length lc') l w3.heap.size (mkd []) w4) := AH.made H3.out.1 H3.out.2.1 H3.out.2.2 hown4 hgrow4; clear hown4 hgrow4)
    clear g0
    obtain ⟨D, hD⟩ : ∃ D, D = w3.heap.size := ⟨_, rfl⟩
    rw [← hD] at H4
    rw [← hD]
    clear hD H3
    go_loopw [5] (fun iv wr => ∃ i : Nat, i ≤ l.length ∧ iv = .int .i64 i ∧ AH w (.slice ga nds.length gc) out nds.length (.slice la l.length lc') l D (mkd (l.take i)) wr) (fun iv _ => l.length - (intOf iv).toNat)
    case atStart => exact ⟨0, Nat.zero_le _, rfl, H4.out⟩
    case round =>
      obtain ⟨i, hi, rfl, hr⟩ := hrel
      clear H4
      by_cases hil : i < l.length
      · obtain ⟨k, hk⟩ : ∃ k, k = l[i] := ⟨_, rfl⟩
        have hki : l[i]? = some k := by rw [hk]; exact List.getElem?_eq_getElem hil
        have hkn : k < nds.length := by have := HL.out.2.1.bound k (List.mem_of_getElem? hki); have := HI.out.2; omega
        obtain ⟨g, rfl, hck⟩ := row_cell hr.own hki
        have d0 := hr.db.cell k (bc_get _ hkn)
        have hmk : mkd (l.take i) k = false := decide_eq_false (not_take HL.out.2.1.nodup hki)
        rw [hmk] at d0
        have b0 := hr.gb.cell 0 rfl
        have hgw := HG.out.below hr.below (Nat.le_refl _)
        obtain ⟨b, o, cap, ia, ic, pa, pc, hv, hbB, hcap, hcm, k0, k1, k2, s1, s2⟩ := hgw.node hkn
        simp only [Value.slice.injEq] at hv
        obtain ⟨rfl, _, rfl⟩ := hv
        obtain ⟨xs, hxs⟩ : ∃ xs, xs = (nds.getD k Nd.none).ins := ⟨_, rfl⟩
        rw [← hxs] at k1 s1
        have hxl : xs.length ≤ 1000 := by rw [hxs]; exact HF.out.2 k hkn
        have HX : Hid (xs = (nds.getD k Nd.none).ins ∧ l[i]? = some k) := ⟨hxs, hki⟩
        have HR : Hid (AH w (.slice (some ⟨b, o, none⟩) nds.length gc) out nds.length (.slice (some ⟨g, 0, none⟩) l.length lc') l D (mkd (l.take i)) wr ∧ SlOf RInt 1 (· < w.heap.size) wr (.slice ia xs.length ic) xs) := ⟨hr, s1⟩
        obtain ⟨P, hP⟩ : ∃ P, P = (nds.getD k Nd.none).p.length := ⟨_, rfl⟩
        obtain ⟨O, hO⟩ : ∃ O, O = (nds.getD k Nd.none).op := ⟨_, rfl⟩
        rw [← hP] at k2
        rw [← hO] at k0
        have hk0 : (0 : Int) ≤ (k : Int) := by omega
        have hk1 : (k : Int) < (nds.length : Int) := by omega
        have hi0 : (0 : Int) ≤ (i : Int) := by omega
        have hi1 : (i : Int) < (l.length : Int) := by omega
        have hk2 : ¬ ((k : Int) < 0) := by omega
        have hk3 : ¬ ((nds.length : Int) ≤ (k : Int)) := by omega
        unfold maxLen at hcm
        clear hr hgw s1 s2 hxs hP hO hk hki hmk
        go_wp2_with fail
        go_quiet (fail)
        have HR2 : Hid (AH w (.slice (some ⟨b, o, none⟩) nds.length gc) out nds.length (.slice (some ⟨g, 0, none⟩) l.length lc') l D (mkd (l.take i)) (wr.drewN nq) ∧ SlOf RInt 1 (· < w.heap.size) (wr.drewN nq) (.slice ia xs.length ic) xs) := ⟨⟨HR.out.1.gb, below_drewN HR.out.1.below _, HR.out.1.own, HR.out.1.db, HR.out.1.ne, HR.out.1.ged⟩, HR.out.2⟩
        have e0 : (wr.drewN nq).cell? ⟨w.heap.size, 0, none⟩ = some (.slice (some ⟨b, o, none⟩) nds.length gc) := b0
        have e1 : (wr.drewN nq).cell? ⟨g, i, none⟩ = some (.int .i64 k) := hck
        have e2 : (wr.drewN nq).cell? ⟨b, o + k * 3, none⟩ = some (.int .i64 O) := k0
        have e3 : (wr.drewN nq).cell? ⟨b, o + k * 3 + 1, none⟩ = some (.slice ia xs.length ic) := k1
        have e4 : (wr.drewN nq).cell? ⟨b, o + k * 3 + 2, none⟩ = some (.slice pa P pc) := k2
        generalize wr.drewN nq = W5 at *
        clear b0 hck k0 k1 k2 d0 HR
        have o0 := cell_alloc_lt e0 (.cells #[.int .i64 0, .slice none 0 0, .slice none 0 0] 36)
        have o1 := cell_alloc_lt e1 (.cells #[.int .i64 0, .slice none 0 0, .slice none 0 0] 36)
        have o2 := cell_alloc_lt e2 (.cells #[.int .i64 0, .slice none 0 0, .slice none 0 0] 36)
        have o3 := cell_alloc_lt e3 (.cells #[.int .i64 0, .slice none 0 0, .slice none 0 0] 36)
        have o4 := cell_alloc_lt e4 (.cells #[.int .i64 0, .slice none 0 0, .slice none 0 0] 36)
        have X6 := Box.new W5 [.int .i64 0, .slice none 0 0, .slice none 0 0] 36
        have n0 := X6.cell 0 rfl
        have n1 := X6.cell 1 rfl
        have n2 := X6.cell 2 rfl
        have m0 := X6.frozen 0
        have m1 := X6.frozen 1
        have m2 := X6.frozen 2
        have HX6 : Hid (Box (W5.alloc (.cells #[.int .i64 0, .slice none 0 0, .slice none 0 0] 36)) W5.heap.size [.int .i64 0, .slice none 0 0, .slice none 0 0]) := X6
        clear X6
        go_wp2_with fail
        go_region
        rename 0 ≤ (k : Int) ∧ ¬ nds.length ≤ k => hh
        clear hh
        have H6 : Hid (AH w (.slice (some ⟨b, o, none⟩) nds.length gc) out nds.length (.slice (some ⟨g, 0, none⟩) l.length lc') l D (mkd (l.take i)) (W5.alloc (.cells #[.int .i64 O, .slice ia xs.length ic, .slice pa P pc] 36)).drew ∧ SlOf RInt 1 (· < w.heap.size) (W5.alloc (.cells #[.int .i64 O, .slice ia xs.length ic, .slice pa P pc] 36)).drew (.slice ia xs.length ic) xs ∧ Box (W5.alloc (.cells #[.int .i64 O, .slice ia xs.length ic, .slice pa P pc] 36)).drew W5.heap.size [.int .i64 O, .slice ia xs.length ic, .slice pa P pc]) := by
          have b := below_alloc W5 (.cells #[.int .i64 O, .slice ia xs.length ic, .slice pa P pc] 36)
          have b2 := b.drew
          exact ⟨HR2.out.1.call b2, sl_below HR2.out.2 (b2.mono HR2.out.1.below.size), (Box.new W5 _ _).drew⟩
        obtain ⟨N, hN⟩ : ∃ N, N = W5.heap.size := ⟨_, rfl⟩
        rw [← hN] at H6
        rw [← hN]
        clear e0 e1 e2 e3 e4 o0 o1 o2 o3 o4 n0 n1 n2 m0 m1 m2 HX6 HR2 hN
        generalize (W5.alloc (.cells #[.int .i64 O, .slice ia xs.length ic, .slice pa P pc] 36)).drew = W6 at *
        go_wp2_with fail
        go_loopw [7] (fun jv wr => ∃ j d : Nat, j ≤ xs.length ∧ jv = .int .i64 j ∧ wr = W6.drewN d) (fun jv _ => xs.length - (intOf jv).toNat)
        case atStart => exact ⟨0, 0, Nat.zero_le _, rfl, by first | rfl | simp⟩
        case round =>
          obtain ⟨j, d, hj, rfl, rfl⟩ := hrel
          have n0 := H6.out.2.2.cell 0 rfl
          have n1 := H6.out.2.2.cell 1 rfl
          by_cases hjl : j < xs.length
          · obtain ⟨ia', ic', hv, hic, hicm, hin, hcell⟩ := H6.out.2.1.ints
            simp only [Value.slice.injEq] at hv
            obtain ⟨rfl, _, rfl⟩ := hv
            obtain ⟨b5, o5, rfl, _, hc5⟩ := hcell j hjl
            have c5 := hc5 j hjl
            obtain ⟨x, hx⟩ : ∃ x, x = xs.getD j 0 := ⟨_, rfl⟩
            rw [← hx] at c5
            have hxm : x ∈ xs := by rw [hx]; simp [hjl]
            have g0 := H6.out.1.gb.cell 0 rfl
            have hj0 : (0 : Int) ≤ (j : Int) := by omega
            have hj1 : (j : Int) < (xs.length : Int) := by omega
            clear hcell hc5 hx hin
            unfold maxLen at hicm
            by_cases hx0 : 0 ≤ x
            · by_cases hx1 : x < nds.length
              · obtain ⟨z, rfl⟩ : ∃ z : Nat, x = z := ⟨x.toNat, by omega⟩
                have hzn : z < nds.length := by omega
                have hz : mkd (l.take i) z = true := by
                  refine decide_eq_true (HL.out.2.1.behind i k HX.out.2 z ((inp_mem _ _ _).2 ⟨by rw [HI.out.2]; exact hzn, ?_⟩))
                  rw [HI.out.1, insOf_get, ← HX.out.1]
                  exact hxm
                have d0 := H6.out.1.db.cell z (bc_get _ hzn)
                rw [hz] at d0
                clear hz hxm
                go_wp2_with fail
                go_quiet (fail)
                go_wp2_with fail
                go_roundw
                case rel => exact ⟨j + 1, _, by omega, by go_num, by first | rfl | (simp; rfl)⟩
                case measure => simp [intOf]; omega
              · have hx2 : (nds.length : Int) ≤ x := by omega
                have hx3 : decide (x < (nds.length : Int)) = false := decide_eq_false hx1
                go_wp2_with fail
                go_quiet (fail)
                go_wp2_with fail
                go_roundw
                case rel => exact ⟨j + 1, _, by omega, by go_num, by first | rfl | (simp; rfl)⟩
                case measure => simp [intOf]; omega
            · have hx2 : decide (0 ≤ x) = false := decide_eq_false hx0
              go_wp2_with fail
              go_quiet (fail)
              go_wp2_with fail
              go_roundw
              case rel => exact ⟨j + 1, _, by omega, by go_num, by first | rfl | (simp; rfl)⟩
              case measure => simp [intOf]; omega
          · have ej : j = xs.length := by omega
            subst ej
            have H7 : Hid (AH w (.slice (some ⟨b, o, none⟩) nds.length gc) out nds.length (.slice (some ⟨g, 0, none⟩) l.length lc') l D (mkd (l.take i)) (W6.drewN d) ∧ Box (W6.drewN d) N [.int .i64 O, .slice ia xs.length ic, .slice pa P pc]) := ⟨⟨H6.out.1.gb, below_drewN H6.out.1.below _, H6.out.1.own, H6.out.1.db, H6.out.1.ne, H6.out.1.ged⟩, H6.out.2.2⟩
            clear n0 n1 H6 hj hjl
            generalize W6.drewN d = W7 at *
            have n0 := H7.out.2.cell 0 rfl
            have n1 := H7.out.2.cell 1 rfl
            obtain ⟨g', hg', c5⟩ := row_cell H7.out.1.own HX.out.2
            simp only [Option.some.injEq, Addr.mk.injEq, and_true] at hg'
            subst hg'
            have d0 := H7.out.1.db.cell k (bc_get _ hkn)
            have hmk : mkd (l.take i) k = false := decide_eq_false (not_take HL.out.2.1.nodup HX.out.2)
            rw [hmk] at d0
            have f0 := H7.out.1.db.frozen k
            have HE : Hid (AH w (.slice (some ⟨b, o, none⟩) nds.length gc) out nds.length (.slice (some ⟨g, 0, none⟩) l.length lc') l D (mkd (l.take (i + 1))) (W7.setCell ⟨D, k, none⟩ (.bool true))) := by
              refine (H7.out.1.mark k true).congr fun r _ => ?_
              rw [take_more HX.out.2]
              exact mk_snoc _ _ _
            clear hmk H7
            go_wp2_with fail
            go_roundw
            case rel => exact ⟨i + 1, by omega, by go_num, HE.out⟩
            case measure => simp [intOf]; omega
      · have ei : i = l.length := by omega
        subst ei
        have g0 := hr.gb.cell 0 rfl
        have g1 := hr.gb.cell 1 rfl
        have HB : Hid (Below w.heap.size w wr) := hr.below
        have k0 := fun s : Kept wr.heap.size wr => s.at g0
        have k1 := fun s : Kept wr.heap.size wr => s.at g1
        obtain ⟨r, hrr⟩ : ∃ r, r = decide ((ord (insOf nds)).length < nds.length) := ⟨_, rfl⟩
        have HA : Hid (∀ s : Kept wr.heap.size wr, Calls Try.prog 13 #[.agg #[.slice ga nds.length gc, .int .i64 out]] s.w (PPost s.w (.bool r))) := fun s => by
          rw [hrr]
          exact round_c w.heap.size _ nds out s.w (by omega) HF.out.2 (HG.out.below (HB.out.trans (s.below.mono HB.out.size)) (Nat.le_refl _)) (Nat.le_trans HB.out.size s.below.size)
        by_cases hfull : l.length = nds.length
        · have hr0 : r = false := by rw [hrr, ← HI.out.1, ← HL.out.1]; exact decide_eq_false (by omega)
          have he : ((l.length : Int) == (nds.length : Int)) = true := by simp; omega
          subst hr0
          clear hr hrr g0 g1 hfull
          go_wp2_with fail
          refine wp_region_kept wr.heap.size (by kernel_rfl) (by kernel_rfl) ?_
          repeat (go_big_quiet_step (first | (go_at_call 13; with_reducible exact Calls.kept _ (Nat.le_refl _) (HA.out _))))
          refine wpQuiet_nil ?_
          rintro _ ⟨s, rfl⟩
          have HE : Hid (Below w.heap.size w s.w) := HB.out.trans (s.below.mono HB.out.size)
          clear k0 k1 HA
          go_wp2_with fail
          go_ret
          exact ⟨rfl, HE.out⟩
        · have hr0 : r = true := by rw [hrr, ← HI.out.1, ← HL.out.1]; exact decide_eq_true (by omega)
          have he : ((l.length : Int) == (nds.length : Int)) = false := by simp; omega
          subst hr0
          clear hr hrr g0 g1 hfull
          go_wp2_with fail
          refine wp_region_kept wr.heap.size (by kernel_rfl) (by kernel_rfl) ?_
          repeat (go_big_quiet_step (first | (go_at_call 13; with_reducible exact Calls.kept _ (Nat.le_refl _) (HA.out _))))
          refine wpQuiet_nil ?_
          rintro _ ⟨s, rfl⟩
          have HE : Hid (Below w.heap.size w s.w) := HB.out.trans (s.below.mono HB.out.size)
          clear k0 k1 HA
          go_wp2_with fail
          go_ret
          exact ⟨rfl, HE.out⟩
end Go.Proofs.Ythjfbcmbjfkodaa
