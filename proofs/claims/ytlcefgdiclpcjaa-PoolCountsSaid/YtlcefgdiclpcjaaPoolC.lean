/- The walk of 'PoolCounts'. -/
import Derived.Test.YtlcefgdiclpcjaaPoolL
import Derived.Deep.RegionHeld3
import Derived.Deep.AppendLies
namespace Go.Proofs.Ytlcefgdiclpcjaa
open Go.ChangeShapes Go.WideShapes Go.ChangeAt Go.RowKit Go.Bx
attribute [local go_sem ↓] Go.wp_at_zero Go.wp_at_succ
set_option linter.unusedVariables false

def szs (T : List Int) : Int := (T.map sz).foldr (· + ·) 0
theorem szs_nonneg (T : List Int) : 0 ≤ szs T := by
  unfold szs
  induction T with
  | nil => simp
  | cons x T ih => have := sz_bd x; simp only [List.map_cons, List.foldr_cons]; omega
theorem szs_snoc (T : List Int) (x : Int) : szs (T ++ [x]) = szs T + sz x := by
  unfold szs
  induction T with
  | nil => simp
  | cons y T ih => simp only [List.cons_append, List.map_cons, List.foldr_cons, ih]; omega
theorem szs_drop (T : List Int) (j : Nat) (h : j < T.length) : szs (T.drop j) = sz (T.getD j 0) + szs (T.drop (j + 1)) := by
  rw [List.drop_eq_getElem_cons h]
  have e : T.getD j 0 = T[j] := by simp [h]
  rw [e]
  rfl

/-- after k were asked for -/
def R1 (r u p : Int) (b0 bw B : Nat) (w : World) (len : Nat) (tk i : Value) (wr : World) : Prop :=
  ∃ (k : Nat) (U P : Int) (T : List Int), k ≤ len ∧ i = .int .i64 k ∧ IsPool r U P ∧ U = u + szs T ∧ p ≤ P ∧ T.length ≤ k ∧ (∀ x ∈ T, In64 x) ∧ Box wr b0 [.int .i64 r, .int .i64 U, .int .i64 P] ∧ Box wr bw [.int .i64 r, .int .i64 u, .int .i64 p] ∧
    wr.ownsRow (bw + 1) 3 1 tk T.length (T.map (Value.int .i64)) ∧ Below w.heap.size w wr
/-- after j were given back -/
def R2 (r u p P : Int) (b0 bw : Nat) (w : World) (T : List Int) (tk i : Value) (wr : World) : Prop :=
  ∃ (j : Nat) (U : Int), j ≤ T.length ∧ i = .int .i64 j ∧ IsPool r U P ∧ U = u + szs (T.drop j) ∧ Box wr b0 [.int .i64 r, .int .i64 U, .int .i64 P] ∧ Box wr bw [.int .i64 r, .int .i64 u, .int .i64 p] ∧
    wr.ownsRow (bw + 1) 3 1 tk T.length (T.map (Value.int .i64)) ∧ Below w.heap.size w wr

theorem infoInt : (Try.prog.info? 3).map (fun i => (i.zero, i.size, i.bytes)) = some (some (.int .i64 0), 1, 8) := by kernel_rfl

theorem keep4 {W w' : World} {b0 b o : Nat} {x0 x1 x2 y : Value} (hb : Below W.heap.size W w') (h0 : b0 < W.heap.size) (h1 : b < W.heap.size)
    (c0 : W.cell? ⟨b0, 0, none⟩ = some x0) (c1 : W.cell? ⟨b0, 1, none⟩ = some x1) (c2 : W.cell? ⟨b0, 2, none⟩ = some x2) (d : W.cell? ⟨b, o, none⟩ = some y) :
    w'.cell? ⟨b0, 0, none⟩ = some x0 ∧ w'.cell? ⟨b0, 1, none⟩ = some x1 ∧ w'.cell? ⟨b0, 2, none⟩ = some x2 ∧ w'.cell? ⟨b, o, none⟩ = some y :=
  ⟨(hb.cell (p := ⟨b0, 0, none⟩) h0).trans c0, (hb.cell (p := ⟨b0, 1, none⟩) h0).trans c1, (hb.cell (p := ⟨b0, 2, none⟩) h0).trans c2, (hb.cell (p := ⟨b, o, none⟩) h1).trans d⟩

set_option maxHeartbeats 3200000 in
theorem poolCounts_walk (r u p : Int) (v : Value) (xs : List Int) (w : World) (hl : SlOf RInt 1 (· < w.heap.size) w v xs) :
    Calls Try.prog 8 #[.agg #[.int .i64 r, .int .i64 u, .int .i64 p], v] w (TPost w) := by
  obtain ⟨a, cap, rfl, hcap, hm, hin, hcell⟩ := hl.ints
  unfold maxLen at hm
  go_enter Try.func8, Try.ntmps8
  go_wp2_with fail
  refine (awake18_c _).mono ?_; rintro e w1 ⟨rfl, hb1⟩
  have B1 := after ((Below.refl _ w).alloc (Nat.le_refl _) _) (by simp) hb1
  have X1 := (Box.new w [.int .i64 r, .int .i64 u, .int .i64 p] 36).call hb1
  have c0 := X1.cell 0 rfl
  have c1 := X1.cell 1 rfl
  have c2 := X1.cell 2 rfl
  clear hb1
  go_wp2_with fail
  refine (pright_c _ _ _ _).mono ?_; rintro e w2 ⟨rfl, hb2⟩
  clear c0 c1 c2
  have B2 := after B1 B1.size hb2
  have X2 := X1.call hb2
  have c0 := X2.cell 0 rfl
  have c1 := X2.cell 1 rfl
  have c2 := X2.cell 2 rfl
  clear hb2 X1 B1
  by_cases hp : IsPool r u p
  · rw [(rightB_iff r u p).2 hp]
    by_cases hlen : xs.length ≤ 100
    · have hlt := X2.lt
      have Y := Box.new w2 [.int .i64 r, .int .i64 u, .int .i64 p] 36
      have X3 := X2.alloc (.cells #[.int .i64 r, .int .i64 u, .int .i64 p] 36)
      have B3 := B2.alloc B2.size (.cells #[.int .i64 r, .int .i64 u, .int .i64 p] 36)
      have hs3 : (w2.alloc (.cells #[.int .i64 r, .int .i64 u, .int .i64 p] 36)).heap.size = w2.heap.size + 1 := size_alloc _ _
      go_wp2_with fail
      have hsl : (100 : Int) < (xs.length : Int) → False := by omega
      clear c0 c1 c2
      go_loopw [6, 7] (R1 r u p w.heap.size w2.heap.size w.heap.size w xs.length) (fun _ i _ => xs.length - (intOf i).toNat)
      case atStart => exact ⟨0, u, p, [], by omega, rfl, hp, by simp [szs], by omega, by simp, (fun x hx => by cases hx), X3, Y, World.ownsRow_nil _ _ _ _, B3⟩
      case round =>
        obtain ⟨k, U, P, T, hk, rfl, hpk, hU, hPk, hTk, hTin, X, Z, hown, hbel⟩ := hrel
        clear X3 Y B3 X2 hs3 B2
        have x0 := X.cell 0 rfl
        have x1 := X.cell 1 rfl
        have x2 := X.cell 2 rfl
        by_cases hlt : k < xs.length
        · obtain ⟨b, o, rfl, hF, hcl⟩ := hcell k hlt
          have hck : wr.cell? ⟨b, o + k, none⟩ = some (.int .i64 (xs.getD k 0)) := (hbel.cell (p := ⟨b, o + k, none⟩) hF).trans (hcl k hlt)
          have hxk : In64 (xs.getD k 0) := hin _ (by rw [List.getD_eq_getElem?_getD, List.getElem?_eq_getElem hlt]; exact List.getElem_mem hlt)
          obtain ⟨x, hx⟩ : ∃ x, x = xs.getD k 0 := ⟨_, rfl⟩
          rw [← hx] at hck hxk
          clear hx hcl hcell hin
          have hi1 : (0 : Int) ≤ (k : Int) := by omega
          have hi2 : (k : Int) < (xs.length : Int) := by omega
          have hx0 := X.lt
          have hxb : b < wr.heap.size := lt_of_cell hck
          have HH : Hid ((IsPool r U P ∧ U = u + szs T ∧ p ≤ P ∧ T.length ≤ k ∧ (∀ x ∈ T, In64 x) ∧ Box wr w.heap.size [.int .i64 r, .int .i64 U, .int .i64 P] ∧ Box wr w2.heap.size [.int .i64 r, .int .i64 u, .int .i64 p] ∧
            wr.ownsRow (w2.heap.size + 1) 3 1 u6 T.length (T.map (Value.int .i64)) ∧ Below w.heap.size w wr) ∧ IsPool r u p ∧ In64 x) := ⟨⟨hpk, hU, hPk, hTk, hTin, X, Z, hown, hbel⟩, hp, hxk⟩
          clear hpk hU hPk hTk hTin X Z hown hbel hp hxk hF hlen hsl hl
          go_wp2_with fail
          go_region_held3 (fun w' => w'.cell? ⟨w.heap.size, 0, none⟩ = some (.int .i64 r) ∧ w'.cell? ⟨w.heap.size, 1, none⟩ = some (.int .i64 U) ∧ w'.cell? ⟨w.heap.size, 2, none⟩ = some (.int .i64 P) ∧ w'.cell? ⟨b, o + k, none⟩ = some (.int .i64 x))
            ((refine keep4 (W := wr) ?_ hx0 hxb x0 x1 x2 hck; (repeat' (first | assumption | (with_reducible exact Below.refl _ _) | (with_reducible refine below_drewN ?_ _) | (with_reducible refine Below.drew ?_) | (with_reducible refine Below.setCell ?_ ?_ _) | (with_reducible refine Below.alloc ?_ ?_ _) | (simp; done) | (simp; omega))))) ((go_at_call 29; refine (take_c _ _ _ _ _ HH.out.1.1 HH.out.2.2.1 HH.out.2.2.2).mono ?_; rintro e w5 ⟨rfl, hb5⟩; have hB5 : Below wr.heap.size wr w5 := after (B := wr.heap.size) (by repeat' (first | assumption | (with_reducible exact Below.refl _ _) | (with_reducible refine below_drewN ?_ _) | (with_reducible refine Below.drew ?_) | (with_reducible refine Below.setCell ?_ ?_ _) | (with_reducible refine Below.alloc ?_ ?_ _) | (simp; done) | (simp; omega))) (by simp) hb5; have hz5 := hB5.size; try (have Q := (Box.new wr.drew [.int .i64 0, .int .i64 0, .int .i64 0] 36).call hb5; have q0 : w5.cell? ⟨wr.heap.size, 0, none⟩ = some (.int .i64 0) := Q.cell 0 rfl; have q1 : w5.cell? ⟨wr.heap.size, 1, none⟩ = some (.int .i64 0) := Q.cell 1 rfl; have q2 : w5.cell? ⟨wr.heap.size, 2, none⟩ = some (.int .i64 0) := Q.cell 2 rfl; have f0 : w5.frozen? ⟨wr.heap.size, 0, none⟩ = false := Q.frozen 0; have f1 : w5.frozen? ⟨wr.heap.size, 1, none⟩ = false := Q.frozen 1; have f2 : w5.frozen? ⟨wr.heap.size, 2, none⟩ = false := Q.frozen 2; clear Q)))
          · have hB' : Below wr.heap.size wr (w5.alloc (.cells #[.int .i64 r, .int .i64 (tkU r U x), .int .i64 (tkP r U P x)] 36)) := (by repeat' (first | assumption | (with_reducible exact Below.refl _ _) | (with_reducible refine below_drewN ?_ _) | (with_reducible refine Below.drew ?_) | (with_reducible refine Below.setCell ?_ ?_ _) | (with_reducible refine Below.alloc ?_ ?_ _) | (simp; done) | (simp; omega)))
            have Q : Box (w5.alloc (.cells #[.int .i64 r, .int .i64 (tkU r U x), .int .i64 (tkP r U P x)] 36)) w5.heap.size [.int .i64 r, .int .i64 (tkU r U x), .int .i64 (tkP r U P x)] := Box.new w5 [.int .i64 r, .int .i64 (tkU r U x), .int .i64 (tkP r U P x)] 36
            clear hb5
            generalize (w5.alloc (.cells #[.int .i64 r, .int .i64 (tkU r U x), .int .i64 (tkP r U P x)] 36)) = W' at *
            have hbq0 : wr.heap.size ≤ w5.heap.size := hz5
            generalize w5.heap.size = bq at *
            clear hB5 hz5
            have c3 := Q.cell 0 rfl
            have c4 := Q.cell 1 rfl
            have c5 := Q.cell 2 rfl
            obtain ⟨⟨hpk, hU, hPk, hTk, hTin, X, Z, hown, hbel⟩, hp, hxk⟩ := HH.out
            clear HH
            have X' := X.call hB'
            have Z' := Z.call hB'
            have hown' := owns_below hown hB' (Nat.le_refl _)
            have hbel' := after hbel hbel.size hB'
            have hck' := (hB'.cell (p := ⟨b, o + k, none⟩) hxb).trans hck
            have hq := tk_pool x hpk
            have hmono : P ≤ tkP r U P x := by unfold tkP; split <;> omega
            have hno : tkB r U x = false → tkU r U x = U ∧ tkP r U P x = P := by
              intro h
              have h' := of_decide_eq_false h
              unfold tkU tkP
              exact ⟨if_neg h', if_neg h'⟩
            have hyes : tkB r U x = true → tkU r U x = U + sz x := by
              intro h
              have h' := of_decide_eq_true h
              unfold tkU
              exact if_pos h'
            have hrow := hown.lt
            have hbw := Z.lt
            clear X Z hown hbel hck x0 x1 x2 hpk
            generalize tkU r U x = U' at *
            generalize tkP r U P x = P' at *
            have hsz := hB'.size
            have f0 := X'.frozen 0
            have f1 := X'.frozen 1
            have f2 := X'.frozen 2
            have hbq := Q.lt
            have hX' := X'.lt
            have hpq : IsPool r U' P' := hq
            unfold IsPool at hq
            clear hB'
            by_cases ht : tkB r U x = true
            · rw [ht]
              have hU' := hyes ht
              have HU : Hid (U' = u + szs (T ++ [x])) := by show U' = _; rw [szs_snoc, hU', hU]; omega
              clear hyes hno ht hU' hU
              have HT : Hid ((∀ x ∈ T, In64 x) ∧ IsPool r u p ∧ In64 x ∧ IsPool r U' P') := ⟨hTin, hp, hxk, hpq⟩
              clear hTin hp hxk hpq
              obtain ⟨i3, hi3, hz0, hz1, hz2⟩ := info_parts infoInt
              have hone : ∀ u ∈ [Value.int .i64 x], u.oneCell' = true := by intro u hu; simp at hu; subst hu; rfl
              have hc3 : T.length + 1 ≤ maxLen := by unfold maxLen; omega
              have hc4 : (T.length + 1) * 8 ≤ 140737488355328 := by omega
              have hc5 : w2.heap.size + 1 ≤ W'.heap.size + 1 := by have := Z'.lt; omega
              go_wp2_with (first | (at_builtin; refine wpList_append_own _ rfl _ _ 41 rfl (w2.heap.size + 1) 3 i3 (.int .i64 0) 1 8 Try.underlying41 hi3 hz0 hz1 hz2 rfl (by decide) _ _ _ rfl (hown'.alloc _) ⟨W'.heap.size, 0, none⟩ 1 1 [.int .i64 x] rfl rfl (cell_one_new _ _ _) hone hc3 hc4 (by rw [size_alloc]; exact hc5) ?_; intro tk' w6 hown6 hgrow6 _; have hg6 : (W'.alloc (.cells #[.int .i64 x] 3)).grownBy w6 u6.ownBlock := hgrow6; clear hgrow6; have X6 := (X'.alloc (.cells #[.int .i64 x] 3)).grown' hg6 (by intro hc; have := (hrow _ hc).1; omega); have Z6 := (Z'.alloc (.cells #[.int .i64 x] 3)).grown' hg6 (by intro hc; have := (hrow _ hc).1; omega); have Q6 := (Q.alloc (.cells #[.int .i64 x] 3)).grown' hg6 (by intro hc; have := (hrow _ hc).2; omega); have B6 := below_grown (hbel'.alloc hbel'.size (.cells #[.int .i64 x] 3)) hg6 (hown'.alloc _) (by omega) (by rw [size_alloc]; omega); clear hg6; have y0 := Q6.cell 0 rfl; have y1 := Q6.cell 1 rfl; have y2 := Q6.cell 2 rfl; have e0 := X6.frozen 0; have e1 := X6.frozen 1; have e2 := X6.frozen 2; have e3 := X6.cell 0 rfl; have e4 := X6.cell 1 rfl; have e5 := X6.cell 2 rfl))
              go_roundw
              case rel =>
                obtain ⟨t1, t2, t3, t4⟩ := HT.out
                refine ⟨k + 1, U', P', T ++ [x], by omega, by go_num, t4, HU.out, by omega, by simp; omega, ?_, ((X6.self 0 (.int .i64 r)).self 1 (.int .i64 U')).self 2 (.int .i64 P'), ((Z6.set (by simp; omega) _).set (by simp; omega) _).set (by simp; omega) _, ?_, ?_⟩
                · intro y hy
                  rcases List.mem_append.1 hy with hy | hy
                  · exact t1 y hy
                  · simp at hy; subst hy; exact t3
                · have := owns_set (owns_set (owns_set hown6 (p := ⟨w.heap.size, 0, none⟩) (by simp; omega) (.int .i64 r)) (p := ⟨w.heap.size, 1, none⟩) (by simp; omega) (.int .i64 U')) (p := ⟨w.heap.size, 2, none⟩) (by simp; omega) (.int .i64 P')
                  simpa using this
                · exact ((B6.setCell (Nat.le_refl _) _).setCell (Nat.le_refl _) _).setCell (Nat.le_refl _) _
              case measure => simp [intOf]; omega
            · have ht' : tkB r U x = false := by simpa using ht
              rw [ht']
              obtain ⟨rfl, rfl⟩ := hno ht'
              clear hyes hno ht ht'
              have HT : Hid ((∀ x ∈ T, In64 x) ∧ IsPool r u p ∧ IsPool r U' P' ∧ U' = u + szs T) := ⟨hTin, hp, hpq, hU⟩
              clear hTin hp hxk hpq hU
              have g0 := X'.cell 0 rfl
              have g1 := X'.cell 1 rfl
              have g2 := X'.cell 2 rfl
              go_wp2_with fail
              go_roundw
              case rel =>
                obtain ⟨t1, t2, t4, t5⟩ := HT.out
                refine ⟨k + 1, U', P', T, by omega, by go_num, t4, t5, by omega, by omega, t1, ((X'.self 0 (.int .i64 r)).self 1 (.int .i64 U')).self 2 (.int .i64 P'), ((Z'.set (by simp; omega) _).set (by simp; omega) _).set (by simp; omega) _, ?_, ?_⟩
                · exact owns_set (owns_set (owns_set hown' (p := ⟨w.heap.size, 0, none⟩) (by simp; omega) (.int .i64 r)) (p := ⟨w.heap.size, 1, none⟩) (by simp; omega) (.int .i64 U')) (p := ⟨w.heap.size, 2, none⟩) (by simp; omega) (.int .i64 P')
                · exact ((hbel'.setCell (Nat.le_refl _) _).setCell (Nat.le_refl _) _).setCell (Nat.le_refl _) _
              case measure => simp [intOf]; omega
          · have hB' : Below wr.heap.size wr (((w5.setCell ⟨wr.heap.size, 0, none⟩ (.int .i64 r)).setCell ⟨wr.heap.size, 1, none⟩ (.int .i64 (tkU r U x))).setCell ⟨wr.heap.size, 2, none⟩ (.int .i64 (tkP r U P x))) := (by repeat' (first | assumption | (with_reducible exact Below.refl _ _) | (with_reducible refine below_drewN ?_ _) | (with_reducible refine Below.drew ?_) | (with_reducible refine Below.setCell ?_ ?_ _) | (with_reducible refine Below.alloc ?_ ?_ _) | (simp; done) | (simp; omega)))
            have Q : Box (((w5.setCell ⟨wr.heap.size, 0, none⟩ (.int .i64 r)).setCell ⟨wr.heap.size, 1, none⟩ (.int .i64 (tkU r U x))).setCell ⟨wr.heap.size, 2, none⟩ (.int .i64 (tkP r U P x))) wr.heap.size [.int .i64 r, .int .i64 (tkU r U x), .int .i64 (tkP r U P x)] := ((((Box.new wr.drew [.int .i64 0, .int .i64 0, .int .i64 0] 36).call hb5).self 0 (.int .i64 r)).self 1 (.int .i64 (tkU r U x))).self 2 (.int .i64 (tkP r U P x))
            clear hb5
            generalize (((w5.setCell ⟨wr.heap.size, 0, none⟩ (.int .i64 r)).setCell ⟨wr.heap.size, 1, none⟩ (.int .i64 (tkU r U x))).setCell ⟨wr.heap.size, 2, none⟩ (.int .i64 (tkP r U P x))) = W' at *
            clear hB5 hz5
            have c3 := Q.cell 0 rfl
            have c4 := Q.cell 1 rfl
            have c5 := Q.cell 2 rfl
            obtain ⟨⟨hpk, hU, hPk, hTk, hTin, X, Z, hown, hbel⟩, hp, hxk⟩ := HH.out
            clear HH
            have X' := X.call hB'
            have Z' := Z.call hB'
            have hown' := owns_below hown hB' (Nat.le_refl _)
            have hbel' := after hbel hbel.size hB'
            have hck' := (hB'.cell (p := ⟨b, o + k, none⟩) hxb).trans hck
            have hq := tk_pool x hpk
            have hmono : P ≤ tkP r U P x := by unfold tkP; split <;> omega
            have hno : tkB r U x = false → tkU r U x = U ∧ tkP r U P x = P := by
              intro h
              have h' := of_decide_eq_false h
              unfold tkU tkP
              exact ⟨if_neg h', if_neg h'⟩
            have hyes : tkB r U x = true → tkU r U x = U + sz x := by
              intro h
              have h' := of_decide_eq_true h
              unfold tkU
              exact if_pos h'
            have hrow := hown.lt
            have hbw := Z.lt
            clear X Z hown hbel hck x0 x1 x2 hpk
            generalize tkU r U x = U' at *
            generalize tkP r U P x = P' at *
            have hsz := hB'.size
            have f0 := X'.frozen 0
            have f1 := X'.frozen 1
            have f2 := X'.frozen 2
            have hbq := Q.lt
            have hX' := X'.lt
            have hpq : IsPool r U' P' := hq
            unfold IsPool at hq
            clear hB'
            by_cases ht : tkB r U x = true
            · rw [ht]
              have hU' := hyes ht
              have HU : Hid (U' = u + szs (T ++ [x])) := by show U' = _; rw [szs_snoc, hU', hU]; omega
              clear hyes hno ht hU' hU
              have HT : Hid ((∀ x ∈ T, In64 x) ∧ IsPool r u p ∧ In64 x ∧ IsPool r U' P') := ⟨hTin, hp, hxk, hpq⟩
              clear hTin hp hxk hpq
              obtain ⟨i3, hi3, hz0, hz1, hz2⟩ := info_parts infoInt
              have hone : ∀ u ∈ [Value.int .i64 x], u.oneCell' = true := by intro u hu; simp at hu; subst hu; rfl
              have hc3 : T.length + 1 ≤ maxLen := by unfold maxLen; omega
              have hc4 : (T.length + 1) * 8 ≤ 140737488355328 := by omega
              have hc5 : w2.heap.size + 1 ≤ W'.heap.size + 1 := by have := Z'.lt; omega
              go_wp2_with (first | (at_builtin; refine wpList_append_own _ rfl _ _ 41 rfl (w2.heap.size + 1) 3 i3 (.int .i64 0) 1 8 Try.underlying41 hi3 hz0 hz1 hz2 rfl (by decide) _ _ _ rfl (hown'.alloc _) ⟨W'.heap.size, 0, none⟩ 1 1 [.int .i64 x] rfl rfl (cell_one_new _ _ _) hone hc3 hc4 (by rw [size_alloc]; exact hc5) ?_; intro tk' w6 hown6 hgrow6 _; have hg6 : (W'.alloc (.cells #[.int .i64 x] 3)).grownBy w6 u6.ownBlock := hgrow6; clear hgrow6; have X6 := (X'.alloc (.cells #[.int .i64 x] 3)).grown' hg6 (by intro hc; have := (hrow _ hc).1; omega); have Z6 := (Z'.alloc (.cells #[.int .i64 x] 3)).grown' hg6 (by intro hc; have := (hrow _ hc).1; omega); have Q6 := (Q.alloc (.cells #[.int .i64 x] 3)).grown' hg6 (by intro hc; have := (hrow _ hc).2; omega); have B6 := below_grown (hbel'.alloc hbel'.size (.cells #[.int .i64 x] 3)) hg6 (hown'.alloc _) (by omega) (by rw [size_alloc]; omega); clear hg6; have y0 := Q6.cell 0 rfl; have y1 := Q6.cell 1 rfl; have y2 := Q6.cell 2 rfl; have e0 := X6.frozen 0; have e1 := X6.frozen 1; have e2 := X6.frozen 2; have e3 := X6.cell 0 rfl; have e4 := X6.cell 1 rfl; have e5 := X6.cell 2 rfl))
              go_roundw
              case rel =>
                obtain ⟨t1, t2, t3, t4⟩ := HT.out
                refine ⟨k + 1, U', P', T ++ [x], by omega, by go_num, t4, HU.out, by omega, by simp; omega, ?_, ((X6.self 0 (.int .i64 r)).self 1 (.int .i64 U')).self 2 (.int .i64 P'), ((Z6.set (by simp; omega) _).set (by simp; omega) _).set (by simp; omega) _, ?_, ?_⟩
                · intro y hy
                  rcases List.mem_append.1 hy with hy | hy
                  · exact t1 y hy
                  · simp at hy; subst hy; exact t3
                · have := owns_set (owns_set (owns_set hown6 (p := ⟨w.heap.size, 0, none⟩) (by simp; omega) (.int .i64 r)) (p := ⟨w.heap.size, 1, none⟩) (by simp; omega) (.int .i64 U')) (p := ⟨w.heap.size, 2, none⟩) (by simp; omega) (.int .i64 P')
                  simpa using this
                · exact ((B6.setCell (Nat.le_refl _) _).setCell (Nat.le_refl _) _).setCell (Nat.le_refl _) _
              case measure => simp [intOf]; omega
            · have ht' : tkB r U x = false := by simpa using ht
              rw [ht']
              obtain ⟨rfl, rfl⟩ := hno ht'
              clear hyes hno ht ht'
              have HT : Hid ((∀ x ∈ T, In64 x) ∧ IsPool r u p ∧ IsPool r U' P' ∧ U' = u + szs T) := ⟨hTin, hp, hpq, hU⟩
              clear hTin hp hxk hpq hU
              have g0 := X'.cell 0 rfl
              have g1 := X'.cell 1 rfl
              have g2 := X'.cell 2 rfl
              go_wp2_with fail
              go_roundw
              case rel =>
                obtain ⟨t1, t2, t4, t5⟩ := HT.out
                refine ⟨k + 1, U', P', T, by omega, by go_num, t4, t5, by omega, by omega, t1, ((X'.self 0 (.int .i64 r)).self 1 (.int .i64 U')).self 2 (.int .i64 P'), ((Z'.set (by simp; omega) _).set (by simp; omega) _).set (by simp; omega) _, ?_, ?_⟩
                · exact owns_set (owns_set (owns_set hown' (p := ⟨w.heap.size, 0, none⟩) (by simp; omega) (.int .i64 r)) (p := ⟨w.heap.size, 1, none⟩) (by simp; omega) (.int .i64 U')) (p := ⟨w.heap.size, 2, none⟩) (by simp; omega) (.int .i64 P')
                · exact ((hbel'.setCell (Nat.le_refl _) _).setCell (Nat.le_refl _) _).setCell (Nat.le_refl _) _
              case measure => simp [intOf]; omega
        · have hkx : k = xs.length := by omega
          clear hcell hin hl hlt hk
          subst hkx
          go_wp2_with fail
          have HH : Hid (IsPool r u p ∧ p ≤ P ∧ (∀ x ∈ T, In64 x)) := ⟨hp, hPk, hTin⟩
          clear hp hPk hTin
          obtain ⟨wm, rfl⟩ : ∃ wm : World, wm = wr := ⟨_, rfl⟩
          have hT2 : (T.length : Int) ≤ 100 := by omega
          clear hTk x0 x1 x2
          go_loopw [10] (R2 r u p P w.heap.size w2.heap.size w T u6) (fun i _ => T.length - (intOf i).toNat)
          case atStart => exact ⟨0, U, by omega, rfl, hpk, by simpa using hU, X, Z, hown, hbel⟩
          case round =>
            clear X Z hown hbel hpk hU
            obtain ⟨j, U, hj, rfl, hpk, hU, X, Z, hown, hbel⟩ := hrel
            have x0 := X.cell 0 rfl
            have x1 := X.cell 1 rfl
            have x2 := X.cell 2 rfl
            have f0 := X.frozen 0
            have f1 := X.frozen 1
            have f2 := X.frozen 2
            by_cases hlt : j < T.length
            · obtain ⟨g, cp, rfl, hbg, hgl⟩ := hown.form (by omega)
              have hcj := hown.cells (g := g) rfl j (.int .i64 (T.getD j 0)) (by simp [hlt])
              rw [Go.WideShapes.add_plain, Nat.zero_add] at hcj
              have hxj : In64 (T.getD j 0) := HH.out.2.2 _ (by rw [List.getD_eq_getElem?_getD, List.getElem?_eq_getElem hlt]; exact List.getElem_mem hlt)
              have hU' := szs_drop T j hlt
              obtain ⟨x, hx⟩ : ∃ x, x = T.getD j 0 := ⟨_, rfl⟩
              rw [← hx] at hcj hxj hU'
              have hnn := szs_nonneg (T.drop (j + 1))
              have hsz := sz_bd x
              have hup : 0 ≤ u := HH.out.1.1
              have HU : Hid (max 0 (U - sz x) = u + szs (T.drop (j + 1)) ∧ IsPool r (max 0 (U - sz x)) P) := by
                refine ⟨by omega, ?_⟩
                unfold IsPool at *
                omega
              have HB : Hid (IsPool r U P ∧ In64 x ∧ Below w.heap.size w wr) := ⟨hpk, hxj, hbel⟩
              have hxs := X.lt
              clear hx hU hU' hnn hsz hup hpk hxj hbel
              have hi1 : (0 : Int) ≤ (j : Int) := by omega
              have hi2 : (j : Int) < (T.length : Int) := by omega
              go_wp2_with fail
              go_region_with ((go_at_call 30; refine (give_c _ _ _ _ _ HB.out.1 HB.out.2.1.1 HB.out.2.1.2).mono ?_; rintro e w5 ⟨rfl, hb5⟩; have hB5 : Below wr.heap.size wr w5 := after (B := wr.heap.size) (by repeat' (first | assumption | (with_reducible exact Below.refl _ _) | (with_reducible refine below_drewN ?_ _) | (with_reducible refine Below.drew ?_) | (with_reducible refine Below.setCell ?_ ?_ _) | (with_reducible refine Below.alloc ?_ ?_ _) | (simp; done) | (simp; omega))) (by simp) hb5; have X5 := X.call hB5; have y0 := X5.cell 0 rfl; have y1 := X5.cell 1 rfl; have y2 := X5.cell 2 rfl; have g0 := X5.frozen 0; have g1 := X5.frozen 1; have g2 := X5.frozen 2))
              all_goals
                have Z5 := Z.call hB5
                have own5 := owns_below hown hB5 (Nat.le_refl _)
                have B5 := after HB.out.2.2 HB.out.2.2.size hB5
                clear x0 x1 x2 f0 f1 f2 hcj X Z hown
                go_wp2_with fail
                go_roundw
                case rel =>
                  refine ⟨j + 1, _, by omega, by go_num, HU.out.2, HU.out.1, ((X5.self 0 (.int .i64 r)).self 1 (.int .i64 (max 0 (U - sz x)))).self 2 (.int .i64 P), ((Z5.set (by simp; omega) _).set (by simp; omega) _).set (by simp; omega) _, ?_, ?_⟩
                  · exact owns_set (owns_set (owns_set own5 (p := ⟨w.heap.size, 0, none⟩) (by simp; omega) (.int .i64 r)) (p := ⟨w.heap.size, 1, none⟩) (by simp; omega) (.int .i64 (max 0 (U - sz x)))) (p := ⟨w.heap.size, 2, none⟩) (by simp; omega) (.int .i64 P)
                  · exact ((B5.setCell (Nat.le_refl _) _).setCell (Nat.le_refl _) _).setCell (Nat.le_refl _) _
                case measure => simp [intOf]; omega
            · have hjT : j = T.length := by omega
              subst hjT
              have z0 := Z.cell 0 rfl
              have z1 := Z.cell 1 rfl
              have z2 := Z.cell 2 rfl
              have hUu : U = u := by rw [hU, List.drop_length]; simp [szs]
              have hPP : p ≤ P := HH.out.2.1
              subst hUu
              clear hU
              obtain ⟨a6, c6, rfl⟩ : ∃ a c, u6 = .slice a T.length c := by
                rcases hown.2 with ⟨h1, h2⟩ | ⟨g, cap, cur, h1, _⟩
                · exact ⟨none, 0, by rw [h1, h2]⟩
                · exact ⟨_, _, h1⟩
              clear hown
              go_wp2_with fail
              go_ret
              exact ⟨ret_b (by simp), hbel⟩
    · go_wp2_with fail
      refine (awake18_c _).mono ?_; rintro e w3 ⟨rfl, hb3⟩
      have B3 := after B2 B2.size hb3
      go_wp2_with fail
      go_ret
      exact ⟨rfl, B3⟩
  · have e : rightB r u p = false := by cases h : rightB r u p with | false => rfl | true => exact absurd ((rightB_iff r u p).1 h) hp
    rw [e]
    clear e
    go_wp2_with fail
    refine (awake18_c _).mono ?_; rintro e w3 ⟨rfl, hb3⟩
    have B3 := after B2 B2.size hb3
    go_wp2_with fail
    go_ret
    exact ⟨rfl, B3⟩

section
variable {H : Type} {enc : TypeId × Value → H} {W : World} {base : Nat}
theorem poolCounts.poolCounts_law (W : World) {v0 v1 : Value} {d0 d1 : DataW H} {p0 p1 : List MemPlace}
    (h0 : DataW.Trod enc Try.prog W 0 (fun _ => true) true 36 v0 d0 p0) (h1 : DataW.Trod enc Try.prog W 0 (fun _ => true) true 41 v1 d1 p1)
    (k0 : Value.okWide Try.prog W .any base 36 v0) (k1 : Value.okWide Try.prog W .any base 41 v1) :
    Calls Try.prog 8 #[v0, v1] W (TPost W) := by
  obtain ⟨r, u, q, rfl, _, _, _⟩ := pool_arg h0 k0
  obtain ⟨a, len, cap, rfl⟩ := okWide_slice Try.underlying41 k1
  obtain ⟨fuel, hf⟩ := h1
  obtain ⟨xs, w, hw, hs⟩ := reads_slice (P := Try.prog) (enc := enc) (W := W) Try.underlying41 cellsInt (by decide) ri fuel _ _ hf
  simp [Value.cells] at hw
  subst hw
  exact poolCounts_walk r u q _ xs W hs
end
end Go.Proofs.Ytlcefgdiclpcjaa
