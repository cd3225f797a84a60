/- The walks of layer 18's statements. -/
import Derived.Test.YtlcefgdiclpcjaaPool
import Derived.Test.YtlcefgdiclpcjaaRead
import Derived.ProofKit
import Derived.OpenShut
namespace Go.Proofs.Ytlcefgdiclpcjaa
open Go.ChangeShapes Go.WideShapes Go.ChangeAt Go.RowKit Go.Bx
set_option linter.unusedVariables false

set_option maxHeartbeats 1600000 in
theorem poolSizes_walk (n m : Int) (w : World) (hn1 : -9223372036854775808 ≤ n) (hn2 : n ≤ 9223372036854775807) (hm1 : -9223372036854775808 ≤ m) (hm2 : m ≤ 9223372036854775807) :
    Calls Try.prog 6 #[.int .i64 n, .int .i64 m] w (TPost w) := by
  have key : ∀ n m : Int, n ≤ m → -9223372036854775808 ≤ n → m ≤ 9223372036854775807 → ∀ w0 : World, Below w.heap.size w w0 → True := fun _ _ _ _ _ _ _ => trivial
  clear key
  go_enter Try.func6, Try.ntmps6
  by_cases hnm : m < n
  all_goals
    go_wp2_with fail
    refine (psize_c _ _ (by assumption) (by assumption)).mono ?_; rintro e w' ⟨rfl, rfl⟩
    go_wp2_with fail
    refine (psize_c _ _ (by assumption) (by assumption)).mono ?_; rintro e w' ⟨rfl, rfl⟩
    go_wp2_with fail
    refine (awake18_c _).mono ?_; rintro e w1 ⟨rfl, hb⟩
  · have h1 := sz_mono (show m ≤ n by omega) hn2
    have h3 := sz_bd n
    have h4 := sz_bd m
    by_cases hneg : m < 0
    · have h2 := sz_neg (show m ≤ 0 by omega)
      rw [h2]
      go_wp2_with fail
      go_ret
      exact ⟨rfl, hb⟩
    · by_cases h5 : 1 ≤ m
      · by_cases h6 : m ≤ 1099511627776
        · obtain ⟨g1, g2⟩ := sz_ge h5 h6
          rcases g2 with g2 | g2
          · have G2 : Hid (sz m = 16) := g2
            clear g2
            have e : (sz m == 16) = true := by rw [G2.out]; rfl
            go_wp2_with fail
            go_ret
            exact ⟨rfl, hb⟩
          · by_cases g3 : sz m = 16
            · have e : (sz m == 16) = true := by rw [g3]; rfl
              clear g3
              go_wp2_with fail
              go_ret
              exact ⟨rfl, hb⟩
            · have e : (sz m == 16) = false := by simpa using g3
              clear g3
              go_wp2_with fail
              go_ret
              exact ⟨rfl, hb⟩
        · go_wp2_with fail
          go_ret
          exact ⟨rfl, hb⟩
      · go_wp2_with fail
        go_ret
        exact ⟨rfl, hb⟩
  · have h1 := sz_mono (show n ≤ m by omega) hm2
    have h3 := sz_bd n
    have h4 := sz_bd m
    by_cases hneg : n < 0
    · have h2 := sz_neg (show n ≤ 0 by omega)
      rw [h2]
      go_wp2_with fail
      go_ret
      exact ⟨rfl, hb⟩
    · by_cases h5 : 1 ≤ n
      · by_cases h6 : n ≤ 1099511627776
        · obtain ⟨g1, g2⟩ := sz_ge h5 h6
          by_cases g3 : sz n = 16
          · have e : (sz n == 16) = true := by rw [g3]; rfl
            clear g3 g2
            go_wp2_with fail
            go_ret
            exact ⟨rfl, hb⟩
          · have g4 : sz n < 2 * n := by omega
            have e : (sz n == 16) = false := by simpa using g3
            clear g3 g2
            go_wp2_with fail
            go_ret
            exact ⟨rfl, hb⟩
        · go_wp2_with fail
          go_ret
          exact ⟨rfl, hb⟩
      · go_wp2_with fail
        go_ret
        exact ⟨rfl, hb⟩

theorem order_law (r u p n m : Int) (hp : IsPool r u p) :
    (tkB r u n = true → tkB r (tkU r u n) m = true → tkB r u m = true ∧ tkB r (tkU r u m) n = true ∧ tkU r (tkU r u n) m = tkU r (tkU r u m) n ∧ tkP r (tkU r u n) (tkP r u p n) m = tkP r (tkU r u m) (tkP r u p m) n) ∧
    (tkB r u n = false ∨ tkB r (tkU r u n) m = false → tkB r u m = false ∨ tkB r (tkU r u m) n = false) := by
  have h1 := sz_bd n
  have h2 := sz_bd m
  unfold IsPool at hp
  unfold tkB tkU tkP
  generalize sz n = N at *
  generalize sz m = M at *
  constructor
  · intro a b
    have a' := of_decide_eq_true a
    rw [if_pos a'] at b
    have b' := of_decide_eq_true b
    have c : u + M ≤ r := by omega
    rw [if_pos a', if_pos c, if_pos b', if_pos a']
    refine ⟨decide_eq_true c, decide_eq_true (by omega), ?_, ?_⟩
    · rw [if_pos (by omega)]; omega
    · rw [if_pos (by omega), if_pos c, if_pos (by omega)]; omega
  · intro h
    by_cases c : u + M ≤ r
    · right
      rw [if_pos c]
      apply decide_eq_false
      intro d
      rcases h with h | h
      · exact absurd h (by simp; omega)
      · rw [if_pos (by omega)] at h
        exact absurd h (by simp; omega)
    · left
      exact decide_eq_false c

set_option maxHeartbeats 1600000 in
theorem poolOrder_walk (r u p n m : Int) (w : World) (hn1 : -9223372036854775808 ≤ n) (hn2 : n ≤ 9223372036854775807) (hm1 : -9223372036854775808 ≤ m) (hm2 : m ≤ 9223372036854775807) :
    Calls Try.prog 7 #[.agg #[.int .i64 r, .int .i64 u, .int .i64 p], .int .i64 n, .int .i64 m] w (TPost w) := by
  go_enter Try.func7, Try.ntmps7
  go_wp2_with fail
  refine (awake18_c _).mono ?_; rintro e w1 ⟨rfl, hb1⟩
  have B1 := after ((Below.refl _ w).alloc (Nat.le_refl _) _) (by simp) hb1
  have X1 := (Box.new w [.int .i64 r, .int .i64 u, .int .i64 p] 36).call hb1
  have c0 := X1.cell 0 rfl
  have c1 := X1.cell 1 rfl
  have c2 := X1.cell 2 rfl
  clear hb1
  go_wp2_with fail
  refine (pright_c _ _ _ _).mono ?_; rintro e w2 ⟨rfl, hb2⟩
  clear c0 c1 c2
  have B2 := after B1 B1.size hb2
  have X2 := X1.call hb2
  have c0 := X2.cell 0 rfl
  have c1 := X2.cell 1 rfl
  have c2 := X2.cell 2 rfl
  clear hb2 X1 B1
  by_cases hp : IsPool r u p
  · rw [(rightB_iff r u p).2 hp]
    obtain ⟨L1, L2⟩ := order_law r u p n m hp
    have hpn := tk_pool n hp
    have hpm := tk_pool m hp
    go_wp2_with fail
    refine (take_c _ _ _ _ _ hp hn1 hn2).mono ?_; rintro e w3 ⟨rfl, hb3⟩
    generalize tkU r u n = U1 at *
    generalize tkP r u p n = P1 at *
    generalize tkB r u n = T1 at *
    clear c0 c1 c2
    have B3 := (after B2 B2.size hb3)
    have X3 := X2.call hb3
    clear hb3 X2 B2
    go_wp2_with fail
    have B3' := B3.alloc B3.size (.cells #[.int .i64 r, .int .i64 U1, .int .i64 P1] 36)
    have X3' := X3.alloc (.cells #[.int .i64 r, .int .i64 U1, .int .i64 P1] 36)
    have Y3 := Box.new w3 [.int .i64 r, .int .i64 U1, .int .i64 P1] 36
    refine (take_c _ _ _ _ _ hpn hm1 hm2).mono ?_; rintro e w4 ⟨rfl, hb4⟩
    generalize tkU r U1 m = U2 at *
    generalize tkP r U1 P1 m = P2 at *
    generalize tkB r U1 m = T2 at *
    have B4 := after B3' B3'.size hb4
    have X4 := X3'.call hb4
    clear hb4 X3 X3' Y3 B3 B3'
    have X4' := X4.alloc (.cells #[.int .i64 r, .int .i64 U2, .int .i64 P2] 36)
    have c0 := X4'.cell 0 rfl
    have c1 := X4'.cell 1 rfl
    have c2 := X4'.cell 2 rfl
    go_wp2_with fail
    have B4' := B4.alloc B4.size (.cells #[.int .i64 r, .int .i64 U2, .int .i64 P2] 36)
    have Z4 := Box.new w4 [.int .i64 r, .int .i64 U2, .int .i64 P2] 36
    refine (take_c _ _ _ _ _ hp hm1 hm2).mono ?_; rintro e w5 ⟨rfl, hb5⟩
    generalize tkU r u m = U3 at *
    generalize tkP r u p m = P3 at *
    generalize tkB r u m = T3 at *
    have B5 := after B4' B4'.size hb5
    have Z5 := Z4.call hb5
    clear hb5 X4 X4' Z4 B4 B4' c0 c1 c2
    go_wp2_with fail
    have B5' := B5.alloc B5.size (.cells #[.int .i64 r, .int .i64 U3, .int .i64 P3] 36)
    have Z5' := Z5.alloc (.cells #[.int .i64 r, .int .i64 U3, .int .i64 P3] 36)
    refine (take_c _ _ _ _ _ hpm hn1 hn2).mono ?_; rintro e w6 ⟨rfl, hb6⟩
    generalize tkU r U3 n = U4 at *
    generalize tkP r U3 P3 n = P4 at *
    generalize tkB r U3 n = T4 at *
    have B6 := after B5' B5'.size hb6
    have Z6 := Z5'.call hb6
    clear hb6 Z5 Z5' B5 B5'
    have Z6' := Z6.alloc (.cells #[.int .i64 r, .int .i64 U4, .int .i64 P4] 36)
    have d1 := Z6'.cell 1 rfl
    have d2 := Z6'.cell 2 rfl
    have B6' := B6.alloc B6.size (.cells #[.int .i64 r, .int .i64 U4, .int .i64 P4] 36)
    by_cases t1 : T1 = true ∧ T2 = true
    · obtain ⟨rfl, rfl⟩ := t1
      obtain ⟨rfl, rfl, rfl, rfl⟩ := L1 rfl rfl
      clear L1 L2
      go_wp2_with fail
      go_ret
      exact ⟨ret_b (by simp), B6'⟩
    · have hL : T3 = false ∨ T4 = false := L2 (by cases T1 <;> cases T2 <;> simp_all)
      clear L1 L2
      have hq : (!T3 || !T4) = true := by rcases hL with rfl | rfl <;> simp
      have HQ : Hid ((!T3 || !T4) = true) := hq
      clear hq hL
      cases T1
      · cases T3 <;> (go_wp2_with fail; go_ret; exact ⟨ret_b (by first | rfl | exact HQ.out), B6'⟩)
      · cases T2
        · cases T3 <;> (go_wp2_with fail; go_ret; exact ⟨ret_b (by first | rfl | exact HQ.out), B6'⟩)
        · exact absurd ⟨rfl, rfl⟩ t1
  · have e : rightB r u p = false := by cases h : rightB r u p with | false => rfl | true => exact absurd ((rightB_iff r u p).1 h) hp
    rw [e]
    clear e
    go_wp2_with fail
    refine (awake18_c _).mono ?_; rintro e w3 ⟨rfl, hb3⟩
    have B3 := after B2 B2.size hb3
    go_wp2_with fail
    go_ret
    exact ⟨rfl, B3⟩

/-! ### from the reading -/
section
variable {H : Type} {enc : TypeId × Value → H} {W : World} {base : Nat}
theorem ri : Reads enc Try.prog W 3 RInt := reads_int Try.underlying3
theorem int_arg {v : Value} {d : DataW H} {p : List MemPlace} (h : DataW.Trod enc Try.prog W 0 (fun _ => true) true 3 v d p) (hv : Value.okWide Try.prog W .any base 3 v) :
    ∃ a : Int, v = .int .i64 a ∧ In64 a := by
  obtain ⟨a, rfl, rfl, rfl, wa⟩ := open_int Try.underlying3 hv h
  exact ⟨a, rfl, wf64 wa⟩
theorem cellsInt : Try.prog.cellsOf 3 = 1 := by kernel_rfl
theorem cellsPool : Try.prog.cellsOf 36 = 3 := by kernel_rfl
theorem pool_arg {v : Value} {d : DataW H} {p : List MemPlace} (h : DataW.Trod enc Try.prog W 0 (fun _ => true) true 36 v d p) (hv : Value.okWide Try.prog W .any base 36 v) :
    ∃ r u q : Int, v = .agg #[.int .i64 r, .int .i64 u, .int .i64 q] ∧ In64 r ∧ In64 u ∧ In64 q := by
  obtain ⟨cs, rfl⟩ := arg_struct Try.underlying36 hv
  obtain ⟨fuel, hf⟩ := h
  have hl := struct_len Try.underlying36 hf
  obtain ⟨r, hr⟩ := reads_field Try.underlying36 hf 0 (ft := 3) (off := 0) (n := 1) rfl cellsInt (E := RInt) ri
  obtain ⟨u, hu⟩ := reads_field Try.underlying36 hf 1 (ft := 3) (off := 1) (n := 1) rfl cellsInt (E := RInt) ri
  obtain ⟨q, hq⟩ := reads_field Try.underlying36 hf 2 (ft := 3) (off := 2) (n := 1) rfl cellsInt (E := RInt) ri
  rw [cellsPool] at hl
  simp only [Value.cells] at hl hr hu hq
  obtain ⟨c0, c1, c2, hc⟩ : ∃ a b c, cs.toList = [a, b, c] := by
    match h : cs.toList, hl with
    | [a, b, c], _ => exact ⟨a, b, c, rfl⟩
  rw [hc] at hr hu hq
  obtain ⟨h0, i0⟩ := hr
  obtain ⟨h1, i1⟩ := hu
  obtain ⟨h2, i2⟩ := hq
  simp at h0 h1 h2
  subst h0 h1 h2
  exact ⟨r, u, q, by rw [← hc], i0, i1, i2⟩

theorem poolSizes.poolSizes_law (W : World) {v0 v1 : Value} {d0 d1 : DataW H} {p0 p1 : List MemPlace}
    (h0 : DataW.Trod enc Try.prog W 0 (fun _ => true) true 3 v0 d0 p0) (h1 : DataW.Trod enc Try.prog W 0 (fun _ => true) true 3 v1 d1 p1)
    (k0 : Value.okWide Try.prog W .any base 3 v0) (k1 : Value.okWide Try.prog W .any base 3 v1) :
    Calls Try.prog 6 #[v0, v1] W (TPost W) := by
  obtain ⟨n, rfl, n1, n2⟩ := int_arg h0 k0
  obtain ⟨m, rfl, m1, m2⟩ := int_arg h1 k1
  exact poolSizes_walk n m W n1 n2 m1 m2

theorem poolOrder.poolOrder_law (W : World) {v0 v1 v2 : Value} {d0 d1 d2 : DataW H} {p0 p1 p2 : List MemPlace}
    (h0 : DataW.Trod enc Try.prog W 0 (fun _ => true) true 36 v0 d0 p0) (h1 : DataW.Trod enc Try.prog W 0 (fun _ => true) true 3 v1 d1 p1) (h2 : DataW.Trod enc Try.prog W 0 (fun _ => true) true 3 v2 d2 p2)
    (k0 : Value.okWide Try.prog W .any base 36 v0) (k1 : Value.okWide Try.prog W .any base 3 v1) (k2 : Value.okWide Try.prog W .any base 3 v2) :
    Calls Try.prog 7 #[v0, v1, v2] W (TPost W) := by
  obtain ⟨r, u, q, rfl, _, _, _⟩ := pool_arg h0 k0
  obtain ⟨n, rfl, n1, n2⟩ := int_arg h1 k1
  obtain ⟨m, rfl, m1, m2⟩ := int_arg h2 k2
  exact poolOrder_walk r u q n m W n1 n2 m1 m2
end
end Go.Proofs.Ytlcefgdiclpcjaa
