/- The contracts of layer 2's reference and of the small functions of its statements. -/
import Derived.Test.YtlcefgdiclpcjaaVec
namespace Go.Proofs.Ytlcefgdiclpcjaa
open Go.RowKit Go.Fl
set_option linter.unusedVariables false

def I1Post (w : World) (a : Int) (e : Ending) (w' : World) : Prop := e = .returned (.int .i64 a) ∧ w = w'
def BPost (w : World) (b : Bool) (e : Ending) (w' : World) : Prop := e = .returned (.bool b) ∧ w = w'
theorem ret_b {a b : Bool} (h : a = b) : Ending.returned (.bool a) = .returned (.bool b) := by rw [h]
theorem ret_one {a c : Int} (h1 : a = c) : Ending.returned (.int .i64 a) = .returned (.int .i64 c) := by rw [h1]

theorem qn_tmod (k : Int) (h : 0 ≤ k.tmod 4) : k.tmod 4 = (qn k : Int) := by
  unfold qn
  by_cases hk : 0 ≤ k
  · rw [tmod4 k hk]; omega
  · have := tmod4n k (by omega); rw [this] at h ⊢; omega
theorem qn_tmodn (k : Int) (h : k.tmod 4 < 0) : k.tmod 4 + 4 = (qn k : Int) := by
  unfold qn
  by_cases hk : 0 ≤ k
  · rw [tmod4 k hk] at h; omega
  · have := tmod4n k (by omega); rw [this] at h ⊢; omega
theorem tmod_bd (k : Int) : -4 < k.tmod 4 ∧ k.tmod 4 < 4 := by
  by_cases hk : 0 ≤ k
  · rw [tmod4 k hk]; omega
  · rw [tmod4n k (by omega)]; omega

theorem quarters_c (k : Int) (w : World) : Calls Try.prog 46 #[.int .i64 k] w (I1Post w (qn k)) := by
  have hb := tmod_bd k
  by_cases h : 0 ≤ k.tmod 4
  · have e := qn_tmod k h
    rw [← e]
    clear e
    go_enter Try.func46, Try.ntmps46
    go_wp2
    go_ret
    exact ⟨rfl, rfl⟩
  · have e := qn_tmodn k (by omega)
    rw [← e]
    clear e
    go_enter Try.func46, Try.ntmps46
    go_wp2
    go_ret
    exact ⟨rfl, rfl⟩

theorem tx_succ (j : Nat) (h : j < 3) (x y : Int) : tx (j + 1) x y = -ty j x y ∧ ty (j + 1) x y = tx j x y := by
  have hj : j = 0 ∨ j = 1 ∨ j = 2 := by omega
  rcases hj with rfl | rfl | rfl <;> simp [tx, ty]

def Trel (n : Nat) (x y : Int) (u v i : Value) : Prop := ∃ j : Nat, j ≤ n ∧ i = .int .i64 ((n : Int) - j) ∧ u = .int .i64 (tx j x y) ∧ v = .int .i64 (ty j x y)

set_option maxHeartbeats 400000 in
theorem rturn_c (x y k : Int) (w : World) (hx : Nr 1125899906842624 x) (hy : Nr 1125899906842624 y) :
    Calls Try.prog 18 #[.int .i64 x, .int .i64 y, .int .i64 k] w (IPost w (tx (qn k) x y) (ty (qn k) x y)) := by
  have hq := qn_lt k
  go_enter Try.func18, Try.ntmps18
  go_wp2_with fail
  refine (quarters_c _ _).mono ?_; rintro e w' ⟨rfl, rfl⟩
  generalize qn k = q at *
  go_wp2_with fail
  go_loop [0, 1, 8] (Trel q x y) (fun _ _ i => (intOf i).toNat)
  case atStart => exact ⟨0, by omega, by go_num, rfl, rfl⟩
  case round =>
    obtain ⟨j, hj, rfl, rfl, rfl⟩ := hrel
    by_cases hc : j < q
    · have b1 := tx_bd j x y hx hy
      have b2 := ty_bd j x y hx hy
      obtain ⟨e1, e2⟩ := tx_succ j (by omega) x y
      have E1 : Hid (tx (j + 1) x y = -ty j x y) := e1
      have E2 : Hid (ty (j + 1) x y = tx j x y) := e2
      unfold Nr at b1 b2
      clear e1 e2
      go_wp2
      go_round
      case rel => exact ⟨j + 1, by omega, by go_num, by rw [E1.out], by rw [E2.out]⟩
      case measure => simp [intOf]; omega
    · have : j = q := by omega
      subst this
      go_wp2
      go_ret2
      exact ⟨rfl, rfl⟩

theorem par (q : Nat) : (q : Int).tmod 2 = (q % 2 : Nat) := by rw [Int.tmod_eq_emod_of_nonneg (by omega)]; omega

theorem rsize_c (a b k : Int) (w : World) : Calls Try.prog 21 #[.int .i64 a, .int .i64 b, .int .i64 k] w (IPost w (sx (qn k) a b) (sy (qn k) a b)) := by
  have hq := qn_lt k
  go_enter Try.func21, Try.ntmps21
  go_wp2_with fail
  refine (quarters_c _ _).mono ?_; rintro e w' ⟨rfl, rfl⟩
  generalize qn k = q at *
  rcases four q hq with rfl | rfl | rfl | rfl
  all_goals
    go_wp2_with fail
    go_ret2
    exact ⟨rfl, rfl⟩

/-- a picture's size, and where a pixel comes to, behind j quarters -/
def Orel (n : Nat) (a b x y : Int) (u0 u1 u3 u4 i : Value) : Prop :=
  ∃ j : Nat, j ≤ n ∧ i = .int .i64 ((n : Int) - j) ∧ u0 = .int .i64 (sx j a b) ∧ u1 = .int .i64 (sy j a b) ∧ u3 = .int .i64 (ox j a b x y) ∧ u4 = .int .i64 (oy j a b x y)
theorem o_succ (j : Nat) (h : j < 3) (a b x y : Int) : sx (j + 1) a b = sy j a b ∧ sy (j + 1) a b = sx j a b ∧ ox (j + 1) a b x y = sy j a b - 1 - oy j a b x y ∧ oy (j + 1) a b x y = ox j a b x y := by
  have hj : j = 0 ∨ j = 1 ∨ j = 2 := by omega
  rcases hj with rfl | rfl | rfl <;> refine ⟨?_, ?_, ?_, ?_⟩ <;> simp only [sx, sy, ox, oy] <;> omega
theorem o_bd (j : Nat) (a b x y : Int) (ha : 1 ≤ a) (ha2 : a ≤ 1099511627776) (hb : 1 ≤ b) (hb2 : b ≤ 1099511627776) (hx : Nr 1099511627776 x) (hy : Nr 1099511627776 y) :
    1 ≤ sx j a b ∧ sx j a b ≤ 1099511627776 ∧ 1 ≤ sy j a b ∧ sy j a b ≤ 1099511627776 ∧ -2199023255552 ≤ ox j a b x y ∧ ox j a b x y ≤ 2199023255552 ∧ -2199023255552 ≤ oy j a b x y ∧ oy j a b x y ≤ 2199023255552 := by
  unfold Nr at *
  unfold sx sy ox oy
  refine ⟨?_, ?_, ?_, ?_, ?_, ?_, ?_, ?_⟩ <;> split <;> omega

set_option maxHeartbeats 800000 in
theorem rto_c (a b k x y : Int) (w : World) (ha : 1 ≤ a) (ha2 : a ≤ 1099511627776) (hb : 1 ≤ b) (hb2 : b ≤ 1099511627776) (hx : Nr 1099511627776 x) (hy : Nr 1099511627776 y) :
    Calls Try.prog 23 #[.int .i64 a, .int .i64 b, .int .i64 k, .int .i64 x, .int .i64 y] w (IPost w (ox (qn k) a b x y) (oy (qn k) a b x y)) := by
  have hq := qn_lt k
  go_enter Try.func23, Try.ntmps23
  go_wp2_with fail
  refine (quarters_c _ _).mono ?_; rintro e w' ⟨rfl, rfl⟩
  generalize qn k = q at *
  go_wp2_with fail
  go_loop [0, 1, 3, 4, 12] (Orel q a b x y) (fun _ _ _ _ i => (intOf i).toNat)
  case atStart => exact ⟨0, by omega, by go_num, rfl, rfl, rfl, rfl⟩
  case round =>
    obtain ⟨j, hj, rfl, rfl, rfl, rfl, rfl⟩ := hrel
    by_cases hc : j < q
    · have B := o_bd j a b x y ha ha2 hb hb2 hx hy
      have E := o_succ j (by omega) a b x y
      have HE : Hid (sx (j + 1) a b = sy j a b ∧ sy (j + 1) a b = sx j a b ∧ ox (j + 1) a b x y = sy j a b - 1 - oy j a b x y ∧ oy (j + 1) a b x y = ox j a b x y) := E
      clear E
      go_wp2
      go_round
      case rel =>
        obtain ⟨e1, e2, e3, e4⟩ := HE.out
        exact ⟨j + 1, by omega, by go_num, by rw [e1], by rw [e2], by rw [e3], by rw [e4]⟩
      case measure => simp [intOf]; omega
    · have : j = q := by omega
      subst this
      go_wp2
      go_ret2
      exact ⟨rfl, rfl⟩

/-- the other way round: behind j of n quarters -/
def px (n j : Nat) (a b x y : Int) : Int := match n, j with
  | 1, 1 => fx 1 a b x y | 2, 1 => y | 2, 2 => fx 2 a b x y | 3, 1 => y | 3, 2 => b - 1 - x | 3, 3 => fx 3 a b x y | _, _ => x
def py (n j : Nat) (a b x y : Int) : Int := match n, j with
  | 1, 1 => fy 1 a b x y | 2, 1 => a - 1 - x | 2, 2 => fy 2 a b x y | 3, 1 => b - 1 - x | 3, 2 => a - 1 - y | 3, 3 => fy 3 a b x y | _, _ => y
def Frel (n : Nat) (a b x y : Int) (u0 u1 u3 u4 i : Value) : Prop :=
  ∃ j : Nat, j ≤ n ∧ i = .int .i64 ((n : Int) - j) ∧ u0 = .int .i64 (sx (n - j) a b) ∧ u1 = .int .i64 (sy (n - j) a b) ∧ u3 = .int .i64 (px n j a b x y) ∧ u4 = .int .i64 (py n j a b x y)
theorem pairs (n j : Nat) (hn : n < 4) (hj : j < n) : (n = 1 ∧ j = 0) ∨ (n = 2 ∧ j = 0) ∨ (n = 2 ∧ j = 1) ∨ (n = 3 ∧ j = 0) ∨ (n = 3 ∧ j = 1) ∨ (n = 3 ∧ j = 2) := by omega
theorem f_succ (n j : Nat) (hn : n < 4) (hj : j < n) (a b x y : Int) : sx (n - (j + 1)) a b = sy (n - j) a b ∧ sy (n - (j + 1)) a b = sx (n - j) a b ∧ px n (j + 1) a b x y = py n j a b x y ∧ py n (j + 1) a b x y = sx (n - j) a b - 1 - px n j a b x y := by
  rcases pairs n j hn hj with ⟨rfl, rfl⟩ | ⟨rfl, rfl⟩ | ⟨rfl, rfl⟩ | ⟨rfl, rfl⟩ | ⟨rfl, rfl⟩ | ⟨rfl, rfl⟩ <;>
    simp only [sx, sy, px, py, fx, fy, Nat.reduceSub, Nat.reduceAdd, true_and] <;> omega
theorem f_bd (n j : Nat) (a b x y : Int) (ha : 1 ≤ a) (ha2 : a ≤ 1099511627776) (hb : 1 ≤ b) (hb2 : b ≤ 1099511627776) (hx : Nr 1099511627776 x) (hy : Nr 1099511627776 y) :
    1 ≤ sx (n - j) a b ∧ sx (n - j) a b ≤ 1099511627776 ∧ 1 ≤ sy (n - j) a b ∧ sy (n - j) a b ≤ 1099511627776 ∧ -2199023255552 ≤ px n j a b x y ∧ px n j a b x y ≤ 2199023255552 ∧ -2199023255552 ≤ py n j a b x y ∧ py n j a b x y ≤ 2199023255552 := by
  unfold Nr at *
  unfold sx sy px py
  simp only [fx, fy]
  refine ⟨?_, ?_, ?_, ?_, ?_, ?_, ?_, ?_⟩ <;> split <;> omega
theorem p_end (n : Nat) (hn : n < 4) (a b x y : Int) : px n n a b x y = fx n a b x y ∧ py n n a b x y = fy n a b x y := by
  rcases four n hn with rfl | rfl | rfl | rfl <;> exact ⟨rfl, rfl⟩
theorem p_start (n : Nat) (a b x y : Int) : px n 0 a b x y = x ∧ py n 0 a b x y = y := by
  unfold px py; constructor <;> split <;> simp_all

set_option maxHeartbeats 800000 in
theorem rfrom_c (a b k x y : Int) (w : World) (ha : 1 ≤ a) (ha2 : a ≤ 1099511627776) (hb : 1 ≤ b) (hb2 : b ≤ 1099511627776) (hx : Nr 1099511627776 x) (hy : Nr 1099511627776 y) :
    Calls Try.prog 25 #[.int .i64 a, .int .i64 b, .int .i64 k, .int .i64 x, .int .i64 y] w (IPost w (fx (qn k) a b x y) (fy (qn k) a b x y)) := by
  have hq := qn_lt k
  go_enter Try.func25, Try.ntmps25
  go_wp2_with fail
  refine (quarters_c _ _).mono ?_; rintro e w' ⟨rfl, rfl⟩
  go_wp2_with fail
  refine (rsize_c _ _ _ _).mono ?_; rintro e w' ⟨rfl, rfl⟩
  generalize qn k = q at *
  go_wp2_with fail
  go_loop [0, 1, 3, 4, 12] (Frel q a b x y) (fun _ _ _ _ i => (intOf i).toNat)
  case atStart =>
    obtain ⟨s1, s2⟩ := p_start q a b x y
    exact ⟨0, by omega, by go_num, rfl, rfl, by rw [s1], by rw [s2]⟩
  case round =>
    obtain ⟨j, hj, rfl, rfl, rfl, rfl, rfl⟩ := hrel
    by_cases hc : j < q
    · have B := f_bd q j a b x y ha ha2 hb hb2 hx hy
      have E := f_succ q j hq hc a b x y
      have HE : Hid (sx (q - (j + 1)) a b = sy (q - j) a b ∧ sy (q - (j + 1)) a b = sx (q - j) a b ∧ px q (j + 1) a b x y = py q j a b x y ∧ py q (j + 1) a b x y = sx (q - j) a b - 1 - px q j a b x y) := E
      clear E
      go_wp2
      go_round
      case rel =>
        obtain ⟨e1, e2, e3, e4⟩ := HE.out
        exact ⟨j + 1, by omega, by go_num, by rw [e1], by rw [e2], by rw [e3], by rw [e4]⟩
      case measure => simp [intOf]; omega
    · have : j = q := by omega
      subst this
      obtain ⟨s1, s2⟩ := p_end j hq a b x y
      have S1 : Hid (px j j a b x y = fx j a b x y) := s1
      have S2 : Hid (py j j a b x y = fy j a b x y) := s2
      clear s1 s2
      go_wp2
      go_ret2
      exact ⟨ret_two S1.out S2.out, rfl⟩

theorem near_yes (n m : Int) (w : World) (hm : 0 ≤ m) (hm2 : m ≤ 1099511627776) (h1 : -m ≤ n) (h2 : n ≤ m) : Calls Try.prog 13 #[.int .i64 n, .int .i64 m] w (BPost w true) := by
  go_enter Try.func13, Try.ntmps13
  go_wp2
  go_ret
  exact ⟨rfl, rfl⟩
theorem near_no (n m : Int) (w : World) (hm : 0 ≤ m) (hm2 : m ≤ 1099511627776) (h : ¬ (-m ≤ n ∧ n ≤ m)) : Calls Try.prog 13 #[.int .i64 n, .int .i64 m] w (BPost w false) := by
  by_cases h1 : -m ≤ n
  · have h2 : m < n := by omega
    clear h
    go_enter Try.func13, Try.ntmps13
    go_wp2
    go_ret
    exact ⟨ret_b (by first | (simp; done) | (simp; omega)), rfl⟩
  · have h2 : n < -m := by omega
    clear h
    go_enter Try.func13, Try.ntmps13
    go_wp2
    go_ret
    exact ⟨rfl, rfl⟩

/-! ### awake -/
theorem order_same {x y : Nat} {a b : Int} (h : a = b) (hx : IsI x a) (hy : IsI y b) : FloatKind.f64.format.order x y = some Ordering.eq := by
  rw [show FloatKind.f64.format = Ieee.double from rfl, order_int hx hy, h]
  exact congrArg some (Int.compare_eq_eq.2 rfl)

set_option maxHeartbeats 800000 in
theorem awake02_c (w : World) : Calls Try.prog 14 #[] w (BPost w true) := by
  go_enter Try.func14, Try.ntmps14
  go_wp2_with fail
  refine (show Calls _ _ _ _ (IPost w 2 0) from to_c _ _ _ _ _ _ (by decide) (by decide) (by decide) (by decide) (by unfold Nr; decide) (by unfold Nr; decide)).mono ?_; rintro e w' ⟨rfl, rfl⟩
  go_wp2_with fail
  refine (show Calls _ _ _ _ (IPost w 3 2) from size_c _ _ _ _ (by decide) (by decide) (by decide) (by decide)).mono ?_; rintro e w' ⟨rfl, rfl⟩
  go_wp2_with fail
  refine (of_c _ _ _ (by unfold Nr; decide) (by unfold Nr; decide)).mono ?_; rintro e w' ⟨r1, i1, rfl, rfl, h1⟩
  go_wp2_with fail
  refine (show Calls _ _ _ _ (CPost w (-1) 3) from turn_c _ _ _ _ _ _ h1 (by unfold Nr; decide) (by unfold Nr; decide)).mono ?_; rintro e w' ⟨r2, i2, rfl, rfl, h2⟩
  go_wp2_with fail
  refine (of_c _ _ _ (by unfold Nr; decide) (by unfold Nr; decide)).mono ?_; rintro e w' ⟨r3, i3, rfl, rfl, h3⟩
  have o1 := order_same rfl h2.1 h3.1
  have o2 := order_same rfl h2.2 h3.2
  go_wp2_with fail
  go_ret
  exact ⟨rfl, rfl⟩

/-! ### the statements' walks -/
set_option maxHeartbeats 800000 in
theorem vecParts_walk (x y k : Int) (w : World) : Calls Try.prog 3 #[.int .i64 x, .int .i64 y, .int .i64 k] w (BPost w true) := by
  by_cases hx : -1099511627776 ≤ x ∧ x ≤ 1099511627776
  · by_cases hy : -1099511627776 ≤ y ∧ y ≤ 1099511627776
    · go_enter Try.func3, Try.ntmps3
      go_wp2_with fail
      refine (near_yes _ _ _ (by decide) (by decide) hx.1 hx.2).mono ?_; rintro e w' ⟨rfl, rfl⟩
      go_wp2_with fail
      refine (near_yes _ _ _ (by decide) (by decide) hy.1 hy.2).mono ?_; rintro e w' ⟨rfl, rfl⟩
      go_wp2_with fail
      refine (of_c _ _ _ (by unfold Nr; omega) (by unfold Nr; omega)).mono ?_; rintro e w' ⟨r1, i1, rfl, rfl, h1⟩
      go_wp2_with fail
      refine (parts_c _ _ _ _ _ h1 (by unfold Nr; omega) (by unfold Nr; omega)).mono ?_; rintro e w' ⟨rfl, rfl⟩
      go_wp2_with fail
      refine (of_c _ _ _ (by unfold Nr; omega) (by unfold Nr; omega)).mono ?_; rintro e w' ⟨r2, i2, rfl, rfl, h2⟩
      go_wp2_with fail
      refine (turn_c _ _ _ _ _ _ h2 (by unfold Nr; omega) (by unfold Nr; omega)).mono ?_; rintro e w' ⟨r3, i3, rfl, rfl, h3⟩
      have b1 := tx_bd (m := 1099511627776) (qn k) x y hx hy
      have b2 := ty_bd (m := 1099511627776) (qn k) x y hx hy
      unfold Nr at b1 b2
      go_wp2_with fail
      refine (parts_c _ _ _ _ _ h3 (by unfold Nr; omega) (by unfold Nr; omega)).mono ?_; rintro e w' ⟨rfl, rfl⟩
      go_wp2_with fail
      refine (rturn_c _ _ _ _ (by unfold Nr; omega) (by unfold Nr; omega)).mono ?_; rintro e w' ⟨rfl, rfl⟩
      go_wp2_with fail
      refine (awake02_c _).mono ?_; rintro e w' ⟨rfl, rfl⟩
      go_wp2_with fail
      go_ret
      exact ⟨ret_b (by simp), rfl⟩
    · go_enter Try.func3, Try.ntmps3
      go_wp2_with fail
      refine (near_yes _ _ _ (by decide) (by decide) hx.1 hx.2).mono ?_; rintro e w' ⟨rfl, rfl⟩
      go_wp2_with fail
      refine (near_no _ _ _ (by decide) (by decide) hy).mono ?_; rintro e w' ⟨rfl, rfl⟩
      go_wp2_with fail
      refine (awake02_c _).mono ?_; rintro e w' ⟨rfl, rfl⟩
      go_wp2_with fail
      go_ret
      exact ⟨rfl, rfl⟩
  · go_enter Try.func3, Try.ntmps3
    go_wp2_with fail
    refine (near_no _ _ _ (by decide) (by decide) hx).mono ?_; rintro e w' ⟨rfl, rfl⟩
    go_wp2_with fail
    refine (awake02_c _).mono ?_; rintro e w' ⟨rfl, rfl⟩
    go_wp2_with fail
    go_ret
    exact ⟨rfl, rfl⟩

theorem t_sum (q : Nat) (a b c d : Int) : tx q (a + c) (b + d) = tx q a b + tx q c d ∧ ty q (a + c) (b + d) = ty q a b + ty q c d := by
  unfold tx ty; constructor <;> split <;> omega

set_option maxHeartbeats 1600000 in
theorem vecSums_walk (a b c d k : Int) (w : World) : Calls Try.prog 4 #[.int .i64 a, .int .i64 b, .int .i64 c, .int .i64 d, .int .i64 k] w (BPost w true) := by
  by_cases h0 : -1048576 ≤ a ∧ a ≤ 1048576
  · by_cases h1 : -1048576 ≤ b ∧ b ≤ 1048576
    · by_cases h2 : -1048576 ≤ c ∧ c ≤ 1048576
      · by_cases h3 : -1048576 ≤ d ∧ d ≤ 1048576
        · go_enter Try.func4, Try.ntmps4
          go_wp2_with fail
          refine (near_yes _ _ _ (by decide) (by decide) h0.1 h0.2).mono ?_; rintro e w' ⟨rfl, rfl⟩
          go_wp2_with fail
          refine (near_yes _ _ _ (by decide) (by decide) h1.1 h1.2).mono ?_; rintro e w' ⟨rfl, rfl⟩
          go_wp2_with fail
          refine (near_yes _ _ _ (by decide) (by decide) h2.1 h2.2).mono ?_; rintro e w' ⟨rfl, rfl⟩
          go_wp2_with fail
          refine (near_yes _ _ _ (by decide) (by decide) h3.1 h3.2).mono ?_; rintro e w' ⟨rfl, rfl⟩
          go_wp2_with fail
          refine (of_c _ _ _ (by unfold Nr; omega) (by unfold Nr; omega)).mono ?_; rintro e w' ⟨r1, i1, rfl, rfl, c1⟩
          go_wp2_with fail
          refine (of_c _ _ _ (by unfold Nr; omega) (by unfold Nr; omega)).mono ?_; rintro e w' ⟨r2, i2, rfl, rfl, c2⟩
          go_wp2_with fail
          refine (awake02_c _).mono ?_; rintro e w' ⟨rfl, rfl⟩
          obtain ⟨r3, i3, m3, c3⟩ := cadd c1 c2 (by omega) (by omega)
          have hr3 := run_complex_sum (P := Try.prog) w .add (.inl rfl) 26 .f64 r1 i1 r2 i2 r3 i3 m3
          clear m3
          go_wp2_with fail
          refine (turn_c _ _ _ _ _ _ c3 (by unfold Nr; omega) (by unfold Nr; omega)).mono ?_; rintro e w' ⟨r4, i4, rfl, rfl, c4⟩
          go_wp2_with fail
          refine (turn_c _ _ _ _ _ _ c1 (by unfold Nr; omega) (by unfold Nr; omega)).mono ?_; rintro e w' ⟨r5, i5, rfl, rfl, c5⟩
          go_wp2_with fail
          refine (turn_c _ _ _ _ _ _ c2 (by unfold Nr; omega) (by unfold Nr; omega)).mono ?_; rintro e w' ⟨r6, i6, rfl, rfl, c6⟩
          have b1 := tx_bd (m := 1048576) (qn k) a b h0 h1
          have b2 := ty_bd (m := 1048576) (qn k) a b h0 h1
          have b3 := tx_bd (m := 1048576) (qn k) c d h2 h3
          have b4 := ty_bd (m := 1048576) (qn k) c d h2 h3
          unfold Nr at b1 b2 b3 b4
          obtain ⟨r7, i7, m7, c7⟩ := cadd c5 c6 (by omega) (by omega)
          have hr7 := run_complex_sum (P := Try.prog) w .add (.inl rfl) 26 .f64 r5 i5 r6 i6 r7 i7 m7
          clear m7
          have o1 := order_same (t_sum (qn k) a b c d).1 c4.1 c7.1
          have o2 := order_same (t_sum (qn k) a b c d).2 c4.2 c7.2
          go_wp2_with fail
          refine (show Calls _ _ _ _ (CPost w (-a) (-b)) from turn_c _ _ _ _ _ _ c1 (by unfold Nr; omega) (by unfold Nr; omega)).mono ?_; rintro e w' ⟨r8, i8, rfl, rfl, c8⟩
          go_wp2_with fail
          refine (of_c _ _ _ (by unfold Nr; omega) (by unfold Nr; omega)).mono ?_; rintro e w' ⟨r9, i9, rfl, rfl, c9⟩
          have o3 := order_same rfl c8.1 c9.1
          have o4 := order_same rfl c8.2 c9.2
          go_wp2_with fail
          go_ret
          exact ⟨rfl, rfl⟩
        · go_enter Try.func4, Try.ntmps4
          go_wp2_with fail
          refine (near_yes _ _ _ (by decide) (by decide) h0.1 h0.2).mono ?_; rintro e w' ⟨rfl, rfl⟩
          go_wp2_with fail
          refine (near_yes _ _ _ (by decide) (by decide) h1.1 h1.2).mono ?_; rintro e w' ⟨rfl, rfl⟩
          go_wp2_with fail
          refine (near_yes _ _ _ (by decide) (by decide) h2.1 h2.2).mono ?_; rintro e w' ⟨rfl, rfl⟩
          go_wp2_with fail
          refine (near_no _ _ _ (by decide) (by decide) h3).mono ?_; rintro e w' ⟨rfl, rfl⟩
          go_wp2_with fail
          refine (awake02_c _).mono ?_; rintro e w' ⟨rfl, rfl⟩
          go_wp2_with fail
          go_ret
          exact ⟨rfl, rfl⟩
      · go_enter Try.func4, Try.ntmps4
        go_wp2_with fail
        refine (near_yes _ _ _ (by decide) (by decide) h0.1 h0.2).mono ?_; rintro e w' ⟨rfl, rfl⟩
        go_wp2_with fail
        refine (near_yes _ _ _ (by decide) (by decide) h1.1 h1.2).mono ?_; rintro e w' ⟨rfl, rfl⟩
        go_wp2_with fail
        refine (near_no _ _ _ (by decide) (by decide) h2).mono ?_; rintro e w' ⟨rfl, rfl⟩
        go_wp2_with fail
        refine (awake02_c _).mono ?_; rintro e w' ⟨rfl, rfl⟩
        go_wp2_with fail
        go_ret
        exact ⟨rfl, rfl⟩
    · go_enter Try.func4, Try.ntmps4
      go_wp2_with fail
      refine (near_yes _ _ _ (by decide) (by decide) h0.1 h0.2).mono ?_; rintro e w' ⟨rfl, rfl⟩
      go_wp2_with fail
      refine (near_no _ _ _ (by decide) (by decide) h1).mono ?_; rintro e w' ⟨rfl, rfl⟩
      go_wp2_with fail
      refine (awake02_c _).mono ?_; rintro e w' ⟨rfl, rfl⟩
      go_wp2_with fail
      go_ret
      exact ⟨rfl, rfl⟩
  · go_enter Try.func4, Try.ntmps4
    go_wp2_with fail
    refine (near_no _ _ _ (by decide) (by decide) h0).mono ?_; rintro e w' ⟨rfl, rfl⟩
    go_wp2_with fail
    refine (awake02_c _).mono ?_; rintro e w' ⟨rfl, rfl⟩
    go_wp2_with fail
    go_ret
    exact ⟨rfl, rfl⟩

def pic (a b x y : Int) : Bool := decide (1 ≤ a) && decide (1 ≤ b) && decide (a ≤ 1048576) && decide (b ≤ 1048576) && decide (-1048576 ≤ x ∧ x ≤ 1048576) && decide (-1048576 ≤ y ∧ y ≤ 1048576)

set_option maxHeartbeats 1600000 in
theorem picture_c (a b x y : Int) (w : World) : Calls Try.prog 19 #[.int .i64 a, .int .i64 b, .int .i64 x, .int .i64 y] w (BPost w (pic a b x y)) := by
  by_cases h0 : 1 ≤ a
  · by_cases h1 : 1 ≤ b
    · by_cases h2 : a ≤ 1048576
      · by_cases h3 : b ≤ 1048576
        · by_cases h4 : -1048576 ≤ x ∧ x ≤ 1048576
          · by_cases h5 : -1048576 ≤ y ∧ y ≤ 1048576
            · have hp : pic a b x y = true := by simp [pic, h0, h1, h2, h3, h4, h5]
              rw [hp]; clear hp
              go_enter Try.func19, Try.ntmps19
              go_wp2_with fail
              refine (near_yes _ _ _ (by decide) (by decide) h4.1 h4.2).mono ?_; rintro e w' ⟨rfl, rfl⟩
              go_wp2_with fail
              refine (near_yes _ _ _ (by decide) (by decide) h5.1 h5.2).mono ?_; rintro e w' ⟨rfl, rfl⟩
              go_wp2_with fail
              go_ret
              exact ⟨rfl, rfl⟩
            · have hp : pic a b x y = false := by simp [pic, h0, h1, h2, h3, h4]; omega
              rw [hp]; clear hp
              go_enter Try.func19, Try.ntmps19
              go_wp2_with fail
              refine (near_yes _ _ _ (by decide) (by decide) h4.1 h4.2).mono ?_; rintro e w' ⟨rfl, rfl⟩
              go_wp2_with fail
              refine (near_no _ _ _ (by decide) (by decide) h5).mono ?_; rintro e w' ⟨rfl, rfl⟩
              go_wp2_with fail
              go_ret
              exact ⟨rfl, rfl⟩
          · have hp : pic a b x y = false := by simp [pic, h0, h1, h2, h3]; omega
            rw [hp]; clear hp
            go_enter Try.func19, Try.ntmps19
            go_wp2_with fail
            refine (near_no _ _ _ (by decide) (by decide) h4).mono ?_; rintro e w' ⟨rfl, rfl⟩
            go_wp2_with fail
            go_ret
            exact ⟨rfl, rfl⟩
        · have hp : pic a b x y = false := by simp [pic, h3]
          rw [hp]; clear hp
          go_enter Try.func19, Try.ntmps19
          go_wp2_with fail
          go_ret
          exact ⟨ret_b (by first | (simp; done) | (simp; omega)), rfl⟩
      · have hp : pic a b x y = false := by simp [pic, h2]
        rw [hp]; clear hp
        go_enter Try.func19, Try.ntmps19
        go_wp2_with fail
        go_ret
        exact ⟨rfl, rfl⟩
    · have hp : pic a b x y = false := by simp [pic, h1]
      rw [hp]; clear hp
      go_enter Try.func19, Try.ntmps19
      go_wp2_with fail
      go_ret
      exact ⟨rfl, rfl⟩
  · have hp : pic a b x y = false := by simp [pic, h0]
    rw [hp]; clear hp
    go_enter Try.func19, Try.ntmps19
    go_wp2_with fail
    go_ret
    exact ⟨rfl, rfl⟩

set_option maxHeartbeats 1600000 in
theorem vecPlaces_walk (a b k x y : Int) (w : World) (hk1 : -9223372036854775808 ≤ k) (hk2 : k ≤ 9223372036854775807) :
    Calls Try.prog 5 #[.int .i64 a, .int .i64 b, .int .i64 k, .int .i64 x, .int .i64 y] w (BPost w true) := by
  by_cases hp : pic a b x y = true
  · have H : 1 ≤ a ∧ 1 ≤ b ∧ a ≤ 1048576 ∧ b ≤ 1048576 ∧ (-1048576 ≤ x ∧ x ≤ 1048576) ∧ (-1048576 ≤ y ∧ y ≤ 1048576) := by
      simpa [pic, and_assoc] using hp
    obtain ⟨h0, h1, h2, h3, h4, h5⟩ := H
    go_enter Try.func5, Try.ntmps5
    go_wp2_with fail
    refine (awake02_c _).mono ?_; rintro e w' ⟨rfl, rfl⟩
    go_wp2_with fail
    refine (picture_c _ _ _ _ _).mono ?_; rintro e w' ⟨rfl, rfl⟩
    rw [hp]
    go_wp2_with fail
    refine (size_c _ _ _ _ (by omega) (by omega) (by omega) (by omega)).mono ?_; rintro e w' ⟨rfl, rfl⟩
    go_wp2_with fail
    refine (rsize_c _ _ _ _).mono ?_; rintro e w' ⟨rfl, rfl⟩
    go_wp2_with fail
    refine (to_c _ _ _ _ _ _ (by omega) (by omega) (by omega) (by omega) (by unfold Nr; omega) (by unfold Nr; omega)).mono ?_; rintro e w' ⟨rfl, rfl⟩
    go_wp2_with fail
    refine (rto_c _ _ _ _ _ _ (by omega) (by omega) (by omega) (by omega) (by unfold Nr; omega) (by unfold Nr; omega)).mono ?_; rintro e w' ⟨rfl, rfl⟩
    go_wp2_with fail
    refine (from_c _ _ _ _ _ _ hk1 hk2 (by omega) (by omega) (by omega) (by omega) (by unfold Nr; omega) (by unfold Nr; omega)).mono ?_; rintro e w' ⟨rfl, rfl⟩
    go_wp2_with fail
    refine (rfrom_c _ _ _ _ _ _ (by omega) (by omega) (by omega) (by omega) (by unfold Nr; omega) (by unfold Nr; omega)).mono ?_; rintro e w' ⟨rfl, rfl⟩
    go_wp2_with fail
    go_ret
    exact ⟨ret_b (by simp), rfl⟩
  · have hp' : pic a b x y = false := by simpa using hp
    clear hp
    go_enter Try.func5, Try.ntmps5
    go_wp2_with fail
    refine (awake02_c _).mono ?_; rintro e w' ⟨rfl, rfl⟩
    go_wp2_with fail
    refine (picture_c _ _ _ _ _).mono ?_; rintro e w' ⟨rfl, rfl⟩
    rw [hp']
    go_wp2_with fail
    refine (awake02_c _).mono ?_; rintro e w' ⟨rfl, rfl⟩
    go_wp2_with fail
    go_ret
    exact ⟨rfl, rfl⟩
end Go.Proofs.Ytlcefgdiclpcjaa
