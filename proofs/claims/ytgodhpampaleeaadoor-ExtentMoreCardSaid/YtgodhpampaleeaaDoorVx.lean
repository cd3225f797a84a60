/- Texts joined: XVx. -/
import Derived.Test.YtgodhpampaleeaaDoorAa
import Derived.Test.YtgodhpampaleeaaDoorFo
import Derived.WalkKit
import Derived.WalkSpells
import Derived.WalkLawsBesides
set_option maxRecDepth 4000
/- The contracts of package vec and of its reference (layer 2): what each function answers, on whole numbers of at most 2^50. -/
namespace Go.Proofs.YtgodhpampaleeaaDoor.Vc
open Go.RowKit Go.Fl
set_option linter.unusedVariables false


/-! ### plain -/
def qn (k : Int) : Nat := (k % 4).toNat
def pa : Nat → Int | 0 => 1 | 1 => 0 | 2 => -1 | _ => 0
def pb : Nat → Int | 0 => 0 | 1 => 1 | 2 => 0 | _ => -1
def tx (q : Nat) (x y : Int) : Int := match q with | 0 => x | 1 => -y | 2 => -x | _ => y
def ty (q : Nat) (x y : Int) : Int := match q with | 0 => y | 1 => x | 2 => -y | _ => -x
/-- within 2^n of nought -/
def Nr (m : Int) (x : Int) : Prop := -m ≤ x ∧ x ≤ m

theorem tmod4 (a : Int) (h : 0 ≤ a) : a.tmod 4 = a % 4 := Int.tmod_eq_emod_of_nonneg h
theorem tmod4n (a : Int) (h : a < 0) : a.tmod 4 = -((-a) % 4) := by
  have := Int.neg_tmod (a := -a) (b := 4)
  rw [Int.neg_neg] at this
  rw [this, tmod4 _ (by omega)]
theorem qn_lt (k : Int) : qn k < 4 := by unfold qn; omega
theorem qn_eq (k : Int) : (wrap64 (k.tmod 4 + 4)).tmod 4 = (qn k : Int) := by
  unfold qn
  by_cases hk : 0 ≤ k
  · rw [tmod4 k hk]
    have h : wrap64 (k % 4 + 4) = k % 4 + 4 := by unfold wrap64; omega
    rw [h, tmod4 _ (by omega)]; omega
  · rw [tmod4n k (by omega)]
    have h : wrap64 (-(-k % 4) + 4) = -(-k % 4) + 4 := by unfold wrap64; omega
    rw [h, tmod4 _ (by omega)]; omega
theorem four (q : Nat) (h : q < 4) : q = 0 ∨ q = 1 ∨ q = 2 ∨ q = 3 := by omega
theorem txy_eq (q : Nat) (h : q < 4) (x y : Int) : x * pa q - y * pb q = tx q x y ∧ x * pb q + y * pa q = ty q x y := by
  rcases four q h with rfl | rfl | rfl | rfl <;> simp [pa, pb, tx, ty]
theorem tx_bd {m : Int} (q : Nat) (x y : Int) (hx : Nr m x) (hy : Nr m y) : Nr m (tx q x y) := by
  unfold Nr at *; unfold tx; split <;> omega
theorem ty_bd {m : Int} (q : Nat) (x y : Int) (hx : Nr m x) (hy : Nr m y) : Nr m (ty q x y) := by
  unfold Nr at *; unfold ty; split <;> omega
theorem step_q (j : Nat) (h : j < 3) {re im : Nat} (hq : IsC re im (pa j) (pb j)) : ∃ re' im', cMulBits re im 0 4607182418800017408 = some (re', im') ∧ IsC re' im' (pa (j+1)) (pb (j+1)) := by
  have hj : j = 0 ∨ j = 1 ∨ j = 2 := by omega
  have hi : IsC 0 4607182418800017408 0 1 := ⟨zero_int, one_int⟩
  rcases hj with rfl | rfl | rfl <;>
  · obtain ⟨r, i, h1, h2⟩ := cmul hq hi (by decide) (by decide) (by decide) (by decide) (by decide) (by decide)
    exact ⟨r, i, h1, h2⟩
theorem pa_one (q : Nat) (h : q < 4) : (pa q).natAbs ≤ 1 ∧ (pb q).natAbs ≤ 1 := by
  rcases four q h with rfl | rfl | rfl | rfl <;> decide
theorem mul_small {x p : Int} (hx : Nr 1125899906842624 x) (hp : p.natAbs ≤ 1) : (x * p).natAbs < 2 ^ 53 := by
  unfold Nr at hx
  have : x.natAbs * p.natAbs ≤ x.natAbs * 1 := Nat.mul_le_mul_left _ hp
  rw [Int.natAbs_mul]
  omega
theorem turn_bits {re im u v : Nat} {x y : Int} (q : Nat) (h : q < 4) (hc : IsC re im x y) (hq : IsC u v (pa q) (pb q)) (hx : Nr 1125899906842624 x) (hy : Nr 1125899906842624 y) :
    ∃ re' im', cMulBits re im u v = some (re', im') ∧ IsC re' im' (tx q x y) (ty q x y) := by
  obtain ⟨e1, e2⟩ := txy_eq q h x y
  obtain ⟨p1, p2⟩ := pa_one q h
  have b1 := tx_bd q x y hx hy
  have b2 := ty_bd q x y hx hy
  unfold Nr at b1 b2
  rw [← e1, ← e2]
  exact cmul hc hq (mul_small hx p1) (mul_small hy p2) (mul_small hx p2) (mul_small hy p1) (by rw [e1]; omega) (by rw [e2]; omega)

/-! ### the posts -/
def IsV (v : Value) (a b : Int) : Prop := ∃ re im, v = .complex .f64 re im ∧ IsC re im a b
def CPost (w : World) (a b : Int) (e : Ending) (w' : World) : Prop := ∃ re im, e = .returned (.complex .f64 re im) ∧ w = w' ∧ IsC re im a b
def IPost (w : World) (a b : Int) (e : Ending) (w' : World) : Prop := e = .returned (.tuple #[.int .i64 a, .int .i64 b]) ∧ w = w'

/-! ### quarter -/
def Qrel (n : Nat) (u i : Value) : Prop := ∃ j : Nat, j ≤ n ∧ i = .int .i64 j ∧ IsV u (pa j) (pb j)

set_option maxHeartbeats 400000 in
theorem quarter_c (k : Int) (w : World) :
    Calls Tryd.prog 49 #[.int .i64 k] w (CPost w (pa (qn k)) (pb (qn k))) := by
  have hn := qn_eq k
  have hlt := qn_lt k
  go_enter Tryd.func49, Tryd.ntmps49
  go_wp2
  go_loop [3, 8] (Qrel (qn k)) (fun _ i => qn k - (intOf i).toNat)
  case atStart => exact ⟨0, by omega, rfl, _, _, rfl, one_int, zero_int⟩
  case round =>
    obtain ⟨j, hj, rfl, re, im, rfl, hq⟩ := hrel
    by_cases hc : j < qn k
    · obtain ⟨re', im', hm, hq'⟩ := step_q j (by omega) hq
      have hr := run_complex_mul (P := Tryd.prog) w 67 re im 0 4607182418800017408 re' im' hm
      clear hm hn
      go_wp2
      go_round
      case rel => exact ⟨j + 1, by omega, by go_num, _, _, rfl, hq'⟩
      case measure => simp [intOf]; omega
    · have : j = qn k := by omega
      clear hn
      subst this
      go_wp2
      go_ret
      exact ⟨re, im, rfl, rfl, hq⟩

/-! ### Of, Parts, Turn -/
theorem of_c (x y : Int) (w : World) (hx : Nr 4503599627370496 x) (hy : Nr 4503599627370496 y) :
    Calls Tryd.prog 48 #[.int .i64 x, .int .i64 y] w (CPost w x y) := by
  have hc : IsC (FloatKind.f64.nearest x) (FloatKind.f64.nearest y) x y := ⟨of_int x (by unfold Nr at *; omega), of_int y (by unfold Nr at *; omega)⟩
  go_enter Tryd.func48, Tryd.ntmps48
  go_wp2
  go_ret
  exact ⟨_, _, rfl, rfl, hc⟩

theorem parts_c (re im : Nat) (x y : Int) (w : World) (hc : IsC re im x y) (hx : Nr 4503599627370496 x) (hy : Nr 4503599627370496 y) :
    Calls Tryd.prog 47 #[.complex .f64 re im] w (IPost w x y) := by
  unfold Nr at *
  have h1 := run_convert_float_int (P := Tryd.prog) w 95 3 .f64 .i64 re x rfl rfl (to_int hc.1 (by omega) (by omega))
  have h2 := run_convert_float_int (P := Tryd.prog) w 95 3 .f64 .i64 im y rfl rfl (to_int hc.2 (by omega) (by omega))
  go_enter Tryd.func47, Tryd.ntmps47
  go_wp2
  go_ret2
  exact ⟨rfl, rfl⟩

theorem turn_c (re im : Nat) (x y k : Int) (w : World) (hc : IsC re im x y) (hx : Nr 1125899906842624 x) (hy : Nr 1125899906842624 y) :
    Calls Tryd.prog 33 #[.complex .f64 re im, .int .i64 k] w (CPost w (tx (qn k) x y) (ty (qn k) x y)) := by
  go_enter Tryd.func33, Tryd.ntmps33
  go_wp2_with (go_at_call 49; refine (quarter_c _ _).mono ?_; rintro e w' ⟨u, v, rfl, rfl, hq⟩; obtain ⟨re', im', hm, hq'⟩ := turn_bits (qn k) (qn_lt k) hc hq hx hy; have hr := run_complex_mul (P := Tryd.prog) w 67 re im u v re' im' hm; clear hm)
  go_ret
  exact ⟨_, _, rfl, rfl, hq'⟩

/-! ### Size, corner, middle, shift, To, From -/
def sx (q : Nat) (w h : Int) : Int := match q with | 0 => w | 1 => h | 2 => w | _ => h
def sy (q : Nat) (w h : Int) : Int := match q with | 0 => h | 1 => w | 2 => h | _ => w

theorem ret_two {a b c d : Int} (h1 : a = c) (h2 : b = d) : Ending.returned (.tuple #[.int .i64 a, .int .i64 b]) = .returned (.tuple #[.int .i64 c, .int .i64 d]) := by rw [h1, h2]

set_option maxHeartbeats 400000 in
theorem size_c (a b k : Int) (w : World) (ha : 0 ≤ a) (ha2 : a ≤ 1125899906842624) (hb : 0 ≤ b) (hb2 : b ≤ 1125899906842624) :
    Calls Tryd.prog 31 #[.int .i64 a, .int .i64 b, .int .i64 k] w (IPost w (sx (qn k) a b) (sy (qn k) a b)) := by
  have x1 := tx_bd (m := 1125899906842624) (qn k) a b (by unfold Nr; omega) (by unfold Nr; omega)
  have x2 := ty_bd (m := 1125899906842624) (qn k) a b (by unfold Nr; omega) (by unfold Nr; omega)
  have e1 : sx (qn k) a b = max (tx (qn k) a b) (-tx (qn k) a b) := by unfold tx sx; split <;> omega
  have e2 : sy (qn k) a b = max (ty (qn k) a b) (-ty (qn k) a b) := by unfold ty sy; split <;> omega
  rw [e1, e2]
  clear e1 e2
  go_enter Tryd.func31, Tryd.ntmps31
  go_wp2_with fail
  refine (of_c _ _ _ (by unfold Nr; omega) (by unfold Nr; omega)).mono ?_; rintro e w' ⟨r1, i1, rfl, rfl, h1⟩
  go_wp2_with fail
  refine (turn_c _ _ _ _ _ _ h1 (by unfold Nr; omega) (by unfold Nr; omega)).mono ?_; rintro e w' ⟨r2, i2, rfl, rfl, h2⟩
  generalize tx (qn k) a b = X at *
  generalize ty (qn k) a b = Y at *
  go_wp2_with fail
  unfold Nr at x1 x2
  refine (parts_c _ _ _ _ _ h2 (by unfold Nr; omega) (by unfold Nr; omega)).mono ?_; rintro e w' ⟨rfl, rfl⟩
  go_wp2_with fail
  all_goals
    go_ret2
    exact ⟨ret_two (by omega) (by omega), rfl⟩

set_option maxHeartbeats 400000 in
theorem corner_c (re im : Nat) (x y : Int) (w : World) (hc : IsC re im (2 * x + 1) (2 * y + 1)) (hx : Nr 562949953421312 x) (hy : Nr 562949953421312 y) :
    Calls Tryd.prog 32 #[.complex .f64 re im] w (IPost w x y) := by
  unfold Nr at hx hy
  go_enter Tryd.func32, Tryd.ntmps32
  go_wp2_with fail
  refine (of_c _ _ _ (by unfold Nr; omega) (by unfold Nr; omega)).mono ?_; rintro e w' ⟨r1, i1, rfl, rfl, h1⟩
  obtain ⟨r2, i2, hm, h2⟩ := csub hc h1 (by omega) (by omega)
  have hr := run_complex_sum (P := Tryd.prog) w .sub (.inr rfl) 67 .f64 re im r1 i1 r2 i2 hm
  clear hm
  go_wp2_with fail
  refine (parts_c _ _ _ _ _ h2 (by unfold Nr; omega) (by unfold Nr; omega)).mono ?_; rintro e w' ⟨rfl, rfl⟩
  have e1 : (2 * x + 1 - 1).tdiv 2 = x := by rw [show 2 * x + 1 - 1 = x * 2 from by omega, Int.mul_tdiv_cancel _ (by decide)]
  have e2 : (2 * y + 1 - 1).tdiv 2 = y := by rw [show 2 * y + 1 - 1 = y * 2 from by omega, Int.mul_tdiv_cancel _ (by decide)]
  generalize 2 * x + 1 - 1 = X at *
  generalize 2 * y + 1 - 1 = Y at *
  go_wp2_with fail
  go_ret2
  have hx' : wrap64 x = x := by unfold wrap64; omega
  have hy' : wrap64 y = y := by unfold wrap64; omega
  refine ⟨ret_two ?_ ?_, rfl⟩ <;> first | rfl | assumption

set_option maxHeartbeats 400000 in
theorem middle_c (x y : Int) (w : World) (hx : Nr 562949953421312 x) (hy : Nr 562949953421312 y) :
    Calls Tryd.prog 34 #[.int .i64 x, .int .i64 y] w (CPost w (2 * x + 1) (2 * y + 1)) := by
  unfold Nr at hx hy
  go_enter Tryd.func34, Tryd.ntmps34
  go_wp2_with fail
  refine (of_c _ _ _ (by unfold Nr; omega) (by unfold Nr; omega)).mono ?_; rintro e w' ⟨r1, i1, rfl, rfl, h1⟩
  go_wp2_with fail
  go_ret
  exact ⟨_, _, rfl, rfl, h1⟩

theorem isC_of {r i : Nat} {a b a' b' : Int} (h : IsC r i a b) (e1 : a = a') (e2 : b = b') : IsC r i a' b' := e1 ▸ e2 ▸ h

set_option maxHeartbeats 400000 in
theorem shift_c (a b k : Int) (w : World) (ha : Nr 562949953421312 a) (hb : Nr 562949953421312 b) :
    Calls Tryd.prog 35 #[.int .i64 a, .int .i64 b, .int .i64 k] w (CPost w (2 * max (-tx (qn k) a b) 0) (2 * max (-ty (qn k) a b) 0)) := by
  have x1 := tx_bd (qn k) a b ha hb
  have x2 := ty_bd (qn k) a b ha hb
  unfold Nr at ha hb
  go_enter Tryd.func35, Tryd.ntmps35
  go_wp2_with fail
  refine (of_c _ _ _ (by unfold Nr; omega) (by unfold Nr; omega)).mono ?_; rintro e w' ⟨r1, i1, rfl, rfl, h1⟩
  go_wp2_with fail
  refine (turn_c _ _ _ _ _ _ h1 (by unfold Nr; omega) (by unfold Nr; omega)).mono ?_; rintro e w' ⟨r2, i2, rfl, rfl, h2⟩
  generalize tx (qn k) a b = X at *
  generalize ty (qn k) a b = Y at *
  unfold Nr at x1 x2
  go_wp2_with fail
  refine (parts_c _ _ _ _ _ h2 (by unfold Nr; omega) (by unfold Nr; omega)).mono ?_; rintro e w' ⟨rfl, rfl⟩
  go_wp2_with fail
  all_goals
    refine (of_c _ _ _ (by unfold Nr; omega) (by unfold Nr; omega)).mono ?_; rintro e w' ⟨r3, i3, rfl, rfl, h3⟩
    go_wp2_with fail
    go_ret
    exact ⟨_, _, rfl, rfl, isC_of h3 (by omega) (by omega)⟩

def ox (q : Nat) (w h u v : Int) : Int := match q with | 0 => u | 1 => h - 1 - v | 2 => w - 1 - u | _ => v
def oy (q : Nat) (w h u v : Int) : Int := match q with | 0 => v | 1 => u | 2 => h - 1 - v | _ => w - 1 - u
def fx (q : Nat) (w h u v : Int) : Int := match q with | 0 => u | 1 => v | 2 => w - 1 - u | _ => w - 1 - v
def fy (q : Nat) (w h u v : Int) : Int := match q with | 0 => v | 1 => h - 1 - u | 2 => h - 1 - v | _ => u

theorem qn_neg (k : Int) (h1 : -9223372036854775808 ≤ k) (h2 : k ≤ 9223372036854775807) : qn (wrap64 (-k)) = (4 - qn k) % 4 := by
  unfold qn wrap64; omega

set_option maxHeartbeats 400000 in
theorem from_c (a b k x y : Int) (w : World) (hk1 : -9223372036854775808 ≤ k) (hk2 : k ≤ 9223372036854775807) (ha : 1 ≤ a) (ha2 : a ≤ 1099511627776) (hb : 1 ≤ b) (hb2 : b ≤ 1099511627776) (hx : Nr 1099511627776 x) (hy : Nr 1099511627776 y) :
    Calls Tryd.prog 17 #[.int .i64 a, .int .i64 b, .int .i64 k, .int .i64 x, .int .i64 y] w (IPost w (fx (qn k) a b x y) (fy (qn k) a b x y)) := by
  unfold Nr at hx hy
  have hq := qn_lt k
  have hn := qn_neg k hk1 hk2
  have HN : Hid (qn (wrap64 (-k)) = (4 - qn k) % 4) := hn
  clear hn hk1 hk2
  go_enter Tryd.func17, Tryd.ntmps17
  go_wp2_with fail
  refine (middle_c _ _ _ (by unfold Nr; omega) (by unfold Nr; omega)).mono ?_; rintro e w' ⟨r1, i1, rfl, rfl, h1⟩
  go_wp2_with fail
  refine (shift_c _ _ _ _ (by unfold Nr; omega) (by unfold Nr; omega)).mono ?_; rintro e w' ⟨r3, i3, rfl, rfl, h3⟩
  have t1 : Nr 1099511627776 (tx (qn k) a b) := tx_bd _ _ _ (by unfold Nr; omega) (by unfold Nr; omega)
  have t2 : Nr 1099511627776 (ty (qn k) a b) := ty_bd _ _ _ (by unfold Nr; omega) (by unfold Nr; omega)
  unfold Nr at t1 t2
  obtain ⟨r4, i4, hm, h4⟩ := csub h1 h3 (by omega) (by omega)
  have hr := run_complex_sum (P := Tryd.prog) w .sub (.inr rfl) 67 .f64 r1 i1 r3 i3 r4 i4 hm
  clear hm
  go_wp2_with fail
  refine (turn_c _ _ _ _ _ _ h4 (by unfold Nr; omega) (by unfold Nr; omega)).mono ?_; rintro e w' ⟨r2, i2, rfl, rfl, h2⟩
  rw [HN.out] at h2
  clear HN
  generalize qn k = q at *
  have e1 : tx ((4 - q) % 4) (2 * x + 1 - 2 * max (-tx q a b) 0) (2 * y + 1 - 2 * max (-ty q a b) 0) = 2 * fx q a b x y + 1 := by
    rcases four q hq with rfl | rfl | rfl | rfl <;> simp only [tx, ty, fx, Nat.reduceSub, Nat.reduceMod] <;> omega
  have e2 : ty ((4 - q) % 4) (2 * x + 1 - 2 * max (-tx q a b) 0) (2 * y + 1 - 2 * max (-ty q a b) 0) = 2 * fy q a b x y + 1 := by
    rcases four q hq with rfl | rfl | rfl | rfl <;> simp only [tx, ty, fy, Nat.reduceSub, Nat.reduceMod] <;> omega
  have b1 : Nr 2199023255552 (fx q a b x y) := by
    unfold Nr; rcases four q hq with rfl | rfl | rfl | rfl <;> simp only [fx] <;> omega
  have b2 : Nr 2199023255552 (fy q a b x y) := by
    unfold Nr; rcases four q hq with rfl | rfl | rfl | rfl <;> simp only [fy] <;> omega
  unfold Nr at b1 b2
  rw [e1, e2] at h2
  clear e1 e2
  go_wp2_with fail
  refine (corner_c _ _ _ _ _ h2 (by unfold Nr; omega) (by unfold Nr; omega)).mono ?_; rintro e w' ⟨rfl, rfl⟩
  go_wp2_with fail
  go_ret2
  exact ⟨rfl, rfl⟩
end Go.Proofs.YtgodhpampaleeaaDoor.Vc
