/- Texts joined: XVy. -/
import Derived.Test.YtgodhpampaleeaaDoorVx
set_option maxRecDepth 4000
/- The contracts of layer 2's reference and of the small functions of its statements. -/
namespace Go.Proofs.YtgodhpampaleeaaDoor.Vc
open Go.RowKit Go.Fl
set_option linter.unusedVariables false

def I1Post (w : World) (a : Int) (e : Ending) (w' : World) : Prop := e = .returned (.int .i64 a) ∧ w = w'
def BPost (w : World) (b : Bool) (e : Ending) (w' : World) : Prop := e = .returned (.bool b) ∧ w = w'
theorem ret_b {a b : Bool} (h : a = b) : Ending.returned (.bool a) = .returned (.bool b) := by rw [h]
theorem ret_one {a c : Int} (h1 : a = c) : Ending.returned (.int .i64 a) = .returned (.int .i64 c) := by rw [h1]

theorem qn_tmod (k : Int) (h : 0 ≤ k.tmod 4) : k.tmod 4 = (qn k : Int) := by
  unfold qn
  by_cases hk : 0 ≤ k
  · rw [tmod4 k hk]; omega
  · have := tmod4n k (by omega); rw [this] at h ⊢; omega
theorem qn_tmodn (k : Int) (h : k.tmod 4 < 0) : k.tmod 4 + 4 = (qn k : Int) := by
  unfold qn
  by_cases hk : 0 ≤ k
  · rw [tmod4 k hk] at h; omega
  · have := tmod4n k (by omega); rw [this] at h ⊢; omega
theorem tmod_bd (k : Int) : -4 < k.tmod 4 ∧ k.tmod 4 < 4 := by
  by_cases hk : 0 ≤ k
  · rw [tmod4 k hk]; omega
  · rw [tmod4n k (by omega)]; omega

theorem quarters_c (k : Int) (w : World) : Calls Tryd.prog 36 #[.int .i64 k] w (I1Post w (qn k)) := by
  have hb := tmod_bd k
  by_cases h : 0 ≤ k.tmod 4
  · have e := qn_tmod k h
    rw [← e]
    clear e
    go_enter Tryd.func36, Tryd.ntmps36
    go_wp2
    go_ret
    exact ⟨rfl, rfl⟩
  · have e := qn_tmodn k (by omega)
    rw [← e]
    clear e
    go_enter Tryd.func36, Tryd.ntmps36
    go_wp2
    go_ret
    exact ⟨rfl, rfl⟩

theorem tx_succ (j : Nat) (h : j < 3) (x y : Int) : tx (j + 1) x y = -ty j x y ∧ ty (j + 1) x y = tx j x y := by
  have hj : j = 0 ∨ j = 1 ∨ j = 2 := by omega
  rcases hj with rfl | rfl | rfl <;> simp [tx, ty]

def Trel (n : Nat) (x y : Int) (u v i : Value) : Prop := ∃ j : Nat, j ≤ n ∧ i = .int .i64 ((n : Int) - j) ∧ u = .int .i64 (tx j x y) ∧ v = .int .i64 (ty j x y)

theorem par (q : Nat) : (q : Int).tmod 2 = (q % 2 : Nat) := by rw [Int.tmod_eq_emod_of_nonneg (by omega)]; omega

theorem rsize_c (a b k : Int) (w : World) : Calls Tryd.prog 37 #[.int .i64 a, .int .i64 b, .int .i64 k] w (IPost w (sx (qn k) a b) (sy (qn k) a b)) := by
  have hq := qn_lt k
  go_enter Tryd.func37, Tryd.ntmps37
  go_wp2_with fail
  refine (quarters_c _ _).mono ?_; rintro e w' ⟨rfl, rfl⟩
  generalize qn k = q at *
  rcases four q hq with rfl | rfl | rfl | rfl
  all_goals
    go_wp2_with fail
    go_ret2
    exact ⟨rfl, rfl⟩

/-- a picture's size, and where a pixel comes to, behind j quarters -/
def Orel (n : Nat) (a b x y : Int) (u0 u1 u3 u4 i : Value) : Prop :=
  ∃ j : Nat, j ≤ n ∧ i = .int .i64 ((n : Int) - j) ∧ u0 = .int .i64 (sx j a b) ∧ u1 = .int .i64 (sy j a b) ∧ u3 = .int .i64 (ox j a b x y) ∧ u4 = .int .i64 (oy j a b x y)
theorem o_succ (j : Nat) (h : j < 3) (a b x y : Int) : sx (j + 1) a b = sy j a b ∧ sy (j + 1) a b = sx j a b ∧ ox (j + 1) a b x y = sy j a b - 1 - oy j a b x y ∧ oy (j + 1) a b x y = ox j a b x y := by
  have hj : j = 0 ∨ j = 1 ∨ j = 2 := by omega
  rcases hj with rfl | rfl | rfl <;> refine ⟨?_, ?_, ?_, ?_⟩ <;> simp only [sx, sy, ox, oy] <;> omega
theorem o_bd (j : Nat) (a b x y : Int) (ha : 1 ≤ a) (ha2 : a ≤ 1099511627776) (hb : 1 ≤ b) (hb2 : b ≤ 1099511627776) (hx : Nr 1099511627776 x) (hy : Nr 1099511627776 y) :
    1 ≤ sx j a b ∧ sx j a b ≤ 1099511627776 ∧ 1 ≤ sy j a b ∧ sy j a b ≤ 1099511627776 ∧ -2199023255552 ≤ ox j a b x y ∧ ox j a b x y ≤ 2199023255552 ∧ -2199023255552 ≤ oy j a b x y ∧ oy j a b x y ≤ 2199023255552 := by
  unfold Nr at *
  unfold sx sy ox oy
  refine ⟨?_, ?_, ?_, ?_, ?_, ?_, ?_, ?_⟩ <;> split <;> omega

/-- the other way round: behind j of n quarters -/
def px (n j : Nat) (a b x y : Int) : Int := match n, j with
  | 1, 1 => fx 1 a b x y | 2, 1 => y | 2, 2 => fx 2 a b x y | 3, 1 => y | 3, 2 => b - 1 - x | 3, 3 => fx 3 a b x y | _, _ => x
def py (n j : Nat) (a b x y : Int) : Int := match n, j with
  | 1, 1 => fy 1 a b x y | 2, 1 => a - 1 - x | 2, 2 => fy 2 a b x y | 3, 1 => b - 1 - x | 3, 2 => a - 1 - y | 3, 3 => fy 3 a b x y | _, _ => y
def Frel (n : Nat) (a b x y : Int) (u0 u1 u3 u4 i : Value) : Prop :=
  ∃ j : Nat, j ≤ n ∧ i = .int .i64 ((n : Int) - j) ∧ u0 = .int .i64 (sx (n - j) a b) ∧ u1 = .int .i64 (sy (n - j) a b) ∧ u3 = .int .i64 (px n j a b x y) ∧ u4 = .int .i64 (py n j a b x y)
theorem pairs (n j : Nat) (hn : n < 4) (hj : j < n) : (n = 1 ∧ j = 0) ∨ (n = 2 ∧ j = 0) ∨ (n = 2 ∧ j = 1) ∨ (n = 3 ∧ j = 0) ∨ (n = 3 ∧ j = 1) ∨ (n = 3 ∧ j = 2) := by omega
theorem f_succ (n j : Nat) (hn : n < 4) (hj : j < n) (a b x y : Int) : sx (n - (j + 1)) a b = sy (n - j) a b ∧ sy (n - (j + 1)) a b = sx (n - j) a b ∧ px n (j + 1) a b x y = py n j a b x y ∧ py n (j + 1) a b x y = sx (n - j) a b - 1 - px n j a b x y := by
  rcases pairs n j hn hj with ⟨rfl, rfl⟩ | ⟨rfl, rfl⟩ | ⟨rfl, rfl⟩ | ⟨rfl, rfl⟩ | ⟨rfl, rfl⟩ | ⟨rfl, rfl⟩ <;>
    simp only [sx, sy, px, py, fx, fy, Nat.reduceSub, Nat.reduceAdd, true_and] <;> omega
theorem f_bd (n j : Nat) (a b x y : Int) (ha : 1 ≤ a) (ha2 : a ≤ 1099511627776) (hb : 1 ≤ b) (hb2 : b ≤ 1099511627776) (hx : Nr 1099511627776 x) (hy : Nr 1099511627776 y) :
    1 ≤ sx (n - j) a b ∧ sx (n - j) a b ≤ 1099511627776 ∧ 1 ≤ sy (n - j) a b ∧ sy (n - j) a b ≤ 1099511627776 ∧ -2199023255552 ≤ px n j a b x y ∧ px n j a b x y ≤ 2199023255552 ∧ -2199023255552 ≤ py n j a b x y ∧ py n j a b x y ≤ 2199023255552 := by
  unfold Nr at *
  unfold sx sy px py
  simp only [fx, fy]
  refine ⟨?_, ?_, ?_, ?_, ?_, ?_, ?_, ?_⟩ <;> split <;> omega
theorem p_end (n : Nat) (hn : n < 4) (a b x y : Int) : px n n a b x y = fx n a b x y ∧ py n n a b x y = fy n a b x y := by
  rcases four n hn with rfl | rfl | rfl | rfl <;> exact ⟨rfl, rfl⟩
theorem p_start (n : Nat) (a b x y : Int) : px n 0 a b x y = x ∧ py n 0 a b x y = y := by
  unfold px py; constructor <;> split <;> simp_all

set_option maxHeartbeats 800000 in
theorem rfrom_c (a b k x y : Int) (w : World) (ha : 1 ≤ a) (ha2 : a ≤ 1099511627776) (hb : 1 ≤ b) (hb2 : b ≤ 1099511627776) (hx : Nr 1099511627776 x) (hy : Nr 1099511627776 y) :
    Calls Tryd.prog 19 #[.int .i64 a, .int .i64 b, .int .i64 k, .int .i64 x, .int .i64 y] w (IPost w (fx (qn k) a b x y) (fy (qn k) a b x y)) := by
  have hq := qn_lt k
  go_enter Tryd.func19, Tryd.ntmps19
  go_wp2_with fail
  refine (quarters_c _ _).mono ?_; rintro e w' ⟨rfl, rfl⟩
  go_wp2_with fail
  refine (rsize_c _ _ _ _).mono ?_; rintro e w' ⟨rfl, rfl⟩
  generalize qn k = q at *
  go_wp2_with fail
  go_loop [0, 1, 3, 4, 12] (Frel q a b x y) (fun _ _ _ _ i => (intOf i).toNat)
  case atStart =>
    obtain ⟨s1, s2⟩ := p_start q a b x y
    exact ⟨0, by omega, by go_num, rfl, rfl, by rw [s1], by rw [s2]⟩
  case round =>
    obtain ⟨j, hj, rfl, rfl, rfl, rfl, rfl⟩ := hrel
    by_cases hc : j < q
    · have B := f_bd q j a b x y ha ha2 hb hb2 hx hy
      have E := f_succ q j hq hc a b x y
      have HE : Hid (sx (q - (j + 1)) a b = sy (q - j) a b ∧ sy (q - (j + 1)) a b = sx (q - j) a b ∧ px q (j + 1) a b x y = py q j a b x y ∧ py q (j + 1) a b x y = sx (q - j) a b - 1 - px q j a b x y) := E
      clear E
      go_wp2
      go_round
      case rel =>
        obtain ⟨e1, e2, e3, e4⟩ := HE.out
        exact ⟨j + 1, by omega, by go_num, by rw [e1], by rw [e2], by rw [e3], by rw [e4]⟩
      case measure => simp [intOf]; omega
    · have : j = q := by omega
      subst this
      obtain ⟨s1, s2⟩ := p_end j hq a b x y
      have S1 : Hid (px j j a b x y = fx j a b x y) := s1
      have S2 : Hid (py j j a b x y = fy j a b x y) := s2
      clear s1 s2
      go_wp2
      go_ret2
      exact ⟨ret_two S1.out S2.out, rfl⟩
end Go.Proofs.YtgodhpampaleeaaDoor.Vc
