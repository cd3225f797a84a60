/- Texts joined: XFo. -/
import Derived.Laws.ComplexArith
set_option maxRecDepth 4000
/- Doubles that stand for whole numbers below 2^53: read, written, added, multiplied, held against each other, turned back to integers. Plain: no program. -/
namespace Go.Fl
open Ieee

/-- The word 'b' stands for the whole number 'n' (a zero may bear either sign). -/
def IsI (b : Nat) (n : Int) : Prop :=
  ∃ (s : Bool) (m p : Nat), double.read b = .number s m (-(p : Int)) ∧ m = n.natAbs * 2 ^ p ∧ (n ≠ 0 → s = decide (n < 0)) ∧ p ≤ 1074

theorem log2_mul_pow (n p : Nat) (h : n ≠ 0) : (n * 2 ^ p).log2 = n.log2 + p := by
  have h2 : n * 2 ^ p ≠ 0 := Nat.mul_ne_zero h (Nat.ne_of_gt (Nat.two_pow_pos p))
  apply (Nat.log2_eq_iff h2).2
  have a := Nat.log2_self_le h
  have b := (Nat.log2_lt h).1 (Nat.lt_succ_self n.log2)
  constructor
  · rw [Nat.pow_add]; exact Nat.mul_le_mul_right _ a
  · rw [show n.log2 + p + 1 = (n.log2 + 1) + p from by omega, Nat.pow_add]
    exact Nat.mul_lt_mul_of_pos_right b (Nat.two_pow_pos p)

theorem cut_exact (way : Toward) (neg : Bool) (N d : Nat) : way.cut neg (N * 2 ^ d) d = N := by
  unfold Toward.cut
  by_cases h : N = 0
  · subst h
    simp
    cases way <;> simp
  · have hm : min d ((N * 2 ^ d).log2 + 2) = d := by rw [log2_mul_pow N d h]; omega
    have hp := Nat.two_pow_pos d
    simp only [hm, Nat.one_shiftLeft, Nat.mul_mod_left, Nat.mul_div_cancel _ hp]
    cases way <;> simp

theorem read_word (s : Bool) (k l : Nat) (hk : 2 ^ 52 ≤ k) (hk2 : k < 2 ^ 53) (hl : l ≤ 1074) :
    double.read (double.word s (l * 2 ^ 52 + k)) = .number s k (-1074 + (l : Int)) := by
  have e1 : double.signWeight = 2 ^ 63 := rfl
  have e2 : double.binade = 2 ^ 52 := rfl
  have e3 : double.infRung = 2047 * 2 ^ 52 := rfl
  have e4 : double.leastPlace = -1074 := rfl
  have hr : l * 2 ^ 52 + k < 2 ^ 63 := by omega
  have hw1 : double.word s (l * 2 ^ 52 + k) / 2 ^ 63 % 2 = s.toNat := by
    unfold Format.word; rw [e1]; cases s <;> simp <;> omega
  have hw2 : double.word s (l * 2 ^ 52 + k) % 2 ^ 63 = l * 2 ^ 52 + k := by
    unfold Format.word; rw [e1]; cases s <;> simp <;> omega
  unfold Format.read
  simp only [e1, e2, e3, e4, hw1, hw2]
  rw [if_neg (by omega), if_pos (by omega)]
  have a : 2 ^ 52 + (l * 2 ^ 52 + k) % 2 ^ 52 = k := by omega
  have b : (l * 2 ^ 52 + k) / 2 ^ 52 - 1 = l := by omega
  rw [a, b]
  cases s <;> simp

theorem read_zero (s : Bool) : double.read (double.word s 0) = .number s 0 (-1074) := by
  cases s <;> rfl

theorem write_int (s : Bool) (n : Int) (p : Nat) (hn : n.natAbs < 2 ^ 53) (hs : n ≠ 0 → s = decide (n < 0)) :
    IsI (double.write (.number s (n.natAbs * 2 ^ p) (-(p : Int)))) n := by
  by_cases h : n = 0
  · subst h
    obtain ⟨k, hk⟩ : ∃ k : Nat, k = 1074 := ⟨_, rfl⟩
    refine ⟨s, 0, k, ?_, (Nat.zero_mul _).symm, fun h => absurd rfl h, by omega⟩
    have e : double.write (.number s ((0 : Int).natAbs * 2 ^ p) (-(p : Int))) = double.word s 0 := by
      simp [Format.write, Format.nearest]
    rw [e, hk]
    exact read_zero s
  · have hN : n.natAbs ≠ 0 := by omega
    generalize hNe : n.natAbs = N at *
    have hL : N.log2 ≤ 52 := by
      have := (Nat.log2_lt hN).2 hn; omega
    refine ⟨s, N * 2 ^ (52 - N.log2), 52 - N.log2, ?_, by rw [hNe], hs, by omega⟩
    have hmag : N * 2 ^ p ≠ 0 := Nat.mul_ne_zero hN (Nat.ne_of_gt (Nat.two_pow_pos p))
    have e4 : double.leastPlace = -1074 := rfl
    have e2 : double.binade = 2 ^ 52 := rfl
    have e3 : double.infRung = 2047 * 2 ^ 52 := rfl
    have e5 : double.fractionBits = 52 := rfl
    unfold Format.write Format.nearest
    simp only [hmag, if_false, log2_mul_pow N p hN, e4, e2, e3, e5]
    have hlast : max (-(p : Int) + ((N.log2 + p : Nat) : Int) - (52 : Nat)) (-1074) = (N.log2 : Int) - 52 := by omega
    rw [hlast]
    have hkept : Toward.even.cut s ((N * 2 ^ p) <<< (-(p : Int) - ((N.log2 : Int) - 52)).toNat) ((N.log2 : Int) - 52 - -(p : Int)).toNat = N * 2 ^ (52 - N.log2) := by
      by_cases hc : 52 - N.log2 ≤ p
      · have h1 : (-(p : Int) - ((N.log2 : Int) - 52)).toNat = 0 := by omega
        have h2 : ((N.log2 : Int) - 52 - -(p : Int)).toNat = p - (52 - N.log2) := by omega
        rw [h1, h2, Nat.shiftLeft_zero]
        have : N * 2 ^ p = (N * 2 ^ (52 - N.log2)) * 2 ^ (p - (52 - N.log2)) := by
          rw [Nat.mul_assoc, ← Nat.pow_add]; congr 2; omega
        rw [this, cut_exact]
      · have h1 : (-(p : Int) - ((N.log2 : Int) - 52)).toNat = 52 - N.log2 - p := by omega
        have h2 : ((N.log2 : Int) - 52 - -(p : Int)).toNat = 0 := by omega
        rw [h1, h2, Nat.shiftLeft_eq]
        have : N * 2 ^ p * 2 ^ (52 - N.log2 - p) = (N * 2 ^ (52 - N.log2)) * 2 ^ 0 := by
          rw [Nat.mul_assoc, ← Nat.pow_add, Nat.pow_zero, Nat.mul_one]; congr 2; omega
        rw [this, cut_exact]
    rw [hkept]
    have hk1 : 2 ^ 52 ≤ N * 2 ^ (52 - N.log2) := by
      have a := Nat.log2_self_le hN
      have := Nat.mul_le_mul_right (2 ^ (52 - N.log2)) a
      rw [← Nat.pow_add, show N.log2 + (52 - N.log2) = 52 from by omega] at this
      exact this
    have hk2 : N * 2 ^ (52 - N.log2) < 2 ^ 53 := by
      have b := (Nat.log2_lt hN).1 (Nat.lt_succ_self N.log2)
      have := Nat.mul_lt_mul_of_pos_right b (Nat.two_pow_pos (52 - N.log2))
      rw [← Nat.pow_add, show N.log2.succ + (52 - N.log2) = 53 from by omega] at this
      exact this
    have hl : ((N.log2 : Int) - 52 - -1074).toNat = N.log2 + 1022 := by omega
    rw [hl]
    generalize N * 2 ^ (52 - N.log2) = K at hk1 hk2
    generalize hl2 : N.log2 + 1022 = l
    have hl3 : l ≤ 1074 := by omega
    have hmin : min (l * 2 ^ 52 + K) (2047 * 2 ^ 52) = l * 2 ^ 52 + K := by
      apply Nat.min_eq_left
      omega
    rw [hmin, read_word s _ _ hk1 hk2 hl3]
    congr 1
    omega

theorem signed_eq (s : Bool) (n : Int) (m p up : Nat) (hm : m = n.natAbs * 2 ^ p) (hs : n ≠ 0 → s = decide (n < 0)) :
    signed s m up = n * 2 ^ (p + up) := by
  subst hm
  unfold signed
  have e : ((n.natAbs * 2 ^ p) <<< up : Nat) = n.natAbs * 2 ^ (p + up) := by
    rw [Nat.shiftLeft_eq, Nat.mul_assoc, ← Nat.pow_add]
  rw [e]
  by_cases h : n = 0
  · subst h; cases s <;> simp
  · have hs' := hs h
    by_cases hneg : n < 0
    · simp [hneg] at hs'; subst hs'
      simp only [if_true]
      rw [Int.natCast_mul, Int.natCast_pow]
      have : (n.natAbs : Int) = -n := by omega
      rw [this, Int.neg_mul, Int.neg_neg]; rfl
    · simp [hneg] at hs'; subst hs'
      simp only [Bool.false_eq_true, if_false]
      rw [Int.natCast_mul, Int.natCast_pow]
      have : (n.natAbs : Int) = n := by omega
      rw [this]; rfl

theorem of_int (n : Int) (hn : n.natAbs < 2 ^ 53) : IsI (FloatKind.f64.nearest n) n := by
  have := write_int (decide (n < 0)) n 0 hn (fun _ => rfl)
  rw [Nat.pow_zero, Nat.mul_one] at this
  exact this

theorem natAbs_scale (n : Int) (p : Nat) : (n * 2 ^ p).natAbs = n.natAbs * 2 ^ p := by
  rw [Int.natAbs_mul, Int.natAbs_pow]; rfl

theorem scale_pos (p : Nat) : (0 : Int) < 2 ^ p := by
  have := Nat.two_pow_pos p
  exact_mod_cast this

theorem scale_neg_iff (n : Int) (p : Nat) : n * 2 ^ p < 0 ↔ n < 0 := by
  have := scale_pos p
  constructor
  · intro h
    refine Int.not_le.1 fun h0 => ?_
    have := Int.mul_nonneg h0 (Int.le_of_lt this)
    omega
  · intro h; exact Int.mul_neg_of_neg_of_pos h this

theorem scale_zero_iff (n : Int) (p : Nat) : n * 2 ^ p = 0 ↔ n = 0 := by
  have := scale_pos p
  constructor
  · intro h
    rcases Int.mul_eq_zero.1 h with h | h
    · exact h
    · omega
  · intro h; simp [h]

theorem mul_int {x y : Nat} {a b : Int} (hx : IsI x a) (hy : IsI y b) (hb : (a * b).natAbs < 2 ^ 53) :
    ∃ r, floatBits .mul .f64 x y = some r ∧ IsI r (a * b) := by
  obtain ⟨s, m, p, hr, hm, hs, _⟩ := hx
  obtain ⟨t, n, q, hr2, hn, ht, _⟩ := hy
  refine ⟨_, ?_, write_int (s ^^ t) (a * b) (p + q) hb ?_⟩
  · show double.mul x y = _
    unfold Format.mul
    rw [hr, hr2]
    simp only [Datum.product, Option.map_some]
    congr 3
    · rw [hm, hn, Int.natAbs_mul, Nat.pow_add]; ac_rfl
    · omega
  · intro h0
    have ha : a ≠ 0 := fun h => h0 (by simp [h])
    have hb0 : b ≠ 0 := fun h => h0 (by simp [h])
    rw [hs ha, ht hb0]
    by_cases h1 : a < 0 <;> by_cases h2 : b < 0
    · have := Int.mul_pos_of_neg_of_neg h1 h2
      simp [h1, h2]; omega
    · have := Int.mul_neg_of_neg_of_pos h1 (show 0 < b by omega)
      simp [h1, h2, this]
    · have := Int.mul_neg_of_pos_of_neg (show 0 < a by omega) h2
      simp [h1, h2, this]
    · have := Int.mul_pos (show 0 < a by omega) (show 0 < b by omega)
      simp [h1, h2]; omega

theorem sum_int {s t : Bool} {m n p q : Nat} {a b : Int} (hm : m = a.natAbs * 2 ^ p) (hs : a ≠ 0 → s = decide (a < 0)) (hn : n = b.natAbs * 2 ^ q) (ht : b ≠ 0 → t = decide (b < 0))
    (hb : (a + b).natAbs < 2 ^ 53) :
    ∃ d, (Datum.number s m (-(p : Int))).sum (.number t n (-(q : Int))) = some d ∧ IsI (double.write d) (a + b) := by
  have hbase : min (-(p : Int)) (-(q : Int)) = -((max p q : Nat) : Int) := by omega
  simp only [Datum.sum, hbase]
  have e1 : (-(p : Int) - -((max p q : Nat) : Int)).toNat = max p q - p := by omega
  have e2 : (-(q : Int) - -((max p q : Nat) : Int)).toNat = max p q - q := by omega
  rw [e1, e2, signed_eq s a m p _ hm hs, signed_eq t b n q _ hn ht]
  have e3 : p + (max p q - p) = max p q := by omega
  have e4 : q + (max p q - q) = max p q := by omega
  rw [e3, e4, ← Int.add_mul]
  refine ⟨_, rfl, ?_⟩
  rw [natAbs_scale]
  apply write_int _ _ _ hb
  intro h0
  have : ¬ ((a + b) * 2 ^ max p q = 0) := fun h => h0 ((scale_zero_iff _ _).1 h)
  rw [if_neg this]
  congr 1
  exact propext (scale_neg_iff _ _)

theorem add_int {x y : Nat} {a b : Int} (hx : IsI x a) (hy : IsI y b) (hb : (a + b).natAbs < 2 ^ 53) :
    ∃ r, floatBits .add .f64 x y = some r ∧ IsI r (a + b) := by
  obtain ⟨s, m, p, hr, hm, hs, _⟩ := hx
  obtain ⟨t, n, q, hr2, hn, ht, _⟩ := hy
  obtain ⟨d, hd, hi⟩ := sum_int hm hs hn ht hb
  refine ⟨_, ?_, hi⟩
  show double.add x y = _
  unfold Format.add
  rw [hr, hr2, hd]; rfl

theorem sub_int {x y : Nat} {a b : Int} (hx : IsI x a) (hy : IsI y b) (hb : (a - b).natAbs < 2 ^ 53) :
    ∃ r, floatBits .sub .f64 x y = some r ∧ IsI r (a - b) := by
  obtain ⟨s, m, p, hr, hm, hs, _⟩ := hx
  obtain ⟨t, n, q, hr2, hn, ht, _⟩ := hy
  have ht' : (-b) ≠ 0 → (!t) = decide (-b < 0) := by
    intro h
    rw [ht (by omega)]
    by_cases h1 : b < 0
    · simp [h1]; omega
    · simp [h1]; omega
  obtain ⟨d, hd, hi⟩ := sum_int (b := -b) hm hs (show n = (-b).natAbs * 2 ^ q by rw [hn, Int.natAbs_neg]) ht' (by rw [← Int.sub_eq_add_neg]; exact hb)
  refine ⟨_, ?_, by rw [Int.sub_eq_add_neg]; exact hi⟩
  show double.sub x y = _
  unfold Format.sub
  rw [hr, hr2]
  simp only [Datum.opposite]
  rw [hd]; rfl

theorem to_int {x : Nat} {a : Int} (hx : IsI x a) (h1 : -9223372036854775808 ≤ a) (h2 : a ≤ 9223372036854775807) : floatToIntVal .f64 x .i64 = some a := by
  obtain ⟨s, m, p, hr, hm, hs, _⟩ := hx
  unfold floatToIntVal FloatKind.decode
  rw [show FloatKind.f64.format = double from rfl, hr]
  have e : (Datum.number s m (-(p : Int))).toInt .zero = some a := by
    unfold Datum.toInt Datum.integral
    have e1 : (-(p : Int)).toNat = 0 := by omega
    have e2 : (-(-(p : Int))).toNat = p := by omega
    simp only [e1, e2, Nat.shiftLeft_zero]
    rw [hm, cut_exact, signed_eq s a a.natAbs 0 0 (by simp) hs]
    simp
  rw [e]
  simp only
  rw [if_pos]
  exact ⟨h1, h2⟩

theorem order_int {x y : Nat} {a b : Int} (hx : IsI x a) (hy : IsI y b) : double.order x y = some (compare a b) := by
  obtain ⟨s, m, p, hr, hm, hs, _⟩ := hx
  obtain ⟨t, n, q, hr2, hn, ht, _⟩ := hy
  unfold Format.order
  rw [hr, hr2]
  have hbase : min (-(p : Int)) (-(q : Int)) = -((max p q : Nat) : Int) := by omega
  simp only [Datum.order, hbase]
  have e1 : (-(p : Int) - -((max p q : Nat) : Int)).toNat = max p q - p := by omega
  have e2 : (-(q : Int) - -((max p q : Nat) : Int)).toNat = max p q - q := by omega
  rw [e1, e2, signed_eq s a m p _ hm hs, signed_eq t b n q _ hn ht]
  have e3 : p + (max p q - p) = max p q := by omega
  have e4 : q + (max p q - q) = max p q := by omega
  rw [e3, e4]
  have hp := scale_pos (max p q)
  congr 1
  rcases Int.lt_trichotomy a b with h | h | h
  · rw [show compare a b = .lt from Int.compare_eq_lt.2 h]
    exact Int.compare_eq_lt.2 (Int.mul_lt_mul_of_pos_right h hp)
  · subst h; simp
  · rw [show compare a b = .gt from Int.compare_eq_gt.2 h]
    exact Int.compare_eq_gt.2 (Int.mul_lt_mul_of_pos_right h hp)

/-- A complex number of whole parts. -/
def IsC (re im : Nat) (a b : Int) : Prop := IsI re a ∧ IsI im b

theorem zero_int : IsI 0 0 := by
  obtain ⟨k, hk⟩ : ∃ k : Nat, k = 1074 := ⟨_, rfl⟩
  exact ⟨false, 0, k, by rw [hk]; exact read_zero false, (Nat.zero_mul _).symm, fun h => absurd rfl h, by omega⟩
theorem one_int : IsI 4607182418800017408 1 := ⟨false, 4503599627370496, 52, by decide +kernel, by decide +kernel, fun _ => by decide, by omega⟩

theorem cmul {x y u v : Nat} {a b c d : Int} (h1 : IsC x y a b) (h2 : IsC u v c d) (hac : (a * c).natAbs < 2 ^ 53) (hbd : (b * d).natAbs < 2 ^ 53) (had : (a * d).natAbs < 2 ^ 53) (hbc : (b * c).natAbs < 2 ^ 53)
    (hre : (a * c - b * d).natAbs < 2 ^ 53) (him : (a * d + b * c).natAbs < 2 ^ 53) :
    ∃ re im, cMulBits x y u v = some (re, im) ∧ IsC re im (a * c - b * d) (a * d + b * c) := by
  obtain ⟨r1, e1, i1⟩ := mul_int h1.1 h2.1 hac
  obtain ⟨r2, e2, i2⟩ := mul_int h1.2 h2.2 hbd
  obtain ⟨r3, e3, i3⟩ := mul_int h1.1 h2.2 had
  obtain ⟨r4, e4, i4⟩ := mul_int h1.2 h2.1 hbc
  obtain ⟨r5, e5, i5⟩ := sub_int i1 i2 hre
  obtain ⟨r6, e6, i6⟩ := add_int i3 i4 him
  exact ⟨r5, r6, by simp [cMulBits, e1, e2, e3, e4, e5, e6], i5, i6⟩

theorem cadd {x y u v : Nat} {a b c d : Int} (h1 : IsC x y a b) (h2 : IsC u v c d) (hre : (a + c).natAbs < 2 ^ 53) (him : (b + d).natAbs < 2 ^ 53) :
    ∃ re im, cSumBits .add .f64 x y u v = some (re, im) ∧ IsC re im (a + c) (b + d) := by
  obtain ⟨r1, e1, i1⟩ := add_int h1.1 h2.1 hre
  obtain ⟨r2, e2, i2⟩ := add_int h1.2 h2.2 him
  exact ⟨r1, r2, by simp [cSumBits, e1, e2], i1, i2⟩

theorem csub {x y u v : Nat} {a b c d : Int} (h1 : IsC x y a b) (h2 : IsC u v c d) (hre : (a - c).natAbs < 2 ^ 53) (him : (b - d).natAbs < 2 ^ 53) :
    ∃ re im, cSumBits .sub .f64 x y u v = some (re, im) ∧ IsC re im (a - c) (b - d) := by
  obtain ⟨r1, e1, i1⟩ := sub_int h1.1 h2.1 hre
  obtain ⟨r2, e2, i2⟩ := sub_int h1.2 h2.2 him
  exact ⟨r1, r2, by simp [cSumBits, e1, e2], i1, i2⟩

end Go.Fl
