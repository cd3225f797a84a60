/- Layer 18: sizes, and the contracts of package pool. -/
import Derived.Test.YtlcefgdiclpcjaaRows
import Derived.Test.YtlcefgdiclpcjaaShelfLen
import Derived.Test.YtlcefgdiclpcjaaBase
import Derived.WalkKit
import Derived.WalkSpells
import Derived.WalkLawsBesides
import Derived.Deep.QuietTactic
import Derived.BigQuiet
import Derived.Deep.RegionWith
import Derived.Deep.DrawnRows
namespace Go.Proofs.Ytlcefgdiclpcjaa
open Go.RowKit Go.Bx
attribute [local go_sem ↓] Go.wp_at_zero Go.wp_at_succ
set_option linter.unusedVariables false

/-! ### plain: sizes -/
def szk (n : Int) : Nat := max 4 (min (Lib.bitLen (n - 1).toNat) 40)
def sz (n : Int) : Int := if n ≤ 0 then 0 else ((2 ^ szk n : Nat) : Int)

theorem szk_bd (n : Int) : 4 ≤ szk n ∧ szk n ≤ 40 := by unfold szk; omega
theorem sz_bd (n : Int) : 0 ≤ sz n ∧ sz n ≤ 1099511627776 := by
  unfold sz
  split
  · omega
  · have := (szk_bd n).2
    have h : 2 ^ szk n ≤ 2 ^ 40 := Nat.pow_le_pow_right (by decide) this
    generalize 2 ^ szk n = k at *
    omega

theorem sz_pos (n : Int) (h : 0 < n) : sz n = wrap64 (2 ^ (max 4 (min (Lib.bitLen (n - 1).toNat : Int) 40)).toNat) := by
  have hb := sz_bd n
  have e : (max 4 (min (Lib.bitLen (n - 1).toNat : Int) 40)).toNat = szk n := by unfold szk; omega
  rw [e]
  have h2 : sz n = (2 : Int) ^ szk n := by unfold sz; rw [if_neg (by omega)]; exact Int.natCast_pow 2 _
  rw [← h2]
  unfold wrap64
  omega

def P1 (w : World) (a : Int) (e : Ending) (w' : World) : Prop := e = .returned (.int .i64 a) ∧ w = w'

set_option maxHeartbeats 400000 in
theorem psize_c (n : Int) (w : World) (h1 : -9223372036854775808 ≤ n) (h2 : n ≤ 9223372036854775807) :
    Calls Try.prog 26 #[.int .i64 n] w (P1 w (sz n)) := by
  by_cases hn : n ≤ 0
  · have e : sz n = 0 := by unfold sz; rw [if_pos hn]
    rw [e]; clear e
    go_enter Try.func26, Try.ntmps26
    go_wp2
    go_ret
    exact ⟨rfl, rfl⟩
  · have e := sz_pos n (by omega)
    have he : Hid (sz n = wrap64 (2 ^ (max 4 (min (Lib.bitLen (n - 1).toNat : Int) 40)).toNat)) := e
    clear e
    go_enter Try.func26, Try.ntmps26
    go_wp2_with fail
    refine (Try.bits_Len64 _ _ (by omega) (by omega)).mono ?_; rintro e w' ⟨rfl, rfl⟩
    go_wp2_with fail
    go_ret
    have e1 : (n - 1).toNat = n.toNat - 1 := by omega
    have he' := he.out
    rw [e1] at he'
    exact ⟨by rw [he']; rfl, rfl⟩

/-! ### Take, Give, New -/
def pv (r u p : Int) : Value := .agg #[.int .i64 r, .int .i64 u, .int .i64 p]
def IsPool (r u p : Int) : Prop := 0 ≤ u ∧ u ≤ p ∧ u ≤ r ∧ r ≤ 1099511627776 ∧ p ≤ 1099511627776

set_option maxHeartbeats 400000 in
theorem take_yes (r u p n : Int) (w : World) (hp : IsPool r u p) (h1 : -9223372036854775808 ≤ n) (h2 : n ≤ 9223372036854775807) (hs : u + sz n ≤ r) :
    Calls Try.prog 29 #[.agg #[.int .i64 r, .int .i64 u, .int .i64 p], .int .i64 n] w
      (PPost w (.tuple #[.agg #[.int .i64 r, .int .i64 (u + sz n), .int .i64 (max p (u + sz n))], .bool true])) := by
  have hb := sz_bd n
  unfold IsPool at hp
  go_enter Try.func29, Try.ntmps29
  go_wp2_with fail
  go_quiet ((go_at_call 26; exact Calls.quiet_of_same ((psize_c n _ h1 h2).mono fun _ _ h => ⟨h.1, h.2.symm⟩)))
  go_wp2_with fail
  refine bodyPost_ret (v := .tuple #[.agg #[.int .i64 r, .int .i64 (u + sz n), .int .i64 (max p (u + sz n))], .bool true]) (by simp [results, Try.results29, go_sem]) rfl ⟨rfl, ?_⟩
  (repeat' (first | (with_reducible exact Below.refl _ _) | (with_reducible refine below_drewN ?_ _) | (with_reducible refine Below.drew ?_) | (with_reducible refine Below.setCell ?_ ?_ _) | (with_reducible refine Below.alloc ?_ ?_ _) | (simp; done) | (simp; omega)))

set_option maxHeartbeats 400000 in
theorem take_no (r u p n : Int) (w : World) (hp : IsPool r u p) (h1 : -9223372036854775808 ≤ n) (h2 : n ≤ 9223372036854775807) (hs : r < u + sz n) :
    Calls Try.prog 29 #[.agg #[.int .i64 r, .int .i64 u, .int .i64 p], .int .i64 n] w
      (PPost w (.tuple #[.agg #[.int .i64 r, .int .i64 u, .int .i64 p], .bool false])) := by
  have hb := sz_bd n
  unfold IsPool at hp
  go_enter Try.func29, Try.ntmps29
  go_wp2_with fail
  go_quiet ((go_at_call 26; exact Calls.quiet_of_same ((psize_c n _ h1 h2).mono fun _ _ h => ⟨h.1, h.2.symm⟩)))
  go_wp2_with fail
  refine bodyPost_ret (v := .tuple #[.agg #[.int .i64 r, .int .i64 u, .int .i64 p], .bool false]) (by simp [results, Try.results29, go_sem]) rfl ⟨rfl, ?_⟩
  (repeat' (first | (with_reducible exact Below.refl _ _) | (with_reducible refine below_drewN ?_ _) | (with_reducible refine Below.drew ?_) | (with_reducible refine Below.setCell ?_ ?_ _) | (with_reducible refine Below.alloc ?_ ?_ _) | (simp; done) | (simp; omega)))

set_option maxHeartbeats 400000 in
theorem give_c (r u p n : Int) (w : World) (hp : IsPool r u p) (h1 : -9223372036854775808 ≤ n) (h2 : n ≤ 9223372036854775807) :
    Calls Try.prog 30 #[.agg #[.int .i64 r, .int .i64 u, .int .i64 p], .int .i64 n] w
      (PPost w (.agg #[.int .i64 r, .int .i64 (max 0 (u - sz n)), .int .i64 p])) := by
  have hb := sz_bd n
  unfold IsPool at hp
  go_enter Try.func30, Try.ntmps30
  go_wp2_with fail
  go_region_with ((go_at_call 26; refine (psize_c n _ h1 h2).mono ?_; rintro e w' ⟨rfl, rfl⟩))
  all_goals
    go_wp2_with fail
  all_goals
    refine bodyPost_ret (v := .agg #[.int .i64 r, .int .i64 (max 0 (u - sz n)), .int .i64 p]) (by simp [results, Try.results30, go_sem]) rfl ⟨rfl, ?_⟩
    (repeat' (first | (with_reducible exact Below.refl _ _) | (with_reducible refine below_drewN ?_ _) | (with_reducible refine Below.drew ?_) | (with_reducible refine Below.setCell ?_ ?_ _) | (with_reducible refine Below.alloc ?_ ?_ _) | (simp; done) | (simp; omega)))

theorem new_c (r : Int) (w : World) : Calls Try.prog 51 #[.int .i64 r] w (PPost w (.agg #[.int .i64 r, .int .i64 0, .int .i64 0])) := by
  go_enter Try.func51, Try.ntmps51
  go_wp2_with fail
  refine bodyPost_ret (v := .agg #[.int .i64 r, .int .i64 0, .int .i64 0]) (by simp [results, Try.results51, go_sem]) rfl ⟨rfl, ?_⟩
  (repeat' (first | (with_reducible exact Below.refl _ _) | (with_reducible refine below_drewN ?_ _) | (with_reducible refine Below.drew ?_) | (with_reducible refine Below.setCell ?_ ?_ _) | (with_reducible refine Below.alloc ?_ ?_ _) | (simp; done) | (simp; omega)))

def rightB (r u p : Int) : Bool := decide (0 ≤ u) && decide (u ≤ p) && decide (u ≤ r) && decide (r ≤ 1099511627776) && decide (p ≤ 1099511627776)
theorem rightB_iff (r u p : Int) : rightB r u p = true ↔ IsPool r u p := by simp [rightB, IsPool, and_assoc]

set_option maxHeartbeats 800000 in
theorem pright_c (r u p : Int) (w : World) : Calls Try.prog 28 #[.agg #[.int .i64 r, .int .i64 u, .int .i64 p]] w (PPost w (.bool (rightB r u p))) := by
  go_enter Try.func28, Try.ntmps28
  go_wp2_with fail
  all_goals
    go_ret
    refine ⟨ret_b ?_, ?_⟩
    · rw [Bool.eq_iff_iff, rightB_iff]; unfold IsPool; first | (simp; done) | (simp; omega) | omega
    · (repeat' (first | (with_reducible exact Below.refl _ _) | (with_reducible refine below_drewN ?_ _) | (with_reducible refine Below.drew ?_) | (with_reducible refine Below.setCell ?_ ?_ _) | (with_reducible refine Below.alloc ?_ ?_ _) | (simp; done) | (simp; omega)))

/-! ### plain: what sizes are -/
theorem lt_pow_aux : ∀ (f x : Nat), x < 2 ^ f → x < 2 ^ Lib.bitLenAux f x
  | 0, x, h => by simpa [Lib.bitLenAux] using h
  | f + 1, x, h => by
    simp only [Lib.bitLenAux]
    split
    · rename_i h0; subst h0; simp
    · have := lt_pow_aux f (x / 2) (by rw [Nat.pow_succ] at h; omega)
      rw [Nat.add_comm, Nat.pow_succ]; omega
theorem lt_pow_bitLen (x : Nat) (h : x < 2 ^ 64) : x < 2 ^ Lib.bitLen x := lt_pow_aux 64 x h
theorem bitLen_le (x k : Nat) (h : x < 2 ^ k) : Lib.bitLen x ≤ k := Lib.bitLenAux_le 64 x k h
theorem bitLen_mono {x y : Nat} (h : x ≤ y) (hy : y < 2 ^ 64) : Lib.bitLen x ≤ Lib.bitLen y :=
  bitLen_le x _ (Nat.lt_of_le_of_lt h (lt_pow_bitLen y hy))
theorem sz_mono {n m : Int} (h : n ≤ m) (hm : m ≤ 9223372036854775807) : sz n ≤ sz m := by
  have b1 := sz_bd m
  by_cases hn : n ≤ 0
  · have : sz n = 0 := by unfold sz; rw [if_pos hn]
    omega
  · unfold sz
    rw [if_neg hn, if_neg (by omega)]
    have := bitLen_mono (x := (n - 1).toNat) (y := (m - 1).toNat) (by omega) (by omega)
    have hk : szk n ≤ szk m := by unfold szk; omega
    have h2 : 2 ^ szk n ≤ 2 ^ szk m := Nat.pow_le_pow_right (by decide) hk
    exact_mod_cast h2
theorem sz_neg {n : Int} (h : n ≤ 0) : sz n = 0 := by unfold sz; rw [if_pos h]
theorem sz_ge {n : Int} (h : 1 ≤ n) (h2 : n ≤ 1099511627776) : n ≤ sz n ∧ (sz n = 16 ∨ sz n < 2 * n) := by
  have hx : (n - 1).toNat < 2 ^ 40 := by omega
  have h40 := bitLen_le _ _ hx
  have hlt := lt_pow_bitLen (n - 1).toNat (by omega)
  unfold sz
  rw [if_neg (by omega)]
  have hk : szk n = max 4 (Lib.bitLen (n - 1).toNat) := by unfold szk; omega
  rw [hk]
  generalize hb : Lib.bitLen (n - 1).toNat = b at *
  have h3 : 2 ^ b ≤ 2 ^ max 4 b := Nat.pow_le_pow_right (by decide) (by omega)
  refine ⟨?_, ?_⟩
  · generalize 2 ^ max 4 b = X at *; omega
  · by_cases h4 : b ≤ 4
    · left; rw [show max 4 b = 4 from by omega]; rfl
    · right
      rw [show max 4 b = b from by omega]
      have : ¬ (n - 1).toNat < 2 ^ (b - 1) := by
        intro hc
        have := bitLen_le _ _ hc
        omega
      have e : 2 ^ b = 2 ^ (b - 1) * 2 := by rw [← Nat.pow_succ]; congr 1; omega
      generalize 2 ^ (b - 1) = X at *
      rw [e]
      omega

/-! ### awake -/
theorem bcell {W w1 : World} (hb : Below W.heap.size W w1) : (∀ b o, b < W.heap.size → w1.cell? ⟨b, o, none⟩ = W.cell? ⟨b, o, none⟩) ∧ (∀ b o, b < W.heap.size → w1.frozen? ⟨b, o, none⟩ = W.frozen? ⟨b, o, none⟩) :=
  ⟨fun b o h => hb.cell (p := ⟨b, o, none⟩) h, fun b o h => hb.frozen (p := ⟨b, o, none⟩) h⟩

theorem sz1 : sz 1 = 16 := by decide +kernel
theorem sz17 : sz 17 = 32 := by decide +kernel

set_option maxHeartbeats 1600000 in
theorem awake18_c (w : World) : Calls Try.prog 27 #[] w (PPost w (.bool true)) := by
  go_enter Try.func27, Try.ntmps27
  go_wp2_with fail
  refine (new_c _ _).mono ?_; rintro e w1 ⟨rfl, hb1⟩
  go_wp2_with fail
  refine (show Calls _ _ _ _ (PPost w1 (.tuple #[.agg #[.int .i64 40, .int .i64 32, .int .i64 32], .bool true])) from take_yes _ _ _ _ _ (by unfold IsPool; omega) (by decide) (by decide) (by rw [sz17]; decide)).mono ?_; rintro e w2 ⟨rfl, hb2⟩
  go_wp2_with fail
  have hz1 := hb1.size
  have hz2 := hb2.size
  refine (show Calls _ _ _ _ (PPost _ (.tuple #[.agg #[.int .i64 40, .int .i64 32, .int .i64 32], .bool false])) from take_no _ _ _ _ _ (by unfold IsPool; omega) (by decide) (by decide) (by rw [sz1]; decide)).mono ?_; rintro e w3 ⟨rfl, hb3⟩
  obtain ⟨hc3, hf3⟩ := bcell hb3
  have hz3 : w2.heap.size < w3.heap.size := by have := hb3.size; simp at this; omega
  have c0 : w3.cell? ⟨w2.heap.size, 1, none⟩ = some (.int .i64 32) := by rw [hc3 _ _ (by simp)]; simp
  have c1 : w3.cell? ⟨w2.heap.size, 2, none⟩ = some (.int .i64 32) := by rw [hc3 _ _ (by simp)]; simp
  clear hc3 hf3
  go_wp2_with fail
  refine (show Calls _ _ _ _ (P1 _ 16) from psize_c _ _ (by decide) (by decide)).mono ?_; rintro e w4 ⟨rfl, rfl⟩
  go_wp2_with fail
  refine (show Calls _ _ _ _ (P1 _ 32) from psize_c _ _ (by decide) (by decide)).mono ?_; rintro e w4 ⟨rfl, rfl⟩
  go_wp2_with fail
  refine (show Calls _ _ _ _ (P1 _ 0) from psize_c _ _ (by decide) (by decide)).mono ?_; rintro e w4 ⟨rfl, rfl⟩
  go_wp2_with fail
  go_ret
  refine ⟨rfl, ?_⟩
  have t1 : Below w.heap.size w w2 := hb1.trans (hb2.mono (by omega))
  have t2 : Below w.heap.size w w3 := (t1.alloc (by omega) _).trans (hb3.mono (by simp; omega))
  exact t2.alloc (by omega) _

/-! ### Take as a function -/
def tkU (r u n : Int) : Int := if u + sz n ≤ r then u + sz n else u
def tkP (r u p n : Int) : Int := if u + sz n ≤ r then max p (u + sz n) else p
def tkB (r u n : Int) : Bool := decide (u + sz n ≤ r)
theorem tk_pool {r u p : Int} (n : Int) (h : IsPool r u p) : IsPool r (tkU r u n) (tkP r u p n) := by
  have := sz_bd n
  unfold IsPool tkU tkP at *
  split <;> omega
theorem take_c (r u p n : Int) (w : World) (hp : IsPool r u p) (h1 : -9223372036854775808 ≤ n) (h2 : n ≤ 9223372036854775807) :
    Calls Try.prog 29 #[.agg #[.int .i64 r, .int .i64 u, .int .i64 p], .int .i64 n] w
      (PPost w (.tuple #[.agg #[.int .i64 r, .int .i64 (tkU r u n), .int .i64 (tkP r u p n)], .bool (tkB r u n)])) := by
  by_cases h : u + sz n ≤ r
  · have := take_yes r u p n w hp h1 h2 h
    unfold tkU tkP tkB
    rw [if_pos h, if_pos h, decide_eq_true h]
    exact this
  · have := take_no r u p n w hp h1 h2 (by omega)
    unfold tkU tkP tkB
    rw [if_neg h, if_neg h, decide_eq_false h]
    exact this
end Go.Proofs.Ytlcefgdiclpcjaa
