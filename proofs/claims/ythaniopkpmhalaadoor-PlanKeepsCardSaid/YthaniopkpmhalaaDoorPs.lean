/- Texts joined: XShelfLen XPs. -/
import Derived.Shelf.Strconv.Itoa0
import Derived.Test.YthaniopkpmhalaaDoorProg
import Derived.Test.YthaniopkpmhalaaDoorAa
import Derived.WalkKit
import Derived.WalkSpells
import Derived.WalkLawsBesides
import Derived.Lib.MinMax
set_option maxRecDepth 4000
/- The library's contract of math/bits.Len64 at this translation (written by the kit's shelf in its plain mode). -/
namespace Go.Proofs
open Go.Shelf
def Tryd.lays129_ren : Go.Shelf.Ren := ⟨fun | 129 => 64 | n => n, fun | 53 => 110 | 3 => 3 | 4 => 4 | 46 => 108 | 5 => 5 | 9 => 9 | n => n, fun | n => n⟩
theorem Tryd.lays129 : Go.Proofs.Lays.n129 Tryd.prog Tryd.lays129_ren := {
  mixed := by kernel_rfl
  f129 := Tryd.func64.trans (congrArg some (by kernel_rfl))
  t3 := Tryd.underlying3
  a3 := Tryd.isAgg3
  z3 := Tryd.sizeOf3
  v3 := Tryd.zeroValue3
  t4 := Tryd.underlying4
  a4 := Tryd.isAgg4
  z4 := Tryd.sizeOf4
  v4 := Tryd.zeroValue4
  t5 := Tryd.underlying5
  a5 := Tryd.isAgg5
  z5 := Tryd.sizeOf5
  v5 := Tryd.zeroValue5
  t9 := Tryd.underlying9
  a9 := Tryd.isAgg9
  z9 := Tryd.sizeOf9
  v9 := Tryd.zeroValue9
  t46 := Tryd.underlying108
  a46 := Tryd.isAgg108
  z46 := Tryd.sizeOf108
  v46 := Tryd.zeroValue108
  t53 := Tryd.underlying110
  a53 := Tryd.isAgg110
  z53 := Tryd.sizeOf110
  v53 := Tryd.zeroValue110 }
theorem Tryd.bits_Len64 (x : Int) (w : World) (h0 : 0 ≤ x) (h1 : x ≤ 18446744073709551615) :
    Calls Tryd.prog 64 #[.int .u64 x] w fun e w' => e = .returned (.int .i64 (Lib.bitLen x.toNat)) ∧ w' = w := Any.bits_Len64 Tryd.lays129 x w h0 h1
end Go.Proofs
/- Layer 18: sizes, and pool.Size. -/
namespace Go.Proofs.YthaniopkpmhalaaDoor
open Go.RowKit Go.Bx
attribute [local go_sem ↓] Go.wp_at_zero Go.wp_at_succ
set_option linter.unusedVariables false

/-! ### plain: sizes -/
def szk (n : Int) : Nat := max 4 (min (Lib.bitLen (n - 1).toNat) 40)
def sz (n : Int) : Int := if n ≤ 0 then 0 else ((2 ^ szk n : Nat) : Int)

theorem szk_bd (n : Int) : 4 ≤ szk n ∧ szk n ≤ 40 := by unfold szk; omega
theorem sz_bd (n : Int) : 0 ≤ sz n ∧ sz n ≤ 1099511627776 := by
  unfold sz
  split
  · omega
  · have := (szk_bd n).2
    have h : 2 ^ szk n ≤ 2 ^ 40 := Nat.pow_le_pow_right (by decide) this
    generalize 2 ^ szk n = k at *
    omega

theorem sz_pos (n : Int) (h : 0 < n) : sz n = wrap64 (2 ^ (max 4 (min (Lib.bitLen (n - 1).toNat : Int) 40)).toNat) := by
  have hb := sz_bd n
  have e : (max 4 (min (Lib.bitLen (n - 1).toNat : Int) 40)).toNat = szk n := by unfold szk; omega
  rw [e]
  have h2 : sz n = (2 : Int) ^ szk n := by unfold sz; rw [if_neg (by omega)]; exact Int.natCast_pow 2 _
  rw [← h2]
  unfold wrap64
  omega

def P1 (w : World) (a : Int) (e : Ending) (w' : World) : Prop := e = .returned (.int .i64 a) ∧ w = w'

set_option maxHeartbeats 400000 in
theorem psize_c (n : Int) (w : World) (h1 : -9223372036854775808 ≤ n) (h2 : n ≤ 9223372036854775807) :
    Calls Tryd.prog 44 #[.int .i64 n] w (P1 w (sz n)) := by
  by_cases hn : n ≤ 0
  · have e : sz n = 0 := by unfold sz; rw [if_pos hn]
    rw [e]; clear e
    go_enter Tryd.func44, Tryd.ntmps44
    go_wp2
    go_ret
    exact ⟨rfl, rfl⟩
  · have e := sz_pos n (by omega)
    have he : Hid (sz n = wrap64 (2 ^ (max 4 (min (Lib.bitLen (n - 1).toNat : Int) 40)).toNat)) := e
    clear e
    go_enter Tryd.func44, Tryd.ntmps44
    go_wp2_with fail
    refine (Tryd.bits_Len64 _ _ (by omega) (by omega)).mono ?_; rintro e w' ⟨rfl, rfl⟩
    go_wp2_with fail
    go_ret
    have e1 : (n - 1).toNat = n.toNat - 1 := by omega
    have he' := he.out
    rw [e1] at he'
    exact ⟨by rw [he']; rfl, rfl⟩

/-! ### Take, Give, New -/
theorem lt_pow_aux : ∀ (f x : Nat), x < 2 ^ f → x < 2 ^ Lib.bitLenAux f x
  | 0, x, h => by simpa [Lib.bitLenAux] using h
  | f + 1, x, h => by
    simp only [Lib.bitLenAux]
    split
    · rename_i h0; subst h0; simp
    · have := lt_pow_aux f (x / 2) (by rw [Nat.pow_succ] at h; omega)
      rw [Nat.add_comm, Nat.pow_succ]; omega
theorem lt_pow_bitLen (x : Nat) (h : x < 2 ^ 64) : x < 2 ^ Lib.bitLen x := lt_pow_aux 64 x h
theorem bitLen_le (x k : Nat) (h : x < 2 ^ k) : Lib.bitLen x ≤ k := Lib.bitLenAux_le 64 x k h
theorem bitLen_mono {x y : Nat} (h : x ≤ y) (hy : y < 2 ^ 64) : Lib.bitLen x ≤ Lib.bitLen y :=
  bitLen_le x _ (Nat.lt_of_le_of_lt h (lt_pow_bitLen y hy))
theorem sz_mono {n m : Int} (h : n ≤ m) (hm : m ≤ 9223372036854775807) : sz n ≤ sz m := by
  have b1 := sz_bd m
  by_cases hn : n ≤ 0
  · have : sz n = 0 := by unfold sz; rw [if_pos hn]
    omega
  · unfold sz
    rw [if_neg hn, if_neg (by omega)]
    have := bitLen_mono (x := (n - 1).toNat) (y := (m - 1).toNat) (by omega) (by omega)
    have hk : szk n ≤ szk m := by unfold szk; omega
    have h2 : 2 ^ szk n ≤ 2 ^ szk m := Nat.pow_le_pow_right (by decide) hk
    exact_mod_cast h2
theorem sz_neg {n : Int} (h : n ≤ 0) : sz n = 0 := by unfold sz; rw [if_pos h]
theorem sz_ge {n : Int} (h : 1 ≤ n) (h2 : n ≤ 1099511627776) : n ≤ sz n ∧ (sz n = 16 ∨ sz n < 2 * n) := by
  have hx : (n - 1).toNat < 2 ^ 40 := by omega
  have h40 := bitLen_le _ _ hx
  have hlt := lt_pow_bitLen (n - 1).toNat (by omega)
  unfold sz
  rw [if_neg (by omega)]
  have hk : szk n = max 4 (Lib.bitLen (n - 1).toNat) := by unfold szk; omega
  rw [hk]
  generalize hb : Lib.bitLen (n - 1).toNat = b at *
  have h3 : 2 ^ b ≤ 2 ^ max 4 b := Nat.pow_le_pow_right (by decide) (by omega)
  refine ⟨?_, ?_⟩
  · generalize 2 ^ max 4 b = X at *; omega
  · by_cases h4 : b ≤ 4
    · left; rw [show max 4 b = 4 from by omega]; rfl
    · right
      rw [show max 4 b = b from by omega]
      have : ¬ (n - 1).toNat < 2 ^ (b - 1) := by
        intro hc
        have := bitLen_le _ _ hc
        omega
      have e : 2 ^ b = 2 ^ (b - 1) * 2 := by rw [← Nat.pow_succ]; congr 1; omega
      generalize 2 ^ (b - 1) = X at *
      rw [e]
      omega

/-! ### awake -/
end Go.Proofs.YthaniopkpmhalaaDoor
