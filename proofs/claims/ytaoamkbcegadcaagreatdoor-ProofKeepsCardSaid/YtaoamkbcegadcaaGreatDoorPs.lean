/- Texts joined: XShelfLen XPs. -/
import Derived.Shelf.Strconv.Itoa0
import Derived.Test.YtaoamkbcegadcaaGreatDoorProg
import Derived.Test.YtaoamkbcegadcaaGreatDoorAa
import Derived.WalkKit
import Derived.WalkSpells
import Derived.WalkLawsBesides
import Derived.Lib.MinMax
set_option maxRecDepth 4000
/- The library's contract of math/bits.Len64 at this translation (written by the kit's shelf in its plain mode). -/
namespace Go.Proofs
open Go.Shelf
def Tryz.lays129_ren : Go.Shelf.Ren := ⟨fun | 129 => 74 | n => n, fun | 53 => 118 | 3 => 3 | 4 => 4 | 46 => 116 | 5 => 5 | 9 => 9 | n => n, fun | n => n⟩
theorem Tryz.lays129 : Go.Proofs.Lays.n129 Tryz.prog Tryz.lays129_ren := {
  mixed := by kernel_rfl
  f129 := Tryz.func74.trans (congrArg some (by kernel_rfl))
  t3 := Tryz.underlying3
  a3 := Tryz.isAgg3
  z3 := Tryz.sizeOf3
  v3 := Tryz.zeroValue3
  t4 := Tryz.underlying4
  a4 := Tryz.isAgg4
  z4 := Tryz.sizeOf4
  v4 := Tryz.zeroValue4
  t5 := Tryz.underlying5
  a5 := Tryz.isAgg5
  z5 := Tryz.sizeOf5
  v5 := Tryz.zeroValue5
  t9 := Tryz.underlying9
  a9 := Tryz.isAgg9
  z9 := Tryz.sizeOf9
  v9 := Tryz.zeroValue9
  t46 := Tryz.underlying116
  a46 := Tryz.isAgg116
  z46 := Tryz.sizeOf116
  v46 := Tryz.zeroValue116
  t53 := Tryz.underlying118
  a53 := Tryz.isAgg118
  z53 := Tryz.sizeOf118
  v53 := Tryz.zeroValue118 }
theorem Tryz.bits_Len64 (x : Int) (w : World) (h0 : 0 ≤ x) (h1 : x ≤ 18446744073709551615) :
    Calls Tryz.prog 74 #[.int .u64 x] w fun e w' => e = .returned (.int .i64 (Lib.bitLen x.toNat)) ∧ w' = w := Any.bits_Len64 Tryz.lays129 x w h0 h1
end Go.Proofs
/- Layer 18: sizes, and pool.Size. -/
namespace Go.Proofs.YtaoamkbcegadcaaGreatDoor
open Go.RowKit Go.Bx
attribute [local go_sem ↓] Go.wp_at_zero Go.wp_at_succ
set_option linter.unusedVariables false

/-! ### plain: sizes -/
def szk (n : Int) : Nat := max 4 (min (Lib.bitLen (n - 1).toNat) 40)
def sz (n : Int) : Int := if n ≤ 0 then 0 else ((2 ^ szk n : Nat) : Int)

theorem szk_bd (n : Int) : 4 ≤ szk n ∧ szk n ≤ 40 := by unfold szk; omega
theorem sz_bd (n : Int) : 0 ≤ sz n ∧ sz n ≤ 1099511627776 := by
  unfold sz
  split
  · omega
  · have := (szk_bd n).2
    have h : 2 ^ szk n ≤ 2 ^ 40 := Nat.pow_le_pow_right (by decide) this
    generalize 2 ^ szk n = k at *
    omega

theorem sz_pos (n : Int) (h : 0 < n) : sz n = wrap64 (2 ^ (max 4 (min (Lib.bitLen (n - 1).toNat : Int) 40)).toNat) := by
  have hb := sz_bd n
  have e : (max 4 (min (Lib.bitLen (n - 1).toNat : Int) 40)).toNat = szk n := by unfold szk; omega
  rw [e]
  have h2 : sz n = (2 : Int) ^ szk n := by unfold sz; rw [if_neg (by omega)]; exact Int.natCast_pow 2 _
  rw [← h2]
  unfold wrap64
  omega

def P1 (w : World) (a : Int) (e : Ending) (w' : World) : Prop := e = .returned (.int .i64 a) ∧ w = w'

set_option maxHeartbeats 400000 in
theorem psize_c (n : Int) (w : World) (h1 : -9223372036854775808 ≤ n) (h2 : n ≤ 9223372036854775807) :
    Calls Tryz.prog 53 #[.int .i64 n] w (P1 w (sz n)) := by
  by_cases hn : n ≤ 0
  · have e : sz n = 0 := by unfold sz; rw [if_pos hn]
    rw [e]; clear e
    go_enter Tryz.func53, Tryz.ntmps53
    go_wp2
    go_ret
    exact ⟨rfl, rfl⟩
  · have e := sz_pos n (by omega)
    have he : Hid (sz n = wrap64 (2 ^ (max 4 (min (Lib.bitLen (n - 1).toNat : Int) 40)).toNat)) := e
    clear e
    go_enter Tryz.func53, Tryz.ntmps53
    go_wp2_with fail
    refine (Tryz.bits_Len64 _ _ (by omega) (by omega)).mono ?_; rintro e w' ⟨rfl, rfl⟩
    go_wp2_with fail
    go_ret
    have e1 : (n - 1).toNat = n.toNat - 1 := by omega
    have he' := he.out
    rw [e1] at he'
    exact ⟨by rw [he']; rfl, rfl⟩

/-! ### Take, Give, New -/
/-! ### awake -/
end Go.Proofs.YtaoamkbcegadcaaGreatDoor
