/-
  DERIVED. GIVEN WITH THE SEED: THE PROGRAM's TIES (one call each: nine closed facts by the kernel) AND EACH ROW's TIE, after the 31st guide's Derived/Test/Toyas{Tie, Card}.lean. No idea stands in it: it is a product of the set-up. Laid BY PROGRAM, IN A SANDBOX (cutbox-door.mjs). By AI agents, Wed Nov 11 2026. No macro, syntax, notation, axiom, sorry.
-/
import Derived.Test.YtgodhpampaleeaaGreatDoorRows
import Derived.LaidByTextLater
import Derived.SevenTiedAt
import Derived.LaidSub
import Derived.LaidOnce
namespace Go.Proofs.YtgodhpampaleeaaGreatDoor
open Go
set_option maxRecDepth 100000
theorem seatTie1 : Tryz.prog.laidByTextLater [("gouache/gouacheref12.least", Rows.laid_gouache_gouacheref12_least), ("gouache/gouacheref12.most", Rows.laid_gouache_gouacheref12_most), ("gouache/gouacheref12.params", Rows.laid_gouache_gouacheref12_params)] [.data, .data, .data] true :=
  Program.laidByTextLater_by_one 24 8 14 (by kernel_rfl) (by kernel_rfl) (by kernel_rfl) (by kernel_rfl) (by kernel_rfl) (by kernel_rfl) (fun _ _ => by kernel_rfl)
theorem noOwnUnsafe : Tryz.pinned.checked.prog.headLifts.contains "ownunsafe" = false := by kernel_rfl
theorem tie : Tryz.prog.laidByTextLater [("gouache/gouacheref12.least", Rows.laid_gouache_gouacheref12_least), ("gouache/gouacheref12.most", Rows.laid_gouache_gouacheref12_most), ("gouache/gouacheref12.params", Rows.laid_gouache_gouacheref12_params)] [.data, .data, .data] true :=
  Program.laidByTextLater.sub seatTie1 ["gouache/gouacheref12.least", "gouache/gouacheref12.most", "gouache/gouacheref12.params"] (by kernel_rfl) (by kernel_rfl)
theorem extentMeans_row_tie : Rows.extentMeansRow.laidByTextAt .later Tryz.pinned [.data, .data, .data] true :=
  OpenClaim.laidByTextAt_later rfl rfl tie noOwnUnsafe
theorem extentGroups_row_tie : Rows.extentGroupsRow.laidByTextAt .later Tryz.pinned [.data, .data, .data] true :=
  OpenClaim.laidByTextAt_later rfl rfl tie noOwnUnsafe
theorem extentMeansUpto_row_tie : Rows.extentMeansUptoRow.laidByTextAt .later Tryz.pinned [.data, .data, .data] true :=
  OpenClaim.laidByTextAt_later rfl rfl tie noOwnUnsafe
theorem extentGroupsUpto_row_tie : Rows.extentGroupsUptoRow.laidByTextAt .later Tryz.pinned [.data, .data, .data] true :=
  OpenClaim.laidByTextAt_later rfl rfl tie noOwnUnsafe
end Go.Proofs.YtgodhpampaleeaaGreatDoor
