/-
  DERIVED. GIVEN WITH THE SEED: THE PROGRAM's TIES (one call each: nine closed facts by the kernel) AND EACH ROW's TIE, after the 31st guide's Derived/Test/Toyas{Tie, Card}.lean. No idea stands in it: it is a product of the set-up. Laid BY PROGRAM, IN A SANDBOX (cutbox-door.mjs). By AI agents, Wed Nov 11 2026. No macro, syntax, notation, axiom, sorry.
-/
import Derived.Test.YtkplhlciocbecaaDoorRows
import Derived.LaidByTextLater
import Derived.SevenTiedAt
import Derived.LaidSub
import Derived.LaidOnce
namespace Go.Proofs.YtkplhlciocbecaaDoor
open Go
set_option maxRecDepth 100000
theorem seatTie1 : Tryd.prog.laidByTextLater [("augur/api.ErrLarge", Rows.laid_augur_api_ErrLarge), ("augur/api.ErrData", Rows.laid_augur_api_ErrData), ("augur/api.ErrBytes", Rows.laid_augur_api_ErrBytes)] [.sentinel, .sentinel, .sentinel] true :=
  Program.laidByTextLater_by_one 66 8 2 (by kernel_rfl) (by kernel_rfl) (by kernel_rfl) (by kernel_rfl) (by kernel_rfl) (by kernel_rfl) (fun _ _ => by kernel_rfl)
theorem noOwnUnsafe : Tryd.pinned.checked.prog.headLifts.contains "ownunsafe" = false := by kernel_rfl
theorem tie : Tryd.prog.laidByTextLater [("augur/api.ErrLarge", Rows.laid_augur_api_ErrLarge), ("augur/api.ErrData", Rows.laid_augur_api_ErrData)] [.sentinel, .sentinel] true :=
  Program.laidByTextLater.sub seatTie1 ["augur/api.ErrLarge", "augur/api.ErrData"] (by kernel_rfl) (by kernel_rfl)
theorem dataSizes_row_tie : Rows.dataSizesRow.laidByTextAt .later Tryd.pinned [.sentinel, .sentinel] true :=
  OpenClaim.laidByTextAt_later rfl rfl tie noOwnUnsafe
theorem dataOrders_row_tie : Rows.dataOrdersRow.laidByTextAt .later Tryd.pinned [.sentinel, .sentinel] true :=
  OpenClaim.laidByTextAt_later rfl rfl tie noOwnUnsafe
theorem tie2 : Tryd.prog.laidByTextLater [("augur/api.ErrLarge", Rows.laid_augur_api_ErrLarge), ("augur/api.ErrData", Rows.laid_augur_api_ErrData), ("augur/api.ErrBytes", Rows.laid_augur_api_ErrBytes)] [.sentinel, .sentinel, .sentinel] true :=
  Program.laidByTextLater.sub seatTie1 ["augur/api.ErrLarge", "augur/api.ErrData", "augur/api.ErrBytes"] (by kernel_rfl) (by kernel_rfl)
theorem dataDecodes_row_tie : Rows.dataDecodesRow.laidByTextAt .later Tryd.pinned [.sentinel, .sentinel, .sentinel] true :=
  OpenClaim.laidByTextAt_later rfl rfl tie2 noOwnUnsafe
theorem dataSlips_row_tie : Rows.dataSlipsRow.laidByTextAt .later Tryd.pinned [.sentinel, .sentinel, .sentinel] true :=
  OpenClaim.laidByTextAt_later rfl rfl tie2 noOwnUnsafe
theorem dataSizesUpto_row_tie : Rows.dataSizesUptoRow.laidByTextAt .later Tryd.pinned [.sentinel, .sentinel] true :=
  OpenClaim.laidByTextAt_later rfl rfl tie noOwnUnsafe
theorem dataOrdersUpto_row_tie : Rows.dataOrdersUptoRow.laidByTextAt .later Tryd.pinned [.sentinel, .sentinel] true :=
  OpenClaim.laidByTextAt_later rfl rfl tie noOwnUnsafe
theorem dataDecodesUpto_row_tie : Rows.dataDecodesUptoRow.laidByTextAt .later Tryd.pinned [.sentinel, .sentinel, .sentinel] true :=
  OpenClaim.laidByTextAt_later rfl rfl tie2 noOwnUnsafe
theorem dataSlipsUpto_row_tie : Rows.dataSlipsUptoRow.laidByTextAt .later Tryd.pinned [.sentinel, .sentinel, .sentinel] true :=
  OpenClaim.laidByTextAt_later rfl rfl tie2 noOwnUnsafe
end Go.Proofs.YtkplhlciocbecaaDoor
