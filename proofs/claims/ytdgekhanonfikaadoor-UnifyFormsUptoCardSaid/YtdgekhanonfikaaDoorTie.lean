/-
  DERIVED. GIVEN WITH THE SEED: THE PROGRAM's TIES (one call each: nine closed facts by the kernel) AND EACH ROW's TIE, after the 31st guide's Derived/Test/Toyas{Tie, Card}.lean. No idea stands in it: it is a product of the set-up. Laid BY PROGRAM, IN A SANDBOX (cutbox-door.mjs). By AI agents, Wed Nov 11 2026. No macro, syntax, notation, axiom, sorry.
-/
import Derived.Test.YtdgekhanonfikaaDoorRows
import Derived.LaidByTextLater
import Derived.SevenTiedAt
import Derived.LaidSub
import Derived.LaidOnce
namespace Go.Proofs.YtdgekhanonfikaaDoor
open Go
set_option maxRecDepth 100000
theorem seatTie1 : Tryd.prog.laidByTextLater [("math/bits.deBruijn32tab", Rows.laid_math_bits_deBruijn32tab), ("math/bits.deBruijn64tab", Rows.laid_math_bits_deBruijn64tab), ("internal/strconv.uint64pow10", Rows.laid_internal_strconv_uint64pow10), ("augur/api.ErrText", Rows.laid_augur_api_ErrText), ("augur/api.ErrSyntax", Rows.laid_augur_api_ErrSyntax), ("augur/api.ErrNest", Rows.laid_augur_api_ErrNest), ("augur/api.ErrLarge", Rows.laid_augur_api_ErrLarge), ("augur/api.ErrNames", Rows.laid_augur_api_ErrNames), ("augur/api.ErrTypes", Rows.laid_augur_api_ErrTypes), ("augur/api.ErrModes", Rows.laid_augur_api_ErrModes), ("augur/api.ErrDet", Rows.laid_augur_api_ErrDet), ("augur/api.ErrNone", Rows.laid_augur_api_ErrNone), ("augur/api.ErrData", Rows.laid_augur_api_ErrData), ("augur/api.ErrBytes", Rows.laid_augur_api_ErrBytes), ("augur/api.ErrCode", Rows.laid_augur_api_ErrCode), ("augur/api.ErrFuel", Rows.laid_augur_api_ErrFuel), ("augur/api.ErrHeap", Rows.laid_augur_api_ErrHeap), ("augur/api.ErrFrames", Rows.laid_augur_api_ErrFrames), ("augur/api.ErrState", Rows.laid_augur_api_ErrState)] [.data, .data, .data, .sentinel, .sentinel, .sentinel, .sentinel, .sentinel, .sentinel, .sentinel, .sentinel, .sentinel, .sentinel, .sentinel, .sentinel, .sentinel, .sentinel, .sentinel, .sentinel] true :=
  Program.laidByTextLater_by_one 328 8 65 (by kernel_rfl) (by kernel_rfl) (by kernel_rfl) (by kernel_rfl) (by kernel_rfl) (by kernel_rfl) (fun _ _ => by kernel_rfl)
theorem noOwnUnsafe : Tryd.pinned.checked.prog.headLifts.contains "ownunsafe" = false := by kernel_rfl
theorem tie : Tryd.prog.laidByTextLater [("augur/api.ErrText", Rows.laid_augur_api_ErrText), ("augur/api.ErrSyntax", Rows.laid_augur_api_ErrSyntax), ("augur/api.ErrNest", Rows.laid_augur_api_ErrNest), ("augur/api.ErrLarge", Rows.laid_augur_api_ErrLarge), ("augur/api.ErrNames", Rows.laid_augur_api_ErrNames), ("augur/api.ErrTypes", Rows.laid_augur_api_ErrTypes), ("augur/api.ErrModes", Rows.laid_augur_api_ErrModes), ("augur/api.ErrDet", Rows.laid_augur_api_ErrDet), ("augur/api.ErrNone", Rows.laid_augur_api_ErrNone), ("augur/api.ErrData", Rows.laid_augur_api_ErrData), ("augur/api.ErrBytes", Rows.laid_augur_api_ErrBytes), ("augur/api.ErrCode", Rows.laid_augur_api_ErrCode), ("augur/api.ErrFuel", Rows.laid_augur_api_ErrFuel), ("augur/api.ErrHeap", Rows.laid_augur_api_ErrHeap), ("augur/api.ErrFrames", Rows.laid_augur_api_ErrFrames), ("augur/api.ErrState", Rows.laid_augur_api_ErrState)] [.sentinel, .sentinel, .sentinel, .sentinel, .sentinel, .sentinel, .sentinel, .sentinel, .sentinel, .sentinel, .sentinel, .sentinel, .sentinel, .sentinel, .sentinel, .sentinel] true :=
  Program.laidByTextLater.sub seatTie1 ["augur/api.ErrText", "augur/api.ErrSyntax", "augur/api.ErrNest", "augur/api.ErrLarge", "augur/api.ErrNames", "augur/api.ErrTypes", "augur/api.ErrModes", "augur/api.ErrDet", "augur/api.ErrNone", "augur/api.ErrData", "augur/api.ErrBytes", "augur/api.ErrCode", "augur/api.ErrFuel", "augur/api.ErrHeap", "augur/api.ErrFrames", "augur/api.ErrState"] (by kernel_rfl) (by kernel_rfl)
theorem unifyPlays_row_tie : Rows.unifyPlaysRow.laidByTextAt .later Tryd.pinned [.sentinel, .sentinel, .sentinel, .sentinel, .sentinel, .sentinel, .sentinel, .sentinel, .sentinel, .sentinel, .sentinel, .sentinel, .sentinel, .sentinel, .sentinel, .sentinel] true :=
  OpenClaim.laidByTextAt_later rfl rfl tie noOwnUnsafe
theorem unifyMakes_row_tie : Rows.unifyMakesRow.laidByTextAt .later Tryd.pinned [.sentinel, .sentinel, .sentinel, .sentinel, .sentinel, .sentinel, .sentinel, .sentinel, .sentinel, .sentinel, .sentinel, .sentinel, .sentinel, .sentinel, .sentinel, .sentinel] true :=
  OpenClaim.laidByTextAt_later rfl rfl tie noOwnUnsafe
theorem unifyTurns_row_tie : Rows.unifyTurnsRow.laidByTextAt .later Tryd.pinned [.sentinel, .sentinel, .sentinel, .sentinel, .sentinel, .sentinel, .sentinel, .sentinel, .sentinel, .sentinel, .sentinel, .sentinel, .sentinel, .sentinel, .sentinel, .sentinel] true :=
  OpenClaim.laidByTextAt_later rfl rfl tie noOwnUnsafe
theorem tie2 : Tryd.prog.laidByTextLater [("augur/api.ErrLarge", Rows.laid_augur_api_ErrLarge), ("augur/api.ErrTypes", Rows.laid_augur_api_ErrTypes), ("augur/api.ErrState", Rows.laid_augur_api_ErrState)] [.sentinel, .sentinel, .sentinel] true :=
  Program.laidByTextLater.sub seatTie1 ["augur/api.ErrLarge", "augur/api.ErrTypes", "augur/api.ErrState"] (by kernel_rfl) (by kernel_rfl)
theorem unifySelf_row_tie : Rows.unifySelfRow.laidByTextAt .later Tryd.pinned [.sentinel, .sentinel, .sentinel] true :=
  OpenClaim.laidByTextAt_later rfl rfl tie2 noOwnUnsafe
theorem tie3 : Tryd.prog.laidByTextLater [("math/bits.deBruijn32tab", Rows.laid_math_bits_deBruijn32tab), ("math/bits.deBruijn64tab", Rows.laid_math_bits_deBruijn64tab), ("internal/strconv.uint64pow10", Rows.laid_internal_strconv_uint64pow10), ("augur/api.ErrLarge", Rows.laid_augur_api_ErrLarge), ("augur/api.ErrTypes", Rows.laid_augur_api_ErrTypes), ("augur/api.ErrState", Rows.laid_augur_api_ErrState)] [.data, .data, .data, .sentinel, .sentinel, .sentinel] true :=
  Program.laidByTextLater.sub seatTie1 ["math/bits.deBruijn32tab", "math/bits.deBruijn64tab", "internal/strconv.uint64pow10", "augur/api.ErrLarge", "augur/api.ErrTypes", "augur/api.ErrState"] (by kernel_rfl) (by kernel_rfl)
theorem unifyForms_row_tie : Rows.unifyFormsRow.laidByTextAt .later Tryd.pinned [.data, .data, .data, .sentinel, .sentinel, .sentinel] true :=
  OpenClaim.laidByTextAt_later rfl rfl tie3 noOwnUnsafe
theorem unifyPlaysUpto_row_tie : Rows.unifyPlaysUptoRow.laidByTextAt .later Tryd.pinned [.sentinel, .sentinel, .sentinel, .sentinel, .sentinel, .sentinel, .sentinel, .sentinel, .sentinel, .sentinel, .sentinel, .sentinel, .sentinel, .sentinel, .sentinel, .sentinel] true :=
  OpenClaim.laidByTextAt_later rfl rfl tie noOwnUnsafe
theorem unifyMakesUpto_row_tie : Rows.unifyMakesUptoRow.laidByTextAt .later Tryd.pinned [.sentinel, .sentinel, .sentinel, .sentinel, .sentinel, .sentinel, .sentinel, .sentinel, .sentinel, .sentinel, .sentinel, .sentinel, .sentinel, .sentinel, .sentinel, .sentinel] true :=
  OpenClaim.laidByTextAt_later rfl rfl tie noOwnUnsafe
theorem unifySelfUpto_row_tie : Rows.unifySelfUptoRow.laidByTextAt .later Tryd.pinned [.sentinel, .sentinel, .sentinel] true :=
  OpenClaim.laidByTextAt_later rfl rfl tie2 noOwnUnsafe
theorem unifyTurnsUpto_row_tie : Rows.unifyTurnsUptoRow.laidByTextAt .later Tryd.pinned [.sentinel, .sentinel, .sentinel, .sentinel, .sentinel, .sentinel, .sentinel, .sentinel, .sentinel, .sentinel, .sentinel, .sentinel, .sentinel, .sentinel, .sentinel, .sentinel] true :=
  OpenClaim.laidByTextAt_later rfl rfl tie noOwnUnsafe
theorem unifyFormsUpto_row_tie : Rows.unifyFormsUptoRow.laidByTextAt .later Tryd.pinned [.data, .data, .data, .sentinel, .sentinel, .sentinel] true :=
  OpenClaim.laidByTextAt_later rfl rfl tie3 noOwnUnsafe
end Go.Proofs.YtdgekhanonfikaaDoor
