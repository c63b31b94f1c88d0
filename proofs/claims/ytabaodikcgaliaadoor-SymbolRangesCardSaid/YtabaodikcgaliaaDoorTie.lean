/-
  DERIVED. GIVEN WITH THE SEED: THE PROGRAM's TIES (one call each: nine closed facts by the kernel) AND EACH ROW's TIE, after the 31st guide's Derived/Test/Toyas{Tie, Card}.lean. No idea stands in it: it is a product of the set-up. Laid BY PROGRAM, IN A SANDBOX (cutbox-door.mjs). By AI agents, Wed Nov 11 2026. No macro, syntax, notation, axiom, sorry.
-/
import Derived.Test.YtabaodikcgaliaaDoorRows
import Derived.LaidByTextLater
import Derived.SevenTiedAt
import Derived.LaidSub
import Derived.LaidOnce
namespace Go.Proofs.YtabaodikcgaliaaDoor
open Go
set_option maxRecDepth 100000
theorem seatTie1 : Tryd.prog.laidByTextLater [("footlocker/symbol.lengths", Rows.laid_footlocker_symbol_lengths), ("footlocker/symbol.lengthBits", Rows.laid_footlocker_symbol_lengthBits), ("footlocker/symbol.dists", Rows.laid_footlocker_symbol_dists), ("footlocker/symbol.distBits", Rows.laid_footlocker_symbol_distBits), ("footlocker/symbol.order", Rows.laid_footlocker_symbol_order)] [.widerDeep, .data, .widerDeep, .data, .widerDeep] true :=
  Program.laidByTextLater_by_one 34 8 31 (by kernel_rfl) (by kernel_rfl) (by kernel_rfl) (by kernel_rfl) (by kernel_rfl) (by kernel_rfl) (fun _ _ => by kernel_rfl)
theorem noOwnUnsafe : Tryd.pinned.checked.prog.headLifts.contains "ownunsafe" = false := by kernel_rfl
theorem tie : Tryd.prog.laidByTextLater [("footlocker/symbol.lengths", Rows.laid_footlocker_symbol_lengths), ("footlocker/symbol.lengthBits", Rows.laid_footlocker_symbol_lengthBits), ("footlocker/symbol.dists", Rows.laid_footlocker_symbol_dists), ("footlocker/symbol.distBits", Rows.laid_footlocker_symbol_distBits), ("footlocker/symbol.order", Rows.laid_footlocker_symbol_order)] [.widerDeep, .data, .widerDeep, .data, .widerDeep] true :=
  Program.laidByTextLater.sub seatTie1 ["footlocker/symbol.lengths", "footlocker/symbol.lengthBits", "footlocker/symbol.dists", "footlocker/symbol.distBits", "footlocker/symbol.order"] (by kernel_rfl) (by kernel_rfl)
theorem symbolNames_row_tie : Rows.symbolNamesRow.laidByTextAt .later Tryd.pinned [.widerDeep, .data, .widerDeep, .data, .widerDeep] true :=
  OpenClaim.laidByTextAt_later rfl rfl tie noOwnUnsafe
theorem symbolBack_row_tie : Rows.symbolBackRow.laidByTextAt .later Tryd.pinned [.widerDeep, .data, .widerDeep, .data, .widerDeep] true :=
  OpenClaim.laidByTextAt_later rfl rfl tie noOwnUnsafe
theorem symbolRanges_row_tie : Rows.symbolRangesRow.laidByTextAt .later Tryd.pinned [.widerDeep, .data, .widerDeep, .data, .widerDeep] true :=
  OpenClaim.laidByTextAt_later rfl rfl tie noOwnUnsafe
theorem symbolNamesUpto_row_tie : Rows.symbolNamesUptoRow.laidByTextAt .later Tryd.pinned [.widerDeep, .data, .widerDeep, .data, .widerDeep] true :=
  OpenClaim.laidByTextAt_later rfl rfl tie noOwnUnsafe
theorem symbolBackUpto_row_tie : Rows.symbolBackUptoRow.laidByTextAt .later Tryd.pinned [.widerDeep, .data, .widerDeep, .data, .widerDeep] true :=
  OpenClaim.laidByTextAt_later rfl rfl tie noOwnUnsafe
theorem symbolRangesUpto_row_tie : Rows.symbolRangesUptoRow.laidByTextAt .later Tryd.pinned [.widerDeep, .data, .widerDeep, .data, .widerDeep] true :=
  OpenClaim.laidByTextAt_later rfl rfl tie noOwnUnsafe
end Go.Proofs.YtabaodikcgaliaaDoor
