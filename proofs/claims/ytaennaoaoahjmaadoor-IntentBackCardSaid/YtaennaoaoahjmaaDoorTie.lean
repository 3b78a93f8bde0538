/-
  DERIVED. GIVEN WITH THE SEED: THE PROGRAM's TIES (one call each: nine closed facts by the kernel) AND EACH ROW's TIE, after the 31st guide's Derived/Test/Toyas{Tie, Card}.lean. No idea stands in it: it is a product of the set-up. Laid BY PROGRAM, IN A SANDBOX (cutbox-door.mjs). By AI agents, Wed Nov 11 2026. No macro, syntax, notation, axiom, sorry.
-/
import Derived.Test.YtaennaoaoahjmaaDoorRows
import Derived.LaidByTextLater
import Derived.SevenTiedAt
import Derived.LaidSub
import Derived.LaidOnce
namespace Go.Proofs.YtaennaoaoahjmaaDoor
open Go
set_option maxRecDepth 100000
theorem seatTie1 : Tryd.prog.laidByTextLater [("cofferdam/cofferdamref05.first", Rows.laid_cofferdam_cofferdamref05_first), ("cofferdam/cofferdamref05.round", Rows.laid_cofferdam_cofferdamref05_round), ("cofferdam/sha.first", Rows.laid_cofferdam_sha_first), ("cofferdam/sha.round", Rows.laid_cofferdam_sha_round)] [.data, .data, .data, .data] true :=
  Program.laidByTextLater_by_one 29 8 65 (by kernel_rfl) (by kernel_rfl) (by kernel_rfl) (by kernel_rfl) (by kernel_rfl) (by kernel_rfl) (fun _ _ => by kernel_rfl)
theorem noOwnUnsafe : Tryd.pinned.checked.prog.headLifts.contains "ownunsafe" = false := by kernel_rfl
theorem tie : Tryd.prog.laidByTextLater [("cofferdam/cofferdamref05.first", Rows.laid_cofferdam_cofferdamref05_first), ("cofferdam/cofferdamref05.round", Rows.laid_cofferdam_cofferdamref05_round), ("cofferdam/sha.first", Rows.laid_cofferdam_sha_first), ("cofferdam/sha.round", Rows.laid_cofferdam_sha_round)] [.data, .data, .data, .data] true :=
  Program.laidByTextLater.sub seatTie1 ["cofferdam/cofferdamref05.first", "cofferdam/cofferdamref05.round", "cofferdam/sha.first", "cofferdam/sha.round"] (by kernel_rfl) (by kernel_rfl)
theorem intentGets_row_tie : Rows.intentGetsRow.laidByTextAt .later Tryd.pinned [.data, .data, .data, .data] true :=
  OpenClaim.laidByTextAt_later rfl rfl tie noOwnUnsafe
theorem intentPuts_row_tie : Rows.intentPutsRow.laidByTextAt .later Tryd.pinned [.data, .data, .data, .data] true :=
  OpenClaim.laidByTextAt_later rfl rfl tie noOwnUnsafe
theorem superGets_row_tie : Rows.superGetsRow.laidByTextAt .later Tryd.pinned [.data, .data, .data, .data] true :=
  OpenClaim.laidByTextAt_later rfl rfl tie noOwnUnsafe
theorem tie2 : Tryd.prog.laidByTextLater [("cofferdam/sha.first", Rows.laid_cofferdam_sha_first), ("cofferdam/sha.round", Rows.laid_cofferdam_sha_round)] [.data, .data] true :=
  Program.laidByTextLater.sub seatTie1 ["cofferdam/sha.first", "cofferdam/sha.round"] (by kernel_rfl) (by kernel_rfl)
theorem intentBack_row_tie : Rows.intentBackRow.laidByTextAt .later Tryd.pinned [.data, .data] true :=
  OpenClaim.laidByTextAt_later rfl rfl tie2 noOwnUnsafe
theorem intentLimits_row_tie : Rows.intentLimitsRow.laidByTextAt .later Tryd.pinned [.data, .data] true :=
  OpenClaim.laidByTextAt_later rfl rfl tie2 noOwnUnsafe
theorem intentGetsUpto_row_tie : Rows.intentGetsUptoRow.laidByTextAt .later Tryd.pinned [.data, .data, .data, .data] true :=
  OpenClaim.laidByTextAt_later rfl rfl tie noOwnUnsafe
theorem intentBackUpto_row_tie : Rows.intentBackUptoRow.laidByTextAt .later Tryd.pinned [.data, .data] true :=
  OpenClaim.laidByTextAt_later rfl rfl tie2 noOwnUnsafe
theorem intentLimitsUpto_row_tie : Rows.intentLimitsUptoRow.laidByTextAt .later Tryd.pinned [.data, .data] true :=
  OpenClaim.laidByTextAt_later rfl rfl tie2 noOwnUnsafe
theorem intentPutsUpto_row_tie : Rows.intentPutsUptoRow.laidByTextAt .later Tryd.pinned [.data, .data, .data, .data] true :=
  OpenClaim.laidByTextAt_later rfl rfl tie noOwnUnsafe
theorem superGetsUpto_row_tie : Rows.superGetsUptoRow.laidByTextAt .later Tryd.pinned [.data, .data, .data, .data] true :=
  OpenClaim.laidByTextAt_later rfl rfl tie noOwnUnsafe
end Go.Proofs.YtaennaoaoahjmaaDoor
