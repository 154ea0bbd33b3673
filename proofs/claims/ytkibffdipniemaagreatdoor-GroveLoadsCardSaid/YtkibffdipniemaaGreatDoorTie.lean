/-
  DERIVED. GIVEN WITH THE SEED: THE PROGRAM's TIES (one call each: nine closed facts by the kernel) AND EACH ROW's TIE, after the 31st guide's Derived/Test/Toyas{Tie, Card}.lean. No idea stands in it: it is a product of the set-up. Laid BY PROGRAM, IN A SANDBOX (cutbox-door.mjs). By AI agents, Wed Nov 11 2026. No macro, syntax, notation, axiom, sorry.
-/
import Derived.Test.YtkibffdipniemaaGreatDoorRows
import Derived.LaidByTextLater
import Derived.SevenTiedAt
import Derived.LaidSub
import Derived.LaidOnce
namespace Go.Proofs.YtkibffdipniemaaGreatDoor
open Go
set_option maxRecDepth 100000
theorem seatTie1 : Tryz.prog.laidByTextLater [("sphragis/sphragisref02.table", Rows.laid_sphragis_sphragisref02_table), ("sphragis/sha.first", Rows.laid_sphragis_sha_first), ("sphragis/sha.constants", Rows.laid_sphragis_sha_constants)] [.data, .data, .data] true :=
  Program.laidByTextLater_by_one 24 8 65 (by kernel_rfl) (by kernel_rfl) (by kernel_rfl) (by kernel_rfl) (by kernel_rfl) (by kernel_rfl) (fun _ _ => by kernel_rfl)
theorem noOwnUnsafe : Tryz.pinned.checked.prog.headLifts.contains "ownunsafe" = false := by kernel_rfl
theorem tie : Tryz.prog.laidByTextLater [("sphragis/sphragisref02.table", Rows.laid_sphragis_sphragisref02_table), ("sphragis/sha.first", Rows.laid_sphragis_sha_first), ("sphragis/sha.constants", Rows.laid_sphragis_sha_constants)] [.data, .data, .data] true :=
  Program.laidByTextLater.sub seatTie1 ["sphragis/sphragisref02.table", "sphragis/sha.first", "sphragis/sha.constants"] (by kernel_rfl) (by kernel_rfl)
theorem groveOdd_row_tie : Rows.groveOddRow.laidByTextAt .later Tryz.pinned [.data, .data, .data] true :=
  OpenClaim.laidByTextAt_later rfl rfl tie noOwnUnsafe
theorem groveSaves_row_tie : Rows.groveSavesRow.laidByTextAt .later Tryz.pinned [.data, .data, .data] true :=
  OpenClaim.laidByTextAt_later rfl rfl tie noOwnUnsafe
theorem groveLoads_row_tie : Rows.groveLoadsRow.laidByTextAt .later Tryz.pinned [.data, .data, .data] true :=
  OpenClaim.laidByTextAt_later rfl rfl tie noOwnUnsafe
theorem tie2 : Tryz.prog.laidByTextLater [("sphragis/sha.first", Rows.laid_sphragis_sha_first), ("sphragis/sha.constants", Rows.laid_sphragis_sha_constants)] [.data, .data] true :=
  Program.laidByTextLater.sub seatTie1 ["sphragis/sha.first", "sphragis/sha.constants"] (by kernel_rfl) (by kernel_rfl)
theorem groveBack_row_tie : Rows.groveBackRow.laidByTextAt .later Tryz.pinned [.data, .data] true :=
  OpenClaim.laidByTextAt_later rfl rfl tie2 noOwnUnsafe
theorem groveAgain_row_tie : Rows.groveAgainRow.laidByTextAt .later Tryz.pinned [.data, .data] true :=
  OpenClaim.laidByTextAt_later rfl rfl tie2 noOwnUnsafe
theorem groveNone_row_tie : Rows.groveNoneRow.laidByTextAt .later Tryz.pinned [.data, .data] true :=
  OpenClaim.laidByTextAt_later rfl rfl tie2 noOwnUnsafe
theorem groveFull_row_tie : Rows.groveFullRow.laidByTextAt .later Tryz.pinned [.data, .data] true :=
  OpenClaim.laidByTextAt_later rfl rfl tie2 noOwnUnsafe
theorem groveFew_row_tie : Rows.groveFewRow.laidByTextAt .later Tryz.pinned [.data, .data] true :=
  OpenClaim.laidByTextAt_later rfl rfl tie2 noOwnUnsafe
theorem groveOddUpto_row_tie : Rows.groveOddUptoRow.laidByTextAt .later Tryz.pinned [.data, .data, .data] true :=
  OpenClaim.laidByTextAt_later rfl rfl tie noOwnUnsafe
theorem groveBackUpto_row_tie : Rows.groveBackUptoRow.laidByTextAt .later Tryz.pinned [.data, .data] true :=
  OpenClaim.laidByTextAt_later rfl rfl tie2 noOwnUnsafe
theorem groveAgainUpto_row_tie : Rows.groveAgainUptoRow.laidByTextAt .later Tryz.pinned [.data, .data] true :=
  OpenClaim.laidByTextAt_later rfl rfl tie2 noOwnUnsafe
theorem groveNoneUpto_row_tie : Rows.groveNoneUptoRow.laidByTextAt .later Tryz.pinned [.data, .data] true :=
  OpenClaim.laidByTextAt_later rfl rfl tie2 noOwnUnsafe
theorem groveFullUpto_row_tie : Rows.groveFullUptoRow.laidByTextAt .later Tryz.pinned [.data, .data] true :=
  OpenClaim.laidByTextAt_later rfl rfl tie2 noOwnUnsafe
theorem groveFewUpto_row_tie : Rows.groveFewUptoRow.laidByTextAt .later Tryz.pinned [.data, .data] true :=
  OpenClaim.laidByTextAt_later rfl rfl tie2 noOwnUnsafe
theorem groveSavesUpto_row_tie : Rows.groveSavesUptoRow.laidByTextAt .later Tryz.pinned [.data, .data, .data] true :=
  OpenClaim.laidByTextAt_later rfl rfl tie noOwnUnsafe
theorem groveLoadsUpto_row_tie : Rows.groveLoadsUptoRow.laidByTextAt .later Tryz.pinned [.data, .data, .data] true :=
  OpenClaim.laidByTextAt_later rfl rfl tie noOwnUnsafe
end Go.Proofs.YtkibffdipniemaaGreatDoor
