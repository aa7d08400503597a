/-
  DERIVED. GIVEN WITH THE SEED: THE PROGRAM's TIES (one call each: nine closed facts by the kernel) AND EACH ROW's TIE, after the 31st guide's Derived/Test/Toyas{Tie, Card}.lean. No idea stands in it: it is a product of the set-up. Laid BY PROGRAM, IN A SANDBOX (cutbox-door.mjs). By AI agents, Wed Nov 11 2026. No macro, syntax, notation, axiom, sorry.
-/
import Derived.Test.YtgpgppjfjeiceaaDoorRows
import Derived.LaidByTextLater
import Derived.SevenTiedAt
import Derived.LaidSub
import Derived.LaidOnce
namespace Go.Proofs.YtgpgppjfjeiceaaDoor
open Go
set_option maxRecDepth 100000
theorem seatTie1 : Tryd.prog.laidByTextLater [("burin/kind.names", Rows.laid_burin_kind_names), ("burin/arith.signs", Rows.laid_burin_arith_signs), ("burin/mach.given", Rows.laid_burin_mach_given), ("burin/mach.kept", Rows.laid_burin_mach_kept), ("burin/mach.lost", Rows.laid_burin_mach_lost)] [.data, .data, .data, .data, .data] true :=
  Program.laidByTextLater_by_one 34 8 19 (by kernel_rfl) (by kernel_rfl) (by kernel_rfl) (by kernel_rfl) (by kernel_rfl) (by kernel_rfl) (fun _ _ => by kernel_rfl)
theorem noOwnUnsafe : Tryd.pinned.checked.prog.headLifts.contains "ownunsafe" = false := by kernel_rfl
theorem tie : Tryd.prog.laidByTextLater [("burin/kind.names", Rows.laid_burin_kind_names), ("burin/mach.given", Rows.laid_burin_mach_given), ("burin/mach.kept", Rows.laid_burin_mach_kept), ("burin/mach.lost", Rows.laid_burin_mach_lost)] [.data, .data, .data, .data] true :=
  Program.laidByTextLater.sub seatTie1 ["burin/kind.names", "burin/mach.given", "burin/mach.kept", "burin/mach.lost"] (by kernel_rfl) (by kernel_rfl)
theorem machHolds_row_tie : Rows.machHoldsRow.laidByTextAt .later Tryd.pinned [.data, .data, .data, .data] true :=
  OpenClaim.laidByTextAt_later rfl rfl tie noOwnUnsafe
theorem tie2 : Tryd.prog.laidByTextLater [("burin/kind.names", Rows.laid_burin_kind_names), ("burin/arith.signs", Rows.laid_burin_arith_signs)] [.data, .data] true :=
  Program.laidByTextLater.sub seatTie1 ["burin/kind.names", "burin/arith.signs"] (by kernel_rfl) (by kernel_rfl)
theorem foldLive_row_tie : Rows.foldLiveRow.laidByTextAt .later Tryd.pinned [.data, .data] true :=
  OpenClaim.laidByTextAt_later rfl rfl tie2 noOwnUnsafe
theorem foldShapes_row_tie : Rows.foldShapesRow.laidByTextAt .later Tryd.pinned [.data, .data] true :=
  OpenClaim.laidByTextAt_later rfl rfl tie2 noOwnUnsafe
theorem foldDead_row_tie : Rows.foldDeadRow.laidByTextAt .later Tryd.pinned [.data, .data] true :=
  OpenClaim.laidByTextAt_later rfl rfl tie2 noOwnUnsafe
theorem foldAgain_row_tie : Rows.foldAgainRow.laidByTextAt .later Tryd.pinned [.data, .data] true :=
  OpenClaim.laidByTextAt_later rfl rfl tie2 noOwnUnsafe
theorem foldReached_row_tie : Rows.foldReachedRow.laidByTextAt .later Tryd.pinned [.data, .data] true :=
  OpenClaim.laidByTextAt_later rfl rfl tie2 noOwnUnsafe
theorem foldIdle_row_tie : Rows.foldIdleRow.laidByTextAt .later Tryd.pinned [.data, .data] true :=
  OpenClaim.laidByTextAt_later rfl rfl tie2 noOwnUnsafe
theorem machHoldsUpto_row_tie : Rows.machHoldsUptoRow.laidByTextAt .later Tryd.pinned [.data, .data, .data, .data] true :=
  OpenClaim.laidByTextAt_later rfl rfl tie noOwnUnsafe
theorem foldLiveUpto_row_tie : Rows.foldLiveUptoRow.laidByTextAt .later Tryd.pinned [.data, .data] true :=
  OpenClaim.laidByTextAt_later rfl rfl tie2 noOwnUnsafe
theorem foldShapesUpto_row_tie : Rows.foldShapesUptoRow.laidByTextAt .later Tryd.pinned [.data, .data] true :=
  OpenClaim.laidByTextAt_later rfl rfl tie2 noOwnUnsafe
theorem foldDeadUpto_row_tie : Rows.foldDeadUptoRow.laidByTextAt .later Tryd.pinned [.data, .data] true :=
  OpenClaim.laidByTextAt_later rfl rfl tie2 noOwnUnsafe
theorem foldAgainUpto_row_tie : Rows.foldAgainUptoRow.laidByTextAt .later Tryd.pinned [.data, .data] true :=
  OpenClaim.laidByTextAt_later rfl rfl tie2 noOwnUnsafe
theorem foldReachedUpto_row_tie : Rows.foldReachedUptoRow.laidByTextAt .later Tryd.pinned [.data, .data] true :=
  OpenClaim.laidByTextAt_later rfl rfl tie2 noOwnUnsafe
theorem foldIdleUpto_row_tie : Rows.foldIdleUptoRow.laidByTextAt .later Tryd.pinned [.data, .data] true :=
  OpenClaim.laidByTextAt_later rfl rfl tie2 noOwnUnsafe
end Go.Proofs.YtgpgppjfjeiceaaDoor
