/-
  DERIVED. GIVEN WITH THE SEED: THE PROGRAM's TIES (one call each: nine closed facts by the kernel) AND EACH ROW's TIE, after the 31st guide's Derived/Test/Toyas{Tie, Card}.lean. No idea stands in it: it is a product of the set-up. Laid BY PROGRAM, IN A SANDBOX (cutbox-door.mjs). By AI agents, Wed Nov 11 2026. No macro, syntax, notation, axiom, sorry.
-/
import Derived.Test.YtedkppfghdipdaaGreatDoorRows
import Derived.LaidByTextLater
import Derived.SevenTiedAt
import Derived.LaidSub
import Derived.LaidOnce
namespace Go.Proofs.YtedkppfghdipdaaGreatDoor
open Go
set_option maxRecDepth 100000
theorem seatTie1 : Tryz.prog.laidByTextLater [("simproof/certify.others", Rows.laid_simproof_certify_others)] [.widerDeep] true :=
  Program.laidByTextLater_by_one 14 8 4 (by kernel_rfl) (by kernel_rfl) (by kernel_rfl) (by kernel_rfl) (by kernel_rfl) (by kernel_rfl) (fun _ _ => by kernel_rfl)
theorem noOwnUnsafe : Tryz.pinned.checked.prog.headLifts.contains "ownunsafe" = false := by kernel_rfl
theorem tie : Tryz.prog.laidByTextLater [("simproof/certify.others", Rows.laid_simproof_certify_others)] [.widerDeep] true :=
  Program.laidByTextLater.sub seatTie1 ["simproof/certify.others"] (by kernel_rfl) (by kernel_rfl)
theorem certifyFailures_row_tie : Rows.certifyFailuresRow.laidByTextAt .later Tryz.pinned [.widerDeep] true :=
  OpenClaim.laidByTextAt_later rfl rfl tie noOwnUnsafe
theorem certifyFormulas_row_tie : Rows.certifyFormulasRow.laidByTextAt .later Tryz.pinned [.widerDeep] true :=
  OpenClaim.laidByTextAt_later rfl rfl tie noOwnUnsafe
theorem certifyErrors_row_tie : Rows.certifyErrorsRow.laidByTextAt .later Tryz.pinned [.widerDeep] true :=
  OpenClaim.laidByTextAt_later rfl rfl tie noOwnUnsafe
theorem certifyFailuresUpto_row_tie : Rows.certifyFailuresUptoRow.laidByTextAt .later Tryz.pinned [.widerDeep] true :=
  OpenClaim.laidByTextAt_later rfl rfl tie noOwnUnsafe
theorem certifyFormulasUpto_row_tie : Rows.certifyFormulasUptoRow.laidByTextAt .later Tryz.pinned [.widerDeep] true :=
  OpenClaim.laidByTextAt_later rfl rfl tie noOwnUnsafe
theorem certifyErrorsUpto_row_tie : Rows.certifyErrorsUptoRow.laidByTextAt .later Tryz.pinned [.widerDeep] true :=
  OpenClaim.laidByTextAt_later rfl rfl tie noOwnUnsafe
end Go.Proofs.YtedkppfghdipdaaGreatDoor
