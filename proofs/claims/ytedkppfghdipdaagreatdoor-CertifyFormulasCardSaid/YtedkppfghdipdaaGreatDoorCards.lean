/-
  DERIVED. GIVEN WITH THE SEED: THE CARDS: each row of YtedkppfghdipdaaGreatDoorRows.lean that lists a variable, with what it lists TIED to the program's text (the seventh form; the later family's looks); each row that meets fmt, with fmt's text TOLD by the authors' own Lean function (tested against real Go, not proved from fmt's source: count such statements apart). THE CARD IS WHAT COUNTS. Prove the row's statement (the work); the ties are given (YtedkppfghdipdaaGreatDoorTie.lean); close each card by the builder's one call (the guide's Derived/Test/ToyasCard.lean, 'card_holds'). Laid BY PROGRAM, IN A SANDBOX (cutbox-door.mjs). By AI agents, Wed Nov 11 2026. No macro, syntax, notation, axiom, sorry.
-/
import Derived.Test.YtedkppfghdipdaaGreatDoorRows
import GoSem.ClaimSeven
namespace Go.Proofs.YtedkppfghdipdaaGreatDoor
namespace Rows

/-- THE TIED CARD OF 'simprooflaw27.CertifyFailures'. -/
def certifyFailuresCard : Claim7 := { stood := { row := certifyFailuresRow, standIns := [], harness := (true, "f562bd5e5ab9f97d49b3444d1f44035a2f26ae46313ffa33f9fca5564dc90ebe"), looks := false }, kinds := [], alts := [], laidByText := true, laidKinds := [.widerDeep], laidTests := true, laidLooks := .later }
def CertifyFailuresCardSaid : Prop := Claim7.holds Tryz.pinned (.plain (OpenSpec.ofChange certifyFailuresSpec)) certifyFailuresCard

/-- THE TIED CARD OF 'simprooflaw27.CertifyFormulas'. -/
def certifyFormulasCard : Claim7 := { stood := { row := certifyFormulasRow, standIns := [], harness := (true, "f562bd5e5ab9f97d49b3444d1f44035a2f26ae46313ffa33f9fca5564dc90ebe"), looks := false }, kinds := [], alts := [], laidByText := true, laidKinds := [.widerDeep], laidTests := true, laidLooks := .later }
def CertifyFormulasCardSaid : Prop := Claim7.holds Tryz.pinned (.plain (OpenSpec.ofChange certifyFormulasSpec)) certifyFormulasCard

/-- THE TIED CARD OF 'simprooflaw27.CertifyErrors'. -/
def certifyErrorsCard : Claim7 := { stood := { row := certifyErrorsRow, standIns := [], harness := (true, "f562bd5e5ab9f97d49b3444d1f44035a2f26ae46313ffa33f9fca5564dc90ebe"), looks := false }, kinds := [], alts := [], laidByText := true, laidKinds := [.widerDeep], laidTests := true, laidLooks := .later }
def CertifyErrorsCardSaid : Prop := Claim7.holds Tryz.pinned (.plain (OpenSpec.ofChange certifyErrorsSpec)) certifyErrorsCard

/-- THE SECOND FORM's CARD OF 'simprooflaw27.CertifyFailures'. -/
def certifyFailuresUptoCard : Claim7 := { stood := { row := certifyFailuresUptoRow, standIns := [], harness := (true, "f562bd5e5ab9f97d49b3444d1f44035a2f26ae46313ffa33f9fca5564dc90ebe"), looks := false }, kinds := [], alts := [], laidByText := true, laidKinds := [.widerDeep], laidTests := true, laidLooks := .later }
def CertifyFailuresUptoCardSaid : Prop := Claim7.holds Tryz.pinned (.plain (OpenSpec.upto certifyFailuresSpec)) certifyFailuresUptoCard

/-- THE SECOND FORM's CARD OF 'simprooflaw27.CertifyFormulas'. -/
def certifyFormulasUptoCard : Claim7 := { stood := { row := certifyFormulasUptoRow, standIns := [], harness := (true, "f562bd5e5ab9f97d49b3444d1f44035a2f26ae46313ffa33f9fca5564dc90ebe"), looks := false }, kinds := [], alts := [], laidByText := true, laidKinds := [.widerDeep], laidTests := true, laidLooks := .later }
def CertifyFormulasUptoCardSaid : Prop := Claim7.holds Tryz.pinned (.plain (OpenSpec.upto certifyFormulasSpec)) certifyFormulasUptoCard

/-- THE SECOND FORM's CARD OF 'simprooflaw27.CertifyErrors'. -/
def certifyErrorsUptoCard : Claim7 := { stood := { row := certifyErrorsUptoRow, standIns := [], harness := (true, "f562bd5e5ab9f97d49b3444d1f44035a2f26ae46313ffa33f9fca5564dc90ebe"), looks := false }, kinds := [], alts := [], laidByText := true, laidKinds := [.widerDeep], laidTests := true, laidLooks := .later }
def CertifyErrorsUptoCardSaid : Prop := Claim7.holds Tryz.pinned (.plain (OpenSpec.upto certifyErrorsSpec)) certifyErrorsUptoCard
end Rows
end Go.Proofs.YtedkppfghdipdaaGreatDoor
