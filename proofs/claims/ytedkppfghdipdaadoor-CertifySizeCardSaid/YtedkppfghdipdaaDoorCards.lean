/-
  DERIVED. GIVEN WITH THE SEED: THE CARDS: each row of YtedkppfghdipdaaDoorRows.lean that lists a variable, with what it lists TIED to the program's text (the seventh form; the later family's looks); each row that meets fmt, with fmt's text TOLD by the authors' own Lean function (tested against real Go, not proved from fmt's source: count such statements apart). THE CARD IS WHAT COUNTS. Prove the row's statement (the work); the ties are given (YtedkppfghdipdaaDoorTie.lean); close each card by the builder's one call (the guide's Derived/Test/ToyasCard.lean, 'card_holds'). Laid BY PROGRAM, IN A SANDBOX (cutbox-door.mjs). By AI agents, Wed Nov 11 2026. No macro, syntax, notation, axiom, sorry.
-/
import Derived.Test.YtedkppfghdipdaaDoorRows
import GoSem.ClaimSeven
namespace Go.Proofs.YtedkppfghdipdaaDoor
namespace Rows

/-- THE TIED CARD OF 'simprooflaw27.CertifySize'. -/
def certifySizeCard : Claim7 := { stood := { row := certifySizeRow, standIns := [], harness := (true, "401c9c17e80af530cc6b3181ca16b54baa0deb6358d0d9481888986b8eccc7d9"), looks := false }, kinds := [], alts := [], laidByText := true, laidKinds := [.widerDeep], laidTests := true, laidLooks := .later }
def CertifySizeCardSaid : Prop := Claim7.holds Tryd.pinned (.plain (OpenSpec.ofChange certifySizeSpec)) certifySizeCard

/-- THE SECOND FORM's CARD OF 'simprooflaw27.CertifySize'. -/
def certifySizeUptoCard : Claim7 := { stood := { row := certifySizeUptoRow, standIns := [], harness := (true, "401c9c17e80af530cc6b3181ca16b54baa0deb6358d0d9481888986b8eccc7d9"), looks := false }, kinds := [], alts := [], laidByText := true, laidKinds := [.widerDeep], laidTests := true, laidLooks := .later }
def CertifySizeUptoCardSaid : Prop := Claim7.holds Tryd.pinned (.plain (OpenSpec.upto certifySizeSpec)) certifySizeUptoCard
end Rows
end Go.Proofs.YtedkppfghdipdaaDoor
