/-
  NARROWER THAN 'FOR EVERY INPUT', by the rows' own cells (each row's printed sentence says how): CertifyFailures: laid · CertifyFormulas: laid · CertifyErrors: laid.
  DERIVED. THE GIVEN ROWS OF THIS SEAT. 3 by the template 'for every input the law returns true; each argument reads behind the call as it read before'; 0 by the template 'total and deterministic' (their statements: YtedkppfghdipdaaGreatDoorTotals.lean).
  GIVEN WITH THE SEED: the statements are not yours to turn. If you find one false, say at which input.
  Laid BY PROGRAM, IN A SANDBOX (cutbox-rows.mjs): the forced cells as the released guide's own fill.sh prints them over the translation 2b398e037addf593… (all of the seat's roots in one cut). By AI agents, Wed Nov 11 2026. No macro, syntax, notation, axiom, sorry.
-/
import Derived.Test.YtedkppfghdipdaaGreatDoorChecked
import GoSem.Claim
import GoSem.ClaimJoined
import GoSem.ClaimMapViews
import Derived.JoinedTies
import Derived.KernelRfl
namespace Go.Proofs.YtedkppfghdipdaaGreatDoor
/- THE CELL 'sum', in the pinned program and in every row, IS THE sha256 OF THE DUMP (.gsa) THAT YtedkppfghdipdaaGreatDoorProg.lean LOADS. Nothing in Lean hashes anything: it is a label: what it is worth is what the hold of that sum in a sandbox is worth. -/
noncomputable def Tryz.pinned : Pinned := { name := "ytedkppfghdipdaagreatdoor", sum := "2b398e037addf593036a5157e86abe59826d076b18d61e2c1f922ce8e66b0022", checked := Tryz.checked }
namespace Rows
def none {H : Type} : Left H := { results := [], args := [] }

/- WHAT THE LISTED PACKAGE-LEVEL VARIABLES READ AS WHEN THE CALL BEGINS. Each datum BY PROGRAM (the guide's laid-datum.mjs) off the statement by which the dump's own 'gosem.cut.vars' lays the variable. In a bare row this is a premise. The card (YtedkppfghdipdaaGreatDoorCards.lean) ties it to the program's text. -/
def laid_simproof_certify_others {H : Type} : DataW H := .slice [.lit (.int .i64 3), .lit (.int .i64 4), .lit (.int .i64 5)] []

/-- 'simprooflaw27.CertifyFailures': WHATEVER THE INPUT: true; the input reads as it did. -/
def certifyFailuresSpec : ChangeSpec := { name := "certifyFailures", fn := fun _ => fun
  | [d1, d2, d3, d4] => { results := [.lit (.bool true)], args := [d1, d2, d3, d4] }
  | _ => none }
def certifyFailuresRow : OpenClaim := { program := "ytedkppfghdipdaagreatdoor", sum := "2b398e037addf593036a5157e86abe59826d076b18d61e2c1f922ce8e66b0022", func := "simproof/simprooflaw27.CertifyFailures", spec := "certifyFailures", unfollowed := true, recurses := true, named := ["simproof/certify.others"], plainKeys := false, apart := false, laid := [("simproof/certify.others", laid_simproof_certify_others)] }
def CertifyFailuresSaid : Prop := certifyFailuresRow.holds Tryz.pinned (OpenSpec.ofChange certifyFailuresSpec)

/-- ITS FALSE NEIGHBOUR: 'it returns false'. Refute it at one input. -/
def certifyFailuresWrong : ChangeSpec := { name := "certifyFailures", fn := fun _ => fun
  | [d1, d2, d3, d4] => { results := [.lit (.bool false)], args := [d1, d2, d3, d4] }
  | _ => none }
def CertifyFailuresWrongFalsely : Prop := certifyFailuresRow.holds Tryz.pinned (OpenSpec.ofChange certifyFailuresWrong)

/-- 'simprooflaw27.CertifyFormulas': WHATEVER THE INPUT: true; the input reads as it did. -/
def certifyFormulasSpec : ChangeSpec := { name := "certifyFormulas", fn := fun _ => fun
  | [d1, d2, d3, d4] => { results := [.lit (.bool true)], args := [d1, d2, d3, d4] }
  | _ => none }
def certifyFormulasRow : OpenClaim := { program := "ytedkppfghdipdaagreatdoor", sum := "2b398e037addf593036a5157e86abe59826d076b18d61e2c1f922ce8e66b0022", func := "simproof/simprooflaw27.CertifyFormulas", spec := "certifyFormulas", unfollowed := true, recurses := true, named := ["simproof/certify.others"], plainKeys := false, apart := false, laid := [("simproof/certify.others", laid_simproof_certify_others)] }
def CertifyFormulasSaid : Prop := certifyFormulasRow.holds Tryz.pinned (OpenSpec.ofChange certifyFormulasSpec)

/-- ITS FALSE NEIGHBOUR: 'it returns false'. Refute it at one input. -/
def certifyFormulasWrong : ChangeSpec := { name := "certifyFormulas", fn := fun _ => fun
  | [d1, d2, d3, d4] => { results := [.lit (.bool false)], args := [d1, d2, d3, d4] }
  | _ => none }
def CertifyFormulasWrongFalsely : Prop := certifyFormulasRow.holds Tryz.pinned (OpenSpec.ofChange certifyFormulasWrong)

/-- 'simprooflaw27.CertifyErrors': WHATEVER THE INPUT: true; the input reads as it did. -/
def certifyErrorsSpec : ChangeSpec := { name := "certifyErrors", fn := fun _ => fun
  | [d1, d2, d3, d4, d5] => { results := [.lit (.bool true)], args := [d1, d2, d3, d4, d5] }
  | _ => none }
def certifyErrorsRow : OpenClaim := { program := "ytedkppfghdipdaagreatdoor", sum := "2b398e037addf593036a5157e86abe59826d076b18d61e2c1f922ce8e66b0022", func := "simproof/simprooflaw27.CertifyErrors", spec := "certifyErrors", unfollowed := true, recurses := true, named := ["simproof/certify.others"], plainKeys := false, apart := false, laid := [("simproof/certify.others", laid_simproof_certify_others)] }
def CertifyErrorsSaid : Prop := certifyErrorsRow.holds Tryz.pinned (OpenSpec.ofChange certifyErrorsSpec)

/-- ITS FALSE NEIGHBOUR: 'it returns false'. Refute it at one input. -/
def certifyErrorsWrong : ChangeSpec := { name := "certifyErrors", fn := fun _ => fun
  | [d1, d2, d3, d4, d5] => { results := [.lit (.bool false)], args := [d1, d2, d3, d4, d5] }
  | _ => none }
def CertifyErrorsWrongFalsely : Prop := certifyErrorsRow.holds Tryz.pinned (OpenSpec.ofChange certifyErrorsWrong)

/- THE SECOND FORM. 'bulk': how many values and letters a reading holds, each counted each time it is reached (what is shared counts as often as it is met; a slice's spare places count too). A statement '..UptoSaid' is the law's where the arguments, and the package variables that the reading takes, are together of bulk at most 1048576: NARROWER than '..Said'. Prove '..Said' where nothing that the law and all that it calls make is longer than what came in: it says more and counts as full. Else prove '..UptoSaid'. A law counts once. -/
mutual
def uptoBulk {H : Type} : DataW H → Nat
  | .lit (.string bytes) => bytes.length + 1
  | .lit _ => 1
  | .nil => 1
  | .ptr d => uptoBulk d + 1
  | .slice elems spare => uptoBulkAll elems + uptoBulkAll spare + 1
  | .agg parts => uptoBulkAll parts + 1
  | .iface _ d => uptoBulk d + 1
  | .map entries => uptoBulkEntries entries + 1
  | .held _ => 1
def uptoBulkAll {H : Type} : List (DataW H) → Nat
  | [] => 0
  | d :: r => uptoBulk d + uptoBulkAll r
def uptoBulkEntries {H : Type} : List (Lit × DataW H) → Nat
  | [] => 0
  | x :: r => uptoBulkEntry x + uptoBulkEntries r
def uptoBulkEntry {H : Type} : Lit × DataW H → Nat
  | (.string bytes, d) => bytes.length + uptoBulk d + 1
  | (_, d) => uptoBulk d + 1
 end
def uptoSmall : (H : Type) → List (DataW H) → Bool := fun _ ds => decide (uptoBulkAll ds ≤ 1048576)
def OpenSpec.upto (s : _root_.Go.ChangeSpec) : _root_.Go.OpenSpec := { _root_.Go.OpenSpec.ofChange s with cond := some uptoSmall }

/-- 'simprooflaw27.CertifyFailures', WHERE WHAT IT READS IS OF BULK AT MOST 1048576: true; the input reads as it did. -/
def certifyFailuresUptoRow : OpenClaim := { program := "ytedkppfghdipdaagreatdoor", sum := "2b398e037addf593036a5157e86abe59826d076b18d61e2c1f922ce8e66b0022", func := "simproof/simprooflaw27.CertifyFailures", spec := "certifyFailures", unfollowed := true, recurses := true, named := ["simproof/certify.others"], plainKeys := false, apart := false, laid := [("simproof/certify.others", laid_simproof_certify_others)], narrowed := true }
def CertifyFailuresUptoSaid : Prop := certifyFailuresUptoRow.holds Tryz.pinned (OpenSpec.upto certifyFailuresSpec)

/-- 'simprooflaw27.CertifyFormulas', WHERE WHAT IT READS IS OF BULK AT MOST 1048576: true; the input reads as it did. -/
def certifyFormulasUptoRow : OpenClaim := { program := "ytedkppfghdipdaagreatdoor", sum := "2b398e037addf593036a5157e86abe59826d076b18d61e2c1f922ce8e66b0022", func := "simproof/simprooflaw27.CertifyFormulas", spec := "certifyFormulas", unfollowed := true, recurses := true, named := ["simproof/certify.others"], plainKeys := false, apart := false, laid := [("simproof/certify.others", laid_simproof_certify_others)], narrowed := true }
def CertifyFormulasUptoSaid : Prop := certifyFormulasUptoRow.holds Tryz.pinned (OpenSpec.upto certifyFormulasSpec)

/-- 'simprooflaw27.CertifyErrors', WHERE WHAT IT READS IS OF BULK AT MOST 1048576: true; the input reads as it did. -/
def certifyErrorsUptoRow : OpenClaim := { program := "ytedkppfghdipdaagreatdoor", sum := "2b398e037addf593036a5157e86abe59826d076b18d61e2c1f922ce8e66b0022", func := "simproof/simprooflaw27.CertifyErrors", spec := "certifyErrors", unfollowed := true, recurses := true, named := ["simproof/certify.others"], plainKeys := false, apart := false, laid := [("simproof/certify.others", laid_simproof_certify_others)], narrowed := true }
def CertifyErrorsUptoSaid : Prop := certifyErrorsUptoRow.holds Tryz.pinned (OpenSpec.upto certifyErrorsSpec)

end Rows
end Go.Proofs.YtedkppfghdipdaaGreatDoor
