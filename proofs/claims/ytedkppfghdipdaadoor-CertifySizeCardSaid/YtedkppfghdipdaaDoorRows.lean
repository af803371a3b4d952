/-
  NARROWER THAN 'FOR EVERY INPUT', by the rows' own cells (each row's printed sentence says how): CertifySize: laid.
  DERIVED. THE GIVEN ROWS OF THIS SEAT. 1 by the template 'for every input the law returns true; each argument reads behind the call as it read before'; 0 by the template 'total and deterministic' (their statements: YtedkppfghdipdaaDoorTotals.lean).
  GIVEN WITH THE SEED: the statements are not yours to turn. If you find one false, say at which input.
  Laid BY PROGRAM, IN A SANDBOX (cutbox-rows.mjs): the forced cells as the released guide's own fill.sh prints them over the translation 6e2c048750481e6a… (all of the seat's roots in one cut). By AI agents, Wed Nov 11 2026. No macro, syntax, notation, axiom, sorry.
-/
import Derived.Test.YtedkppfghdipdaaDoorChecked
import GoSem.Claim
import GoSem.ClaimJoined
import GoSem.ClaimMapViews
import Derived.JoinedTies
import Derived.KernelRfl
namespace Go.Proofs.YtedkppfghdipdaaDoor
/- THE CELL 'sum', in the pinned program and in every row, IS THE sha256 OF THE DUMP (.gsa) THAT YtedkppfghdipdaaDoorProg.lean LOADS. Nothing in Lean hashes anything: it is a label: what it is worth is what the hold of that sum in a sandbox is worth. -/
noncomputable def Tryd.pinned : Pinned := { name := "ytedkppfghdipdaadoor", sum := "6e2c048750481e6abe2633b968b1da7d2adb3ab2d834909300059e7687e0666a", checked := Tryd.checked }
namespace Rows
def none {H : Type} : Left H := { results := [], args := [] }

/- WHAT THE LISTED PACKAGE-LEVEL VARIABLES READ AS WHEN THE CALL BEGINS. Each datum BY PROGRAM (the guide's laid-datum.mjs) off the statement by which the dump's own 'gosem.cut.vars' lays the variable. In a bare row this is a premise. The card (YtedkppfghdipdaaDoorCards.lean) ties it to the program's text. -/
def laid_simproof_certify_others {H : Type} : DataW H := .slice [.lit (.int .i64 3), .lit (.int .i64 4), .lit (.int .i64 5)] []

/-- 'simprooflaw27.CertifySize': WHATEVER THE INPUT: true; the input reads as it did. -/
def certifySizeSpec : ChangeSpec := { name := "certifySize", fn := fun _ => fun
  | [d1, d2] => { results := [.lit (.bool true)], args := [d1, d2] }
  | _ => none }
def certifySizeRow : OpenClaim := { program := "ytedkppfghdipdaadoor", sum := "6e2c048750481e6abe2633b968b1da7d2adb3ab2d834909300059e7687e0666a", func := "simproof/simprooflaw27.CertifySize", spec := "certifySize", unfollowed := true, recurses := true, named := ["simproof/certify.others"], plainKeys := false, apart := false, laid := [("simproof/certify.others", laid_simproof_certify_others)] }
def CertifySizeSaid : Prop := certifySizeRow.holds Tryd.pinned (OpenSpec.ofChange certifySizeSpec)

/-- ITS FALSE NEIGHBOUR: 'it returns false'. Refute it at one input. -/
def certifySizeWrong : ChangeSpec := { name := "certifySize", fn := fun _ => fun
  | [d1, d2] => { results := [.lit (.bool false)], args := [d1, d2] }
  | _ => none }
def CertifySizeWrongFalsely : Prop := certifySizeRow.holds Tryd.pinned (OpenSpec.ofChange certifySizeWrong)

/- THE SECOND FORM. 'bulk': how many values and letters a reading holds, each counted each time it is reached (what is shared counts as often as it is met; a slice's spare places count too). A statement '..UptoSaid' is the law's where the arguments, and the package variables that the reading takes, are together of bulk at most 1048576: NARROWER than '..Said'. Prove '..Said' where nothing that the law and all that it calls make is longer than what came in: it says more and counts as full. Else prove '..UptoSaid'. A law counts once. -/
mutual
def uptoBulk {H : Type} : DataW H → Nat
  | .lit (.string bytes) => bytes.length + 1
  | .lit _ => 1
  | .nil => 1
  | .ptr d => uptoBulk d + 1
  | .slice elems spare => uptoBulkAll elems + uptoBulkAll spare + 1
  | .agg parts => uptoBulkAll parts + 1
  | .iface _ d => uptoBulk d + 1
  | .map entries => uptoBulkEntries entries + 1
  | .held _ => 1
def uptoBulkAll {H : Type} : List (DataW H) → Nat
  | [] => 0
  | d :: r => uptoBulk d + uptoBulkAll r
def uptoBulkEntries {H : Type} : List (Lit × DataW H) → Nat
  | [] => 0
  | x :: r => uptoBulkEntry x + uptoBulkEntries r
def uptoBulkEntry {H : Type} : Lit × DataW H → Nat
  | (.string bytes, d) => bytes.length + uptoBulk d + 1
  | (_, d) => uptoBulk d + 1
 end
def uptoSmall : (H : Type) → List (DataW H) → Bool := fun _ ds => decide (uptoBulkAll ds ≤ 1048576)
def OpenSpec.upto (s : _root_.Go.ChangeSpec) : _root_.Go.OpenSpec := { _root_.Go.OpenSpec.ofChange s with cond := some uptoSmall }

/-- 'simprooflaw27.CertifySize', WHERE WHAT IT READS IS OF BULK AT MOST 1048576: true; the input reads as it did. -/
def certifySizeUptoRow : OpenClaim := { program := "ytedkppfghdipdaadoor", sum := "6e2c048750481e6abe2633b968b1da7d2adb3ab2d834909300059e7687e0666a", func := "simproof/simprooflaw27.CertifySize", spec := "certifySize", unfollowed := true, recurses := true, named := ["simproof/certify.others"], plainKeys := false, apart := false, laid := [("simproof/certify.others", laid_simproof_certify_others)], narrowed := true }
def CertifySizeUptoSaid : Prop := certifySizeUptoRow.holds Tryd.pinned (OpenSpec.upto certifySizeSpec)

end Rows
end Go.Proofs.YtedkppfghdipdaaDoor
