/-
  A pointer to a shared object is not nil.
-/
import Derived.Test.YtbeebjdnapkhhaaZFmRowH
namespace Go.Proofs.Ytbeebjdnapkhhaa
set_option linter.unusedVariables false
open Go.RowKit

def zgM (P : Program) (T : Nat) : Bool :=
 match P.underlying T with
 | some (.pointer _) => true
 | _ => false
section
variable {c : Ctx} {ops : Array Oper} {rest : List Oper} {t : List (Nat × FV)} {ob : List (Nat × zp)} {d : Nat} {ty : TypeId} {pos : String} {af : Array Edge} {gd : Option (Nat × Bool)} {Q : FSt → Prop}
theorem zdI {w0 w : World} {J : JJ} {s : FSt} {a : Act} {β : Nat → Option Nat} {dst : Option Nat} {after : Array Edge} {g : Option (Nat × Bool)} (h : FR c.N w0 J s a w β) {T T2 : Nat} (hp : zgM c.P T = true) (x : Operand) {sz j o : Nat} {es : List (List FV)} (ex : s.ev x = .eptr sz es j o) :
  yJ c w0 J s a ⟨dst, .binOp .eql T x (.const (.pointer none)) T2, ty, pos, after, g⟩ w (.bool false) [] := by
 have hr := h.ev_rd ex rfl
 generalize hx : a.eval x = v at hr
 cases hr with
 | eptr b off sz es i o us hI he ho hA hl hrr =>
  unfold zgM at hp
  cases hu : c.P.underlying T with
  | none => rw [hu] at hp; cases hp
  | some dd =>
   rw [hu] at hp
   cases dd <;> first | (cases hp; done) | skip
   have heq : (Op.equalIn Op.maxDepth T (.pointer (some ⟨b, off + (j * sz + o), none⟩)) (.pointer none)).run c.P w = .ok false w := by
    show (Op.equalIn (9999 + 1) T (.pointer (some ⟨b, off + (j * sz + o), none⟩)) (.pointer none)).run c.P w = _
    unfold Op.equalIn
    simp [run_underlying hu]
   refine .rd h (v := .bool false) ?_ (.bool _) rfl
   have e2 : a.eval (.const (.pointer none)) = .pointer none := rfl
   simp [execOp, hx, e2, eqGuard, binOp, Op.equal, heq]
theorem zhm {T T2 : Nat} {x : Operand} {sz j o : Nat} {es : List (List FV)} (hx : (⟨t, ob⟩ : FSt).ev x = .eptr sz es j o) (hp : zgM c.P T = true) (hd : Nat.blt d c.N = true) (hw : zK ops ⟨t, ob⟩ (⟨some d, .binOp .eql T x (.const (.pointer none)) T2, ty, pos, af, gd⟩ : Oper) true)
  (k : zc c ops rest ⟨(d, .bool false) :: t, ob⟩ Q) : zc c ops ((⟨some d, .binOp .eql T x (.const (.pointer none)) T2, ty, pos, af, gd⟩ : Oper) :: rest) ⟨t, ob⟩ Q :=
 UK (wr := []) hd hw (fun w0 J a w β hF => zdI hF hp x hx) k
end
end Go.Proofs.Ytbeebjdnapkhhaa
