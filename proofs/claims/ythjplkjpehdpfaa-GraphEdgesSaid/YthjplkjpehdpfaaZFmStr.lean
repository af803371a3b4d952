/-
  Strings: their length, a byte of them; ^ of integers; conversions that wrap.
-/
import Derived.Test.YthjplkjpehdpfaaZDA
namespace Go.Proofs.Ythjplkjpehdpfaa
set_option linter.unusedVariables false
open Go.RowKit

section
variable {c : Ctx} {w0 w : World} {J : JJ} {s : FSt} {a : Act} {β : Nat → Option Nat} {dst : Option Nat} {ty : TypeId} {pos : String} {after : Array Edge} {g : Option (Nat × Bool)}
theorem zbi (h : FR c.N w0 J s a w β) {T : TypeId} (hT : (c.ty T).k = .str) (x : Operand) {b : ByteArray} (ex : s.ev x = .str b) :
  yp c w0 J s a ⟨dst, .call { callee := .builtin .len, args := #[x], argTypes := #[T] }, ty, pos, after, g⟩ w (.int .i64 b.size) [] := by
 obtain ⟨d, i, z, ht⟩ := c.get hT (by simp)
 have hd := ht.k
 rw [hT] at hd
 obtain rfl := Uz hd
 exact .rd h (v := .int .i64 b.size) (by simp [execOp, resolve, invoke, builtin, Builtin.len_, h.ev_str ex, run_underlying ht.u, goInt]) (.int _ _) rfl
theorem zbh (h : FR c.N w0 J s a w β) {T : TypeId} (hT : (c.ty T).k = .str) (x y : Operand) {b : ByteArray} {k : IntKind} {n : Nat} {u : UInt8} (ex : s.ev x = .str b) (ey : s.ev y = .int k n) (hn : b[n]? = some u) :
  yp c w0 J s a ⟨dst, .index T x y, ty, pos, after, g⟩ w (.int .u8 u.toNat) [] := by
 obtain ⟨d, i, z, ht⟩ := c.get hT (by simp)
 have hd := ht.k
 rw [hT] at hd
 obtain rfl := Uz hd
 exact .rd h (v := .int .u8 u.toNat) (by simp [execOp, Instr.index, asIntOf, h.ev_str ex, h.ev_int ey, run_underlying ht.u, hn]) (.int _ _) rfl
theorem zeW (h : FR c.N w0 J s a w β) (T T2 : TypeId) (x y : Operand) {k : IntKind} {m n : Int} (ex : s.ev x = .int k m) (ey : s.ev y = .int k n) :
  yp c w0 J s a ⟨dst, .binOp .xor T x y T2, ty, pos, after, g⟩ w (.int k (k.wrap (BitVec.ofInt k.bits m ^^^ BitVec.ofInt k.bits n).toNat)) [] :=
 .rd h (v := .int k (k.wrap (BitVec.ofInt k.bits m ^^^ BitVec.ofInt k.bits n).toNat)) (by simp [execOp, eqGuard, binOp, h.ev_int ex, h.ev_int ey, Op.intBits]) (.int _ _) rfl
end
section
variable {c : Ctx} {ops : Array Oper} {rest : List Oper} {t : List (Nat × FV)} {ob : List (Nat × zg)} {d : Nat} {ty : TypeId} {pos : String} {af : Array Edge} {gd : Option (Nat × Bool)} {Q : FSt → Prop} {QD : FSt → List Rec → Prop} {tr : List Rec}
theorem WK {T : TypeId} {x : Operand} {b : ByteArray} (hx : (⟨t, ob⟩ : FSt).ev x = .str b) (hT : (c.ty T).k = .str) (hd : Nat.blt d c.N = true) (hw : zF ops ⟨t, ob⟩ ⟨some d, .call { callee := .builtin .len, args := #[x], argTypes := #[T] }, ty, pos, af, gd⟩ true)
  (k : zd c ops rest ⟨(d, .int .i64 b.size) :: t, ob⟩ Q) : zd c ops (⟨some d, .call { callee := .builtin .len, args := #[x], argTypes := #[T] }, ty, pos, af, gd⟩ :: rest) ⟨t, ob⟩ Q :=
 UE (wr := []) hd hw (fun w0 J a w β hF => zbi hF hT x hx) k
theorem zed {T : TypeId} {x y : Operand} {b : ByteArray} {kk : IntKind} {n : Nat} {u : UInt8} (hx : (⟨t, ob⟩ : FSt).ev x = .str b) (hy : (⟨t, ob⟩ : FSt).ev y = .int kk n) (hT : (c.ty T).k = .str) (hn : b[n]? = some u) (hd : Nat.blt d c.N = true) (hw : zF ops ⟨t, ob⟩ ⟨some d, .index T x y, ty, pos, af, gd⟩ true)
  (k : zd c ops rest ⟨(d, .int .u8 u.toNat) :: t, ob⟩ Q) : zd c ops (⟨some d, .index T x y, ty, pos, af, gd⟩ :: rest) ⟨t, ob⟩ Q :=
 UE (wr := []) hd hw (fun w0 J a w β hF => zbh hF hT x y hx hy hn) k
theorem zfJ {T T2 : TypeId} {x y : Operand} {kk : IntKind} {m n : Int} (hx : (⟨t, ob⟩ : FSt).ev x = .int kk m) (hy : (⟨t, ob⟩ : FSt).ev y = .int kk n) (hd : Nat.blt d c.N = true) (hw : zF ops ⟨t, ob⟩ ⟨some d, .binOp .xor T x y T2, ty, pos, af, gd⟩ true)
  (k : zd c ops rest ⟨(d, .int kk (kk.wrap (BitVec.ofInt kk.bits m ^^^ BitVec.ofInt kk.bits n).toNat)) :: t, ob⟩ Q) : zd c ops (⟨some d, .binOp .xor T x y T2, ty, pos, af, gd⟩ :: rest) ⟨t, ob⟩ Q :=
 UE (wr := []) hd hw (fun w0 J a w β hF => zeW hF T T2 x y hx hy) k
theorem ze6 {T T2 : TypeId} {x : Operand} {kk k2 : IntKind} {n : Int} (hx : (⟨t, ob⟩ : FSt).ev x = .int kk n) (hT : (c.ty T).k.known = true) (hT2 : (c.ty T2).k = .int k2) (hd : Nat.blt d c.N = true) (hw : zF ops ⟨t, ob⟩ ⟨some d, .convert T T2 x, ty, pos, af, gd⟩ true)
  (k : zd c ops rest ⟨(d, .int k2 (k2.wrap n)) :: t, ob⟩ Q) : zd c ops (⟨some d, .convert T T2 x, ty, pos, af, gd⟩ :: rest) ⟨t, ob⟩ Q :=
 UE (wr := []) hd hw (fun w0 J a w β hF => zaf hF (TK.known_ne hT) hT2 x hx) k
end
end Go.Proofs.Ythjplkjpehdpfaa
