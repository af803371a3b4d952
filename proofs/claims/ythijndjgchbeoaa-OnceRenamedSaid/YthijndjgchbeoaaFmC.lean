/-
  The types' summary; what the operands of an operation read as; the runs of the operations that make no memory.
-/
import Derived.Test.YthijndjgchbeoaaFmB
namespace Go.Proofs.Ythijndjgchbeoaa
set_option linter.unusedVariables false
open Go.RowKit

inductive TK where
  | other | any | int (k : IntKind) | bool | str | slice (e : Nat) | strct (fs : List (Nat × Nat)) | arr (n e : Nat) | map (k e : Nat)
  deriving Inhabited
def TK.agg? : TK → Option Bool
  | .strct _ | .arr _ _ => some true
  | .int _ | .bool | .str | .slice _ | .map _ _ => some false
  | _ => none
structure TS where
  k : TK := .other
  size : Nat := 0
  bytes : Nat := 0
  zero : List FV := []
  deriving Inhabited

/-- a first value and the plain one that it reads as -/
def zeroRel : Value → FV → Bool
  | .int k n, .int k' n' => decide (k = k') && decide (n = n')
  | .bool a, .bool b => a == b
  | .string s, .str s' => s.size == 0 && s'.size == 0
  | .slice none 0 0, .nil => true
  | _, .undef => true
  | _, _ => false
def zerosRel : List Value → List FV → Bool
  | [], [] => true
  | v :: vs, f :: fs => zeroRel v f && zerosRel vs fs
  | _, _ => false
def kindOk (P : Program) (d : TypeDesc) (k : TK) : Bool :=
  match k, d with
  | .other, _ => true
  | .any, _ => true
  | .int k, .int k' => decide (k = k')
  | .bool, .bool => true
  | .str, .string => true
  | .slice e, .slice e' => decide (e = e')
  | .strct fs, .struct gs => decide (fs = gs.toList.map fun f => (f.offset, f.type)) && gs.toList.all fun f => decide (f.name ≠ "_")
  | .arr n e, .array n' e' => decide (n = n') && decide (e = e')
  | .map k e, .map k' e' => decide (k = k') && decide (e = e')
  | _, _ => false
def zkind (k : TK) (z : Value) : Bool :=
  match k.agg? with
  | some true => match z with | .agg _ => true | _ => false
  | some false => match z with | .agg _ => false | _ => true
  | none => true
def tsCheck (P : Program) (T : Nat) (ts : TS) : Bool :=
  match P.underlying T, P.info? T with
  | some d, some i =>
    kindOk P d ts.k && decide (i.size = ts.size) && decide (i.bytes = ts.bytes) && decide (ts.zero.length = ts.size) &&
      (match i.zero with | some z => zerosRel z.cells.toList ts.zero && zkind ts.k z | none => false)
  | _, _ => false

structure TSOk (P : Program) (T : Nat) (ts : TS) (d : TypeDesc) (i : TypeInfo) (z : Value) : Prop where
  u : P.underlying T = some d
  k : kindOk P d ts.k = true
  info : P.info? T = some i
  size : i.size = ts.size
  bytes : i.bytes = ts.bytes
  zo : i.zero = some z
  zl : ts.zero.length = ts.size
  zr : zerosRel z.cells.toList ts.zero = true
  zk : zkind ts.k z = true
theorem tsCheck_ok {P : Program} {T : Nat} {ts : TS} (h : tsCheck P T ts = true) : ∃ d i z, TSOk P T ts d i z := by
  unfold tsCheck at h
  cases hu : P.underlying T with
  | none => rw [hu] at h; cases h
  | some d =>
    cases hi : P.info? T with
    | none => rw [hu, hi] at h; cases h
    | some i =>
      rw [hu, hi] at h
      simp only [Bool.and_eq_true, decide_eq_true_eq] at h
      obtain ⟨⟨⟨⟨h1, h2⟩, h3⟩, h4⟩, h5⟩ := h
      cases hz : i.zero with
      | none => rw [hz] at h5; cases h5
      | some z =>
        rw [hz] at h5
        simp only [Bool.and_eq_true] at h5
        exact ⟨d, i, z, hu, h1, hi, h2, h3, hz, h4, h5.1, h5.2⟩

structure Ctx where
  P : Program
  N : Nat
  ty : Nat → TS
  ok : ∀ T, (match (ty T).k with | .other => true | _ => tsCheck P T (ty T)) = true
  mixed : P.follows .mixedOrders = true

theorem Ctx.get (c : Ctx) {T : Nat} {k : TK} (h : (c.ty T).k = k) (hk : k ≠ .other) : ∃ d i z, TSOk c.P T (c.ty T) d i z := by
  refine tsCheck_ok ?_
  have := c.ok T
  cases k <;> first | exact absurd rfl hk | (rw [h] at this; exact this)

theorem Rd.zero {w : World} {I : Nat → Prop} {v : Value} {f : FV} (h : zeroRel v f = true) : Rd w I v f := by
  cases f with
  | undef => exact .undef v
  | int k n =>
    cases v <;> simp [zeroRel] at h
    obtain ⟨rfl, rfl⟩ := h; exact .int _ _
  | bool b =>
    cases v <;> simp [zeroRel] at h
    subst h; exact .bool _
  | str s =>
    cases v <;> simp [zeroRel] at h
    rename_i t
    have e : t = s := by rw [h.1, h.2]
    subst e; exact .str _
  | nil =>
    cases v with
    | slice a n c =>
      cases a with
      | none => cases n <;> cases c <;> first | exact .nil | (simp [zeroRel] at h)
      | some a => simp [zeroRel] at h
    | _ => simp [zeroRel] at h
  | _ => cases v <;> first | (simp [zeroRel] at h; done) | (rename_i a n c; cases a <;> cases n <;> cases c <;> simp [zeroRel] at h)

theorem RdL.zeros {w : World} {I : Nat → Prop} : ∀ {vs : List Value} {fs : List FV}, zerosRel vs fs = true → RdL w I vs fs
  | [], [], _ => RdL.nil
  | [], _ :: _, h => by simp [zerosRel] at h
  | _ :: _, [], h => by simp [zerosRel] at h
  | v :: vs, f :: fs, h => by
    simp only [zerosRel, Bool.and_eq_true] at h
    exact RdL.cons (Rd.zero h.1) (RdL.zeros h.2)

/-- a constant as a plain value -/
def cval1 : Value → FV
  | .int k n => .int k n
  | .bool b => .bool b
  | .string s => .str s
  | .slice none 0 0 => .nil
  | _ => .undef
def cval : Value → FV
  | .agg cs => .agg (cs.toList.map cval1)
  | v => cval1 v
theorem Rd.cval1 {w : World} {I : Nat → Prop} (v : Value) : Rd w I v (cval1 v) := by
  unfold Ythijndjgchbeoaa.cval1
  split <;> first | exact .int _ _ | exact .bool _ | exact .str _ | exact .nil | exact .undef _
theorem Rd.cval {w : World} {I : Nat → Prop} (v : Value) : Rd w I v (cval v) := by
  unfold Ythijndjgchbeoaa.cval
  split
  · rename_i cs
    have := Rd.agg (w := w) (I := I) cs.toList (cs.toList.map Ythijndjgchbeoaa.cval1) (by simp) (fun j u f hu hf => by
      rw [List.getElem?_map, hu] at hf
      simp only [Option.map_some, Option.some.injEq] at hf
      subst hf
      exact Rd.cval1 u)
    simpa using this
  · exact Rd.cval1 v

theorem cval_hand (v : Value) : (cval v).hand = none := by
  unfold cval
  split
  · rfl
  · unfold cval1; split <;> rfl

def FS.ev (s : FS) : Operand → FV
  | .tmp t => s.get t
  | .const v => cval v
  | _ => .undef

section
variable {N : Nat} {w0 w : World} {J : Nat → Prop} {s : FS} {a : Act} {β : Nat → Option Nat}
theorem FR.ev (h : FR N w0 J s a w β) (x : Operand) : VR w (Imm J w β s) β s (a.eval x) (s.ev x) := by
  cases x with
  | tmp t => exact h.slot t
  | const v =>
    exact VR.of_rd (Rd.cval v) (cval_hand v)
  | global g => exact Rd.undef _
  | func f => exact Rd.undef _
theorem FR.evers (h : FR N w0 J s a w β) (x : Operand) {id ver : Nat} (hf : (s.ev x).hand = some (id, ver)) : ver ≤ (s.ob id).ver := by
  cases x with
  | tmp t => exact h.vers t id ver hf
  | const v =>
    rw [FS.ev, cval_hand] at hf; cases hf
  | global g => simp [FS.ev, FV.hand] at hf
  | func f => simp [FS.ev, FV.hand] at hf

theorem FR.ev_int (h : FR N w0 J s a w β) {x : Operand} {k : IntKind} {n : Int} (e : s.ev x = .int k n) : a.eval x = .int k n := by
  have := h.ev x
  rw [e] at this
  have := VR.rd this rfl
  generalize a.eval x = v at this
  cases this; rfl
theorem FR.ev_bool (h : FR N w0 J s a w β) {x : Operand} {b : Bool} (e : s.ev x = .bool b) : a.eval x = .bool b := by
  have := h.ev x
  rw [e] at this
  have := VR.rd this rfl
  generalize a.eval x = v at this
  cases this; rfl
theorem FR.ev_str (h : FR N w0 J s a w β) {x : Operand} {b : ByteArray} (e : s.ev x = .str b) : a.eval x = .string b := by
  have := h.ev x
  rw [e] at this
  have := VR.rd this rfl
  generalize a.eval x = v at this
  cases this; rfl
theorem FR.ev_nil (h : FR N w0 J s a w β) {x : Operand} (e : s.ev x = .nil) : a.eval x = .slice none 0 0 := by
  have := h.ev x
  rw [e] at this
  have := VR.rd this rfl
  generalize a.eval x = v at this
  cases this; rfl
theorem FR.ev_rd (h : FR N w0 J s a w β) {x : Operand} {f : FV} (e : s.ev x = f) (hf : f.hand = none) : Rd w (Imm J w β s) (a.eval x) f := by
  have := h.ev x
  rw [e] at this
  exact VR.rd this hf
theorem FR.ev_own (h : FR N w0 J s a w β) {x : Operand} {id ver o n : Nat} (e : s.ev x = .own id ver o n) (hl : (s.ob id).life ≠ .dead) (hv : (s.ob id).ver = ver) : OwnV w (β id) (s.ob id) (a.eval x) o n := by
  have := h.ev x
  rw [e] at this
  exact this hl hv
theorem FR.ev_ptr (h : FR N w0 J s a w β) {x : Operand} {id ver i off : Nat} (e : s.ev x = .ptr id ver i off) (hl : (s.ob id).life ≠ .dead) (hv : (s.ob id).ver = ver) : (s.ob id).life.slic = true ∧ ∃ b, β id = some b ∧ a.eval x = .pointer (some ⟨b, i * (s.ob id).sz + off, none⟩) := by
  have := h.ev x
  rw [e] at this
  exact this hl hv
theorem FR.ev_omap (h : FR N w0 J s a w β) {x : Operand} {id ver : Nat} (e : s.ev x = .omap id ver) (hl : (s.ob id).life ≠ .dead) (hv : (s.ob id).ver = ver) : (s.ob id).life.slic = false ∧ ∃ b, β id = some b ∧ a.eval x = .map (some b) := by
  have := h.ev x
  rw [e] at this
  exact this hl hv
end

/-- arithmetic and comparisons of integers that cannot fail -/
def ibin : BinOp → IntKind → Int → Int → Option FV
  | .add, k, a, b => some (.int k (k.wrap (a + b)))
  | .sub, k, a, b => some (.int k (k.wrap (a - b)))
  | .mul, k, a, b => some (.int k (k.wrap (a * b)))
  | .eql, _, a, b => some (.bool (a == b))
  | .neq, _, a, b => some (.bool (a != b))
  | .lss, _, a, b => some (.bool (decide (a < b)))
  | .leq, _, a, b => some (.bool (decide (a ≤ b)))
  | .gtr, _, a, b => some (.bool (decide (a > b)))
  | .geq, _, a, b => some (.bool (decide (a ≥ b)))
  | _, _, _, _ => none

section
variable {N : Nat} {w0 w : World} {J : Nat → Prop} {s : FS} {a : Act} {β : Nat → Option Nat} {P : Program}
theorem run_ibin (op : BinOp) (T T2 : TypeId) (x y : Operand) {k : IntKind} {m n : Int} {f : FV} (ex : a.eval x = .int k m) (ey : a.eval y = .int k n) (hf : ibin op k m n = some f) (dst : Option Nat) (ty : TypeId) (pos : String) (after : Array Edge) (g : Option (Nat × Bool)) (I : Nat → Prop) :
    ∃ v, (execOp a.eval ⟨dst, .binOp op T x y T2, ty, pos, after, g⟩).run P w = .ok (.value v) w ∧ Rd w I v f ∧ f.hand = none := by
  cases op <;> simp only [ibin, Option.some.injEq, reduceCtorEq] at hf <;> subst hf <;>
    simp [execOp, eqGuard, binOp, ex, ey, Op.intArith, Op.intCmp, FV.hand] <;> first | exact .int _ _ | exact .bool _
theorem run_idiv (op : BinOp) (T T2 : TypeId) (x y : Operand) {k : IntKind} {m n : Int} (ex : a.eval x = .int k m) (ey : a.eval y = .int k n) (hn : n ≠ 0) (hop : op = .quo ∨ op = .rem) (dst : Option Nat) (ty : TypeId) (pos : String) (after : Array Edge) (g : Option (Nat × Bool)) :
    (execOp a.eval ⟨dst, .binOp op T x y T2, ty, pos, after, g⟩).run P w = .ok (.value (.int k (if op = .quo then k.wrap (m.tdiv n) else m.tmod n))) w := by
  rcases hop with rfl | rfl <;> simp [execOp, eqGuard, binOp, ex, ey, Op.intDiv, hn]
theorem run_bbin (op : BinOp) {T T2 : TypeId} (x y : Operand) {m n : Bool} (hT : P.underlying T = some .bool) (ex : a.eval x = .bool m) (ey : a.eval y = .bool n) (hop : op = .eql ∨ op = .neq) (dst : Option Nat) (ty : TypeId) (pos : String) (after : Array Edge) (g : Option (Nat × Bool)) :
    (execOp a.eval ⟨dst, .binOp op T x y T2, ty, pos, after, g⟩).run P w = .ok (.value (.bool (if op = .eql then m == n else m != n))) w := by
  have h1 : ∀ op : BinOp, (eqGuard op T x y (.bool m) (.bool n)).run P w = .ok () w := fun op => by cases op <;> simp [eqGuard]
  have h2 := run_equal_bool (P := P) w T m n hT
  rcases hop with rfl | rfl
  · have e : binOp .eql T (.bool m) (.bool n) = (do pure (.bool (← Op.equal T (.bool m) (.bool n)))) := rfl
    simp only [execOp, ex, ey, e, Sem.run_bind, Result.andThen, h1, h2, Sem.run_pure, if_true]
  · have e : binOp .neq T (.bool m) (.bool n) = (do pure (.bool (!(← Op.equal T (.bool m) (.bool n))))) := rfl
    simp only [execOp, ex, ey, e, Sem.run_bind, Result.andThen, h1, h2, Sem.run_pure, bne]
    rfl
end
end Go.Proofs.Ythijndjgchbeoaa
