/-
  What an operation does on plain values, as one relation; that the model follows; that it looks only at its operands.
-/
import Derived.Test.YthijndjgchbeoaaFmRows
namespace Go.Proofs.Ythijndjgchbeoaa
set_option linter.unusedVariables false
open Go.RowKit Go.Maps

/-- a function of ours, with a body -/
def isGo (P : Program) (f : Nat) : Bool :=
  match P.funcs[f]? with
  | some fn => fn.body.isSome && fn.name != "runtime.NumGoroutine"
  | none => false

inductive Mode where
  | fr | sh | ow (E sz : Nat)
  deriving DecidableEq, Inhabited

/-- what a call leaves: w before it, w' behind it -/
def ResOk (w w' : World) (I : Nat → Prop) : Mode → Value → FV → Prop
  | .fr, v, f => Rd w' (fun b => w.heap.size ≤ b ∧ b < w'.heap.size) v f
  | .sh, v, f => Rd w' (fun b => I b ∨ (w.heap.size ≤ b ∧ b < w'.heap.size)) v f
  | .ow E sz, v, f => ∃ es us, f = .list sz es ∧ (∀ e ∈ es, e.length = sz) ∧ (∀ f ∈ es.flatten, f.one = true) ∧ w'.ownsRow w.heap.size E sz v es.length us ∧ RdL w' (fun b => w.heap.size ≤ b ∧ b < w'.heap.size ∧ v.ownBlock ≠ some b) us es.flatten

/-- THE CONTRACT of a function at plain values. -/
structure Spec (P : Program) (f : Nat) (args : List FV) (m : Mode) (res : FV) : Prop where
  go : isGo P f = true
  hand : res.hand = none
  calls : ∀ (w : World) (I : Nat → Prop) (vs : List Value), (∀ b, I b → b < w.heap.size) → RdL w I vs args → Calls P f vs.toArray w fun e w' => ∃ v, e = .returned v ∧ Below w.heap.size w w' ∧ ResOk w w' I m v res

/-- what reads as the one reads as the other -/
inductive FV.le : FV → FV → Prop where
  | refl (f : FV) : FV.le f f
  | undef (f : FV) : FV.le f .undef
  | nil (sz : Nat) : FV.le .nil (.list sz [])
  | aggL {fs gs : List FV} (hl : fs.length = gs.length) (h : ∀ (j : Nat) f g, fs[j]? = some f → gs[j]? = some g → FV.le f g) : FV.le (.agg fs) (.agg gs)
  | tupL {fs gs : List FV} (hl : fs.length = gs.length) (h : ∀ (j : Nat) f g, fs[j]? = some f → gs[j]? = some g → FV.le f g) : FV.le (.tup fs) (.tup gs)
inductive LeL : List FV → List FV → Prop where
  | nil : LeL [] []
  | cons {f g : FV} {fs gs : List FV} (h : FV.le f g) (hs : LeL fs gs) : LeL (f :: fs) (g :: gs)
theorem LeL.get {fs gs : List FV} (h : LeL fs gs) : fs.length = gs.length ∧ ∀ (j : Nat) f g, fs[j]? = some f → gs[j]? = some g → FV.le f g := by
  induction h with
  | nil => exact ⟨rfl, by simp⟩
  | cons h hs ih =>
    refine ⟨by simp [ih.1], fun j f g hf hg => ?_⟩
    cases j with
    | zero => simp at hf hg; subst hf; subst hg; exact h
    | succ j => exact ih.2 j f g (by simpa using hf) (by simpa using hg)
theorem FV.le.agg {fs gs : List FV} (h : LeL fs gs) : FV.le (.agg fs) (.agg gs) := .aggL h.get.1 h.get.2
theorem FV.le.tup {fs gs : List FV} (h : LeL fs gs) : FV.le (.tup fs) (.tup gs) := .tupL h.get.1 h.get.2
theorem Rd.le {w : World} {I : Nat → Prop} {f g : FV} (h : FV.le f g) : ∀ {v : Value}, Rd w I v f → Rd w I v g := by
  induction h with
  | refl f => exact id
  | undef f => exact fun _ => .undef _
  | nil sz => intro v h; cases h; exact .list none 0 0 sz [] [] rfl (Nat.le_refl _) (by simp) (by simp) (by simp) (by simp) (by simp)
  | @aggL fs gs hl h ih =>
    intro v hv
    cases hv with
    | agg us fs hl' hr =>
      refine .agg us gs (hl'.trans hl) fun j u g hu hg => ?_
      have hj : j < fs.length := by rw [hl]; exact (List.getElem?_eq_some_iff.1 hg).1
      exact ih j fs[j] g (by simp [hj]) hg (hr j u _ hu (by simp [hj]))
  | @tupL fs gs hl h ih =>
    intro v hv
    cases hv with
    | tup us fs hl' hr =>
      refine .tup us gs (hl'.trans hl) fun j u g hu hg => ?_
      have hj : j < fs.length := by rw [hl]; exact (List.getElem?_eq_some_iff.1 hg).1
      exact ih j fs[j] g (by simp [hj]) hg (hr j u _ hu (by simp [hj]))
theorem Spec.weaken {P : Program} {f : Nat} {args : List FV} {m : Mode} {res res' : FV} (h : Spec P f args m res) (hm : m = .fr ∨ m = .sh) (hle : FV.le res res') (hh : res'.hand = none) : Spec P f args m res' where
  go := h.go
  hand := hh
  calls w I vs hI hv := (h.calls w I vs hI hv).mono fun e w' ⟨v, h1, h2, h3⟩ => ⟨v, h1, h2, by rcases hm with rfl | rfl <;> exact Rd.le hle h3⟩
theorem Spec.toSh {P : Program} {f : Nat} {args : List FV} {res : FV} (h : Spec P f args .fr res) : Spec P f args .sh res where
  go := h.go
  hand := h.hand
  calls w I vs hI hv := (h.calls w I vs hI hv).mono fun e w' ⟨v, h1, h2, h3⟩ => ⟨v, h1, h2, Rd.mono (fun b hb => ⟨.inr hb, rfl⟩) h3⟩

/-- how an operand is handed to a callee -/
inductive ArgOk (s : FS) (m : Mode) : FV → FV → Prop where
  | plain (f : FV) (hn : f.hand = none) : ArgOk s m f f
  | nil (sz : Nat) : ArgOk s m .nil (.list sz [])
  | sub (f g : FV) (hn : f.hand = none) (hle : FV.le f g) : ArgOk s m f g
  | own (id ver o n : Nat) (hl : s.live id ver) (hrl : (s.ob id).life.row = true) (hm : m = .sh → (s.ob id).life = .shut) : ArgOk s m (.own id ver o n) (.list (s.ob id).sz (((s.ob id).es.drop o).take n))
inductive ArgsOk (s : FS) (m : Mode) : List Operand → List FV → Prop where
  | nil : ArgsOk s m [] []
  | cons {x : Operand} {xs : List Operand} {g : FV} {gs : List FV} (h : ArgOk s m (s.ev x) g) (hs : ArgsOk s m xs gs) : ArgsOk s m (x :: xs) (g :: gs)

section
variable {c : Ctx} {w0 w : World} {J : Nat → Prop} {s : FS} {a : Act} {β : Nat → Option Nat}

/-- the blocks that a callee may read -/
def Lent (J : Nat → Prop) (w : World) (β : Nat → Option Nat) (s : FS) (m : Mode) (b : Nat) : Prop := if m = .sh then Imm J w β s b else b < w.heap.size

theorem FR.arg (h : FR c.N w0 J s a w β) {m : Mode} {x : Operand} {g : FV} (hx : ArgOk s m (s.ev x) g) : Rd w (Lent J w β s m) (a.eval x) g := by
  have him : ∀ b, Imm J w β s b → Lent J w β s m b ∧ w.heap[b]? = w.heap[b]? := fun b hb => by
    unfold Lent; split
    · exact ⟨hb, rfl⟩
    · exact ⟨hb.1, rfl⟩
  generalize hf : s.ev x = f at hx
  cases hx with
  | plain f hn => exact (h.ev_rd hf hn).mono him
  | sub f g hn hle => exact ((h.ev_rd hf hn).mono him).le hle
  | nil sz =>
    rw [h.ev_nil hf]
    exact .list none 0 0 sz [] [] rfl (Nat.le_refl _) (by simp) (by simp) (by simp) (by simp) (by simp)
  | own id ver o n hl hrl hm =>
    obtain ⟨A, cc, e1, e2, e3, e4, e5⟩ := (h.ev_own hf hl.1 hl.2).ex
    obtain ⟨hw, hone, A', cc', us, e1', e2', hr, hA', hcell⟩ := h.src hf (Src.own id ver o n hl hrl)
    rw [e1] at e1' ⊢
    injection e1' with k1 k2 k3
    subst k1
    refine .list A n cc _ _ us k2.symm e2 hw hone (fun h0 => ?_) hr.1 (hr.mono him).2
    cases hb : β id with
    | none => have := (e4 hb).2; omega
    | some b =>
      obtain ⟨o', rfl, _⟩ := e5 b hb
      refine ⟨b, o', rfl, ?_, fun j u hu => by have := hcell _ rfl j u hu; rwa [add_none] at this⟩
      have hlt := ((h.obj id hl.1).lt hb).2
      unfold Lent; split
      · rename_i hsh
        have hshut := hm hsh
        refine ⟨hlt, h.fresh b ((h.obj id hl.1).lt hb).1, fun id' hl' e => ?_⟩
        have := h.inj id id' b hl.1 (Life.mine_ne hl') hb e
        subst this
        rw [hshut] at hl'; cases hl'
      · exact hlt
theorem FR.args (h : FR c.N w0 J s a w β) {m : Mode} : ∀ {xs : List Operand} {gs : List FV}, ArgsOk s m xs gs → RdL w (Lent J w β s m) (xs.map a.eval) gs
  | _, _, .nil => RdL.nil
  | _, _, .cons hx hs => RdL.cons (h.arg hx) (h.args hs)

theorem run_callFunc {P : Program} {f : Nat} (hg : isGo P f = true) (args : Array Value) (w : World) : (callFunc f args).run P w = .ok (.enter f args) w := by
  unfold isGo at hg
  cases hf : P.funcs[f]? with
  | none => rw [hf] at hg; cases hg
  | some fn =>
    rw [hf] at hg
    simp only [Bool.and_eq_true, bne_iff_ne, ne_eq] at hg
    have hb : fn.body ≠ none := fun e => by rw [e] at hg; cases hg.1
    have hp : (program : Sem Program).run P w = .ok P w := rfl
    simp [callFunc, hp, hf, hg.2, hb]

/-- a call of a function with a contract, whose result is read alone -/
theorem call_wp (h : FR c.N w0 J s a w β) {f : Nat} {xs : Array Operand} {ts : Array TypeId} {m : Mode} {gs : List FV} {res : FV} (hs : Spec c.P f gs m res) (hx : ArgsOk s m xs.toList gs) {dst : Option Nat} {ty : TypeId} {pos : String} {after : Array Edge} {g : Option (Nat × Bool)}
    {K : Act → World → Prop} {Q : Exit → Act → World → Prop} (hK : ∀ v w', Below w.heap.size w w' → ResOk w w' (Lent J w β s m) m v res → K (a.put dst v) w') :
    (⟨dst, .call { callee := .value (.func f), args := xs, argTypes := ts }, ty, pos, after, g⟩ : Oper).wp c.P a w K Q := by
  have hlent : ∀ b, Lent J w β s m b → b < w.heap.size := fun b hb => by
    unfold Lent at hb; split at hb
    · exact hb.1
    · exact hb
  have hc := hs.calls w (Lent J w β s m) (xs.toList.map a.eval) hlent (h.args hx)
  have hmap : (xs.toList.map a.eval).toArray = xs.map a.eval := by
    apply Array.ext'
    simp
  rw [hmap] at hc
  unfold Oper.wp
  have hrun : (execOp a.eval ⟨dst, .call { callee := .value (.func f), args := xs, argTypes := ts }, ty, pos, after, g⟩).run c.P w = .ok (.enter f (xs.map a.eval)) w := by
    have := run_callFunc (P := c.P) hs.go (xs.map a.eval) w
    simp [execOp, resolve, Act.eval, Deferred.ofValue, invoke, this]
  rw [hrun, Oper.upon_enter]
  refine hc.mono ?_
  rintro e w' ⟨v, rfl, hb, hr⟩
  exact hK v w' hb hr
end

/-- What an operation does: the value for its slot, the objects that it turns. -/
inductive Eff (c : Ctx) (s : FS) (d : Nat) : Op → FV → List (Nat × FObj) → Prop where
  | move (x : Operand) : Eff c s d (.move x) (s.ev x) []
  | assign (x : Operand) : Eff c s d (.assign x) (s.ev x) []
  | pick (cnd x y : Operand) {b : Bool} (hb : s.ev cnd = .bool b) : Eff c s d (.pick cnd x y) (if b then s.ev x else s.ev y) []
  | ibin (op : BinOp) (T T2 : TypeId) (x y : Operand) {k : IntKind} {m n : Int} {f : FV} (ex : s.ev x = .int k m) (ey : s.ev y = .int k n) (hf : ibin op k m n = some f) : Eff c s d (.binOp op T x y T2) f []
  | idiv (op : BinOp) (T T2 : TypeId) (x y : Operand) {k : IntKind} {m n : Int} (ex : s.ev x = .int k m) (ey : s.ev y = .int k n) (hn : n ≠ 0) (hop : op = .quo ∨ op = .rem) : Eff c s d (.binOp op T x y T2) (.int k (if op = .quo then k.wrap (m.tdiv n) else m.tmod n)) []
  | bbin (op : BinOp) {T T2 : TypeId} (x y : Operand) {m n : Bool} (hT : (c.ty T).k = .bool) (ex : s.ev x = .bool m) (ey : s.ev y = .bool n) (hop : op = .eql ∨ op = .neq) : Eff c s d (.binOp op T x y T2) (.bool (if op = .eql then m == n else m != n)) []
  | not (T : TypeId) (x : Operand) {b : Bool} (ex : s.ev x = .bool b) : Eff c s d (.unOp .not T x) (.bool (!b)) []
  | neg (T : TypeId) (x : Operand) {k : IntKind} {n : Int} (ex : s.ev x = .int k n) : Eff c s d (.unOp .neg T x) (.int k (k.wrap (-n))) []
  | min2 (bi : Builtin) (T T2 : TypeId) (x y : Operand) {k : IntKind} {m n : Int} (ex : s.ev x = .int k m) (ey : s.ev y = .int k n) (hbi : bi = .min ∨ bi = .max) :
      Eff c s d (.call { callee := .builtin bi, args := #[x, y], argTypes := #[T, T2] }) (.int k (if bi = .min then (if n < m then n else m) else (if m < n then n else m))) []
  | lenOwn {T e : TypeId} (hT : (c.ty T).k = .slice e) (x : Operand) {id ver o n : Nat} (ex : s.ev x = .own id ver o n) (hl : s.live id ver) : Eff c s d (.call { callee := .builtin .len, args := #[x], argTypes := #[T] }) (.int .i64 n) []
  | lenList {T e : TypeId} (hT : (c.ty T).k = .slice e) (x : Operand) {sz : Nat} {es : List (List FV)} (ex : s.ev x = .list sz es) : Eff c s d (.call { callee := .builtin .len, args := #[x], argTypes := #[T] }) (.int .i64 es.length) []
  | lenNil {T e : TypeId} (hT : (c.ty T).k = .slice e) (x : Operand) (ex : s.ev x = .nil) : Eff c s d (.call { callee := .builtin .len, args := #[x], argTypes := #[T] }) (.int .i64 0) []
  | fieldPtr {T ft i off : Nat} {fs : List (Nat × Nat)} (hT : (c.ty T).k = .strct fs) (hf : fs[i]? = some (off, ft)) (hft : (c.ty ft).k ≠ .other) (hsz : (c.ty ft).size ≠ 0) (x : Operand) {id ver j o : Nat} (ex : s.ev x = .ptr id ver j o) (hl : s.live id ver) :
      Eff c s d (.fieldAddr T x i) (.ptr id ver j (o + off)) []
  | fieldEptr {T ft i off : Nat} {fs : List (Nat × Nat)} (hT : (c.ty T).k = .strct fs) (hf : fs[i]? = some (off, ft)) (hft : (c.ty ft).k ≠ .other) (hsz : (c.ty ft).size ≠ 0) (x : Operand) {sz j o : Nat} {es : List (List FV)} (ex : s.ev x = .eptr sz es j o) :
      Eff c s d (.fieldAddr T x i) (.eptr sz es j (o + off)) []
  | indexList {T e : Nat} (hT : (c.ty T).k = .slice e) (he : (c.ty e).k ≠ .other) (x y : Operand) {sz : Nat} {es : List (List FV)} {k : IntKind} {n : Nat} (ex : s.ev x = .list sz es) (hsz : (c.ty e).size = sz) (ey : s.ev y = .int k n) (h1 : n < es.length) :
      Eff c s d (.indexAddr T x y) (.eptr sz es n 0) []
  | indexOwn {T e : Nat} (hT : (c.ty T).k = .slice e) (he : (c.ty e).k ≠ .other) (x y : Operand) {id ver o m : Nat} {k : IntKind} {n : Nat} (ex : s.ev x = .own id ver o m) (hl : s.live id ver) (hsz : (c.ty e).size = (s.ob id).sz) (ey : s.ev y = .int k n) (h1 : n < m) :
      Eff c s d (.indexAddr T x y) (.ptr id ver (o + n) 0) []
  | indexAPtr {T m e : Nat} (hT : (c.ty T).k = .arr m e) (he : (c.ty e).k ≠ .other) (x y : Operand) {id ver j o : Nat} {k : IntKind} {n : Nat} (ex : s.ev x = .ptr id ver j o) (hl : s.live id ver) (ey : s.ev y = .int k n) (h1 : n < m) :
      Eff c s d (.indexAddr T x y) (.ptr id ver j (o + n * (c.ty e).size)) []
  | indexAEptr {T m e : Nat} (hT : (c.ty T).k = .arr m e) (he : (c.ty e).k ≠ .other) (x y : Operand) {sz j o : Nat} {es : List (List FV)} {k : IntKind} {n : Nat} (ex : s.ev x = .eptr sz es j o) (ey : s.ev y = .int k n) (h1 : n < m) :
      Eff c s d (.indexAddr T x y) (.eptr sz es j (o + n * (c.ty e).size)) []
  | loadEptr {T : Nat} {bb : Bool} (hk : (c.ty T).k.agg? = some bb) (x : Operand) {sz j o : Nat} {es : List (List FV)} (ex : s.ev x = .eptr sz es j o) (hj : j < es.length) (ho : o + (c.ty T).size ≤ sz) (ho' : o < sz) : Eff c s d (.load T x) (loadF (c.ty T) ((es.getD j []).drop o)) []
  | loadPtr {T : Nat} {bb : Bool} (hk : (c.ty T).k.agg? = some bb) (x : Operand) {id ver j o : Nat} (ex : s.ev x = .ptr id ver j o) (hl : s.live id ver) (hrl : (s.ob id).life.row = true) (hj : j < (s.ob id).es.length) (ho : o + (c.ty T).size ≤ (s.ob id).sz) (ho' : o < (s.ob id).sz) :
      Eff c s d (.load T x) (loadF (c.ty T) (((s.ob id).es.getD j []).drop o)) []
  | store {T : Nat} (hk : (c.ty T).k ≠ .other) (x y : Operand) {id ver j o : Nat} (ex : s.ev x = .ptr id ver j o) (hl : (s.ob id).life = .own) (hv : (s.ob id).ver = ver) {f : FV} (ey : s.ev y = f) (hf : f.cells.all FV.one = true) (hfl : f.cells.length = (c.ty T).size)
      (hj : j < (s.ob id).es.length) (ho : o + (c.ty T).size ≤ (s.ob id).sz) : Eff c s d (.store T x y) .undef [(id, { s.ob id with es := (s.ob id).es.set j (splice ((s.ob id).es.getD j []) o f.cells) })]
  | alloc {T : Nat} (hk : (c.ty T).k ≠ .other) (hz : (c.ty T).zero.all FV.one = true) : Eff c s d (.alloc T) (.ptr d ((s.ob d).ver + 1) 0 0) [(d, ⟨(s.ob d).ver + 1, .own, T, (c.ty T).zero.length, [(c.ty T).zero]⟩)]
  | box {T : Nat} (x : Operand) {f : FV} (ex : s.ev x = f) (hf : f.cells.all FV.one = true) : Eff c s d (.box T x) (.ptr d ((s.ob d).ver + 1) 0 0) [(d, ⟨(s.ob d).ver + 1, .own, T, f.cells.length, [f.cells]⟩)]
  | build {T : Nat} {fs : List (Nat × Nat)} (hT : (c.ty T).k = .strct fs) (hfs : ∀ p ∈ fs, (c.ty p.2).k ≠ .other) (ps : Array (Nat × Operand)) {cs : List FV} (hf : ffill (fun i => (fs[i]?).map fun p => (p.1, (c.ty p.2).size)) (c.ty T).zero (s.parts ps) = some cs) :
      Eff c s d (.build T ps) (.agg cs) []
  | buildA {T n e : Nat} (hT : (c.ty T).k = .arr n e) (he : (c.ty e).k ≠ .other) (ps : Array (Nat × Operand)) {cs : List FV} (hf : ffill (fun i => some (i * (c.ty e).size, (c.ty e).size)) (c.ty T).zero (s.parts ps) = some cs) : Eff c s d (.build T ps) (.agg cs) []
  | buildSlice {T e n : Nat} (hT : (c.ty T).k = .slice e) (he : (c.ty e).k ≠ .other) (ps : Array (Nat × Operand)) (es : List (List FV)) (hn : es.length = n) (hw : ∀ x ∈ es, x.length = (c.ty e).size) (ho : ∀ f ∈ es.flatten, f.one = true) (hcap : n * (c.ty e).size ≤ 16777216) (hnm : n ≤ 16777216)
      (hf : ffill (fun i => some (i * (c.ty e).size, (c.ty e).size)) (List.replicate (n * (c.ty e).size) .undef) (s.parts ps) = some es.flatten) : Eff c s d (.buildSlice T n ps) (.own d ((s.ob d).ver + 1) 0 n) [(d, ⟨(s.ob d).ver + 1, .own, e, (c.ty e).size, es⟩)]
  | makeSlice {T e n : Nat} (hT : (c.ty T).k = .slice e) (he : (c.ty e).k ≠ .other) (x y : Operand) {k1 k2 : IntKind} (ex : s.ev x = .int k1 n) (ey : s.ev y = .int k2 n) (ho : (c.ty e).zero.all FV.one = true) (hb : (c.ty e).bytes * n ≤ 281474976710656) (hn : n ≤ 281474976710656) :
      Eff c s d (.makeSlice T x y) (.own d ((s.ob d).ver + 1) 0 n) [(d, ⟨(s.ob d).ver + 1, .own, e, (c.ty e).size, List.replicate n (c.ty e).zero⟩)]
  | sliceOwn {T e : Nat} (hT : (c.ty T).k = .slice e) (he : (c.ty e).k ≠ .other) (x : Operand) (lo hi : Option Operand) {id ver o m l u : Nat} (ex : s.ev x = .own id ver o m) (hl : s.live id ver) (hsz : (c.ty e).size = (s.ob id).sz) (hlo : s.lo lo l) (hhi : s.hi hi m u) (h1 : l ≤ u) (h2 : u ≤ m) :
      Eff c s d (.slice T x lo hi none) (.own id ver (o + l) (u - l)) []
  | sliceList {T e : Nat} (hT : (c.ty T).k = .slice e) (he : (c.ty e).k ≠ .other) (x : Operand) (lo hi : Option Operand) {sz l u : Nat} {es : List (List FV)} (ex : s.ev x = .list sz es) (hsz : (c.ty e).size = sz) (hlo : s.lo lo l) (hhi : s.hi hi es.length u) (h1 : l ≤ u) (h2 : u ≤ es.length) :
      Eff c s d (.slice T x lo hi none) (.list sz ((es.drop l).take (u - l))) []
  | sliceNil {T e : Nat} (hT : (c.ty T).k = .slice e) (he : (c.ty e).k ≠ .other) (x : Operand) (lo hi : Option Operand) (ex : s.ev x = .nil) (hlo : s.lo lo 0) (hhi : s.hi hi 0 0) : Eff c s d (.slice T x lo hi none) .nil []
  | extract (x : Operand) {i : Nat} {fs : List FV} {f : FV} (ex : s.ev x = .tup fs) (hf : fs[i]? = some f) (hn : f.hand = none) : Eff c s d (.extract x i) f []
  | nilPtr (x : Operand) {id ver i o : Nat} (ex : s.ev x = .ptr id ver i o) (hl : s.live id ver) : Eff c s d (.nilCheck x) (.ptr id ver i o) []
  | nilEptr (x : Operand) {sz i o : Nat} {es : List (List FV)} (ex : s.ev x = .eptr sz es i o) : Eff c s d (.nilCheck x) (.eptr sz es i o) []
  | append {T e : Nat} (hT : (c.ty T).k = .slice e) (he : (c.ty e).k ≠ .other) (hpos : 0 < (c.ty e).size) (x y : Operand) {f1 f2 : FV} {es1 es2 : List (List FV)} {i : Option Nat} (ex : s.ev x = f1) (ey : s.ev y = f2) (h1 : Bas s f1 (c.ty e).size es1 i) (hE : ∀ k, i = some k → (s.ob k).E = e)
      (h2 : Src s f2 (c.ty e).size es2) (hb : (es1.length + es2.length) * (c.ty e).bytes ≤ 140737488355328) (hm : es1.length + es2.length ≤ 140737488355328) :
      Eff c s d (.call { callee := .builtin .append, args := #[x, y], argTypes := #[T, T] }) (.own d ((s.ob d).ver + 1) 0 (es1 ++ es2).length) (appWr s d e (c.ty e).size (es1 ++ es2) i)
  | call {f : Nat} {xs : Array Operand} {ts : Array TypeId} {m : Mode} {gs : List FV} {res : FV} (hs : Spec c.P f gs m res) (hm : m = .fr ∨ m = .sh) (hx : ArgsOk s m xs.toList gs) : Eff c s d (.call { callee := .value (.func f), args := xs, argTypes := ts }) res []
  | callOw {f : Nat} {xs : Array Operand} {ts : Array TypeId} {E sz : Nat} {gs : List FV} {es : List (List FV)} (hs : Spec c.P f gs (.ow E sz) (.list sz es)) (hx : ArgsOk s (.ow E sz) xs.toList gs) :
      Eff c s d (.call { callee := .value (.func f), args := xs, argTypes := ts }) (.own d ((s.ob d).ver + 1) 0 es.length) [(d, ⟨(s.ob d).ver + 1, .own, E, sz, es⟩)]
  | appRoom {T e : Nat} (hT : (c.ty T).k = .slice e) (he : (c.ty e).k ≠ .other) (hpos : 0 < (c.ty e).size) (x y : Operand) {id ver o n : Nat} (ex : s.ev x = .own id ver o n) (hlf : (s.ob id).life = .roomy) (hver : (s.ob id).ver = ver)
      (hE : (s.ob id).E = e) (hsz : (s.ob id).sz = (c.ty e).size) (hon : o + n = (s.ob id).es.length) {f2 : FV} {es2 : List (List FV)} (ey : s.ev y = f2) (h2 : Src s f2 (c.ty e).size es2) (h1 : es2.length = 1) :
      Eff c s d (.call { callee := .builtin .append, args := #[x, y], argTypes := #[T, T] }) (.own d ((s.ob d).ver + 1) o (n + 1)) [(id, { s.ob id with life := .dead }), (d, ⟨(s.ob d).ver + 1, .own, e, (c.ty e).size, (s.ob id).es ++ es2⟩)]
  | appFull {T e : Nat} (hT : (c.ty T).k = .slice e) (he : (c.ty e).k ≠ .other) (hpos : 0 < (c.ty e).size) (x y : Operand) {id ver o n : Nat} (ex : s.ev x = .own id ver o n) (hlf : (s.ob id).life = .full) (hver : (s.ob id).ver = ver)
      (hE : (s.ob id).E = e) (hsz : (s.ob id).sz = (c.ty e).size) (hon : o + n = (s.ob id).es.length) {f2 : FV} {es2 : List (List FV)} (ey : s.ev y = f2) (h2 : Src s f2 (c.ty e).size es2) (h1 : es2.length = 1)
      (hb : (n + 1) * (c.ty e).bytes ≤ 140737488355328) (hm : n + 1 ≤ 140737488355328) :
      Eff c s d (.call { callee := .builtin .append, args := #[x, y], argTypes := #[T, T] }) (.own d ((s.ob d).ver + 1) 0 (n + 1)) [(id, { s.ob id with life := .dead }), (d, ⟨(s.ob d).ver + 1, .own, e, (c.ty e).size, (s.ob id).es.drop o ++ es2⟩)]
  | loadH {T : Nat} (hk : (c.ty T).k.agg? = some false) (hz : (c.ty T).size = 1) (x : Operand) {id ver j : Nat} (ex : s.ev x = .ptr id ver j 0) (hlf : (s.ob id).life = .hrow) (hver : (s.ob id).ver = ver) (hsz : (s.ob id).sz = 1) {f : FV} (hj : (s.ob id).es[j]? = some [f]) : Eff c s d (.load T x) f []
  | storeH {T : Nat} (hk : (c.ty T).k ≠ .other) (hz : (c.ty T).size = 1) (x y : Operand) {id ver j : Nat} (ex : s.ev x = .ptr id ver j 0) (hlf : (s.ob id).life = .hrow) (hver : (s.ob id).ver = ver) (hsz : (s.ob id).sz = 1) {f : FV} (ey : s.ev y = f)
      (hf : CelOk s f) (hj : j < (s.ob id).es.length) : Eff c s d (.store T x y) .undef [(id, { s.ob id with es := (s.ob id).es.set j [f] })]
  | makeMap (T : Nat) : Eff c s d (.makeMap T none) (.omap d ((s.ob d).ver + 1)) [(d, ⟨(s.ob d).ver + 1, .mapo, T, 0, []⟩)]
  | look {T k e : Nat} (hT : (c.ty T).k = .map k e) {bb : Bool} (he : (c.ty e).k.agg? = some bb) (K : Keyed c.P k) (x y : Operand) (ok : Bool) {es : List (List FV)} (ex : (∃ id ver, s.ev x = .omap id ver ∧ s.live id ver ∧ (s.ob id).es = es) ∨ s.ev x = .smap es)
      {kf : FV} (ey : s.ev y = kf) (hk : ∀ row ∈ es, ∀ kf, row.head? = some kf → KeyF c.P k kf) (hkf : KeyF c.P k kf) {vf : FV} {found : Bool} (hl : MLook es kf (c.ty e).zfv vf found) (hn : vf.hand = none) : Eff c s d (.lookup T x y ok) (if ok then .tup [vf, .bool found] else vf) []
  | update {T k e : Nat} (hT : (c.ty T).k = .map k e) (K : Keyed c.P k) (x y z : Operand) {id ver : Nat} (ex : s.ev x = .omap id ver) (hlf : (s.ob id).life = .mapo) (hver : (s.ob id).ver = ver)
      {kf vf : FV} (ey : s.ev y = kf) (ez : s.ev z = vf) (hk : ∀ row ∈ (s.ob id).es, ∀ kf, row.head? = some kf → KeyF c.P k kf) (hkf : KeyF c.P k kf) (hn : vf.hand = none) {es' : List (List FV)} (hs : MSet (s.ob id).es kf vf es') :
      Eff c s d (.mapUpdate T x y z) .undef [(id, { s.ob id with es := es' })]

/-- an operation without a value -/
def NoVal (op : Op) : Prop := (∃ T x y, op = .store T x y) ∨ ∃ T x y z, op = .mapUpdate T x y z
/-- the state behind an operation -/
def FS.putD (s : FS) : Option Nat → FV → FS
  | some d, f => s.put d f
  | none, _ => s
def FS.app (s : FS) (dst : Option Nat) (f : FV) (wr : List (Nat × FObj)) : FS := (s.wr wr).putD dst f

section
variable {c : Ctx} {w0 w : World} {J : Nat → Prop} {s : FS} {a : Act} {β : Nat → Option Nat}

theorem Good.wp {o : Oper} {f : FV} {wr : List (Nat × FObj)} (h : Good c w0 J s a o w f wr) (hd : ∀ d, o.dst = some d → d < c.N) {K : Act → World → Prop} {Q : Exit → Act → World → Prop} (hK : ∀ a' w' β', FR c.N w0 J (s.app o.dst f wr) a' w' β' → K a' w') : o.wp c.P a w K Q := by
  obtain ⟨v, w', β', hr, hF, hV, hver⟩ := h
  unfold Oper.wp
  rw [hr, Oper.upon_value]
  unfold FS.app at hK
  cases hdd : o.dst with
  | none => rw [hdd] at hK; exact hK _ _ _ hF
  | some d => rw [hdd] at hK; exact hK _ _ _ (hF.put (hd d hdd) hV hver)

theorem Eff.sound {d : Nat} {op : Op} {f : FV} {wr : List (Nat × FObj)} (h : Eff c s d op f wr) (hF : FR c.N w0 J s a w β) (o : Oper) (ho : o.op = op) (hd : o.dst = some d ∨ (o.dst = none ∧ NoVal op)) (hdN : ∀ d, o.dst = some d → d < c.N)
    {K : Act → World → Prop} {Q : Exit → Act → World → Prop} (hK : ∀ a' w' β', FR c.N w0 J (s.app o.dst f wr) a' w' β' → K a' w') : o.wp c.P a w K Q := by
  obtain ⟨dst, op', ty, pos, after, g⟩ := o
  dsimp only at ho hd hdN hK
  subst ho
  by_cases hst : NoVal op'
  · rcases hst with ⟨T, x, y, rfl⟩ | ⟨T, x, y, z, rfl⟩
    · cases h with
      | store hk x y ex hl hv ey hf hfl hj ho =>
        obtain ⟨w', h1, h2⟩ := good_store (dst := dst) (ty := ty) (pos := pos) (after := after) (g := g) hF hk x y ex hl hv ey hf hfl hj ho
        unfold Oper.wp
        rw [h1, Oper.upon_skip]
        unfold FS.app at hK
        cases dst with
        | none => exact hK _ _ _ h2
        | some d => exact hK _ _ _ (h2.put (hdN d rfl) (VR.of_rd (.undef _) rfl) (fun id ver e => by cases e))
      | storeH hk hz x y ex hlf hver hsz ey hf hj =>
        obtain ⟨w', h1, h2⟩ := good_storeH (dst := dst) (ty := ty) (pos := pos) (after := after) (g := g) hF hk hz x y ex hlf hver hsz ey hf hj
        unfold Oper.wp
        rw [h1, Oper.upon_skip]
        unfold FS.app at hK
        cases dst with
        | none => exact hK _ _ _ h2
        | some d => exact hK _ _ _ (h2.put (hdN d rfl) (VR.of_rd (.undef _) rfl) (fun id ver e => by cases e))
    · cases h with
      | update hT K x y z ex hlf hver ey ez hk hkf hn hs =>
        obtain ⟨w', h1, h2⟩ := good_update (dst := dst) (ty := ty) (pos := pos) (after := after) (g := g) hF hT K x y z ex hlf hver ey ez hk hkf hn hs
        unfold Oper.wp
        rw [h1, Oper.upon_skip]
        unfold FS.app at hK
        cases dst with
        | none => exact hK _ _ _ h2
        | some d => exact hK _ _ _ (h2.put (hdN d rfl) (VR.of_rd (.undef _) rfl) (fun id ver e => by cases e))
  · obtain rfl : dst = some d := by
      rcases hd with h' | ⟨_, h'⟩
      · exact h'
      · exact absurd h' hst
    cases h with
    | move x => exact (good_move hF x).wp hdN hK
    | assign x => exact (good_assign hF x).wp hdN hK
    | pick cnd x y hb => exact (good_pick hF cnd x y hb).wp hdN hK
    | ibin op T T2 x y ex ey hf => exact (good_ibin hF op T T2 x y ex ey hf).wp hdN hK
    | idiv op T T2 x y ex ey hn hop => exact (good_idiv hF op T T2 x y ex ey hn hop).wp hdN hK
    | bbin op x y hT ex ey hop => exact (good_bbin hF op x y hT ex ey hop).wp hdN hK
    | not T x ex => exact (good_not hF T x ex).wp hdN hK
    | neg T x ex => exact (good_neg hF T x ex).wp hdN hK
    | min2 bi T T2 x y ex ey hbi => exact (good_min2 hF bi T T2 x y ex ey hbi).wp hdN hK
    | lenOwn hT x ex hl => exact (good_len_own hF hT x ex hl).wp hdN hK
    | lenList hT x ex => exact (good_len_list hF hT x ex).wp hdN hK
    | lenNil hT x ex => exact (good_len_nil hF hT x ex).wp hdN hK
    | fieldPtr hT hf hft hsz x ex hl => exact (good_field_ptr hF hT hf hft hsz x ex hl).wp hdN hK
    | fieldEptr hT hf hft hsz x ex => exact (good_field_eptr hF hT hf hft hsz x ex).wp hdN hK
    | indexList hT he x y ex hsz ey h1 => exact (good_index_list hF hT he x y ex hsz ey h1).wp hdN hK
    | indexOwn hT he x y ex hl hsz ey h1 => exact (good_index_own hF hT he x y ex hl hsz ey h1).wp hdN hK
    | indexAPtr hT he x y ex hl ey h1 => exact (good_indexA_ptr hF hT he x y ex hl ey h1).wp hdN hK
    | indexAEptr hT he x y ex ey h1 => exact (good_indexA_eptr hF hT he x y ex ey h1).wp hdN hK
    | loadEptr hk x ex hj ho ho' => exact (good_load_eptr hF hk x ex hj ho ho').wp hdN hK
    | loadPtr hk x ex hl hrl hj ho ho' => exact (good_load_ptr hF hk x ex hl hrl hj ho ho').wp hdN hK
    | store hk x y ex hl hv ey hf hfl hj ho => exact absurd (.inl ⟨_, _, _, rfl⟩) hst
    | storeH hk hz x y ex hlf hver hsz ey hf hj => exact absurd (.inl ⟨_, _, _, rfl⟩) hst
    | loadH hk hz x ex hlf hver hsz hj => exact (good_loadH hF hk hz x ex hlf hver hsz hj).wp hdN hK
    | appRoom hT he hpos x y ex hlf hver hE hsz hon ey h2 h1 => exact (good_appRoom hF d hT he hpos x y ex hlf hver hE hsz hon ey h2 h1).wp hdN hK
    | appFull hT he hpos x y ex hlf hver hE hsz hon ey h2 h1 hb hm => exact (good_appFull hF d hT he hpos x y ex hlf hver hE hsz hon ey h2 h1 hb hm).wp hdN hK
    | update hT K x y z ex hlf hver ey ez hk hkf hn hs => exact absurd (.inr ⟨_, _, _, _, rfl⟩) hst
    | makeMap T => exact (good_makeMap hF d T).wp hdN hK
    | look hT he K x y ok ex ey hk hkf hl hn => exact (good_look hF hT he K x y ok ex ey hk hkf hl hn).wp hdN hK
    | alloc hk hz => exact (good_alloc hF d hk hz).wp hdN hK
    | box x ex hf => exact (good_box hF d x ex hf).wp hdN hK
    | build hT hfs ps hf => exact (good_build hF hT hfs ps hf).wp hdN hK
    | buildA hT he ps hf => exact (good_buildA hF hT he ps hf).wp hdN hK
    | buildSlice hT he ps es hn hw ho hcap hnm hf => exact (good_buildSlice hF d hT he ps es hn hw ho hcap hnm hf).wp hdN hK
    | makeSlice hT he x y ex ey ho hb hn => exact (good_makeSlice hF d hT he x y ex ey ho hb hn).wp hdN hK
    | sliceOwn hT he x lo hi ex hl hsz hlo hhi h1 h2 => exact (good_slice_own hF hT he x lo hi ex hl hsz hlo hhi h1 h2).wp hdN hK
    | sliceList hT he x lo hi ex hsz hlo hhi h1 h2 => exact (good_slice_list hF hT he x lo hi ex hsz hlo hhi h1 h2).wp hdN hK
    | sliceNil hT he x lo hi ex hlo hhi => exact (good_slice_nil hF hT he x lo hi ex hlo hhi).wp hdN hK
    | extract x ex hf hn => exact (good_extract hF x ex hf hn).wp hdN hK
    | nilPtr x ex hl => exact (good_nilCheck_ptr hF x ex hl).wp hdN hK
    | nilEptr x ex => exact (good_nilCheck_eptr hF x ex).wp hdN hK
    | append hT he hpos x y ex ey h1 hE h2 hb hm => exact (good_append hF d hT he hpos x y ex ey h1 hE h2 hb hm).wp hdN hK
    | call hs hm hx =>
      rename_i fi xs ts m gs
      refine call_wp hF hs hx (fun v w' hb hr => ?_)
      have hG := hF.grow hb
      have hnew : ∀ b, w.heap.size ≤ b ∧ b < w'.heap.size → Imm J w' β s b ∧ w'.heap[b]? = w'.heap[b]? := fun b hb' => ⟨⟨hb'.2, hF.fresh b (Nat.le_trans hF.bel.size hb'.1), fun id hl e => by
        have := ((hF.obj id (Life.mine_ne hl)).lt e).2; omega⟩, rfl⟩
      have hrd : Rd w' (Imm J w' β s) v f := by
        rcases hm with rfl | rfl
        · exact Rd.mono hnew hr
        · refine Rd.mono (fun b hb' => ?_) hr
          rcases hb' with h1 | h1
          · exact ⟨(Imm.grow (by simpa [Lent] using h1) hb).1, rfl⟩
          · exact hnew b h1
      exact hK _ _ _ (hG.put (hdN d rfl) (VR.of_rd hrd hs.hand) (fun id ver e => by rw [hs.hand] at e; cases e))
    | callOw hs hx =>
      rename_i fi xs ts E sz gs es
      refine call_wp hF hs hx (fun v w' hb hr => ?_)
      obtain ⟨es', us, e, hw, ho, hrow, hrl⟩ := hr
      injection e with _ e
      subst e
      have hG := hF.grow hb
      -- the row is not among what the other slots hold
      have hlow := hrow.lt
      have hI2 : ∀ b, (w.heap.size ≤ b ∧ b < w'.heap.size ∧ v.ownBlock ≠ some b) → Imm J w' (updB β d v.ownBlock) (s.set d ⟨(s.ob d).ver + 1, .own, E, sz, es⟩) b := fun b hb' => ⟨hb'.2.1, hF.fresh b (Nat.le_trans hF.bel.size hb'.1), fun id hl e => by
        rw [FS.ob_set] at hl
        unfold updB at e
        split at hl
        · rename_i hh; rw [if_pos hh.symm] at e; exact hb'.2.2 e
        · rename_i hh
          rw [if_neg (fun e => hh e.symm)] at e
          have := ((hF.obj id (Life.mine_ne hl)).lt e).2; omega⟩
      have hM : FR c.N w0 J (s.set d ⟨(s.ob d).ver + 1, .own, E, sz, es⟩) a w' (updB β d v.ownBlock) := by
        have hI : ∀ b, Imm J w β s b → Imm J w' (updB β d v.ownBlock) (s.set d ⟨(s.ob d).ver + 1, .own, E, sz, es⟩) b ∧ w'.heap[b]? = w.heap[b]? := fun b hbb => by
          refine ⟨⟨Nat.lt_of_lt_of_le hbb.1 hb.size, hbb.2.1, fun id hl => ?_⟩, hb.block b hbb.1⟩
          rw [FS.ob_set] at hl
          unfold updB
          split at hl
          · rename_i hh; rw [if_pos hh.symm]; intro e; have := (hlow b e).1; have := hbb.1; omega
          · rename_i hh; rw [if_neg (fun e => hh e.symm)]; exact hbb.2.2 id hl
        refine hF.step (C := fun id => id = d) hF.size hF.defers (hF.bel.trans (hb.mono hF.bel.size)) hI (fun k => .inl ⟨rfl, rfl⟩) (fun id hC => ?_) (fun id hC => ?_) (fun id hC hl hvv => ?_) (fun id hC hl _ => ?_) ?_
        · refine ⟨by rw [FS.ob_set, if_neg (fun e => hC e.symm)], by unfold updB; rw [if_neg hC], fun hl b hbb => hb.block b ((hF.obj id hl).lt hbb).2⟩
        · subst hC; rw [FS.ob_set, if_pos rfl]; exact Nat.le_succ _
        · subst hC; rw [FS.ob_set, if_pos rfl] at hvv; simp at hvv
        · subst hC
          rw [FS.ob_set, if_pos rfl]
          rw [updB_same]
          exact .ofRow ⟨hw, ho, v, us, own_mono hrow hF.bel.size, rfl, hrl.mono (fun b hb' => ⟨hI2 b hb', rfl⟩)⟩ (.own rfl) rfl
        · intro id id' b hl hl' e e'
          rw [FS.ob_set] at hl hl'
          unfold updB at e e'
          by_cases h1 : id = d
          · by_cases h2 : id' = d
            · rw [h1, h2]
            · rw [if_pos h1] at e; rw [if_neg h2] at e'; rw [if_neg (fun e => h2 e.symm)] at hl'
              have := (hlow b e).1; have := ((hF.obj id' hl').lt e').2; omega
          · by_cases h2 : id' = d
            · rw [if_neg h1] at e; rw [if_pos h2] at e'; rw [if_neg (fun e => h1 e.symm)] at hl
              have := (hlow b e').1; have := ((hF.obj id hl).lt e).2; omega
            · rw [if_neg h1] at e; rw [if_neg h2] at e'; rw [if_neg (fun e => h1 e.symm)] at hl; rw [if_neg (fun e => h2 e.symm)] at hl'
              exact hF.inj id id' b hl hl' e e'
      refine hK _ _ _ (hM.put (hdN d rfl) (fun _ _ => ?_) (fun id ver e => ?_))
      · rw [FS.ob_set, if_pos rfl, updB_same]
        exact OwnV.of_row hrow rfl rfl rfl rfl
      · simp only [FV.hand, Option.some.injEq, Prod.mk.injEq] at e
        obtain ⟨rfl, rfl⟩ := e
        rw [FS.ob_set, if_pos rfl]
        exact Nat.le_refl _
end
end Go.Proofs.Ythijndjgchbeoaa
