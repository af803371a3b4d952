/-
  Some texts as one: FmI, FmJ.
-/
import Derived.Test.YthjplkjpehdpfaaZB
/-
 What an operation does on plain values, as one relation; that the model follows; that it looks only at its operands.
-/
namespace Go.Proofs.Ythjplkjpehdpfaa
set_option linter.unusedVariables false
open Go.RowKit Go.Maps

def zfV (P : Program) (f : Nat) : Bool :=
 match P.funcs[f]? with
 | some fn => fn.body.isSome && fn.name != "runtime.NumGoroutine"
 | none => false

inductive UO where
 | fr | sh | ow (E sz : Nat)
 deriving DecidableEq, Inhabited

def zaV (w w' : World) (I : Nat → Prop) : UO → Value → FV → Prop
 | .fr, v, f => Rd w' (fun b => w.heap.size ≤ b ∧ b < w'.heap.size) v f
 | .sh, v, f => Rd w' (fun b => I b ∨ (w.heap.size ≤ b ∧ b < w'.heap.size)) v f
 | .ow E sz, v, f => ∃ es us, f = .list sz es ∧ (∀ e ∈ es, e.length = sz) ∧ (∀ f ∈ es.flatten, f.one = true) ∧ w'.ownsRow w.heap.size E sz v es.length us ∧ RdL w' (fun b => w.heap.size ≤ b ∧ b < w'.heap.size ∧ v.ownBlock ≠ some b) us es.flatten

structure yj (P : Program) (f : Nat) (args : List FV) (m : UO) (res : FV) : Prop where
 go : zfV P f = true
 hand : res.hand = none
 calls : ∀ (w : World) (I : Nat → Prop) (vs : List Value), (∀ b, I b → b < w.heap.size) → RdL w I vs args → Calls P f vs.toArray w fun e w' => ∃ v, e = .returned v ∧ Below w.heap.size w w' ∧ zaV w w' I m v res

inductive FV.le : FV → FV → Prop where
 | refl (f : FV) : FV.le f f
 | undef (f : FV) : FV.le f .undef
 | nil (sz : Nat) : FV.le .nil (.list sz [])
 | aggL {fs gs : List FV} (hl : fs.length = gs.length) (h : ∀ (j : Nat) f g, fs[j]? = some f → gs[j]? = some g → FV.le f g) : FV.le (.agg fs) (.agg gs)
 | tupL {fs gs : List FV} (hl : fs.length = gs.length) (h : ∀ (j : Nat) f g, fs[j]? = some f → gs[j]? = some g → FV.le f g) : FV.le (.tup fs) (.tup gs)
inductive LeL : List FV → List FV → Prop where
 | nil : LeL [] []
 | cons {f g : FV} {fs gs : List FV} (h : FV.le f g) (hs : LeL fs gs) : LeL (f :: fs) (g :: gs)
theorem LeL.get {fs gs : List FV} (h : LeL fs gs) : fs.length = gs.length ∧ ∀ (j : Nat) f g, fs[j]? = some f → gs[j]? = some g → FV.le f g := by
 induction h with
 | nil => exact ⟨rfl, by simp⟩
 | cons h hs ih =>
  refine ⟨by simp [ih.1], fun j f g hf hg => ?_⟩
  cases j with
  | zero => simp at hf hg; subst hf; subst hg; exact h
  | succ j => exact ih.2 j f g (by simpa using hf) (by simpa using hg)
theorem FV.le.agg {fs gs : List FV} (h : LeL fs gs) : FV.le (.agg fs) (.agg gs) := .aggL h.get.1 h.get.2
theorem FV.le.tup {fs gs : List FV} (h : LeL fs gs) : FV.le (.tup fs) (.tup gs) := .tupL h.get.1 h.get.2
theorem Rd.le {w : World} {I : Nat → Prop} {f g : FV} (h : FV.le f g) : ∀ {v : Value}, Rd w I v f → Rd w I v g := by
 induction h with
 | refl f => exact id
 | undef f => exact fun _ => .undef _
 | nil sz => intro v h; cases h; exact .list none 0 0 sz [] [] rfl (Nat.le_refl _) (by simp) (by simp) (by simp) (by simp) (by simp)
 | @aggL fs gs hl h ih =>
  intro v hv
  cases hv with
  | agg us fs hl' hr =>
   refine .agg us gs (hl'.trans hl) fun j u g hu hg => ?_
   have hj : j < fs.length := by rw [hl]; exact (List.getElem?_eq_some_iff.1 hg).1
   exact ih j fs[j] g (by simp [hj]) hg (hr j u _ hu (by simp [hj]))
 | @tupL fs gs hl h ih =>
  intro v hv
  cases hv with
  | tup us fs hl' hr =>
   refine .tup us gs (hl'.trans hl) fun j u g hu hg => ?_
   have hj : j < fs.length := by rw [hl]; exact (List.getElem?_eq_some_iff.1 hg).1
   exact ih j fs[j] g (by simp [hj]) hg (hr j u _ hu (by simp [hj]))
inductive XC (s : FSt) (m : UO) : FV → FV → Prop where
 | plain (f : FV) (hn : f.hand = none) : XC s m f f
 | nil (sz : Nat) : XC s m .nil (.list sz [])
 | sub (f g : FV) (hn : f.hand = none) (hle : FV.le f g) : XC s m f g
 | own (id ver o n : Nat) (hl : s.live id ver) (hrl : (s.ob id).life.row = true) (hm : m = .sh → (s.ob id).life = .shut) : XC s m (.own id ver o n) (.list (s.ob id).sz (((s.ob id).es.drop o).take n))
inductive xT (s : FSt) (m : UO) : List Operand → List FV → Prop where
 | nil : xT s m [] []
 | cons {x : Operand} {xs : List Operand} {g : FV} {gs : List FV} (h : XC s m (s.ev x) g) (hs : xT s m xs gs) : xT s m (x :: xs) (g :: gs)

section
variable {c : Ctx} {w0 w : World} {J : JJ} {s : FSt} {a : Act} {β : Nat → Option Nat}

def zdi (J : JJ) (w : World) (β : Nat → Option Nat) (s : FSt) (m : UO) (b : Nat) : Prop := if m = .sh then Imm J w β s b else b < w.heap.size

theorem FR.arg (h : FR c.N w0 J s a w β) {m : UO} {x : Operand} {g : FV} (hx : XC s m (s.ev x) g) : Rd w (zdi J w β s m) (a.eval x) g := by
 have him : ∀ b, Imm J w β s b → zdi J w β s m b ∧ w.heap[b]? = w.heap[b]? := fun b hb => by
  unfold zdi; split
  ·exact ⟨hb, rfl⟩
  ·exact ⟨hb.1, rfl⟩
 generalize hf : s.ev x = f at hx
 cases hx with
 | plain f hn => exact (h.ev_rd hf hn).mono him
 | sub f g hn hle => exact ((h.ev_rd hf hn).mono him).le hle
 | nil sz =>
  rw [h.ev_nil hf]
  exact .list none 0 0 sz [] [] rfl (Nat.le_refl _) (by simp) (by simp) (by simp) (by simp) (by simp)
 | own id ver o n hl hrl hm =>
  obtain ⟨A, cc, e1, e2, e3, e4, e5⟩ := (h.ev_own hf hl.1 hl.2).ex
  obtain ⟨hw, hone, A', cc', us, e1', e2', hr, hA', hcell⟩ := h.src hf (Src.own id ver o n hl hrl)
  rw [e1] at e1' ⊢
  injection e1' with k1 k2 k3
  subst k1
  refine .list A n cc _ _ us k2.symm e2 hw hone (fun h0 => ?_) hr.1 (hr.mono him).2
  cases hb : β id with
  | none => have := (e4 hb).2; omega
  | some b =>
   obtain ⟨o', rfl, _⟩ := e5 b hb
   refine ⟨b, o', rfl, ?_, fun j u hu => by have := hcell _ rfl j u hu; rwa [yx] at this⟩
   have hlt := ((h.obj id hl.1).lt hb).2
   unfold zdi; split
   ·rename_i hsh
    have hshut := hm hsh
    refine ⟨hlt, h.fresh b ((h.obj id hl.1).lt hb).1 (.inr ⟨id, hl.1, hb⟩), fun id' hl' e => ?_⟩
    have := h.inj id id' b hl.1 (zN.mine_ne hl') hb e
    subst this
    rw [hshut] at hl'; cases hl'
   ·exact hlt
theorem FR.args (h : FR c.N w0 J s a w β) {m : UO} : ∀ {xs : List Operand} {gs : List FV}, xT s m xs gs → RdL w (zdi J w β s m) (xs.map a.eval) gs
 | _, _, .nil => RdL.nil
 | _, _, .cons hx hs => RdL.cons (h.arg hx) (h.args hs)

theorem yt {P : Program} {f : Nat} (hg : zfV P f = true) (args : Array Value) (w : World) : (callFunc f args).run P w = .ok (.enter f args) w := by
 unfold zfV at hg
 cases hf : P.funcs[f]? with
 | none => rw [hf] at hg; cases hg
 | some fn =>
  rw [hf] at hg
  simp only [Bool.and_eq_true, bne_iff_ne, ne_eq] at hg
  have hb : fn.body ≠ none := fun e => by rw [e] at hg; cases hg.1
  have hp : (program : Sem Program).run P w = .ok P w := rfl
  simp [callFunc, hp, hf, hg.2, hb]

theorem zdq (h : FR c.N w0 J s a w β) {f : Nat} {xs : Array Operand} {ts : Array TypeId} {m : UO} {gs : List FV} {res : FV} (hs : yj c.P f gs m res) (hx : xT s m xs.toList gs) {dst : Option Nat} {ty : TypeId} {pos : String} {after : Array Edge} {g : Option (Nat × Bool)}
  {K : Act → World → Prop} {Q : Exit → Act → World → Prop} (hK : ∀ v w', Below w.heap.size w w' → zaV w w' (zdi J w β s m) m v res → K (a.put dst v) w') :
  (⟨dst, .call { callee := .value (.func f), args := xs, argTypes := ts }, ty, pos, after, g⟩ : Oper).wp c.P a w K Q := by
 have hlent : ∀ b, zdi J w β s m b → b < w.heap.size := fun b hb => by
  unfold zdi at hb; split at hb
  ·exact hb.1
  ·exact hb
 have hc := hs.calls w (zdi J w β s m) (xs.toList.map a.eval) hlent (h.args hx)
 have hmap : (xs.toList.map a.eval).toArray = xs.map a.eval := by
  apply Array.ext'
  simp
 rw [hmap] at hc
 unfold Oper.wp
 have hrun : (execOp a.eval ⟨dst, .call { callee := .value (.func f), args := xs, argTypes := ts }, ty, pos, after, g⟩).run c.P w = .ok (.enter f (xs.map a.eval)) w := by
  have := yt (P := c.P) hs.go (xs.map a.eval) w
  simp [execOp, resolve, Act.eval, Deferred.ofValue, invoke, this]
 rw [hrun, Oper.upon_enter]
 refine hc.mono ?_
 rintro e w' ⟨v, rfl, hb, hr⟩
 exact hK v w' hb hr
end

section
variable {c : Ctx} {w0 w : World} {J : JJ} {s : FSt} {a : Act} {β : Nat → Option Nat}
theorem zeG (h : FR c.N w0 J s a w β) {f : Nat} {x : Operand} {xs : Array Operand} {ts : Array TypeId} {gs caps : List FV} {res : FV} (ex : s.ev x = .fn f caps) (hs : yj c.P f (gs ++ caps) .fr res) (hx : xT s .fr xs.toList gs) {dst : Option Nat} {ty : TypeId} {pos : String} {after : Array Edge} {g : Option (Nat × Bool)}
  {K : Act → World → Prop} {Q : Exit → Act → World → Prop} (hK : ∀ v w', Below w.heap.size w w' → zaV w w' (fun b => b < w.heap.size) .fr v res → K (a.put dst v) w') :
  (⟨dst, .call { callee := .value x, args := xs, argTypes := ts }, ty, pos, after, g⟩ : Oper).wp c.P a w K Q := by
 have hxs := h.args hx
 have hl : ∀ b, zdi J w β s .fr b → b < w.heap.size := fun b hb => by simpa [zdi] using hb
 have hv := VR.rd (by have := h.ev x; rwa [ex] at this) rfl
 generalize hxe : a.eval x = v at hv
 cases hv with
 | fn f us fs hul hur =>
  have hcap : RdL w (fun b => b < w.heap.size) us caps := ⟨hul, fun j u q hu hq => Rd.mono (fun b hb => ⟨hb.1, rfl⟩) (hur j u q hu hq)⟩
  have harg : RdL w (fun b => b < w.heap.size) (xs.toList.map a.eval) gs := ⟨hxs.1, fun j u q hu hq => Rd.mono (fun b hb => ⟨hl b hb, rfl⟩) (hxs.2 j u q hu hq)⟩
  have hc := hs.calls w (fun b => b < w.heap.size) (xs.toList.map a.eval ++ us) (fun b hb => hb) (harg.append hcap)
  have hmap : (xs.toList.map a.eval ++ us).toArray = xs.map a.eval ++ us.toArray := by
   apply Array.ext'
   simp
  rw [hmap] at hc
  unfold Oper.wp
  have hrun : (execOp a.eval ⟨dst, .call { callee := .value x, args := xs, argTypes := ts }, ty, pos, after, g⟩).run c.P w = .ok (.enter f (xs.map a.eval ++ us.toArray)) w := by
   have := yt (P := c.P) hs.go (xs.map a.eval ++ us.toArray) w
   simp [execOp, resolve, hxe, Deferred.ofValue, invoke, this]
  rw [hrun, Oper.upon_enter]
  refine hc.mono ?_
  rintro e w' ⟨v, rfl, hb, hr⟩
  exact hK v w' hb hr
theorem zbj (hF : FR c.N w0 J s a w β) {f : Nat} {xs : Array Operand} {caps : List FV} (hx : xs.toList.map s.ev = caps) (hc : ∀ g ∈ caps, g.hand = none) {dst : Option Nat} {ty : TypeId} {pos : String} {after : Array Edge} {g : Option (Nat × Bool)} :
  yp c w0 J s a ⟨dst, .makeFunc (.func f) #[] xs, ty, pos, after, g⟩ w (.fn f caps) [] := by
 have hl : RdL w (Imm J w β s) (xs.toList.map a.eval) caps := by
  subst hx
  refine ⟨by simp, fun j u q hu hq => ?_⟩
  rw [List.getElem?_map] at hu hq
  cases hx2 : xs.toList[j]? with
  | none => rw [hx2] at hu; cases hu
  | some y =>
   rw [hx2] at hu hq
   simp only [Option.map_some, Option.some.injEq] at hu hq
   subst hu; subst hq
   exact VR.rd (hF.ev y) (hc _ (List.mem_map.2 ⟨y, List.mem_of_getElem? hx2, rfl⟩))
 have hv : (xs.toList.map a.eval).toArray = xs.map a.eval := by apply Array.ext'; simp
 exact .rd hF (v := .func (.func f) #[] (xs.map a.eval)) (by simp [execOp, Instr.makeFunc]) (by rw [← hv]; exact .fn f _ _ hl.1 hl.2) rfl
end

def Uh (op : Op) : Prop := (∃ T x y, op = .store T x y) ∨ ∃ T x y z, op = .mapUpdate T x y z
def Xl : Op → Bool
 | .move _ => true
 | .assign _ => true
 | _ => false
def xi (s : FSt) (d : Nat) (op : Op) : List Nat := d :: bif Xl op then [] else op.operands.toList.filterMap fun x => (s.ev x).hand.map (·.1)
theorem zbU (s : FSt) (d : Nat) (op : Op) : d ∈ xi s d op := List.mem_cons_self
theorem zeP {s : FSt} {d : Nat} {op : Op} {x : Operand} (hst : Xl op = false) (hx : x ∈ op.operands.toList) {id ver : Nat} (h : (s.ev x).hand = some (id, ver)) : id ∈ xi s d op := by
 unfold xi
 rw [hst]
 exact List.mem_cons_of_mem _ (List.mem_filterMap.2 ⟨x, hx, by rw [h]; rfl⟩)

inductive Eff (c : Ctx) (s : FSt) (d : Nat) : Op → FV → List (Nat × zg) → Prop where
 | move (x : Operand) : Eff c s d (.move x) (s.ev x) []
 | assign (x : Operand) : Eff c s d (.assign x) (s.ev x) []
 | pick (cnd x y : Operand) {b : Bool} (hb : s.ev cnd = .bool b) : Eff c s d (.pick cnd x y) (if b then s.ev x else s.ev y) []
 | ibin (op : BinOp) (T T2 : TypeId) (x y : Operand) {k : IntKind} {m n : Int} {f : FV} (ex : s.ev x = .int k m) (ey : s.ev y = .int k n) (hf : ibin op k m n = some f) : Eff c s d (.binOp op T x y T2) f []
 | idiv (op : BinOp) (T T2 : TypeId) (x y : Operand) {k : IntKind} {m n : Int} (ex : s.ev x = .int k m) (ey : s.ev y = .int k n) (hn : n ≠ 0) (hop : op = .quo ∨ op = .rem) : Eff c s d (.binOp op T x y T2) (.int k (if op = .quo then k.wrap (m.tdiv n) else m.tmod n)) []
 | bbin (op : BinOp) {T T2 : TypeId} (x y : Operand) {m n : Bool} (hT : (c.ty T).k = .bool) (ex : s.ev x = .bool m) (ey : s.ev y = .bool n) (hop : op = .eql ∨ op = .neq) : Eff c s d (.binOp op T x y T2) (.bool (if op = .eql then m == n else m != n)) []
 | not (T : TypeId) (x : Operand) {b : Bool} (ex : s.ev x = .bool b) : Eff c s d (.unOp .not T x) (.bool (!b)) []
 | shift (op : BinOp) (T T2 : TypeId) (x y : Operand) {k yk : IntKind} {m n : Int} (ex : s.ev x = .int k m) (ey : s.ev y = .int yk n) (hn : 0 ≤ n) (hop : op = .shl ∨ op = .shr) : Eff c s d (.binOp op T x y T2) (.int k (if op = .shl then k.wrap (m * 2 ^ (min n.toNat k.bits)) else m.fdiv (2 ^ (min n.toNat k.bits)))) []
 | conv {T T2 : TypeId} {k2 : IntKind} (hT : (c.ty T).k ≠ .other) (hT2 : (c.ty T2).k = .int k2) (x : Operand) {k : IntKind} {n : Int} (ex : s.ev x = .int k n) : Eff c s d (.convert T T2 x) (.int k2 (k2.wrap n)) []
 | neg (T : TypeId) (x : Operand) {k : IntKind} {n : Int} (ex : s.ev x = .int k n) : Eff c s d (.unOp .neg T x) (.int k (k.wrap (-n))) []
 | min2 (bi : Builtin) (T T2 : TypeId) (x y : Operand) {k : IntKind} {m n : Int} (ex : s.ev x = .int k m) (ey : s.ev y = .int k n) (hbi : bi = .min ∨ bi = .max) :
   Eff c s d (.call { callee := .builtin bi, args := #[x, y], argTypes := #[T, T2] }) (.int k (if bi = .min then (if n < m then n else m) else (if m < n then n else m))) []
 | lenOwn {T e : TypeId} (hT : (c.ty T).k = .slice e) (x : Operand) {id ver o n : Nat} (ex : s.ev x = .own id ver o n) (hl : s.live id ver) : Eff c s d (.call { callee := .builtin .len, args := #[x], argTypes := #[T] }) (.int .i64 n) []
 | lenList {T e : TypeId} (hT : (c.ty T).k = .slice e) (x : Operand) {sz : Nat} {es : List (List FV)} (ex : s.ev x = .list sz es) : Eff c s d (.call { callee := .builtin .len, args := #[x], argTypes := #[T] }) (.int .i64 es.length) []
 | lenNil {T e : TypeId} (hT : (c.ty T).k = .slice e) (x : Operand) (ex : s.ev x = .nil) : Eff c s d (.call { callee := .builtin .len, args := #[x], argTypes := #[T] }) (.int .i64 0) []
 | fieldPtr {T ft i off : Nat} {fs : List (Nat × Nat)} (hT : (c.ty T).k = .strct fs) (hf : fs[i]? = some (off, ft)) (hft : (c.ty ft).k ≠ .other) (hsz : (c.ty ft).size ≠ 0) (x : Operand) {id ver j o : Nat} (ex : s.ev x = .ptr id ver j o) (hl : s.live id ver) :
   Eff c s d (.fieldAddr T x i) (.ptr id ver j (o + off)) []
 | fieldEptr {T ft i off : Nat} {fs : List (Nat × Nat)} (hT : (c.ty T).k = .strct fs) (hf : fs[i]? = some (off, ft)) (hft : (c.ty ft).k ≠ .other) (hsz : (c.ty ft).size ≠ 0) (x : Operand) {sz j o : Nat} {es : List (List FV)} (ex : s.ev x = .eptr sz es j o) :
   Eff c s d (.fieldAddr T x i) (.eptr sz es j (o + off)) []
 | indexList {T e : Nat} (hT : (c.ty T).k = .slice e) (he : (c.ty e).k ≠ .other) (x y : Operand) {sz : Nat} {es : List (List FV)} {k : IntKind} {n : Nat} (ex : s.ev x = .list sz es) (hsz : (c.ty e).size = sz) (ey : s.ev y = .int k n) (h1 : n < es.length) :
   Eff c s d (.indexAddr T x y) (.eptr sz es n 0) []
 | indexOwn {T e : Nat} (hT : (c.ty T).k = .slice e) (he : (c.ty e).k ≠ .other) (x y : Operand) {id ver o m : Nat} {k : IntKind} {n : Nat} (ex : s.ev x = .own id ver o m) (hl : s.live id ver) (hsz : (c.ty e).size = (s.ob id).sz) (ey : s.ev y = .int k n) (h1 : n < m) :
   Eff c s d (.indexAddr T x y) (.ptr id ver (o + n) 0) []
 | indexAPtr {T m e : Nat} (hT : (c.ty T).k = .arr m e) (he : (c.ty e).k ≠ .other) (x y : Operand) {id ver j o : Nat} {k : IntKind} {n : Nat} (ex : s.ev x = .ptr id ver j o) (hl : s.live id ver) (ey : s.ev y = .int k n) (h1 : n < m) :
   Eff c s d (.indexAddr T x y) (.ptr id ver j (o + n * (c.ty e).size)) []
 | indexAEptr {T m e : Nat} (hT : (c.ty T).k = .arr m e) (he : (c.ty e).k ≠ .other) (x y : Operand) {sz j o : Nat} {es : List (List FV)} {k : IntKind} {n : Nat} (ex : s.ev x = .eptr sz es j o) (ey : s.ev y = .int k n) (h1 : n < m) :
   Eff c s d (.indexAddr T x y) (.eptr sz es j (o + n * (c.ty e).size)) []
 | loadEptr {T : Nat} {bb : Bool} (hk : (c.ty T).k.agg? = some bb) (x : Operand) {sz j o : Nat} {es : List (List FV)} (ex : s.ev x = .eptr sz es j o) (hj : j < es.length) (ho : o + (c.ty T).size ≤ sz) (ho' : o < sz) : Eff c s d (.load T x) (xV (c.ty T) ((es.getD j []).drop o)) []
 | loadPtr {T : Nat} {bb : Bool} (hk : (c.ty T).k.agg? = some bb) (x : Operand) {id ver j o : Nat} (ex : s.ev x = .ptr id ver j o) (hl : s.live id ver) (hrl : (s.ob id).life.row = true) (hj : j < (s.ob id).es.length) (ho : o + (c.ty T).size ≤ (s.ob id).sz) (ho' : o < (s.ob id).sz) :
   Eff c s d (.load T x) (xV (c.ty T) (((s.ob id).es.getD j []).drop o)) []
 | store {T : Nat} (hk : (c.ty T).k ≠ .other) (x y : Operand) {id ver j o : Nat} (ex : s.ev x = .ptr id ver j o) (hl : (s.ob id).life = .own) (hv : (s.ob id).ver = ver) {f : FV} (ey : s.ev y = f) (hf : f.cells.all FV.one = true) (hfl : f.cells.length = (c.ty T).size)
   (hj : j < (s.ob id).es.length) (ho : o + (c.ty T).size ≤ (s.ob id).sz) : Eff c s d (.store T x y) .undef [(id, { s.ob id with es := (s.ob id).es.set j (splice ((s.ob id).es.getD j []) o f.cells) })]
 | alloc {T : Nat} (hk : (c.ty T).k ≠ .other) (hz : (c.ty T).zero.all FV.one = true) : Eff c s d (.alloc T) (.ptr d ((s.ob d).ver + 1) 0 0) [(d, ⟨(s.ob d).ver + 1, .own, T, (c.ty T).zero.length, [(c.ty T).zero]⟩)]
 | box {T : Nat} (x : Operand) {f : FV} (ex : s.ev x = f) (hf : f.cells.all FV.one = true) : Eff c s d (.box T x) (.ptr d ((s.ob d).ver + 1) 0 0) [(d, ⟨(s.ob d).ver + 1, .own, T, f.cells.length, [f.cells]⟩)]
 | build {T : Nat} {fs : List (Nat × Nat)} (hT : (c.ty T).k = .strct fs) (hfs : ∀ p ∈ fs, (c.ty p.2).k ≠ .other) (ps : Array (Nat × Operand)) {cs : List FV} (hf : xr (fun i => (fs[i]?).map fun p => (p.1, (c.ty p.2).size)) (c.ty T).zero (s.parts ps) = some cs) :
   Eff c s d (.build T ps) (.agg cs) []
 | buildA {T n e : Nat} (hT : (c.ty T).k = .arr n e) (he : (c.ty e).k ≠ .other) (ps : Array (Nat × Operand)) {cs : List FV} (hf : xr (fun i => some (i * (c.ty e).size, (c.ty e).size)) (c.ty T).zero (s.parts ps) = some cs) : Eff c s d (.build T ps) (.agg cs) []
 | buildSlice {T e n : Nat} (hT : (c.ty T).k = .slice e) (he : (c.ty e).k ≠ .other) (ps : Array (Nat × Operand)) (es : List (List FV)) (hn : es.length = n) (hw : ∀ x ∈ es, x.length = (c.ty e).size) (ho : ∀ f ∈ es.flatten, f.one = true) (hcap : n * (c.ty e).size ≤ 16777216) (hnm : n ≤ 16777216)
   (hf : xr (fun i => some (i * (c.ty e).size, (c.ty e).size)) (List.replicate (n * (c.ty e).size) .undef) (s.parts ps) = some es.flatten) : Eff c s d (.buildSlice T n ps) (.own d ((s.ob d).ver + 1) 0 n) [(d, ⟨(s.ob d).ver + 1, .own, e, (c.ty e).size, es⟩)]
 | buildSliceS {T e n : Nat} (hT : (c.ty T).k = .slice e) (he : (c.ty e).k ≠ .other) (ps : Array (Nat × Operand)) (es : List (List FV)) (hn : es.length = n) (hw : ∀ x ∈ es, x.length = (c.ty e).size) (ho : ∀ f ∈ es.flatten, f.one = true) (hcap : n * (c.ty e).size ≤ 16777216) (hnm : n ≤ 16777216)
   (hf : xr (fun i => some (i * (c.ty e).size, (c.ty e).size)) (List.replicate (n * (c.ty e).size) .undef) (s.parts ps) = some es.flatten) : Eff c s d (.buildSlice T n ps) (.list (c.ty e).size es) []
 | makeSlice {T e n : Nat} (hT : (c.ty T).k = .slice e) (he : (c.ty e).k ≠ .other) (x y : Operand) {k1 k2 : IntKind} (ex : s.ev x = .int k1 n) (ey : s.ev y = .int k2 n) (ho : (c.ty e).zero.all FV.one = true) (hb : (c.ty e).bytes * n ≤ 281474976710656) (hn : n ≤ 281474976710656) :
   Eff c s d (.makeSlice T x y) (.own d ((s.ob d).ver + 1) 0 n) [(d, ⟨(s.ob d).ver + 1, .own, e, (c.ty e).size, List.replicate n (c.ty e).zero⟩)]
 | sliceOwn {T e : Nat} (hT : (c.ty T).k = .slice e) (he : (c.ty e).k ≠ .other) (x : Operand) (lo hi : Option Operand) {id ver o m l u : Nat} (ex : s.ev x = .own id ver o m) (hl : s.live id ver) (hsz : (c.ty e).size = (s.ob id).sz) (hlo : s.lo lo l) (hhi : s.hi hi m u) (h1 : l ≤ u) (h2 : u ≤ m) :
   Eff c s d (.slice T x lo hi none) (.own id ver (o + l) (u - l)) []
 | sliceList {T e : Nat} (hT : (c.ty T).k = .slice e) (he : (c.ty e).k ≠ .other) (x : Operand) (lo hi : Option Operand) {sz l u : Nat} {es : List (List FV)} (ex : s.ev x = .list sz es) (hsz : (c.ty e).size = sz) (hlo : s.lo lo l) (hhi : s.hi hi es.length u) (h1 : l ≤ u) (h2 : u ≤ es.length) :
   Eff c s d (.slice T x lo hi none) (.list sz ((es.drop l).take (u - l))) []
 | sliceNil {T e : Nat} (hT : (c.ty T).k = .slice e) (he : (c.ty e).k ≠ .other) (x : Operand) (lo hi : Option Operand) (ex : s.ev x = .nil) (hlo : s.lo lo 0) (hhi : s.hi hi 0 0) : Eff c s d (.slice T x lo hi none) .nil []
 | extract (x : Operand) {i : Nat} {fs : List FV} {f : FV} (ex : s.ev x = .tup fs) (hf : fs[i]? = some f) (hn : f.hand = none) : Eff c s d (.extract x i) f []
 | nilPtr (x : Operand) {id ver i o : Nat} (ex : s.ev x = .ptr id ver i o) (hl : s.live id ver) : Eff c s d (.nilCheck x) (.ptr id ver i o) []
 | nilEptr (x : Operand) {sz i o : Nat} {es : List (List FV)} (ex : s.ev x = .eptr sz es i o) : Eff c s d (.nilCheck x) (.eptr sz es i o) []
 | append {T e : Nat} (hT : (c.ty T).k = .slice e) (he : (c.ty e).k ≠ .other) (hpos : 0 < (c.ty e).size) (x y : Operand) {f1 f2 : FV} {es1 es2 : List (List FV)} {i : Option Nat} (ex : s.ev x = f1) (ey : s.ev y = f2) (h1 : Bas s f1 (c.ty e).size es1 i) (hE : ∀ k, i = some k → (s.ob k).E = e)
   (h2 : Src s f2 (c.ty e).size es2) (hb : (es1.length + es2.length) * (c.ty e).bytes ≤ 140737488355328) (hm : es1.length + es2.length ≤ 140737488355328) :
   Eff c s d (.call { callee := .builtin .append, args := #[x, y], argTypes := #[T, T] }) (.own d ((s.ob d).ver + 1) 0 (es1 ++ es2).length) (Zi s d e (c.ty e).size (es1 ++ es2) i)
 | appendS {T e : Nat} (hT : (c.ty T).k = .slice e) (he : (c.ty e).k ≠ .other) (hpos : 0 < (c.ty e).size) (x y : Operand) {f1 f2 : FV} {es1 es2 : List (List FV)} {i : Option Nat} (ex : s.ev x = f1) (ey : s.ev y = f2) (h1 : Bas s f1 (c.ty e).size es1 i) (hE : ∀ k, i = some k → (s.ob k).E = e)
   (h2 : Src s f2 (c.ty e).size es2) (hb : (es1.length + es2.length) * (c.ty e).bytes ≤ 140737488355328) (hm : es1.length + es2.length ≤ 140737488355328) :
   Eff c s d (.call { callee := .builtin .append, args := #[x, y], argTypes := #[T, T] }) (.list (c.ty e).size (es1 ++ es2)) (Zi s d e (c.ty e).size (es1 ++ es2) i ++ [(d, ⟨(s.ob d).ver + 1, .dead, e, (c.ty e).size, es1 ++ es2⟩)])
 | call {f : Nat} {xs : Array Operand} {ts : Array TypeId} {m : UO} {gs : List FV} {res : FV} (hs : yj c.P f gs m res) (hm : m = .fr ∨ m = .sh) (hx : xT s m xs.toList gs) : Eff c s d (.call { callee := .value (.func f), args := xs, argTypes := ts }) res []
 | callV {f : Nat} {x : Operand} {xs : Array Operand} {ts : Array TypeId} {gs caps : List FV} {res : FV} (ex : s.ev x = .fn f caps) (hs : yj c.P f (gs ++ caps) .fr res) (hx : xT s .fr xs.toList gs) : Eff c s d (.call { callee := .value x, args := xs, argTypes := ts }) res []
 | makeFn {f : Nat} {xs : Array Operand} {caps : List FV} (hx : xs.toList.map s.ev = caps) (hc : ∀ g ∈ caps, g.hand = none) : Eff c s d (.makeFunc (.func f) #[] xs) (.fn f caps) []
 | callOw {f : Nat} {xs : Array Operand} {ts : Array TypeId} {E sz : Nat} {gs : List FV} {es : List (List FV)} (hs : yj c.P f gs (.ow E sz) (.list sz es)) (hx : xT s (.ow E sz) xs.toList gs) :
   Eff c s d (.call { callee := .value (.func f), args := xs, argTypes := ts }) (.own d ((s.ob d).ver + 1) 0 es.length) [(d, ⟨(s.ob d).ver + 1, .own, E, sz, es⟩)]
 | appRoom {T e : Nat} (hT : (c.ty T).k = .slice e) (he : (c.ty e).k ≠ .other) (hpos : 0 < (c.ty e).size) (x y : Operand) {id ver o n : Nat} (ex : s.ev x = .own id ver o n) (hlf : (s.ob id).life = .roomy) (hver : (s.ob id).ver = ver)
   (hE : (s.ob id).E = e) (hsz : (s.ob id).sz = (c.ty e).size) (hon : o + n = (s.ob id).es.length) {f2 : FV} {es2 : List (List FV)} (ey : s.ev y = f2) (h2 : Src s f2 (c.ty e).size es2) (h1 : es2.length = 1) :
   Eff c s d (.call { callee := .builtin .append, args := #[x, y], argTypes := #[T, T] }) (.own d ((s.ob d).ver + 1) o (n + 1)) [(id, { s.ob id with life := .dead }), (d, ⟨(s.ob d).ver + 1, .own, e, (c.ty e).size, (s.ob id).es ++ es2⟩)]
 | appFull {T e : Nat} (hT : (c.ty T).k = .slice e) (he : (c.ty e).k ≠ .other) (hpos : 0 < (c.ty e).size) (x y : Operand) {id ver o n : Nat} (ex : s.ev x = .own id ver o n) (hlf : (s.ob id).life = .full) (hver : (s.ob id).ver = ver)
   (hE : (s.ob id).E = e) (hsz : (s.ob id).sz = (c.ty e).size) (hon : o + n = (s.ob id).es.length) {f2 : FV} {es2 : List (List FV)} (ey : s.ev y = f2) (h2 : Src s f2 (c.ty e).size es2) (h1 : es2.length = 1)
   (hb : (n + 1) * (c.ty e).bytes ≤ 140737488355328) (hm : n + 1 ≤ 140737488355328) :
   Eff c s d (.call { callee := .builtin .append, args := #[x, y], argTypes := #[T, T] }) (.own d ((s.ob d).ver + 1) 0 (n + 1)) [(id, { s.ob id with life := .dead }), (d, ⟨(s.ob d).ver + 1, .own, e, (c.ty e).size, (s.ob id).es.drop o ++ es2⟩)]
 | loadH {T : Nat} (hk : (c.ty T).k.agg? = some false) (hz : (c.ty T).size = 1) (x : Operand) {id ver j : Nat} (ex : s.ev x = .ptr id ver j 0) (hlf : (s.ob id).life = .hrow) (hver : (s.ob id).ver = ver) (hsz : (s.ob id).sz = 1) {f : FV} (hj : (s.ob id).es[j]? = some [f]) : Eff c s d (.load T x) f []
 | storeH {T : Nat} (hk : (c.ty T).k ≠ .other) (hz : (c.ty T).size = 1) (x y : Operand) {id ver j : Nat} (ex : s.ev x = .ptr id ver j 0) (hlf : (s.ob id).life = .hrow) (hver : (s.ob id).ver = ver) (hsz : (s.ob id).sz = 1) {f : FV} (ey : s.ev y = f)
   (hf : XD s f) (hj : j < (s.ob id).es.length) : Eff c s d (.store T x y) .undef [(id, { s.ob id with es := (s.ob id).es.set j [f] })]
 | copy {T T2 e : Nat} (hT : (c.ty T).k = .slice e) (he : (c.ty e).k ≠ .other) (hz : (c.ty e).size = 1) (x y : Operand) {id ver o m : Nat} (ex : s.ev x = .own id ver o m) (hlf : (s.ob id).life = .own) (hver : (s.ob id).ver = ver) (hsz : (s.ob id).sz = 1) {f2 : FV} {es2 : List (List FV)} (ey : s.ev y = f2) (h2 : Src s f2 1 es2) :
   Eff c s d (.call { callee := .builtin .copy, args := #[x, y], argTypes := #[T, T2] }) (.int .i64 ((es2.take m).length : Nat)) [(id, { s.ob id with es := splice (s.ob id).es o (es2.take m) })]
 | mkIface {T : Nat} (hk : (c.ty T).k ≠ .other) (hni : yX c.P T = false) (x : Operand) {f : FV} (ex : s.ev x = f) (hn : f.hand = none) : Eff c s d (.makeInterface T x) (.iface T f) []
 | mkIfaceH {T : Nat} (hk : (c.ty T).k ≠ .other) (hni : yX c.P T = false) (x : Operand) {f : FV} (ex : s.ev x = f) (hn : f.notWrap = true) : Eff c s d (.makeInterface T x) (.wrap (.ifc T) [f]) []
 | tAssert {T T2 : Nat} (hk : (c.ty T).k ≠ .other) (hni : yX c.P T = false) (x : Operand) {f : FV} (ex : s.ev x = .iface T f) (hn : f.hand = none) : Eff c s d (.typeAssert x T2 T false) f []
 | makeFnH {f : Nat} {xs : Array Operand} {caps : List FV} (hx : xs.toList.map s.ev = caps) (hn : caps.all FV.notWrap = true) : Eff c s d (.makeFunc (.func f) #[] xs) (.wrap (.fn f) caps) []
 | bound {f : Nat} {xs : Array Operand} {caps : List FV} (hx : xs.toList.map s.ev = caps) (hn : caps.all FV.notWrap = true) : Eff c s d (.makeFunc (.func f) xs #[]) (.wrap (.bound f) caps) []
 | eqAgg (op : BinOp) {T T2 : Nat} (x y : Operand) {X Y : List FV} {b : Bool} (ex : s.ev x = .agg X) (hX : X.all FV.simple1 = true) (ey : s.ev y = .agg Y) (hY : Y.all FV.simple1 = true) (hl : zgj c.P T X Y b) (hop : op = .eql ∨ op = .neq) : Eff c s d (.binOp op T x y T2) (.bool (if op = .eql then b else !b)) []
 | eqNil (op : BinOp) {T T2 e : Nat} (hT : (c.ty T).k = .slice e) (x y : Operand) {f : FV} {b : Bool} (ex : s.ev x = f) (hb : zaU s f b) (ey : s.ev y = .nil) (hop : op = .eql ∨ op = .neq) : Eff c s d (.binOp op T x y T2) (.bool (if op = .eql then b else !b)) []
 | makeMap (T : Nat) : Eff c s d (.makeMap T none) (.omap d ((s.ob d).ver + 1)) [(d, ⟨(s.ob d).ver + 1, .mapo, T, 0, []⟩)]
 | look {T k e : Nat} (hT : (c.ty T).k = .map k e) {bb : Bool} (he : (c.ty e).k.agg? = some bb) (K : Keyed c.P k) (x y : Operand) (ok : Bool) {es : List (List FV)} (ex : (∃ id ver, s.ev x = .omap id ver ∧ s.live id ver ∧ (s.ob id).es = es) ∨ s.ev x = .smap es)
   {kf : FV} (ey : s.ev y = kf) (hk : ∀ row ∈ es, ∀ kf, row.head? = some kf → zch c.P k kf) (hkf : zch c.P k kf) {vf : FV} {found : Bool} (hl : zfN es kf (c.ty e).zfv vf found) (hn : vf.hand = none) : Eff c s d (.lookup T x y ok) (if ok then .tup [vf, .bool found] else vf) []
 | update {T k e : Nat} (hT : (c.ty T).k = .map k e) (K : Keyed c.P k) (x y z : Operand) {id ver : Nat} (ex : s.ev x = .omap id ver) (hlf : (s.ob id).life = .mapo) (hver : (s.ob id).ver = ver)
   {kf vf : FV} (ey : s.ev y = kf) (ez : s.ev z = vf) (hk : ∀ row ∈ (s.ob id).es, ∀ kf, row.head? = some kf → zch c.P k kf) (hkf : zch c.P k kf) (hn : vf.hand = none) {es' : List (List FV)} (hs : zgT (s.ob id).es kf vf es') :
   Eff c s d (.mapUpdate T x y z) .undef [(id, { s.ob id with es := es' })]
 | extN {op : Op} {wr : List (Nat × zg)} (hst : Xl op = false) (hno : Uh op) (hg : ∀ s' : FSt, (∀ x ∈ op.operands.toList, s'.ev x = s.ev x) → (∀ id ∈ xi s d op, s'.ob id = s.ob id) →
   ∀ (w0 : World) (J : JJ) (a : Act) (w : World) (β : Nat → Option Nat) (dst : Option Nat) (ty : TypeId) (pos : String) (after : Array Edge) (g : Option (Nat × Bool)), FR c.N w0 J s' a w β →
    ∃ w', (execOp a.eval ⟨dst, op, ty, pos, after, g⟩).run c.P w = .ok .skip w' ∧ FR c.N w0 J (s'.wr wr) a w' β) : Eff c s d op .undef wr
 | ext {op : Op} {f : FV} {wr : List (Nat × zg)} (hst : Xl op = false) (hno : ¬ Uh op) (hg : ∀ s' : FSt, (∀ x ∈ op.operands.toList, s'.ev x = s.ev x) → (∀ id ∈ xi s d op, s'.ob id = s.ob id) →
   ∀ (w0 : World) (J : JJ) (a : Act) (w : World) (β : Nat → Option Nat) (ty : TypeId) (pos : String) (after : Array Edge) (g : Option (Nat × Bool)), d < c.N → FR c.N w0 J s' a w β →
    ∀ (K : Act → World → Prop) (Q : Exit → Act → World → Prop), (∀ a' w' β', FR c.N w0 J ((s'.wr wr).put d f) a' w' β' → K a' w') → (⟨some d, op, ty, pos, after, g⟩ : Oper).wp c.P a w K Q) : Eff c s d op f wr

def FSt.putD (s : FSt) : Option Nat → FV → FSt
 | some d, f => s.put d f
 | none, _ => s
def FSt.app (s : FSt) (dst : Option Nat) (f : FV) (wr : List (Nat × zg)) : FSt := (s.wr wr).putD dst f

section
variable {c : Ctx} {w0 w : World} {J : JJ} {s : FSt} {a : Act} {β : Nat → Option Nat}

theorem yp.wp {o : Oper} {f : FV} {wr : List (Nat × zg)} (h : yp c w0 J s a o w f wr) (hd : ∀ d, o.dst = some d → d < c.N) {K : Act → World → Prop} {Q : Exit → Act → World → Prop} (hK : ∀ a' w' β', FR c.N w0 J (s.app o.dst f wr) a' w' β' → K a' w') : o.wp c.P a w K Q := by
 obtain ⟨v, w', β', hr, hF, hV, hver⟩ := h
 unfold Oper.wp
 rw [hr, Oper.upon_value]
 unfold FSt.app at hK
 cases hdd : o.dst with
 | none => rw [hdd] at hK; exact hK _ _ _ hF
 | some d => rw [hdd] at hK; exact hK _ _ _ (hF.put (hd d hdd) hV hver)

theorem Eff.sound {d : Nat} {op : Op} {f : FV} {wr : List (Nat × zg)} (h : Eff c s d op f wr) (hF : FR c.N w0 J s a w β) (o : Oper) (ho : o.op = op) (hd : o.dst = some d ∨ (o.dst = none ∧ Uh op)) (hdN : ∀ d, o.dst = some d → d < c.N)
  {K : Act → World → Prop} {Q : Exit → Act → World → Prop} (hK : ∀ a' w' β', FR c.N w0 J (s.app o.dst f wr) a' w' β' → K a' w') : o.wp c.P a w K Q := by
 obtain ⟨dst, op', ty, pos, after, g⟩ := o
 dsimp only at ho hd hdN hK
 subst ho
 by_cases hst : Uh op'
 ·rcases hst with ⟨T, x, y, rfl⟩ | ⟨T, x, y, z, rfl⟩
  ·cases h with
   | ext hst hno hg => exact absurd (.inl ⟨_, _, _, rfl⟩) hno
   | extN hst hno hg =>
    obtain ⟨w', h1, h2⟩ := hg s (fun _ _ => rfl) (fun _ _ => rfl) w0 J a w β dst ty pos after g hF
    unfold Oper.wp
    rw [h1, Oper.upon_skip]
    unfold FSt.app at hK
    cases dst with
    | none => exact hK _ _ _ h2
    | some d => exact hK _ _ _ (h2.put (hdN d rfl) (VR.of_rd (.undef _) rfl) (fun id ver e => by cases e))
   | store hk x y ex hl hv ey hf hfl hj ho =>
    obtain ⟨w', h1, h2⟩ := zcE (dst := dst) (ty := ty) (pos := pos) (after := after) (g := g) hF hk x y ex hl hv ey hf hfl hj ho
    unfold Oper.wp
    rw [h1, Oper.upon_skip]
    unfold FSt.app at hK
    cases dst with
    | none => exact hK _ _ _ h2
    | some d => exact hK _ _ _ (h2.put (hdN d rfl) (VR.of_rd (.undef _) rfl) (fun id ver e => by cases e))
   | storeH hk hz x y ex hlf hver hsz ey hf hj =>
    obtain ⟨w', h1, h2⟩ := zbk (dst := dst) (ty := ty) (pos := pos) (after := after) (g := g) hF hk hz x y ex hlf hver hsz ey hf hj
    unfold Oper.wp
    rw [h1, Oper.upon_skip]
    unfold FSt.app at hK
    cases dst with
    | none => exact hK _ _ _ h2
    | some d => exact hK _ _ _ (h2.put (hdN d rfl) (VR.of_rd (.undef _) rfl) (fun id ver e => by cases e))
  ·cases h with
   | ext hst hno hg => exact absurd (.inr ⟨_, _, _, _, rfl⟩) hno
   | extN hst hno hg =>
    obtain ⟨w', h1, h2⟩ := hg s (fun _ _ => rfl) (fun _ _ => rfl) w0 J a w β dst ty pos after g hF
    unfold Oper.wp
    rw [h1, Oper.upon_skip]
    unfold FSt.app at hK
    cases dst with
    | none => exact hK _ _ _ h2
    | some d => exact hK _ _ _ (h2.put (hdN d rfl) (VR.of_rd (.undef _) rfl) (fun id ver e => by cases e))
   | update hT K x y z ex hlf hver ey ez hk hkf hn hs =>
    obtain ⟨w', h1, h2⟩ := zbl (dst := dst) (ty := ty) (pos := pos) (after := after) (g := g) hF hT K x y z ex hlf hver ey ez hk hkf hn hs
    unfold Oper.wp
    rw [h1, Oper.upon_skip]
    unfold FSt.app at hK
    cases dst with
    | none => exact hK _ _ _ h2
    | some d => exact hK _ _ _ (h2.put (hdN d rfl) (VR.of_rd (.undef _) rfl) (fun id ver e => by cases e))
 ·obtain rfl : dst = some d := by
   rcases hd with h' | ⟨_, h'⟩
   ·exact h'
   ·exact absurd h' hst
  cases h with
  | extN hst2 hno hg => exact absurd hno hst
  | ext hst hno hg => exact hg s (fun _ _ => rfl) (fun _ _ => rfl) w0 J a w β ty pos after g (hdN d rfl) hF K Q hK
  | move x => exact (zdH hF x).wp hdN hK
  | assign x => exact (zbf hF x).wp hdN hK
  | pick cnd x y hb => exact (zdI hF cnd x y hb).wp hdN hK
  | ibin op T T2 x y ex ey hf => exact (zdD hF op T T2 x y ex ey hf).wp hdN hK
  | idiv op T T2 x y ex ey hn hop => exact (zdE hF op T T2 x y ex ey hn hop).wp hdN hK
  | bbin op x y hT ex ey hop => exact (zdB hF op x y hT ex ey hop).wp hdN hK
  | not T x ex => exact (zeV hF T x ex).wp hdN hK
  | shift op T T2 x y ex ey hn hop => exact (zcD hF op T T2 x y ex ey hn hop).wp hdN hK
  | conv hT hT2 x ex => exact (zaf hF hT hT2 x ex).wp hdN hK
  | neg T x ex => exact (zeU hF T x ex).wp hdN hK
  | min2 bi T T2 x y ex ey hbi => exact (zdG hF bi T T2 x y ex ey hbi).wp hdN hK
  | lenOwn hT x ex hl => exact (zai hF hT x ex hl).wp hdN hK
  | lenList hT x ex => exact (Ur hF hT x ex).wp hdN hK
  | lenNil hT x ex => exact (zah hF hT x ex).wp hdN hK
  | fieldPtr hT hf hft hsz x ex hl => exact (Vi hF hT hf hft hsz x ex hl).wp hdN hK
  | fieldEptr hT hf hft hsz x ex => exact (Wi hF hT hf hft hsz x ex).wp hdN hK
  | indexList hT he x y ex hsz ey h1 => exact (Wl hF hT he x y ex hsz ey h1).wp hdN hK
  | indexOwn hT he x y ex hl hsz ey h1 => exact (Vj hF hT he x y ex hl hsz ey h1).wp hdN hK
  | indexAPtr hT he x y ex hl ey h1 => exact (Wj hF hT he x y ex hl ey h1).wp hdN hK
  | indexAEptr hT he x y ex ey h1 => exact (XF hF hT he x y ex ey h1).wp hdN hK
  | loadEptr hk x ex hj ho ho' => exact (Vk hF hk x ex hj ho ho').wp hdN hK
  | loadPtr hk x ex hl hrl hj ho ho' => exact (YA hF hk x ex hl hrl hj ho ho').wp hdN hK
  | store hk x y ex hl hv ey hf hfl hj ho => exact absurd (.inl ⟨_, _, _, rfl⟩) hst
  | storeH hk hz x y ex hlf hver hsz ey hf hj => exact absurd (.inl ⟨_, _, _, rfl⟩) hst
  | loadH hk hz x ex hlf hver hsz hj => exact (zcC hF hk hz x ex hlf hver hsz hj).wp hdN hK
  | appRoom hT he hpos x y ex hlf hver hE hsz hon ey h2 h1 => exact (zad hF d hT he hpos x y ex hlf hver hE hsz hon ey h2 h1).wp hdN hK
  | appFull hT he hpos x y ex hlf hver hE hsz hon ey h2 h1 hb hm => exact (zac hF d hT he hpos x y ex hlf hver hE hsz hon ey h2 h1 hb hm).wp hdN hK
  | update hT K x y z ex hlf hver ey ez hk hkf hn hs => exact absurd (.inr ⟨_, _, _, _, rfl⟩) hst
  | makeMap T => exact (zak hF d T).wp hdN hK
  | look hT he K x y ok ex ey hk hkf hl hn => exact (zdF hF hT he K x y ok ex ey hk hkf hl hn).wp hdN hK
  | alloc hk hz => exact (zcx hF d hk hz).wp hdN hK
  | box x ex hf => exact (zeT hF d x ex hf).wp hdN hK
  | build hT hfs ps hf => exact (zcz hF hT hfs ps hf).wp hdN hK
  | buildA hT he ps hf => exact (zbg hF hT he ps hf).wp hdN hK
  | buildSlice hT he ps es hn hw ho hcap hnm hf => exact (Wh hF d hT he ps es hn hw ho hcap hnm hf).wp hdN hK
  | buildSliceS hT he ps es hn hw ho hcap hnm hf => exact (XE hF d hT he ps es hn hw ho hcap hnm hf).wp hdN hK
  | makeSlice hT he x y ex ey ho hb hn => exact (Vl hF d hT he x y ex ey ho hb hn).wp hdN hK
  | sliceOwn hT he x lo hi ex hl hsz hlo hhi h1 h2 => exact (Vo hF hT he x lo hi ex hl hsz hlo hhi h1 h2).wp hdN hK
  | sliceList hT he x lo hi ex hsz hlo hhi h1 h2 => exact (Wn hF hT he x lo hi ex hsz hlo hhi h1 h2).wp hdN hK
  | sliceNil hT he x lo hi ex hlo hhi => exact (Vn hF hT he x lo hi ex hlo hhi).wp hdN hK
  | extract x ex hf hn => exact (zag hF x ex hf hn).wp hdN hK
  | nilPtr x ex hl => exact (YZ hF x ex hl).wp hdN hK
  | nilEptr x ex => exact (YC hF x ex).wp hdN hK
  | append hT he hpos x y ex ey h1 hE h2 hb hm => exact (Wg hF d hT he hpos x y ex ey h1 hE h2 hb hm).wp hdN hK
  | appendS hT he hpos x y ex ey h1 hE h2 hb hm => exact (zae hF d hT he hpos x y ex ey h1 hE h2 hb hm).wp hdN hK
  | call hs hm hx =>
   rename_i fi xs ts m gs
   refine zdq hF hs hx (fun v w' hb hr => ?_)
   have hG := hF.grow hb
   have hnew : ∀ b, w.heap.size ≤ b ∧ b < w'.heap.size → Imm J w' β s b ∧ w'.heap[b]? = w'.heap[b]? := fun b hb' => ⟨⟨hb'.2, hF.fresh b (Nat.le_trans hF.bel.size hb'.1) (.inl hb'.1), fun id hl e => by
    have := ((hF.obj id (zN.mine_ne hl)).lt e).2; omega⟩, rfl⟩
   have hrd : Rd w' (Imm J w' β s) v f := by
    rcases hm with rfl | rfl
    ·exact Rd.mono hnew hr
    ·refine Rd.mono (fun b hb' => ?_) hr
     rcases hb' with h1 | h1
     ·exact ⟨(Imm.grow (by simpa [zdi] using h1) hb).1, rfl⟩
     ·exact hnew b h1
   exact hK _ _ _ (hG.put (hdN d rfl) (VR.of_rd hrd hs.hand) (fun id ver e => (FV.no_hands hs.hand e).elim))
  | callV ex hs hx =>
   refine zeG hF ex hs hx (fun v w' hb hr => ?_)
   have hG := hF.grow hb
   have hrd : Rd w' (Imm J w' β s) v _ := Rd.mono (fun b hb' => ⟨⟨hb'.2, hF.fresh b (Nat.le_trans hF.bel.size hb'.1) (.inl hb'.1), fun id hl e => by
    have := ((hF.obj id (zN.mine_ne hl)).lt e).2; omega⟩, rfl⟩) hr
   exact hK _ _ _ (hG.put (hdN d rfl) (VR.of_rd hrd hs.hand) (fun id ver e => (FV.no_hands hs.hand e).elim))
  | makeFn hx hc => exact (zbj hF hx hc).wp hdN hK
  | copy hT hk hz x y ex hlf hver hsz ey h2 => exact (zdC hF hT hk hz x y ex hlf hver hsz ey h2).wp hdN hK
  | mkIface hk hni x ex hn => exact (zal hF hk hni x ex hn).wp hdN hK
  | mkIfaceH hk hni x ex hn => exact (Us hF hk hni x ex hn).wp hdN hK
  | tAssert hk hni x ex hn => exact (zam hF hk hni x ex hn).wp hdN hK
  | makeFnH hx hn => exact (zaj hF hx hn).wp hdN hK
  | bound hx hn => exact (zcy hF hx hn).wp hdN hK
  | eqAgg op x y ex hX ey hY hl hop => exact (zcA hF op x y ex hX ey hY hl hop).wp hdN hK
  | eqNil op hT x y ex hb ey hop => exact (zcB hF op hT x y ex hb ey hop).wp hdN hK
  | callOw hs hx =>
   rename_i fi xs ts E sz gs es
   refine zdq hF hs hx (fun v w' hb hr => ?_)
   obtain ⟨es', us, e, hw, ho, hrow, hrl⟩ := hr
   injection e with _ e
   subst e
   have hG := hF.grow hb
   have hlow := hrow.lt
   have hI2 : ∀ b, (w.heap.size ≤ b ∧ b < w'.heap.size ∧ v.ownBlock ≠ some b) → Imm J w' (Yc β d v.ownBlock) (s.set d ⟨(s.ob d).ver + 1, .own, E, sz, es⟩) b := fun b hb' => ⟨hb'.2.1, hF.fresh b (Nat.le_trans hF.bel.size hb'.1) (.inl hb'.1), fun id hl e => by
    rw [FSt.ob_set] at hl
    unfold Yc at e
    split at hl
    ·rename_i hh; rw [if_pos hh.symm] at e; exact hb'.2.2 e
    ·rename_i hh
     rw [if_neg (fun e => hh e.symm)] at e
     have := ((hF.obj id (zN.mine_ne hl)).lt e).2; omega⟩
   have hM : FR c.N w0 J (s.set d ⟨(s.ob d).ver + 1, .own, E, sz, es⟩) a w' (Yc β d v.ownBlock) := by
    have hI : ∀ b, Imm J w β s b → Imm J w' (Yc β d v.ownBlock) (s.set d ⟨(s.ob d).ver + 1, .own, E, sz, es⟩) b ∧ w'.heap[b]? = w.heap[b]? := fun b hbb => by
     refine ⟨⟨Nat.lt_of_lt_of_le hbb.1 hb.size, hbb.2.1, fun id hl => ?_⟩, hb.block b hbb.1⟩
     rw [FSt.ob_set] at hl
     unfold Yc
     split at hl
     ·rename_i hh; rw [if_pos hh.symm]; intro e; have := (hlow b e).1; have := hbb.1; omega
     ·rename_i hh; rw [if_neg (fun e => hh e.symm)]; exact hbb.2.2 id hl
    refine hF.step (C := fun id => id = d) hF.size hF.defers (hF.bel.trans (hb.mono hF.bel.size)) hI (fun k => .inl ⟨rfl, rfl⟩) (fun id hC => ?_) (fun id hC => ?_) (fun id hC hl hvv => ?_) (fun id hC hl _ => ?_) ?_ ?_
    ·refine ⟨by rw [FSt.ob_set, if_neg (fun e => hC e.symm)], by unfold Yc; rw [if_neg hC], fun hl b hbb => hb.block b ((hF.obj id hl).lt hbb).2⟩
    ·subst hC; rw [FSt.ob_set, if_pos rfl]; exact Nat.le_succ _
    ·subst hC; rw [FSt.ob_set, if_pos rfl] at hvv; simp at hvv
    ·subst hC
     rw [FSt.ob_set, if_pos rfl]
     rw [zQ]
     exact .ofRow ⟨hw, ho, v, us, zb2 hrow hF.bel.size, rfl, hrl.mono (fun b hb' => ⟨hI2 b hb', rfl⟩)⟩ (.own rfl) rfl
    ·intro id id' b hl hl' e e'
     rw [FSt.ob_set] at hl hl'
     unfold Yc at e e'
     by_cases h1 : id = d
     ·by_cases h2 : id' = d
      ·rw [h1, h2]
      ·rw [if_pos h1] at e; rw [if_neg h2] at e'; rw [if_neg (fun e => h2 e.symm)] at hl'
       have := (hlow b e).1; have := ((hF.obj id' hl').lt e').2; omega
     ·by_cases h2 : id' = d
      ·rw [if_neg h1] at e; rw [if_pos h2] at e'; rw [if_neg (fun e => h1 e.symm)] at hl
       have := (hlow b e').1; have := ((hF.obj id hl).lt e).2; omega
      ·rw [if_neg h1] at e; rw [if_neg h2] at e'; rw [if_neg (fun e => h1 e.symm)] at hl; rw [if_neg (fun e => h2 e.symm)] at hl'
       exact hF.inj id id' b hl hl' e e'
    ·intro b hlt hn
     refine ⟨hb.block b hlt, fun id hl e => ?_⟩
     rw [FSt.ob_set] at hl
     unfold Yc at e
     by_cases h1 : id = d
     ·rw [if_pos h1] at e; have := (hlow b e).1; omega
     ·rw [if_neg h1] at e; rw [if_neg (fun e => h1 e.symm)] at hl; exact hn id hl e
   refine hK _ _ _ (hM.put (hdN d rfl) (fun _ _ => ?_) (fun id ver e => ?_))
   ·rw [FSt.ob_set, if_pos rfl, zQ]
    exact ZZ.of_row hrow rfl rfl rfl rfl
   ·simp only [FV.hands, List.mem_singleton, Prod.mk.injEq] at e
    obtain ⟨e1, e2⟩ := e
    replace e1 := e1.symm
    replace e2 := e2.symm
    subst e1
    subst e2
    rw [FSt.ob_set, if_pos rfl]
    exact Nat.le_refl _
end
end Go.Proofs.Ythjplkjpehdpfaa
/-
 An operation on plain values looks only at its operands and at their objects.
-/
namespace Go.Proofs.Ythjplkjpehdpfaa
set_option linter.unusedVariables false
open Go.RowKit

section
variable {c : Ctx} {s s' : FSt}
theorem Src.loc {f : FV} {sz : Nat} {es : List (List FV)} (h : Src s f sz es) (ho : ∀ id ver, f.hand = some (id, ver) → s'.ob id = s.ob id) : Src s' f sz es := by
 cases h with
 | nil sz => exact .nil _
 | list sz es => exact .list _ _
 | own id ver o n hl hrl =>
  have e := ho id ver rfl
  rw [← e]
  exact .own id ver o n (by unfold FSt.live at *; rw [e]; exact hl) (by rw [e]; exact hrl)
theorem Bas.loc {f : FV} {sz : Nat} {es : List (List FV)} {i : Option Nat} (h : Bas s f sz es i) (ho : ∀ id ver, f.hand = some (id, ver) → s'.ob id = s.ob id) : Bas s' f sz es i := by
 cases h with
 | nil sz => exact .nil _
 | own id ver hl hv n hn =>
  have e := ho id ver rfl
  rw [← e]
  exact .own id ver (by rw [e]; exact hl) (by rw [e]; exact hv) n (by rw [e]; exact hn)
theorem XC.loc {m : UO} {f g : FV} (h : XC s m f g) (ho : ∀ id ver, f.hand = some (id, ver) → s'.ob id = s.ob id) : XC s' m f g := by
 cases h with
 | plain f hn => exact .plain _ hn
 | sub f g hn hle => exact .sub _ _ hn hle
 | nil sz => exact .nil _
 | own id ver o n hl hrl hm =>
  have e := ho id ver rfl
  rw [← e]
  exact .own id ver o n (by unfold FSt.live at *; rw [e]; exact hl) (by rw [e]; exact hrl) (by rw [e]; exact hm)
theorem xT.loc {m : UO} : ∀ {xs : List Operand} {gs : List FV}, xT s m xs gs → (∀ x ∈ xs, s'.ev x = s.ev x) → (∀ x ∈ xs, ∀ id ver, (s.ev x).hand = some (id, ver) → s'.ob id = s.ob id) → xT s' m xs gs
 | _, _, .nil, _, _ => .nil
 | _, _, .cons h hs, he, ho => .cons (by rw [he _ (by simp)]; exact h.loc (ho _ (by simp))) (hs.loc (fun x hx => he x (by simp [hx])) (fun x hx => ho x (by simp [hx])))
theorem zdR {lo : Option Operand} {l : Nat} (h : s.lo lo l) (he : ∀ x ∈ lo.toList, s'.ev x = s.ev x) : s'.lo lo l := by
 cases lo with
 | none => exact h
 | some y => obtain ⟨k, hk⟩ := h; exact ⟨k, by rw [he y (by simp)]; exact hk⟩
theorem zdL {lo : Option Operand} {l m : Nat} (h : s.hi lo m l) (he : ∀ x ∈ lo.toList, s'.ev x = s.ev x) : s'.hi lo m l := by
 cases lo with
 | none => exact h
 | some y => obtain ⟨k, hk⟩ := h; exact ⟨k, by rw [he y (by simp)]; exact hk⟩
theorem YL {ps : Array (Nat × Operand)} (he : ∀ x ∈ (ps.toList.map (·.2)), s'.ev x = s.ev x) : s'.parts ps = s.parts ps := by
 unfold FSt.parts
 refine List.map_congr_left fun p hp => ?_
 rw [he p.2 (List.mem_map.2 ⟨p, hp, rfl⟩)]

theorem xt {α γ : Type} {f g : α → Option γ} : ∀ {l : List α}, (∀ x ∈ l, f x = g x) → l.filterMap f = l.filterMap g
 | [], _ => rfl
 | x :: l, h => by rw [List.filterMap_cons, List.filterMap_cons, h x (by simp), xt fun y hy => h y (by simp [hy])]
theorem Eff.loc {d : Nat} {op : Op} {f : FV} {wr : List (Nat × zg)} (h : Eff c s d op f wr) (he : ∀ x ∈ op.operands.toList, s'.ev x = s.ev x) (hob : ∀ id ∈ xi s d op, s'.ob id = s.ob id) : Eff c s' d op f wr := by
 have hd := hob d (zbU s d op)
 cases hst : Xl op with
 | true =>
  cases h <;> first | (cases hst; done) | (rename_i h0 _ _; rw [hst] at h0; cases h0; done) | (rename_i x; rw [← he x (by simp [Op.operands])]; first | exact .move x | exact .assign x)
 | false =>
 have hh : ∀ x ∈ op.operands.toList, ∀ id ver, (s.ev x).hand = some (id, ver) → s'.ob id = s.ob id := fun x hx id ver hv => hob id (zeP hst hx hv)
 have hlive : ∀ id ver, s'.ob id = s.ob id → s.live id ver → s'.live id ver := fun id ver e hl => by unfold FSt.live at *; rw [e]; exact hl
 cases h with
 | move x => rw [← he x (by simp [Op.operands])]; exact .move x
 | assign x => rw [← he x (by simp [Op.operands])]; exact .assign x
 | pick cnd x y hb => rw [← he x (by simp [Op.operands]), ← he y (by simp [Op.operands])]; exact .pick cnd x y (by rw [he cnd (by simp [Op.operands])]; exact hb)
 | ibin op T T2 x y ex ey hf => exact .ibin op T T2 x y (by rw [he x (by simp [Op.operands])]; exact ex) (by rw [he y (by simp [Op.operands])]; exact ey) hf
 | idiv op T T2 x y ex ey hn hop => exact .idiv op T T2 x y (by rw [he x (by simp [Op.operands])]; exact ex) (by rw [he y (by simp [Op.operands])]; exact ey) hn hop
 | bbin op x y hT ex ey hop => exact .bbin op x y hT (by rw [he x (by simp [Op.operands])]; exact ex) (by rw [he y (by simp [Op.operands])]; exact ey) hop
 | not T x ex => exact .not T x (by rw [he x (by simp [Op.operands])]; exact ex)
 | shift op T T2 x y ex ey hn hop => exact .shift op T T2 x y (by rw [he x (by simp [Op.operands])]; exact ex) (by rw [he y (by simp [Op.operands])]; exact ey) hn hop
 | conv hT hT2 x ex => exact .conv hT hT2 x (by rw [he x (by simp [Op.operands])]; exact ex)
 | neg T x ex => exact .neg T x (by rw [he x (by simp [Op.operands])]; exact ex)
 | min2 bi T T2 x y ex ey hbi => exact .min2 bi T T2 x y (by rw [he x (by simp [Op.operands, Call.operands])]; exact ex) (by rw [he y (by simp [Op.operands, Call.operands])]; exact ey) hbi
 | lenOwn hT x ex hl => exact .lenOwn hT x (by rw [he x (by simp [Op.operands, Call.operands])]; exact ex) (hlive _ _ (hh x (by simp [Op.operands, Call.operands]) _ _ (by rw [ex]; rfl)) hl)
 | lenList hT x ex => exact .lenList hT x (by rw [he x (by simp [Op.operands, Call.operands])]; exact ex)
 | lenNil hT x ex => exact .lenNil hT x (by rw [he x (by simp [Op.operands, Call.operands])]; exact ex)
 | fieldPtr hT hf hft hsz x ex hl => exact .fieldPtr hT hf hft hsz x (by rw [he x (by simp [Op.operands])]; exact ex) (hlive _ _ (hh x (by simp [Op.operands]) _ _ (by rw [ex]; rfl)) hl)
 | fieldEptr hT hf hft hsz x ex => exact .fieldEptr hT hf hft hsz x (by rw [he x (by simp [Op.operands])]; exact ex)
 | indexList hT hk x y ex hsz ey h1 => exact .indexList hT hk x y (by rw [he x (by simp [Op.operands])]; exact ex) hsz (by rw [he y (by simp [Op.operands])]; exact ey) h1
 | indexOwn hT hk x y ex hl hsz ey h1 =>
  have e := hh x (by simp [Op.operands]) _ _ (by rw [ex]; rfl)
  exact .indexOwn hT hk x y (by rw [he x (by simp [Op.operands])]; exact ex) (hlive _ _ e hl) (by rw [e]; exact hsz) (by rw [he y (by simp [Op.operands])]; exact ey) h1
 | indexAPtr hT hk x y ex hl ey h1 => exact .indexAPtr hT hk x y (by rw [he x (by simp [Op.operands])]; exact ex) (hlive _ _ (hh x (by simp [Op.operands]) _ _ (by rw [ex]; rfl)) hl) (by rw [he y (by simp [Op.operands])]; exact ey) h1
 | indexAEptr hT hk x y ex ey h1 => exact .indexAEptr hT hk x y (by rw [he x (by simp [Op.operands])]; exact ex) (by rw [he y (by simp [Op.operands])]; exact ey) h1
 | loadEptr hk x ex hj ho ho' => exact .loadEptr hk x (by rw [he x (by simp [Op.operands])]; exact ex) hj ho ho'
 | loadPtr hk x ex hl hrl hj ho ho' =>
  have e := hh x (by simp [Op.operands]) _ _ (by rw [ex]; rfl)
  rw [← e]
  exact .loadPtr hk x (by rw [he x (by simp [Op.operands])]; exact ex) (hlive _ _ e hl) (by rw [e]; exact hrl) (by rw [e]; exact hj) (by rw [e]; exact ho) (by rw [e]; exact ho')
 | store hk x y ex hl hv ey hf hfl hj ho =>
  have e := hh x (by simp [Op.operands]) _ _ (by rw [ex]; rfl)
  rw [← e]
  exact .store hk x y (by rw [he x (by simp [Op.operands])]; exact ex) (by rw [e]; exact hl) (by rw [e]; exact hv) (by rw [he y (by simp [Op.operands])]; exact ey) hf hfl (by rw [e]; exact hj) (by rw [e]; exact ho)
 | alloc hk hz => rw [← hd]; exact .alloc hk hz
 | box x ex hf => rw [← hd]; exact .box x (by rw [he x (by simp [Op.operands])]; exact ex) hf
 | build hT hfs ps hf => exact .build hT hfs ps (by rw [YL (fun x hx => he x (by simpa [Op.operands] using hx))]; exact hf)
 | buildA hT hk ps hf => exact .buildA hT hk ps (by rw [YL (fun x hx => he x (by simpa [Op.operands] using hx))]; exact hf)
 | buildSlice hT hk ps es hn hw ho hcap hnm hf => rw [← hd]; exact .buildSlice hT hk ps es hn hw ho hcap hnm (by rw [YL (fun x hx => he x (by simpa [Op.operands] using hx))]; exact hf)
 | buildSliceS hT hk ps es hn hw ho hcap hnm hf => exact .buildSliceS hT hk ps es hn hw ho hcap hnm (by rw [YL (fun x hx => he x (by simpa [Op.operands] using hx))]; exact hf)
 | makeSlice hT hk x y ex ey ho hb hn => rw [← hd]; exact .makeSlice hT hk x y (by rw [he x (by simp [Op.operands])]; exact ex) (by rw [he y (by simp [Op.operands])]; exact ey) ho hb hn
 | sliceOwn hT hk x lo hi ex hl hsz hlo hhi h1 h2 =>
  have e := hh x (by simp [Op.operands]) _ _ (by rw [ex]; rfl)
  exact .sliceOwn hT hk x lo hi (by rw [he x (by simp [Op.operands])]; exact ex) (hlive _ _ e hl) (by rw [e]; exact hsz) (zdR hlo (fun y hy => he y (by cases lo <;> simp_all [Op.operands]))) (zdL hhi (fun y hy => he y (by cases hi <;> simp_all [Op.operands]))) h1 h2
 | sliceList hT hk x lo hi ex hsz hlo hhi h1 h2 =>
  exact .sliceList hT hk x lo hi (by rw [he x (by simp [Op.operands])]; exact ex) hsz (zdR hlo (fun y hy => he y (by cases lo <;> simp_all [Op.operands]))) (zdL hhi (fun y hy => he y (by cases hi <;> simp_all [Op.operands]))) h1 h2
 | sliceNil hT hk x lo hi ex hlo hhi =>
  exact .sliceNil hT hk x lo hi (by rw [he x (by simp [Op.operands])]; exact ex) (zdR hlo (fun y hy => he y (by cases lo <;> simp_all [Op.operands]))) (zdL hhi (fun y hy => he y (by cases hi <;> simp_all [Op.operands])))
 | extract x ex hf hn => exact .extract x (by rw [he x (by simp [Op.operands])]; exact ex) hf hn
 | nilPtr x ex hl => exact .nilPtr x (by rw [he x (by simp [Op.operands])]; exact ex) (hlive _ _ (hh x (by simp [Op.operands]) _ _ (by rw [ex]; rfl)) hl)
 | nilEptr x ex => exact .nilEptr x (by rw [he x (by simp [Op.operands])]; exact ex)
 | append hT hk hpos x y ex ey h1 hE h2 hb hm =>
  rename_i T e f1 f2 es1 es2 i
  have e1 : ∀ id ver, f1.hand = some (id, ver) → s'.ob id = s.ob id := fun id ver hv => hh x (by simp [Op.operands, Call.operands]) id ver (by rw [ex]; exact hv)
  have e2 : ∀ id ver, f2.hand = some (id, ver) → s'.ob id = s.ob id := fun id ver hv => hh y (by simp [Op.operands, Call.operands]) id ver (by rw [ey]; exact hv)
  have h1' := h1.loc e1
  have hi : ∀ k, i = some k → s'.ob k = s.ob k := fun k hk => by
   generalize (c.ty e).size = sz at h1
   cases h1 with
   | nil => cases hk
   | own id ver hl hv n hn => injection hk with hk; subst hk; exact e1 id ver rfl
  have hw : Zi s d e (c.ty e).size (es1 ++ es2) i = Zi s' d e (c.ty e).size (es1 ++ es2) i := by
   cases i with
   | none => simp only [Zi, hd]
   | some k => simp only [Zi, hd, hi k rfl]
  rw [← hd, hw]
  exact .append hT hk hpos x y (by rw [he x (by simp [Op.operands, Call.operands])]; exact ex) (by rw [he y (by simp [Op.operands, Call.operands])]; exact ey) h1' (fun k hk => by rw [hi k hk]; exact hE k hk) (h2.loc e2) hb hm
 | appendS hT hk hpos x y ex ey h1 hE h2 hb hm =>
  rename_i T e f1 f2 es1 es2 i
  have e1 : ∀ id ver, f1.hand = some (id, ver) → s'.ob id = s.ob id := fun id ver hv => hh x (by simp [Op.operands, Call.operands]) id ver (by rw [ex]; exact hv)
  have e2 : ∀ id ver, f2.hand = some (id, ver) → s'.ob id = s.ob id := fun id ver hv => hh y (by simp [Op.operands, Call.operands]) id ver (by rw [ey]; exact hv)
  have h1' := h1.loc e1
  have hi : ∀ k, i = some k → s'.ob k = s.ob k := fun k hk => by
   generalize (c.ty e).size = sz at h1
   cases h1 with
   | nil => cases hk
   | own id ver hl hv n hn => injection hk with hk; subst hk; exact e1 id ver rfl
  have hw : Zi s d e (c.ty e).size (es1 ++ es2) i = Zi s' d e (c.ty e).size (es1 ++ es2) i := by
   cases i with
   | none => simp only [Zi, hd]
   | some k => simp only [Zi, hd, hi k rfl]
  rw [← hd, hw]
  exact .appendS hT hk hpos x y (by rw [he x (by simp [Op.operands, Call.operands])]; exact ex) (by rw [he y (by simp [Op.operands, Call.operands])]; exact ey) h1' (fun k hk => by rw [hi k hk]; exact hE k hk) (h2.loc e2) hb hm
 | appRoom hT hk hpos x y ex hlf hver hE hsz hon ey h2 h1 =>
  have e := hh x (by simp [Op.operands, Call.operands]) _ _ (by rw [ex]; rfl)
  rw [← hd, ← e]
  exact .appRoom hT hk hpos x y (by rw [he x (by simp [Op.operands, Call.operands])]; exact ex) (by rw [e]; exact hlf) (by rw [e]; exact hver) (by rw [e]; exact hE) (by rw [e]; exact hsz) (by rw [e]; exact hon)
   (by rw [he y (by simp [Op.operands, Call.operands])]; exact ey) (h2.loc fun id ver hv => hh y (by simp [Op.operands, Call.operands]) id ver (by rw [ey]; exact hv)) h1
 | appFull hT hk hpos x y ex hlf hver hE hsz hon ey h2 h1 hb hm =>
  have e := hh x (by simp [Op.operands, Call.operands]) _ _ (by rw [ex]; rfl)
  rw [← hd, ← e]
  exact .appFull hT hk hpos x y (by rw [he x (by simp [Op.operands, Call.operands])]; exact ex) (by rw [e]; exact hlf) (by rw [e]; exact hver) (by rw [e]; exact hE) (by rw [e]; exact hsz) (by rw [e]; exact hon)
   (by rw [he y (by simp [Op.operands, Call.operands])]; exact ey) (h2.loc fun id ver hv => hh y (by simp [Op.operands, Call.operands]) id ver (by rw [ey]; exact hv)) h1 hb hm
 | loadH hk hz x ex hlf hver hsz hj =>
  have e := hh x (by simp [Op.operands]) _ _ (by rw [ex]; rfl)
  exact .loadH hk hz x (by rw [he x (by simp [Op.operands])]; exact ex) (by rw [e]; exact hlf) (by rw [e]; exact hver) (by rw [e]; exact hsz) (by rw [e]; exact hj)
 | storeH hk hz x y ex hlf hver hsz ey hf hj =>
  have e := hh x (by simp [Op.operands]) _ _ (by rw [ex]; rfl)
  rw [← e]
  refine .storeH hk hz x y (by rw [he x (by simp [Op.operands])]; exact ex) (by rw [e]; exact hlf) (by rw [e]; exact hver) (by rw [e]; exact hsz) (by rw [he y (by simp [Op.operands])]; exact ey) ?_ (by rw [e]; exact hj)
  rcases hf with h1 | ⟨id', ver', o, n, rfl, hl⟩ | ⟨id', ver', o, n, rfl, hl⟩ | hw
  ·exact .inl h1
  ·exact .inr (.inl ⟨id', ver', o, n, rfl, hlive _ _ (hh y (by simp [Op.operands]) _ _ (by rw [ey]; rfl)) hl⟩)
  ·exact .inr (.inr (.inl ⟨id', ver', o, n, rfl, hlive _ _ (hh y (by simp [Op.operands]) _ _ (by rw [ey]; rfl)) hl⟩))
  ·exact .inr (.inr (.inr hw))
 | makeMap T => rw [← hd]; exact .makeMap T
 | eqAgg op x y ex hX ey hY hl hop => exact .eqAgg op x y (by rw [he x (by simp [Op.operands])]; exact ex) hX (by rw [he y (by simp [Op.operands])]; exact ey) hY hl hop
 | eqNil op hT x y ex hb ey hop =>
  rename_i T T2 e f b
  have hb' : zaU s' f b := by
   cases hb with
   | nil => exact .nil
   | own id ver o n hl hn => exact .own id ver o n (hlive _ _ (hh x (by simp [Op.operands]) _ _ (by rw [ex]; rfl)) hl) hn
   | list sz es hn => exact .list sz es hn
  exact .eqNil op hT x y (by rw [he x (by simp [Op.operands])]; exact ex) hb' (by rw [he y (by simp [Op.operands])]; exact ey) hop
 | copy hT hk hz x y ex hlf hver hsz ey h2 =>
  have e := hh x (by simp [Op.operands, Call.operands]) _ _ (by rw [ex]; rfl)
  rw [← e]
  exact .copy hT hk hz x y (by rw [he x (by simp [Op.operands, Call.operands])]; exact ex) (by rw [e]; exact hlf) (by rw [e]; exact hver) (by rw [e]; exact hsz) (by rw [he y (by simp [Op.operands, Call.operands])]; exact ey)
   (h2.loc fun id ver hv => hh y (by simp [Op.operands, Call.operands]) id ver (by rw [ey]; exact hv))
 | mkIface hk hni x ex hn => exact .mkIface hk hni x (by rw [he x (by simp [Op.operands])]; exact ex) hn
 | mkIfaceH hk hni x ex hn => exact .mkIfaceH hk hni x (by rw [he x (by simp [Op.operands])]; exact ex) hn
 | tAssert hk hni x ex hn => exact .tAssert hk hni x (by rw [he x (by simp [Op.operands])]; exact ex) hn
 | makeFnH hx hn => exact .makeFnH (by rw [← hx]; exact List.map_congr_left fun y hy => he y (by simp [Op.operands] at hy ⊢; exact hy)) hn
 | bound hx hn => exact .bound (by rw [← hx]; exact List.map_congr_left fun y hy => he y (by simp [Op.operands] at hy ⊢; exact hy)) hn
 | look hT hk K x y ok ex ey hkk hkf hl hn =>
  refine .look hT hk K x y ok ?_ (by rw [he y (by simp [Op.operands])]; exact ey) hkk hkf hl hn
  rcases ex with ⟨id, ver, e1, e2, e3⟩ | e1
  ·have e := hh x (by simp [Op.operands]) _ _ (by rw [e1]; rfl)
   exact .inl ⟨id, ver, by rw [he x (by simp [Op.operands])]; exact e1, hlive _ _ e e2, by rw [e]; exact e3⟩
  ·exact .inr (by rw [he x (by simp [Op.operands])]; exact e1)
 | update hT K x y z ex hlf hver ey ez hk hkf hn hs =>
  have e := hh x (by simp [Op.operands]) _ _ (by rw [ex]; rfl)
  rw [← e]
  exact .update hT K x y z (by rw [he x (by simp [Op.operands])]; exact ex) (by rw [e]; exact hlf) (by rw [e]; exact hver) (by rw [he y (by simp [Op.operands])]; exact ey) (by rw [he z (by simp [Op.operands])]; exact ez) (by rw [e]; exact hk) hkf hn (by rw [e]; exact hs)
 | call hs hm hx => exact .call hs hm (hx.loc (fun x hx => he x (by simp [Op.operands, Call.operands] at hx ⊢; exact .inr hx)) (fun x hx => hh x (by simp [Op.operands, Call.operands] at hx ⊢; exact .inr hx)))
 | @callV f x xs ts gs caps res ex hs hx => exact .callV (by rw [he x (by simp [Op.operands, Call.operands])]; exact ex) hs (hx.loc (fun y hy => he y (by simp [Op.operands, Call.operands] at hy ⊢; exact .inr hy)) (fun y hy => hh y (by simp [Op.operands, Call.operands] at hy ⊢; exact .inr hy)))
 | makeFn hx hc => exact .makeFn (by rw [← hx]; exact List.map_congr_left fun y hy => he y (by simp [Op.operands] at hy ⊢; exact hy)) hc
 | extN ho hn hg =>
  have hfe : xi s' d op = xi s d op := by
   unfold xi
   rw [hst]
   refine congrArg (d :: ·) (xt fun x hx => ?_)
   rw [he x hx]
  exact .extN ho hn fun s'' h1 h2 => hg s'' (fun x hx => (h1 x hx).trans (he x hx)) (fun id hid => (h2 id (by rw [hfe]; exact hid)).trans (hob id hid))
 | ext ho hn hg =>
  have hfe : xi s' d op = xi s d op := by
   unfold xi
   rw [hst]
   refine congrArg (d :: ·) (xt fun x hx => ?_)
   rw [he x hx]
  exact .ext ho hn fun s'' h1 h2 => hg s'' (fun x hx => (h1 x hx).trans (he x hx)) (fun id hid => (h2 id (by rw [hfe]; exact hid)).trans (hob id hid))
 | callOw hs hx => rw [← hd]; exact .callOw hs (hx.loc (fun x hx => he x (by simp [Op.operands, Call.operands] at hx ⊢; exact .inr hx)) (fun x hx => hh x (by simp [Op.operands, Call.operands] at hx ⊢; exact .inr hx)))

theorem FR.ext {N : Nat} {w0 w : World} {J : JJ} {a : Act} {β : Nat → Option Nat} (h : FR N w0 J s a w β) (hg : ∀ k, s'.get k = s.get k) (ho : ∀ k, s'.ob k = s.ob k) : FR N w0 J s' a w β := by
 refine h.step (C := fun _ => False) h.size h.defers h.bel (fun b hb => ⟨⟨hb.1, hb.2.1, fun id hl => hb.2.2 id (by rw [← ho]; exact hl)⟩, rfl⟩) (fun k => .inl ⟨rfl, hg k⟩) (fun id _ => ⟨ho id, rfl, fun _ _ _ => rfl⟩) (fun _ h => h.elim) (fun _ h => h.elim) (fun _ h => h.elim) ?_ (fun b _ hn => ⟨rfl, fun id hl => hn id (by rw [← ho]; exact hl)⟩)
 intro id id' b hl hl'
 rw [ho] at hl hl'
 exact h.inj id id' b hl hl'
end
end Go.Proofs.Ythjplkjpehdpfaa
