/-
  The operations of the machine of plain values that make no memory.
-/
import Derived.Test.YthijndjgchbeoaaFmD
namespace Go.Proofs.Ythijndjgchbeoaa
set_option linter.unusedVariables false
open Go.RowKit

/-- objects written one after the other -/
def FS.wr (s : FS) (l : List (Nat × FObj)) : FS := l.foldl (fun s p => s.set p.1 p.2) s
theorem FS.wr_nil (s : FS) : s.wr [] = s := rfl
theorem FS.wr_get (l : List (Nat × FObj)) : ∀ (s : FS) (k : Nat), (s.wr l).get k = s.get k := by
  induction l with
  | nil => exact fun _ _ => rfl
  | cons p l ih => exact fun s k => ih (s.set p.1 p.2) k

/-- the handle is on an object that lives, of this version -/
def FS.live (s : FS) (id ver : Nat) : Prop := (s.ob id).life ≠ .dead ∧ (s.ob id).ver = ver

/-- an operation runs to a value, and the state follows -/
def Good (c : Ctx) (w0 : World) (J : Nat → Prop) (s : FS) (a : Act) (o : Oper) (w : World) (f : FV) (wr : List (Nat × FObj)) : Prop :=
  ∃ v w' β', (execOp a.eval o).run c.P w = .ok (.value v) w' ∧ FR c.N w0 J (s.wr wr) a w' β' ∧ VR w' (Imm J w' β' (s.wr wr)) β' (s.wr wr) v f ∧ ∀ id ver, f.hand = some (id, ver) → ver ≤ ((s.wr wr).ob id).ver

section
variable {c : Ctx} {w0 w : World} {J : Nat → Prop} {s : FS} {a : Act} {β : Nat → Option Nat} {dst : Option Nat} {ty : TypeId} {pos : String} {after : Array Edge} {g : Option (Nat × Bool)}

theorem Good.pure {o : Oper} {v : Value} {f : FV} (h : FR c.N w0 J s a w β) (hr : (execOp a.eval o).run c.P w = .ok (.value v) w) (hf : VR w (Imm J w β s) β s v f) (hv : ∀ id ver, f.hand = some (id, ver) → ver ≤ (s.ob id).ver) : Good c w0 J s a o w f [] :=
  ⟨v, w, β, hr, h, hf, hv⟩
theorem Good.rd {o : Oper} {v : Value} {f : FV} (h : FR c.N w0 J s a w β) (hr : (execOp a.eval o).run c.P w = .ok (.value v) w) (hf : Rd w (Imm J w β s) v f) (hn : f.hand = none) : Good c w0 J s a o w f [] :=
  .pure h hr (VR.of_rd hf hn) (fun id ver e => by rw [hn] at e; cases e)

theorem good_move (h : FR c.N w0 J s a w β) (x : Operand) : Good c w0 J s a ⟨dst, .move x, ty, pos, after, g⟩ w (s.ev x) [] :=
  .pure h (v := a.eval x) (by simp [execOp]) (h.ev x) (fun id ver e => h.evers x e)
theorem good_assign (h : FR c.N w0 J s a w β) (x : Operand) : Good c w0 J s a ⟨dst, .assign x, ty, pos, after, g⟩ w (s.ev x) [] :=
  .pure h (v := a.eval x) (by simp [execOp]) (h.ev x) (fun id ver e => h.evers x e)
theorem good_pick (h : FR c.N w0 J s a w β) (cnd x y : Operand) {b : Bool} (hb : s.ev cnd = .bool b) : Good c w0 J s a ⟨dst, .pick cnd x y, ty, pos, after, g⟩ w (if b then s.ev x else s.ev y) [] := by
  have e := h.ev_bool hb
  cases b
  · exact .pure h (v := a.eval y) (by simp [execOp, e, asBool]) (h.ev y) (fun id ver e => h.evers y e)
  · exact .pure h (v := a.eval x) (by simp [execOp, e, asBool]) (h.ev x) (fun id ver e => h.evers x e)
theorem good_ibin (h : FR c.N w0 J s a w β) (op : BinOp) (T T2 : TypeId) (x y : Operand) {k : IntKind} {m n : Int} {f : FV} (ex : s.ev x = .int k m) (ey : s.ev y = .int k n) (hf : ibin op k m n = some f) :
    Good c w0 J s a ⟨dst, .binOp op T x y T2, ty, pos, after, g⟩ w f [] := by
  obtain ⟨v, h1, h2, h3⟩ := run_ibin (P := c.P) (w := w) op T T2 x y (h.ev_int ex) (h.ev_int ey) hf dst ty pos after g (Imm J w β s)
  exact .rd h h1 h2 h3
theorem good_idiv (h : FR c.N w0 J s a w β) (op : BinOp) (T T2 : TypeId) (x y : Operand) {k : IntKind} {m n : Int} (ex : s.ev x = .int k m) (ey : s.ev y = .int k n) (hn : n ≠ 0) (hop : op = .quo ∨ op = .rem) :
    Good c w0 J s a ⟨dst, .binOp op T x y T2, ty, pos, after, g⟩ w (.int k (if op = .quo then k.wrap (m.tdiv n) else m.tmod n)) [] :=
  .rd h (run_idiv (P := c.P) (w := w) op T T2 x y (h.ev_int ex) (h.ev_int ey) hn hop dst ty pos after g) (.int _ _) rfl
theorem good_bbin (h : FR c.N w0 J s a w β) (op : BinOp) {T T2 : TypeId} (x y : Operand) {m n : Bool} (hT : (c.ty T).k = .bool) (ex : s.ev x = .bool m) (ey : s.ev y = .bool n) (hop : op = .eql ∨ op = .neq) :
    Good c w0 J s a ⟨dst, .binOp op T x y T2, ty, pos, after, g⟩ w (.bool (if op = .eql then m == n else m != n)) [] := by
  obtain ⟨d, i, z, ht⟩ := c.get hT (by simp)
  have hd := ht.k
  rw [hT] at hd
  obtain rfl := kind_bool hd
  exact .rd h (run_bbin (P := c.P) (w := w) op x y ht.u (h.ev_bool ex) (h.ev_bool ey) hop dst ty pos after g) (.bool _) rfl
theorem good_not (h : FR c.N w0 J s a w β) (T : TypeId) (x : Operand) {b : Bool} (ex : s.ev x = .bool b) : Good c w0 J s a ⟨dst, .unOp .not T x, ty, pos, after, g⟩ w (.bool (!b)) [] :=
  .rd h (v := .bool (!b)) (by simp [execOp, h.ev_bool ex, Op.unary]) (.bool _) rfl
theorem good_neg (h : FR c.N w0 J s a w β) (T : TypeId) (x : Operand) {k : IntKind} {n : Int} (ex : s.ev x = .int k n) : Good c w0 J s a ⟨dst, .unOp .neg T x, ty, pos, after, g⟩ w (.int k (k.wrap (-n))) [] :=
  .rd h (v := .int k (k.wrap (-n))) (by simp [execOp, h.ev_int ex, Op.unary, Op.intArith]) (.int _ _) rfl
theorem good_min2 (h : FR c.N w0 J s a w β) (bi : Builtin) (T T2 : TypeId) (x y : Operand) {k : IntKind} {m n : Int} (ex : s.ev x = .int k m) (ey : s.ev y = .int k n) (hbi : bi = .min ∨ bi = .max) :
    Good c w0 J s a ⟨dst, .call { callee := .builtin bi, args := #[x, y], argTypes := #[T, T2] }, ty, pos, after, g⟩ w (.int k (if bi = .min then (if n < m then n else m) else (if m < n then n else m))) [] := by
  rcases hbi with rfl | rfl
  · refine .rd h (v := .int k (if n < m then n else m)) ?_ (.int _ _) rfl
    simp [execOp, resolve, invoke, builtin, Builtin.min_, Builtin.min2, h.ev_int ex, h.ev_int ey]
  · refine .rd h (v := .int k (if m < n then n else m)) ?_ (.int _ _) rfl
    simp [execOp, resolve, invoke, builtin, Builtin.max_, Builtin.max2, h.ev_int ex, h.ev_int ey]

theorem run_len {T e : TypeId} (hT : (c.ty T).k = .slice e) (x : Operand) {A : Option Addr} {n cc : Nat} (ex : a.eval x = .slice A n cc) :
    (execOp a.eval ⟨dst, .call { callee := .builtin .len, args := #[x], argTypes := #[T] }, ty, pos, after, g⟩).run c.P w = .ok (.value (.int .i64 n)) w := by
  obtain ⟨d, i, z, ht⟩ := c.get hT (by simp)
  have hd := ht.k
  rw [hT] at hd
  obtain rfl := kind_slice hd
  simp [execOp, resolve, invoke, builtin, Builtin.len_, ex, run_underlying ht.u, goInt]
theorem good_len_own (h : FR c.N w0 J s a w β) {T e : TypeId} (hT : (c.ty T).k = .slice e) (x : Operand) {id ver o n : Nat} (ex : s.ev x = .own id ver o n) (hl : s.live id ver) :
    Good c w0 J s a ⟨dst, .call { callee := .builtin .len, args := #[x], argTypes := #[T] }, ty, pos, after, g⟩ w (.int .i64 n) [] := by
  obtain ⟨A, cc, h1, _⟩ := (h.ev_own ex hl.1 hl.2).ex
  exact .rd h (run_len hT x h1) (.int _ _) rfl
theorem good_len_list (h : FR c.N w0 J s a w β) {T e : TypeId} (hT : (c.ty T).k = .slice e) (x : Operand) {sz : Nat} {es : List (List FV)} (ex : s.ev x = .list sz es) :
    Good c w0 J s a ⟨dst, .call { callee := .builtin .len, args := #[x], argTypes := #[T] }, ty, pos, after, g⟩ w (.int .i64 es.length) [] := by
  have hr := h.ev_rd ex rfl
  generalize hx : a.eval x = v at hr
  cases hr with
  | list A n cc sz es us hn => subst hn; exact .rd h (run_len hT x hx) (.int _ _) rfl
theorem good_len_nil (h : FR c.N w0 J s a w β) {T e : TypeId} (hT : (c.ty T).k = .slice e) (x : Operand) (ex : s.ev x = .nil) :
    Good c w0 J s a ⟨dst, .call { callee := .builtin .len, args := #[x], argTypes := #[T] }, ty, pos, after, g⟩ w (.int .i64 0) [] :=
  .rd h (by have := run_len (c := c) (w := w) (dst := dst) (ty := ty) (pos := pos) (after := after) (g := g) hT x (h.ev_nil ex); simpa using this) (.int _ _) rfl

/-- a pointer that a slot holds reads as an address -/
theorem FR.ev_eptr (h : FR c.N w0 J s a w β) {x : Operand} {sz i o : Nat} {es : List (List FV)} (e : s.ev x = .eptr sz es i o) :
    ∃ b off us, a.eval x = .pointer (some ⟨b, off + (i * sz + o), none⟩) ∧ Imm J w β s b ∧ (∀ e ∈ es, e.length = sz) ∧ (∀ f ∈ es.flatten, f.one = true) ∧ (∀ (j : Nat) u, us[j]? = some u → w.cell? ⟨b, off + j, none⟩ = some u) ∧ RdL w (Imm J w β s) us es.flatten := by
  have hr := h.ev_rd e rfl
  generalize a.eval x = v at hr
  cases hr with
  | eptr b off sz es i o us hI he ho hA hl hr => exact ⟨b, off, us, rfl, hI, he, ho, hA, hl, hr⟩

theorem run_field {T ft i off : Nat} {fs : List (Nat × Nat)} (hT : (c.ty T).k = .strct fs) (hf : fs[i]? = some (off, ft)) (hft : (c.ty ft).k ≠ .other) (hsz : (c.ty ft).size ≠ 0) (x : Operand) {b o : Nat} (ex : a.eval x = .pointer (some ⟨b, o, none⟩)) :
    (execOp a.eval ⟨dst, .fieldAddr T x i, ty, pos, after, g⟩).run c.P w = .ok (.value (.pointer (some ⟨b, o + off, none⟩))) w := by
  obtain ⟨d, ii, z, ht⟩ := c.get hT (by simp)
  have hd := ht.k
  rw [hT] at hd
  obtain ⟨gs, rfl, hfs, _⟩ := kind_strct hd
  rw [hfs, List.getElem?_map] at hf
  cases hg : gs.toList[i]? with
  | none => rw [hg] at hf; cases hf
  | some fl =>
    rw [hg] at hf
    simp only [Option.map_some, Option.some.injEq, Prod.mk.injEq] at hf
    obtain ⟨rfl, rfl⟩ := hf
    have hg' : gs[i]? = some fl := by simpa using hg
    have hs := run_sizeOf (c := c) hft w
    simp [execOp, Instr.fieldAt, run_underlying ht.u, hg', ex, Instr.sureAddr, fieldPlace, hs, hsz, add_none]
theorem good_field_ptr (h : FR c.N w0 J s a w β) {T ft i off : Nat} {fs : List (Nat × Nat)} (hT : (c.ty T).k = .strct fs) (hf : fs[i]? = some (off, ft)) (hft : (c.ty ft).k ≠ .other) (hsz : (c.ty ft).size ≠ 0) (x : Operand)
    {id ver j o : Nat} (ex : s.ev x = .ptr id ver j o) (hl : s.live id ver) : Good c w0 J s a ⟨dst, .fieldAddr T x i, ty, pos, after, g⟩ w (.ptr id ver j (o + off)) [] := by
  obtain ⟨hrow, b, hb, hv⟩ := h.ev_ptr ex hl.1 hl.2
  refine .pure h (run_field hT hf hft hsz x hv) (fun _ _ => ⟨hrow, b, hb, by rw [Nat.add_assoc]⟩) (fun id' ver' e => h.evers x (by rw [ex]; exact e))
theorem good_field_eptr (h : FR c.N w0 J s a w β) {T ft i off : Nat} {fs : List (Nat × Nat)} (hT : (c.ty T).k = .strct fs) (hf : fs[i]? = some (off, ft)) (hft : (c.ty ft).k ≠ .other) (hsz : (c.ty ft).size ≠ 0) (x : Operand)
    {sz j o : Nat} {es : List (List FV)} (ex : s.ev x = .eptr sz es j o) : Good c w0 J s a ⟨dst, .fieldAddr T x i, ty, pos, after, g⟩ w (.eptr sz es j (o + off)) [] := by
  obtain ⟨b, off', us, hv, hI, he, ho, hA, hr⟩ := h.ev_eptr ex
  refine .rd h (run_field hT hf hft hsz x hv) ?_ rfl
  have := Rd.eptr (w := w) (I := Imm J w β s) b off' sz es j (o + off) us hI he ho hA hr.1 hr.2
  rwa [show off' + (j * sz + (o + off)) = off' + (j * sz + o) + off by omega] at this

theorem run_index {T e : Nat} (hT : (c.ty T).k = .slice e) (he : (c.ty e).k ≠ .other) (x y : Operand) {b o m cc : Nat} {k : IntKind} {n : Int} (ex : a.eval x = .slice (some ⟨b, o, none⟩) m cc) (ey : a.eval y = .int k n) (h0 : 0 ≤ n) (h1 : n < m) :
    (execOp a.eval ⟨dst, .indexAddr T x y, ty, pos, after, g⟩).run c.P w = .ok (.value (.pointer (some ⟨b, o + n.toNat * (c.ty e).size, none⟩))) w := by
  obtain ⟨d, ii, z, ht⟩ := c.get hT (by simp)
  have hd := ht.k
  rw [hT] at hd
  obtain rfl := kind_slice hd
  have hs := run_sizeOf (c := c) he w
  simp [execOp, Instr.indexAt, run_underlying ht.u, ex, ey, asIntOf, hs, h0, h1, add_none]
theorem good_index_list (h : FR c.N w0 J s a w β) {T e : Nat} (hT : (c.ty T).k = .slice e) (he : (c.ty e).k ≠ .other) (x y : Operand) {sz : Nat} {es : List (List FV)} {k : IntKind} {n : Nat} (ex : s.ev x = .list sz es) (hsz : (c.ty e).size = sz)
    (ey : s.ev y = .int k n) (h1 : n < es.length) : Good c w0 J s a ⟨dst, .indexAddr T x y, ty, pos, after, g⟩ w (.eptr sz es n 0) [] := by
  have hr := h.ev_rd ex rfl
  generalize hx : a.eval x = v at hr
  cases hr with
  | list A m cc sz es us hn hc hw ho hA hl hr =>
    subst hn
    obtain ⟨b, off, rfl, hI, hcell⟩ := hA (by omega)
    refine .rd h (run_index hT he x y hx (h.ev_int ey) (by omega) (by omega)) ?_ rfl
    have := Rd.eptr (w := w) (I := Imm J w β s) b off sz es n 0 us hI hw ho hcell hl hr
    rw [hsz]
    simpa using this
theorem good_index_own (h : FR c.N w0 J s a w β) {T e : Nat} (hT : (c.ty T).k = .slice e) (he : (c.ty e).k ≠ .other) (x y : Operand) {id ver o m : Nat} {k : IntKind} {n : Nat} (ex : s.ev x = .own id ver o m) (hl : s.live id ver) (hsz : (c.ty e).size = (s.ob id).sz)
    (ey : s.ev y = .int k n) (h1 : n < m) : Good c w0 J s a ⟨dst, .indexAddr T x y, ty, pos, after, g⟩ w (.ptr id ver (o + n) 0) [] := by
  have hrow := (h.ev_own ex hl.1 hl.2).row
  obtain ⟨A, cc, e1, e2, e3, e4, e5⟩ := (h.ev_own ex hl.1 hl.2).ex
  cases hb : β id with
  | none => have := (e4 hb).2; omega
  | some b =>
    obtain ⟨o', rfl, k2, k3⟩ := e5 b hb
    have ho' := k2 (.inl (by omega))
    subst ho'
    refine .pure h (run_index hT he x y e1 (h.ev_int ey) (by omega) (by omega)) (fun _ _ => ⟨hrow, b, hb, ?_⟩) (fun id' ver' e => h.evers x (by rw [ex]; exact e))
    rw [hsz]
    simp [Nat.add_mul]
theorem run_indexA {T n e : Nat} (hT : (c.ty T).k = .arr n e) (he : (c.ty e).k ≠ .other) (x y : Operand) {b o : Nat} {k : IntKind} {i : Int} (ex : a.eval x = .pointer (some ⟨b, o, none⟩)) (ey : a.eval y = .int k i) (h0 : 0 ≤ i) (h1 : i < n) :
    (execOp a.eval ⟨dst, .indexAddr T x y, ty, pos, after, g⟩).run c.P w = .ok (.value (.pointer (some ⟨b, o + i.toNat * (c.ty e).size, none⟩))) w := by
  obtain ⟨d, ii, z, ht⟩ := c.get hT (by simp)
  have hd := ht.k
  rw [hT] at hd
  obtain rfl := kind_arr hd
  have hs := run_sizeOf (c := c) he w
  simp [execOp, Instr.indexAt, run_underlying ht.u, ex, ey, asIntOf, hs, h0, h1, add_none, Instr.sureAddr]
theorem good_indexA_ptr (h : FR c.N w0 J s a w β) {T m e : Nat} (hT : (c.ty T).k = .arr m e) (he : (c.ty e).k ≠ .other) (x y : Operand) {id ver j o : Nat} {k : IntKind} {n : Nat} (ex : s.ev x = .ptr id ver j o) (hl : s.live id ver)
    (ey : s.ev y = .int k n) (h1 : n < m) : Good c w0 J s a ⟨dst, .indexAddr T x y, ty, pos, after, g⟩ w (.ptr id ver j (o + n * (c.ty e).size)) [] := by
  obtain ⟨hrow, b, hb, hv⟩ := h.ev_ptr ex hl.1 hl.2
  refine .pure h (run_indexA hT he x y hv (h.ev_int ey) (by omega) (by omega)) (fun _ _ => ⟨hrow, b, hb, by simp [Nat.add_assoc]⟩) (fun id' ver' e => h.evers x (by rw [ex]; exact e))
theorem good_indexA_eptr (h : FR c.N w0 J s a w β) {T m e : Nat} (hT : (c.ty T).k = .arr m e) (he : (c.ty e).k ≠ .other) (x y : Operand) {sz j o : Nat} {es : List (List FV)} {k : IntKind} {n : Nat} (ex : s.ev x = .eptr sz es j o)
    (ey : s.ev y = .int k n) (h1 : n < m) : Good c w0 J s a ⟨dst, .indexAddr T x y, ty, pos, after, g⟩ w (.eptr sz es j (o + n * (c.ty e).size)) [] := by
  obtain ⟨b, off', us, hv, hI, hw, ho, hA, hr⟩ := h.ev_eptr ex
  refine .rd h (run_indexA hT he x y hv (h.ev_int ey) (by omega) (by omega)) ?_ rfl
  have := Rd.eptr (w := w) (I := Imm J w β s) b off' sz es j (o + n * (c.ty e).size) us hI hw ho hA hr.1 hr.2
  simp only [Int.toNat_natCast]
  rwa [show off' + (j * sz + (o + n * (c.ty e).size)) = off' + (j * sz + o) + n * (c.ty e).size by omega] at this

/-- element i of the row, from its cell o on -/
theorem flat_drop {α : Type} {sz : Nat} : ∀ (es : List (List α)), (∀ e ∈ es, e.length = sz) → ∀ (i o : Nat), i < es.length → o ≤ sz → es.flatten.drop (i * sz + o) = (es.getD i []).drop o ++ (es.drop (i + 1)).flatten
  | [], _, i, _, hi, _ => by simp at hi
  | e :: es, he, 0, o, _, ho => by
    have h1 := he e (by simp)
    simp only [Nat.zero_mul, Nat.zero_add, List.flatten_cons, List.getD_cons_zero, List.drop_one, List.tail_cons]
    rw [List.drop_append, h1, Nat.sub_eq_zero_of_le ho, List.drop_zero]
  | e :: es, he, i + 1, o, hi, ho => by
    have h1 := he e (by simp)
    have ih := flat_drop es (fun x hx => he x (by simp [hx])) i o (by simpa using hi) ho
    rw [show (i + 1) * sz + o = sz + (i * sz + o) by rw [Nat.add_mul]; omega, List.flatten_cons, ← List.drop_drop, ← h1, List.drop_left, h1, ih]
    simp
theorem flat_length {α : Type} {sz : Nat} {es : List (List α)} (he : ∀ e ∈ es, e.length = sz) : es.flatten.length = es.length * sz := by
  induction es with
  | nil => simp
  | cons e es ih => rw [List.flatten_cons, List.length_append, ih (fun x hx => he x (by simp [hx])), he e (by simp), List.length_cons, Nat.add_mul]; omega
theorem getD_len {α : Type} {sz : Nat} {es : List (List α)} (he : ∀ e ∈ es, e.length = sz) {i : Nat} (hi : i < es.length) : (es.getD i []).length = sz := by
  rw [List.getD_eq_getElem?_getD, List.getElem?_eq_getElem hi]; exact he _ (List.getElem_mem hi)
theorem loadF_append {ts : TS} {cs ds : List FV} (h : ts.size ≤ cs.length) (h1 : cs ≠ []) : loadF ts (cs ++ ds) = loadF ts cs := by
  unfold loadF
  split
  · rw [List.take_append_of_le_length h]
  · cases cs with
    | nil => exact absurd rfl h1
    | cons x xs => rfl

theorem good_load_eptr (h : FR c.N w0 J s a w β) {T : Nat} {bb : Bool} (hk : (c.ty T).k.agg? = some bb) (x : Operand) {sz j o : Nat} {es : List (List FV)} (ex : s.ev x = .eptr sz es j o) (hj : j < es.length) (ho : o + (c.ty T).size ≤ sz) (ho' : o < sz) :
    Good c w0 J s a ⟨dst, .load T x, ty, pos, after, g⟩ w (loadF (c.ty T) ((es.getD j []).drop o)) [] := by
  obtain ⟨b, off', us, hv, hI, hw, hone, hA, hr⟩ := h.ev_eptr ex
  have hd := hr.drop (j * sz + o)
  rw [flat_drop es hw j o hj (by omega)] at hd
  have hlen : ((es.getD j []).drop o).length = sz - o := by rw [List.length_drop, getD_len hw hj]
  have hul := hd.1
  rw [List.length_append, hlen] at hul
  obtain ⟨v, r1, r2⟩ := run_loadVar hk w b (off' + (j * sz + o)) (us.drop (j * sz + o)) (by omega) (fun _ => by omega) (fun i u hu => by
    rw [List.getElem?_drop] at hu
    have := hA _ u hu
    rwa [show off' + (j * sz + o) + i = off' + (j * sz + o + i) by omega]) hd
  rw [loadF_append (by omega) (fun e => by rw [e] at hlen; simp at hlen; omega)] at r2
  have hnh : (loadF (c.ty T) ((es.getD j []).drop o)).hand = none := by
    unfold loadF
    split
    · rfl
    · have hm : ((es.getD j []).drop o).headD .undef ∈ es.flatten := by
        cases hcs : (es.getD j []).drop o with
        | nil => rw [hcs] at hlen; simp at hlen; omega
        | cons y ys =>
          have hy : y ∈ es.getD j [] := List.mem_of_mem_drop (i := o) (by rw [hcs]; simp)
          rw [List.getD_eq_getElem?_getD, List.getElem?_eq_getElem hj] at hy
          exact List.mem_flatten.2 ⟨es[j], List.getElem_mem hj, hy⟩
      have := hone _ hm
      generalize ((es.getD j []).drop o).headD .undef = f at this
      cases f <;> first | rfl | (simp [FV.one] at this)
  exact .rd h (by simp [execOp, Instr.loadAt, hv, Instr.sureAddr, r1]) r2 hnh

/-- what a live object's block holds -/
theorem FR.block (h : FR c.N w0 J s a w β) {id : Nat} (hl : (s.ob id).life ≠ .dead) (hrl : (s.ob id).life.row = true) {b : Nat} (hb : β id = some b) :
    ∃ cur cap, w.heap[b]? = some (.cells cur (s.ob id).E (0, 0)) ∧ (s.ob id).es.length ≤ cap ∧ cap ≤ maxLen ∧ cur.size = cap * (s.ob id).sz ∧
      RdL w (Imm J w β s) (cur.toList.take ((s.ob id).es.length * (s.ob id).sz)) (s.ob id).es.flatten ∧ w.ownsRow w0.heap.size (s.ob id).E (s.ob id).sz (.slice (some ⟨b, 0, none⟩) (s.ob id).es.length cap) (s.ob id).es.length (cur.toList.take ((s.ob id).es.length * (s.ob id).sz)) := by
  obtain ⟨v, us, r1, r2, r3⟩ := ((h.obj id hl).rowR hrl).row
  have r1' := r1
  rcases r1.2 with ⟨rfl, _⟩ | ⟨g', cap, cur, rfl, _, hgg, hn, hm, hcs, htk⟩
  · rw [← r2] at hb; simp [Value.ownBlock] at hb
  · have hgb : g' = b := by rw [← r2] at hb; simpa [Value.ownBlock] using hb
    subst hgb
    subst htk
    exact ⟨cur, cap, hgg, hn, hm, hcs, r3, r1'⟩

theorem good_load_ptr (h : FR c.N w0 J s a w β) {T : Nat} {bb : Bool} (hk : (c.ty T).k.agg? = some bb) (x : Operand) {id ver j o : Nat} (ex : s.ev x = .ptr id ver j o) (hl : s.live id ver) (hrl : (s.ob id).life.row = true) (hj : j < (s.ob id).es.length) (ho : o + (c.ty T).size ≤ (s.ob id).sz) (ho' : o < (s.ob id).sz) :
    Good c w0 J s a ⟨dst, .load T x, ty, pos, after, g⟩ w (loadF (c.ty T) (((s.ob id).es.getD j []).drop o)) [] := by
  obtain ⟨_, b, hb, hv⟩ := h.ev_ptr ex hl.1 hl.2
  obtain ⟨cur, cap, hblk, hn, hm, hcs, hr, hrow⟩ := h.block hl.1 hrl hb
  have hw := ((h.obj id hl.1).rowR hrl).wide
  have hone := ((h.obj id hl.1).rowR hrl).one
  generalize (s.ob id).es = es at hj hn hr hrow hw hone ⊢
  generalize (s.ob id).sz = sz at ho ho' hcs hr hrow hw hv ⊢
  have hd := hr.drop (j * sz + o)
  rw [flat_drop es hw j o hj (by omega)] at hd
  have hlen : ((es.getD j []).drop o).length = sz - o := by rw [List.length_drop, getD_len hw hj]
  have hul := hd.1
  rw [List.length_append, hlen] at hul
  obtain ⟨v, r1, r2⟩ := run_loadVar hk w b (j * sz + o) ((cur.toList.take (es.length * sz)).drop (j * sz + o)) (by omega) (fun _ => by omega) (fun i u hu => by
    rw [List.getElem?_drop, List.getElem?_take] at hu
    rw [cell_of_row w b _ cur (s.ob id).E (0, 0) hblk]
    split at hu
    · simpa using hu
    · cases hu) hd
  rw [loadF_append (by omega) (fun e => by rw [e] at hlen; simp at hlen; omega)] at r2
  have hnh : (loadF (c.ty T) ((es.getD j []).drop o)).hand = none := by
    unfold loadF
    split
    · rfl
    · have hm : ((es.getD j []).drop o).headD .undef ∈ es.flatten := by
        cases hcs : (es.getD j []).drop o with
        | nil => rw [hcs] at hlen; simp at hlen; omega
        | cons y ys =>
          have hy : y ∈ es.getD j [] := List.mem_of_mem_drop (i := o) (by rw [hcs]; simp)
          rw [List.getD_eq_getElem?_getD, List.getElem?_eq_getElem hj] at hy
          exact List.mem_flatten.2 ⟨es[j], List.getElem_mem hj, hy⟩
      have := hone _ hm
      generalize ((es.getD j []).drop o).headD .undef = f at this
      cases f <;> first | rfl | (simp [FV.one] at this)
  exact .rd h (by simp [execOp, Instr.loadAt, hv, Instr.sureAddr, r1]) r2 hnh
end
end Go.Proofs.Ythijndjgchbeoaa
