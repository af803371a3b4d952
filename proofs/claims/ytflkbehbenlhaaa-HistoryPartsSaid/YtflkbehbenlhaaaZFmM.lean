/-
  The operations on states that are written out: one law each, for regions in the text's order (rn_) and for those that draw (rd_). (Printed by wip/fmm.py.)
-/
import Derived.Test.YtflkbehbenlhaaaZB
namespace Go.Proofs.Ytflkbehbenlhaaa
set_option linter.unusedVariables false
open Go.RowKit

theorem live_of {t : List (Nat × FV)} {ob : List (Nat × FObj)} {id ver E sz : Nat} {lf : Life} {es : List (List FV)} (h : (⟨t, ob⟩ : FSt).ob id = ⟨ver, lf, E, sz, es⟩) (hl : lf ≠ .dead) : (⟨t, ob⟩ : FSt).live id ver := by
  unfold FSt.live
  rw [h]
  exact ⟨hl, rfl⟩
theorem ver_of {t : List (Nat × FV)} {ob : List (Nat × FObj)} {d v E sz : Nat} {lf : Life} {es : List (List FV)} (h : (⟨t, ob⟩ : FSt).ob d = ⟨v, lf, E, sz, es⟩) : ((⟨t, ob⟩ : FSt).ob d).ver + 1 = v + 1 := by rw [h]

theorem wrap_u64 {n : Int} (h : 0 ≤ n ∧ n ≤ 18446744073709551615) : IntKind.wrap .u64 n = n := by
  have : n % (2 ^ 64 : Int) = n := Int.emod_eq_of_lt h.1 (by omega)
  show (if false && decide (n % (2 ^ 64 : Int) ≥ 2 ^ (64 - 1)) then n % (2 ^ 64 : Int) - 2 ^ 64 else n % (2 ^ 64 : Int)) = n
  rw [this]; simp
theorem drop_headD {cs : List FV} {o : Nat} {f : FV} (h : cs[o]? = some f) : o < cs.length ∧ (cs.drop o).headD .undef = f := by
  obtain ⟨h1, h2⟩ := List.getElem?_eq_some_iff.1 h
  refine ⟨h1, ?_⟩
  rw [List.drop_eq_getElem_cons h1, h2]; rfl
theorem splice_one {cs : List FV} {o : Nat} {f : FV} (h : o < cs.length) : splice cs o [f] = cs.set o f := by
  unfold splice
  rw [List.set_eq_take_append_cons_drop, if_pos h]
  simp
def setL (cs : List FV) (o : Nat) : List FV → List FV
  | [] => cs
  | f :: fs => setL (cs.set o f) (o + 1) fs
theorem splice_splice (cs : List FV) (o : Nat) (f : FV) (fs : List FV) (h : o < cs.length) : splice (splice cs o [f]) (o + 1) fs = splice cs o (f :: fs) := by
  unfold splice
  have h1 : (List.take o cs ++ [f] ++ List.drop (o + 1) cs).take (o + 1) = List.take o cs ++ [f] := by
    rw [List.take_append_of_le_length (by simp; omega), List.take_of_length_le (by simp; omega)]
  have h2 : (List.take o cs ++ [f] ++ List.drop (o + 1) cs).drop (o + 1 + fs.length) = List.drop (o + 1 + fs.length) cs := by
    rw [List.drop_append, List.drop_of_length_le (by simp; omega), List.nil_append, List.drop_drop]
    congr 1
    simp
    omega
  simp only [List.length_cons, List.length_nil, Nat.zero_add]
  rw [h1, h2]
  simp [Nat.add_comm, Nat.add_left_comm]
theorem setL_splice : ∀ (fs : List FV) (cs : List FV) (o : Nat), o + fs.length ≤ cs.length → fs ≠ [] → splice cs o fs = setL cs o fs
  | [], _, _, _, h => absurd rfl h
  | [f], cs, o, h, _ => by rw [splice_one (by simp at h; omega)]; rfl
  | f :: g :: fs, cs, o, h, _ => by
    rw [← splice_splice cs o f (g :: fs) (by simp at h; omega), splice_one (by simp at h; omega), setL_splice (g :: fs) _ _ (by simp at h ⊢; omega) (by simp)]
    rfl

inductive FillS (c : Ctx) (s : FSt) (fs : List (Nat × Nat)) : List FV → List (Nat × Operand) → List FV → Prop where
  | nil {cs : List FV} : FillS c s fs cs [] cs
  | one {i off ft : Nat} {x : Operand} {f : FV} {ps : List (Nat × Operand)} {cs cs' : List FV} (hx : s.ev x = f) (hi : fs[i]? = some (off, ft)) (ho : f.cells = [f]) (h1 : f.one = true) (hs : (c.ty ft).size = 1) (hl : Nat.blt off cs.length = true) (h : FillS c s fs (cs.set off f) ps cs') : FillS c s fs cs ((i, x) :: ps) cs'
  | agg {i off ft : Nat} {x : Operand} {gs : List FV} {ps : List (Nat × Operand)} {cs cs' : List FV} (hx : s.ev x = .agg gs) (hi : fs[i]? = some (off, ft)) (h1 : gs.all FV.one = true) (hs : gs.length = (c.ty ft).size) (hp : gs ≠ []) (hl : Nat.ble (off + gs.length) cs.length = true) (h : FillS c s fs (setL cs off gs) ps cs') : FillS c s fs cs ((i, x) :: ps) cs'
theorem FillS.int {c : Ctx} {s : FSt} {fs : List (Nat × Nat)} {i off ft : Nat} {x : Operand} {k : IntKind} {n : Int} {ps : List (Nat × Operand)} {cs cs' : List FV} (hx : s.ev x = .int k n) (hi : fs[i]? = some (off, ft)) (hs : (c.ty ft).size = 1) (hl : Nat.blt off cs.length = true) (h : FillS c s fs (cs.set off (.int k n)) ps cs') : FillS c s fs cs ((i, x) :: ps) cs' := .one hx hi rfl rfl hs hl h
theorem FillS.bool {c : Ctx} {s : FSt} {fs : List (Nat × Nat)} {i off ft : Nat} {x : Operand} {b : Bool} {ps : List (Nat × Operand)} {cs cs' : List FV} (hx : s.ev x = .bool b) (hi : fs[i]? = some (off, ft)) (hs : (c.ty ft).size = 1) (hl : Nat.blt off cs.length = true) (h : FillS c s fs (cs.set off (.bool b)) ps cs') : FillS c s fs cs ((i, x) :: ps) cs' := .one hx hi rfl rfl hs hl h
theorem FillS.list {c : Ctx} {s : FSt} {fs : List (Nat × Nat)} {i off ft sz : Nat} {x : Operand} {es : List (List FV)} {ps : List (Nat × Operand)} {cs cs' : List FV} (hx : s.ev x = .list sz es) (hi : fs[i]? = some (off, ft)) (hs : (c.ty ft).size = 1) (hl : Nat.blt off cs.length = true) (h : FillS c s fs (cs.set off (.list sz es)) ps cs') : FillS c s fs cs ((i, x) :: ps) cs' := .one hx hi rfl rfl hs hl h
theorem ffill_cons {place : Nat → Option (Nat × Nat)} {cs : List FV} {i off size : Nat} {f : FV} {rest : List (Nat × FV)} (hp : place i = some (off, size)) (h1 : f.cells.all FV.one = true) (h2 : f.cells.length = size) (h3 : off + size ≤ cs.length) :
    ffill place cs ((i, f) :: rest) = ffill place (splice cs off f.cells) rest := by
  rw [ffill, hp]
  exact if_pos ⟨h1, h2, h3⟩
theorem FillS.get {c : Ctx} {s : FSt} {fs : List (Nat × Nat)} {cs cs' : List FV} {ps : List (Nat × Operand)} (h : FillS c s fs cs ps cs') :
    ffill (fun i => (fs[i]?).map fun p => (p.1, (c.ty p.2).size)) cs (s.parts ps.toArray) = some cs' := by
  unfold FSt.parts
  simp only [List.toList_toArray]
  induction h with
  | nil => rfl
  | one hx hi ho h1 hs hl h ih =>
    have hl' := Nat.le_of_ble_eq_true hl
    rw [List.map_cons, hx, ffill_cons (off := _) (size := _) (by rw [hi]; rfl) (by rw [ho]; simpa using h1) (by rw [ho]; exact hs.symm) (by dsimp only; omega), ho, splice_one hl']
    exact ih
  | @agg i off ft x gs ps cs cs' hx hi h1 hs hp hl h ih =>
    have hl' := Nat.le_of_ble_eq_true hl
    rw [List.map_cons, hx, ffill_cons (f := .agg gs) (off := off) (size := (c.ty ft).size) (by rw [hi]; rfl) h1 hs (by rw [← hs]; exact hl')]
    rw [show (FV.agg gs).cells = gs from rfl, setL_splice gs cs off hl' hp]
    exact ih

def lookO {α : Type} (d : α) : List (Nat × α) → Nat → Option α
  | [], _ => some d
  | (i, a) :: l, k => bif Nat.beq i k then some a else lookO d l k
theorem lookO_eq {α : Type} (d : α) (k : Nat) : ∀ l : List (Nat × α), lookO d l k = some (look d l k)
  | [] => rfl
  | (i, a) :: l => by
    unfold lookO look
    rw [lookO_eq d k l]
    cases Nat.beq i k <;> rfl
def cvalO (v : Value) : Option FV :=
  match v with
  | .int k n => some (.int k n)
  | .bool b => some (.bool b)
  | v => some (cval v)
theorem cvalO_eq (v : Value) : cvalO v = some (cval v) := by unfold cvalO; split <;> rfl
def evO (t : List (Nat × FV)) : Operand → Option FV
  | .tmp i => lookO .undef t i
  | .const v => cvalO v
  | .func f => some (.fn f [])
  | _ => some .undef
theorem ev_of {t : List (Nat × FV)} {ob : List (Nat × FObj)} {x : Operand} {f : FV} (h : evO t x = some f) : (⟨t, ob⟩ : FSt).ev x = f := by
  cases x with
  | tmp i => have h' : lookO .undef t i = some f := h; rw [lookO_eq] at h'; injection h'
  | const v => have h' : cvalO v = some f := h; rw [cvalO_eq] at h'; injection h'
  | _ => injection h
theorem one_cells {f : FV} (h : f.one = true) : f.cells = [f] := by
  cases f <;> first | rfl | (simp [FV.one] at h)
inductive PtsS (s : FSt) (sz : Nat) : Nat → List (Nat × Operand) → List (List FV) → Prop where
  | nil {k : Nat} : PtsS s sz k [] []
  | one {k : Nat} {x : Operand} {f : FV} {ps : List (Nat × Operand)} {es : List (List FV)} (hx : s.ev x = f) (hc : f.cells = [f]) (h1 : f.one = true) (hs : sz = 1) (h : PtsS s sz (k + 1) ps es) : PtsS s sz k ((k, x) :: ps) ([f] :: es)
  | agg {k : Nat} {x : Operand} {gs : List FV} {ps : List (Nat × Operand)} {es : List (List FV)} (hx : s.ev x = .agg gs) (h1 : gs.all FV.one = true) (hs : gs.length = sz) (h : PtsS s sz (k + 1) ps es) : PtsS s sz k ((k, x) :: ps) (gs :: es)
theorem PtsS.int {s : FSt} {sz k : Nat} {x : Operand} {kk : IntKind} {n : Int} {ps : List (Nat × Operand)} {es : List (List FV)} (hx : s.ev x = .int kk n) (hs : sz = 1) (h : PtsS s sz (k + 1) ps es) : PtsS s sz k ((k, x) :: ps) ([.int kk n] :: es) := .one hx rfl rfl hs h
theorem PtsS.list {s : FSt} {sz k q : Nat} {x : Operand} {gs : List (List FV)} {ps : List (Nat × Operand)} {es : List (List FV)} (hx : s.ev x = .list q gs) (hs : sz = 1) (h : PtsS s sz (k + 1) ps es) : PtsS s sz k ((k, x) :: ps) ([.list q gs] :: es) := .one hx rfl rfl hs h
theorem PtsS.bool {s : FSt} {sz k : Nat} {x : Operand} {b : Bool} {ps : List (Nat × Operand)} {es : List (List FV)} (hx : s.ev x = .bool b) (hs : sz = 1) (h : PtsS s sz (k + 1) ps es) : PtsS s sz k ((k, x) :: ps) ([.bool b] :: es) := .one hx rfl rfl hs h
theorem PtsS.len {s : FSt} {sz k : Nat} {ps : List (Nat × Operand)} {es : List (List FV)} (h : PtsS s sz k ps es) : es.length = ps.length ∧ (∀ e ∈ es, e.length = sz) ∧ (∀ f ∈ es.flatten, f.one = true) := by
  have key : ∀ (e : List FV) (es : List (List FV)) (q : Nat × Operand) (ps : List (Nat × Operand)), e.length = sz → (∀ f ∈ e, f.one = true) → (es.length = ps.length ∧ (∀ e ∈ es, e.length = sz) ∧ (∀ f ∈ es.flatten, f.one = true)) →
      ((e :: es).length = (q :: ps).length ∧ (∀ e' ∈ e :: es, e'.length = sz) ∧ (∀ f ∈ (e :: es).flatten, f.one = true)) := by
    intro e es q ps h1 h2 h3
    refine ⟨by simp [h3.1], fun e' he => ?_, fun f hf => ?_⟩
    · rcases List.mem_cons.1 he with e1 | e1
      · rw [e1]; exact h1
      · exact h3.2.1 _ e1
    · rw [List.flatten_cons] at hf
      rcases List.mem_append.1 hf with e1 | e1
      · exact h2 f e1
      · exact h3.2.2 _ e1
  induction h with
  | nil => exact ⟨rfl, by simp, by simp⟩
  | one hx hc h1 hs h ih => exact key [_] _ (_, _) _ (by rw [hs]; rfl) (by simpa using h1) ih
  | agg hx h1 hs h ih => exact key _ _ (_, _) _ hs (fun f hf => List.all_eq_true.1 h1 f hf) ih
theorem splice_mid {α : Type} (pre mid post ds : List α) (h : mid.length = ds.length) : splice (pre ++ (mid ++ post)) pre.length ds = pre ++ (ds ++ post) := by
  unfold splice
  rw [List.take_left, ← h, ← List.append_assoc pre mid post, ← List.length_append, List.drop_left, List.append_assoc]
theorem PtsS.fill {s : FSt} {sz k : Nat} {ps : List (Nat × Operand)} {es : List (List FV)} (h : PtsS s sz k ps es) : ∀ (pre : List FV), pre.length = k * sz →
    ffill (fun i => some (i * sz, sz)) (pre ++ List.replicate (ps.length * sz) .undef) (ps.map fun p => (p.1, s.ev p.2)) = some (pre ++ es.flatten) := by
  induction h with
  | nil => intro pre _; simp [ffill]
  | @one k x f ps es hx hc h1 hs h ih =>
    intro pre hp
    have e1 : List.replicate ((((k, x) :: ps : List (Nat × Operand))).length * sz) FV.undef = List.replicate sz .undef ++ List.replicate (ps.length * sz) .undef := by
      rw [List.length_cons, Nat.add_mul, Nat.one_mul, Nat.add_comm, List.replicate_append_replicate]
    have e2 : (pre ++ List.replicate ((((k, x) :: ps : List (Nat × Operand))).length * sz) FV.undef).length = k * sz + (ps.length + 1) * sz := by simp [hp]
    rw [List.map_cons, hx, ffill_cons (place := fun i => some (i * sz, sz)) (off := k * sz) (size := sz) rfl (by rw [hc]; simpa using h1) (by rw [hc, hs]; rfl) (by rw [e2, Nat.add_mul]; omega), hc, e1, ← hp, splice_mid _ _ _ _ (by simp [hs]), ← List.append_assoc, ih (pre ++ [f]) (by simp [hp, Nat.add_mul, hs])]
    simp
  | @agg k x gs ps es hx h1 hs h ih =>
    intro pre hp
    have e1 : List.replicate ((((k, x) :: ps : List (Nat × Operand))).length * sz) FV.undef = List.replicate sz .undef ++ List.replicate (ps.length * sz) .undef := by
      rw [List.length_cons, Nat.add_mul, Nat.one_mul, Nat.add_comm, List.replicate_append_replicate]
    have e2 : (pre ++ List.replicate ((((k, x) :: ps : List (Nat × Operand))).length * sz) FV.undef).length = k * sz + (ps.length + 1) * sz := by simp [hp]
    rw [List.map_cons, hx, ffill_cons (f := .agg gs) (place := fun i => some (i * sz, sz)) (off := k * sz) (size := sz) rfl h1 hs (by rw [e2, Nat.add_mul]; omega), e1, ← hp]
    rw [show (FV.agg gs).cells = gs from rfl, splice_mid _ _ _ _ (by simp [hs]), ← List.append_assoc, ih (pre ++ gs) (by simp [hp, Nat.add_mul, hs])]
    simp

def FillK (c : Ctx) (s : FSt) (fs : List (Nat × Nat)) (ps : List (Nat × Operand)) (cs : List FV) (K : List FV → Prop) : Prop := ∃ cs', FillS c s fs cs ps cs' ∧ K cs'
theorem FillK.nil {c : Ctx} {s : FSt} {fs : List (Nat × Nat)} {cs : List FV} {K : List FV → Prop} (h : K cs) : FillK c s fs [] cs K := ⟨cs, .nil, h⟩
theorem FillK.one {c : Ctx} {t : List (Nat × FV)} {ob : List (Nat × FObj)} {fs : List (Nat × Nat)} {i off ft : Nat} {x : Operand} {ps : List (Nat × Operand)} {cs : List FV} {K : List FV → Prop} {f : FV} (hx : evO t x = some f) (h1 : f.one = true) (hi : fs[i]? = some (off, ft)) (hs : (c.ty ft).size = 1) (hl : Nat.blt off cs.length = true) (h : FillK c ⟨t, ob⟩ fs ps (cs.set off f) K) : FillK c ⟨t, ob⟩ fs ((i, x) :: ps) cs K :=
  let ⟨cs', q1, q2⟩ := h; ⟨cs', .one (ev_of hx) hi (one_cells h1) h1 hs hl q1, q2⟩
theorem FillK.agg {c : Ctx} {s : FSt} {fs : List (Nat × Nat)} {i off ft : Nat} {x : Operand} {gs : List FV} {ps : List (Nat × Operand)} {cs : List FV} {K : List FV → Prop} (hx : s.ev x = .agg gs) (hi : fs[i]? = some (off, ft)) (h1 : gs.all FV.one = true) (hs : gs.length = (c.ty ft).size) (hp : gs ≠ []) (hl : Nat.ble (off + gs.length) cs.length = true) (h : FillK c s fs ps (setL cs off gs) K) : FillK c s fs ((i, x) :: ps) cs K :=
  let ⟨cs', q1, q2⟩ := h; ⟨cs', .agg hx hi h1 hs hp hl q1, q2⟩
def PtsK (s : FSt) (sz k : Nat) (ps : List (Nat × Operand)) (K : List (List FV) → Prop) : Prop := ∃ es, PtsS s sz k ps es ∧ K es
theorem PtsK.nil {s : FSt} {sz k : Nat} {K : List (List FV) → Prop} (h : K []) : PtsK s sz k [] K := ⟨[], .nil, h⟩
theorem PtsK.one {t : List (Nat × FV)} {ob : List (Nat × FObj)} {sz k : Nat} {x : Operand} {ps : List (Nat × Operand)} {K : List (List FV) → Prop} {f : FV} (hx : evO t x = some f) (h1 : f.one = true) (hs : sz = 1) (h : PtsK ⟨t, ob⟩ sz (k + 1) ps (fun es => K ([f] :: es))) : PtsK ⟨t, ob⟩ sz k ((k, x) :: ps) K :=
  let ⟨es, q1, q2⟩ := h; ⟨_, .one (ev_of hx) (one_cells h1) h1 hs q1, q2⟩
theorem PtsK.agg {s : FSt} {sz k : Nat} {x : Operand} {gs : List FV} {ps : List (Nat × Operand)} {K : List (List FV) → Prop} (hx : s.ev x = .agg gs) (h1 : gs.all FV.one = true) (hs : gs.length = sz) (h : PtsK s sz (k + 1) ps (fun es => K (gs :: es))) : PtsK s sz k ((k, x) :: ps) K :=
  let ⟨es, q1, q2⟩ := h; ⟨_, .agg hx h1 hs q1, q2⟩

def TK.known : TK → Bool
  | .other => false
  | _ => true
theorem TK.known_ne {k : TK} (h : k.known = true) : k ≠ .other := by rintro rfl; cases h

inductive ArgR (t : List (Nat × FV)) (ob : List (Nat × FObj)) (m : Mode) : Operand → FV → Prop where
  | plain {x : Operand} {f : FV} (h : (⟨t, ob⟩ : FSt).ev x = f) (hn : f.hand = none) : ArgR t ob m x f
  | nil {x : Operand} {sz : Nat} (h : (⟨t, ob⟩ : FSt).ev x = .nil) : ArgR t ob m x (.list sz [])
  | sub {x : Operand} {f g : FV} (h : (⟨t, ob⟩ : FSt).ev x = f) (hn : f.hand = none) (hle : FV.le f g) : ArgR t ob m x g
  | own {x : Operand} {id ver n E sz : Nat} {es : List (List FV)} {lf : Life} (h : (⟨t, ob⟩ : FSt).ev x = (.own id ver 0 n)) (hb : (⟨t, ob⟩ : FSt).ob id = ⟨ver, lf, E, sz, es⟩) (hl : lf.row = true) (hm : m = .sh → lf = .shut) (hn : n = es.length) : ArgR t ob m x (.list sz es)
  | part {x : Operand} {id ver o n E sz : Nat} {es : List (List FV)} {lf : Life} (h : (⟨t, ob⟩ : FSt).ev x = (.own id ver o n)) (hb : (⟨t, ob⟩ : FSt).ob id = ⟨ver, lf, E, sz, es⟩) (hl : lf.row = true) (hm : m = .sh → lf = .shut) : ArgR t ob m x (.list sz ((es.drop o).take n))
theorem ArgR.ok {t : List (Nat × FV)} {ob : List (Nat × FObj)} {m : Mode} : ∀ {x : Operand} {g : FV}, ArgR t ob m x g → ArgOk ⟨t, ob⟩ m ((⟨t, ob⟩ : FSt).ev x) g
  | _, _, .plain h hn => by rw [h]; exact .plain _ hn
  | _, _, .sub h hn hle => by rw [h]; exact .sub _ _ hn hle
  | _, _, .nil h => by rw [h]; exact .nil _
  | _, _, .own (id := id) (ver := ver) (n := n) (es := es) h hb hl hm hn => by
    rw [h]
    have := ArgOk.own (s := ⟨t, ob⟩) (m := m) id ver 0 n (live_of hb (Life.row_ne hl)) (by rw [hb]; exact hl) (by rw [hb]; exact hm)
    rw [hb] at this
    simpa [hn] using this
  | _, _, .part (id := id) (ver := ver) (o := o) (n := n) h hb hl hm => by
    rw [h]
    have := ArgOk.own (s := ⟨t, ob⟩) (m := m) id ver o n (live_of hb (Life.row_ne hl)) (by rw [hb]; exact hl) (by rw [hb]; exact hm)
    rw [hb] at this
    exact this
inductive ArgsR (t : List (Nat × FV)) (ob : List (Nat × FObj)) (m : Mode) : List Operand → List FV → Prop where
  | nil : ArgsR t ob m [] []
  | cons {x : Operand} {xs : List Operand} {g : FV} {gs : List FV} (h : ArgR t ob m x g) (hs : ArgsR t ob m xs gs) : ArgsR t ob m (x :: xs) (g :: gs)
theorem ArgsR.ok {t : List (Nat × FV)} {ob : List (Nat × FObj)} {m : Mode} : ∀ {xs : List Operand} {gs : List FV}, ArgsR t ob m xs gs → ArgsOk ⟨t, ob⟩ m xs gs
  | _, _, .nil => .nil
  | _, _, .cons h hs => .cons h.ok hs.ok

inductive SrcR (t : List (Nat × FV)) (ob : List (Nat × FObj)) : Operand → Nat → List (List FV) → Prop where
  | nil {x : Operand} {sz : Nat} (h : (⟨t, ob⟩ : FSt).ev x = .nil) : SrcR t ob x sz []
  | list {x : Operand} {sz : Nat} {es : List (List FV)} (h : (⟨t, ob⟩ : FSt).ev x = (.list sz es)) : SrcR t ob x sz es
  | own {x : Operand} {id ver n E sz : Nat} {es : List (List FV)} {lf : Life} (h : (⟨t, ob⟩ : FSt).ev x = (.own id ver 0 n)) (hb : (⟨t, ob⟩ : FSt).ob id = ⟨ver, lf, E, sz, es⟩) (hl : lf.row = true) (hn : n = es.length) : SrcR t ob x sz es
  | part {x : Operand} {id ver o n E sz : Nat} {es : List (List FV)} {lf : Life} (h : (⟨t, ob⟩ : FSt).ev x = (.own id ver o n)) (hb : (⟨t, ob⟩ : FSt).ob id = ⟨ver, lf, E, sz, es⟩) (hl : lf.row = true) : SrcR t ob x sz ((es.drop o).take n)
theorem SrcR.ok {t : List (Nat × FV)} {ob : List (Nat × FObj)} : ∀ {x : Operand} {sz : Nat} {es : List (List FV)}, SrcR t ob x sz es → Src ⟨t, ob⟩ ((⟨t, ob⟩ : FSt).ev x) sz es
  | _, _, _, .nil h => by rw [h]; exact .nil _
  | _, _, _, .list h => by rw [h]; exact .list _ _
  | _, _, _, .own (id := id) (ver := ver) (n := n) h hb hl hn => by
    rw [h]
    have := Src.own (s := ⟨t, ob⟩) id ver 0 n (live_of hb (Life.row_ne hl)) (by rw [hb]; exact hl)
    rw [hb] at this
    simpa [hn] using this
  | _, _, _, .part (id := id) (ver := ver) (o := o) (n := n) h hb hl => by
    rw [h]
    have := Src.own (s := ⟨t, ob⟩) id ver o n (live_of hb (Life.row_ne hl)) (by rw [hb]; exact hl)
    rw [hb] at this
    exact this

inductive LoR (s : FSt) : Option Operand → Nat → Prop where
  | none : LoR s none 0
  | some {y : Operand} {k : IntKind} {l : Nat} (h : s.ev y = .int k (l : Nat)) : LoR s (some y) l
  | lit {y : Operand} {k : IntKind} {n : Int} {l : Nat} (h : s.ev y = .int k n) (e : n = (l : Nat)) : LoR s (some y) l
inductive HiR (s : FSt) : Option Operand → Nat → Nat → Prop where
  | none {m : Nat} : HiR s none m m
  | some {y : Operand} {k : IntKind} {m l : Nat} (h : s.ev y = .int k (l : Nat)) : HiR s (some y) m l
  | lit {y : Operand} {k : IntKind} {n : Int} {m l : Nat} (h : s.ev y = .int k n) (e : n = (l : Nat)) : HiR s (some y) m l
theorem LoR.ok {s : FSt} {x : Option Operand} {l : Nat} (h : LoR s x l) : s.lo x l := by
  cases h with
  | none => exact rfl
  | some h => exact ⟨_, h⟩
  | lit h e => subst e; exact ⟨_, h⟩
theorem HiR.ok {s : FSt} {x : Option Operand} {m l : Nat} (h : HiR s x m l) : s.hi x m l := by
  cases h with
  | none => exact rfl
  | some h => exact ⟨_, h⟩
  | lit h e => subst e; exact ⟨_, h⟩

theorem getD_map {α : Type} [Inhabited α] {fv : α → List FV} {l : List α} {j : Nat} (h : j < l.length) : (l.map fv).getD j [] = fv (nth l j) := by
  rw [List.getD_eq_getElem?_getD, List.getElem?_map, List.getElem?_eq_getElem h, nth_eq h]; rfl

theorem splice_all {cs fs : List FV} (h : cs.length = fs.length) : splice cs 0 fs = fs := by
  unfold splice
  rw [List.take_zero, List.nil_append, Nat.zero_add, List.drop_of_length_le (by omega), List.append_nil]

section
variable {c : Ctx} {t : List (Nat × FV)} {ob : List (Nat × FObj)} {d : Nat}
theorem eff_loadEA {T : Nat} {x : Operand} {sz j : Nat} {es : List (List FV)} {cs : List FV} {by_ : Nat} {kk : TK} {ze : List FV} (hx : (⟨t, ob⟩ : FSt).ev x = (.eptr sz es j 0)) (hT : c.ty T = ⟨kk, sz, by_, ze⟩) (hk : kk.agg? = some true) (hp : 0 < sz) (hj : j < es.length) (hcs : es.getD j [] = cs) (hl : cs.length = sz) : Eff c ⟨t, ob⟩ d (.load T x) (.agg cs) [] := by
  have hk' : (c.ty T).k.agg? = some true := by rw [hT]; exact hk
  have := Eff.loadEptr (c := c) (s := ⟨t, ob⟩) (d := d) hk' x hx hj (by rw [hT]; simp) hp
  rw [hcs] at this
  unfold loadF at this
  rw [hk'] at this
  dsimp only at this
  rwa [hT, List.drop_zero, List.take_of_length_le (by rw [hl]; exact Nat.le_refl _)] at this
theorem eff_loadPA {T : Nat} {x : Operand} {id ver E sz j : Nat} {lf : Life} {es : List (List FV)} {cs : List FV} {by_ : Nat} {kk : TK} {ze : List FV} (hx : (⟨t, ob⟩ : FSt).ev x = (.ptr id ver j 0)) (hT : c.ty T = ⟨kk, sz, by_, ze⟩) (hk : kk.agg? = some true) (hp : 0 < sz) (hb : (⟨t, ob⟩ : FSt).ob id = ⟨ver, lf, E, sz, es⟩) (hlf : lf.row = true) (hj : j < es.length) (hcs : es.getD j [] = cs) (hl : cs.length = sz) :
    Eff c ⟨t, ob⟩ d (.load T x) (.agg cs) [] := by
  have hk' : (c.ty T).k.agg? = some true := by rw [hT]; exact hk
  have := Eff.loadPtr (c := c) (s := ⟨t, ob⟩) (d := d) hk' x hx (live_of hb (Life.row_ne hlf)) (by rw [hb]; exact hlf) (by rw [hb]; exact hj) (by rw [hb, hT]; simp) (by rw [hb]; exact hp)
  rw [hb] at this
  dsimp only at this
  rw [hcs] at this
  unfold loadF at this
  rw [hk'] at this
  dsimp only at this
  rwa [hT, List.drop_zero, List.take_of_length_le (by rw [hl]; exact Nat.le_refl _)] at this
theorem eff_box1 {T d v0 E0 sz0 : Nat} {lf0 : Life} {es0 : List (List FV)} {x : Operand} {f : FV} (hx : (⟨t, ob⟩ : FSt).ev x = f) (h1 : f.one = true) (hv : (⟨t, ob⟩ : FSt).ob d = ⟨v0, lf0, E0, sz0, es0⟩) : Eff c ⟨t, ob⟩ d (.box T x) (.ptr d (v0 + 1) 0 0) [(d, ⟨v0 + 1, .own, T, 1, [[f]]⟩)] := by
  have hc := one_cells h1
  have := Eff.box (c := c) (s := ⟨t, ob⟩) (d := d) (T := T) x hx (by rw [hc]; simp [h1])
  rw [ver_of hv, hc] at this
  exact this
theorem eff_storeVA {T : Nat} {x y : Operand} {id ver E sz : Nat} {cs fs : List FV} (hx : (⟨t, ob⟩ : FSt).ev x = (.ptr id ver 0 0)) (hy : (⟨t, ob⟩ : FSt).ev y = (.agg fs)) (h1 : fs.all FV.one = true) (hk : (c.ty T).k.known = true) (hz : (c.ty T).size = sz) (hb : (⟨t, ob⟩ : FSt).ob id = ⟨ver, .own, E, sz, [cs]⟩) (hl : cs.length = sz) (hfl : fs.length = sz) :
    Eff c ⟨t, ob⟩ 0 (.store T x y) .undef [(id, ⟨ver, .own, E, sz, [fs]⟩)] := by
  have := Eff.store (c := c) (s := ⟨t, ob⟩) (d := 0) (TK.known_ne hk) x y hx (by rw [hb]) (by rw [hb]) hy h1 (by rw [hz]; exact hfl) (by rw [hb]; exact Nat.zero_lt_one) (by rw [hb, hz]; simp)
  rw [hb] at this
  simpa [FV.cells, splice_all (hl.trans hfl.symm)] using this
theorem eff_appO {T e sz by_ id ver n : Nat} {kk : TK} {z : List FV} {es es2 : List (List FV)} {x y : Operand} (hx : (⟨t, ob⟩ : FSt).ev x = (.own id ver 0 n)) (hb : (⟨t, ob⟩ : FSt).ob id = ⟨ver, .own, e, sz, es⟩) (hn : n = es.length) (hT : (c.ty T).k = .slice e) (he : c.ty e = ⟨kk, sz, by_, z⟩) (hk : kk.known = true) (hp : 0 < sz) (hy : SrcR t ob y sz es2)
    (hbb : (es.length + es2.length) * by_ ≤ 140737488355328) (hm : es.length + es2.length ≤ 140737488355328) {v0 E0 sz0 : Nat} {lf0 : Life} {es0 : List (List FV)} (hv : (⟨t, ob⟩ : FSt).ob d = ⟨v0, lf0, E0, sz0, es0⟩) :
    Eff c ⟨t, ob⟩ d (.call { callee := .builtin .append, args := #[x, y], argTypes := #[T, T] }) (.own d (v0 + 1) 0 (es ++ es2).length) [(id, ⟨ver, .dead, e, sz, es⟩), (d, ⟨v0 + 1, .own, e, sz, es ++ es2⟩)] := by
  have hbas : Bas ⟨t, ob⟩ (.own id ver 0 n) sz es (some id) := by
    have := Bas.own (s := ⟨t, ob⟩) id ver (by rw [hb]) (by rw [hb]) n (by rw [hb]; exact hn)
    rw [hb] at this; exact this
  have := Eff.append (c := c) (s := ⟨t, ob⟩) (d := d) (i := some id) hT (by rw [he]; exact TK.known_ne hk) (by rw [he]; exact hp) x y hx rfl (by rw [he]; exact hbas) (fun k h => by injection h with h; subst h; rw [hb]) (by rw [he]; exact hy.ok) (by rw [he]; exact hbb) hm
  rw [he] at this
  simpa [appWr, ver_of hv, hb] using this
end

section
variable {c : Ctx} {ops : Array Oper} {rest : List Oper} {t : List (Nat × FV)} {ob : List (Nat × FObj)} {d : Nat} {ty : TypeId} {pos : String} {af : Array Edge} {g : Option (Nat × Bool)} {Q : FSt → Prop} {QD : FSt → List Rec → Prop} {tr : List Rec}
theorem rn_move {x : Operand} {f : FV} (hx : evO t x = some f) (hd : Nat.blt d c.N = true) (hw : Want ops ⟨t, ob⟩ (⟨some d, .move x, ty, pos, af, g⟩ : Oper) true) (k : RunN c ops rest ⟨((d, f) :: t), ob⟩ Q) : RunN c ops ((⟨some d, .move x, ty, pos, af, g⟩ : Oper) :: rest) ⟨t, ob⟩ Q :=
  RunN.cons (f := f) (wr := []) (d := d) ⟨.inl rfl, (fun _ e => by injection e with e; subst e; exact Nat.le_of_ble_eq_true hd), (by have := Eff.move (c := c) (s := ⟨t, ob⟩) (d := d) x; rwa [ev_of hx] at this)⟩ hw rfl k
theorem rd_move {x : Operand} {f : FV} (hx : evO t x = some f) (hd : Nat.blt d c.N = true) (hw : Want ops ⟨t, ob⟩ (⟨some d, .move x, ty, pos, af, g⟩ : Oper) true) (k : RunD c ops rest ⟨((d, f) :: t), ob⟩ (tr ++ [⟨(⟨some d, .move x, ty, pos, af, g⟩ : Oper), f, [], foot ⟨t, ob⟩ d (.move x)⟩]) QD) : RunD c ops ((⟨some d, .move x, ty, pos, af, g⟩ : Oper) :: rest) ⟨t, ob⟩ tr QD :=
  RunD.cons (f := f) (wr := []) (d := d) ⟨.inl rfl, (fun _ e => by injection e with e; subst e; exact Nat.le_of_ble_eq_true hd), (by have := Eff.move (c := c) (s := ⟨t, ob⟩) (d := d) x; rwa [ev_of hx] at this)⟩ hw rfl rfl k
theorem rn_assign {x : Operand} {f : FV} (hx : evO t x = some f) (hd : Nat.blt d c.N = true) (hw : Want ops ⟨t, ob⟩ (⟨some d, .assign x, ty, pos, af, g⟩ : Oper) true) (k : RunN c ops rest ⟨((d, f) :: t), ob⟩ Q) : RunN c ops ((⟨some d, .assign x, ty, pos, af, g⟩ : Oper) :: rest) ⟨t, ob⟩ Q :=
  RunN.cons (f := f) (wr := []) (d := d) ⟨.inl rfl, (fun _ e => by injection e with e; subst e; exact Nat.le_of_ble_eq_true hd), (by have := Eff.assign (c := c) (s := ⟨t, ob⟩) (d := d) x; rwa [ev_of hx] at this)⟩ hw rfl k
theorem rn_pickT {q x y : Operand} {f : FV} (hq : (⟨t, ob⟩ : FSt).ev q = (.bool true)) (hx : evO t x = some f) (hd : Nat.blt d c.N = true) (hw : Want ops ⟨t, ob⟩ (⟨some d, .pick q x y, ty, pos, af, g⟩ : Oper) true) (k : RunN c ops rest ⟨((d, f) :: t), ob⟩ Q) : RunN c ops ((⟨some d, .pick q x y, ty, pos, af, g⟩ : Oper) :: rest) ⟨t, ob⟩ Q :=
  RunN.cons (f := f) (wr := []) (d := d) ⟨.inl rfl, (fun _ e => by injection e with e; subst e; exact Nat.le_of_ble_eq_true hd), (by have := Eff.pick (c := c) (s := ⟨t, ob⟩) (d := d) q x y hq; rw [if_pos rfl, ev_of hx] at this; exact this)⟩ hw rfl k
theorem rd_pickT {q x y : Operand} {f : FV} (hq : (⟨t, ob⟩ : FSt).ev q = (.bool true)) (hx : evO t x = some f) (hd : Nat.blt d c.N = true) (hw : Want ops ⟨t, ob⟩ (⟨some d, .pick q x y, ty, pos, af, g⟩ : Oper) true) (k : RunD c ops rest ⟨((d, f) :: t), ob⟩ (tr ++ [⟨(⟨some d, .pick q x y, ty, pos, af, g⟩ : Oper), f, [], foot ⟨t, ob⟩ d (.pick q x y)⟩]) QD) : RunD c ops ((⟨some d, .pick q x y, ty, pos, af, g⟩ : Oper) :: rest) ⟨t, ob⟩ tr QD :=
  RunD.cons (f := f) (wr := []) (d := d) ⟨.inl rfl, (fun _ e => by injection e with e; subst e; exact Nat.le_of_ble_eq_true hd), (by have := Eff.pick (c := c) (s := ⟨t, ob⟩) (d := d) q x y hq; rw [if_pos rfl, ev_of hx] at this; exact this)⟩ hw rfl rfl k
theorem rn_pickF {q x y : Operand} {f : FV} (hq : (⟨t, ob⟩ : FSt).ev q = (.bool false)) (hx : evO t y = some f) (hd : Nat.blt d c.N = true) (hw : Want ops ⟨t, ob⟩ (⟨some d, .pick q x y, ty, pos, af, g⟩ : Oper) true) (k : RunN c ops rest ⟨((d, f) :: t), ob⟩ Q) : RunN c ops ((⟨some d, .pick q x y, ty, pos, af, g⟩ : Oper) :: rest) ⟨t, ob⟩ Q :=
  RunN.cons (f := f) (wr := []) (d := d) ⟨.inl rfl, (fun _ e => by injection e with e; subst e; exact Nat.le_of_ble_eq_true hd), (by have := Eff.pick (c := c) (s := ⟨t, ob⟩) (d := d) q x y hq; rw [if_neg (by decide), ev_of hx] at this; exact this)⟩ hw rfl k
theorem rd_pickF {q x y : Operand} {f : FV} (hq : (⟨t, ob⟩ : FSt).ev q = (.bool false)) (hx : evO t y = some f) (hd : Nat.blt d c.N = true) (hw : Want ops ⟨t, ob⟩ (⟨some d, .pick q x y, ty, pos, af, g⟩ : Oper) true) (k : RunD c ops rest ⟨((d, f) :: t), ob⟩ (tr ++ [⟨(⟨some d, .pick q x y, ty, pos, af, g⟩ : Oper), f, [], foot ⟨t, ob⟩ d (.pick q x y)⟩]) QD) : RunD c ops ((⟨some d, .pick q x y, ty, pos, af, g⟩ : Oper) :: rest) ⟨t, ob⟩ tr QD :=
  RunD.cons (f := f) (wr := []) (d := d) ⟨.inl rfl, (fun _ e => by injection e with e; subst e; exact Nat.le_of_ble_eq_true hd), (by have := Eff.pick (c := c) (s := ⟨t, ob⟩) (d := d) q x y hq; rw [if_neg (by decide), ev_of hx] at this; exact this)⟩ hw rfl rfl k
theorem rn_add {T T2 : TypeId} {x y : Operand} {m n : Int} (hx : (⟨t, ob⟩ : FSt).ev x = .int .i64 m) (hy : (⟨t, ob⟩ : FSt).ev y = .int .i64 n) (hr : -9223372036854775808 ≤ m + n ∧ m + n ≤ 9223372036854775807) (hd : Nat.blt d c.N = true) (hw : Want ops ⟨t, ob⟩ (⟨some d, .binOp .add T x y T2, ty, pos, af, g⟩ : Oper) true) (k : RunN c ops rest ⟨((d, (.int .i64 (m + n))) :: t), ob⟩ Q) : RunN c ops ((⟨some d, .binOp .add T x y T2, ty, pos, af, g⟩ : Oper) :: rest) ⟨t, ob⟩ Q :=
  RunN.cons (f := (.int .i64 (m + n))) (wr := []) (d := d) ⟨.inl rfl, (fun _ e => by injection e with e; subst e; exact Nat.le_of_ble_eq_true hd), (.ibin .add T T2 x y hx hy (by simp only [ibin]; rw [wrap_in _ hr]))⟩ hw rfl k
theorem rn_sub {T T2 : TypeId} {x y : Operand} {m n : Int} (hx : (⟨t, ob⟩ : FSt).ev x = .int .i64 m) (hy : (⟨t, ob⟩ : FSt).ev y = .int .i64 n) (hr : -9223372036854775808 ≤ m - n ∧ m - n ≤ 9223372036854775807) (hd : Nat.blt d c.N = true) (hw : Want ops ⟨t, ob⟩ (⟨some d, .binOp .sub T x y T2, ty, pos, af, g⟩ : Oper) true) (k : RunN c ops rest ⟨((d, (.int .i64 (m - n))) :: t), ob⟩ Q) : RunN c ops ((⟨some d, .binOp .sub T x y T2, ty, pos, af, g⟩ : Oper) :: rest) ⟨t, ob⟩ Q :=
  RunN.cons (f := (.int .i64 (m - n))) (wr := []) (d := d) ⟨.inl rfl, (fun _ e => by injection e with e; subst e; exact Nat.le_of_ble_eq_true hd), (.ibin .sub T T2 x y hx hy (by simp only [ibin]; rw [wrap_in _ hr]))⟩ hw rfl k
theorem rd_sub {T T2 : TypeId} {x y : Operand} {m n : Int} (hx : (⟨t, ob⟩ : FSt).ev x = .int .i64 m) (hy : (⟨t, ob⟩ : FSt).ev y = .int .i64 n) (hr : -9223372036854775808 ≤ m - n ∧ m - n ≤ 9223372036854775807) (hd : Nat.blt d c.N = true) (hw : Want ops ⟨t, ob⟩ (⟨some d, .binOp .sub T x y T2, ty, pos, af, g⟩ : Oper) true) (k : RunD c ops rest ⟨((d, (.int .i64 (m - n))) :: t), ob⟩ (tr ++ [⟨(⟨some d, .binOp .sub T x y T2, ty, pos, af, g⟩ : Oper), (.int .i64 (m - n)), [], foot ⟨t, ob⟩ d (.binOp .sub T x y T2)⟩]) QD) : RunD c ops ((⟨some d, .binOp .sub T x y T2, ty, pos, af, g⟩ : Oper) :: rest) ⟨t, ob⟩ tr QD :=
  RunD.cons (f := (.int .i64 (m - n))) (wr := []) (d := d) ⟨.inl rfl, (fun _ e => by injection e with e; subst e; exact Nat.le_of_ble_eq_true hd), (.ibin .sub T T2 x y hx hy (by simp only [ibin]; rw [wrap_in _ hr]))⟩ hw rfl rfl k
theorem rn_eql {T T2 : TypeId} {x y : Operand} {kk : IntKind} {m n : Int} (hx : (⟨t, ob⟩ : FSt).ev x = .int kk m) (hy : (⟨t, ob⟩ : FSt).ev y = .int kk n) (hd : Nat.blt d c.N = true) (hw : Want ops ⟨t, ob⟩ (⟨some d, .binOp .eql T x y T2, ty, pos, af, g⟩ : Oper) true) (k : RunN c ops rest ⟨((d, (.bool (decide (m = n)))) :: t), ob⟩ Q) : RunN c ops ((⟨some d, .binOp .eql T x y T2, ty, pos, af, g⟩ : Oper) :: rest) ⟨t, ob⟩ Q :=
  RunN.cons (f := (.bool (decide (m = n)))) (wr := []) (d := d) ⟨.inl rfl, (fun _ e => by injection e with e; subst e; exact Nat.le_of_ble_eq_true hd), (.ibin .eql T T2 x y hx hy rfl)⟩ hw rfl k
theorem rd_eql {T T2 : TypeId} {x y : Operand} {kk : IntKind} {m n : Int} (hx : (⟨t, ob⟩ : FSt).ev x = .int kk m) (hy : (⟨t, ob⟩ : FSt).ev y = .int kk n) (hd : Nat.blt d c.N = true) (hw : Want ops ⟨t, ob⟩ (⟨some d, .binOp .eql T x y T2, ty, pos, af, g⟩ : Oper) true) (k : RunD c ops rest ⟨((d, (.bool (decide (m = n)))) :: t), ob⟩ (tr ++ [⟨(⟨some d, .binOp .eql T x y T2, ty, pos, af, g⟩ : Oper), (.bool (decide (m = n))), [], foot ⟨t, ob⟩ d (.binOp .eql T x y T2)⟩]) QD) : RunD c ops ((⟨some d, .binOp .eql T x y T2, ty, pos, af, g⟩ : Oper) :: rest) ⟨t, ob⟩ tr QD :=
  RunD.cons (f := (.bool (decide (m = n)))) (wr := []) (d := d) ⟨.inl rfl, (fun _ e => by injection e with e; subst e; exact Nat.le_of_ble_eq_true hd), (.ibin .eql T T2 x y hx hy rfl)⟩ hw rfl rfl k
theorem rn_neq {T T2 : TypeId} {x y : Operand} {kk : IntKind} {m n : Int} (hx : (⟨t, ob⟩ : FSt).ev x = .int kk m) (hy : (⟨t, ob⟩ : FSt).ev y = .int kk n) (hd : Nat.blt d c.N = true) (hw : Want ops ⟨t, ob⟩ (⟨some d, .binOp .neq T x y T2, ty, pos, af, g⟩ : Oper) true) (k : RunN c ops rest ⟨((d, (.bool (decide (m ≠ n)))) :: t), ob⟩ Q) : RunN c ops ((⟨some d, .binOp .neq T x y T2, ty, pos, af, g⟩ : Oper) :: rest) ⟨t, ob⟩ Q :=
  RunN.cons (f := (.bool (decide (m ≠ n)))) (wr := []) (d := d) ⟨.inl rfl, (fun _ e => by injection e with e; subst e; exact Nat.le_of_ble_eq_true hd), (.ibin .neq T T2 x y hx hy (by simp only [ibin]; congr 2; by_cases h : m = n <;> simp [h, bne]))⟩ hw rfl k
theorem rd_neq {T T2 : TypeId} {x y : Operand} {kk : IntKind} {m n : Int} (hx : (⟨t, ob⟩ : FSt).ev x = .int kk m) (hy : (⟨t, ob⟩ : FSt).ev y = .int kk n) (hd : Nat.blt d c.N = true) (hw : Want ops ⟨t, ob⟩ (⟨some d, .binOp .neq T x y T2, ty, pos, af, g⟩ : Oper) true) (k : RunD c ops rest ⟨((d, (.bool (decide (m ≠ n)))) :: t), ob⟩ (tr ++ [⟨(⟨some d, .binOp .neq T x y T2, ty, pos, af, g⟩ : Oper), (.bool (decide (m ≠ n))), [], foot ⟨t, ob⟩ d (.binOp .neq T x y T2)⟩]) QD) : RunD c ops ((⟨some d, .binOp .neq T x y T2, ty, pos, af, g⟩ : Oper) :: rest) ⟨t, ob⟩ tr QD :=
  RunD.cons (f := (.bool (decide (m ≠ n)))) (wr := []) (d := d) ⟨.inl rfl, (fun _ e => by injection e with e; subst e; exact Nat.le_of_ble_eq_true hd), (.ibin .neq T T2 x y hx hy (by simp only [ibin]; congr 2; by_cases h : m = n <;> simp [h, bne]))⟩ hw rfl rfl k
theorem rn_lss {T T2 : TypeId} {x y : Operand} {kk : IntKind} {m n : Int} (hx : (⟨t, ob⟩ : FSt).ev x = .int kk m) (hy : (⟨t, ob⟩ : FSt).ev y = .int kk n) (hd : Nat.blt d c.N = true) (hw : Want ops ⟨t, ob⟩ (⟨some d, .binOp .lss T x y T2, ty, pos, af, g⟩ : Oper) true) (k : RunN c ops rest ⟨((d, (.bool (decide (m < n)))) :: t), ob⟩ Q) : RunN c ops ((⟨some d, .binOp .lss T x y T2, ty, pos, af, g⟩ : Oper) :: rest) ⟨t, ob⟩ Q :=
  RunN.cons (f := (.bool (decide (m < n)))) (wr := []) (d := d) ⟨.inl rfl, (fun _ e => by injection e with e; subst e; exact Nat.le_of_ble_eq_true hd), (.ibin .lss T T2 x y hx hy rfl)⟩ hw rfl k
theorem rd_lss {T T2 : TypeId} {x y : Operand} {kk : IntKind} {m n : Int} (hx : (⟨t, ob⟩ : FSt).ev x = .int kk m) (hy : (⟨t, ob⟩ : FSt).ev y = .int kk n) (hd : Nat.blt d c.N = true) (hw : Want ops ⟨t, ob⟩ (⟨some d, .binOp .lss T x y T2, ty, pos, af, g⟩ : Oper) true) (k : RunD c ops rest ⟨((d, (.bool (decide (m < n)))) :: t), ob⟩ (tr ++ [⟨(⟨some d, .binOp .lss T x y T2, ty, pos, af, g⟩ : Oper), (.bool (decide (m < n))), [], foot ⟨t, ob⟩ d (.binOp .lss T x y T2)⟩]) QD) : RunD c ops ((⟨some d, .binOp .lss T x y T2, ty, pos, af, g⟩ : Oper) :: rest) ⟨t, ob⟩ tr QD :=
  RunD.cons (f := (.bool (decide (m < n)))) (wr := []) (d := d) ⟨.inl rfl, (fun _ e => by injection e with e; subst e; exact Nat.le_of_ble_eq_true hd), (.ibin .lss T T2 x y hx hy rfl)⟩ hw rfl rfl k
theorem rn_leq {T T2 : TypeId} {x y : Operand} {kk : IntKind} {m n : Int} (hx : (⟨t, ob⟩ : FSt).ev x = .int kk m) (hy : (⟨t, ob⟩ : FSt).ev y = .int kk n) (hd : Nat.blt d c.N = true) (hw : Want ops ⟨t, ob⟩ (⟨some d, .binOp .leq T x y T2, ty, pos, af, g⟩ : Oper) true) (k : RunN c ops rest ⟨((d, (.bool (decide (m ≤ n)))) :: t), ob⟩ Q) : RunN c ops ((⟨some d, .binOp .leq T x y T2, ty, pos, af, g⟩ : Oper) :: rest) ⟨t, ob⟩ Q :=
  RunN.cons (f := (.bool (decide (m ≤ n)))) (wr := []) (d := d) ⟨.inl rfl, (fun _ e => by injection e with e; subst e; exact Nat.le_of_ble_eq_true hd), (.ibin .leq T T2 x y hx hy rfl)⟩ hw rfl k
theorem rd_gtr {T T2 : TypeId} {x y : Operand} {kk : IntKind} {m n : Int} (hx : (⟨t, ob⟩ : FSt).ev x = .int kk m) (hy : (⟨t, ob⟩ : FSt).ev y = .int kk n) (hd : Nat.blt d c.N = true) (hw : Want ops ⟨t, ob⟩ (⟨some d, .binOp .gtr T x y T2, ty, pos, af, g⟩ : Oper) true) (k : RunD c ops rest ⟨((d, (.bool (decide (m > n)))) :: t), ob⟩ (tr ++ [⟨(⟨some d, .binOp .gtr T x y T2, ty, pos, af, g⟩ : Oper), (.bool (decide (m > n))), [], foot ⟨t, ob⟩ d (.binOp .gtr T x y T2)⟩]) QD) : RunD c ops ((⟨some d, .binOp .gtr T x y T2, ty, pos, af, g⟩ : Oper) :: rest) ⟨t, ob⟩ tr QD :=
  RunD.cons (f := (.bool (decide (m > n)))) (wr := []) (d := d) ⟨.inl rfl, (fun _ e => by injection e with e; subst e; exact Nat.le_of_ble_eq_true hd), (.ibin .gtr T T2 x y hx hy rfl)⟩ hw rfl rfl k
theorem rn_geq {T T2 : TypeId} {x y : Operand} {kk : IntKind} {m n : Int} (hx : (⟨t, ob⟩ : FSt).ev x = .int kk m) (hy : (⟨t, ob⟩ : FSt).ev y = .int kk n) (hd : Nat.blt d c.N = true) (hw : Want ops ⟨t, ob⟩ (⟨some d, .binOp .geq T x y T2, ty, pos, af, g⟩ : Oper) true) (k : RunN c ops rest ⟨((d, (.bool (decide (m ≥ n)))) :: t), ob⟩ Q) : RunN c ops ((⟨some d, .binOp .geq T x y T2, ty, pos, af, g⟩ : Oper) :: rest) ⟨t, ob⟩ Q :=
  RunN.cons (f := (.bool (decide (m ≥ n)))) (wr := []) (d := d) ⟨.inl rfl, (fun _ e => by injection e with e; subst e; exact Nat.le_of_ble_eq_true hd), (.ibin .geq T T2 x y hx hy rfl)⟩ hw rfl k
theorem rd_geq {T T2 : TypeId} {x y : Operand} {kk : IntKind} {m n : Int} (hx : (⟨t, ob⟩ : FSt).ev x = .int kk m) (hy : (⟨t, ob⟩ : FSt).ev y = .int kk n) (hd : Nat.blt d c.N = true) (hw : Want ops ⟨t, ob⟩ (⟨some d, .binOp .geq T x y T2, ty, pos, af, g⟩ : Oper) true) (k : RunD c ops rest ⟨((d, (.bool (decide (m ≥ n)))) :: t), ob⟩ (tr ++ [⟨(⟨some d, .binOp .geq T x y T2, ty, pos, af, g⟩ : Oper), (.bool (decide (m ≥ n))), [], foot ⟨t, ob⟩ d (.binOp .geq T x y T2)⟩]) QD) : RunD c ops ((⟨some d, .binOp .geq T x y T2, ty, pos, af, g⟩ : Oper) :: rest) ⟨t, ob⟩ tr QD :=
  RunD.cons (f := (.bool (decide (m ≥ n)))) (wr := []) (d := d) ⟨.inl rfl, (fun _ e => by injection e with e; subst e; exact Nat.le_of_ble_eq_true hd), (.ibin .geq T T2 x y hx hy rfl)⟩ hw rfl rfl k
theorem rn_convU {T T2 : TypeId} {x : Operand} {kk : IntKind} {n : Int} (hx : (⟨t, ob⟩ : FSt).ev x = .int kk n) (hT : (c.ty T).k.known = true) (hT2 : (c.ty T2).k = .int .u64) (hr : 0 ≤ n ∧ n ≤ 18446744073709551615) (hd : Nat.blt d c.N = true) (hw : Want ops ⟨t, ob⟩ (⟨some d, .convert T T2 x, ty, pos, af, g⟩ : Oper) true) (k : RunN c ops rest ⟨((d, (.int .u64 n)) :: t), ob⟩ Q) : RunN c ops ((⟨some d, .convert T T2 x, ty, pos, af, g⟩ : Oper) :: rest) ⟨t, ob⟩ Q :=
  RunN.cons (f := (.int .u64 n)) (wr := []) (d := d) ⟨.inl rfl, (fun _ e => by injection e with e; subst e; exact Nat.le_of_ble_eq_true hd), (by have := Eff.conv (c := c) (s := ⟨t, ob⟩) (d := d) (TK.known_ne hT) hT2 x hx; rwa [wrap_u64 hr] at this)⟩ hw rfl k
theorem rn_lenOwn {T e o n : Nat} {x : Operand} {id ver E sz : Nat} {lf : Life} {es : List (List FV)} (hx : (⟨t, ob⟩ : FSt).ev x = .own id ver o n) (hT : (c.ty T).k = .slice e) (hb : (⟨t, ob⟩ : FSt).ob id = ⟨ver, lf, E, sz, es⟩) (hl : lf ≠ .dead) (hd : Nat.blt d c.N = true) (hw : Want ops ⟨t, ob⟩ (⟨some d, .call { callee := .builtin .len, args := #[x], argTypes := #[T] }, ty, pos, af, g⟩ : Oper) true) (k : RunN c ops rest ⟨((d, (.int .i64 n)) :: t), ob⟩ Q) : RunN c ops ((⟨some d, .call { callee := .builtin .len, args := #[x], argTypes := #[T] }, ty, pos, af, g⟩ : Oper) :: rest) ⟨t, ob⟩ Q :=
  RunN.cons (f := (.int .i64 n)) (wr := []) (d := d) ⟨.inl rfl, (fun _ e => by injection e with e; subst e; exact Nat.le_of_ble_eq_true hd), (.lenOwn hT x hx (live_of hb hl))⟩ hw rfl k
theorem rn_lenList {T e : TypeId} {x : Operand} {sz : Nat} {es : List (List FV)} {n : Nat} (hx : (⟨t, ob⟩ : FSt).ev x = .list sz es) (hT : (c.ty T).k = .slice e) (hn : es.length = n) (hd : Nat.blt d c.N = true) (hw : Want ops ⟨t, ob⟩ (⟨some d, .call { callee := .builtin .len, args := #[x], argTypes := #[T] }, ty, pos, af, g⟩ : Oper) true) (k : RunN c ops rest ⟨((d, (.int .i64 n)) :: t), ob⟩ Q) : RunN c ops ((⟨some d, .call { callee := .builtin .len, args := #[x], argTypes := #[T] }, ty, pos, af, g⟩ : Oper) :: rest) ⟨t, ob⟩ Q :=
  RunN.cons (f := (.int .i64 n)) (wr := []) (d := d) ⟨.inl rfl, (fun _ e => by injection e with e; subst e; exact Nat.le_of_ble_eq_true hd), (hn ▸ .lenList hT x hx)⟩ hw rfl k
theorem rd_lenList {T e : TypeId} {x : Operand} {sz : Nat} {es : List (List FV)} {n : Nat} (hx : (⟨t, ob⟩ : FSt).ev x = .list sz es) (hT : (c.ty T).k = .slice e) (hn : es.length = n) (hd : Nat.blt d c.N = true) (hw : Want ops ⟨t, ob⟩ (⟨some d, .call { callee := .builtin .len, args := #[x], argTypes := #[T] }, ty, pos, af, g⟩ : Oper) true) (k : RunD c ops rest ⟨((d, (.int .i64 n)) :: t), ob⟩ (tr ++ [⟨(⟨some d, .call { callee := .builtin .len, args := #[x], argTypes := #[T] }, ty, pos, af, g⟩ : Oper), (.int .i64 n), [], foot ⟨t, ob⟩ d (.call { callee := .builtin .len, args := #[x], argTypes := #[T] })⟩]) QD) : RunD c ops ((⟨some d, .call { callee := .builtin .len, args := #[x], argTypes := #[T] }, ty, pos, af, g⟩ : Oper) :: rest) ⟨t, ob⟩ tr QD :=
  RunD.cons (f := (.int .i64 n)) (wr := []) (d := d) ⟨.inl rfl, (fun _ e => by injection e with e; subst e; exact Nat.le_of_ble_eq_true hd), (hn ▸ .lenList hT x hx)⟩ hw rfl rfl k
theorem rn_fieldP {T i off ft z j o : Nat} {fs : List (Nat × Nat)} {x : Operand} {id ver E sz : Nat} {lf : Life} {es : List (List FV)} (hx : (⟨t, ob⟩ : FSt).ev x = .ptr id ver j o) (hT : (c.ty T).k = .strct fs) (hf : fs[i]? = some (off, ft)) (hk : (c.ty ft).k.known = true) (hz : (c.ty ft).size = z + 1) (hb : (⟨t, ob⟩ : FSt).ob id = ⟨ver, lf, E, sz, es⟩) (hl : lf ≠ .dead) (hd : Nat.blt d c.N = true) (hw : Want ops ⟨t, ob⟩ (⟨some d, .fieldAddr T x i, ty, pos, af, g⟩ : Oper) true) (k : RunN c ops rest ⟨((d, (.ptr id ver j (o + off))) :: t), ob⟩ Q) : RunN c ops ((⟨some d, .fieldAddr T x i, ty, pos, af, g⟩ : Oper) :: rest) ⟨t, ob⟩ Q :=
  RunN.cons (f := (.ptr id ver j (o + off))) (wr := []) (d := d) ⟨.inl rfl, (fun _ e => by injection e with e; subst e; exact Nat.le_of_ble_eq_true hd), (.fieldPtr hT hf (TK.known_ne hk) (by omega) x hx (live_of hb hl))⟩ hw rfl k
theorem rd_fieldE {T i off ft z : Nat} {fs : List (Nat × Nat)} {x : Operand} {sz j o : Nat} {es : List (List FV)} (hx : (⟨t, ob⟩ : FSt).ev x = .eptr sz es j o) (hT : (c.ty T).k = .strct fs) (hf : fs[i]? = some (off, ft)) (hk : (c.ty ft).k.known = true) (hz : (c.ty ft).size = z + 1) (hd : Nat.blt d c.N = true) (hw : Want ops ⟨t, ob⟩ (⟨some d, .fieldAddr T x i, ty, pos, af, g⟩ : Oper) true) (k : RunD c ops rest ⟨((d, (.eptr sz es j (o + off))) :: t), ob⟩ (tr ++ [⟨(⟨some d, .fieldAddr T x i, ty, pos, af, g⟩ : Oper), (.eptr sz es j (o + off)), [], foot ⟨t, ob⟩ d (.fieldAddr T x i)⟩]) QD) : RunD c ops ((⟨some d, .fieldAddr T x i, ty, pos, af, g⟩ : Oper) :: rest) ⟨t, ob⟩ tr QD :=
  RunD.cons (f := (.eptr sz es j (o + off))) (wr := []) (d := d) ⟨.inl rfl, (fun _ e => by injection e with e; subst e; exact Nat.le_of_ble_eq_true hd), (.fieldEptr hT hf (TK.known_ne hk) (by omega) x hx)⟩ hw rfl rfl k
theorem rn_indexL {T e : Nat} {x y : Operand} {sz : Nat} {es : List (List FV)} {kk : IntKind} {m : Int} {n : Nat} (hx : (⟨t, ob⟩ : FSt).ev x = .list sz es) (hy : (⟨t, ob⟩ : FSt).ev y = .int kk m) (hm : m = (n : Int)) (hT : (c.ty T).k = .slice e) (hk : (c.ty e).k.known = true) (hz : (c.ty e).size = sz) (hn : n < es.length) (hd : Nat.blt d c.N = true) (hw : Want ops ⟨t, ob⟩ (⟨some d, .indexAddr T x y, ty, pos, af, g⟩ : Oper) true) (k : RunN c ops rest ⟨((d, (.eptr sz es n 0)) :: t), ob⟩ Q) : RunN c ops ((⟨some d, .indexAddr T x y, ty, pos, af, g⟩ : Oper) :: rest) ⟨t, ob⟩ Q :=
  RunN.cons (f := (.eptr sz es n 0)) (wr := []) (d := d) ⟨.inl rfl, (fun _ e => by injection e with e; subst e; exact Nat.le_of_ble_eq_true hd), (by subst hm; exact .indexList hT (TK.known_ne hk) x y hx hz hy hn)⟩ hw rfl k
theorem rd_indexL {T e : Nat} {x y : Operand} {sz : Nat} {es : List (List FV)} {kk : IntKind} {m : Int} {n : Nat} (hx : (⟨t, ob⟩ : FSt).ev x = .list sz es) (hy : (⟨t, ob⟩ : FSt).ev y = .int kk m) (hm : m = (n : Int)) (hT : (c.ty T).k = .slice e) (hk : (c.ty e).k.known = true) (hz : (c.ty e).size = sz) (hn : n < es.length) (hd : Nat.blt d c.N = true) (hw : Want ops ⟨t, ob⟩ (⟨some d, .indexAddr T x y, ty, pos, af, g⟩ : Oper) true) (k : RunD c ops rest ⟨((d, (.eptr sz es n 0)) :: t), ob⟩ (tr ++ [⟨(⟨some d, .indexAddr T x y, ty, pos, af, g⟩ : Oper), (.eptr sz es n 0), [], foot ⟨t, ob⟩ d (.indexAddr T x y)⟩]) QD) : RunD c ops ((⟨some d, .indexAddr T x y, ty, pos, af, g⟩ : Oper) :: rest) ⟨t, ob⟩ tr QD :=
  RunD.cons (f := (.eptr sz es n 0)) (wr := []) (d := d) ⟨.inl rfl, (fun _ e => by injection e with e; subst e; exact Nat.le_of_ble_eq_true hd), (by subst hm; exact .indexList hT (TK.known_ne hk) x y hx hz hy hn)⟩ hw rfl rfl k
theorem rn_loadE {T : Nat} {x : Operand} {sz j o : Nat} {es : List (List FV)} {cs : List FV} {f : FV} (hx : (⟨t, ob⟩ : FSt).ev x = .eptr sz es j o) (hk : (c.ty T).k.agg? = some false) (hz : (c.ty T).size = 1) (hj : j < es.length) (hcs : es.getD j [] = cs) (hcl : cs.length = sz) (hf : cs[o]? = some f) (hd : Nat.blt d c.N = true) (hw : Want ops ⟨t, ob⟩ (⟨some d, .load T x, ty, pos, af, g⟩ : Oper) true) (k : RunN c ops rest ⟨((d, f) :: t), ob⟩ Q) : RunN c ops ((⟨some d, .load T x, ty, pos, af, g⟩ : Oper) :: rest) ⟨t, ob⟩ Q :=
  RunN.cons (f := f) (wr := []) (d := d) ⟨.inl rfl, (fun _ e => by injection e with e; subst e; exact Nat.le_of_ble_eq_true hd), (by have h1 := drop_headD hf; have := Eff.loadEptr (c := c) (s := ⟨t, ob⟩) (d := d) hk x hx hj (by omega) (by omega); rw [hcs] at this; unfold loadF at this; rw [hk] at this; dsimp only at this; rw [h1.2] at this; exact this)⟩ hw rfl k
theorem rd_loadE {T : Nat} {x : Operand} {sz j o : Nat} {es : List (List FV)} {cs : List FV} {f : FV} (hx : (⟨t, ob⟩ : FSt).ev x = .eptr sz es j o) (hk : (c.ty T).k.agg? = some false) (hz : (c.ty T).size = 1) (hj : j < es.length) (hcs : es.getD j [] = cs) (hcl : cs.length = sz) (hf : cs[o]? = some f) (hd : Nat.blt d c.N = true) (hw : Want ops ⟨t, ob⟩ (⟨some d, .load T x, ty, pos, af, g⟩ : Oper) true) (k : RunD c ops rest ⟨((d, f) :: t), ob⟩ (tr ++ [⟨(⟨some d, .load T x, ty, pos, af, g⟩ : Oper), f, [], foot ⟨t, ob⟩ d (.load T x)⟩]) QD) : RunD c ops ((⟨some d, .load T x, ty, pos, af, g⟩ : Oper) :: rest) ⟨t, ob⟩ tr QD :=
  RunD.cons (f := f) (wr := []) (d := d) ⟨.inl rfl, (fun _ e => by injection e with e; subst e; exact Nat.le_of_ble_eq_true hd), (by have h1 := drop_headD hf; have := Eff.loadEptr (c := c) (s := ⟨t, ob⟩) (d := d) hk x hx hj (by omega) (by omega); rw [hcs] at this; unfold loadF at this; rw [hk] at this; dsimp only at this; rw [h1.2] at this; exact this)⟩ hw rfl rfl k
theorem rn_loadP {T j o : Nat} {x : Operand} {cs : List FV} {id ver E sz : Nat} {lf : Life} {es : List (List FV)} {f : FV} (hx : (⟨t, ob⟩ : FSt).ev x = .ptr id ver j o) (hk : (c.ty T).k.agg? = some false) (hz : (c.ty T).size = 1) (hb : (⟨t, ob⟩ : FSt).ob id = ⟨ver, lf, E, sz, es⟩) (hl : lf.row = true) (hj : j < es.length) (hcs : es.getD j [] = cs) (hcl : cs.length = sz) (hf : cs[o]? = some f) (hd : Nat.blt d c.N = true) (hw : Want ops ⟨t, ob⟩ (⟨some d, .load T x, ty, pos, af, g⟩ : Oper) true) (k : RunN c ops rest ⟨((d, f) :: t), ob⟩ Q) : RunN c ops ((⟨some d, .load T x, ty, pos, af, g⟩ : Oper) :: rest) ⟨t, ob⟩ Q :=
  RunN.cons (f := f) (wr := []) (d := d) ⟨.inl rfl, (fun _ e => by injection e with e; subst e; exact Nat.le_of_ble_eq_true hd), (by have h1 := drop_headD hf; have := Eff.loadPtr (c := c) (s := ⟨t, ob⟩) (d := d) hk x hx (live_of hb (Life.row_ne hl)) (by rw [hb]; exact hl) (by rw [hb]; exact hj) (by rw [hb]; dsimp only; omega) (by rw [hb]; dsimp only; omega); rw [hb] at this; dsimp only at this; rw [hcs] at this; unfold loadF at this; rw [hk] at this; dsimp only at this; rw [h1.2] at this; exact this)⟩ hw rfl k
theorem rn_loadEA {T by_ : Nat} {x : Operand} {sz j : Nat} {es : List (List FV)} {cs ze : List FV} {kk : TK} (hx : (⟨t, ob⟩ : FSt).ev x = .eptr sz es j 0) (hT : c.ty T = ⟨kk, sz, by_, ze⟩) (hk : kk.agg? = some true) (hp : 0 < sz) (hj : j < es.length) (hcs : es.getD j [] = cs) (hcl : cs.length = sz) (hd : Nat.blt d c.N = true) (hw : Want ops ⟨t, ob⟩ (⟨some d, .load T x, ty, pos, af, g⟩ : Oper) true) (k : RunN c ops rest ⟨((d, (.agg cs)) :: t), ob⟩ Q) : RunN c ops ((⟨some d, .load T x, ty, pos, af, g⟩ : Oper) :: rest) ⟨t, ob⟩ Q :=
  RunN.cons (f := (.agg cs)) (wr := []) (d := d) ⟨.inl rfl, (fun _ e => by injection e with e; subst e; exact Nat.le_of_ble_eq_true hd), (eff_loadEA hx hT hk hp hj hcs hcl)⟩ hw rfl k
theorem rn_loadPA {T by_ j : Nat} {x : Operand} {cs ze : List FV} {kk : TK} {id ver E sz : Nat} {lf : Life} {es : List (List FV)} (hx : (⟨t, ob⟩ : FSt).ev x = .ptr id ver j 0) (hT : c.ty T = ⟨kk, sz, by_, ze⟩) (hk : kk.agg? = some true) (hp : 0 < sz) (hb : (⟨t, ob⟩ : FSt).ob id = ⟨ver, lf, E, sz, es⟩) (hl : lf.row = true) (hj : j < es.length) (hcs : es.getD j [] = cs) (hcl : cs.length = sz) (hd : Nat.blt d c.N = true) (hw : Want ops ⟨t, ob⟩ (⟨some d, .load T x, ty, pos, af, g⟩ : Oper) true) (k : RunN c ops rest ⟨((d, (.agg cs)) :: t), ob⟩ Q) : RunN c ops ((⟨some d, .load T x, ty, pos, af, g⟩ : Oper) :: rest) ⟨t, ob⟩ Q :=
  RunN.cons (f := (.agg cs)) (wr := []) (d := d) ⟨.inl rfl, (fun _ e => by injection e with e; subst e; exact Nat.le_of_ble_eq_true hd), (eff_loadPA hx hT hk hp hb hl hj hcs hcl)⟩ hw rfl k
theorem rn_storeVA {T id ver E sz : Nat} {x y : Operand} {cs fs : List FV} (hx : (⟨t, ob⟩ : FSt).ev x = .ptr id ver 0 0) (hy : (⟨t, ob⟩ : FSt).ev y = .agg fs) (h1 : fs.all FV.one = true) (hk : (c.ty T).k.known = true) (hz : (c.ty T).size = sz) (hb : (⟨t, ob⟩ : FSt).ob id = ⟨ver, .own, E, sz, [cs]⟩) (hcl : cs.length = sz) (hfl : fs.length = sz) (hw : Want ops ⟨t, ob⟩ (⟨none, .store T x y, ty, pos, af, g⟩ : Oper) true) (k : RunN c ops rest ⟨t, ((id, ⟨ver, .own, E, sz, [fs]⟩) :: ob)⟩ Q) : RunN c ops ((⟨none, .store T x y, ty, pos, af, g⟩ : Oper) :: rest) ⟨t, ob⟩ Q :=
  RunN.cons (f := .undef) (wr := [(id, ⟨ver, .own, E, sz, [fs]⟩)]) (d := 0) ⟨.inr ⟨rfl, .inl ⟨_, _, _, rfl⟩⟩, (fun _ e => by cases e), (eff_storeVA hx hy h1 hk hz hb hcl hfl)⟩ hw rfl k
theorem rn_alloc {T sz by_ : Nat} {kk : TK} {z : List FV} {v0 E0 sz0 : Nat} {lf0 : Life} {es0 : List (List FV)} (hT : c.ty T = ⟨kk, sz, by_, z⟩) (hk : kk.known = true) (hz : z.all FV.one = true) (hl : z.length = sz) (hv : (⟨t, ob⟩ : FSt).ob d = ⟨v0, lf0, E0, sz0, es0⟩) (hd : Nat.blt d c.N = true) (hw : Want ops ⟨t, ob⟩ (⟨some d, .alloc T, ty, pos, af, g⟩ : Oper) true) (k : RunN c ops rest ⟨((d, (.ptr d (v0 + 1) 0 0)) :: t), ((d, ⟨v0 + 1, .own, T, sz, [z]⟩) :: ob)⟩ Q) : RunN c ops ((⟨some d, .alloc T, ty, pos, af, g⟩ : Oper) :: rest) ⟨t, ob⟩ Q :=
  RunN.cons (f := (.ptr d (v0 + 1) 0 0)) (wr := [(d, ⟨v0 + 1, .own, T, sz, [z]⟩)]) (d := d) ⟨.inl rfl, (fun _ e => by injection e with e; subst e; exact Nat.le_of_ble_eq_true hd), (by have := Eff.alloc (c := c) (s := ⟨t, ob⟩) (d := d) (T := T) (by rw [hT]; exact TK.known_ne hk) (by rw [hT]; exact hz); rw [hT, ver_of hv] at this; dsimp only at this; rw [hl] at this; exact this)⟩ hw rfl k
theorem rn_boxA {T sz by_ : Nat} {kk : TK} {z fs : List FV} {x : Operand} {v0 E0 sz0 : Nat} {lf0 : Life} {es0 : List (List FV)} (hx : (⟨t, ob⟩ : FSt).ev x = .agg fs) (hT : c.ty T = ⟨kk, sz, by_, z⟩) (h1 : fs.all FV.one = true) (hl : fs.length = sz) (hv : (⟨t, ob⟩ : FSt).ob d = ⟨v0, lf0, E0, sz0, es0⟩) (hd : Nat.blt d c.N = true) (hw : Want ops ⟨t, ob⟩ (⟨some d, .box T x, ty, pos, af, g⟩ : Oper) true) (k : RunN c ops rest ⟨((d, (.ptr d (v0 + 1) 0 0)) :: t), ((d, ⟨v0 + 1, .own, T, sz, [fs]⟩) :: ob)⟩ Q) : RunN c ops ((⟨some d, .box T x, ty, pos, af, g⟩ : Oper) :: rest) ⟨t, ob⟩ Q :=
  RunN.cons (f := (.ptr d (v0 + 1) 0 0)) (wr := [(d, ⟨v0 + 1, .own, T, sz, [fs]⟩)]) (d := d) ⟨.inl rfl, (fun _ e => by injection e with e; subst e; exact Nat.le_of_ble_eq_true hd), (by have := Eff.box (c := c) (s := ⟨t, ob⟩) (d := d) (T := T) x hx h1; rw [ver_of hv] at this; dsimp only [FV.cells] at this; rw [hl] at this; exact this)⟩ hw rfl k
theorem rn_box1 {T : Nat} {x : Operand} {f : FV} {v0 E0 sz0 : Nat} {lf0 : Life} {es0 : List (List FV)} (hx : evO t x = some f) (h1 : f.one = true) (hv : (⟨t, ob⟩ : FSt).ob d = ⟨v0, lf0, E0, sz0, es0⟩) (hd : Nat.blt d c.N = true) (hw : Want ops ⟨t, ob⟩ (⟨some d, .box T x, ty, pos, af, g⟩ : Oper) true) (k : RunN c ops rest ⟨((d, (.ptr d (v0 + 1) 0 0)) :: t), ((d, ⟨v0 + 1, .own, T, 1, [[f]]⟩) :: ob)⟩ Q) : RunN c ops ((⟨some d, .box T x, ty, pos, af, g⟩ : Oper) :: rest) ⟨t, ob⟩ Q :=
  RunN.cons (f := (.ptr d (v0 + 1) 0 0)) (wr := [(d, ⟨v0 + 1, .own, T, 1, [[f]]⟩)]) (d := d) ⟨.inl rfl, (fun _ e => by injection e with e; subst e; exact Nat.le_of_ble_eq_true hd), (eff_box1 (ev_of hx) h1 hv)⟩ hw rfl k
theorem rn_buildS1 {T e by_ : Nat} {x : Operand} {kk : TK} {z : List FV} {f : FV} {v0 E0 sz0 : Nat} {lf0 : Life} {es0 : List (List FV)} (hx : evO t x = some f) (h1 : f.one = true) (hT : (c.ty T).k = .slice e) (he : c.ty e = ⟨kk, 1, by_, z⟩) (hk : kk.known = true) (hv : (⟨t, ob⟩ : FSt).ob d = ⟨v0, lf0, E0, sz0, es0⟩) (hd : Nat.blt d c.N = true) (hw : Want ops ⟨t, ob⟩ (⟨some d, .buildSlice T 1 #[(0, x)], ty, pos, af, g⟩ : Oper) true) (k : RunN c ops rest ⟨((d, (.own d (v0 + 1) 0 1)) :: t), ((d, ⟨v0 + 1, .own, e, 1, [[f]]⟩) :: ob)⟩ Q) : RunN c ops ((⟨some d, .buildSlice T 1 #[(0, x)], ty, pos, af, g⟩ : Oper) :: rest) ⟨t, ob⟩ Q :=
  RunN.cons (f := (.own d (v0 + 1) 0 1)) (wr := [(d, ⟨v0 + 1, .own, e, 1, [[f]]⟩)]) (d := d) ⟨.inl rfl, (fun _ e => by injection e with e; subst e; exact Nat.le_of_ble_eq_true hd), (by have hf : PtsS ⟨t, ob⟩ 1 0 [(0, x)] [[f]] := PtsS.one (ev_of hx) (one_cells h1) h1 rfl .nil; obtain ⟨l1, l2, l3⟩ := hf.len; have hfill := hf.fill [] (by simp); have := Eff.buildSlice (c := c) (s := ⟨t, ob⟩) (d := d) (n := 1) hT (by rw [he]; exact TK.known_ne hk) #[(0, x)] [[f]] l1 (by rw [he]; exact l2) l3 (by rw [he]; exact by simp) (by decide) (by rw [he]; simpa [FSt.parts] using hfill); rw [ver_of hv, he] at this; exact this)⟩ hw rfl k
theorem rn_buildS1A {T e by_ : Nat} {x : Operand} {kk : TK} {z : List FV} {sz : Nat} {cs : List FV} {v0 E0 sz0 : Nat} {lf0 : Life} {es0 : List (List FV)} (hx : (⟨t, ob⟩ : FSt).ev x = (.agg cs)) (hT : (c.ty T).k = .slice e) (he : c.ty e = ⟨kk, sz, by_, z⟩) (hk : kk.known = true) (h1 : cs.all FV.one = true) (hl : cs.length = sz) (hm : Nat.ble (1 * sz) 16777216 = true) (hv : (⟨t, ob⟩ : FSt).ob d = ⟨v0, lf0, E0, sz0, es0⟩) (hd : Nat.blt d c.N = true) (hw : Want ops ⟨t, ob⟩ (⟨some d, .buildSlice T 1 #[(0, x)], ty, pos, af, g⟩ : Oper) true) (k : RunN c ops rest ⟨((d, (.own d (v0 + 1) 0 1)) :: t), ((d, ⟨v0 + 1, .own, e, sz, [cs]⟩) :: ob)⟩ Q) : RunN c ops ((⟨some d, .buildSlice T 1 #[(0, x)], ty, pos, af, g⟩ : Oper) :: rest) ⟨t, ob⟩ Q :=
  RunN.cons (f := (.own d (v0 + 1) 0 1)) (wr := [(d, ⟨v0 + 1, .own, e, sz, [cs]⟩)]) (d := d) ⟨.inl rfl, (fun _ e => by injection e with e; subst e; exact Nat.le_of_ble_eq_true hd), (by have hf : PtsS ⟨t, ob⟩ sz 0 [(0, x)] [cs] := PtsS.agg hx h1 hl .nil; obtain ⟨l1, l2, l3⟩ := hf.len; have hfill := hf.fill [] (by simp); have := Eff.buildSlice (c := c) (s := ⟨t, ob⟩) (d := d) (n := 1) hT (by rw [he]; exact TK.known_ne hk) #[(0, x)] [cs] l1 (by rw [he]; exact l2) l3 (by rw [he]; exact Nat.le_of_ble_eq_true hm) (by decide) (by rw [he]; simpa [FSt.parts] using hfill); rw [ver_of hv, he] at this; exact this)⟩ hw rfl k
theorem rn_appO {T e sz by_ id ver n : Nat} {kk : TK} {z : List FV} {es es2 : List (List FV)} {x y : Operand} {v0 E0 sz0 : Nat} {lf0 : Life} {es0 : List (List FV)} (hx : (⟨t, ob⟩ : FSt).ev x = .own id ver 0 n) (hb : (⟨t, ob⟩ : FSt).ob id = ⟨ver, .own, e, sz, es⟩) (hn : n = es.length) (hT : (c.ty T).k = .slice e) (he : c.ty e = ⟨kk, sz, by_, z⟩) (hk : kk.known = true) (hp : 0 < sz) (hy : SrcR t ob y sz es2) (hbb : (es.length + es2.length) * by_ ≤ 140737488355328) (hm : es.length + es2.length ≤ 140737488355328) (hv : (⟨t, ob⟩ : FSt).ob d = ⟨v0, lf0, E0, sz0, es0⟩) (hd : Nat.blt d c.N = true) (hw : Want ops ⟨t, ob⟩ (⟨some d, .call { callee := .builtin .append, args := #[x, y], argTypes := #[T, T] }, ty, pos, af, g⟩ : Oper) true) (k : RunN c ops rest ⟨((d, (.own d (v0 + 1) 0 (es ++ es2).length)) :: t), ((d, ⟨v0 + 1, .own, e, sz, es ++ es2⟩) :: (id, ⟨ver, .dead, e, sz, es⟩) :: ob)⟩ Q) : RunN c ops ((⟨some d, .call { callee := .builtin .append, args := #[x, y], argTypes := #[T, T] }, ty, pos, af, g⟩ : Oper) :: rest) ⟨t, ob⟩ Q :=
  RunN.cons (f := (.own d (v0 + 1) 0 (es ++ es2).length)) (wr := [(id, ⟨ver, .dead, e, sz, es⟩), (d, ⟨v0 + 1, .own, e, sz, es ++ es2⟩)]) (d := d) ⟨.inl rfl, (fun _ e => by injection e with e; subst e; exact Nat.le_of_ble_eq_true hd), (eff_appO hx hb hn hT he hk hp hy hbb hm hv)⟩ hw rfl k
theorem rn_call {f : Nat} {xs : List Operand} {ts : Array TypeId} {gs : List FV} {res : FV} (hs : Spec c.P f gs .fr res) (hx : ArgsR t ob .fr xs gs) (hd : Nat.blt d c.N = true) (hw : Want ops ⟨t, ob⟩ (⟨some d, .call { callee := .value (.func f), args := xs.toArray, argTypes := ts }, ty, pos, af, g⟩ : Oper) true) (k : RunN c ops rest ⟨((d, res) :: t), ob⟩ Q) : RunN c ops ((⟨some d, .call { callee := .value (.func f), args := xs.toArray, argTypes := ts }, ty, pos, af, g⟩ : Oper) :: rest) ⟨t, ob⟩ Q :=
  RunN.cons (f := res) (wr := []) (d := d) ⟨.inl rfl, (fun _ e => by injection e with e; subst e; exact Nat.le_of_ble_eq_true hd), (.call hs (.inl rfl) (by simpa using hx.ok))⟩ hw rfl k
theorem rd_call {f : Nat} {xs : List Operand} {ts : Array TypeId} {gs : List FV} {res : FV} (hs : Spec c.P f gs .fr res) (hx : ArgsR t ob .fr xs gs) (hd : Nat.blt d c.N = true) (hw : Want ops ⟨t, ob⟩ (⟨some d, .call { callee := .value (.func f), args := xs.toArray, argTypes := ts }, ty, pos, af, g⟩ : Oper) true) (k : RunD c ops rest ⟨((d, res) :: t), ob⟩ (tr ++ [⟨(⟨some d, .call { callee := .value (.func f), args := xs.toArray, argTypes := ts }, ty, pos, af, g⟩ : Oper), res, [], foot ⟨t, ob⟩ d (.call { callee := .value (.func f), args := xs.toArray, argTypes := ts })⟩]) QD) : RunD c ops ((⟨some d, .call { callee := .value (.func f), args := xs.toArray, argTypes := ts }, ty, pos, af, g⟩ : Oper) :: rest) ⟨t, ob⟩ tr QD :=
  RunD.cons (f := res) (wr := []) (d := d) ⟨.inl rfl, (fun _ e => by injection e with e; subst e; exact Nat.le_of_ble_eq_true hd), (.call hs (.inl rfl) (by simpa using hx.ok))⟩ hw rfl rfl k
theorem rn_callV {f : Nat} {x : Operand} {xs : List Operand} {ts : Array TypeId} {gs caps : List FV} {res : FV} (hx : (⟨t, ob⟩ : FSt).ev x = .fn f caps) (hs : Spec c.P f (gs ++ caps) .fr res) (ha : ArgsR t ob .fr xs gs) (hd : Nat.blt d c.N = true) (hw : Want ops ⟨t, ob⟩ (⟨some d, .call { callee := .value x, args := xs.toArray, argTypes := ts }, ty, pos, af, g⟩ : Oper) true) (k : RunN c ops rest ⟨((d, res) :: t), ob⟩ Q) : RunN c ops ((⟨some d, .call { callee := .value x, args := xs.toArray, argTypes := ts }, ty, pos, af, g⟩ : Oper) :: rest) ⟨t, ob⟩ Q :=
  RunN.cons (f := res) (wr := []) (d := d) ⟨.inl rfl, (fun _ e => by injection e with e; subst e; exact Nat.le_of_ble_eq_true hd), (.callV hx hs (by simpa using ha.ok))⟩ hw rfl k
theorem rn_makeFn1 {f : Nat} {x : Operand} {g1 : FV} (hx : evO t x = some g1) (hh : g1.hand = none) (hd : Nat.blt d c.N = true) (hw : Want ops ⟨t, ob⟩ (⟨some d, .makeFunc (.func f) #[] #[x], ty, pos, af, g⟩ : Oper) true) (k : RunN c ops rest ⟨((d, (.fn f [g1])) :: t), ob⟩ Q) : RunN c ops ((⟨some d, .makeFunc (.func f) #[] #[x], ty, pos, af, g⟩ : Oper) :: rest) ⟨t, ob⟩ Q :=
  RunN.cons (f := (.fn f [g1])) (wr := []) (d := d) ⟨.inl rfl, (fun _ e => by injection e with e; subst e; exact Nat.le_of_ble_eq_true hd), (.makeFn (by simp [ev_of hx]) (by simp [hh]))⟩ hw rfl k
theorem rn_callO {f E sz n : Nat} {xs : List Operand} {ts : Array TypeId} {gs : List FV} {es : List (List FV)} {v0 E0 sz0 : Nat} {lf0 : Life} {es0 : List (List FV)} (hs : Spec c.P f gs (.ow E sz) (.list sz es)) (hx : ArgsR t ob (.ow E sz) xs gs) (hn : es.length = n) (hv : (⟨t, ob⟩ : FSt).ob d = ⟨v0, lf0, E0, sz0, es0⟩) (hd : Nat.blt d c.N = true) (hw : Want ops ⟨t, ob⟩ (⟨some d, .call { callee := .value (.func f), args := xs.toArray, argTypes := ts }, ty, pos, af, g⟩ : Oper) true) (k : RunN c ops rest ⟨((d, (.own d (v0 + 1) 0 n)) :: t), ((d, ⟨v0 + 1, .own, E, sz, es⟩) :: ob)⟩ Q) : RunN c ops ((⟨some d, .call { callee := .value (.func f), args := xs.toArray, argTypes := ts }, ty, pos, af, g⟩ : Oper) :: rest) ⟨t, ob⟩ Q :=
  RunN.cons (f := (.own d (v0 + 1) 0 n)) (wr := [(d, ⟨v0 + 1, .own, E, sz, es⟩)]) (d := d) ⟨.inl rfl, (fun _ e => by injection e with e; subst e; exact Nat.le_of_ble_eq_true hd), (by subst hn; have := Eff.callOw (c := c) (s := ⟨t, ob⟩) (d := d) (ts := ts) hs (xs := xs.toArray) (by simpa using hx.ok); rw [ver_of hv] at this; exact this)⟩ hw rfl k
theorem rd_callO {f E sz n : Nat} {xs : List Operand} {ts : Array TypeId} {gs : List FV} {es : List (List FV)} {v0 E0 sz0 : Nat} {lf0 : Life} {es0 : List (List FV)} (hs : Spec c.P f gs (.ow E sz) (.list sz es)) (hx : ArgsR t ob (.ow E sz) xs gs) (hn : es.length = n) (hv : (⟨t, ob⟩ : FSt).ob d = ⟨v0, lf0, E0, sz0, es0⟩) (hd : Nat.blt d c.N = true) (hw : Want ops ⟨t, ob⟩ (⟨some d, .call { callee := .value (.func f), args := xs.toArray, argTypes := ts }, ty, pos, af, g⟩ : Oper) true) (k : RunD c ops rest ⟨((d, (.own d (v0 + 1) 0 n)) :: t), ((d, ⟨v0 + 1, .own, E, sz, es⟩) :: ob)⟩ (tr ++ [⟨(⟨some d, .call { callee := .value (.func f), args := xs.toArray, argTypes := ts }, ty, pos, af, g⟩ : Oper), (.own d (v0 + 1) 0 n), [(d, ⟨v0 + 1, .own, E, sz, es⟩)], foot ⟨t, ob⟩ d (.call { callee := .value (.func f), args := xs.toArray, argTypes := ts })⟩]) QD) : RunD c ops ((⟨some d, .call { callee := .value (.func f), args := xs.toArray, argTypes := ts }, ty, pos, af, g⟩ : Oper) :: rest) ⟨t, ob⟩ tr QD :=
  RunD.cons (f := (.own d (v0 + 1) 0 n)) (wr := [(d, ⟨v0 + 1, .own, E, sz, es⟩)]) (d := d) ⟨.inl rfl, (fun _ e => by injection e with e; subst e; exact Nat.le_of_ble_eq_true hd), (by subst hn; have := Eff.callOw (c := c) (s := ⟨t, ob⟩) (d := d) (ts := ts) hs (xs := xs.toArray) (by simpa using hx.ok); rw [ver_of hv] at this; exact this)⟩ hw rfl rfl k
theorem rn_skip {o : Oper} (ho : o.dst = some d) (hd : Nat.blt d c.N = true) (hw : Want ops ⟨t, ob⟩ o false) (k : RunN c ops rest ⟨(d, .tup []) :: t, ob⟩ Q) : RunN c ops (o :: rest) ⟨t, ob⟩ Q :=
  RunN.skip hw (fun d' e => by rw [ho] at e; injection e with e; subst e; exact Nat.le_of_ble_eq_true hd) (by rw [ho]; rfl) k
theorem rd_skip {o : Oper} (ho : o.dst = some d) (hd : Nat.blt d c.N = true) (hw : Want ops ⟨t, ob⟩ o false) (k : RunD c ops rest ⟨(d, .tup []) :: t, ob⟩ (tr ++ [⟨o, .tup [], [], []⟩]) QD) : RunD c ops (o :: rest) ⟨t, ob⟩ tr QD :=
  RunD.skip hw (fun d' e => by rw [ho] at e; injection e with e; subst e; exact Nat.le_of_ble_eq_true hd) (by rw [ho]; rfl) k
theorem rn_case {b : Bool} (h1 : b = true → RunN c ops rest ⟨(d, .bool true) :: t, ob⟩ Q) (h2 : b = false → RunN c ops rest ⟨(d, .bool false) :: t, ob⟩ Q) : RunN c ops rest ⟨(d, .bool b) :: t, ob⟩ Q := by
  cases b
  · exact h2 rfl
  · exact h1 rfl
theorem rd_case {b : Bool} {o : Oper} {wr : List (Nat × FObj)} {ft : List Nat} (h1 : b = true → RunD c ops rest ⟨(d, .bool true) :: t, ob⟩ (tr ++ [⟨o, .bool true, wr, ft⟩]) QD) (h2 : b = false → RunD c ops rest ⟨(d, .bool false) :: t, ob⟩ (tr ++ [⟨o, .bool false, wr, ft⟩]) QD) :
    RunD c ops rest ⟨(d, .bool b) :: t, ob⟩ (tr ++ [⟨o, .bool b, wr, ft⟩]) QD := by
  cases b
  · exact h2 rfl
  · exact h1 rfl
end
end Go.Proofs.Ytflkbehbenlhaaa
