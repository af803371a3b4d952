/-
  A machine of plain values beside the model: what its values mean in a world, and how its states follow the world's.
-/
import Derived.Test.YthijndjgchbeoaaBase
import Derived.Laws.OwnMore
import Derived.Maps.OwnSet
namespace Go.Proofs.Ythijndjgchbeoaa
set_option linter.unusedVariables false
open Go.RowKit

/-- plain values -/
inductive FV where
  | undef
  | int (k : IntKind) (n : Int)
  | bool (b : Bool)
  | str (s : ByteArray)
  | nil
  | list (sz : Nat) (es : List (List FV))
  | eptr (sz : Nat) (es : List (List FV)) (i off : Nat)
  | agg (cs : List FV)
  | tup (vs : List FV)
  | own (id ver o n : Nat)
  | ptr (id ver i off : Nat)
  | omap (id ver : Nat)
  | smap (es : List (List FV))
  | fn (f : Nat) (caps : List FV)
  deriving Inhabited

/-- fit for one cell of memory -/
def FV.one : FV → Bool
  | .int _ _ | .bool _ | .str _ | .nil | .list _ _ | .smap _ | .fn _ _ => true
  | _ => false

/-- the value of what reads from no memory: numbers, bools, strings, and rows of them -/
def FV.val1 : FV → Value
  | .int k n => .int k n
  | .bool b => .bool b
  | .str s => .string s
  | _ => .nilFunc
def FV.val : FV → Value
  | .agg cs => .agg (cs.map FV.val1).toArray
  | f => f.val1
def FV.simple1 : FV → Bool
  | .int _ _ | .bool _ | .str _ => true
  | _ => false
def FV.simple : FV → Bool
  | .agg cs => cs.all FV.simple1
  | f => f.simple1

/-- what is no handle and reads from memory that does not turn -/
inductive Rd (w : World) (I : Nat → Prop) : Value → FV → Prop where
  | undef (v : Value) : Rd w I v .undef
  | int (k : IntKind) (n : Int) : Rd w I (.int k n) (.int k n)
  | bool (b : Bool) : Rd w I (.bool b) (.bool b)
  | str (s : ByteArray) : Rd w I (.string s) (.str s)
  | nil : Rd w I (.slice none 0 0) .nil
  | list (A : Option Addr) (n c sz : Nat) (es : List (List FV)) (us : List Value) (hn : es.length = n) (hc : n ≤ c) (he : ∀ e ∈ es, e.length = sz) (ho : ∀ f ∈ es.flatten, f.one = true)
      (hA : n ≠ 0 → ∃ b off, A = some ⟨b, off, none⟩ ∧ I b ∧ ∀ (j : Nat) u, us[j]? = some u → w.cell? ⟨b, off + j, none⟩ = some u)
      (hl : us.length = es.flatten.length) (hr : ∀ (j : Nat) u f, us[j]? = some u → es.flatten[j]? = some f → Rd w I u f) : Rd w I (.slice A n c) (.list sz es)
  | eptr (b off sz : Nat) (es : List (List FV)) (i o : Nat) (us : List Value) (hI : I b) (he : ∀ e ∈ es, e.length = sz) (ho : ∀ f ∈ es.flatten, f.one = true)
      (hA : ∀ (j : Nat) u, us[j]? = some u → w.cell? ⟨b, off + j, none⟩ = some u)
      (hl : us.length = es.flatten.length) (hr : ∀ (j : Nat) u f, us[j]? = some u → es.flatten[j]? = some f → Rd w I u f) : Rd w I (.pointer (some ⟨b, off + (i * sz + o), none⟩)) (.eptr sz es i o)
  | smap (b clock : Nat) (ents : Array MapEntry) (es : List (List FV)) (hI : I b) (hb : w.heap[b]? = some (.map ents clock)) (hst : MapKept.Stamped ents clock) (hl : ents.size = es.length)
      (hk : ∀ (j : Nat) e row, ents[j]? = some e → es[j]? = some row → ∃ kf vf, row = [kf, vf] ∧ kf.simple = true ∧ e.key = kf.val)
      (hr : ∀ (j : Nat) e row f, ents[j]? = some e → es[j]? = some row → row[1]? = some f → Rd w I e.val f) : Rd w I (.map (some b)) (.smap es)
  | agg (us : List Value) (fs : List FV) (hl : us.length = fs.length) (hr : ∀ (j : Nat) u f, us[j]? = some u → fs[j]? = some f → Rd w I u f) : Rd w I (.agg us.toArray) (.agg fs)
  | tup (us : List Value) (fs : List FV) (hl : us.length = fs.length) (hr : ∀ (j : Nat) u f, us[j]? = some u → fs[j]? = some f → Rd w I u f) : Rd w I (.tuple us.toArray) (.tup fs)

/-- a list of cells -/
def RdL (w : World) (I : Nat → Prop) (us : List Value) (fs : List FV) : Prop := us.length = fs.length ∧ ∀ (j : Nat) u f, us[j]? = some u → fs[j]? = some f → Rd w I u f

theorem Rd.mono {w w' : World} {I I' : Nat → Prop} (hI : ∀ b, I b → I' b ∧ w'.heap[b]? = w.heap[b]?) {v : Value} {f : FV} (h : Rd w I v f) : Rd w' I' v f := by
  induction h with
  | undef v => exact .undef v
  | int k n => exact .int k n
  | bool b => exact .bool b
  | str s => exact .str s
  | nil => exact .nil
  | list A n c sz es us hn hc he ho hA hl hr ih =>
    refine .list A n c sz es us hn hc he ho (fun h0 => ?_) hl ih
    obtain ⟨b, off, ha, hb, hcell⟩ := hA h0
    exact ⟨b, off, ha, (hI b hb).1, fun j u hu => (World.cell?_of_block (w := w) (w' := w') (a := ⟨b, off + j, none⟩) (hI b hb).2).trans (hcell j u hu)⟩
  | eptr b off sz es i o us hb he ho hA hl hr ih =>
    exact .eptr b off sz es i o us (hI b hb).1 he ho (fun j u hu => (World.cell?_of_block (w := w) (w' := w') (a := ⟨b, off + j, none⟩) (hI b hb).2).trans (hA j u hu)) hl ih
  | smap b clock ents es hb hbl hst hl hk hr ih => exact .smap b clock ents es (hI b hb).1 ((hI b hb).2.trans hbl) hst hl hk ih
  | agg us fs hl hr ih => exact .agg us fs hl ih
  | tup us fs hl hr ih => exact .tup us fs hl ih

theorem RdL.mono {w w' : World} {I I' : Nat → Prop} (hI : ∀ b, I b → I' b ∧ w'.heap[b]? = w.heap[b]?) {us : List Value} {fs : List FV} (h : RdL w I us fs) : RdL w' I' us fs :=
  ⟨h.1, fun j u f hu hf => (h.2 j u f hu hf).mono hI⟩
theorem RdL.nil {w : World} {I : Nat → Prop} : RdL w I [] [] := ⟨rfl, fun j u f hu => by simp at hu⟩
theorem RdL.append {w : World} {I : Nat → Prop} {us vs : List Value} {fs gs : List FV} (h : RdL w I us fs) (k : RdL w I vs gs) : RdL w I (us ++ vs) (fs ++ gs) := by
  refine ⟨by simp [h.1, k.1], fun j u f hu hf => ?_⟩
  rcases Nat.lt_or_ge j us.length with hj | hj
  · rw [List.getElem?_append_left hj] at hu
    rw [List.getElem?_append_left (by rw [← h.1]; exact hj)] at hf
    exact h.2 j u f hu hf
  · rw [List.getElem?_append_right hj] at hu
    rw [List.getElem?_append_right (by rw [← h.1]; exact hj), ← h.1] at hf
    exact k.2 _ u f hu hf
theorem RdL.cons {w : World} {I : Nat → Prop} {u : Value} {us : List Value} {f : FV} {fs : List FV} (h : Rd w I u f) (k : RdL w I us fs) : RdL w I (u :: us) (f :: fs) := by
  refine ⟨by simp [k.1], fun j u' f' hu hf => ?_⟩
  cases j with
  | zero => simp at hu hf; subst hu; subst hf; exact h
  | succ j => simp at hu hf; exact k.2 j u' f' hu hf
theorem RdL.take {w : World} {I : Nat → Prop} {us : List Value} {fs : List FV} (h : RdL w I us fs) (n : Nat) : RdL w I (us.take n) (fs.take n) := by
  refine ⟨by simp [h.1], fun j u f hu hf => ?_⟩
  rw [List.getElem?_take] at hu hf
  split at hu
  · rename_i hj
    rw [if_pos hj] at hf
    exact h.2 j u f hu hf
  · cases hu
theorem RdL.drop {w : World} {I : Nat → Prop} {us : List Value} {fs : List FV} (h : RdL w I us fs) (n : Nat) : RdL w I (us.drop n) (fs.drop n) := by
  refine ⟨by simp [h.1], fun j u f hu hf => ?_⟩
  rw [List.getElem?_drop] at hu hf
  exact h.2 _ u f hu hf
theorem RdL.get {w : World} {I : Nat → Prop} {us : List Value} {fs : List FV} (h : RdL w I us fs) {j : Nat} (hj : j < fs.length) : ∃ u, us[j]? = some u ∧ Rd w I u fs[j] := by
  have hu : j < us.length := by rw [h.1]; exact hj
  exact ⟨us[j], by simp [hu], h.2 j _ _ (by simp [hu]) (by simp [hj])⟩

/-- an object of the call's own: a row of cells, a map; dead, its own, or shut (read alone) -/
inductive Life where
  | dead | own | shut | mapo | maps | hrow | roomy | full
  deriving DecidableEq, Inhabited
/-- a row of cells that hold no handles (roomy: there is room behind it, full: there is none) -/
def Life.row : Life → Bool
  | .own | .shut | .roomy | .full => true
  | _ => false
/-- a row of cells -/
def Life.slic : Life → Bool
  | .own | .shut | .roomy | .full | .hrow => true
  | _ => false
/-- its block may turn -/
def Life.mine : Life → Bool
  | .own | .mapo | .roomy | .full | .hrow => true
  | _ => false
theorem Life.row_ne {l : Life} (h : l.row = true) : l ≠ .dead := by rintro rfl; cases h
theorem Life.row_slic {l : Life} (h : l.row = true) : l.slic = true := by cases l <;> first | rfl | cases h
theorem Life.mine_ne {l : Life} (h : l.mine = true) : l ≠ .dead := by rintro rfl; cases h
structure FObj where
  ver : Nat := 0
  life : Life := .dead
  E : TypeId := 0
  sz : Nat := 0
  es : List (List FV) := []
  deriving Inhabited

/-- the first entry of a key -/
def look {α : Type} (d : α) : List (Nat × α) → Nat → α
  | [], _ => d
  | (i, a) :: l, k => bif Nat.beq i k then a else look d l k
theorem look_cons {α : Type} (d : α) (i : Nat) (a : α) (l : List (Nat × α)) (k : Nat) : look d ((i, a) :: l) k = if i = k then a else look d l k := by
  show (bif Nat.beq i k then a else look d l k) = _
  by_cases h : i = k
  · subst h; simp
  · have hb : Nat.beq i k = false := by
      cases hb : Nat.beq i k with
      | true => exact absurd (Nat.eq_of_beq_eq_true hb) h
      | false => rfl
    rw [hb, if_neg h]; rfl

structure FS where
  t : List (Nat × FV)
  o : List (Nat × FObj)

def FS.get (s : FS) (d : Nat) : FV := look .undef s.t d
def FS.ob (s : FS) (id : Nat) : FObj := look {} s.o id
def FS.put (s : FS) (d : Nat) (v : FV) : FS := ⟨(d, v) :: s.t, s.o⟩
def FS.set (s : FS) (id : Nat) (b : FObj) : FS := ⟨s.t, (id, b) :: s.o⟩
theorem FS.get_put (s : FS) (d : Nat) (v : FV) (k : Nat) : (s.put d v).get k = if d = k then v else s.get k := look_cons _ _ _ _ _
theorem FS.ob_put (s : FS) (d : Nat) (v : FV) (k : Nat) : (s.put d v).ob k = s.ob k := rfl
theorem FS.get_set (s : FS) (d : Nat) (b : FObj) (k : Nat) : (s.set d b).get k = s.get k := rfl
theorem FS.ob_set (s : FS) (d : Nat) (b : FObj) (k : Nat) : (s.set d b).ob k = if d = k then b else s.ob k := look_cons _ _ _ _ _

/-- what a handle on an object of the call's own is -/
structure OwnV (w : World) (βid : Option Nat) (ob : FObj) (v : Value) (o n : Nat) : Prop where
  row : ob.life.slic = true
  ex : ∃ A c, v = .slice A n c ∧ n ≤ c ∧ o + n ≤ ob.es.length ∧ (βid = none → A = none ∧ c = 0) ∧
    ∀ b, βid = some b → ∃ o', A = some ⟨b, o', none⟩ ∧ (c ≠ 0 ∨ o = 0 → o' = o * ob.sz) ∧ ∀ cur, w.heap[b]? = some (.cells cur ob.E (0, 0)) → cur.size = (o + c) * ob.sz

/-- what a slot holds -/
def VR (w : World) (I : Nat → Prop) (β : Nat → Option Nat) (s : FS) (v : Value) : FV → Prop
  | .own id ver o n => (s.ob id).life ≠ .dead → (s.ob id).ver = ver → OwnV w (β id) (s.ob id) v o n
  | .ptr id ver i off => (s.ob id).life ≠ .dead → (s.ob id).ver = ver → (s.ob id).life.slic = true ∧ ∃ b, β id = some b ∧ v = .pointer (some ⟨b, i * (s.ob id).sz + off, none⟩)
  | .omap id ver => (s.ob id).life ≠ .dead → (s.ob id).ver = ver → (s.ob id).life.slic = false ∧ ∃ b, β id = some b ∧ v = .map (some b)
  | f => Rd w I v f

/-- the version that a handle bears -/
def FV.hand : FV → Option (Nat × Nat)
  | .own id ver _ _ => some (id, ver)
  | .ptr id ver _ _ => some (id, ver)
  | .omap id ver => some (id, ver)
  | _ => none

/-- what is in a row's block -/
structure RowR (w : World) (base : Nat) (I : Nat → Prop) (βid : Option Nat) (ob : FObj) : Prop where
  wide : ∀ e ∈ ob.es, e.length = ob.sz
  one : ∀ f ∈ ob.es.flatten, f.one = true
  row : ∃ v us, w.ownsRow base ob.E ob.sz v ob.es.length us ∧ v.ownBlock = βid ∧ RdL w I us ob.es.flatten
/-- what is in a map's block: each entry a row of a key and a value -/
structure MapR (w : World) (base : Nat) (I : Nat → Prop) (βid : Option Nat) (ob : FObj) : Prop where
  ex : ∃ b clock ents, βid = some b ∧ base ≤ b ∧ w.heap[b]? = some (.map ents clock) ∧ MapKept.Stamped ents clock ∧ ents.size = ob.es.length ∧
    (∀ (j : Nat) e row, ents[j]? = some e → ob.es[j]? = some row → ∃ kf vf, row = [kf, vf] ∧ kf.simple = true ∧ e.key = kf.val) ∧
    ∀ (j : Nat) e row f, ents[j]? = some e → ob.es[j]? = some row → row[1]? = some f → Rd w I e.val f
/-- what is in the block of a row whose cells may hold handles -/
structure RowH (w : World) (base : Nat) (I : Nat → Prop) (β : Nat → Option Nat) (s : FS) (βid : Option Nat) (ob : FObj) : Prop where
  wide : ∀ e ∈ ob.es, e.length = ob.sz
  vers : ∀ f ∈ ob.es.flatten, ∀ id ver, f.hand = some (id, ver) → ver ≤ (s.ob id).ver
  row : ∃ v us, w.ownsRow base ob.E ob.sz v ob.es.length us ∧ v.ownBlock = βid ∧ us.length = ob.es.flatten.length ∧ ∀ (j : Nat) u f, us[j]? = some u → ob.es.flatten[j]? = some f → VR w I β s u f
/-- what is known of the room behind a row -/
def RoomR (w : World) (βid : Option Nat) (ob : FObj) : Prop :=
  match ob.life with
  | .roomy => ∃ b cur, βid = some b ∧ w.heap[b]? = some (.cells cur ob.E (0, 0)) ∧ (ob.es.length + 1) * ob.sz ≤ cur.size
  | .full => ∀ b cur, βid = some b → w.heap[b]? = some (.cells cur ob.E (0, 0)) → cur.size = ob.es.length * ob.sz
  | _ => True
/-- what is in an object's block -/
def ObR (w : World) (base : Nat) (I : Nat → Prop) (β : Nat → Option Nat) (s : FS) (βid : Option Nat) (ob : FObj) : Prop :=
  if ob.life.row = true then RowR w base I βid ob ∧ RoomR w βid ob else if ob.life.slic = true then RowH w base I β s βid ob else MapR w base I βid ob
section
variable {w : World} {base : Nat} {I : Nat → Prop} {β : Nat → Option Nat} {s : FS} {βid : Option Nat} {ob : FObj}
theorem ObR.rowR (h : ObR w base I β s βid ob) (hr : ob.life.row = true) : RowR w base I βid ob := by unfold ObR at h; rw [if_pos hr] at h; exact h.1
theorem ObR.roomR (h : ObR w base I β s βid ob) (hr : ob.life.row = true) : RoomR w βid ob := by unfold ObR at h; rw [if_pos hr] at h; exact h.2
theorem ObR.rowH (h : ObR w base I β s βid ob) (hr : ob.life.row = false) (hs : ob.life.slic = true) : RowH w base I β s βid ob := by unfold ObR at h; rwa [if_neg (by rw [hr]; decide), if_pos hs] at h
theorem ObR.mapR (h : ObR w base I β s βid ob) (hr : ob.life.slic = false) : MapR w base I βid ob := by
  unfold ObR at h
  rwa [if_neg (fun e => by rw [Life.row_slic e] at hr; cases hr), if_neg (by rw [hr]; decide)] at h
theorem ObR.ofRow (h : RowR w base I βid ob) (hm : RoomR w βid ob) (hr : ob.life.row = true) : ObR w base I β s βid ob := by unfold ObR; rw [if_pos hr]; exact ⟨h, hm⟩
theorem ObR.ofH (h : RowH w base I β s βid ob) (hr : ob.life = .hrow) : ObR w base I β s βid ob := by unfold ObR; rw [if_neg (by rw [hr]; decide), if_pos (by rw [hr]; rfl)]; exact h
theorem ObR.ofMap (h : MapR w base I βid ob) (hr : ob.life.slic = false) : ObR w base I β s βid ob := by
  unfold ObR
  rwa [if_neg (fun e => by rw [Life.row_slic e] at hr; cases hr), if_neg (by rw [hr]; decide)]
theorem RoomR.own (hl : ob.life = .own) : RoomR w βid ob := by unfold RoomR; rw [hl]; trivial
theorem RoomR.shut (hl : ob.life = .shut) : RoomR w βid ob := by unfold RoomR; rw [hl]; trivial
end

/-- the blocks that do not turn any more -/
def Imm (J : Nat → Prop) (w : World) (β : Nat → Option Nat) (s : FS) (b : Nat) : Prop := b < w.heap.size ∧ J b ∧ ∀ id, (s.ob id).life.mine = true → β id ≠ some b

/-- the state follows the world -/
structure FR (N : Nat) (w0 : World) (J : Nat → Prop) (s : FS) (a : Act) (w : World) (β : Nat → Option Nat) : Prop where
  size : a.tmps.size = N
  defers : a.defers = []
  bel : Below w0.heap.size w0 w
  fresh : ∀ b, w0.heap.size ≤ b → J b
  slot : ∀ d, VR w (Imm J w β s) β s (a.tmps.getD d undef) (s.get d)
  vers : ∀ d id ver, (s.get d).hand = some (id, ver) → ver ≤ (s.ob id).ver
  obj : ∀ id, (s.ob id).life ≠ .dead → ObR w w0.heap.size (Imm J w β s) β s (β id) (s.ob id)
  inj : ∀ id id' b, (s.ob id).life ≠ .dead → (s.ob id').life ≠ .dead → β id = some b → β id' = some b → id = id'

end Go.Proofs.Ythijndjgchbeoaa
