/-
  The operations of the machine of plain values that make memory; slicing; append.
-/
import Derived.Test.YthijndjgchbeoaaFmF
import Derived.Laws.MakeOwn
import Derived.Maps.AppendAt
namespace Go.Proofs.Ythijndjgchbeoaa
set_option linter.unusedVariables false
open Go.RowKit

theorem OwnV.of_row {w : World} {base E sz n : Nat} {v : Value} {xs : List Value} {ob : FObj} (h : w.ownsRow base E sz v n xs) (hn : ob.es.length = n) (hE : ob.E = E) (hs : ob.sz = sz) (hrl : ob.life.slic = true) : OwnV w v.ownBlock ob v 0 n := by
  rcases h.2 with ⟨rfl, rfl⟩ | ⟨g, cap, cur, rfl, _, hgg, h1, h2, h3, _⟩
  · exact ⟨hrl, none, 0, rfl, Nat.le_refl _, by omega, fun _ => ⟨rfl, rfl⟩, fun b hb => by simp [Value.ownBlock] at hb⟩
  · refine ⟨hrl, some ⟨g, 0, none⟩, cap, rfl, h1, by omega, fun hb => by simp [Value.ownBlock] at hb, fun b hb => ?_⟩
    obtain rfl : g = b := by simpa [Value.ownBlock] using hb
    refine ⟨0, rfl, fun _ => by simp, fun cur' hc => ?_⟩
    rw [hE, hgg] at hc
    injection hc with hc
    injection hc with hc _ _
    rw [← hc, hs]; simpa using h3

section
variable {c : Ctx} {w0 w : World} {J : Nat → Prop} {s : FS} {a : Act} {β : Nat → Option Nat} {ty : TypeId} {pos : String} {after : Array Edge} {g : Option (Nat × Bool)}

theorem below_alloc (w : World) (o : Obj) : Below w.heap.size w (w.alloc o) := (Below.refl _ _).alloc (Nat.le_refl _) o

/-- a new row, filled -/
theorem FR.newRow (h : FR c.N w0 J s a w β) (d E sz : Nat) (es : List (List FV)) (cur : Array Value) (hw : ∀ e ∈ es, e.length = sz) (ho : ∀ f ∈ es.flatten, f.one = true) (hr : RdL w (Imm J w β s) cur.toList es.flatten) (hm : es.length ≤ maxLen) :
    FR c.N w0 J (s.set d ⟨(s.ob d).ver + 1, .own, E, sz, es⟩) a (w.alloc (.cells cur E)) (updB β d (some w.heap.size)) ∧
      (w.alloc (.cells cur E)).ownsRow w0.heap.size E sz (.slice (some ⟨w.heap.size, 0, none⟩) es.length es.length) es.length cur.toList := by
  have hlen : cur.size = es.length * sz := by have := hr.1; rw [flat_length hw] at this; simpa using this
  have hrow : (w.alloc (.cells cur E)).ownsRow w0.heap.size E sz (.slice (some ⟨w.heap.size, 0, none⟩) es.length es.length) es.length cur.toList :=
    ⟨by simpa using hlen, .inr ⟨w.heap.size, es.length, cur, rfl, h.bel.size, heap_alloc_new w _, Nat.le_refl _, hm, hlen, by rw [List.take_of_length_le (by simp [hlen])]⟩⟩
  refine ⟨h.make none d (v := .slice (some ⟨w.heap.size, 0, none⟩) es.length es.length) (fun k e => by cases e) (World.grownBy_alloc w _ _) hw ho hrow hr (.inr (.inr ⟨_, rfl, Nat.le_refl _⟩)) (fun k => ?_) (fun k => rfl), hrow⟩
  rw [FS.ob_set]
  split
  · rfl
  · simp

theorem updB_same (β : Nat → Option Nat) (j : Nat) (x : Option Nat) : updB β j x j = x := by simp [updB]

/-- a new row with one variable in it: its pointer -/
theorem good_newVar (h : FR c.N w0 J s a w β) {o : Oper} (d E : Nat) (f : FV) (cur : Array Value) (hf : f.cells.all FV.one = true) (hr : RdL w (Imm J w β s) cur.toList f.cells)
    (hrun : (execOp a.eval o).run c.P w = .ok (.value (.pointer (some ⟨w.heap.size, 0, none⟩))) (w.alloc (.cells cur E))) :
    Good c w0 J s a o w (.ptr d ((s.ob d).ver + 1) 0 0) [(d, ⟨(s.ob d).ver + 1, .own, E, f.cells.length, [f.cells]⟩)] := by
  obtain ⟨h1, _⟩ := h.newRow d E f.cells.length [f.cells] cur (by simp) (by simpa using hf) (by simpa using hr) (by simp [maxLen])
  refine ⟨_, _, _, hrun, h1, fun _ _ => ⟨by rw [show (s.wr [(d, (⟨(s.ob d).ver + 1, .own, E, f.cells.length, [f.cells]⟩ : FObj))]).ob d = ⟨(s.ob d).ver + 1, .own, E, f.cells.length, [f.cells]⟩ from (FS.ob_set s d _ d).trans (if_pos rfl)]; rfl, w.heap.size, updB_same _ _ _, by simp⟩, fun id ver e => ?_⟩
  simp only [FV.hand, Option.some.injEq, Prod.mk.injEq] at e
  obtain ⟨rfl, rfl⟩ := e
  show _ ≤ (FS.ob (FS.set s d _) d).ver
  rw [FS.ob_set, if_pos rfl]
  exact Nat.le_refl _

theorem good_alloc (h : FR c.N w0 J s a w β) (d : Nat) {T : Nat} (hk : (c.ty T).k ≠ .other) (hz : (c.ty T).zero.all FV.one = true) :
    Good c w0 J s a ⟨some d, .alloc T, ty, pos, after, g⟩ w (.ptr d ((s.ob d).ver + 1) 0 0) [(d, ⟨(s.ob d).ver + 1, .own, T, (c.ty T).zero.length, [(c.ty T).zero]⟩)] := by
  obtain ⟨z, h1, h2, h3⟩ := run_zeroValue hk w
  refine good_newVar h d T (.agg (c.ty T).zero) z.cells hz (RdL.zeros h2) ?_
  simp [execOp, Instr.alloc, h1, newVar, newRow]
theorem good_box (h : FR c.N w0 J s a w β) (d : Nat) {T : Nat} (x : Operand) {f : FV} (ex : s.ev x = f) (hf : f.cells.all FV.one = true) :
    Good c w0 J s a ⟨some d, .box T x, ty, pos, after, g⟩ w (.ptr d ((s.ob d).ver + 1) 0 0) [(d, ⟨(s.ob d).ver + 1, .own, T, f.cells.length, [f.cells]⟩)] := by
  obtain ⟨h1, h2⟩ := (h.ev_rd ex (Rd.nohand hf)).cells hf
  refine good_newVar h d T f (a.eval x).cells hf h1 ?_
  simp [execOp, Instr.box, newVar, newRow]

/-- the parts of a literal laid over the cells -/
def ffill (place : Nat → Option (Nat × Nat)) : List FV → List (Nat × FV) → Option (List FV)
  | cs, [] => some cs
  | cs, (i, f) :: rest =>
    match place i with
    | none => none
    | some (off, size) => if f.cells.all FV.one = true ∧ f.cells.length = size ∧ off + size ≤ cs.length then ffill place (splice cs off f.cells) rest else none

theorem foldl_set : ∀ (vs : List Value) (k off : Nat) (A : Array Value), off + k + vs.length ≤ A.size → (List.foldl (fun (cs : Array Value) (p : Value × Nat) => cs.setIfInBounds (off + p.2) p.1) A (vs.zipIdx k)).toList = splice A.toList (off + k) vs
  | [], k, off, A, _ => by simp [splice]
  | v :: vs, k, off, A, h => by
    have h' : off + k < A.size := by simp at h; omega
    rw [List.zipIdx_cons, List.foldl_cons, foldl_set vs (k + 1) off _ (by simp at h ⊢; omega)]
    unfold splice
    simp only [Array.toList_setIfInBounds, List.length_cons]
    rw [show off + (k + 1) = off + k + 1 by omega, List.take_succ_eq_append_getElem (by simpa using h'), List.take_set, List.getElem_set_self, List.set_eq_of_length_le (by simp; omega), List.drop_set_of_lt (by omega)]
    simp [Nat.add_comm, Nat.add_left_comm]

theorem fill_rel {w : World} {I : Nat → Prop} (place : Nat → Option (Nat × Nat)) : ∀ (ps : List (Nat × FV)) (vs : List (Nat × Value)) (A : Array Value) (cs cs' : List FV), RdL w I A.toList cs → vs.length = ps.length →
    (∀ (j : Nat) v p, vs[j]? = some v → ps[j]? = some p → v.1 = p.1 ∧ Rd w I v.2 p.2) → ffill place cs ps = some cs' → ∃ A', Instr.fill place A vs = some A' ∧ RdL w I A'.toList cs'
  | [], [], A, cs, cs', hA, _, _, h => by
    simp only [ffill, Option.some.injEq] at h
    subst h
    exact ⟨A, rfl, hA⟩
  | [], _ :: _, _, _, _, _, hl, _, _ => by simp at hl
  | _ :: _, [], _, _, _, _, hl, _, _ => by simp at hl
  | (i, f) :: ps, (i', v) :: vs, A, cs, cs', hA, hl, hp, h => by
    obtain ⟨e1, e2⟩ := hp 0 _ _ rfl rfl
    dsimp only at e1 e2
    subst e1
    unfold ffill at h
    cases hpl : place i' with
    | none => rw [hpl] at h; cases h
    | some q =>
      obtain ⟨off, size⟩ := q
      rw [hpl] at h
      dsimp only at h
      split at h
      · rename_i hc
        obtain ⟨c1, c2, c3⟩ := hc
        obtain ⟨k1, k2⟩ := e2.cells c1
        have hvs : v.cells.size = size := by have := k1.1; rw [c2] at this; simpa using this
        have hAs : A.size = cs.length := by have := hA.1; simpa using this
        have hz : A.size = A.toList.length := by simp
        have hfold : (v.cells.zipIdx.foldl (fun cs (c, j) => cs.setIfInBounds (off + j) c) A).toList = splice A.toList off v.cells.toList := by
          have := foldl_set v.cells.toList 0 off A (by simp; omega)
          rw [← Array.foldl_toList]
          simpa using this
        obtain ⟨A', r1, r2⟩ := fill_rel place ps vs _ _ _ (by rw [hfold]; exact hA.splice k1 off) (by simpa using hl) (fun j v p hv hq => hp (j + 1) v p hv hq) h
        refine ⟨A', ?_, r2⟩
        unfold Instr.fill
        simp only [hpl]
        rw [if_neg (by simp [hvs]; omega)]
        exact r1
      · cases h

/-- the operands of a literal's parts -/
def FS.parts (s : FS) (ps : Array (Nat × Operand)) : List (Nat × FV) := ps.toList.map fun p => (p.1, s.ev p.2)

theorem FR.parts (h : FR c.N w0 J s a w β) (ps : Array (Nat × Operand)) {place : Nat → Option (Nat × Nat)} {cs cs' : List FV} {A : Array Value} (hA : RdL w (Imm J w β s) A.toList cs) (hf : ffill place cs (s.parts ps) = some cs') :
    ∃ A', Instr.fill place A (ps.map fun (i, x) => (i, a.eval x)).toList = some A' ∧ RdL w (Imm J w β s) A'.toList cs' := by
  have hone : ∀ (l : List (Nat × FV)) (cs cs' : List FV), ffill place cs l = some cs' → ∀ p ∈ l, p.2.hand = none := by
    intro l
    induction l with
    | nil => intro _ _ _ p hp; simp at hp
    | cons q l ih =>
      intro cs cs' hq p hp
      obtain ⟨i, f⟩ := q
      unfold ffill at hq
      cases hpl : place i with
      | none => rw [hpl] at hq; cases hq
      | some z =>
        rw [hpl] at hq
        dsimp only at hq
        split at hq
        · rename_i hc
          rcases List.mem_cons.1 hp with e | e
          · subst e; exact Rd.nohand hc.1
          · exact ih _ _ hq p e
        · cases hq
  refine fill_rel place (s.parts ps) _ A cs cs' hA (by simp [FS.parts]) (fun j v p hv hp => ?_) hf
  have hpm := List.mem_of_getElem? hp
  simp only [FS.parts, List.getElem?_map, Option.map_eq_some_iff] at hp
  obtain ⟨q, hq, rfl⟩ := hp
  have hv' : (ps.toList.map fun p => (p.1, a.eval p.2))[j]? = some v := by simpa using hv
  simp only [List.getElem?_map, hq, Option.map_some, Option.some.injEq] at hv'
  subst hv'
  exact ⟨rfl, h.ev_rd rfl (hone _ _ _ hf _ hpm)⟩

theorem good_build (h : FR c.N w0 J s a w β) {dst : Option Nat} {T : Nat} {fs : List (Nat × Nat)} (hT : (c.ty T).k = .strct fs) (hfs : ∀ p ∈ fs, (c.ty p.2).k ≠ .other) (ps : Array (Nat × Operand)) {cs : List FV}
    (hf : ffill (fun i => (fs[i]?).map fun p => (p.1, (c.ty p.2).size)) (c.ty T).zero (s.parts ps) = some cs) : Good c w0 J s a ⟨dst, .build T ps, ty, pos, after, g⟩ w (.agg cs) [] := by
  obtain ⟨d, i, z, ht⟩ := c.get hT (by simp)
  have hd := ht.k
  rw [hT] at hd
  obtain ⟨gs, rfl, hgs, _⟩ := kind_strct hd
  obtain ⟨A', h1, h2⟩ := h.parts ps (A := z.cells) (RdL.zeros ht.zr) hf
  have hp : gs.toList.mapM (fun f => (c.P.info? f.type).map fun i => (f.offset, i.size)) = some (gs.toList.map fun f => (f.offset, (c.ty f.type).size)) := by
    have key : ∀ (l : List Field), (∀ f ∈ l, (c.ty f.type).k ≠ .other) → l.mapM (fun f => (c.P.info? f.type).map fun i => (f.offset, i.size)) = some (l.map fun f => (f.offset, (c.ty f.type).size)) := by
      intro l
      induction l with
      | nil => intro _; rfl
      | cons f l ih =>
        intro hl
        obtain ⟨d', i', z', ht'⟩ := c.get rfl (hl f (by simp))
        simp only [List.mapM_cons, ht'.info, Option.map_some, Option.bind_eq_bind, Option.bind_some, ih (fun f hf => hl f (by simp [hf])), Option.pure_def, ht'.size, List.map_cons]
    refine key _ (fun f hf => hfs (f.offset, f.type) ?_)
    rw [hgs]
    exact List.mem_map.2 ⟨f, hf, rfl⟩
  have hb : c.P.built T (ps.map fun (i, x) => (i, a.eval x)).toList = some A' := by
    unfold Program.built
    simp only [ht.info, ht.u, ht.zo, hp]
    rw [← h1]
    congr 1
    funext i
    rw [hgs]
    simp [Function.comp_def]
  refine .rd h (v := .agg A') (by simp only [execOp, Sem.run_bind, run_build w T _ A' hb, Result.andThen_ok, Sem.run_pure]) ?_ rfl
  have := Rd.agg (w := w) (I := Imm J w β s) A'.toList cs h2.1 h2.2
  simpa using this

theorem good_buildA (h : FR c.N w0 J s a w β) {dst : Option Nat} {T n e : Nat} (hT : (c.ty T).k = .arr n e) (he : (c.ty e).k ≠ .other) (ps : Array (Nat × Operand)) {cs : List FV}
    (hf : ffill (fun i => some (i * (c.ty e).size, (c.ty e).size)) (c.ty T).zero (s.parts ps) = some cs) : Good c w0 J s a ⟨dst, .build T ps, ty, pos, after, g⟩ w (.agg cs) [] := by
  obtain ⟨d, i, z, ht⟩ := c.get hT (by simp)
  have hd := ht.k
  rw [hT] at hd
  obtain rfl := kind_arr hd
  obtain ⟨A', h1, h2⟩ := h.parts ps (A := z.cells) (RdL.zeros ht.zr) hf
  obtain ⟨d', i', z', ht'⟩ := c.get rfl he
  have hb : c.P.built T (ps.map fun (i, x) => (i, a.eval x)).toList = some A' := by
    unfold Program.built
    simp only [ht.info, ht.u, ht.zo, ht'.info, ht'.size]
    exact h1
  refine .rd h (v := .agg A') (by simp only [execOp, Sem.run_bind, run_build w T _ A' hb, Result.andThen_ok, Sem.run_pure]) ?_ rfl
  have := Rd.agg (w := w) (I := Imm J w β s) A'.toList cs h2.1 h2.2
  simpa using this

theorem RdL.undefs {w : World} {I : Nat → Prop} (us : List Value) : RdL w I us (List.replicate us.length .undef) := by
  refine ⟨by simp, fun j u f hu hf => ?_⟩
  rw [List.getElem?_replicate] at hf
  split at hf
  · injection hf with hf; subst hf; exact .undef u
  · cases hf

/-- the slice of a new row -/
theorem good_newSlice (h : FR c.N w0 J s a w β) {o : Oper} (d E sz : Nat) (es : List (List FV)) (cur : Array Value) (hw : ∀ e ∈ es, e.length = sz) (ho : ∀ f ∈ es.flatten, f.one = true) (hr : RdL w (Imm J w β s) cur.toList es.flatten) (hm : es.length ≤ maxLen)
    (hrun : (execOp a.eval o).run c.P w = .ok (.value (.slice (some ⟨w.heap.size, 0, none⟩) es.length es.length)) (w.alloc (.cells cur E))) :
    Good c w0 J s a o w (.own d ((s.ob d).ver + 1) 0 es.length) [(d, ⟨(s.ob d).ver + 1, .own, E, sz, es⟩)] := by
  obtain ⟨h1, h2⟩ := h.newRow d E sz es cur hw ho hr hm
  refine ⟨_, _, _, hrun, h1, fun _ _ => ?_, fun id ver e => ?_⟩
  · show OwnV _ (updB β d (some w.heap.size) d) (FS.ob (FS.set s d _) d) _ _ _
    rw [updB_same, FS.ob_set, if_pos rfl]
    exact OwnV.of_row h2 rfl rfl rfl rfl
  · simp only [FV.hand, Option.some.injEq, Prod.mk.injEq] at e
    obtain ⟨rfl, rfl⟩ := e
    show _ ≤ (FS.ob (FS.set s d _) d).ver
    rw [FS.ob_set, if_pos rfl]
    exact Nat.le_refl _

theorem good_buildSlice (h : FR c.N w0 J s a w β) (d : Nat) {T e n : Nat} (hT : (c.ty T).k = .slice e) (he : (c.ty e).k ≠ .other) (ps : Array (Nat × Operand)) (es : List (List FV)) (hn : es.length = n) (hw : ∀ x ∈ es, x.length = (c.ty e).size) (ho : ∀ f ∈ es.flatten, f.one = true)
    (hcap : n * (c.ty e).size ≤ 16777216) (hnm : n ≤ 16777216)
    (hf : ffill (fun i => some (i * (c.ty e).size, (c.ty e).size)) (List.replicate (n * (c.ty e).size) .undef) (s.parts ps) = some es.flatten) :
    Good c w0 J s a ⟨some d, .buildSlice T n ps, ty, pos, after, g⟩ w (.own d ((s.ob d).ver + 1) 0 n) [(d, ⟨(s.ob d).ver + 1, .own, e, (c.ty e).size, es⟩)] := by
  obtain ⟨dd, i, z, ht⟩ := c.get hT (by simp)
  have hd := ht.k
  rw [hT] at hd
  obtain rfl := kind_slice hd
  have hs := run_sizeOf (c := c) he w
  obtain ⟨zz, hz, _, _⟩ := run_zeroValue he w
  obtain ⟨A0, hA0⟩ : ∃ A0 : Array Value, (if n * (c.ty e).size = 0 then (Array.range (n * (c.ty e).size)).map (fun x => (#[] : Array Value)[x % (#[] : Array Value).size]!) else (Array.range (n * (c.ty e).size)).map (fun x => zz.cells[x % zz.cells.size]!)) = A0 := ⟨_, rfl⟩
  have hsz : A0.size = n * (c.ty e).size := by rw [← hA0]; split <;> simp
  have hu := RdL.undefs (w := w) (I := Imm J w β s) A0.toList
  rw [Array.length_toList, hsz] at hu
  obtain ⟨A', h1, h2⟩ := h.parts ps hu hf
  subst hn
  refine good_newSlice h d e (c.ty e).size es A' hw ho h2 (by unfold maxLen; omega) ?_
  have hcap' : ¬ (16777216 < es.length * (c.ty e).size) := by omega
  by_cases h0 : es.length * (c.ty e).size = 0
  · rw [if_pos h0] at hA0
    simp [execOp, Instr.buildSlice, run_underlying ht.u, hs, h0, newRow] at hA0 h1 ⊢
    rw [hA0, h1]
    simp
  · rw [if_neg h0] at hA0
    simp [execOp, Instr.buildSlice, run_underlying ht.u, hs, hcap', h0, hz, newRow, hA0] at h1 ⊢
    rw [h1]
    simp

theorem flat_take {α : Type} {sz : Nat} : ∀ (es : List (List α)), (∀ e ∈ es, e.length = sz) → ∀ k, (es.take k).flatten = es.flatten.take (k * sz)
  | [], _, k => by simp
  | e :: es, he, 0 => by simp
  | e :: es, he, k + 1 => by
    have h1 := he e (by simp)
    rw [List.take_succ_cons, List.flatten_cons, List.flatten_cons, flat_take es (fun x hx => he x (by simp [hx])) k, Nat.add_mul, Nat.one_mul, Nat.add_comm, ← h1, List.take_length_add_append]
theorem flat_dropE {α : Type} {sz : Nat} : ∀ (es : List (List α)), (∀ e ∈ es, e.length = sz) → ∀ k, (es.drop k).flatten = es.flatten.drop (k * sz)
  | [], _, k => by simp
  | e :: es, he, 0 => by simp
  | e :: es, he, k + 1 => by
    have h1 := he e (by simp)
    rw [List.drop_succ_cons, List.flatten_cons, flat_dropE es (fun x hx => he x (by simp [hx])) k, Nat.add_mul, Nat.one_mul, Nat.add_comm, ← h1, List.drop_length_add_append]

theorem good_makeSlice (h : FR c.N w0 J s a w β) (d : Nat) {T e n : Nat} (hT : (c.ty T).k = .slice e) (he : (c.ty e).k ≠ .other) (x y : Operand) {k1 k2 : IntKind} (ex : s.ev x = .int k1 n) (ey : s.ev y = .int k2 n) (ho : (c.ty e).zero.all FV.one = true)
    (hb : (c.ty e).bytes * n ≤ 281474976710656) (hn : n ≤ 281474976710656) :
    Good c w0 J s a ⟨some d, .makeSlice T x y, ty, pos, after, g⟩ w (.own d ((s.ob d).ver + 1) 0 n) [(d, ⟨(s.ob d).ver + 1, .own, e, (c.ty e).size, List.replicate n (c.ty e).zero⟩)] := by
  obtain ⟨dd, i, z, ht⟩ := c.get hT (by simp)
  have hd := ht.k
  rw [hT] at hd
  obtain rfl := kind_slice hd
  obtain ⟨d', i', z', ht'⟩ := c.get rfl he
  have hbi : (i'.bytes : Int) * (n : Int) ≤ 281474976710656 := by
    have : ((i'.bytes * n : Nat) : Int) ≤ 281474976710656 := by rw [ht'.bytes]; omega
    rwa [Int.natCast_mul] at this
  have hr := run_make (P := c.P) w T e i' z' ht.u ht'.info ht'.zo k1 k2 n n (by omega) (Int.le_refl _) hbi (by omega)
  simp only [Int.toNat_natCast] at hr
  have hzl := (RdL.zeros (w := w) (I := Imm J w β s) ht'.zr)
  have hzn : z'.cells.size = (c.ty e).size := by have := hzl.1; rw [ht'.zl] at this; simpa using this
  have hlen : (List.replicate n (c.ty e).zero).length = n := by simp
  have hg := good_newSlice h (o := ⟨some d, .makeSlice T x y, ty, pos, after, g⟩) d e (c.ty e).size (List.replicate n (c.ty e).zero) (madeCells z'.cells (n * i'.size)) (fun x hx => by rw [List.eq_of_mem_replicate hx, ht'.zl]) (fun f hf => by
      obtain ⟨q, hq, hfq⟩ := List.mem_flatten.1 hf
      rw [List.eq_of_mem_replicate hq] at hfq
      exact List.all_eq_true.1 ho f hfq) ⟨?_, ?_⟩ (by rw [hlen]; unfold maxLen; omega) (by
        rw [hlen]
        simp only [execOp, h.ev_int ex, h.ev_int ey, Sem.run_bind, hr, Result.andThen_ok, Sem.run_pure])
  · rwa [hlen] at hg
  · rw [flat_length (sz := (c.ty e).size) (fun x hx => by rw [List.eq_of_mem_replicate hx, ht'.zl]), hlen]
    simp [madeCells, ht'.size]
  · intro j u f hu hf
    rw [ht'.size] at hu
    have hj : j < n * (c.ty e).size := by
      have := (List.getElem?_eq_some_iff.1 hu).1
      simpa [madeCells] using this
    have hs0 : 0 < (c.ty e).size := by
      rcases Nat.eq_zero_or_pos (c.ty e).size with h0 | h0
      · rw [h0] at hj; simp at hj
      · exact h0
    have hmod := Nat.mod_lt j hs0
    have hu' : z'.cells.toList[j % (c.ty e).size]? = some u := by
      have e1 : (madeCells z'.cells (n * (c.ty e).size)).toList[j]? = some (z'.cells[j % z'.cells.size]!) := by
        simp [madeCells, hj]
      rw [e1] at hu
      injection hu with hu
      rw [hzn] at hu
      rw [← hu]
      have hlt : j % (c.ty e).size < z'.cells.size := by omega
      simp [hlt]
    have hf' : (c.ty e).zero[j % (c.ty e).size]? = some f := by
      have key : ∀ (m q r : Nat), r < (c.ty e).size → q < m → (List.replicate m (c.ty e).zero).flatten[q * (c.ty e).size + r]? = (c.ty e).zero[r]? := by
        intro m q r hr hq
        have hw : ∀ x ∈ List.replicate m (c.ty e).zero, x.length = (c.ty e).size := fun x hx => by rw [List.eq_of_mem_replicate hx, ht'.zl]
        have := flat_drop _ hw q r (by simpa using hq) (by omega)
        have h2 : ((List.replicate m (c.ty e).zero).flatten.drop (q * (c.ty e).size + r))[0]? = (c.ty e).zero[r]? := by
          rw [this, List.getD_eq_getElem?_getD, List.getElem?_replicate, if_pos hq, Option.getD_some, List.getElem?_append_left (by rw [List.length_drop, ht'.zl]; omega), List.getElem?_drop, Nat.add_zero]
        rwa [List.getElem?_drop, Nat.add_zero] at h2
      have hdm := Nat.div_add_mod j (c.ty e).size
      rw [Nat.mul_comm] at hdm
      rw [← key n (j / (c.ty e).size) (j % (c.ty e).size) hmod (by rw [Nat.div_lt_iff_lt_mul hs0]; exact hj), hdm]
      exact hf
    exact hzl.2 _ u f hu' hf'

/-- the bounds that a slicing names -/
def LoOk (a : Act) : Option Operand → Nat → Prop
  | none, l => l = 0
  | some y, l => ∃ k, a.eval y = .int k (l : Nat)
def HiOk (a : Act) : Option Operand → Nat → Nat → Prop
  | none, m, u => u = m
  | some y, _, u => ∃ k, a.eval y = .int k (u : Nat)
theorem run_slice {dst : Option Nat} {T e : Nat} (hT : (c.ty T).k = .slice e) (he : (c.ty e).k ≠ .other) (x : Operand) (lo hi : Option Operand) {A : Option Addr} {m cc l u : Nat} (ex : a.eval x = .slice A m cc)
    (hlo : LoOk a lo l) (hhi : HiOk a hi m u) (h1 : l ≤ u) (h2 : u ≤ cc) :
    (execOp a.eval ⟨dst, .slice T x lo hi none, ty, pos, after, g⟩).run c.P w = .ok (.value (.slice (if cc = l then A else A.map (·.add (l * (c.ty e).size))) (u - l) (cc - l))) w := by
  obtain ⟨dd, i, z, ht⟩ := c.get hT (by simp)
  have hd := ht.k
  rw [hT] at hd
  obtain rfl := kind_slice hd
  have hs := run_sizeOf (c := c) he w
  cases lo with
  | none =>
    change l = 0 at hlo
    subst hlo
    cases hi with
    | none =>
      change u = m at hhi
      subst hhi
      simp [execOp, Instr.sliceAt, Instr.slice, Instr.sliceBounds, run_underlying ht.u, ex, hs]
    | some y =>
      obtain ⟨k, hk⟩ := hhi
      simp [execOp, Instr.sliceAt, Instr.slice, Instr.sliceBounds, Instr.sliceBound, asIntOf, run_underlying ht.u, ex, hs, hk, h2]
  | some z =>
    obtain ⟨k', hk'⟩ := hlo
    cases hi with
    | none =>
      change u = m at hhi
      subst hhi
      simp [execOp, Instr.sliceAt, Instr.slice, Instr.sliceBounds, Instr.sliceBound, asIntOf, run_underlying ht.u, ex, hs, hk', h1]
    | some y =>
      obtain ⟨k, hk⟩ := hhi
      simp [execOp, Instr.sliceAt, Instr.slice, Instr.sliceBounds, Instr.sliceBound, asIntOf, run_underlying ht.u, ex, hs, hk, hk', h1, h2]
end
end Go.Proofs.Ythijndjgchbeoaa
