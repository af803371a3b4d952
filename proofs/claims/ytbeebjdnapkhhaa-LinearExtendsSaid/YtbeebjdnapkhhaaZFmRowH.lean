/-
  Rows whose cells may hold handles, with more cells than one; literals that hold handles. (RunN alone: regions in the text's order.)
-/
import Derived.Test.YtbeebjdnapkhhaaZV
namespace Go.Proofs.Ytbeebjdnapkhhaa
set_option linter.unusedVariables false
open Go.RowKit

theorem VV {α : Type} {sz : Nat} : ∀ (es : List (List α)), (∀ e ∈ es, e.length = sz) → ∀ (j o : Nat) row f, es[j]? = some row → row[o]? = some f → es.flatten[j * sz + o]? = some f
 | [], _, j, o, row, f, h, _ => by simp at h
 | e :: es, he, 0, o, row, f, h, hf => by
  simp at h; subst h
  have := (List.getElem?_eq_some_iff.1 hf).1
  rw [Nat.zero_mul, Nat.zero_add, List.flatten_cons, List.getElem?_append_left this]; exact hf
 | e :: es, he, j + 1, o, row, f, h, hf => by
  have h1 := he e (by simp)
  have := VV es (fun q hq => he q (by simp [hq])) j o row f (by simpa using h) hf
  rw [List.flatten_cons, List.getElem?_append_right (by rw [h1, Nat.add_mul]; omega), h1, show (j + 1) * sz + o - sz = j * sz + o by rw [Nat.add_mul]; omega]
  exact this
theorem VW {α : Type} {sz : Nat} : ∀ (es : List (List α)), (∀ e ∈ es, e.length = sz) → ∀ (j o : Nat) row f, es[j]? = some row → o < row.length → (es.set j (row.set o f)).flatten = es.flatten.set (j * sz + o) f
 | [], _, j, o, row, f, h, _ => by simp at h
 | e :: es, he, 0, o, row, f, h, ho => by
  simp at h; subst h
  rw [List.set_cons_zero, List.flatten_cons, List.flatten_cons, Nat.zero_mul, Nat.zero_add, List.set_append_left _ _ ho]
 | e :: es, he, j + 1, o, row, f, h, ho => by
  have h1 := he e (by simp)
  have := VW es (fun q hq => he q (by simp [hq])) j o row f (by simpa using h) ho
  rw [List.set_cons_succ, List.flatten_cons, List.flatten_cons, this, List.set_append_right _ _ (by rw [h1, Nat.add_mul]; omega), h1, show (j + 1) * sz + o - sz = j * sz + o by rw [Nat.add_mul]; omega]
theorem FR.makeG {N : Nat} {w0 w w' : World} {J : JJ} {s : FSt} {a : Act} {β : Nat → Option Nat} (h : FR N w0 J s a w β) (i : Option Nat) (j : Nat) {nb : zp} {v : Value}
  (hi : ∀ k, i = some k → (s.ob k).life.mine = true) (hg : w.grownBy w' (i.bind β)) (hb : (v.ownBlock = i.bind β) ∨ v.ownBlock = none ∨ ∃ b, v.ownBlock = some b ∧ w.heap.size ≤ b) (hnbv : nb.ver = (s.ob j).ver + 1) {s' : FSt}
  (hs : ∀ k, s'.ob k = if j = k then nb else if i = some k then { s.ob k with life := .dead } else s.ob k) (hst : ∀ k, s'.get k = s.get k)
  (hnew : (∀ b, Imm J w β s b → Imm J w' (Zw β j v.ownBlock) s' b ∧ w'.heap[b]? = w.heap[b]?) → (∀ v1 f, VR w (Imm J w β s) β s v1 f → (∀ id ver, (id, ver) ∈ f.hands → ver ≤ (s.ob id).ver) → VR w' (Imm J w' (Zw β j v.ownBlock) s') (Zw β j v.ownBlock) s' v1 f) → ObR w' w0.heap.size (Imm J w' (Zw β j v.ownBlock) s') (Zw β j v.ownBlock) s' v.ownBlock nb) :
  FR N w0 J s' a w' (Zw β j v.ownBlock) := by
 have hlow : ∀ k, i.bind β = some k → w0.heap.size ≤ k := fun k hk => by
  cases i with
  | none => simp at hk
  | some i => exact ((h.obj i (zU.mine_ne (hi i rfl))).lt (by simpa using hk)).1
 have hne : ∀ b, Imm J w β s b → some b ≠ i.bind β := fun b hbb e => by
  cases i with
  | none => simp at e
  | some i => exact hbb.2.2 i (hi i rfl) (by simpa using e.symm)
 have hI : ∀ b, Imm J w β s b → Imm J w' (Zw β j v.ownBlock) s' b ∧ w'.heap[b]? = w.heap[b]? := fun b hbb => by
  refine ⟨⟨Nat.lt_of_lt_of_le hbb.1 hg.size, hbb.2.1, fun id hl => ?_⟩, hg.block b hbb.1 (hne b hbb)⟩
  rw [hs] at hl
  unfold Zw
  by_cases hj : j = id
  ·rw [if_pos hj.symm]
   rcases hb with e | e | ⟨b', e, hge⟩
   ·rw [e]; exact fun e2 => hne b hbb e2.symm
   ·rw [e]; simp
   ·rw [e]; intro e2; injection e2 with e2; have := hbb.1; omega
  ·rw [if_neg hj] at hl
   rw [if_neg (fun e => hj e.symm)]
   by_cases hii : i = some id
   ·rw [if_pos hii] at hl; cases hl
   ·rw [if_neg hii] at hl; exact hbb.2.2 id hl
 have hblk : ∀ id b, id ≠ j → i ≠ some id → (s.ob id).life ≠ .dead → β id = some b → b < w.heap.size ∧ w'.heap[b]? = w.heap[b]? ∧ v.ownBlock ≠ some b := fun id b hj hii hl hbb => by
  have hlt := ((h.obj id hl).lt hbb).2
  have hnn : some b ≠ i.bind β := fun e => by
   cases i with
   | none => simp at e
   | some i =>
    have := h.inj id i b hl (zU.mine_ne (hi i rfl)) hbb (by simpa using e.symm)
    exact hii (by rw [this])
  refine ⟨hlt, hg.block b hlt hnn, ?_⟩
  rcases hb with e | e | ⟨b', e, hge⟩
  ·rw [e]; exact fun e2 => hnn e2.symm
  ·rw [e]; simp
  ·rw [e]; intro e2; injection e2 with e2; omega
 refine h.step (C := fun id => id = j ∨ i = some id) h.size h.defers (h.bel.grown hg h.bel.size hlow) hI (fun k => .inl ⟨rfl, hst k⟩) (fun id hC => ?_) (fun id hC => ?_) (fun id hC hl hvv => ?_) (fun id hC hl T' => ?_) ?_ ?_
 ·have hj : ¬ id = j := fun e => hC (.inl e)
  have hii : ¬ i = some id := fun e => hC (.inr e)
  refine ⟨by rw [hs, if_neg (fun e => hj e.symm), if_neg hii], by unfold Zw; rw [if_neg hj], fun hl b hbb => (hblk id b hj hii hl hbb).2.1⟩
 ·rw [hs]
  split
  ·rename_i e; subst e; rw [hnbv]; omega
  ·split <;> simp
 ·rw [hs] at hl hvv
  split at hl
  ·rename_i e
   rw [if_pos e] at hvv
   subst e
   rw [hnbv] at hvv; omega
  ·rename_i e
   rcases hC with hC | hC
   ·exact absurd hC.symm e
   ·rw [if_pos hC] at hl; simp at hl
 ·rw [hs] at hl ⊢
  split at hl
  ·rename_i e
   subst e
   rw [if_pos rfl]
   unfold Zw
   rw [if_pos rfl]
   exact hnew hI T'
  ·rename_i e
   rcases hC with hC | hC
   ·exact absurd hC.symm e
   ·rw [if_pos hC] at hl; simp at hl
 ·intro id id' b hl hl' e e'
  unfold Zw at e e'
  rw [hs] at hl hl'
  by_cases hj : id = j
  ·by_cases hj' : id' = j
   ·rw [hj, hj']
   ·rw [if_pos hj] at e
    rw [if_neg hj'] at e'
    rw [if_neg (fun e => hj' e.symm)] at hl'
    by_cases hii : i = some id'
    ·rw [if_pos hii] at hl'; simp at hl'
    ·rw [if_neg hii] at hl'
     exact absurd e (hblk id' b hj' hii hl' e').2.2
  ·rw [if_neg hj] at e
   rw [if_neg (fun e => hj e.symm)] at hl
   have hii : ¬ i = some id := fun hii => by rw [if_pos hii] at hl; simp at hl
   rw [if_neg hii] at hl
   by_cases hj' : id' = j
   ·rw [if_pos hj'] at e'
    exact absurd e' (hblk id b hj hii hl e).2.2
   ·rw [if_neg hj'] at e'
    rw [if_neg (fun e => hj' e.symm)] at hl'
    have hii' : ¬ i = some id' := fun hii => by rw [if_pos hii] at hl'; simp at hl'
    rw [if_neg hii'] at hl'
    exact h.inj id id' b hl hl' e e'
 ·intro b hlt hn
  have hnn : some b ≠ i.bind β := fun e => by
   cases i with
   | none => simp at e
   | some i => exact hn i (zU.mine_ne (hi i rfl)) (by simpa using e.symm)
  refine ⟨hg.block b hlt hnn, fun id hl e => ?_⟩
  unfold Zw at e
  rw [hs] at hl
  by_cases hj : id = j
  ·rw [if_pos hj] at e
   rcases hb with e2 | e2 | ⟨b', e2, hge⟩
   ·rw [e2] at e; exact hnn e.symm
   ·rw [e2] at e; simp at e
   ·rw [e2] at e; injection e with e; omega
  ·rw [if_neg hj] at e
   rw [if_neg (fun e => hj e.symm)] at hl
   have hii : ¬ i = some id := fun hii => by rw [if_pos hii] at hl; simp at hl
   rw [if_neg hii] at hl
   exact hn id hl e

section
variable {c : Ctx} {w0 w : World} {J : JJ} {s : FSt} {a : Act} {β : Nat → Option Nat} {dst : Option Nat} {ty : TypeId} {pos : String} {after : Array Edge} {g : Option (Nat × Bool)}
theorem Ug (h : FR c.N w0 J s a w β) {T : Nat} (hk : (c.ty T).k.agg? = some false) (x : Operand) {id ver j o : Nat} (ex : s.ev x = .ptr id ver j o) (hlf : (s.ob id).life = .hrow) (hver : (s.ob id).ver = ver) {row : List FV} {f : FV} (hj : (s.ob id).es[j]? = some row) (ho : row[o]? = some f) :
  yJ c w0 J s a ⟨dst, .load T x, ty, pos, after, g⟩ w f [] := by
 have hlive : (s.ob id).life ≠ .dead := by rw [hlf]; decide
 obtain ⟨_, b, hb, hv⟩ := h.ev_ptr ex hlive hver
 obtain ⟨cur, cap, hblk, hn, hm, hcs, hl, hr⟩ := h.blockH hlf hb
 have hH := (h.obj id hlive).rowH (by rw [hlf]; rfl) (by rw [hlf]; rfl)
 have hw := hH.wide
 have hjl := (List.getElem?_eq_some_iff.1 hj).1
 have hjf := VV _ hw j o row f hj ho
 obtain ⟨p, hp⟩ : ∃ p, j * (s.ob id).sz + o = p := ⟨_, rfl⟩
 rw [hp] at hjf hv
 have hpf : p < (s.ob id).es.length * (s.ob id).sz := by have := (List.getElem?_eq_some_iff.1 hjf).1; rwa [yx hw] at this
 have hpc : p < cur.size := by
  have : (s.ob id).es.length * (s.ob id).sz ≤ cap * (s.ob id).sz := Nat.mul_le_mul_right _ hn
  omega
 have hu : (cur.toList.take ((s.ob id).es.length * (s.ob id).sz))[p]? = some cur[p] := by
  rw [List.getElem?_take, if_pos hpf]; simp [hpc]
 have hcell : w.cell? ⟨b, p, none⟩ = some cur[p] := by
  have := cell_of_row w b p cur (s.ob id).E (0, 0) hblk
  rw [this]; simp [hpc]
 refine .pure h (v := cur[p]) ?_ (hr p _ f hu hjf) (fun id' ver' e => hH.vers f (List.mem_of_getElem? hjf) id' ver' e)
 have : (loadVar T ⟨b, p, none⟩).run c.P w = .ok cur[p] w := by simp [loadVar, Wq hk, load, Sem.run, hcell]
 simp [execOp, Instr.loadAt, hv, Instr.sureAddr, this]
theorem zcw (h : FR c.N w0 J s a w β) {T : Nat} (hk : (c.ty T).k ≠ .other) (hz : (c.ty T).size = 1) (x y : Operand) {id ver j o : Nat} (ex : s.ev x = .ptr id ver j o) (hlf : (s.ob id).life = .hrow) (hver : (s.ob id).ver = ver) {rw_ : List FV} {f : FV} (ey : s.ev y = f)
  (hf : xM s f) (hj : (s.ob id).es[j]? = some rw_) (ho : o < rw_.length) :
  ∃ w', (execOp a.eval ⟨dst, .store T x y, ty, pos, after, g⟩).run c.P w = .ok .skip w' ∧ FR c.N w0 J (s.wr [(id, { s.ob id with es := (s.ob id).es.set j (rw_.set o f) })]) a w' β := by
 have hlive : (s.ob id).life ≠ .dead := by rw [hlf]; decide
 obtain ⟨_, b, hb, hvx⟩ := h.ev_ptr ex hlive hver
 obtain ⟨cur, cap, hblk, hn, hm, hcs, hl, hr⟩ := h.blockH hlf hb
 have hH := (h.obj id hlive).rowH (by rw [hlf]; rfl) (by rw [hlf]; rfl)
 have hw := hH.wide
 obtain ⟨hc1, hc2⟩ := xM.val h ey hf
 have hvr := h.ev y
 have hvv : ∀ id' ver', (id', ver') ∈ f.hands → ver' ≤ (s.ob id').ver := fun id' ver' e => h.evers y (by rw [ey]; exact e)
 rw [ey] at hvr
 generalize hy : a.eval y = v at hc1 hc2 hvr
 obtain ⟨p, hp⟩ : ∃ p, j * (s.ob id).sz + o = p := ⟨_, rfl⟩
 have hjl := (List.getElem?_eq_some_iff.1 hj).1
 have hrl : rw_.length = (s.ob id).sz := hw _ (List.mem_of_getElem? hj)
 have hpl : p < (s.ob id).es.length * (s.ob id).sz := by
  have : (j + 1) * (s.ob id).sz ≤ (s.ob id).es.length * (s.ob id).sz := Nat.mul_le_mul_right _ hjl
  rw [Nat.add_mul, Nat.one_mul] at this
  omega
 have hpc : p < cur.size := by
  have : (s.ob id).es.length * (s.ob id).sz ≤ cap * (s.ob id).sz := Nat.mul_le_mul_right _ hn
  omega
 rw [hp] at hvx
 have hst := run_storeCells_at c.P b p (s.ob id).E [v] 0 cur w hblk (by simp; omega) (by simpa using hc2)
 simp only [Nat.add_zero] at hst
 have hjc : p < cur.toList.length := by simp; omega
 obtain ⟨W, hW⟩ : ∃ W, W = w.setRow b (splice cur.toList p [v]).toArray := ⟨_, rfl⟩
 have hWb : W.heap[b]? = some (.cells (cur.toList.set p v).toArray (s.ob id).E (0, 0)) := by rw [hW, za5 v hjc]; exact yG w b _ cur _ hblk
 have hg : w.grownBy W (some b) := by
  subst hW
  exact ⟨rfl, rfl, rfl, by simp [World.setRow], fun k hk hne => xk w b k _ (fun e => hne (by rw [e]))⟩
 have hlt := (h.obj id hlive).lt hb
 refine ⟨W, ?_, ?_⟩
 ·have hs := yw (c := c) hk w
  have hst' : (storeCells ⟨b, p, none⟩ [v]).run c.P w = .ok () W := by rw [hW]; exact hst
  simp [execOp, Instr.storeAt, storeVar, hvx, hy, Instr.sureAddr, hs, hz, hc1, hst']
 ·have hob : ∀ k, (s.wr [(id, { s.ob id with es := (s.ob id).es.set j (rw_.set o f) })]).ob k = if id = k then { s.ob id with es := (s.ob id).es.set j (rw_.set o f) } else s.ob k := fun k => FSt.ob_set s id _ k
  have hI : ∀ b', Imm J w β s b' → Imm J W β (s.wr [(id, { s.ob id with es := (s.ob id).es.set j (rw_.set o f) })]) b' ∧ W.heap[b']? = w.heap[b']? := fun b' hbb => by
   refine ⟨⟨Nat.lt_of_lt_of_le hbb.1 hg.size, hbb.2.1, fun id' hl' => ?_⟩, hg.block b' hbb.1 (fun e => hbb.2.2 id (by rw [hlf]; rfl) (by rw [hb]; exact e.symm))⟩
   rw [hob] at hl'
   split at hl'
   ·rename_i e; subst e; exact hbb.2.2 id (by rw [hlf]; rfl)
   ·exact hbb.2.2 id' hl'
  refine h.step (C := fun k => k = id) h.size h.defers (h.bel.grown hg h.bel.size (fun k hk => by injection hk with hk; subst hk; exact hlt.1)) hI (fun k => .inl ⟨rfl, rfl⟩) (fun k hC => ?_) (fun k hC => ?_) (fun k hC hl2 hvv2 => ?_) (fun k hC hl2 T' => ?_) ?_ (fun b' hlt' hn => ⟨hg.block b' hlt' (fun e => hn id hlive (by rw [hb]; exact e.symm)), fun k hl2 => hn k (by rw [hob] at hl2; split at hl2; (· rename_i e; subst e; exact hlive); (· exact hl2))⟩)
  ·refine ⟨by rw [hob, if_neg (fun e => hC e.symm)], rfl, fun hl2 b' hbb => hg.block b' ((h.obj k hl2).lt hbb).2 (fun e => hC (h.inj k id b' hl2 hlive hbb (by rw [hb]; exact e.symm)))⟩
  ·subst hC; rw [hob, if_pos rfl]; exact Nat.le_refl _
  ·subst hC
   refine ⟨hlive, rfl, by rw [hob, if_pos rfl], by rw [hob, if_pos rfl], fun v2 o n hv2 => ?_⟩
   rw [hob, if_pos rfl]
   obtain ⟨A, cc, q1, q2, q3, q4, q5⟩ := hv2.ex
   refine ⟨hv2.row, A, cc, q1, q2, by simpa using q3, q4, fun b2 hbb => ?_⟩
   obtain ⟨o', k1, k2, k3⟩ := q5 b2 hbb
   refine ⟨o', k1, k2, fun cur' hc' => ?_⟩
   rw [hb] at hbb
   injection hbb with hbb
   subst hbb
   dsimp only at hc'
   rw [hWb] at hc'
   injection hc' with hc'
   injection hc' with hc' _ _
   rw [← hc']
   have := k3 cur hblk
   simpa using this
  ·subst hC
   rw [hob, if_pos rfl]
   have hvers : ∀ id', (s.ob id').ver ≤ ((s.wr [(k, { s.ob k with es := (s.ob k).es.set j (rw_.set o f) })]).ob id').ver := fun id' => by
    rw [hob]; split
    ·rename_i e; subst e; exact Nat.le_refl _
    ·exact Nat.le_refl _
   have hfl := VW _ hw j o rw_ f hj ho
   rw [hp] at hfl
   have hfll : (s.ob k).es.flatten.length = (s.ob k).es.length * (s.ob k).sz := yx hw
   refine .ofH ⟨fun e he => ?_, fun f' hf' id' ver' e => ?_, .slice (some ⟨b, 0, none⟩) (s.ob k).es.length cap, (cur.toList.take ((s.ob k).es.length * (s.ob k).sz)).set p v, ?_, by rw [hb]; rfl, ?_, fun i u f' hu hf' => ?_⟩ hlf
   ·rcases List.mem_or_eq_of_mem_set he with h' | h'
    ·exact hw e h'
    ·subst h'; rw [List.length_set]; exact hrl
   ·dsimp only at hf'
    rw [hfl] at hf'
    refine Nat.le_trans ?_ (hvers id')
    rcases List.mem_or_eq_of_mem_set hf' with h' | h'
    ·exact hH.vers f' h' id' ver' e
    ·subst h'; exact hvv id' ver' e
   ·simp only [List.length_set]
    refine ⟨by rw [List.length_set, hl, hfll], .inr ⟨b, cap, _, rfl, hlt.1, hWb, hn, hm, by simpa using hcs, ?_⟩⟩
    simp only [List.take_set]
   ·dsimp only
    rw [List.length_set, hl, hfl, List.length_set]
   ·dsimp only at hf'
    rw [hfl] at hf'
    rw [List.getElem?_set] at hu hf'
    by_cases hij : p = i
    ·subst hij
     rw [if_pos rfl] at hu hf'
     split at hu
     ·split at hf'
      ·injection hu with hu
       injection hf' with hf'
       subst hu
       subst hf'
       exact T' _ _ hvr hvv
      ·cases hf'
     ·cases hu
    ·rw [if_neg hij] at hu hf'
     exact T' _ _ (hr i u f' hu hf') (hH.vers f' (List.mem_of_getElem? hf'))
  ·intro k k' b' hl2 hl2' e e'
   refine h.inj k k' b' ?_ ?_ e e'
   ·rw [hob] at hl2; split at hl2
    ·rename_i e; subst e; exact hlive
    ·exact hl2
   ·rw [hob] at hl2'; split at hl2'
    ·rename_i e; subst e; exact hlive
    ·exact hl2'
theorem xM.one {I : Nat → Prop} {v : Value} {f : FV} (hv : VR w I β s v f) (hf : xM s f) : v.cells = #[v] ∧ v.oneCell' = true := by
 rcases hf with h1 | ⟨id, ver, o, n, rfl, hl⟩ | ⟨id, ver, j, o, rfl, hl⟩ | ⟨k, fs, rfl⟩
 ·have hn : f.hand = none := by cases f <;> first | rfl | (simp [FV.one] at h1)
  have hr := VR.rd hv hn
  cases hr <;> first | exact ⟨rfl, rfl⟩ | (simp [FV.one] at h1)
 ·obtain ⟨A, cc, e, _⟩ := (hv hl.1 hl.2).ex
  rw [e]
  exact ⟨rfl, rfl⟩
 ·obtain ⟨_, b, _, e⟩ := hv hl.1 hl.2
  rw [e]
  exact ⟨rfl, rfl⟩
 ·obtain ⟨us, e, _⟩ := hv
  rw [e]
  exact ⟨rfl, rfl⟩
theorem zdF (h : FR c.N w0 J s a w β) {T a1 a2 : Nat} (hT : (c.ty T).k = .strct [(0, a1), (1, a2)]) (h1 : (c.ty a1).k ≠ .other) (h2 : (c.ty a2).k ≠ .other) (hz1 : (c.ty a1).size = 1) (hz2 : (c.ty a2).size = 1) {z1 z2 f : FV} (hz : (c.ty T).zero = [z1, z2]) (hzn : z1.hand = none) (y : Operand) (ey : s.ev y = f) (hf : xM s f) (hfw : f.notWrap = true) :
  yJ c w0 J s a ⟨dst, .build T #[(1, y)], ty, pos, after, g⟩ w (.wrap .agg [z1, f]) [] := by
 obtain ⟨d, i, z, ht⟩ := c.get hT (by simp)
 have hd := ht.k
 rw [hT] at hd
 obtain ⟨gs, rfl, hgs, _⟩ := ZV hd
 have hfs : ∀ p ∈ [(0, a1), (1, a2)], (c.ty p.2).k ≠ .other := fun p hp => by
  simp at hp; rcases hp with rfl | rfl
  ·exact h1
  ·exact h2
 have hp : gs.toList.mapM (fun f => (c.P.info? f.type).map fun i => (f.offset, i.size)) = some (gs.toList.map fun f => (f.offset, (c.ty f.type).size)) := by
  have key : ∀ (l : List Field), (∀ f ∈ l, (c.ty f.type).k ≠ .other) → l.mapM (fun f => (c.P.info? f.type).map fun i => (f.offset, i.size)) = some (l.map fun f => (f.offset, (c.ty f.type).size)) := by
   intro l
   induction l with
   | nil => intro _; rfl
   | cons f l ih =>
    intro hl
    obtain ⟨d', i', z', ht'⟩ := c.get rfl (hl f (by simp))
    simp only [List.mapM_cons, ht'.info, Option.map_some, Option.bind_eq_bind, Option.bind_some, ih (fun f hf => hl f (by simp [hf])), Option.pure_def, ht'.size, List.map_cons]
  refine key _ (fun f hf => hfs (f.offset, f.type) ?_)
  rw [hgs]
  exact List.mem_map.2 ⟨f, hf, rfl⟩
 have hpl : gs.toList.map (fun f => (f.offset, (c.ty f.type).size)) = [(0, 1), (1, 1)] := by
  have : gs.toList.map (fun f => (f.offset, (c.ty f.type).size)) = (gs.toList.map fun f => (f.offset, f.type)).map fun p => (p.1, (c.ty p.2).size) := by rw [List.map_map]; rfl
  rw [this, ← hgs]
  simp [hz1, hz2]
 have hvr := h.ev y
 rw [ey] at hvr
 obtain ⟨c1, c2⟩ := xM.val h ey hf
 obtain ⟨u1, u2, hzc⟩ : ∃ u1 u2, z.cells.toList = [u1, u2] := by
  have hl := ht.zl
  have hr := (RdL.zeros (w := w) (I := Imm J w β s) ht.zr).1
  rw [hz] at hr
  match z.cells.toList, hr with
  | [u1, u2], _ => exact ⟨u1, u2, rfl⟩
 have hzc' : z.cells = #[u1, u2] := by apply Array.ext'; rw [hzc]
 have hru1 : Rd w (Imm J w β s) u1 z1 := (RdL.zeros (w := w) (I := Imm J w β s) ht.zr).2 0 u1 z1 (by rw [hzc]; rfl) (by rw [hz]; rfl)
 have hb : c.P.built T [(1, a.eval y)] = some #[u1, a.eval y] := by
  unfold Program.built
  simp only [ht.info, ht.u, ht.zo, hp, hpl]
  simp [Instr.fill, c1, hzc']
 refine .pure h (v := .agg #[u1, a.eval y]) ?_ ⟨[u1, a.eval y], rfl, rfl, fun j u q hu hq => ?_⟩ fun id ver hm => ?_
 ·have := run_build (P := c.P) w T #[(1, a.eval y)] #[u1, a.eval y] (by simpa using hb)
  simp only [execOp, Sem.run_bind]
  simp [this]
 ·match j with
  | 0 => injection hu with hu; injection hq with hq; subst hu; subst hq; exact (VR.of_rd hru1 hzn).to1 (fun k fs e => by subst e; cases hru1)
  | 1 => injection hu with hu; injection hq with hq; subst hu; subst hq; exact hvr.to1 (fun k fs e => by subst e; cases hfw)
  | j + 2 => simp at hu
 ·obtain ⟨q, hq, e⟩ := WE hm
  rcases List.mem_cons.1 hq with rfl | hq
  ·rw [hzn] at e; cases e
  ·rw [List.mem_singleton.1 hq] at e
   exact h.evers y (by rw [ey]; exact FV.hand_hands (fun k fs e' => by rw [e'] at hfw; cases hfw) e)
theorem zcp (h : FR c.N w0 J s a w β) (d : Nat) {T e : Nat} (hT : (c.ty T).k = .slice e) (he : (c.ty e).k ≠ .other) (x : Operand) {fs : List FV} (ex : s.ev x = .wrap .agg fs) (hfl : fs.length = (c.ty e).size) (hpos : 0 < (c.ty e).size) (hcap : (c.ty e).size ≤ 16777216) (hcel : ∀ f ∈ fs, xM s f) :
  yJ c w0 J s a ⟨some d, .buildSlice T 1 #[(0, x)], ty, pos, after, g⟩ w (.own d ((s.ob d).ver + 1) 0 1) [(d, ⟨(s.ob d).ver + 1, .hrow, e, (c.ty e).size, [fs]⟩)] := by
 obtain ⟨dd, i, z, ht⟩ := c.get hT (by simp)
 have hd := ht.k
 rw [hT] at hd
 obtain rfl := yd hd
 obtain ⟨d', i', z', ht'⟩ := c.get rfl he
 obtain ⟨us, hv, hur⟩ := h.wraps ex
 have hus : us.length = (c.ty e).size := hur.len.trans hfl
 have hgr := World.grownBy_alloc w (.cells us.toArray e) none
 have hs := yw (c := c) he w
 obtain ⟨zz, hz, _, _⟩ := xa he w
 obtain ⟨A0, hA0⟩ : ∃ A0 : Array Value, (Array.range (1 * (c.ty e).size)).map (fun x => zz.cells[x % zz.cells.size]!) = A0 := ⟨_, rfl⟩
 have hsz : A0.size = (c.ty e).size := by rw [← hA0]; simp
 have hfill : Instr.fill (fun i => some (i * (c.ty e).size, (c.ty e).size)) A0 [(0, a.eval x)] = some us.toArray := by
  have hc : (a.eval x).cells = us.toArray := by rw [hv]; rfl
  have hf2 := VY us 0 0 A0 (by omega)
  simp only [Instr.fill, hc, Nat.zero_mul]
  rw [if_neg (by simp [hus, hsz])]
  refine congrArg some ?_
  apply Array.ext'
  rw [← Array.foldl_toList]
  rw [show us.toArray.zipIdx.toList = us.zipIdx 0 by simp]
  refine hf2.trans ?_
  unfold splice
  rw [Nat.zero_add, List.take_zero, List.nil_append, List.drop_of_length_le (by simp; omega), List.append_nil]
 have hrun : (execOp a.eval ⟨some d, .buildSlice T 1 #[(0, x)], ty, pos, after, g⟩).run c.P w = .ok (.value (.slice (some ⟨w.heap.size, 0, none⟩) 1 1)) (w.alloc (.cells us.toArray e)) := by
  have hcap' : ¬ (16777216 < 1 * (c.ty e).size) := by omega
  have h0 : ¬ (1 * (c.ty e).size = 0) := by omega
  have h0' : ¬ ((c.ty e).size = 0) := by omega
  have hcap2 : ¬ (16777216 < (c.ty e).size) := by omega
  rw [Nat.one_mul] at hA0
  simp [execOp, Instr.buildSlice, run_underlying ht.u, hs, hcap2, h0', hz, newRow, hA0, hfill]
 have hrow : (w.alloc (.cells us.toArray e)).ownsRow w0.heap.size e (c.ty e).size (.slice (some ⟨w.heap.size, 0, none⟩) 1 1) 1 us :=
  ⟨by omega, .inr ⟨w.heap.size, 1, us.toArray, rfl, h.bel.size, heap_alloc_new w _, Nat.le_refl _, by unfold maxLen; omega, by simp [hus], by rw [List.take_of_length_le (by simp; omega)]⟩⟩
 have hF := h.makeG none d (nb := ⟨(s.ob d).ver + 1, .hrow, e, (c.ty e).size, [fs]⟩) (v := .slice (some ⟨w.heap.size, 0, none⟩) 1 1) (s' := s.set d ⟨(s.ob d).ver + 1, .hrow, e, (c.ty e).size, [fs]⟩) (fun k e => by cases e) hgr (.inr (.inr ⟨_, rfl, Nat.le_refl _⟩)) rfl
  (fun k => by rw [FSt.ob_set]; simp) (fun k => rfl) (fun hI T' => by
   refine .ofH ⟨fun q hq => by rw [List.mem_singleton.1 hq]; exact hfl, fun q hq id ver hm => ?_, _, us, hrow, rfl, by simp [hur.len], fun j u q hu hq => ?_⟩ rfl
   ·have hq : q ∈ fs := by simpa using hq
    obtain ⟨j, hj, rfl⟩ := List.getElem_of_mem hq
    have hju : j < us.length := by have := hur.len; omega
    have := (hur.get j us[j] fs[j] (by simp [hju]) (by simp [hj])).2 id ver hm
    rw [FSt.ob_set]
    split
    ·rename_i e; subst e; exact Nat.le_succ_of_le this
    ·exact this
   ·have hq : fs[j]? = some q := by simpa using hq
    obtain ⟨k1, k2⟩ := hur.get j u q hu hq
    exact T' u q k1 k2)
 refine ⟨_, _, _, hrun, hF, fun _ _ => ?_, fun id ver e => ?_⟩
 ·show Xp _ (Zw β d _ d) (FSt.ob (FSt.set s d _) d) _ _ _
  rw [yc, FSt.ob_set, if_pos rfl]
  exact Xp.of_row hrow rfl rfl rfl rfl
 ·simp only [FV.hands, List.mem_singleton, Prod.mk.injEq] at e
  obtain ⟨rfl, rfl⟩ := e
  show _ ≤ (FSt.ob (FSt.set s _ _) _).ver
  rw [FSt.ob_set, if_pos rfl]
  exact Nat.le_refl _
theorem ze8 (h : FR c.N w0 J s a w β) (d : Nat) {T e : Nat} (hT : (c.ty T).k = .slice e) (he : (c.ty e).k ≠ .other) (hpos : 0 < (c.ty e).size) (x y : Operand) {id ver n id2 ver2 m : Nat} (ex : s.ev x = .own id ver 0 n) (hl1 : (s.ob id).life = .hrow) (hv1 : (s.ob id).ver = ver)
  (hE1 : (s.ob id).E = e) (hz1 : (s.ob id).sz = (c.ty e).size) (hn : n = (s.ob id).es.length) (ey : s.ev y = .own id2 ver2 0 m) (hl2 : (s.ob id2).life = .hrow) (hv2 : (s.ob id2).ver = ver2) (hz2 : (s.ob id2).sz = (c.ty e).size) (hm : m = (s.ob id2).es.length) (hm0 : 0 < m)
  (hcel : ∀ f ∈ (s.ob id2).es.flatten, xM s f) (hb : (n + m) * (c.ty e).bytes ≤ 140737488355328) (hmx : n + m ≤ 140737488355328) :
  yJ c w0 J s a ⟨some d, .call { callee := .builtin .append, args := #[x, y], argTypes := #[T, T] }, ty, pos, after, g⟩ w (.own d ((s.ob d).ver + 1) 0 (n + m)) [(id, { s.ob id with life := .dead }), (d, ⟨(s.ob d).ver + 1, .hrow, e, (c.ty e).size, (s.ob id).es ++ (s.ob id2).es⟩)] := by
 obtain ⟨dd, ii, z, ht⟩ := c.get hT (by simp)
 have hd := ht.k
 rw [hT] at hd
 obtain rfl := yd hd
 obtain ⟨d', i', z', ht'⟩ := c.get rfl he
 have hzs : z'.cells.size = (c.ty e).size := by
  have := (RdL.zeros (w := w) (I := Imm J w β s) ht'.zr).1
  rw [ht'.zl] at this; simpa using this
 have hlive1 : (s.ob id).life ≠ .dead := by rw [hl1]; decide
 have hlive2 : (s.ob id2).life ≠ .dead := by rw [hl2]; decide
 have hH1 := (h.obj id hlive1).rowH (by rw [hl1]; rfl) (by rw [hl1]; rfl)
 have hH2 := (h.obj id2 hlive2).rowH (by rw [hl2]; rfl) (by rw [hl2]; rfl)
 have hw1 := hH1.wide
 have hw2 := hH2.wide
 rw [hz1] at hw1
 rw [hz2] at hw2
 obtain ⟨v1, us1, hx1, hrow1, hblk1, hul1, hur1⟩ : ∃ v1 us1, a.eval x = v1 ∧ w.ownsRow w0.heap.size e (c.ty e).size v1 n us1 ∧ v1.ownBlock = β id ∧ us1.length = (s.ob id).es.flatten.length ∧ ∀ (j : Nat) u f, us1[j]? = some u → (s.ob id).es.flatten[j]? = some f → VR w (Imm J w β s) β s u f := by
  obtain ⟨A, cc, e1, e2, e3, e4, e5⟩ := (h.ev_own ex hlive1 hv1).ex
  obtain ⟨v, us, r1, r2, r3, r4⟩ := hH1.row
  rw [hE1, hz1, ← hn] at r1
  refine ⟨v, us, ?_, r1, r2, r3, r4⟩
  rw [e1]
  rcases r1.2 with ⟨rfl, h0⟩ | ⟨b, cap, cur, rfl, _, hgg, _, _, hcs, _⟩
  ·have hb0 : β id = none := by rw [← r2]; rfl
   obtain ⟨rfl, rfl⟩ := e4 hb0
   rw [h0]
  ·have hb0 : β id = some b := by rw [← r2]; rfl
   obtain ⟨o', rfl, k2, k3⟩ := e5 b hb0
   have := k3 cur (by rw [hE1]; exact hgg)
   rw [hcs, Nat.zero_add, hz1] at this
   have hcc : cap = cc := Nat.eq_of_mul_eq_mul_right hpos this
   rw [k2 (.inr rfl), hcc]
   simp
 obtain ⟨A2, c2, e1, e2, e3, e4, e5⟩ := (h.ev_own ey hlive2 hv2).ex
 obtain ⟨b2, hb2⟩ : ∃ b2, β id2 = some b2 := by
  cases hb2 : β id2 with
  | none => have := (e4 hb2).2; omega
  | some b2 => exact ⟨b2, rfl⟩
 obtain ⟨o', rfl, k2, _⟩ := e5 b2 hb2
 have ho' := k2 (.inr rfl)
 rw [Nat.zero_mul] at ho'
 subst ho'
 obtain ⟨cur, cap, hblk, hcn, hcm, hcs, hcl, hcr⟩ := h.blockH hl2 hb2
 rw [← hm, hz2] at hcl hcr
 obtain ⟨us2, hus2⟩ : ∃ us2, cur.toList.take (m * (c.ty e).size) = us2 := ⟨_, rfl⟩
 rw [hus2] at hcl hcr
 have hlen2 : us2.length = m * (c.ty e).size := by rw [hcl, yx hw2, ← hm]
 have h1u : ∀ u ∈ us2, u.oneCell' = true := by
  intro u hu
  obtain ⟨j, hj, rfl⟩ := List.getElem_of_mem hu
  have hj2 : j < (s.ob id2).es.flatten.length := by rw [← hcl]; exact hj
  exact (xM.one (hcr j us2[j] (s.ob id2).es.flatten[j] (by simp [hj]) (by simp [hj2])) (hcel _ (List.getElem_mem hj2))).2
 have hcell2 : ∀ (j : Nat) u, us2[j]? = some u → w.cell? ((⟨b2, 0, none⟩ : Addr).add j) = some u := fun j u hu => by
  rw [yL, Nat.zero_add, cell_of_row w b2 _ cur _ (0, 0) hblk]
  rw [← hus2, List.getElem?_take] at hu
  split at hu
  ·simpa using hu
  ·cases hu
 obtain ⟨v', w', hrun, hrow', hgr, _, hloc⟩ := run_append_own_at (P := c.P) w w0.heap.size T ty e i' z' (c.ty e).size (c.ty e).bytes ht.u ht'.info ht'.zo ht'.size ht'.bytes hzs hpos v1 n us1 hrow1 ⟨b2, 0, none⟩ m c2 us2 hlen2 hcell2 h1u (by unfold maxLen; omega) hb h.bel.size
 have hexec : (execOp a.eval ⟨some d, .call { callee := .builtin .append, args := #[x, y], argTypes := #[T, T] }, ty, pos, after, g⟩).run c.P w = .ok (.value v') w' := by
  simp [execOp, resolve, invoke, builtin, hx1, e1, hrun]
 have hll : ((s.ob id).es ++ (s.ob id2).es).length = n + m := by rw [List.length_append, ← hn, ← hm]
 have hver : ∀ k, (s.ob k).ver ≤ ((s.wr [(id, { s.ob id with life := .dead }), (d, ⟨(s.ob d).ver + 1, .hrow, e, (c.ty e).size, (s.ob id).es ++ (s.ob id2).es⟩)]).ob k).ver := fun k => by
  rw [zaa]
  split
  ·rename_i e; subst e; exact Nat.le_succ _
  ·split
   ·rename_i e; subst e; exact Nat.le_refl _
   ·exact Nat.le_refl _
 have hob : (s.wr [(id, { s.ob id with life := .dead }), (d, (⟨(s.ob d).ver + 1, .hrow, e, (c.ty e).size, (s.ob id).es ++ (s.ob id2).es⟩ : zp))]).ob d = ⟨(s.ob d).ver + 1, .hrow, e, (c.ty e).size, (s.ob id).es ++ (s.ob id2).es⟩ := by rw [zaa, if_pos rfl]
 have hFR := h.makeG (some id) d (nb := ⟨(s.ob d).ver + 1, .hrow, e, (c.ty e).size, (s.ob id).es ++ (s.ob id2).es⟩) (v := v') (s' := s.wr [(id, { s.ob id with life := .dead }), (d, ⟨(s.ob d).ver + 1, .hrow, e, (c.ty e).size, (s.ob id).es ++ (s.ob id2).es⟩)]) (fun k hk => by injection hk with hk; subst hk; rw [hl1]; rfl)
  (by rw [Option.bind_some, ← hblk1]; exact hgr) (by
   rw [Option.bind_some, ← hblk1]
   rcases hloc with e | e
   ·exact .inl e
   ·exact .inr (.inr ⟨_, e, Nat.le_refl _⟩)) rfl (fun k => by
    rw [zaa]
    split
    ·rfl
    ·by_cases hik : id = k
     ·subst hik; simp
     ·rw [if_neg hik, if_neg (by simpa using hik)]) (fun k => FSt.wr_get _ _ _) (fun hI T' => by
   refine .ofH ⟨fun q hq => ?_, fun q hq k ver hk => ?_, v', us1 ++ us2, by dsimp only; rw [hll]; exact hrow', rfl, by dsimp only; rw [List.flatten_append, List.length_append, List.length_append, hul1, hcl], fun j u f hu hf => ?_⟩ rfl
   ·rcases List.mem_append.1 hq with h' | h'
    ·exact hw1 q h'
    ·exact hw2 q h'
   ·dsimp only at hq
    rw [List.flatten_append] at hq
    refine Nat.le_trans ?_ (hver k)
    rcases List.mem_append.1 hq with h' | h'
    ·exact hH1.vers q h' k ver hk
    ·exact hH2.vers q h' k ver hk
   ·dsimp only at hf
    rw [List.flatten_append] at hf
    rcases Nat.lt_or_ge j us1.length with hj | hj
    ·rw [List.getElem?_append_left hj] at hu
     rw [List.getElem?_append_left (by rw [← hul1]; exact hj)] at hf
     exact T' u f (hur1 j u f hu hf) (hH1.vers f (List.mem_of_getElem? hf))
    ·rw [List.getElem?_append_right hj] at hu
     rw [List.getElem?_append_right (by rw [← hul1]; exact hj), ← hul1] at hf
     exact T' u f (hcr _ u f hu hf) (hH2.vers f (List.mem_of_getElem? hf)))
 refine ⟨v', w', _, hexec, hFR, fun _ _ => ?_, fun k ver e => ?_⟩
 ·rw [hob, yc]
  exact Xp.of_row hrow' hll rfl rfl rfl
 ·simp only [FV.hands, List.mem_singleton, Prod.mk.injEq] at e
  obtain ⟨e1, e2⟩ := e
  replace e1 := e1.symm
  replace e2 := e2.symm
  subst e1
  subst e2
  rw [hob]
  exact Nat.le_refl _
end
section
variable {c : Ctx} {ops : Array Oper} {rest : List Oper} {t : List (Nat × FV)} {ob : List (Nat × zp)} {d : Nat} {ty : TypeId} {pos : String} {af : Array Edge} {gd : Option (Nat × Bool)} {QS : FSt → Prop}
theorem UK {op : Op} {f : FV} {wr : List (Nat × zp)} (hd : Nat.blt d c.N = true) (hw : zK ops ⟨t, ob⟩ (⟨some d, op, ty, pos, af, gd⟩ : Oper) true)
  (hg : ∀ (w0 : World) (J : JJ) (a : Act) (w : World) (β : Nat → Option Nat), FR c.N w0 J ⟨t, ob⟩ a w β → yJ c w0 J ⟨t, ob⟩ a ⟨some d, op, ty, pos, af, gd⟩ w f wr)
  (k : zc c ops rest (((⟨t, ob⟩ : FSt).wr wr).put d f) QS) : zc c ops ((⟨some d, op, ty, pos, af, gd⟩ : Oper) :: rest) ⟨t, ob⟩ QS := fun QQ w0 J a w β hQ hF => by
 unfold wpList
 rw [if_pos (hw.model hF)]
 refine .inl ?_
 exact yJ.wp (hg w0 J a w β hF) (fun d' e => by injection e with e; subst e; exact Nat.le_of_ble_eq_true hd) fun a' w' β' hF' => k QQ w0 J a' w' β' hQ hF'
theorem zc2 {T id ver j o E sz : Nat} {x : Operand} {es : List (List FV)} {row : List FV} {f : FV} (hx : (⟨t, ob⟩ : FSt).ev x = .ptr id ver j o) (hk : (c.ty T).k.agg? = some false) (hb : (⟨t, ob⟩ : FSt).ob id = ⟨ver, .hrow, E, sz, es⟩) (hj : es[j]? = some row) (ho : row[o]? = some f) (hd : Nat.blt d c.N = true) (hw : zK ops ⟨t, ob⟩ (⟨some d, .load T x, ty, pos, af, gd⟩ : Oper) true)
  (k : zc c ops rest ⟨(d, f) :: t, ob⟩ QS) : zc c ops ((⟨some d, .load T x, ty, pos, af, gd⟩ : Oper) :: rest) ⟨t, ob⟩ QS :=
 UK (wr := []) hd hw (fun w0 J a w β hF => Ug hF hk x hx (by rw [hb]) (by rw [hb]) (by rw [hb]; exact hj) ho) k
theorem zfI {T id ver j o E sz : Nat} {x y : Operand} {es : List (List FV)} {row : List FV} {f : FV} (hx : (⟨t, ob⟩ : FSt).ev x = .ptr id ver j o) (hy : (⟨t, ob⟩ : FSt).ev y = f) (hf : xM ⟨t, ob⟩ f) (hk : (c.ty T).k.known = true) (hz : (c.ty T).size = 1) (hb : (⟨t, ob⟩ : FSt).ob id = ⟨ver, .hrow, E, sz, es⟩) (hj : es[j]? = some row) (ho : o < row.length) (hw : zK ops ⟨t, ob⟩ (⟨none, .store T x y, ty, pos, af, gd⟩ : Oper) true)
  (k : zc c ops rest ⟨t, (id, ⟨ver, .hrow, E, sz, es.set j (row.set o f)⟩) :: ob⟩ QS) : zc c ops ((⟨none, .store T x y, ty, pos, af, gd⟩ : Oper) :: rest) ⟨t, ob⟩ QS := fun QQ w0 J a w β hQ hF => by
 unfold wpList
 rw [if_pos (hw.model hF)]
 refine .inl ?_
 obtain ⟨W, h2, h3⟩ := zcw (ty := ty) (pos := pos) (after := af) (g := gd) (dst := none) hF (TK.known_ne hk) hz x y hx (by rw [hb]) (by rw [hb]) hy hf (by rw [hb]; exact hj) ho
 unfold Oper.wp
 rw [h2, Oper.upon_skip]
 rw [hb] at h3
 exact k QQ w0 J _ W β hQ h3
theorem zhi {T a1 a2 by_ : Nat} {y : Operand} {z1 z2 f : FV} (hT : c.ty T = ⟨.strct [(0, a1), (1, a2)], 2, by_, [z1, z2]⟩) (h1 : (c.ty a1).k.known = true) (h2 : (c.ty a2).k.known = true) (hz1 : (c.ty a1).size = 1) (hz2 : (c.ty a2).size = 1) (hzn : z1.hand = none) (hy : (⟨t, ob⟩ : FSt).ev y = f) (hf : xM ⟨t, ob⟩ f) (hfw : f.notWrap = true) (hd : Nat.blt d c.N = true) (hw : zK ops ⟨t, ob⟩ (⟨some d, .build T #[(1, y)], ty, pos, af, gd⟩ : Oper) true)
  (k : zc c ops rest ⟨(d, .wrap .agg [z1, f]) :: t, ob⟩ QS) : zc c ops ((⟨some d, .build T #[(1, y)], ty, pos, af, gd⟩ : Oper) :: rest) ⟨t, ob⟩ QS :=
 UK (wr := []) hd hw (fun w0 J a w β hF => zdF hF (by rw [hT]) (TK.known_ne h1) (TK.known_ne h2) hz1 hz2 (by rw [hT]) hzn y hy hf hfw) k
theorem zfG {T e sz by_ : Nat} {kk : TK} {z : List FV} {x : Operand} {fs : List FV} {v0 E0 sz0 : Nat} {lf0 : zU} {es0 : List (List FV)} (hT : (c.ty T).k = .slice e) (he : c.ty e = ⟨kk, sz, by_, z⟩) (hk : kk.known = true) (hx : (⟨t, ob⟩ : FSt).ev x = .wrap .agg fs) (hl : fs.length = sz) (hp : Nat.blt 0 sz = true) (hm : Nat.ble sz 16777216 = true) (hcel : ∀ f ∈ fs, xM ⟨t, ob⟩ f) (hv : (⟨t, ob⟩ : FSt).ob d = ⟨v0, lf0, E0, sz0, es0⟩) (hd : Nat.blt d c.N = true) (hw : zK ops ⟨t, ob⟩ (⟨some d, .buildSlice T 1 #[(0, x)], ty, pos, af, gd⟩ : Oper) true)
  (k : zc c ops rest ⟨(d, .own d (v0 + 1) 0 1) :: t, (d, ⟨v0 + 1, .hrow, e, sz, [fs]⟩) :: ob⟩ QS) : zc c ops ((⟨some d, .buildSlice T 1 #[(0, x)], ty, pos, af, gd⟩ : Oper) :: rest) ⟨t, ob⟩ QS :=
 UK (wr := [(d, ⟨v0 + 1, .hrow, e, sz, [fs]⟩)]) hd hw (fun w0 J a w β hF => by
  have := zcp (ty := ty) (pos := pos) (after := af) (g := gd) hF d hT (fun e1 => by rw [he] at e1; dsimp only at e1; rw [e1] at hk; cases hk) x hx (by rw [he]; exact hl) (by rw [he]; exact Nat.le_of_ble_eq_true hp) (by rw [he]; exact Nat.le_of_ble_eq_true hm) hcel
  rw [hv, he] at this
  exact this) k
theorem ziC {T e sz by_ id ver n id2 ver2 m : Nat} {kk : TK} {z : List FV} {x y : Operand} {es es2 : List (List FV)} {E2 v0 E0 sz0 : Nat} {lf0 : zU} {es0 : List (List FV)} (hx : (⟨t, ob⟩ : FSt).ev x = .own id ver 0 n) (hb : (⟨t, ob⟩ : FSt).ob id = ⟨ver, .hrow, e, sz, es⟩) (hn : n = es.length) (hT : (c.ty T).k = .slice e) (he : c.ty e = ⟨kk, sz, by_, z⟩) (hk : kk.known = true) (hp : Nat.blt 0 sz = true)
  (hy : (⟨t, ob⟩ : FSt).ev y = .own id2 ver2 0 m) (hb2 : (⟨t, ob⟩ : FSt).ob id2 = ⟨ver2, .hrow, E2, sz, es2⟩) (hm : m = es2.length) (hm0 : 0 < m) (hcel : ∀ f ∈ es2.flatten, xM ⟨t, ob⟩ f) (hbb : (n + m) * by_ ≤ 140737488355328) (hmx : n + m ≤ 140737488355328) (hv : (⟨t, ob⟩ : FSt).ob d = ⟨v0, lf0, E0, sz0, es0⟩) (hd : Nat.blt d c.N = true)
  (hw : zK ops ⟨t, ob⟩ (⟨some d, .call { callee := .builtin .append, args := #[x, y], argTypes := #[T, T] }, ty, pos, af, gd⟩ : Oper) true)
  (k : zc c ops rest ⟨(d, .own d (v0 + 1) 0 (n + m)) :: t, (d, ⟨v0 + 1, .hrow, e, sz, es ++ es2⟩) :: (id, ⟨ver, .dead, e, sz, es⟩) :: ob⟩ QS) : zc c ops ((⟨some d, .call { callee := .builtin .append, args := #[x, y], argTypes := #[T, T] }, ty, pos, af, gd⟩ : Oper) :: rest) ⟨t, ob⟩ QS :=
 UK (wr := [(id, ⟨ver, .dead, e, sz, es⟩), (d, ⟨v0 + 1, .hrow, e, sz, es ++ es2⟩)]) hd hw (fun w0 J a w β hF => by
  have := ze8 (ty := ty) (pos := pos) (after := af) (g := gd) hF d hT (fun e1 => by rw [he] at e1; dsimp only at e1; rw [e1] at hk; cases hk) (by rw [he]; exact Nat.le_of_ble_eq_true hp) x y hx (by rw [hb]) (by rw [hb]) (by rw [hb]) (by rw [hb, he]) (by rw [hb]; exact hn) hy (by rw [hb2]) (by rw [hb2]) (by rw [hb2, he]) (by rw [hb2]; exact hm) hm0 (by rw [hb2]; exact hcel) (by rw [he]; exact hbb) hmx
  rw [hv, hb, hb2, he] at this
  exact this) k
end
end Go.Proofs.Ytbeebjdnapkhhaa
