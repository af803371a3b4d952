/-
  How the states of the machine of plain values follow the world's turns.
-/
import Derived.Test.YthijndjgchbeoaaFmA
namespace Go.Proofs.Ythijndjgchbeoaa
set_option linter.unusedVariables false
open Go.RowKit

theorem OwnV.mono {w w' : World} {βid : Option Nat} {ob : FObj} {v : Value} {o n : Nat} (h : OwnV w βid ob v o n) (hb : ∀ b, βid = some b → w'.heap[b]? = w.heap[b]?) : OwnV w' βid ob v o n := by
  obtain ⟨A, c, h1, h2, h3, h4, h5⟩ := h.ex
  refine ⟨h.row, A, c, h1, h2, h3, h4, fun b hbb => ?_⟩
  obtain ⟨o', k1, k2, k3⟩ := h5 b hbb
  exact ⟨o', k1, k2, fun cur hc => k3 cur (by rw [← hb b hbb]; exact hc)⟩

theorem own_moved {w w' : World} {base : Nat} {e : TypeId} {sz n : Nat} {v : Value} {xs : List Value} (h : w.ownsRow base e sz v n xs) (hb : ∀ b, v.ownBlock = some b → w'.heap[b]? = w.heap[b]?) : w'.ownsRow base e sz v n xs := by
  refine ⟨h.1, ?_⟩
  rcases h.2 with hn | ⟨g, cap, cur, rfl, hb', hgg, rest⟩
  · exact .inl hn
  · exact .inr ⟨g, cap, cur, rfl, hb', (hb g rfl).trans hgg, rest⟩

theorem RowR.mono {w w' : World} {base : Nat} {I I' : Nat → Prop} {βid : Option Nat} {ob : FObj} (h : RowR w base I βid ob) (hI : ∀ b, I b → I' b ∧ w'.heap[b]? = w.heap[b]?) (hb : ∀ b, βid = some b → w'.heap[b]? = w.heap[b]?) :
    RowR w' base I' βid ob := by
  obtain ⟨v, us, h1, h2, h3⟩ := h.row
  exact ⟨h.wide, h.one, v, us, own_moved h1 (fun b hv => hb b (h2 ▸ hv)), h2, h3.mono hI⟩
theorem MapR.mono {w w' : World} {base : Nat} {I I' : Nat → Prop} {βid : Option Nat} {ob : FObj} (h : MapR w base I βid ob) (hI : ∀ b, I b → I' b ∧ w'.heap[b]? = w.heap[b]?) (hb : ∀ b, βid = some b → w'.heap[b]? = w.heap[b]?) :
    MapR w' base I' βid ob := by
  obtain ⟨b, clock, ents, h1, h2, h3, h4, h5, h6, h7⟩ := h.ex
  exact ⟨b, clock, ents, h1, h2, (hb b h1).trans h3, h4, h5, h6, fun j e row f a b c => (h7 j e row f a b c).mono hI⟩
theorem RoomR.mono {w w' : World} {βid : Option Nat} {ob : FObj} (h : RoomR w βid ob) (hb : ∀ b, βid = some b → w'.heap[b]? = w.heap[b]?) : RoomR w' βid ob := by
  unfold RoomR at h ⊢
  cases hl : ob.life with
  | roomy =>
    rw [hl] at h
    obtain ⟨b, cur, h1, h2, h3⟩ := h
    exact ⟨b, cur, h1, (hb b h1).trans h2, h3⟩
  | full =>
    rw [hl] at h
    exact fun b cur h1 h2 => h b cur h1 ((hb b h1).symm.trans h2)
  | _ => trivial
theorem RowH.mono {w w' : World} {base : Nat} {I I' : Nat → Prop} {β β' : Nat → Option Nat} {s s' : FS} {βid : Option Nat} {ob : FObj} (h : RowH w base I β s βid ob) (hb : ∀ b, βid = some b → w'.heap[b]? = w.heap[b]?)
    (T : ∀ v f, VR w I β s v f → (∀ id ver, f.hand = some (id, ver) → ver ≤ (s.ob id).ver) → VR w' I' β' s' v f) (hv : ∀ id, (s.ob id).ver ≤ (s'.ob id).ver) : RowH w' base I' β' s' βid ob := by
  obtain ⟨v, us, h1, h2, h3, h4⟩ := h.row
  exact ⟨h.wide, fun f hf id ver e => Nat.le_trans (h.vers f hf id ver e) (hv id), v, us, own_moved h1 (fun b hv => hb b (h2 ▸ hv)), h2, h3, fun j u f hu hf => T u f (h4 j u f hu hf) (h.vers f (List.mem_of_getElem? hf))⟩
theorem ObR.mono {w w' : World} {base : Nat} {I I' : Nat → Prop} {β β' : Nat → Option Nat} {s s' : FS} {βid : Option Nat} {ob : FObj} (h : ObR w base I β s βid ob) (hI : ∀ b, I b → I' b ∧ w'.heap[b]? = w.heap[b]?) (hb : ∀ b, βid = some b → w'.heap[b]? = w.heap[b]?)
    (T : ∀ v f, VR w I β s v f → (∀ id ver, f.hand = some (id, ver) → ver ≤ (s.ob id).ver) → VR w' I' β' s' v f) (hv : ∀ id, (s.ob id).ver ≤ (s'.ob id).ver) : ObR w' base I' β' s' βid ob := by
  cases hr : ob.life.row with
  | true => exact .ofRow ((h.rowR hr).mono hI hb) ((h.roomR hr).mono hb) hr
  | false =>
    cases hs : ob.life.slic with
    | true =>
      refine .ofH ((h.rowH hr hs).mono hb T hv) ?_
      cases hl : ob.life <;> rw [hl] at hr hs <;> first | rfl | (simp [Life.row, Life.slic] at hr hs; done)
    | false => exact .ofMap ((h.mapR hs).mono hI hb) hs
theorem ObR.lt {w : World} {base : Nat} {I : Nat → Prop} {β : Nat → Option Nat} {s : FS} {βid : Option Nat} {ob : FObj} (h : ObR w base I β s βid ob) {b : Nat} (hb : βid = some b) : base ≤ b ∧ b < w.heap.size := by
  cases hr : ob.life.row with
  | true =>
    obtain ⟨v, us, h1, h2, h3⟩ := (h.rowR hr).row
    exact h1.lt b (h2.trans hb)
  | false =>
    cases hs : ob.life.slic with
    | true =>
      obtain ⟨v, us, h1, h2, h3⟩ := (h.rowH hr hs).row
      exact h1.lt b (h2.trans hb)
    | false =>
      obtain ⟨b', clock, ents, h1, h2, h3, _⟩ := (h.mapR hs).ex
      rw [hb] at h1
      injection h1 with h1
      subst h1
      exact ⟨h2, (Array.getElem?_eq_some_iff.1 h3).1⟩

theorem VR.mono {w w' : World} {I I' : Nat → Prop} {β β' : Nat → Option Nat} {s s' : FS} {v : Value} {f : FV} (h : VR w I β s v f) (hI : ∀ b, I b → I' b ∧ w'.heap[b]? = w.heap[b]?)
    (hh : ∀ id ver, f.hand = some (id, ver) → (s'.ob id).life ≠ .dead → (s'.ob id).ver = ver → (s.ob id).life ≠ .dead ∧ (s.ob id).ver = ver ∧ β' id = β id ∧ (s'.ob id).sz = (s.ob id).sz ∧ (s'.ob id).life.slic = (s.ob id).life.slic ∧
      ∀ v o n, OwnV w (β id) (s.ob id) v o n → OwnV w' (β' id) (s'.ob id) v o n) : VR w' I' β' s' v f := by
  cases f with
  | own id ver o n =>
    intro h1 h2
    obtain ⟨k1, k2, _, _, _, k3⟩ := hh id ver rfl h1 h2
    exact k3 v o n (h k1 k2)
  | ptr id ver i off =>
    intro h1 h2
    obtain ⟨k1, k2, k3, k4, k5, _⟩ := hh id ver rfl h1 h2
    obtain ⟨hrow, b, hb, hv⟩ := h k1 k2
    exact ⟨by rw [k5]; exact hrow, b, by rw [k3]; exact hb, by rw [k4]; exact hv⟩
  | omap id ver =>
    intro h1 h2
    obtain ⟨k1, k2, k3, k4, k5, _⟩ := hh id ver rfl h1 h2
    obtain ⟨hrow, b, hb, hv⟩ := h k1 k2
    exact ⟨by rw [k5]; exact hrow, b, by rw [k3]; exact hb, hv⟩
  | undef => exact Rd.mono hI h
  | int k n => exact Rd.mono hI h
  | bool b => exact Rd.mono hI h
  | str s => exact Rd.mono hI h
  | nil => exact Rd.mono hI h
  | list sz es => exact Rd.mono hI h
  | eptr sz es i off => exact Rd.mono hI h
  | agg cs => exact Rd.mono hI h
  | tup vs => exact Rd.mono hI h
  | smap es => exact Rd.mono hI h
  | fn f caps => exact Rd.mono hI h

theorem VR.of_rd {w : World} {I : Nat → Prop} {β : Nat → Option Nat} {s : FS} {v : Value} {f : FV} (h : Rd w I v f) (hf : f.hand = none) : VR w I β s v f := by
  cases f <;> first | exact h | (simp [FV.hand] at hf)
theorem VR.rd {w : World} {I : Nat → Prop} {β : Nat → Option Nat} {s : FS} {v : Value} {f : FV} (h : VR w I β s v f) (hf : f.hand = none) : Rd w I v f := by
  cases f <;> first | exact h | (simp [FV.hand] at hf)

/-- The state after a step: C are the objects that turned. -/
theorem FR.step {N : Nat} {w0 w w' : World} {J : Nat → Prop} {s s' : FS} {a a' : Act} {β β' : Nat → Option Nat} (h : FR N w0 J s a w β) (C : Nat → Prop)
    (size : a'.tmps.size = N) (defers : a'.defers = []) (bel : Below w0.heap.size w0 w')
    (hI : ∀ b, Imm J w β s b → Imm J w' β' s' b ∧ w'.heap[b]? = w.heap[b]?)
    (hslot : ∀ k, (a'.tmps.getD k undef = a.tmps.getD k undef ∧ s'.get k = s.get k) ∨
      (VR w' (Imm J w' β' s') β' s' (a'.tmps.getD k undef) (s'.get k) ∧ ∀ id ver, (s'.get k).hand = some (id, ver) → ver ≤ (s'.ob id).ver))
    (hob : ∀ id, ¬ C id → s'.ob id = s.ob id ∧ β' id = β id ∧ ((s.ob id).life ≠ .dead → ∀ b, β id = some b → w'.heap[b]? = w.heap[b]?))
    (hver : ∀ id, C id → (s.ob id).ver ≤ (s'.ob id).ver)
    (hsame : ∀ id, C id → (s'.ob id).life ≠ .dead → (s'.ob id).ver = (s.ob id).ver → (s.ob id).life ≠ .dead ∧ β' id = β id ∧ (s'.ob id).sz = (s.ob id).sz ∧ (s'.ob id).life.slic = (s.ob id).life.slic ∧ ∀ v o n, OwnV w (β id) (s.ob id) v o n → OwnV w' (β' id) (s'.ob id) v o n)
    (hnew : ∀ id, C id → (s'.ob id).life ≠ .dead → (∀ v f, VR w (Imm J w β s) β s v f → (∀ id ver, f.hand = some (id, ver) → ver ≤ (s.ob id).ver) → VR w' (Imm J w' β' s') β' s' v f) → ObR w' w0.heap.size (Imm J w' β' s') β' s' (β' id) (s'.ob id))
    (inj : ∀ id id' b, (s'.ob id).life ≠ .dead → (s'.ob id').life ≠ .dead → β' id = some b → β' id' = some b → id = id') : FR N w0 J s' a' w' β' := by
  have T : ∀ v f, VR w (Imm J w β s) β s v f → (∀ id ver, f.hand = some (id, ver) → ver ≤ (s.ob id).ver) → VR w' (Imm J w' β' s') β' s' v f := fun v f hv hle => by
    refine hv.mono hI fun id ver hf h1 h2 => ?_
    have hle := hle id ver hf
    by_cases hC : C id
    · have := hver id hC
      have hv : (s'.ob id).ver = (s.ob id).ver := by omega
      obtain ⟨k1, k2, k3, k4, k5⟩ := hsame id hC h1 hv
      exact ⟨k1, by omega, k2, k3, k4, k5⟩
    · obtain ⟨e, e', hb⟩ := hob id hC
      rw [e] at h1 h2
      refine ⟨h1, h2, e', by rw [e], by rw [e], fun v o n hv => ?_⟩
      rw [e, e']
      exact hv.mono (hb h1)
  have hv : ∀ id, (s.ob id).ver ≤ (s'.ob id).ver := fun id => by
    by_cases hC : C id
    · exact hver id hC
    · rw [(hob id hC).1]; exact Nat.le_refl _
  refine { size := size, defers := defers, bel := bel, fresh := h.fresh, slot := fun k => ?_, vers := fun k id ver hf => ?_, obj := fun id hl => ?_, inj := inj }
  · rcases hslot k with ⟨e1, e2⟩ | ⟨hv, _⟩
    · rw [e1, e2]
      exact T _ _ (h.slot k) (h.vers k)
    · exact hv
  · rcases hslot k with ⟨e1, e2⟩ | ⟨_, hv'⟩
    · rw [e2] at hf
      exact Nat.le_trans (h.vers k id ver hf) (hv id)
    · exact hv' id ver hf
  · by_cases hC : C id
    · exact hnew id hC hl T
    · obtain ⟨e, e', hb⟩ := hob id hC
      rw [e] at hl ⊢
      rw [e']
      exact (h.obj id hl).mono hI (hb hl) T hv

theorem getD_put (a : Act) (d : Nat) (v : Value) (k : Nat) (hd : d < a.tmps.size) : (a.put (some d) v).tmps.getD k undef = if d = k then v else a.tmps.getD k undef := by
  simp only [Act.put, Array.getD_eq_getD_getElem?, Array.getElem?_setIfInBounds]
  split
  · rename_i h; subst h; simp
  · rfl

/-- T1: a slot alone -/
theorem FR.put {N : Nat} {w0 w : World} {J : Nat → Prop} {s : FS} {a : Act} {β : Nat → Option Nat} (h : FR N w0 J s a w β) {d : Nat} {v : Value} {f : FV} (hd : d < N) (hv : VR w (Imm J w β s) β s v f)
    (hver : ∀ id ver, f.hand = some (id, ver) → ver ≤ (s.ob id).ver) : FR N w0 J (s.put d f) (a.put (some d) v) w β := by
  refine h.step (C := fun _ => False) (by simp [Act.put, h.size]) h.defers h.bel (fun b hb => ⟨hb, rfl⟩) (fun k => ?_) (fun id _ => ⟨rfl, rfl, fun _ _ _ => rfl⟩) (fun _ h => h.elim) (fun _ h => h.elim) (fun _ h => h.elim) h.inj
  rw [getD_put a d v k (h.size ▸ hd), FS.get_put]
  split
  · exact .inr ⟨hv.mono (fun b hb => ⟨hb, rfl⟩) (fun id ver _ h1 h2 => ⟨h1, h2, rfl, rfl, rfl, fun _ _ _ h => h⟩), fun id ver hf => hver id ver hf⟩
  · exact .inl ⟨rfl, rfl⟩

theorem Imm.grow {J : Nat → Prop} {w w' : World} {β : Nat → Option Nat} {s : FS} {b : Nat} (h : Imm J w β s b) (hb : Below w.heap.size w w') : Imm J w' β s b ∧ w'.heap[b]? = w.heap[b]? :=
  ⟨⟨Nat.lt_of_lt_of_le h.1 hb.size, h.2⟩, hb.block b h.1⟩

/-- T2: the world grows -/
theorem FR.grow {N : Nat} {w0 w w' : World} {J : Nat → Prop} {s : FS} {a : Act} {β : Nat → Option Nat} (h : FR N w0 J s a w β) (hb : Below w.heap.size w w') : FR N w0 J s a w' β := by
  refine h.step (C := fun _ => False) h.size h.defers (h.bel.trans (hb.mono h.bel.size)) (fun b hbb => hbb.grow hb) (fun k => .inl ⟨rfl, rfl⟩) (fun id _ => ⟨rfl, rfl, fun hl b e => ?_⟩) (fun _ h => h.elim) (fun _ h => h.elim) (fun _ h => h.elim) h.inj
  exact hb.block b ((h.obj id hl).lt e).2

/-- a β turned at one place -/
def updB (β : Nat → Option Nat) (j : Nat) (x : Option Nat) : Nat → Option Nat := fun k => if k = j then x else β k

/-- T3, T8: a new object j (of version one more), the object i (if any) being used up; a block of i's, or a new one, bears it. -/
theorem FR.make {N : Nat} {w0 w w' : World} {J : Nat → Prop} {s : FS} {a : Act} {β : Nat → Option Nat} (h : FR N w0 J s a w β) (i : Option Nat) (j : Nat) {E sz : Nat} {es : List (List FV)} {v : Value} {xs : List Value}
    (hi : ∀ k, i = some k → (s.ob k).life.mine = true) (hg : w.grownBy w' (i.bind β)) (hw : ∀ e ∈ es, e.length = sz) (ho : ∀ f ∈ es.flatten, f.one = true) (hv : w'.ownsRow w0.heap.size E sz v es.length xs) (hr : RdL w (Imm J w β s) xs es.flatten)
    (hb : (v.ownBlock = i.bind β) ∨ v.ownBlock = none ∨ ∃ b, v.ownBlock = some b ∧ w.heap.size ≤ b) {s' : FS}
    (hs : ∀ k, s'.ob k = if j = k then ⟨(s.ob j).ver + 1, .own, E, sz, es⟩ else if i = some k then { s.ob k with life := .dead } else s.ob k) (hst : ∀ k, s'.get k = s.get k) :
    FR N w0 J s' a w' (updB β j v.ownBlock) := by
  have hlow : ∀ k, i.bind β = some k → w0.heap.size ≤ k := fun k hk => by
    cases i with
    | none => simp at hk
    | some i => exact ((h.obj i (Life.mine_ne (hi i rfl))).lt (by simpa using hk)).1
  have hne : ∀ b, Imm J w β s b → some b ≠ i.bind β := fun b hbb e => by
    cases i with
    | none => simp at e
    | some i => exact hbb.2.2 i (hi i rfl) (by simpa using e.symm)
  have hI : ∀ b, Imm J w β s b → Imm J w' (updB β j v.ownBlock) s' b ∧ w'.heap[b]? = w.heap[b]? := fun b hbb => by
    refine ⟨⟨Nat.lt_of_lt_of_le hbb.1 hg.size, hbb.2.1, fun id hl => ?_⟩, hg.block b hbb.1 (hne b hbb)⟩
    rw [hs] at hl
    unfold updB
    by_cases hj : j = id
    · rw [if_pos hj.symm]
      rcases hb with e | e | ⟨b', e, hge⟩
      · rw [e]; exact fun e2 => hne b hbb e2.symm
      · rw [e]; simp
      · rw [e]; intro e2; injection e2 with e2; have := hbb.1; omega
    · rw [if_neg hj] at hl
      rw [if_neg (fun e => hj e.symm)]
      by_cases hii : i = some id
      · rw [if_pos hii] at hl; cases hl
      · rw [if_neg hii] at hl; exact hbb.2.2 id hl
  have hblk : ∀ id b, id ≠ j → i ≠ some id → (s.ob id).life ≠ .dead → β id = some b → b < w.heap.size ∧ w'.heap[b]? = w.heap[b]? ∧ v.ownBlock ≠ some b := fun id b hj hii hl hbb => by
    have hlt := ((h.obj id hl).lt hbb).2
    have hnn : some b ≠ i.bind β := fun e => by
      cases i with
      | none => simp at e
      | some i =>
        have := h.inj id i b hl (Life.mine_ne (hi i rfl)) hbb (by simpa using e.symm)
        exact hii (by rw [this])
    refine ⟨hlt, hg.block b hlt hnn, ?_⟩
    rcases hb with e | e | ⟨b', e, hge⟩
    · rw [e]; exact fun e2 => hnn e2.symm
    · rw [e]; simp
    · rw [e]; intro e2; injection e2 with e2; omega
  refine h.step (C := fun id => id = j ∨ i = some id) h.size h.defers (h.bel.grown hg h.bel.size hlow) hI (fun k => .inl ⟨rfl, hst k⟩) (fun id hC => ?_) (fun id hC => ?_) (fun id hC hl hvv => ?_) (fun id hC hl _ => ?_) ?_
  · have hj : ¬ id = j := fun e => hC (.inl e)
    have hii : ¬ i = some id := fun e => hC (.inr e)
    refine ⟨by rw [hs, if_neg (fun e => hj e.symm), if_neg hii], by unfold updB; rw [if_neg hj], fun hl b hbb => (hblk id b hj hii hl hbb).2.1⟩
  · rw [hs]
    split
    · rename_i e; subst e; simp
    · split <;> simp
  · rw [hs] at hl hvv
    split at hl
    · rename_i e
      rw [if_pos e] at hvv
      subst e
      simp at hvv
    · rename_i e
      rcases hC with hC | hC
      · exact absurd hC.symm e
      · rw [if_pos hC] at hl; simp at hl
  · rw [hs] at hl ⊢
    split at hl
    · rename_i e
      subst e
      rw [if_pos rfl]
      unfold updB
      rw [if_pos rfl]
      exact .ofRow ⟨hw, ho, v, xs, hv, rfl, hr.mono hI⟩ (.own rfl) rfl
    · rename_i e
      rcases hC with hC | hC
      · exact absurd hC.symm e
      · rw [if_pos hC] at hl; simp at hl
  · intro id id' b hl hl' e e'
    unfold updB at e e'
    rw [hs] at hl hl'
    by_cases hj : id = j
    · by_cases hj' : id' = j
      · rw [hj, hj']
      · rw [if_pos hj] at e
        rw [if_neg hj'] at e'
        rw [if_neg (fun e => hj' e.symm)] at hl'
        by_cases hii : i = some id'
        · rw [if_pos hii] at hl'; simp at hl'
        · rw [if_neg hii] at hl'
          exact absurd e (hblk id' b hj' hii hl' e').2.2
    · rw [if_neg hj] at e
      rw [if_neg (fun e => hj e.symm)] at hl
      have hii : ¬ i = some id := fun hii => by rw [if_pos hii] at hl; simp at hl
      rw [if_neg hii] at hl
      by_cases hj' : id' = j
      · rw [if_pos hj'] at e'
        exact absurd e' (hblk id b hj hii hl e).2.2
      · rw [if_neg hj'] at e'
        rw [if_neg (fun e => hj' e.symm)] at hl'
        have hii' : ¬ i = some id' := fun hii => by rw [if_pos hii] at hl'; simp at hl'
        rw [if_neg hii'] at hl'
        exact h.inj id id' b hl hl' e e'

/-- T4: an object of the call's own, its block written in place -/
theorem FR.write {N : Nat} {w0 w w' : World} {J : Nat → Prop} {s : FS} {a : Act} {β : Nat → Option Nat} (h : FR N w0 J s a w β) (i : Nat) {es : List (List FV)} {v : Value} {xs : List Value}
    (hi : (s.ob i).life = .own) (hg : w.grownBy w' (β i)) (hw : ∀ e ∈ es, e.length = (s.ob i).sz) (ho : ∀ f ∈ es.flatten, f.one = true) (hv : w'.ownsRow w0.heap.size (s.ob i).E (s.ob i).sz v es.length xs) (hvb : v.ownBlock = β i)
    (hr : RdL w (Imm J w β s) xs es.flatten) (hl : es.length = (s.ob i).es.length) (hsz : ∀ b cur cur', β i = some b → w.heap[b]? = some (.cells cur (s.ob i).E (0, 0)) → w'.heap[b]? = some (.cells cur' (s.ob i).E (0, 0)) → cur'.size = cur.size)
    {s' : FS} (hs : ∀ k, s'.ob k = if i = k then { s.ob i with es := es } else s.ob k) (hst : ∀ k, s'.get k = s.get k) : FR N w0 J s' a w' β := by
  have hla : (s.ob i).life ≠ .dead := by rw [hi]; decide
  have hI : ∀ b, Imm J w β s b → Imm J w' β s' b ∧ w'.heap[b]? = w.heap[b]? := fun b hbb => by
    refine ⟨⟨Nat.lt_of_lt_of_le hbb.1 hg.size, hbb.2.1, fun id hl => ?_⟩, hg.block b hbb.1 (fun e => hbb.2.2 i (by rw [hi]; rfl) e.symm)⟩
    rw [hs] at hl
    split at hl
    · rename_i e; subst e; exact hbb.2.2 i (by rw [hi]; rfl)
    · exact hbb.2.2 id hl
  refine h.step (C := fun id => id = i) h.size h.defers (h.bel.grown hg h.bel.size fun k hk => ((h.obj i hla).lt hk).1) hI (fun k => .inl ⟨rfl, hst k⟩) (fun id hC => ?_) (fun id hC => ?_) (fun id hC hl2 hvv => ?_) (fun id hC hl2 T => ?_) ?_
  · refine ⟨by rw [hs, if_neg (fun e => hC e.symm)], rfl, fun hl2 b hbb => hg.block b ((h.obj id hl2).lt hbb).2 (fun e => hC (h.inj id i b hl2 hla hbb e.symm))⟩
  · subst hC; rw [hs, if_pos rfl]; exact Nat.le_refl _
  · subst hC
    refine ⟨hla, rfl, by rw [hs, if_pos rfl], by rw [hs, if_pos rfl], fun v2 o n hv2 => ?_⟩
    rw [hs, if_pos rfl]
    obtain ⟨A, c, h1, h2, h3, h4, h5⟩ := hv2.ex
    refine ⟨hv2.row, A, c, h1, h2, by dsimp only; omega, h4, fun b hbb => ?_⟩
    obtain ⟨o', k1, k2, k3⟩ := h5 b hbb
    refine ⟨o', k1, k2, fun cur' hc' => ?_⟩
    obtain ⟨v0, us0, r1, r2, r3⟩ := ((h.obj id hla).rowR (by rw [hi]; rfl)).row
    rcases r1.2 with ⟨rfl, _⟩ | ⟨g, cap, cur, rfl, _, hgg, _⟩
    · rw [← r2] at hbb; simp [Value.ownBlock] at hbb
    · have hgb : g = b := by rw [← r2] at hbb; simpa [Value.ownBlock] using hbb
      subst hgb
      rw [hsz g cur cur' hbb hgg hc']
      exact k3 cur hgg
  · subst hC
    rw [hs, if_pos rfl]
    exact .ofRow ⟨hw, ho, v, xs, hv, hvb, hr.mono hI⟩ (.own hi) (by show (s.ob id).life.row = true; rw [hi]; rfl)
  · intro id id' b hl2 hl2' e e'
    refine h.inj id id' b ?_ ?_ e e'
    · rw [hs] at hl2; split at hl2
      · rename_i e; subst e; exact hla
      · exact hl2
    · rw [hs] at hl2'; split at hl2'
      · rename_i e; subst e; exact hla
      · exact hl2'

/-- T5, T6: an object's life is told anew -/
theorem FR.lives {N : Nat} {w0 w : World} {J : Nat → Prop} {s : FS} {a : Act} {β : Nat → Option Nat} (h : FR N w0 J s a w β) (i : Nat) (l : Life) (hll : l.mine = true → (s.ob i).life.mine = true) (hd : (s.ob i).life = .dead → l = .dead) (hslic : l ≠ .dead → l.slic = (s.ob i).life.slic)
    {s' : FS} (hs : ∀ k, s'.ob k = if i = k then { s.ob i with life := l } else s.ob k) (hst : ∀ k, s'.get k = s.get k)
    (htr : l ≠ .dead → ObR w w0.heap.size (Imm J w β s') β s' (β i) (s.ob i) → ObR w w0.heap.size (Imm J w β s') β s' (β i) { s.ob i with life := l }) : FR N w0 J s' a w β := by
  have hsub : ∀ id, (s'.ob id).life ≠ .dead → (s.ob id).life ≠ .dead := fun id hl => by
    rw [hs] at hl; split at hl
    · rename_i e; subst e; exact fun e => hl (hd e)
    · exact hl
  have hI : ∀ b, Imm J w β s b → Imm J w β s' b ∧ w.heap[b]? = w.heap[b]? := fun b hbb => by
    refine ⟨⟨hbb.1, hbb.2.1, fun id hl => ?_⟩, rfl⟩
    rw [hs] at hl
    split at hl
    · rename_i e; subst e; exact hbb.2.2 i (hll hl)
    · exact hbb.2.2 id hl
  have hv : ∀ id, (s.ob id).ver ≤ (s'.ob id).ver := fun id => by
    rw [hs]; split
    · rename_i e; subst e; exact Nat.le_refl _
    · exact Nat.le_refl _
  refine h.step (C := fun id => id = i) h.size h.defers h.bel hI (fun k => .inl ⟨rfl, hst k⟩) (fun id hC => ?_) (fun id hC => hv id) (fun id hC hl2 hvv => ?_) (fun id hC hl2 T => ?_) ?_
  · exact ⟨by rw [hs, if_neg (fun e => hC e.symm)], rfl, fun _ _ _ => rfl⟩
  · have hl3 := hsub id hl2
    subst hC
    rw [hs, if_pos rfl] at hl2
    have hrl := hslic hl2
    refine ⟨hl3, rfl, by rw [hs, if_pos rfl], by rw [hs, if_pos rfl]; exact hrl, fun v2 o n hv2 => ?_⟩
    rw [hs, if_pos rfl]
    exact ⟨hrl.trans hv2.row, hv2.ex⟩
  · have hl3 := hsub id hl2
    subst hC
    have ho := (h.obj id hl3).mono hI (fun _ _ => rfl) T hv
    rw [hs, if_pos rfl] at hl2 ⊢
    exact htr hl2 ho
  · intro id id' b hl2 hl2' e e'
    exact h.inj id id' b (hsub id hl2) (hsub id' hl2') e e'
end Go.Proofs.Ythijndjgchbeoaa
