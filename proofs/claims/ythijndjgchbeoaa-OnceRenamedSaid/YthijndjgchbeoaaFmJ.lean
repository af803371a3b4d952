/-
  An operation on plain values looks only at its operands and at their objects.
-/
import Derived.Test.YthijndjgchbeoaaFmI
namespace Go.Proofs.Ythijndjgchbeoaa
set_option linter.unusedVariables false
open Go.RowKit

/-- the objects that an operation may look at -/
def foot (s : FS) (d : Nat) (op : Op) : List Nat := d :: op.operands.toList.filterMap fun x => (s.ev x).hand.map (·.1)
theorem foot_dst (s : FS) (d : Nat) (op : Op) : d ∈ foot s d op := List.mem_cons_self
theorem foot_mem {s : FS} {d : Nat} {op : Op} {x : Operand} (hx : x ∈ op.operands.toList) {id ver : Nat} (h : (s.ev x).hand = some (id, ver)) : id ∈ foot s d op :=
  List.mem_cons_of_mem _ (List.mem_filterMap.2 ⟨x, hx, by rw [h]; rfl⟩)

section
variable {c : Ctx} {s s' : FS}
theorem Src.loc {f : FV} {sz : Nat} {es : List (List FV)} (h : Src s f sz es) (ho : ∀ id ver, f.hand = some (id, ver) → s'.ob id = s.ob id) : Src s' f sz es := by
  cases h with
  | nil sz => exact .nil _
  | list sz es => exact .list _ _
  | own id ver o n hl hrl =>
    have e := ho id ver rfl
    rw [← e]
    exact .own id ver o n (by unfold FS.live at *; rw [e]; exact hl) (by rw [e]; exact hrl)
theorem Bas.loc {f : FV} {sz : Nat} {es : List (List FV)} {i : Option Nat} (h : Bas s f sz es i) (ho : ∀ id ver, f.hand = some (id, ver) → s'.ob id = s.ob id) : Bas s' f sz es i := by
  cases h with
  | nil sz => exact .nil _
  | own id ver hl hv n hn =>
    have e := ho id ver rfl
    rw [← e]
    exact .own id ver (by rw [e]; exact hl) (by rw [e]; exact hv) n (by rw [e]; exact hn)
theorem ArgOk.loc {m : Mode} {f g : FV} (h : ArgOk s m f g) (ho : ∀ id ver, f.hand = some (id, ver) → s'.ob id = s.ob id) : ArgOk s' m f g := by
  cases h with
  | plain f hn => exact .plain _ hn
  | sub f g hn hle => exact .sub _ _ hn hle
  | nil sz => exact .nil _
  | own id ver o n hl hrl hm =>
    have e := ho id ver rfl
    rw [← e]
    exact .own id ver o n (by unfold FS.live at *; rw [e]; exact hl) (by rw [e]; exact hrl) (by rw [e]; exact hm)
theorem ArgsOk.loc {m : Mode} : ∀ {xs : List Operand} {gs : List FV}, ArgsOk s m xs gs → (∀ x ∈ xs, s'.ev x = s.ev x) → (∀ x ∈ xs, ∀ id ver, (s.ev x).hand = some (id, ver) → s'.ob id = s.ob id) → ArgsOk s' m xs gs
  | _, _, .nil, _, _ => .nil
  | _, _, .cons h hs, he, ho => .cons (by rw [he _ (by simp)]; exact h.loc (ho _ (by simp))) (hs.loc (fun x hx => he x (by simp [hx])) (fun x hx => ho x (by simp [hx])))
theorem lo_loc {lo : Option Operand} {l : Nat} (h : s.lo lo l) (he : ∀ x ∈ lo.toList, s'.ev x = s.ev x) : s'.lo lo l := by
  cases lo with
  | none => exact h
  | some y => obtain ⟨k, hk⟩ := h; exact ⟨k, by rw [he y (by simp)]; exact hk⟩
theorem hi_loc {lo : Option Operand} {l m : Nat} (h : s.hi lo m l) (he : ∀ x ∈ lo.toList, s'.ev x = s.ev x) : s'.hi lo m l := by
  cases lo with
  | none => exact h
  | some y => obtain ⟨k, hk⟩ := h; exact ⟨k, by rw [he y (by simp)]; exact hk⟩
theorem parts_loc {ps : Array (Nat × Operand)} (he : ∀ x ∈ (ps.toList.map (·.2)), s'.ev x = s.ev x) : s'.parts ps = s.parts ps := by
  unfold FS.parts
  refine List.map_congr_left fun p hp => ?_
  rw [he p.2 (List.mem_map.2 ⟨p, hp, rfl⟩)]

theorem Eff.loc {d : Nat} {op : Op} {f : FV} {wr : List (Nat × FObj)} (h : Eff c s d op f wr) (he : ∀ x ∈ op.operands.toList, s'.ev x = s.ev x) (hob : ∀ id ∈ foot s d op, s'.ob id = s.ob id) : Eff c s' d op f wr := by
  have hd := hob d (foot_dst s d op)
  have hh : ∀ x ∈ op.operands.toList, ∀ id ver, (s.ev x).hand = some (id, ver) → s'.ob id = s.ob id := fun x hx id ver hv => hob id (foot_mem hx hv)
  have hlive : ∀ id ver, s'.ob id = s.ob id → s.live id ver → s'.live id ver := fun id ver e hl => by unfold FS.live at *; rw [e]; exact hl
  cases h with
  | move x => rw [← he x (by simp [Op.operands])]; exact .move x
  | assign x => rw [← he x (by simp [Op.operands])]; exact .assign x
  | pick cnd x y hb => rw [← he x (by simp [Op.operands]), ← he y (by simp [Op.operands])]; exact .pick cnd x y (by rw [he cnd (by simp [Op.operands])]; exact hb)
  | ibin op T T2 x y ex ey hf => exact .ibin op T T2 x y (by rw [he x (by simp [Op.operands])]; exact ex) (by rw [he y (by simp [Op.operands])]; exact ey) hf
  | idiv op T T2 x y ex ey hn hop => exact .idiv op T T2 x y (by rw [he x (by simp [Op.operands])]; exact ex) (by rw [he y (by simp [Op.operands])]; exact ey) hn hop
  | bbin op x y hT ex ey hop => exact .bbin op x y hT (by rw [he x (by simp [Op.operands])]; exact ex) (by rw [he y (by simp [Op.operands])]; exact ey) hop
  | not T x ex => exact .not T x (by rw [he x (by simp [Op.operands])]; exact ex)
  | neg T x ex => exact .neg T x (by rw [he x (by simp [Op.operands])]; exact ex)
  | min2 bi T T2 x y ex ey hbi => exact .min2 bi T T2 x y (by rw [he x (by simp [Op.operands, Call.operands])]; exact ex) (by rw [he y (by simp [Op.operands, Call.operands])]; exact ey) hbi
  | lenOwn hT x ex hl => exact .lenOwn hT x (by rw [he x (by simp [Op.operands, Call.operands])]; exact ex) (hlive _ _ (hh x (by simp [Op.operands, Call.operands]) _ _ (by rw [ex]; rfl)) hl)
  | lenList hT x ex => exact .lenList hT x (by rw [he x (by simp [Op.operands, Call.operands])]; exact ex)
  | lenNil hT x ex => exact .lenNil hT x (by rw [he x (by simp [Op.operands, Call.operands])]; exact ex)
  | fieldPtr hT hf hft hsz x ex hl => exact .fieldPtr hT hf hft hsz x (by rw [he x (by simp [Op.operands])]; exact ex) (hlive _ _ (hh x (by simp [Op.operands]) _ _ (by rw [ex]; rfl)) hl)
  | fieldEptr hT hf hft hsz x ex => exact .fieldEptr hT hf hft hsz x (by rw [he x (by simp [Op.operands])]; exact ex)
  | indexList hT hk x y ex hsz ey h1 => exact .indexList hT hk x y (by rw [he x (by simp [Op.operands])]; exact ex) hsz (by rw [he y (by simp [Op.operands])]; exact ey) h1
  | indexOwn hT hk x y ex hl hsz ey h1 =>
    have e := hh x (by simp [Op.operands]) _ _ (by rw [ex]; rfl)
    exact .indexOwn hT hk x y (by rw [he x (by simp [Op.operands])]; exact ex) (hlive _ _ e hl) (by rw [e]; exact hsz) (by rw [he y (by simp [Op.operands])]; exact ey) h1
  | indexAPtr hT hk x y ex hl ey h1 => exact .indexAPtr hT hk x y (by rw [he x (by simp [Op.operands])]; exact ex) (hlive _ _ (hh x (by simp [Op.operands]) _ _ (by rw [ex]; rfl)) hl) (by rw [he y (by simp [Op.operands])]; exact ey) h1
  | indexAEptr hT hk x y ex ey h1 => exact .indexAEptr hT hk x y (by rw [he x (by simp [Op.operands])]; exact ex) (by rw [he y (by simp [Op.operands])]; exact ey) h1
  | loadEptr hk x ex hj ho ho' => exact .loadEptr hk x (by rw [he x (by simp [Op.operands])]; exact ex) hj ho ho'
  | loadPtr hk x ex hl hrl hj ho ho' =>
    have e := hh x (by simp [Op.operands]) _ _ (by rw [ex]; rfl)
    rw [← e]
    exact .loadPtr hk x (by rw [he x (by simp [Op.operands])]; exact ex) (hlive _ _ e hl) (by rw [e]; exact hrl) (by rw [e]; exact hj) (by rw [e]; exact ho) (by rw [e]; exact ho')
  | store hk x y ex hl hv ey hf hfl hj ho =>
    have e := hh x (by simp [Op.operands]) _ _ (by rw [ex]; rfl)
    rw [← e]
    exact .store hk x y (by rw [he x (by simp [Op.operands])]; exact ex) (by rw [e]; exact hl) (by rw [e]; exact hv) (by rw [he y (by simp [Op.operands])]; exact ey) hf hfl (by rw [e]; exact hj) (by rw [e]; exact ho)
  | alloc hk hz => rw [← hd]; exact .alloc hk hz
  | box x ex hf => rw [← hd]; exact .box x (by rw [he x (by simp [Op.operands])]; exact ex) hf
  | build hT hfs ps hf => exact .build hT hfs ps (by rw [parts_loc (fun x hx => he x (by simpa [Op.operands] using hx))]; exact hf)
  | buildA hT hk ps hf => exact .buildA hT hk ps (by rw [parts_loc (fun x hx => he x (by simpa [Op.operands] using hx))]; exact hf)
  | buildSlice hT hk ps es hn hw ho hcap hnm hf => rw [← hd]; exact .buildSlice hT hk ps es hn hw ho hcap hnm (by rw [parts_loc (fun x hx => he x (by simpa [Op.operands] using hx))]; exact hf)
  | makeSlice hT hk x y ex ey ho hb hn => rw [← hd]; exact .makeSlice hT hk x y (by rw [he x (by simp [Op.operands])]; exact ex) (by rw [he y (by simp [Op.operands])]; exact ey) ho hb hn
  | sliceOwn hT hk x lo hi ex hl hsz hlo hhi h1 h2 =>
    have e := hh x (by simp [Op.operands]) _ _ (by rw [ex]; rfl)
    exact .sliceOwn hT hk x lo hi (by rw [he x (by simp [Op.operands])]; exact ex) (hlive _ _ e hl) (by rw [e]; exact hsz) (lo_loc hlo (fun y hy => he y (by cases lo <;> simp_all [Op.operands]))) (hi_loc hhi (fun y hy => he y (by cases hi <;> simp_all [Op.operands]))) h1 h2
  | sliceList hT hk x lo hi ex hsz hlo hhi h1 h2 =>
    exact .sliceList hT hk x lo hi (by rw [he x (by simp [Op.operands])]; exact ex) hsz (lo_loc hlo (fun y hy => he y (by cases lo <;> simp_all [Op.operands]))) (hi_loc hhi (fun y hy => he y (by cases hi <;> simp_all [Op.operands]))) h1 h2
  | sliceNil hT hk x lo hi ex hlo hhi =>
    exact .sliceNil hT hk x lo hi (by rw [he x (by simp [Op.operands])]; exact ex) (lo_loc hlo (fun y hy => he y (by cases lo <;> simp_all [Op.operands]))) (hi_loc hhi (fun y hy => he y (by cases hi <;> simp_all [Op.operands])))
  | extract x ex hf hn => exact .extract x (by rw [he x (by simp [Op.operands])]; exact ex) hf hn
  | nilPtr x ex hl => exact .nilPtr x (by rw [he x (by simp [Op.operands])]; exact ex) (hlive _ _ (hh x (by simp [Op.operands]) _ _ (by rw [ex]; rfl)) hl)
  | nilEptr x ex => exact .nilEptr x (by rw [he x (by simp [Op.operands])]; exact ex)
  | append hT hk hpos x y ex ey h1 hE h2 hb hm =>
    rename_i T e f1 f2 es1 es2 i
    have e1 : ∀ id ver, f1.hand = some (id, ver) → s'.ob id = s.ob id := fun id ver hv => hh x (by simp [Op.operands, Call.operands]) id ver (by rw [ex]; exact hv)
    have e2 : ∀ id ver, f2.hand = some (id, ver) → s'.ob id = s.ob id := fun id ver hv => hh y (by simp [Op.operands, Call.operands]) id ver (by rw [ey]; exact hv)
    have h1' := h1.loc e1
    have hi : ∀ k, i = some k → s'.ob k = s.ob k := fun k hk => by
      generalize (c.ty e).size = sz at h1
      cases h1 with
      | nil => cases hk
      | own id ver hl hv n hn => injection hk with hk; subst hk; exact e1 id ver rfl
    have hw : appWr s d e (c.ty e).size (es1 ++ es2) i = appWr s' d e (c.ty e).size (es1 ++ es2) i := by
      cases i with
      | none => simp only [appWr, hd]
      | some k => simp only [appWr, hd, hi k rfl]
    rw [← hd, hw]
    exact .append hT hk hpos x y (by rw [he x (by simp [Op.operands, Call.operands])]; exact ex) (by rw [he y (by simp [Op.operands, Call.operands])]; exact ey) h1' (fun k hk => by rw [hi k hk]; exact hE k hk) (h2.loc e2) hb hm
  | appRoom hT hk hpos x y ex hlf hver hE hsz hon ey h2 h1 =>
    have e := hh x (by simp [Op.operands, Call.operands]) _ _ (by rw [ex]; rfl)
    rw [← hd, ← e]
    exact .appRoom hT hk hpos x y (by rw [he x (by simp [Op.operands, Call.operands])]; exact ex) (by rw [e]; exact hlf) (by rw [e]; exact hver) (by rw [e]; exact hE) (by rw [e]; exact hsz) (by rw [e]; exact hon)
      (by rw [he y (by simp [Op.operands, Call.operands])]; exact ey) (h2.loc fun id ver hv => hh y (by simp [Op.operands, Call.operands]) id ver (by rw [ey]; exact hv)) h1
  | appFull hT hk hpos x y ex hlf hver hE hsz hon ey h2 h1 hb hm =>
    have e := hh x (by simp [Op.operands, Call.operands]) _ _ (by rw [ex]; rfl)
    rw [← hd, ← e]
    exact .appFull hT hk hpos x y (by rw [he x (by simp [Op.operands, Call.operands])]; exact ex) (by rw [e]; exact hlf) (by rw [e]; exact hver) (by rw [e]; exact hE) (by rw [e]; exact hsz) (by rw [e]; exact hon)
      (by rw [he y (by simp [Op.operands, Call.operands])]; exact ey) (h2.loc fun id ver hv => hh y (by simp [Op.operands, Call.operands]) id ver (by rw [ey]; exact hv)) h1 hb hm
  | loadH hk hz x ex hlf hver hsz hj =>
    have e := hh x (by simp [Op.operands]) _ _ (by rw [ex]; rfl)
    exact .loadH hk hz x (by rw [he x (by simp [Op.operands])]; exact ex) (by rw [e]; exact hlf) (by rw [e]; exact hver) (by rw [e]; exact hsz) (by rw [e]; exact hj)
  | storeH hk hz x y ex hlf hver hsz ey hf hj =>
    have e := hh x (by simp [Op.operands]) _ _ (by rw [ex]; rfl)
    rw [← e]
    refine .storeH hk hz x y (by rw [he x (by simp [Op.operands])]; exact ex) (by rw [e]; exact hlf) (by rw [e]; exact hver) (by rw [e]; exact hsz) (by rw [he y (by simp [Op.operands])]; exact ey) ?_ (by rw [e]; exact hj)
    rcases hf with h1 | ⟨id', ver', o, n, rfl, hl⟩
    · exact .inl h1
    · exact .inr ⟨id', ver', o, n, rfl, hlive _ _ (hh y (by simp [Op.operands]) _ _ (by rw [ey]; rfl)) hl⟩
  | makeMap T => rw [← hd]; exact .makeMap T
  | look hT hk K x y ok ex ey hkk hkf hl hn =>
    refine .look hT hk K x y ok ?_ (by rw [he y (by simp [Op.operands])]; exact ey) hkk hkf hl hn
    rcases ex with ⟨id, ver, e1, e2, e3⟩ | e1
    · have e := hh x (by simp [Op.operands]) _ _ (by rw [e1]; rfl)
      exact .inl ⟨id, ver, by rw [he x (by simp [Op.operands])]; exact e1, hlive _ _ e e2, by rw [e]; exact e3⟩
    · exact .inr (by rw [he x (by simp [Op.operands])]; exact e1)
  | update hT K x y z ex hlf hver ey ez hk hkf hn hs =>
    have e := hh x (by simp [Op.operands]) _ _ (by rw [ex]; rfl)
    rw [← e]
    exact .update hT K x y z (by rw [he x (by simp [Op.operands])]; exact ex) (by rw [e]; exact hlf) (by rw [e]; exact hver) (by rw [he y (by simp [Op.operands])]; exact ey) (by rw [he z (by simp [Op.operands])]; exact ez) (by rw [e]; exact hk) hkf hn (by rw [e]; exact hs)
  | call hs hm hx => exact .call hs hm (hx.loc (fun x hx => he x (by simp [Op.operands, Call.operands] at hx ⊢; exact .inr hx)) (fun x hx => hh x (by simp [Op.operands, Call.operands] at hx ⊢; exact .inr hx)))
  | callOw hs hx => rw [← hd]; exact .callOw hs (hx.loc (fun x hx => he x (by simp [Op.operands, Call.operands] at hx ⊢; exact .inr hx)) (fun x hx => hh x (by simp [Op.operands, Call.operands] at hx ⊢; exact .inr hx)))

theorem FR.ext {N : Nat} {w0 w : World} {J : Nat → Prop} {a : Act} {β : Nat → Option Nat} (h : FR N w0 J s a w β) (hg : ∀ k, s'.get k = s.get k) (ho : ∀ k, s'.ob k = s.ob k) : FR N w0 J s' a w β := by
  refine h.step (C := fun _ => False) h.size h.defers h.bel (fun b hb => ⟨⟨hb.1, hb.2.1, fun id hl => hb.2.2 id (by rw [← ho]; exact hl)⟩, rfl⟩) (fun k => .inl ⟨rfl, hg k⟩) (fun id _ => ⟨ho id, rfl, fun _ _ _ => rfl⟩) (fun _ h => h.elim) (fun _ h => h.elim) (fun _ h => h.elim) ?_
  intro id id' b hl hl'
  rw [ho] at hl hl'
  exact h.inj id id' b hl hl'
end
end Go.Proofs.Ythijndjgchbeoaa
