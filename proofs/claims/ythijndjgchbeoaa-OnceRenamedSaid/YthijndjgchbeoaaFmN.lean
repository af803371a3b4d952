/-
  States told anew: objects under other names, an object shut, a handle read as a list.
-/
import Derived.Test.YthijndjgchbeoaaFmM
namespace Go.Proofs.Ythijndjgchbeoaa
set_option linter.unusedVariables false
open Go.RowKit

/-- an object of the new state: its name, the old one (none: of nothing yet), the old version, what it is now -/
structure Ent where
  new : Nat
  src : Option Nat
  vo : Nat
  b : FObj

/-- a cell told anew: a handle under its object's new name -/
inductive CelE (M : List Ent) : FV → FV → Prop where
  | plain {f f' : FV} (hn : f.hand = none) (e : f = f') : CelE M f f'
  | own {i i' v v' o o' n n' : Nat} {b : FObj} (hm : (⟨i', some i, v, b⟩ : Ent) ∈ M) (hv : b.ver = v') (eo : o = o') (e : n = n') : CelE M (.own i v o n) (.own i' v' o' n')
  | ptr {i i' v v' j o : Nat} {b : FObj} (hm : (⟨i', some i, v, b⟩ : Ent) ∈ M) (hv : b.ver = v') : CelE M (.ptr i v j o) (.ptr i' v' j o)
  | nil {i' vo v' : Nat} {b : FObj} (hm : (⟨i', none, vo, b⟩ : Ent) ∈ M) (hv : b.ver = v') : CelE M .nil (.own i' v' 0 0)
  | nilList {sz : Nat} : CelE M .nil (.list sz [])
  | omap {i i' v v' : Nat} {b : FObj} (hm : (⟨i', some i, v, b⟩ : Ent) ∈ M) (hv : b.ver = v') : CelE M (.omap i v) (.omap i' v')
inductive RowE (M : List Ent) : List (List FV) → List (List FV) → Prop where
  | nil : RowE M [] []
  | cons {f f' : FV} {es es' : List (List FV)} (h : CelE M f f') (hs : RowE M es es') : RowE M ([f] :: es) ([f'] :: es')
theorem RowE.len {M : List Ent} {es es' : List (List FV)} (h : RowE M es es') : es.length = es'.length ∧ es.flatten.length = es'.flatten.length ∧ (∀ e ∈ es', e.length = 1) ∧ ∀ (j : Nat) f f', es.flatten[j]? = some f → es'.flatten[j]? = some f' → CelE M f f' := by
  induction h with
  | nil => exact ⟨rfl, rfl, by simp, by simp⟩
  | cons h hs ih =>
    obtain ⟨h1, h2, h3, h4⟩ := ih
    refine ⟨by simp [h1], by simpa using h2, fun e he => ?_, fun j f f' hf hf' => ?_⟩
    · rcases List.mem_cons.1 he with rfl | he
      · rfl
      · exact h3 e he
    · cases j with
      | zero => simp at hf hf'; subst hf; subst hf'; exact h
      | succ j => simp at hf hf'; exact h4 j f f' (by simpa using hf) (by simpa using hf')

/-- no row of handles -/
def Life.plain : Life → Bool
  | .dead | .hrow => false
  | _ => true
theorem Life.plain_ne {l : Life} (h : l.plain = true) : l ≠ .dead := by rintro rfl; cases h
inductive EntsOk (ob : List (Nat × FObj)) (M0 : List Ent) : List Ent → Prop where
  | nil : EntsOk ob M0 []
  | old {i' i vo v E sz : Nat} {lf : Life} {es es' : List (List FV)} {M : List Ent} (h : look {} ob i = ⟨vo, lf, E, sz, es⟩) (hl : lf.plain = true) (e : es = es') (hM : EntsOk ob M0 M) : EntsOk ob M0 (⟨i', some i, vo, ⟨v, lf, E, sz, es'⟩⟩ :: M)
  | new {i' vo v E sz : Nat} {M : List Ent} (hM : EntsOk ob M0 M) : EntsOk ob M0 (⟨i', none, vo, ⟨v, .own, E, sz, []⟩⟩ :: M)
  | oldH {i' i vo v E : Nat} {es es' : List (List FV)} {M : List Ent} (h : look {} ob i = ⟨vo, .hrow, E, 1, es⟩) (e : RowE M0 es es') (hM : EntsOk ob M0 M) : EntsOk ob M0 (⟨i', some i, vo, ⟨v, .hrow, E, 1, es'⟩⟩ :: M)
theorem EntsOk.get {ob : List (Nat × FObj)} {M0 M : List Ent} (h : EntsOk ob M0 M) : ∀ e ∈ M, e.b.life ≠ .dead ∧ (∀ i, e.src = some i → ∃ es0, look {} ob i = ⟨e.vo, e.b.life, e.b.E, e.b.sz, es0⟩ ∧ es0.length = e.b.es.length ∧ ((e.b.life.plain = true ∧ es0 = e.b.es) ∨ (e.b.life = .hrow ∧ e.b.sz = 1 ∧ RowE M0 es0 e.b.es))) ∧ (e.src = none → e.b.life = .own ∧ e.b.es = []) := by
  induction h with
  | nil => intro e he; simp at he
  | old h hl e hM ih =>
    intro q hq
    rcases List.mem_cons.1 hq with rfl | hq
    · refine ⟨Life.plain_ne hl, fun i hi => ?_, fun hi => by cases hi⟩
      injection hi with hi
      subst hi
      subst e
      exact ⟨_, h, rfl, .inl ⟨hl, rfl⟩⟩
    · exact ih q hq
  | new hM ih =>
    intro q hq
    rcases List.mem_cons.1 hq with rfl | hq
    · exact ⟨by simp, (fun i hi => by cases hi), fun _ => ⟨rfl, rfl⟩⟩
    · exact ih q hq
  | oldH h e hM ih =>
    intro q hq
    rcases List.mem_cons.1 hq with rfl | hq
    · refine ⟨by simp, fun i hi => ?_, fun hi => by cases hi⟩
      injection hi with hi
      subst hi
      exact ⟨_, h, e.len.1, .inr ⟨rfl, rfl, e⟩⟩
    · exact ih q hq

/-- a slot of the new state -/
inductive SlE (t : List (Nat × FV)) (M : List Ent) : Nat → FV → Prop where
  | plain {d : Nat} {f f' : FV} (h : look .undef t d = f) (hn : f.hand = none) (e : f = f') : SlE t M d f'
  | own {d i i' v v' o n n' : Nat} {b : FObj} (h : look .undef t d = (.own i v o n)) (hm : (⟨i', some i, v, b⟩ : Ent) ∈ M) (hv : b.ver = v') (e : n = n') : SlE t M d (.own i' v' o n')
  | ptr {d i i' v v' j o : Nat} {b : FObj} (h : look .undef t d = (.ptr i v j o)) (hm : (⟨i', some i, v, b⟩ : Ent) ∈ M) (hv : b.ver = v') : SlE t M d (.ptr i' v' j o)
  | nil {d i' vo v' : Nat} {b : FObj} (h : look .undef t d = .nil) (hm : (⟨i', none, vo, b⟩ : Ent) ∈ M) (hv : b.ver = v') : SlE t M d (.own i' v' 0 0)
  | nilList {d sz : Nat} (h : look .undef t d = .nil) : SlE t M d (.list sz [])
  | omap {d i i' v v' : Nat} {b : FObj} (h : look .undef t d = (.omap i v)) (hm : (⟨i', some i, v, b⟩ : Ent) ∈ M) (hv : b.ver = v') : SlE t M d (.omap i' v')
inductive SlC (t : List (Nat × FV)) (M : List Ent) : List (Nat × FV) → Prop where
  | nil : SlC t M []
  | cons {d : Nat} {f : FV} {t' : List (Nat × FV)} (h : SlE t M d f) (hs : SlC t M t') : SlC t M ((d, f) :: t')
theorem SlE.cel {t : List (Nat × FV)} {M : List Ent} {d : Nat} {f : FV} (h : SlE t M d f) : CelE M (look .undef t d) f := by
  cases h with
  | plain h hn e => rw [h]; exact .plain hn e
  | own h hm hv e => rw [h]; exact .own hm hv rfl e
  | ptr h hm hv => rw [h]; exact .ptr hm hv
  | nil h hm hv => rw [h]; exact .nil hm hv
  | nilList h => rw [h]; exact .nilList
  | omap h hm hv => rw [h]; exact .omap hm hv
theorem SlC.get {t : List (Nat × FV)} {M : List Ent} {t' : List (Nat × FV)} (h : SlC t M t') (d : Nat) : look .undef t' d = .undef ∨ SlE t M d (look .undef t' d) := by
  induction h with
  | nil => exact .inl rfl
  | cons h hs ih =>
    rw [look_cons]
    split
    · rename_i e; subst e; exact .inr h
    · exact ih

def lookM (M : List Ent) (k : Nat) : Option Ent := look none (M.map fun e => (e.new, some e)) k
theorem lookM_some : ∀ {M : List Ent} {k : Nat} {e : Ent}, lookM M k = some e → e ∈ M ∧ e.new = k
  | [], _, _, h => by cases h
  | q :: M, k, e, h => by
    unfold lookM at h
    rw [List.map_cons, look_cons] at h
    split at h
    · rename_i hk; injection h with h; subst h; exact ⟨by simp, hk⟩
    · have := lookM_some (M := M) h; exact ⟨by simp [this.1], this.2⟩
theorem lookM_mem : ∀ {M : List Ent} (_ : (M.map Ent.new).Nodup) {e : Ent}, e ∈ M → lookM M e.new = some e
  | [], _, _, h => by simp at h
  | q :: M, hn, e, h => by
    unfold lookM
    rw [List.map_cons, look_cons]
    rw [List.map_cons, List.nodup_cons] at hn
    rcases List.mem_cons.1 h with rfl | h
    · rw [if_pos rfl]
    · rw [if_neg (fun hq => hn.1 (List.mem_map.2 ⟨e, h, hq.symm⟩))]
      exact lookM_mem hn.2 h
theorem lookM_ob : ∀ (M : List Ent) (k : Nat), look {} (M.map fun e => (e.new, e.b)) k = ((lookM M k).map Ent.b).getD {}
  | [], _ => rfl
  | q :: M, k => by
    unfold lookM
    rw [List.map_cons, List.map_cons, look_cons, look_cons]
    split
    · rfl
    · exact lookM_ob M k
theorem filterMap_inj : ∀ {M : List Ent} (_ : (M.filterMap Ent.src).Nodup) {e q : Ent} {i : Nat}, e ∈ M → q ∈ M → e.src = some i → q.src = some i → e = q
  | [], _, _, _, _, h, _, _, _ => by simp at h
  | p :: M, hn, e, q, i, he, hq, h1, h2 => by
    have key : ∀ x ∈ M, x.src = some i → p.src = some i → False := fun x hx hxs hps => by
      rw [List.filterMap_cons, hps] at hn
      exact (List.nodup_cons.1 hn).1 (List.mem_filterMap.2 ⟨x, hx, hxs⟩)
    have hn' : (M.filterMap Ent.src).Nodup := by
      rw [List.filterMap_cons] at hn
      cases hp : p.src with
      | none => rw [hp] at hn; exact hn
      | some j => rw [hp] at hn; exact (List.nodup_cons.1 hn).2
    rcases List.mem_cons.1 he with rfl | he
    · rcases List.mem_cons.1 hq with rfl | hq'
      · rfl
      · exact (key q hq' h2 h1).elim
    · rcases List.mem_cons.1 hq with rfl | hq'
      · exact (key e (by assumption) h1 h2).elim
      · exact filterMap_inj hn' (by assumption) hq' h1 h2

theorem FLe.conv {t t' : List (Nat × FV)} {ob : List (Nat × FObj)} (M : List Ent) (hk : (M.map Ent.new).Nodup) (hs : (M.filterMap Ent.src).Nodup) (ho : EntsOk ob M M) (ht : SlC t M t') : FLe ⟨t, ob⟩ ⟨t', M.map fun e => (e.new, e.b)⟩ := by
  intro N w0 J a w β hF
  refine ⟨fun k => (lookM M k).bind fun e => e.src.bind β, ?_⟩
  have hE := ho.get
  have hob : ∀ k, (⟨t', M.map fun e => (e.new, e.b)⟩ : FS).ob k = ((lookM M k).map Ent.b).getD {} := fun k => lookM_ob M k
  have hmem : ∀ e ∈ M, (⟨t', M.map fun e => (e.new, e.b)⟩ : FS).ob e.new = e.b := fun e he => by rw [hob, lookM_mem hk he]; rfl
  have hβ : ∀ e ∈ M, ((lookM M e.new).bind fun e => e.src.bind β) = e.src.bind β := fun e he => by rw [lookM_mem hk he]; rfl
  have hlive : ∀ k, ((⟨t', M.map fun e => (e.new, e.b)⟩ : FS).ob k).life ≠ .dead → ∃ e ∈ M, e.new = k := fun k hl => by
    rw [hob] at hl
    cases hm : lookM M k with
    | none => rw [hm] at hl; exact absurd rfl hl
    | some e => exact ⟨e, lookM_some hm⟩
  have hold : ∀ e ∈ M, ∀ i, e.src = some i → ∃ es0, (⟨t, ob⟩ : FS).ob i = ⟨e.vo, e.b.life, e.b.E, e.b.sz, es0⟩ ∧ es0.length = e.b.es.length ∧ ((e.b.life.plain = true ∧ es0 = e.b.es) ∨ (e.b.life = .hrow ∧ e.b.sz = 1 ∧ RowE M es0 e.b.es)) := fun e he i hi => (hE e he).2.1 i hi
  have hI : ∀ b, Imm J w β ⟨t, ob⟩ b → Imm J w (fun k => (lookM M k).bind fun e => e.src.bind β) ⟨t', M.map fun e => (e.new, e.b)⟩ b ∧ w.heap[b]? = w.heap[b]? := fun b hb => by
    refine ⟨⟨hb.1, hb.2.1, fun id hl => ?_⟩, rfl⟩
    obtain ⟨e, he, rfl⟩ := hlive id (Life.mine_ne hl)
    rw [hmem e he] at hl
    dsimp only
    rw [hβ e he]
    cases hsrc : e.src with
    | none => simp
    | some i =>
      obtain ⟨es0, h1, _⟩ := hold e he i hsrc
      exact hb.2.2 i (by rw [h1]; exact hl)
  have hown : ∀ e ∈ M, ∀ i, e.src = some i → ∀ v o n, OwnV w (β i) ((⟨t, ob⟩ : FS).ob i) v o n → OwnV w ((lookM M e.new).bind fun e => e.src.bind β) ((⟨t', M.map fun e => (e.new, e.b)⟩ : FS).ob e.new) v o n := fun e he i hi v o n h => by
    rw [hβ e he, hi, hmem e he]
    obtain ⟨es0, h1, h2, _⟩ := hold e he i hi
    rw [h1] at h
    obtain ⟨A, c, k1, k2, k3, k4, k5⟩ := h.ex
    exact ⟨h.row, A, c, k1, k2, by rw [← h2]; exact k3, k4, k5⟩
  have hvr : ∀ v f f', CelE M f f' → VR w (Imm J w β ⟨t, ob⟩) β ⟨t, ob⟩ v f → VR w (Imm J w (fun k => (lookM M k).bind fun e => e.src.bind β) ⟨t', M.map fun e => (e.new, e.b)⟩) (fun k => (lookM M k).bind fun e => e.src.bind β) ⟨t', M.map fun e => (e.new, e.b)⟩ v f' := fun v f f' hc hv => by
    cases hc with
    | plain hn e =>
      subst e
      exact VR.of_rd ((VR.rd hv hn).mono hI) hn
    | own hm hver eo e =>
      intro _ _
      subst e
      subst eo
      obtain ⟨es0, h1, _⟩ := hold _ hm _ rfl
      exact hown _ hm _ rfl _ _ _ (hv (by rw [h1]; exact (hE _ hm).1) (by rw [h1]))
    | @ptr i i' v v' j o b hm hver =>
      intro _ _
      obtain ⟨es0, h1, _⟩ := hold _ hm _ rfl
      obtain ⟨hrl, bb, hb, hp⟩ := hv (by rw [h1]; exact (hE _ hm).1) (by rw [h1])
      have h2 := hmem _ hm
      have h3 := hβ _ hm
      dsimp only at h2 h3
      rw [h1] at hrl hp
      refine ⟨by rw [h2]; exact hrl, bb, ?_, by rw [h2]; exact hp⟩
      dsimp only
      rw [h3]; exact hb
    | @nil i' vo v' b hm hver =>
      intro _ _
      have h2 := hmem _ hm
      have h3 := hβ _ hm
      dsimp only at h2 h3
      have hv' : Rd w _ v .nil := hv
      have hnil : v = .slice none 0 0 := by cases hv'; rfl
      rw [hnil]
      dsimp only
      rw [h2, h3]
      exact ⟨by have := ((hE _ hm).2.2 rfl).1; dsimp only at this; rw [this]; rfl, none, 0, rfl, Nat.le_refl _, by omega, fun _ => ⟨rfl, rfl⟩, fun b hb => by simp at hb⟩
    | nilList =>
      have hv' : Rd w _ v .nil := hv
      have hnil : v = .slice none 0 0 := by cases hv'; rfl
      rw [hnil]
      exact Rd.list none 0 0 _ [] [] rfl (Nat.le_refl _) (by simp) (by simp) (by simp) (by simp) (by simp)
    | @omap i i' v v' b hm hver =>
      intro _ _
      obtain ⟨es0, h1, _⟩ := hold _ hm _ rfl
      obtain ⟨hrl, bb, hb, hp⟩ := hv (by rw [h1]; exact (hE _ hm).1) (by rw [h1])
      have h2 := hmem _ hm
      have h3 := hβ _ hm
      dsimp only at h2 h3
      rw [h1] at hrl
      refine ⟨by rw [h2]; exact hrl, bb, ?_, hp⟩
      dsimp only
      rw [h3]; exact hb
  have hvers : ∀ f f', CelE M f f' → ∀ id ver, f'.hand = some (id, ver) → ver ≤ ((⟨t', M.map fun e => (e.new, e.b)⟩ : FS).ob id).ver := fun f f' hc id ver hh => by
    cases hc with
    | plain hn e => rw [← e, hn] at hh; cases hh
    | nilList => cases hh
    | _ hm hver =>
      simp only [FV.hand, Option.some.injEq, Prod.mk.injEq] at hh
      obtain ⟨rfl, rfl⟩ := hh
      have h2 := hmem _ hm
      dsimp only at h2
      rw [h2, hver]; exact Nat.le_refl _
  refine { size := hF.size, defers := hF.defers, bel := hF.bel, fresh := hF.fresh, slot := fun d => ?_, vers := fun d id ver hh => ?_, obj := fun id hl => ?_, inj := fun id id' b hl hl' e e' => ?_ }
  · show VR _ _ _ _ _ (look .undef t' d)
    rcases ht.get d with h | h
    · rw [h]; exact VR.of_rd (.undef _) rfl
    · exact hvr _ _ _ h.cel (hF.slot d)
  · have hh' : (look FV.undef t' d).hand = some (id, ver) := hh
    rcases ht.get d with h | h
    · rw [h] at hh'; cases hh'
    · exact hvers _ _ h.cel id ver hh'
  · obtain ⟨e, he, rfl⟩ := hlive id hl
    rw [hmem e he, hβ e he]
    cases hsrc : e.src with
    | none =>
      obtain ⟨h1, h2⟩ := (hE e he).2.2 hsrc
      refine .ofRow ?_ (.own h1) (by rw [h1]; rfl)
      refine ⟨by rw [h2]; simp, by rw [h2]; simp, .slice none 0 0, [], ?_, rfl, ?_⟩
      · rw [h2]; exact World.ownsRow_nil _ _ _ _
      · rw [h2]; exact RdL.nil
    | some i =>
      obtain ⟨es0, h1, hlen, hcase⟩ := hold e he i hsrc
      have h2 := hF.obj i (by rw [h1]; exact (hE e he).1)
      rw [h1] at h2
      rcases hcase with ⟨hpl, rfl⟩ | ⟨hh, hsz, hrow⟩
      · cases hr : e.b.life.row with
        | true =>
          have h4 := h2.rowR hr
          exact .ofRow ⟨h4.wide, h4.one, (h4.mono hI (fun _ _ => rfl)).row⟩ (h2.roomR hr) hr
        | false =>
          have hsl : e.b.life.slic = false := by
            cases hl2 : e.b.life <;> rw [hl2] at hr hpl <;> first | rfl | (simp [Life.row, Life.plain] at hr hpl; done)
          have h4 := (h2.mapR hsl).mono hI (fun _ _ => rfl)
          exact .ofMap ⟨h4.ex⟩ hsl
      · have h4 := h2.rowH (by rw [hh]; rfl) (by rw [hh]; rfl)
        obtain ⟨l1, l2, l3, l4⟩ := hrow.len
        obtain ⟨v, us, r1, r2, r3, r4⟩ := h4.row
        dsimp only at r1 r3 r4
        refine .ofH ⟨fun q hq => by rw [hsz]; exact l3 q hq, fun f hf id ver hfh => ?_, v, us, by rw [← l1]; exact r1, r2, r3.trans l2, fun j u f' hu hf' => ?_⟩ hh
        · obtain ⟨j, hj, rfl⟩ := List.getElem_of_mem hf
          have hj2 : j < es0.flatten.length := by rw [l2]; exact hj
          exact hvers _ _ (l4 j es0.flatten[j] _ (by simp) (by simp)) id ver hfh
        · have hj : j < es0.flatten.length := by rw [l2]; exact (List.getElem?_eq_some_iff.1 hf').1
          exact hvr _ _ _ (l4 j es0.flatten[j] f' (by simp) hf') (r4 j u _ hu (by simp))
  · obtain ⟨q, hq, rfl⟩ := hlive id hl
    obtain ⟨q', hq', rfl⟩ := hlive id' hl'
    rw [hβ q hq] at e
    rw [hβ q' hq'] at e'
    cases hs1 : q.src with
    | none => rw [hs1] at e; simp at e
    | some i =>
      cases hs2 : q'.src with
      | none => rw [hs2] at e'; simp at e'
      | some i' =>
        rw [hs1] at e
        rw [hs2] at e'
        obtain ⟨_, h1, _⟩ := hold q hq i hs1
        obtain ⟨_, h2, _⟩ := hold q' hq' i' hs2
        have := hF.inj i i' b (by rw [h1]; exact (hE q hq).1) (by rw [h2]; exact (hE q' hq').1) e e'
        subst this
        rw [filterMap_inj hs hq hq' hs1 hs2]

/-- an object shut: it is read alone from now on -/
theorem FLe.shut {t : List (Nat × FV)} {ob : List (Nat × FObj)} {i v E sz : Nat} {es : List (List FV)} (h : look {} ob i = ⟨v, .own, E, sz, es⟩) : FLe ⟨t, ob⟩ ⟨t, (i, ⟨v, .shut, E, sz, es⟩) :: ob⟩ := by
  intro N w0 J a w β hF
  have hbo : (⟨t, ob⟩ : FS).ob i = ⟨v, .own, E, sz, es⟩ := h
  refine ⟨β, hF.lives i .shut (fun h => by cases h) (fun hd => ?_) (fun _ => by rw [hbo]; rfl) (fun k => ?_) (fun k => rfl) (fun _ ho => ?_)⟩
  rotate_right
  · rw [hbo] at ho ⊢
    have := ho.rowR rfl
    exact .ofRow ⟨this.wide, this.one, this.row⟩ (.shut rfl) rfl
  · have hb : (⟨t, ob⟩ : FS).ob i = ⟨v, .own, E, sz, es⟩ := h
    rw [hb] at hd; cases hd
  · show look {} ((i, _) :: ob) k = _
    rw [look_cons]
    show _ = if i = k then { (look {} ob i) with life := .shut } else _
    rw [h]
    rfl
/-- a shut object's handle reads as a list -/
theorem FLe.list {t : List (Nat × FV)} {ob : List (Nat × FObj)} {d i v o n E sz : Nat} {es : List (List FV)} {f : FV} (h : look .undef t d = (.own i v o n)) (hb : look {} ob i = ⟨v, .shut, E, sz, es⟩) (e : .list sz ((es.drop o).take n) = f) : FLe ⟨t, ob⟩ ⟨(d, f) :: t, ob⟩ := by
  intro N w0 J a w β hF
  subst e
  have hbo : (⟨t, ob⟩ : FS).ob i = ⟨v, .shut, E, sz, es⟩ := hb
  have hl := live_of hbo (by decide)
  have hg := hF.ev_own (x := .tmp d) (s := ⟨t, ob⟩) h hl.1 hl.2
  have hrd : Rd w (Imm J w β ⟨t, ob⟩) (a.tmps.getD d undef) (.list sz ((es.drop o).take n)) := by
    have hc : ∃ c : Nat, c = N := ⟨_, rfl⟩
    obtain ⟨A, cc, e1, e2, e3, e4, e5⟩ := hg.ex
    have e1' : a.tmps.getD d undef = .slice A n cc := e1
    rw [e1']
    rw [hbo] at e3 e5
    dsimp only at e3 e5
    have hO := hF.obj i hl.1
    rw [hbo] at hO
    have hO' := hO.rowR rfl
    have hw := hO'.wide
    have hone := hO'.one
    dsimp only at hw hone
    have hwd : ∀ e ∈ es.drop o, e.length = sz := fun e he => hw e (List.mem_of_mem_drop he)
    have hlen : ((es.drop o).take n).length = n := by simp; omega
    have hfl : ((es.drop o).take n).flatten = (es.flatten.drop (o * sz)).take (n * sz) := by rw [flat_take _ hwd, flat_dropE _ hw]
    have hone' : ∀ f ∈ ((es.drop o).take n).flatten, f.one = true := fun f hf => by rw [hfl] at hf; exact hone f (List.mem_of_mem_drop (List.mem_of_mem_take hf))
    cases hbi : β i with
    | none =>
      obtain ⟨rfl, rfl⟩ := e4 hbi
      obtain rfl : n = 0 := by omega
      exact .list none 0 0 _ _ [] (by simp) (Nat.le_refl _) (by simp) (by simp) (by simp) (by simp) (by simp)
    | some b =>
      obtain ⟨o', rfl, k2, k3⟩ := e5 b hbi
      obtain ⟨v', us, r1, r2, r3⟩ := hO'.row
      dsimp only at r1 r3
      have hlt := hO.lt hbi
      have hR : RdL w (Imm J w β ⟨t, ob⟩) ((us.drop (o * sz)).take (n * sz)) ((es.drop o).take n).flatten := by rw [hfl]; exact (r3.drop _).take _
      refine .list _ n cc sz _ _ hlen e2 (fun e he => hwd e (List.mem_of_mem_take he)) hone' (fun h0 => ⟨b, o', rfl, ⟨hlt.2, hF.fresh b hlt.1, fun id' hl' e => ?_⟩, fun j u hu => ?_⟩) hR.1 hR.2
      · have := hF.inj i id' b hl.1 (Life.mine_ne hl') hbi e
        subst this
        rw [hbo] at hl'; cases hl'
      · have := k2 (.inl (by omega))
        subst this
        rw [List.getElem?_take] at hu
        split at hu
        · rw [List.getElem?_drop] at hu
          have hcell := r1.cells (g := b) (by rw [r2]; exact hbi) _ u hu
          rwa [add_none, Nat.zero_add] at hcell
        · cases hu
  refine ⟨β, ?_⟩
  have hlt : ∃ q : FS, q = ⟨(d, .list sz ((es.drop o).take n)) :: t, ob⟩ := ⟨_, rfl⟩
  refine hF.step (C := fun _ => False) hF.size hF.defers hF.bel (fun b hb => ⟨hb, rfl⟩) (fun k => ?_) (fun id _ => ⟨rfl, rfl, fun _ _ _ => rfl⟩) (fun _ h => h.elim) (fun _ h => h.elim) (fun _ h => h.elim) hF.inj
  show (_ ∧ look .undef ((d, _) :: t) k = look .undef t k) ∨ _
  by_cases hdk : d = k
  · subst hdk
    right
    have : (⟨(d, .list sz ((es.drop o).take n)) :: t, ob⟩ : FS).get d = .list sz ((es.drop o).take n) := by show look _ _ _ = _; rw [look_cons, if_pos rfl]
    rw [this]
    exact ⟨VR.of_rd (hrd.mono (fun b hb => ⟨hb, rfl⟩)) rfl, fun id ver e => by cases e⟩
  · left
    exact ⟨rfl, by rw [look_cons, if_neg hdk]⟩
/-- a handle on the whole of an object of its own: shut, and read as a list -/
theorem FLe.share {t : List (Nat × FV)} {ob : List (Nat × FObj)} (d : Nat) {i v n E sz : Nat} {es : List (List FV)} (h : look .undef t d = .own i v 0 n) (hb : look {} ob i = ⟨v, .own, E, sz, es⟩) (hn : n = es.length) :
    FLe ⟨t, ob⟩ ⟨(d, .list sz es) :: t, (i, ⟨v, .shut, E, sz, es⟩) :: ob⟩ :=
  (FLe.shut hb).trans (FLe.list (d := d) h (by rw [look_cons, if_pos rfl]) (by rw [hn, List.drop_zero, List.take_length]))
/-- a handle on the whole of a shut object -/
theorem FLe.again {t : List (Nat × FV)} {ob : List (Nat × FObj)} (d : Nat) {i v n E sz : Nat} {es : List (List FV)} (h : look .undef t d = .own i v 0 n) (hb : look {} ob i = ⟨v, .shut, E, sz, es⟩) (hn : n = es.length) :
    FLe ⟨t, ob⟩ ⟨(d, .list sz es) :: t, ob⟩ := FLe.list (d := d) h hb (by rw [hn, List.drop_zero, List.take_length])
/-- a map of the call's own: shut, and read alone from now on -/
theorem FLe.shareMap {t : List (Nat × FV)} {ob : List (Nat × FObj)} (d : Nat) {i v E sz : Nat} {es : List (List FV)} (h : look .undef t d = .omap i v) (hb : look {} ob i = ⟨v, .mapo, E, sz, es⟩) :
    FLe ⟨t, ob⟩ ⟨(d, .smap es) :: t, (i, ⟨v, .maps, E, sz, es⟩) :: ob⟩ := by
  have h1 : FLe ⟨t, ob⟩ ⟨t, (i, ⟨v, .maps, E, sz, es⟩) :: ob⟩ := by
    intro N w0 J a w β hF
    have hbo : (⟨t, ob⟩ : FS).ob i = ⟨v, .mapo, E, sz, es⟩ := hb
    refine ⟨β, hF.lives i .maps (fun h => by cases h) (fun hd => by rw [hbo] at hd; cases hd) (fun _ => by rw [hbo]; rfl) (fun k => ?_) (fun k => rfl) (fun _ ho => by rw [hbo] at ho ⊢; exact .ofMap ⟨(ho.mapR rfl).ex⟩ rfl)⟩
    show look {} ((i, _) :: ob) k = _
    rw [look_cons]
    show _ = if i = k then { (look {} ob i) with life := .maps } else _
    rw [hb]
    rfl
  refine h1.trans ?_
  intro N w0 J a w β hF
  have hbo : (⟨t, (i, ⟨v, .maps, E, sz, es⟩) :: ob⟩ : FS).ob i = ⟨v, .maps, E, sz, es⟩ := by show look {} ((i, _) :: ob) i = _; rw [look_cons, if_pos rfl]
  have hl := live_of hbo (by decide)
  have hg := hF.ev_omap (x := .tmp d) (s := ⟨t, (i, ⟨v, .maps, E, sz, es⟩) :: ob⟩) h hl.1 hl.2
  have hO := (hF.obj i hl.1).mapR (by rw [hbo]; rfl)
  rw [hbo] at hO
  obtain ⟨_, b, hbb, hx⟩ := hg
  obtain ⟨b', clock, ents, q1, q2, q3, q4, q5, q6, q7⟩ := hO.ex
  rw [hbb] at q1
  injection q1 with q1
  subst q1
  have hlt := (hF.obj i hl.1).lt hbb
  have hrd : Rd w (Imm J w β ⟨t, (i, ⟨v, .maps, E, sz, es⟩) :: ob⟩) (a.tmps.getD d undef) (.smap es) := by
    have hx' : a.tmps.getD d undef = .map (some b) := hx
    rw [hx']
    refine .smap b clock ents es ⟨hlt.2, hF.fresh b hlt.1, fun id' hl' e => ?_⟩ q3 q4 q5 q6 q7
    have := hF.inj i id' b hl.1 (Life.mine_ne hl') hbb e
    subst this
    rw [hbo] at hl'; cases hl'
  refine ⟨β, ?_⟩
  refine hF.step (C := fun _ => False) hF.size hF.defers hF.bel (fun b hb => ⟨hb, rfl⟩) (fun k => ?_) (fun id _ => ⟨rfl, rfl, fun _ _ _ => rfl⟩) (fun _ h => h.elim) (fun _ h => h.elim) (fun _ h => h.elim) hF.inj
  show (_ ∧ look .undef ((d, _) :: t) k = look .undef t k) ∨ _
  by_cases hdk : d = k
  · subst hdk
    right
    have : (⟨(d, .smap es) :: t, (i, ⟨v, .maps, E, sz, es⟩) :: ob⟩ : FS).get d = .smap es := by show look _ _ _ = _; rw [look_cons, if_pos rfl]
    rw [this]
    exact ⟨VR.of_rd (hrd.mono (fun b hb => ⟨hb, rfl⟩)) rfl, fun id ver e => by cases e⟩
  · left
    exact ⟨rfl, by rw [look_cons, if_neg hdk]⟩
/-- an object's life told anew -/
theorem FLe.life {t : List (Nat × FV)} {ob : List (Nat × FObj)} {i v E sz : Nat} {es : List (List FV)} {l l' : Life} (h : look {} ob i = ⟨v, l, E, sz, es⟩) (hl : l ≠ .dead) (hm : l'.mine = true → l.mine = true) (hs : l' ≠ .dead → l'.slic = l.slic)
    (htr : ∀ (w : World) (base : Nat) (I : Nat → Prop) (β : Nat → Option Nat) (s : FS) (b : Option Nat), l' ≠ .dead → ObR w base I β s b ⟨v, l, E, sz, es⟩ → ObR w base I β s b ⟨v, l', E, sz, es⟩) : FLe ⟨t, ob⟩ ⟨t, (i, ⟨v, l', E, sz, es⟩) :: ob⟩ := by
  intro N w0 J a w β hF
  have hbo : (⟨t, ob⟩ : FS).ob i = ⟨v, l, E, sz, es⟩ := h
  refine ⟨β, hF.lives i l' (fun e => by rw [hbo]; exact hm e) (fun hd => by rw [hbo] at hd; exact absurd hd hl) (fun e => by rw [hbo]; exact hs e) (fun k => ?_) (fun k => rfl) (fun e ho => by rw [hbo] at ho ⊢; exact htr _ _ _ _ _ _ e ho)⟩
  show look {} ((i, _) :: ob) k = _
  rw [look_cons]
  show _ = if i = k then { (look {} ob i) with life := l' } else _
  rw [h]
  rfl
/-- a row becomes one whose cells may hold handles -/
theorem FLe.toH {t : List (Nat × FV)} {ob : List (Nat × FObj)} {i v E : Nat} {es : List (List FV)} (h : look {} ob i = ⟨v, .own, E, 1, es⟩) : FLe ⟨t, ob⟩ ⟨t, (i, ⟨v, .hrow, E, 1, es⟩) :: ob⟩ := by
  refine FLe.life h (by decide) (fun _ => rfl) (fun _ => rfl) fun w base I β s b _ ho => ?_
  have hr := ho.rowR rfl
  obtain ⟨v1, us, r1, r2, r3⟩ := hr.row
  have hno : ∀ f ∈ es.flatten, f.hand = none := fun f hf => by have := hr.one f hf; cases f <;> first | rfl | (simp [FV.one] at this)
  exact .ofH ⟨hr.wide, (fun f hf id ver e => by rw [hno f hf] at e; cases e), v1, us, r1, r2, r3.1, fun j u f hu hf => VR.of_rd (r3.2 j u f hu hf) (hno f (List.mem_of_getElem? hf))⟩ rfl
/-- what is known of the room is forgotten -/
theorem FLe.unroom {t : List (Nat × FV)} {ob : List (Nat × FObj)} {i v E sz : Nat} {es : List (List FV)} {l : Life} (h : look {} ob i = ⟨v, l, E, sz, es⟩) (hl : l = .roomy ∨ l = .full) : FLe ⟨t, ob⟩ ⟨t, (i, ⟨v, .own, E, sz, es⟩) :: ob⟩ := by
  refine FLe.life h (by rcases hl with rfl | rfl <;> decide) (fun _ => by rcases hl with rfl | rfl <;> rfl) (fun _ => by rcases hl with rfl | rfl <;> rfl) fun w base I β s b _ ho => ?_
  have hr := ho.rowR (by rcases hl with rfl | rfl <;> rfl)
  exact .ofRow ⟨hr.wide, hr.one, hr.row⟩ (.own rfl) rfl

/-- A row has room for one element more, or not. -/
theorem FW.split {c : Ctx} {code : Code} {Q : Exit → FS → Prop} {t : List (Nat × FV)} {ob : List (Nat × FObj)} (i : Nat) {v E sz : Nat} {es : List (List FV)} (h : look {} ob i = ⟨v, .own, E, sz, es⟩)
    (h1 : FW c code Q ⟨t, (i, ⟨v, .roomy, E, sz, es⟩) :: ob⟩) (h2 : FW c code Q ⟨t, (i, ⟨v, .full, E, sz, es⟩) :: ob⟩) : FW c code Q ⟨t, ob⟩ := by
  intro w0 J a w β hF
  have hbo : (⟨t, ob⟩ : FS).ob i = ⟨v, .own, E, sz, es⟩ := h
  have hlive : ((⟨t, ob⟩ : FS).ob i).life ≠ .dead := by rw [hbo]; exact (by decide : Life.own ≠ .dead)
  have key : ∀ l' : Life, l'.mine = true → l'.row = true → RoomR w (β i) ⟨v, l', E, sz, es⟩ → FR c.N w0 J ⟨t, (i, ⟨v, l', E, sz, es⟩) :: ob⟩ a w β := by
    intro l' q1 q2 q3
    refine hF.lives i l' (fun _ => by rw [hbo]; rfl) (fun hd => absurd hd hlive) (fun _ => by rw [hbo]; exact Life.row_slic q2) (fun k => ?_) (fun k => rfl) (fun _ ho => ?_)
    · show look {} ((i, _) :: ob) k = _
      rw [look_cons]
      show _ = if i = k then { (look {} ob i) with life := l' } else _
      rw [h]
      rfl
    · rw [hbo] at ho ⊢
      have hr := ho.rowR rfl
      exact .ofRow ⟨hr.wide, hr.one, hr.row⟩ q3 q2
  have hO := hF.obj i hlive
  rw [hbo] at hO
  obtain ⟨v1, us1, r1, r2, r3⟩ := (hO.rowR rfl).row
  dsimp only at r1 r3
  rcases r1.2 with ⟨rfl, h0⟩ | ⟨b, cap, cur, rfl, _, hgg, hn, hcm, hcs, htk⟩
  · refine h2 w0 J a w β (key .full rfl rfl ?_)
    show ∀ b cur, β i = some b → _
    intro b cur hb
    rw [hb] at r2; simp [Value.ownBlock] at r2
  · have hb : β i = some b := by rw [← r2]; rfl
    rcases Nat.lt_or_ge es.length cap with hlt | hge
    · refine h1 w0 J a w β (key .roomy rfl rfl ⟨b, cur, hb, hgg, ?_⟩)
      show (es.length + 1) * sz ≤ cur.size
      rw [hcs]
      exact Nat.mul_le_mul_right _ hlt
    · refine h2 w0 J a w β (key .full rfl rfl ?_)
      show ∀ b' cur', β i = some b' → w.heap[b']? = some (.cells cur' E (0, 0)) → cur'.size = es.length * sz
      intro b' cur' hb' hc'
      rw [hb] at hb'
      injection hb' with hb'
      subst hb'
      rw [hgg] at hc'
      injection hc' with hc'
      injection hc' with hc' _ _
      rw [← hc', hcs, show cap = es.length by omega]
end Go.Proofs.Ythijndjgchbeoaa
