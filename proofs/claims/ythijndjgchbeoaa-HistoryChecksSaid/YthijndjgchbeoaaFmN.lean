/-
  States told anew: objects under other names, an object shut, a handle read as a list.
-/
import Derived.Test.YthijndjgchbeoaaFmM
namespace Go.Proofs.Ythijndjgchbeoaa
set_option linter.unusedVariables false
open Go.RowKit

/-- an object of the new state: its name, the old one (none: of nothing yet), the old version, what it is now -/
structure Ent where
  new : Nat
  src : Option Nat
  vo : Nat
  b : FObj

inductive EntsOk (ob : List (Nat × FObj)) : List Ent → Prop where
  | nil : EntsOk ob []
  | old {i' i vo v E sz : Nat} {lf : Life} {es es' : List (List FV)} {M : List Ent} (h : look {} ob i = ⟨vo, lf, E, sz, es⟩) (hl : lf ≠ .dead) (e : es = es') (hM : EntsOk ob M) : EntsOk ob (⟨i', some i, vo, ⟨v, lf, E, sz, es'⟩⟩ :: M)
  | new {i' vo v E sz : Nat} {M : List Ent} (hM : EntsOk ob M) : EntsOk ob (⟨i', none, vo, ⟨v, .own, E, sz, []⟩⟩ :: M)
theorem EntsOk.get {ob : List (Nat × FObj)} {M : List Ent} (h : EntsOk ob M) : ∀ e ∈ M, e.b.life ≠ .dead ∧ (∀ i, e.src = some i → look {} ob i = ⟨e.vo, e.b.life, e.b.E, e.b.sz, e.b.es⟩) ∧ (e.src = none → e.b.life = .own ∧ e.b.es = []) := by
  induction h with
  | nil => intro e he; simp at he
  | old h hl e hM ih =>
    intro q hq
    rcases List.mem_cons.1 hq with rfl | hq
    · refine ⟨hl, fun i hi => ?_, fun hi => by cases hi⟩
      injection hi with hi
      subst hi
      rw [h, e]
    · exact ih q hq
  | new hM ih =>
    intro q hq
    rcases List.mem_cons.1 hq with rfl | hq
    · exact ⟨by simp, (fun i hi => by cases hi), fun _ => ⟨rfl, rfl⟩⟩
    · exact ih q hq

/-- a slot of the new state -/
inductive SlE (t : List (Nat × FV)) (M : List Ent) : Nat → FV → Prop where
  | plain {d : Nat} {f f' : FV} (h : look .undef t d = f) (hn : f.hand = none) (e : f = f') : SlE t M d f'
  | own {d i i' v v' o n n' : Nat} {b : FObj} (h : look .undef t d = (.own i v o n)) (hm : (⟨i', some i, v, b⟩ : Ent) ∈ M) (hv : b.ver = v') (e : n = n') : SlE t M d (.own i' v' o n')
  | ptr {d i i' v v' j o : Nat} {b : FObj} (h : look .undef t d = (.ptr i v j o)) (hm : (⟨i', some i, v, b⟩ : Ent) ∈ M) (hv : b.ver = v') : SlE t M d (.ptr i' v' j o)
  | nil {d i' vo v' : Nat} {b : FObj} (h : look .undef t d = .nil) (hm : (⟨i', none, vo, b⟩ : Ent) ∈ M) (hv : b.ver = v') : SlE t M d (.own i' v' 0 0)
  | nilList {d sz : Nat} (h : look .undef t d = .nil) : SlE t M d (.list sz [])
inductive SlC (t : List (Nat × FV)) (M : List Ent) : List (Nat × FV) → Prop where
  | nil : SlC t M []
  | cons {d : Nat} {f : FV} {t' : List (Nat × FV)} (h : SlE t M d f) (hs : SlC t M t') : SlC t M ((d, f) :: t')
theorem SlC.get {t : List (Nat × FV)} {M : List Ent} {t' : List (Nat × FV)} (h : SlC t M t') (d : Nat) : look .undef t' d = .undef ∨ SlE t M d (look .undef t' d) := by
  induction h with
  | nil => exact .inl rfl
  | cons h hs ih =>
    rw [look_cons]
    split
    · rename_i e; subst e; exact .inr h
    · exact ih

def lookM (M : List Ent) (k : Nat) : Option Ent := look none (M.map fun e => (e.new, some e)) k
theorem lookM_some : ∀ {M : List Ent} {k : Nat} {e : Ent}, lookM M k = some e → e ∈ M ∧ e.new = k
  | [], _, _, h => by cases h
  | q :: M, k, e, h => by
    unfold lookM at h
    rw [List.map_cons, look_cons] at h
    split at h
    · rename_i hk; injection h with h; subst h; exact ⟨by simp, hk⟩
    · have := lookM_some (M := M) h; exact ⟨by simp [this.1], this.2⟩
theorem lookM_mem : ∀ {M : List Ent} (_ : (M.map Ent.new).Nodup) {e : Ent}, e ∈ M → lookM M e.new = some e
  | [], _, _, h => by simp at h
  | q :: M, hn, e, h => by
    unfold lookM
    rw [List.map_cons, look_cons]
    rw [List.map_cons, List.nodup_cons] at hn
    rcases List.mem_cons.1 h with rfl | h
    · rw [if_pos rfl]
    · rw [if_neg (fun hq => hn.1 (List.mem_map.2 ⟨e, h, hq.symm⟩))]
      exact lookM_mem hn.2 h
theorem lookM_ob : ∀ (M : List Ent) (k : Nat), look {} (M.map fun e => (e.new, e.b)) k = ((lookM M k).map Ent.b).getD {}
  | [], _ => rfl
  | q :: M, k => by
    unfold lookM
    rw [List.map_cons, List.map_cons, look_cons, look_cons]
    split
    · rfl
    · exact lookM_ob M k
theorem filterMap_inj : ∀ {M : List Ent} (_ : (M.filterMap Ent.src).Nodup) {e q : Ent} {i : Nat}, e ∈ M → q ∈ M → e.src = some i → q.src = some i → e = q
  | [], _, _, _, _, h, _, _, _ => by simp at h
  | p :: M, hn, e, q, i, he, hq, h1, h2 => by
    have key : ∀ x ∈ M, x.src = some i → p.src = some i → False := fun x hx hxs hps => by
      rw [List.filterMap_cons, hps] at hn
      exact (List.nodup_cons.1 hn).1 (List.mem_filterMap.2 ⟨x, hx, hxs⟩)
    have hn' : (M.filterMap Ent.src).Nodup := by
      rw [List.filterMap_cons] at hn
      cases hp : p.src with
      | none => rw [hp] at hn; exact hn
      | some j => rw [hp] at hn; exact (List.nodup_cons.1 hn).2
    rcases List.mem_cons.1 he with rfl | he
    · rcases List.mem_cons.1 hq with rfl | hq'
      · rfl
      · exact (key q hq' h2 h1).elim
    · rcases List.mem_cons.1 hq with rfl | hq'
      · exact (key e (by assumption) h1 h2).elim
      · exact filterMap_inj hn' (by assumption) hq' h1 h2

theorem FLe.conv {t t' : List (Nat × FV)} {ob : List (Nat × FObj)} (M : List Ent) (hk : (M.map Ent.new).Nodup) (hs : (M.filterMap Ent.src).Nodup) (ho : EntsOk ob M) (ht : SlC t M t') : FLe ⟨t, ob⟩ ⟨t', M.map fun e => (e.new, e.b)⟩ := by
  intro N w0 J a w β hF
  refine ⟨fun k => (lookM M k).bind fun e => e.src.bind β, ?_⟩
  have hE := ho.get
  have hob : ∀ k, (⟨t', M.map fun e => (e.new, e.b)⟩ : FS).ob k = ((lookM M k).map Ent.b).getD {} := fun k => lookM_ob M k
  have hmem : ∀ e ∈ M, (⟨t', M.map fun e => (e.new, e.b)⟩ : FS).ob e.new = e.b := fun e he => by rw [hob, lookM_mem hk he]; rfl
  have hβ : ∀ e ∈ M, ((lookM M e.new).bind fun e => e.src.bind β) = e.src.bind β := fun e he => by rw [lookM_mem hk he]; rfl
  have hlive : ∀ k, ((⟨t', M.map fun e => (e.new, e.b)⟩ : FS).ob k).life ≠ .dead → ∃ e ∈ M, e.new = k := fun k hl => by
    rw [hob] at hl
    cases hm : lookM M k with
    | none => rw [hm] at hl; exact absurd rfl hl
    | some e => exact ⟨e, lookM_some hm⟩
  have hold : ∀ e ∈ M, ∀ i, e.src = some i → (⟨t, ob⟩ : FS).ob i = ⟨e.vo, e.b.life, e.b.E, e.b.sz, e.b.es⟩ := fun e he i hi => (hE e he).2.1 i hi
  have hI : ∀ b, Imm J w β ⟨t, ob⟩ b → Imm J w (fun k => (lookM M k).bind fun e => e.src.bind β) ⟨t', M.map fun e => (e.new, e.b)⟩ b ∧ w.heap[b]? = w.heap[b]? := fun b hb => by
    refine ⟨⟨hb.1, hb.2.1, fun id hl => ?_⟩, rfl⟩
    obtain ⟨e, he, rfl⟩ := hlive id (by rw [hl]; decide)
    rw [hmem e he] at hl
    dsimp only
    rw [hβ e he]
    cases hsrc : e.src with
    | none => simp
    | some i => exact hb.2.2 i (by rw [hold e he i hsrc]; exact hl)
  have hown : ∀ e ∈ M, ∀ i, e.src = some i → ∀ v o n, OwnV w (β i) ((⟨t, ob⟩ : FS).ob i) v o n → OwnV w ((lookM M e.new).bind fun e => e.src.bind β) ((⟨t', M.map fun e => (e.new, e.b)⟩ : FS).ob e.new) v o n := fun e he i hi v o n h => by
    rw [hβ e he, hi, hmem e he]
    rw [hold e he i hi] at h
    exact ⟨h.ex⟩
  refine { size := hF.size, defers := hF.defers, bel := hF.bel, fresh := hF.fresh, slot := fun d => ?_, vers := fun d id ver hh => ?_, obj := fun id hl => ?_, inj := fun id id' b hl hl' e e' => ?_ }
  · show VR _ _ _ _ _ (look .undef t' d)
    rcases ht.get d with h | h
    · rw [h]; exact VR.of_rd (.undef _) rfl
    · generalize look FV.undef t' d = f at h ⊢
      cases h with
      | plain h hn e =>
        rw [← e]
        exact VR.of_rd ((hF.ev_rd (x := .tmp d) h hn).mono hI) hn
      | own h hm hv e =>
        intro _ _
        subst e
        have h1 := hold _ hm _ rfl
        exact hown _ hm _ rfl _ _ _ (hF.ev_own (x := .tmp d) h (by rw [h1]; exact (hE _ hm).1) (by rw [h1]))
      | @ptr i i' v v' j o b h hm hv =>
        intro _ _
        have h1 := hold _ hm _ rfl
        obtain ⟨bb, hb, hp⟩ := hF.ev_ptr (x := .tmp d) h (by rw [h1]; exact (hE _ hm).1) (by rw [h1])
        refine ⟨bb, ?_, ?_⟩
        · have := hβ _ hm; dsimp only at this ⊢; rw [this]; exact hb
        · have h2 := hmem _ hm
          dsimp only at h2
          rw [h2]
          rw [h1] at hp
          exact hp
      | @nil i' vo v' b h hm hv =>
        intro _ _
        have h2 := hmem _ hm
        have h3 := hβ _ hm
        dsimp only at h2 h3
        have hnil := hF.ev_nil (x := .tmp d) h
        have hnil' : a.tmps.getD d undef = .slice none 0 0 := hnil
        rw [hnil']
        dsimp only
        rw [h2, h3]
        exact ⟨none, 0, rfl, Nat.le_refl _, by omega, fun _ => ⟨rfl, rfl⟩, fun b hb => by simp at hb⟩
      | nilList h =>
        have hnil := hF.ev_nil (x := .tmp d) h
        have hnil' : a.tmps.getD d undef = .slice none 0 0 := hnil
        rw [hnil']
        exact .list none 0 0 _ [] [] rfl (Nat.le_refl _) (by simp) (by simp) (by simp) (by simp) (by simp)
  · have hh' : (look FV.undef t' d).hand = some (id, ver) := hh
    rcases ht.get d with h | h
    · rw [h] at hh'; cases hh'
    · generalize look FV.undef t' d = f at h hh'
      cases h with
      | plain h hn e => rw [← e, hn] at hh'; cases hh'
      | own h hm hv e =>
        simp only [FV.hand, Option.some.injEq, Prod.mk.injEq] at hh'
        obtain ⟨rfl, rfl⟩ := hh'
        have h2 := hmem _ hm
        dsimp only at h2
        rw [h2, hv]; exact Nat.le_refl _
      | ptr h hm hv =>
        simp only [FV.hand, Option.some.injEq, Prod.mk.injEq] at hh'
        obtain ⟨rfl, rfl⟩ := hh'
        have h2 := hmem _ hm
        dsimp only at h2
        rw [h2, hv]; exact Nat.le_refl _
      | nil h hm hv =>
        simp only [FV.hand, Option.some.injEq, Prod.mk.injEq] at hh'
        obtain ⟨rfl, rfl⟩ := hh'
        have h2 := hmem _ hm
        dsimp only at h2
        rw [h2, hv]; exact Nat.le_refl _
      | nilList h => cases hh'
  · obtain ⟨e, he, rfl⟩ := hlive id hl
    rw [hmem e he, hβ e he]
    cases hsrc : e.src with
    | none =>
      obtain ⟨h1, h2⟩ := (hE e he).2.2 hsrc
      refine ⟨by rw [h2]; simp, by rw [h2]; simp, .slice none 0 0, [], ?_, rfl, ?_⟩
      · rw [h2]; exact World.ownsRow_nil _ _ _ _
      · rw [h2]; exact RdL.nil
    | some i =>
      have h1 := hold e he i hsrc
      have h2 := hF.obj i (by rw [h1]; exact (hE e he).1)
      rw [h1] at h2
      have h3 := h2.mono hI (fun _ _ => rfl)
      exact ⟨h3.wide, h3.one, h3.row⟩
  · obtain ⟨q, hq, rfl⟩ := hlive id hl
    obtain ⟨q', hq', rfl⟩ := hlive id' hl'
    rw [hβ q hq] at e
    rw [hβ q' hq'] at e'
    cases hs1 : q.src with
    | none => rw [hs1] at e; simp at e
    | some i =>
      cases hs2 : q'.src with
      | none => rw [hs2] at e'; simp at e'
      | some i' =>
        rw [hs1] at e
        rw [hs2] at e'
        have h1 := hold q hq i hs1
        have h2 := hold q' hq' i' hs2
        have := hF.inj i i' b (by rw [h1]; exact (hE q hq).1) (by rw [h2]; exact (hE q' hq').1) e e'
        subst this
        rw [filterMap_inj hs hq hq' hs1 hs2]

/-- an object shut: it is read alone from now on -/
theorem FLe.shut {t : List (Nat × FV)} {ob : List (Nat × FObj)} {i v E sz : Nat} {es : List (List FV)} (h : look {} ob i = ⟨v, .own, E, sz, es⟩) : FLe ⟨t, ob⟩ ⟨t, (i, ⟨v, .shut, E, sz, es⟩) :: ob⟩ := by
  intro N w0 J a w β hF
  refine ⟨β, hF.lives i .shut (by decide) (fun hd => ?_) (fun k => ?_) (fun k => rfl)⟩
  · have hb : (⟨t, ob⟩ : FS).ob i = ⟨v, .own, E, sz, es⟩ := h
    rw [hb] at hd; cases hd
  · show look {} ((i, _) :: ob) k = _
    rw [look_cons]
    show _ = if i = k then { (look {} ob i) with life := .shut } else _
    rw [h]
    rfl
/-- a shut object's handle reads as a list -/
theorem FLe.list {t : List (Nat × FV)} {ob : List (Nat × FObj)} {d i v o n E sz : Nat} {es : List (List FV)} {f : FV} (h : look .undef t d = (.own i v o n)) (hb : look {} ob i = ⟨v, .shut, E, sz, es⟩) (e : .list sz ((es.drop o).take n) = f) : FLe ⟨t, ob⟩ ⟨(d, f) :: t, ob⟩ := by
  intro N w0 J a w β hF
  subst e
  have hbo : (⟨t, ob⟩ : FS).ob i = ⟨v, .shut, E, sz, es⟩ := hb
  have hl := live_of hbo (by decide)
  have hg := hF.ev_own (x := .tmp d) (s := ⟨t, ob⟩) h hl.1 hl.2
  have hrd : Rd w (Imm J w β ⟨t, ob⟩) (a.tmps.getD d undef) (.list sz ((es.drop o).take n)) := by
    have hc : ∃ c : Nat, c = N := ⟨_, rfl⟩
    obtain ⟨A, cc, e1, e2, e3, e4, e5⟩ := hg.ex
    have e1' : a.tmps.getD d undef = .slice A n cc := e1
    rw [e1']
    rw [hbo] at e3 e5
    dsimp only at e3 e5
    have hO := hF.obj i hl.1
    rw [hbo] at hO
    have hw := hO.wide
    have hone := hO.one
    dsimp only at hw hone
    have hwd : ∀ e ∈ es.drop o, e.length = sz := fun e he => hw e (List.mem_of_mem_drop he)
    have hlen : ((es.drop o).take n).length = n := by simp; omega
    have hfl : ((es.drop o).take n).flatten = (es.flatten.drop (o * sz)).take (n * sz) := by rw [flat_take _ hwd, flat_dropE _ hw]
    have hone' : ∀ f ∈ ((es.drop o).take n).flatten, f.one = true := fun f hf => by rw [hfl] at hf; exact hone f (List.mem_of_mem_drop (List.mem_of_mem_take hf))
    cases hbi : β i with
    | none =>
      obtain ⟨rfl, rfl⟩ := e4 hbi
      obtain rfl : n = 0 := by omega
      exact .list none 0 0 _ _ [] (by simp) (Nat.le_refl _) (by simp) (by simp) (by simp) (by simp) (by simp)
    | some b =>
      obtain ⟨o', rfl, k2, k3⟩ := e5 b hbi
      obtain ⟨v', us, r1, r2, r3⟩ := hO.row
      dsimp only at r1 r3
      have hlt := hO.lt hbi
      have hR : RdL w (Imm J w β ⟨t, ob⟩) ((us.drop (o * sz)).take (n * sz)) ((es.drop o).take n).flatten := by rw [hfl]; exact (r3.drop _).take _
      refine .list _ n cc sz _ _ hlen e2 (fun e he => hwd e (List.mem_of_mem_take he)) hone' (fun h0 => ⟨b, o', rfl, ⟨hlt.2, hF.fresh b hlt.1, fun id' hl' e => ?_⟩, fun j u hu => ?_⟩) hR.1 hR.2
      · have := hF.inj i id' b hl.1 (by rw [hl']; decide) hbi e
        subst this
        rw [hbo] at hl'; cases hl'
      · have := k2 (.inl (by omega))
        subst this
        rw [List.getElem?_take] at hu
        split at hu
        · rw [List.getElem?_drop] at hu
          have hcell := r1.cells (g := b) (by rw [r2]; exact hbi) _ u hu
          rwa [add_none, Nat.zero_add] at hcell
        · cases hu
  refine ⟨β, ?_⟩
  have hlt : ∃ q : FS, q = ⟨(d, .list sz ((es.drop o).take n)) :: t, ob⟩ := ⟨_, rfl⟩
  refine hF.step (C := fun _ => False) hF.size hF.defers hF.bel (fun b hb => ⟨hb, rfl⟩) (fun k => ?_) (fun id _ => ⟨rfl, rfl, fun _ _ _ => rfl⟩) (fun _ h => h.elim) (fun _ h => h.elim) (fun _ h => h.elim) hF.inj
  show (_ ∧ look .undef ((d, _) :: t) k = look .undef t k) ∨ _
  by_cases hdk : d = k
  · subst hdk
    right
    have : (⟨(d, .list sz ((es.drop o).take n)) :: t, ob⟩ : FS).get d = .list sz ((es.drop o).take n) := by show look _ _ _ = _; rw [look_cons, if_pos rfl]
    rw [this]
    exact ⟨VR.of_rd (hrd.mono (fun b hb => ⟨hb, rfl⟩)) rfl, fun id ver e => by cases e⟩
  · left
    exact ⟨rfl, by rw [look_cons, if_neg hdk]⟩
/-- a handle on the whole of an object of its own: shut, and read as a list -/
theorem FLe.share {t : List (Nat × FV)} {ob : List (Nat × FObj)} (d : Nat) {i v n E sz : Nat} {es : List (List FV)} (h : look .undef t d = .own i v 0 n) (hb : look {} ob i = ⟨v, .own, E, sz, es⟩) (hn : n = es.length) :
    FLe ⟨t, ob⟩ ⟨(d, .list sz es) :: t, (i, ⟨v, .shut, E, sz, es⟩) :: ob⟩ :=
  (FLe.shut hb).trans (FLe.list (d := d) h (by rw [look_cons, if_pos rfl]) (by rw [hn, List.drop_zero, List.take_length]))
/-- a handle on the whole of a shut object -/
theorem FLe.again {t : List (Nat × FV)} {ob : List (Nat × FObj)} (d : Nat) {i v n E sz : Nat} {es : List (List FV)} (h : look .undef t d = .own i v 0 n) (hb : look {} ob i = ⟨v, .shut, E, sz, es⟩) (hn : n = es.length) :
    FLe ⟨t, ob⟩ ⟨(d, .list sz es) :: t, ob⟩ := FLe.list (d := d) h hb (by rw [hn, List.drop_zero, List.take_length])
end Go.Proofs.Ythijndjgchbeoaa
