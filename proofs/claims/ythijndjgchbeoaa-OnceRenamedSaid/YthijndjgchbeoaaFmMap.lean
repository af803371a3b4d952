/-
  Maps on plain values: made, looked up, written.
-/
import Derived.Test.YthijndjgchbeoaaFmH
namespace Go.Proofs.Ythijndjgchbeoaa
set_option linter.unusedVariables false
open Go.RowKit Go.Maps Go.MapKept Go.ChangeMaps

theorem Rd.simple_val {w : World} {I : Nat → Prop} {v : Value} {f : FV} (h : Rd w I v f) (hf : f.simple = true) : v = f.val := by
  have one : ∀ {u : Value} {g : FV}, Rd w I u g → g.simple1 = true → u = g.val1 := by
    intro u g hu hg
    cases hu <;> first | rfl | (simp [FV.simple1] at hg)
  cases h with
  | agg us fs hl hr =>
    show Value.agg us.toArray = Value.agg (fs.map FV.val1).toArray
    congr 2
    refine List.ext_getElem? fun j => ?_
    rw [List.getElem?_map]
    rcases Nat.lt_or_ge j us.length with hj | hj
    · have hj2 : j < fs.length := by rw [← hl]; exact hj
      have e1 : us[j]? = some us[j] := by simp [hj]
      have e2 : fs[j]? = some fs[j] := by simp [hj2]
      rw [e1, e2, Option.map_some]
      congr 1
      exact one (hr j _ _ e1 e2) (List.all_eq_true.1 hf _ (List.getElem_mem hj2))
    · have hj2 : fs.length ≤ j := by rw [← hl]; exact hj
      simp [hj, hj2]
  | int k n => rfl
  | bool b => rfl
  | str s => rfl
  | _ => simp [FV.simple, FV.simple1] at hf
theorem val1_inj {f g : FV} (hf : f.simple1 = true) (hg : g.simple1 = true) (h : f.val1 = g.val1) : f = g := by
  cases f <;> simp [FV.simple1] at hf <;> cases g <;> simp [FV.simple1] at hg <;> simp [FV.val1] at h <;> first | (obtain ⟨rfl, rfl⟩ := h; rfl) | (subst h; rfl)
theorem map_val1_inj : ∀ {fs gs : List FV}, fs.all FV.simple1 = true → gs.all FV.simple1 = true → fs.map FV.val1 = gs.map FV.val1 → fs = gs
  | [], [], _, _, _ => rfl
  | [], _ :: _, _, _, h => by simp at h
  | _ :: _, [], _, _, h => by simp at h
  | f :: fs, g :: gs, hf, hg, h => by
    simp only [List.all_cons, Bool.and_eq_true] at hf hg
    simp only [List.map_cons, List.cons.injEq] at h
    rw [val1_inj hf.1 hg.1 h.1, map_val1_inj hf.2 hg.2 h.2]
theorem val_inj {f g : FV} (hf : f.simple = true) (hg : g.simple = true) (h : f.val = g.val) : f = g := by
  cases f with
  | agg cs =>
    cases g with
    | agg ds =>
      have : (cs.map FV.val1).toArray = (ds.map FV.val1).toArray := by simpa [FV.val] using h
      rw [map_val1_inj hf hg (by simpa using congrArg Array.toList this)]
    | _ => first | (simp [FV.simple, FV.simple1] at hg; done) | (simp [FV.val, FV.val1] at h)
  | int k n =>
    cases g <;> first | (simp [FV.simple, FV.simple1] at hg; done) | (simp [FV.val, FV.val1] at h; done) | exact val1_inj hf hg h
  | bool b =>
    cases g <;> first | (simp [FV.simple, FV.simple1] at hg; done) | (simp [FV.val, FV.val1] at h; done) | exact val1_inj hf hg h
  | str b =>
    cases g <;> first | (simp [FV.simple, FV.simple1] at hg; done) | (simp [FV.val, FV.val1] at h; done) | exact val1_inj hf hg h
  | _ => simp [FV.simple, FV.simple1] at hf

/-- fit for a key of this type -/
def KeyF (P : Program) (k : TypeId) (kf : FV) : Prop := kf.simple = true ∧ ∃ l, keyOf P k kf.val = some l
/-- the first value of a type -/
def TS.zfv (ts : TS) : FV :=
  match ts.k.agg? with
  | some true => .agg ts.zero
  | _ => ts.zero.headD .undef
/-- what is found under a key -/
def MLook (es : List (List FV)) (kf z : FV) (vf : FV) (b : Bool) : Prop := (b = true ∧ [kf, vf] ∈ es) ∨ (b = false ∧ vf = z ∧ ∀ row ∈ es, row.head? ≠ some kf)
/-- what is in the map when a value is set under a key -/
def MSet (es : List (List FV)) (kf vf : FV) (es' : List (List FV)) : Prop :=
  (∃ (j : Nat) (v0 : FV), es[j]? = some [kf, v0] ∧ es' = es.set j [kf, vf]) ∨ ((∀ row ∈ es, row.head? ≠ some kf) ∧ es' = es ++ [[kf, vf]])

/-- what is in a map's block -/
structure Mp (w : World) (I : Nat → Prop) (b clock : Nat) (ents : Array MapEntry) (es : List (List FV)) : Prop where
  hb : w.heap[b]? = some (.map ents clock)
  st : Stamped ents clock
  sz : ents.size = es.length
  ks : ∀ (j : Nat) e row, ents[j]? = some e → es[j]? = some row → ∃ kf vf, row = [kf, vf] ∧ kf.simple = true ∧ e.key = kf.val
  vs : ∀ (j : Nat) e row f, ents[j]? = some e → es[j]? = some row → row[1]? = some f → Rd w I e.val f

section
variable {w : World} {I : Nat → Prop} {b clock : Nat} {ents : Array MapEntry} {es : List (List FV)} {P : Program}
theorem Mp.row (h : Mp w I b clock ents es) {j : Nat} {e : MapEntry} (he : ents[j]? = some e) : ∃ kf vf, es[j]? = some [kf, vf] ∧ kf.simple = true ∧ e.key = kf.val ∧ Rd w I e.val vf := by
  have hj : j < es.length := by rw [← h.sz]; exact (Array.getElem?_eq_some_iff.1 he).1
  have hr : es[j]? = some es[j] := by simp [hj]
  obtain ⟨kf, vf, e1, e2, e3⟩ := h.ks j e _ he hr
  refine ⟨kf, vf, by rw [hr, e1], e2, e3, h.vs j e _ vf he hr (by rw [e1]; rfl)⟩
theorem Mp.ent (h : Mp w I b clock ents es) {j : Nat} {row : List FV} (hr : es[j]? = some row) : ∃ e, ents[j]? = some e := by
  have hj : j < ents.size := by rw [h.sz]; exact (List.getElem?_eq_some_iff.1 hr).1
  exact ⟨ents[j], by simp [hj]⟩
theorem Mp.keys (h : Mp w I b clock ents es) {k : TypeId} (hk : ∀ row ∈ es, ∀ kf, row.head? = some kf → KeyF P k kf) : ∀ e ∈ ents.toList, ∃ l, keyOf P k e.key = some l := fun e he => by
  obtain ⟨j, hj⟩ := List.getElem?_of_mem he
  have hj' : ents[j]? = some e := by simpa using hj
  obtain ⟨kf, vf, e1, _, e3, _⟩ := h.row hj'
  obtain ⟨_, l, hl⟩ := hk _ (List.mem_of_getElem? e1) kf rfl
  exact ⟨l, by rw [e3]; exact hl⟩
/-- where a key is -/
theorem Mp.find (h : Mp w I b clock ents es) {k : TypeId} (K : Keyed P k) (hk : ∀ row ∈ es, ∀ kf, row.head? = some kf → KeyF P k kf) {kf : FV} (hkf : KeyF P k kf) :
    ((Instr.findKey k kf.val ents.toList).run P w = .ok none w ∧ (∀ e ∈ ents.toList, e.key ≠ kf.val) ∧ ∀ row ∈ es, row.head? ≠ some kf) ∨
    ∃ (j : Nat) (e : MapEntry) (vf : FV), (Instr.findKey k kf.val ents.toList).run P w = .ok (some (j, e.val)) w ∧ ents[j]? = some e ∧ e.key = kf.val ∧ es[j]? = some [kf, vf] ∧ Rd w I e.val vf ∧ ∀ i v, es[i]? = some [kf, v] → i = j := by
  obtain ⟨hs, l, hl⟩ := hkf
  rcases K.find w hl ents.toList (h.keys hk) with ⟨h1, h2⟩ | ⟨j, e0, h1, h2, h3⟩
  · refine .inl ⟨h1, h2, fun row hr hh => ?_⟩
    obtain ⟨j, hj⟩ := List.getElem?_of_mem hr
    obtain ⟨e, he⟩ := h.ent hj
    obtain ⟨kf', vf, e1, _, e3, _⟩ := h.row he
    rw [hj] at e1
    injection e1 with e1
    subst e1
    injection hh with hh
    subst hh
    exact h2 e (List.mem_of_getElem? (by simpa using he)) e3
  · have h2' : ents[j]? = some e0 := by simpa using h2
    obtain ⟨kf', vf, e1, e2, e3, e4⟩ := h.row h2'
    have : kf' = kf := val_inj e2 hs (by rw [← e3, h3])
    subst this
    refine .inr ⟨j, e0, vf, h1, h2', h3, e1, e4, fun i v hi => ?_⟩
    obtain ⟨e, he⟩ := h.ent hi
    obtain ⟨kf'', vf', q1, _, q3, _⟩ := h.row he
    rw [hi] at q1
    injection q1 with q1
    injection q1 with q1 _
    subst q1
    have hd := ((stamped_iff ents clock).1 h.st).2.2
    have hil : i < ents.toList.length := by have := (Array.getElem?_eq_some_iff.1 he).1; simpa using this
    have hjl : j < ents.toList.length := by have := (Array.getElem?_eq_some_iff.1 h2').1; simpa using this
    have ei : ents.toList[i].key = kf'.val := by have := (Array.getElem?_eq_some_iff.1 he).2; simp only [Array.getElem_toList]; rw [this, q3]
    have ej : ents.toList[j].key = kf'.val := by have := (Array.getElem?_eq_some_iff.1 h2').2; simp only [Array.getElem_toList]; rw [this, h3]
    rcases Nat.lt_trichotomy i j with hlt | heq | hgt
    · exact absurd (ei.trans ej.symm) (List.pairwise_iff_getElem.1 hd i j hil hjl hlt)
    · exact heq
    · exact absurd (ej.trans ei.symm) (List.pairwise_iff_getElem.1 hd j i hjl hil hgt)
end

section
variable {c : Ctx} {w0 w : World} {J : Nat → Prop} {s : FS} {a : Act} {β : Nat → Option Nat} {dst : Option Nat} {ty : TypeId} {pos : String} {after : Array Edge} {g : Option (Nat × Bool)}

theorem run_zeroF {c : Ctx} {T : Nat} {bb : Bool} (hk : (c.ty T).k.agg? = some bb) (w : World) (I : Nat → Prop) : ∃ z, (zeroValue T).run c.P w = .ok z w ∧ Rd w I z (c.ty T).zfv := by
  obtain ⟨d, i, z, h⟩ := c.get rfl (agg_ne hk)
  refine ⟨z, by simp [zeroValue, typeInfo, h.info, h.zo], ?_⟩
  have hz := RdL.zeros (w := w) (I := I) h.zr
  have hzk := h.zk
  unfold zkind at hzk
  unfold TS.zfv
  rw [hk] at hzk ⊢
  cases bb with
  | true =>
    dsimp only at hzk ⊢
    cases z <;> simp at hzk
    rename_i cs
    have := Rd.agg (w := w) (I := I) cs.toList (c.ty T).zero hz.1 hz.2
    simpa using this
  | false =>
    dsimp only at hzk ⊢
    have hc : z.cells.toList = [z] := by
      cases z <;> first | rfl | (simp at hzk)
    rw [hc] at hz
    cases hzz : (c.ty T).zero with
    | nil => rw [hzz] at hz; have := hz.1; simp at this
    | cons f fs => rw [hzz] at hz; exact hz.2 0 z f rfl rfl

theorem run_lookF {T k e : Nat} (hT : (c.ty T).k = .map k e) {bb : Bool} (he : (c.ty e).k.agg? = some bb) (K : Keyed c.P k) {I : Nat → Prop} {b clock : Nat} {ents : Array MapEntry} {es : List (List FV)} (h : Mp w I b clock ents es)
    (hk : ∀ row ∈ es, ∀ kf, row.head? = some kf → KeyF c.P k kf) {kf : FV} (hkf : KeyF c.P k kf) (ok : Bool) {vf : FV} {found : Bool} (hl : MLook es kf (c.ty e).zfv vf found) :
    ∃ v, (Instr.lookup T (.map (some b)) kf.val ok).run c.P w = .ok v w ∧ Rd w I v (if ok then .tup [vf, .bool found] else vf) := by
  obtain ⟨d, ii, z, ht⟩ := c.get hT (by simp)
  have hd := ht.k
  rw [hT] at hd
  obtain rfl := kind_map hd
  obtain ⟨l, hll⟩ := hkf.2
  obtain ⟨zv, hz, hzr⟩ := run_zeroF he w I
  rcases h.find K hk hkf with ⟨h1, _, h2⟩ | ⟨j, e0, vf', h1, h2, h3, h4, h5, h6⟩
  · have hv : vf = (c.ty e).zfv ∧ found = false := by
      rcases hl with ⟨_, hm⟩ | ⟨hb, hv, _⟩
      · exact absurd rfl (h2 _ hm)
      · exact ⟨hv, hb⟩
    obtain ⟨rfl, rfl⟩ := hv
    cases ok
    · exact ⟨zv, by simp [Instr.lookup, run_underlying ht.u, MapKept.run_getObj_map h.hb, K.check w _ hll, h1, hz, Result.andThen], hzr⟩
    · refine ⟨.tuple #[zv, .bool false], by simp [Instr.lookup, run_underlying ht.u, MapKept.run_getObj_map h.hb, K.check w _ hll, h1, hz, Result.andThen], ?_⟩
      have := RdL.cons hzr (RdL.cons (Rd.bool (w := w) (I := I) false) RdL.nil)
      exact .tup [zv, .bool false] _ this.1 this.2
  · have hv : vf = vf' ∧ found = true := by
      rcases hl with ⟨hb, hm⟩ | ⟨_, _, hm⟩
      · obtain ⟨i, hi⟩ := List.getElem?_of_mem hm
        have := h6 i vf hi
        subst this
        rw [h4] at hi
        simp at hi
        exact ⟨hi.symm, hb⟩
      · exact absurd rfl (hm _ (List.mem_of_getElem? h4))
    obtain ⟨rfl, rfl⟩ := hv
    cases ok
    · exact ⟨e0.val, by simp [Instr.lookup, run_underlying ht.u, MapKept.run_getObj_map h.hb, K.check w _ hll, h1, Result.andThen], h5⟩
    · refine ⟨.tuple #[e0.val, .bool true], by simp [Instr.lookup, run_underlying ht.u, MapKept.run_getObj_map h.hb, K.check w _ hll, h1, Result.andThen], ?_⟩
      have := RdL.cons h5 (RdL.cons (Rd.bool (w := w) (I := I) true) RdL.nil)
      exact .tup [e0.val, .bool true] _ this.1 this.2

theorem FR.mp (h : FR c.N w0 J s a w β) {x : Operand} {id ver : Nat} (ex : s.ev x = .omap id ver) (hl : s.live id ver) : ∃ b clock ents, a.eval x = .map (some b) ∧ β id = some b ∧ Mp w (Imm J w β s) b clock ents (s.ob id).es := by
  obtain ⟨hrow, b, hb, hv⟩ := h.ev_omap ex hl.1 hl.2
  obtain ⟨b', clock, ents, h1, h2, h3, h4, h5, h6, h7⟩ := ((h.obj id hl.1).mapR hrow).ex
  rw [hb] at h1
  injection h1 with h1
  subst h1
  exact ⟨b, clock, ents, hv, hb, h3, h4, h5, h6, h7⟩
theorem FR.smp (h : FR c.N w0 J s a w β) {x : Operand} {es : List (List FV)} (ex : s.ev x = .smap es) : ∃ b clock ents, a.eval x = .map (some b) ∧ Mp w (Imm J w β s) b clock ents es := by
  have hr := h.ev_rd ex rfl
  generalize a.eval x = v at hr
  cases hr with
  | smap b clock ents es hI hb hst hl hk hr => exact ⟨b, clock, ents, rfl, hb, hst, hl, hk, hr⟩

theorem good_look (h : FR c.N w0 J s a w β) {T k e : Nat} (hT : (c.ty T).k = .map k e) {bb : Bool} (he : (c.ty e).k.agg? = some bb) (K : Keyed c.P k) (x y : Operand) (ok : Bool) {es : List (List FV)}
    (ex : (∃ id ver, s.ev x = .omap id ver ∧ s.live id ver ∧ (s.ob id).es = es) ∨ s.ev x = .smap es) {kf : FV} (ey : s.ev y = kf) (hk : ∀ row ∈ es, ∀ kf, row.head? = some kf → KeyF c.P k kf) (hkf : KeyF c.P k kf)
    {vf : FV} {found : Bool} (hl : MLook es kf (c.ty e).zfv vf found) (hn : vf.hand = none) :
    Good c w0 J s a ⟨dst, .lookup T x y ok, ty, pos, after, g⟩ w (if ok then .tup [vf, .bool found] else vf) [] := by
  obtain ⟨b, clock, ents, hx, hm⟩ : ∃ b clock ents, a.eval x = .map (some b) ∧ Mp w (Imm J w β s) b clock ents es := by
    rcases ex with ⟨id, ver, e1, e2, rfl⟩ | e1
    · obtain ⟨b, clock, ents, h1, _, h2⟩ := h.mp e1 e2
      exact ⟨b, clock, ents, h1, h2⟩
    · exact h.smp e1
  have hy : a.eval y = kf.val := (h.ev_rd ey (by have := hkf.1; cases kf <;> first | rfl | (simp [FV.simple, FV.simple1] at this))).simple_val hkf.1
  obtain ⟨v, h1, h2⟩ := run_lookF (w := w) hT he K hm hk hkf ok hl
  refine .rd h (v := v) (by simp [execOp, hx, hy, h1]) h2 ?_
  cases ok
  · exact hn
  · rfl

/-- a new map -/
theorem FR.newMap (h : FR c.N w0 J s a w β) (d T : Nat) : FR c.N w0 J (s.set d ⟨(s.ob d).ver + 1, .mapo, T, 0, []⟩) a (w.alloc (.map #[] 0)) (updB β d (some w.heap.size)) := by
  have hb := below_alloc w (.map #[] 0)
  have hI : ∀ b, Imm J w β s b → Imm J (w.alloc (.map #[] 0)) (updB β d (some w.heap.size)) (s.set d ⟨(s.ob d).ver + 1, .mapo, T, 0, []⟩) b ∧ (w.alloc (.map #[] 0)).heap[b]? = w.heap[b]? := fun b hbb => by
    refine ⟨⟨Nat.lt_of_lt_of_le hbb.1 hb.size, hbb.2.1, fun id hl => ?_⟩, hb.block b hbb.1⟩
    rw [FS.ob_set] at hl
    unfold updB
    split at hl
    · rename_i hh; rw [if_pos hh.symm]; intro e; injection e with e; have := hbb.1; omega
    · rename_i hh; rw [if_neg (fun e => hh e.symm)]; exact hbb.2.2 id hl
  refine h.step (C := fun id => id = d) h.size h.defers (h.bel.trans (hb.mono h.bel.size)) hI (fun k => .inl ⟨rfl, rfl⟩) (fun id hC => ?_) (fun id hC => ?_) (fun id hC hl hvv => ?_) (fun id hC hl _ => ?_) ?_
  · refine ⟨by rw [FS.ob_set, if_neg (fun e => hC e.symm)], by unfold updB; rw [if_neg hC], fun hl b hbb => hb.block b ((h.obj id hl).lt hbb).2⟩
  · subst hC; rw [FS.ob_set, if_pos rfl]; exact Nat.le_succ _
  · subst hC; rw [FS.ob_set, if_pos rfl] at hvv; simp at hvv
  · subst hC
    rw [FS.ob_set, if_pos rfl, updB_same]
    exact .ofMap ⟨w.heap.size, 0, #[], rfl, h.bel.size, heap_alloc_new w _, stamped_empty _, rfl, by simp, by simp⟩ rfl
  · intro id id' b hl hl' e e'
    rw [FS.ob_set] at hl hl'
    unfold updB at e e'
    by_cases h1 : id = d
    · by_cases h2 : id' = d
      · rw [h1, h2]
      · rw [if_pos h1] at e; rw [if_neg h2] at e'; rw [if_neg (fun e => h2 e.symm)] at hl'
        injection e with e; have := ((h.obj id' hl').lt e').2; omega
    · by_cases h2 : id' = d
      · rw [if_neg h1] at e; rw [if_pos h2] at e'; rw [if_neg (fun e => h1 e.symm)] at hl
        injection e' with e'; have := ((h.obj id hl).lt e).2; omega
      · rw [if_neg h1] at e; rw [if_neg h2] at e'; rw [if_neg (fun e => h1 e.symm)] at hl; rw [if_neg (fun e => h2 e.symm)] at hl'
        exact h.inj id id' b hl hl' e e'

theorem good_makeMap (h : FR c.N w0 J s a w β) (d T : Nat) : Good c w0 J s a ⟨some d, .makeMap T none, ty, pos, after, g⟩ w (.omap d ((s.ob d).ver + 1)) [(d, ⟨(s.ob d).ver + 1, .mapo, T, 0, []⟩)] := by
  have hob : (s.wr [(d, (⟨(s.ob d).ver + 1, .mapo, T, 0, []⟩ : FObj))]).ob d = ⟨(s.ob d).ver + 1, .mapo, T, 0, []⟩ := (FS.ob_set s d _ d).trans (if_pos rfl)
  refine ⟨.map (some w.heap.size), w.alloc (.map #[] 0), updB β d (some w.heap.size), ?_, h.newMap d T, fun _ _ => ⟨by rw [hob]; rfl, w.heap.size, updB_same _ _ _, rfl⟩, fun id ver e => ?_⟩
  · have := run_makeMap (P := c.P) T w
    simp [execOp, this]
  · simp only [FV.hand, Option.some.injEq, Prod.mk.injEq] at e
    obtain ⟨rfl, rfl⟩ := e
    rw [hob]
    exact Nat.le_refl _

/-- the entries of a map written -/
theorem FR.setMap (h : FR c.N w0 J s a w β) {id b clock clock' : Nat} {ents ents' : Array MapEntry} {es' : List (List FV)} (hl : (s.ob id).life = .mapo) (hb : β id = some b) (hbl : w.heap[b]? = some (.map ents clock)) (st : Stamped ents' clock') (sz : ents'.size = es'.length)
    (ks : ∀ (j : Nat) e row, ents'[j]? = some e → es'[j]? = some row → ∃ kf vf, row = [kf, vf] ∧ kf.simple = true ∧ e.key = kf.val)
    (vs : ∀ (j : Nat) e row f, ents'[j]? = some e → es'[j]? = some row → row[1]? = some f → Rd w (Imm J w β s) e.val f) :
    FR c.N w0 J (s.set id { s.ob id with es := es' }) a (setBlock w b (.map ents' clock')) β := by
  have hlive : (s.ob id).life ≠ .dead := by rw [hl]; decide
  have hlt := (h.obj id hlive).lt hb
  have hg : w.grownBy (setBlock w b (.map ents' clock')) (some b) := ⟨rfl, rfl, rfl, by simp [setBlock], fun i _ hi => heap_setBlock_other hbl _ (fun e => hi (by rw [e]))⟩
  have hI : ∀ b', Imm J w β s b' → Imm J (setBlock w b (.map ents' clock')) β (s.set id { s.ob id with es := es' }) b' ∧ (setBlock w b (.map ents' clock')).heap[b']? = w.heap[b']? := fun b' hbb => by
    refine ⟨⟨Nat.lt_of_lt_of_le hbb.1 hg.size, hbb.2.1, fun id' hl' => ?_⟩, hg.block b' hbb.1 (fun e => hbb.2.2 id (by rw [hl]; rfl) (by rw [hb]; exact e.symm))⟩
    rw [FS.ob_set] at hl'
    split at hl'
    · rename_i e; subst e; exact hbb.2.2 id (by rw [hl]; rfl)
    · exact hbb.2.2 id' hl'
  refine h.step (C := fun k => k = id) h.size h.defers (h.bel.grown hg h.bel.size (fun k hk => by injection hk with hk; subst hk; exact hlt.1)) hI (fun k => .inl ⟨rfl, rfl⟩) (fun k hC => ?_) (fun k hC => ?_) (fun k hC hl2 hvv => ?_) (fun k hC hl2 _ => ?_) ?_
  · refine ⟨by rw [FS.ob_set, if_neg (fun e => hC e.symm)], rfl, fun hl2 b' hbb => hg.block b' ((h.obj k hl2).lt hbb).2 (fun e => hC (h.inj k id b' hl2 hlive hbb (by rw [hb]; exact e.symm)))⟩
  · subst hC; rw [FS.ob_set, if_pos rfl]; exact Nat.le_refl _
  · subst hC
    refine ⟨hlive, rfl, by rw [FS.ob_set, if_pos rfl], by rw [FS.ob_set, if_pos rfl], fun v o n hv => ?_⟩
    have := hv.row
    rw [hl] at this
    cases this
  · subst hC
    rw [FS.ob_set, if_pos rfl]
    exact .ofMap ⟨b, clock', ents', hb, hlt.1, heap_setBlock_same hbl _, st, sz, ks, fun j e row f h1 h2 h3 => (vs j e row f h1 h2 h3).mono hI⟩ (by show (s.ob k).life.slic = false; rw [hl]; rfl)
  · intro k k' b' hl2 hl2' e e'
    refine h.inj k k' b' ?_ ?_ e e'
    · rw [FS.ob_set] at hl2; split at hl2
      · rename_i e; subst e; exact hlive
      · exact hl2
    · rw [FS.ob_set] at hl2'; split at hl2'
      · rename_i e; subst e; exact hlive
      · exact hl2'

theorem good_update (h : FR c.N w0 J s a w β) {T k e : Nat} (hT : (c.ty T).k = .map k e) (K : Keyed c.P k) (x y z : Operand) {id ver : Nat} (ex : s.ev x = .omap id ver) (hlf : (s.ob id).life = .mapo) (hver : (s.ob id).ver = ver)
    {kf vf : FV} (ey : s.ev y = kf) (ez : s.ev z = vf) (hk : ∀ row ∈ (s.ob id).es, ∀ kf, row.head? = some kf → KeyF c.P k kf) (hkf : KeyF c.P k kf) (hn : vf.hand = none) {es' : List (List FV)} (hs : MSet (s.ob id).es kf vf es') :
    ∃ w', (execOp a.eval ⟨dst, .mapUpdate T x y z, ty, pos, after, g⟩).run c.P w = .ok .skip w' ∧ FR c.N w0 J (s.wr [(id, { s.ob id with es := es' })]) a w' β := by
  have hlive : s.live id ver := ⟨by rw [hlf]; decide, hver⟩
  obtain ⟨d, ii, zz, ht⟩ := c.get hT (by simp)
  have hd := ht.k
  rw [hT] at hd
  obtain rfl := kind_map hd
  obtain ⟨l, hll⟩ := hkf.2
  obtain ⟨b, clock, ents, hx, hb, hm⟩ := h.mp ex hlive
  have hy : a.eval y = kf.val := (h.ev_rd ey (by have := hkf.1; cases kf <;> first | rfl | (simp [FV.simple, FV.simple1] at this))).simple_val hkf.1
  have hzr := h.ev_rd ez hn
  generalize hzv : a.eval z = u at hzr
  generalize hes : (s.ob id).es = es at hm hk hs
  rcases hm.find K hk hkf with ⟨h1, h2, h3⟩ | ⟨j, e0, vf', h1, h2, h3, h4, h5, h6⟩
  · have he' : es' = es ++ [[kf, vf]] := by
      rcases hs with ⟨j, v0, hj, _⟩ | ⟨_, he⟩
      · exact absurd rfl (h3 _ (List.mem_of_getElem? hj))
      · exact he
    subst he'
    refine ⟨setBlock w b (.map (ents.push ⟨kf.val, u, clock⟩) (clock + 1)), ?_, ?_⟩
    · have : (Instr.mapUpdate T (.map (some b)) kf.val u).run c.P w = .ok () (setBlock w b (.map (ents.push ⟨kf.val, u, clock⟩) (clock + 1))) := by
        simp [Instr.mapUpdate, run_underlying ht.u, MapKept.run_getObj_map hm.hb, K.check w false hll, h1, MapKept.run_setObj_map _ hm.hb, Result.andThen, setBlock]
      simp [execOp, hx, hy, hzv, this]
    · have hcase : ∀ (j : Nat) e row, (ents.push ⟨kf.val, u, clock⟩)[j]? = some e → (es ++ [[kf, vf]])[j]? = some row → (ents[j]? = some e ∧ es[j]? = some row) ∨ (e = ⟨kf.val, u, clock⟩ ∧ row = [kf, vf]) := by
        intro j e row he hr
        rcases Nat.lt_trichotomy j ents.size with hj | hj | hj
        · left
          rw [Array.getElem?_push, if_neg (by omega)] at he
          rw [List.getElem?_append_left (by rw [← hm.sz]; exact hj)] at hr
          exact ⟨he, hr⟩
        · right
          subst hj
          rw [Array.getElem?_push, if_pos rfl] at he
          rw [hm.sz, List.getElem?_append_right (Nat.le_refl _), Nat.sub_self] at hr
          injection he with he
          injection hr with hr
          exact ⟨he.symm, hr.symm⟩
        · rw [Array.getElem?_push, if_neg (by omega)] at he
          rw [Array.getElem?_eq_none (by omega)] at he
          cases he
      refine h.setMap hlf hb hm.hb (stamped_push hm.st h2) (by simp [hm.sz]) (fun j e row he hr => ?_) (fun j e row f he hr hf => ?_)
      · rcases hcase j e row he hr with ⟨q1, q2⟩ | ⟨rfl, rfl⟩
        · exact hm.ks j e row q1 q2
        · exact ⟨kf, vf, rfl, hkf.1, rfl⟩
      · rcases hcase j e row he hr with ⟨q1, q2⟩ | ⟨rfl, rfl⟩
        · exact hm.vs j e row f q1 q2 hf
        · simp at hf; subst hf; exact hzr
  · have he' : es' = es.set j [kf, vf] := by
      rcases hs with ⟨i, v0, hi, he⟩ | ⟨hno, _⟩
      · rw [h6 i v0 hi] at he; exact he
      · exact absurd rfl (hno _ (List.mem_of_getElem? h4))
    subst he'
    have hkeyf : ∀ e', ents[j]? = some e' → ({ e' with key := kf.val, val := u } : MapEntry).key = e'.key := fun e' he' => by rw [h2] at he'; cases he'; exact h3.symm
    refine ⟨setBlock w b (.map (ents.modify j (fun e' => { e' with key := kf.val, val := u })) clock), ?_, ?_⟩
    · have : (Instr.mapUpdate T (.map (some b)) kf.val u).run c.P w = .ok () (setBlock w b (.map (ents.modify j (fun e' => { e' with key := kf.val, val := u })) clock)) := by
        simp [Instr.mapUpdate, run_underlying ht.u, MapKept.run_getObj_map hm.hb, K.check w false hll, h1, h2, h3, K.stays w hll, MapKept.run_setObj_map _ hm.hb, Result.andThen, setBlock]
      simp [execOp, hx, hy, hzv, this]
    · have hcase : ∀ (i : Nat) e row, (ents.modify j (fun e' => { e' with key := kf.val, val := u }))[i]? = some e → (es.set j [kf, vf])[i]? = some row → (ents[i]? = some e ∧ es[i]? = some row) ∨ (e.key = kf.val ∧ e.val = u ∧ row = [kf, vf]) := by
        intro i e row he hr
        rw [Array.getElem?_modify] at he
        rw [List.getElem?_set] at hr
        by_cases hij : j = i
        · subst hij
          right
          rw [if_pos rfl, h2] at he
          rw [if_pos rfl, if_pos (List.getElem?_eq_some_iff.1 h4).1] at hr
          simp only [Option.map_some, Option.some.injEq] at he hr
          subst he
          exact ⟨rfl, rfl, hr.symm⟩
        · left
          rw [if_neg hij] at he hr
          exact ⟨he, hr⟩
      refine h.setMap hlf hb hm.hb (stamped_modify hm.st _ _ (fun _ _ => rfl) (fun e' _ he' => hkeyf e' he')) (by simp [hm.sz]) (fun i e row he hr => ?_) (fun i e row f he hr hf => ?_)
      · rcases hcase i e row he hr with ⟨q1, q2⟩ | ⟨q1, q2, rfl⟩
        · exact hm.ks i e row q1 q2
        · exact ⟨kf, vf, rfl, hkf.1, q1⟩
      · rcases hcase i e row he hr with ⟨q1, q2⟩ | ⟨q1, q2, rfl⟩
        · exact hm.vs i e row f q1 q2 hf
        · simp at hf; subst hf; rw [q2]; exact hzr
end
end Go.Proofs.Ythijndjgchbeoaa
