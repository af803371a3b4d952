/-
  Some texts as one: FmMap, FmRows, FmU, FmI, FmJ, FmK, FmL.
-/
import Derived.Test.YtfegkbmnclhljaaZA
import Derived.ArgAppend
import Derived.Laws.CopyRow
import Derived.Laws.IdiomCopy
import Derived.Laws.StructEq
import Derived.Orders
import Derived.Deep.LoopGhost
/-
  Maps on plain values: made, looked up, written.
-/
namespace Go.Proofs.Ytfegkbmnclhljaa
set_option linter.unusedVariables false
open Go.RowKit Go.Maps Go.MapKept Go.ChangeMaps

theorem Rd.simple_val {w : World} {I : Nat → Prop} {v : Value} {f : FV} (h : Rd w I v f) (hf : f.simple = true) : v = f.val := by
  have one : ∀ {u : Value} {g : FV}, Rd w I u g → g.simple1 = true → u = g.val1 := by
    intro u g hu hg
    cases hu <;> first | rfl | (simp [FV.simple1] at hg)
  cases h with
  | agg us fs hl hr =>
    show Value.agg us.toArray = Value.agg (fs.map FV.val1).toArray
    congr 2
    refine List.ext_getElem? fun j => ?_
    rw [List.getElem?_map]
    rcases Nat.lt_or_ge j us.length with hj | hj
    · have hj2 : j < fs.length := by rw [← hl]; exact hj
      have e1 : us[j]? = some us[j] := by simp [hj]
      have e2 : fs[j]? = some fs[j] := by simp [hj2]
      rw [e1, e2, Option.map_some]
      congr 1
      exact one (hr j _ _ e1 e2) (List.all_eq_true.1 hf _ (List.getElem_mem hj2))
    · have hj2 : fs.length ≤ j := by rw [← hl]; exact hj
      simp [hj, hj2]
  | int k n => rfl
  | bool b => rfl
  | str s => rfl
  | _ => simp [FV.simple, FV.simple1] at hf
theorem val1_inj {f g : FV} (hf : f.simple1 = true) (hg : g.simple1 = true) (h : f.val1 = g.val1) : f = g := by
  cases f <;> simp [FV.simple1] at hf <;> cases g <;> simp [FV.simple1] at hg <;> simp [FV.val1] at h <;> first | (obtain ⟨rfl, rfl⟩ := h; rfl) | (subst h; rfl)
theorem map_val1_inj : ∀ {fs gs : List FV}, fs.all FV.simple1 = true → gs.all FV.simple1 = true → fs.map FV.val1 = gs.map FV.val1 → fs = gs
  | [], [], _, _, _ => rfl
  | [], _ :: _, _, _, h => by simp at h
  | _ :: _, [], _, _, h => by simp at h
  | f :: fs, g :: gs, hf, hg, h => by
    simp only [List.all_cons, Bool.and_eq_true] at hf hg
    simp only [List.map_cons, List.cons.injEq] at h
    rw [val1_inj hf.1 hg.1 h.1, map_val1_inj hf.2 hg.2 h.2]
theorem val_inj {f g : FV} (hf : f.simple = true) (hg : g.simple = true) (h : f.val = g.val) : f = g := by
  cases f with
  | agg cs =>
    cases g with
    | agg ds =>
      have : (cs.map FV.val1).toArray = (ds.map FV.val1).toArray := by simpa [FV.val] using h
      rw [map_val1_inj hf hg (by simpa using congrArg Array.toList this)]
    | _ => first | (simp [FV.simple, FV.simple1] at hg; done) | (simp [FV.val, FV.val1] at h)
  | int k n =>
    cases g <;> first | (simp [FV.simple, FV.simple1] at hg; done) | (simp [FV.val, FV.val1] at h; done) | exact val1_inj hf hg h
  | bool b =>
    cases g <;> first | (simp [FV.simple, FV.simple1] at hg; done) | (simp [FV.val, FV.val1] at h; done) | exact val1_inj hf hg h
  | str b =>
    cases g <;> first | (simp [FV.simple, FV.simple1] at hg; done) | (simp [FV.val, FV.val1] at h; done) | exact val1_inj hf hg h
  | _ => simp [FV.simple, FV.simple1] at hf

def KeyF (P : Program) (k : TypeId) (kf : FV) : Prop := kf.simple = true ∧ ∃ l, keyOf P k kf.val = some l
def TS.zfv (ts : TS) : FV :=
  match ts.k.agg? with
  | some true => .agg ts.zero
  | _ => ts.zero.headD .undef
def MLook (es : List (List FV)) (kf z : FV) (vf : FV) (b : Bool) : Prop := (b = true ∧ [kf, vf] ∈ es) ∨ (b = false ∧ vf = z ∧ ∀ row ∈ es, row.head? ≠ some kf)
def MSet (es : List (List FV)) (kf vf : FV) (es' : List (List FV)) : Prop :=
  (∃ (j : Nat) (v0 : FV), es[j]? = some [kf, v0] ∧ es' = es.set j [kf, vf]) ∨ ((∀ row ∈ es, row.head? ≠ some kf) ∧ es' = es ++ [[kf, vf]])

structure Mp (w : World) (I : Nat → Prop) (b clock : Nat) (ents : Array MapEntry) (es : List (List FV)) : Prop where
  hb : w.heap[b]? = some (.map ents clock)
  st : Stamped ents clock
  sz : ents.size = es.length
  ks : ∀ (j : Nat) e row, ents[j]? = some e → es[j]? = some row → ∃ kf vf, row = [kf, vf] ∧ kf.simple = true ∧ e.key = kf.val
  vs : ∀ (j : Nat) e row f, ents[j]? = some e → es[j]? = some row → row[1]? = some f → Rd w I e.val f

section
variable {w : World} {I : Nat → Prop} {b clock : Nat} {ents : Array MapEntry} {es : List (List FV)} {P : Program}
theorem Mp.row (h : Mp w I b clock ents es) {j : Nat} {e : MapEntry} (he : ents[j]? = some e) : ∃ kf vf, es[j]? = some [kf, vf] ∧ kf.simple = true ∧ e.key = kf.val ∧ Rd w I e.val vf := by
  have hj : j < es.length := by rw [← h.sz]; exact (Array.getElem?_eq_some_iff.1 he).1
  have hr : es[j]? = some es[j] := by simp [hj]
  obtain ⟨kf, vf, e1, e2, e3⟩ := h.ks j e _ he hr
  refine ⟨kf, vf, by rw [hr, e1], e2, e3, h.vs j e _ vf he hr (by rw [e1]; rfl)⟩
theorem Mp.ent (h : Mp w I b clock ents es) {j : Nat} {row : List FV} (hr : es[j]? = some row) : ∃ e, ents[j]? = some e := by
  have hj : j < ents.size := by rw [h.sz]; exact (List.getElem?_eq_some_iff.1 hr).1
  exact ⟨ents[j], by simp [hj]⟩
theorem Mp.keys (h : Mp w I b clock ents es) {k : TypeId} (hk : ∀ row ∈ es, ∀ kf, row.head? = some kf → KeyF P k kf) : ∀ e ∈ ents.toList, ∃ l, keyOf P k e.key = some l := fun e he => by
  obtain ⟨j, hj⟩ := List.getElem?_of_mem he
  have hj' : ents[j]? = some e := by simpa using hj
  obtain ⟨kf, vf, e1, _, e3, _⟩ := h.row hj'
  obtain ⟨_, l, hl⟩ := hk _ (List.mem_of_getElem? e1) kf rfl
  exact ⟨l, by rw [e3]; exact hl⟩
theorem Mp.find (h : Mp w I b clock ents es) {k : TypeId} (K : Keyed P k) (hk : ∀ row ∈ es, ∀ kf, row.head? = some kf → KeyF P k kf) {kf : FV} (hkf : KeyF P k kf) :
    ((Instr.findKey k kf.val ents.toList).run P w = .ok none w ∧ (∀ e ∈ ents.toList, e.key ≠ kf.val) ∧ ∀ row ∈ es, row.head? ≠ some kf) ∨
    ∃ (j : Nat) (e : MapEntry) (vf : FV), (Instr.findKey k kf.val ents.toList).run P w = .ok (some (j, e.val)) w ∧ ents[j]? = some e ∧ e.key = kf.val ∧ es[j]? = some [kf, vf] ∧ Rd w I e.val vf ∧ ∀ i v, es[i]? = some [kf, v] → i = j := by
  obtain ⟨hs, l, hl⟩ := hkf
  rcases K.find w hl ents.toList (h.keys hk) with ⟨h1, h2⟩ | ⟨j, e0, h1, h2, h3⟩
  · refine .inl ⟨h1, h2, fun row hr hh => ?_⟩
    obtain ⟨j, hj⟩ := List.getElem?_of_mem hr
    obtain ⟨e, he⟩ := h.ent hj
    obtain ⟨kf', vf, e1, _, e3, _⟩ := h.row he
    rw [hj] at e1
    injection e1 with e1
    subst e1
    injection hh with hh
    subst hh
    exact h2 e (List.mem_of_getElem? (by simpa using he)) e3
  · have h2' : ents[j]? = some e0 := by simpa using h2
    obtain ⟨kf', vf, e1, e2, e3, e4⟩ := h.row h2'
    have : kf' = kf := val_inj e2 hs (by rw [← e3, h3])
    subst this
    refine .inr ⟨j, e0, vf, h1, h2', h3, e1, e4, fun i v hi => ?_⟩
    obtain ⟨e, he⟩ := h.ent hi
    obtain ⟨kf'', vf', q1, _, q3, _⟩ := h.row he
    rw [hi] at q1
    injection q1 with q1
    injection q1 with q1 _
    subst q1
    have hd := ((stamped_iff ents clock).1 h.st).2.2
    have hil : i < ents.toList.length := by have := (Array.getElem?_eq_some_iff.1 he).1; simpa using this
    have hjl : j < ents.toList.length := by have := (Array.getElem?_eq_some_iff.1 h2').1; simpa using this
    have ei : ents.toList[i].key = kf'.val := by have := (Array.getElem?_eq_some_iff.1 he).2; simp only [Array.getElem_toList]; rw [this, q3]
    have ej : ents.toList[j].key = kf'.val := by have := (Array.getElem?_eq_some_iff.1 h2').2; simp only [Array.getElem_toList]; rw [this, h3]
    rcases Nat.lt_trichotomy i j with hlt | heq | hgt
    · exact absurd (ei.trans ej.symm) (List.pairwise_iff_getElem.1 hd i j hil hjl hlt)
    · exact heq
    · exact absurd (ej.trans ei.symm) (List.pairwise_iff_getElem.1 hd j i hjl hil hgt)
end

section
variable {c : Ctx} {w0 w : World} {J : JJ} {s : FSt} {a : Act} {β : Nat → Option Nat} {dst : Option Nat} {ty : TypeId} {pos : String} {after : Array Edge} {g : Option (Nat × Bool)}

theorem run_zeroF {c : Ctx} {T : Nat} {bb : Bool} (hk : (c.ty T).k.agg? = some bb) (w : World) (I : Nat → Prop) : ∃ z, (zeroValue T).run c.P w = .ok z w ∧ Rd w I z (c.ty T).zfv := by
  obtain ⟨d, i, z, h⟩ := c.get rfl (agg_ne hk)
  refine ⟨z, by simp [zeroValue, typeInfo, h.info, h.zo], ?_⟩
  have hz := RdL.zeros (w := w) (I := I) h.zr
  have hzk := h.zk
  unfold zkind at hzk
  unfold TS.zfv
  rw [hk] at hzk ⊢
  cases bb with
  | true =>
    dsimp only at hzk ⊢
    cases z <;> simp at hzk
    rename_i cs
    have := Rd.agg (w := w) (I := I) cs.toList (c.ty T).zero hz.1 hz.2
    simpa using this
  | false =>
    dsimp only at hzk ⊢
    have hc : z.cells.toList = [z] := by
      cases z <;> first | rfl | (simp at hzk)
    rw [hc] at hz
    cases hzz : (c.ty T).zero with
    | nil => rw [hzz] at hz; have := hz.1; simp at this
    | cons f fs => rw [hzz] at hz; exact hz.2 0 z f rfl rfl

theorem run_lookF {T k e : Nat} (hT : (c.ty T).k = .map k e) {bb : Bool} (he : (c.ty e).k.agg? = some bb) (K : Keyed c.P k) {I : Nat → Prop} {b clock : Nat} {ents : Array MapEntry} {es : List (List FV)} (h : Mp w I b clock ents es)
    (hk : ∀ row ∈ es, ∀ kf, row.head? = some kf → KeyF c.P k kf) {kf : FV} (hkf : KeyF c.P k kf) (ok : Bool) {vf : FV} {found : Bool} (hl : MLook es kf (c.ty e).zfv vf found) :
    ∃ v, (Instr.lookup T (.map (some b)) kf.val ok).run c.P w = .ok v w ∧ Rd w I v (if ok then .tup [vf, .bool found] else vf) := by
  obtain ⟨d, ii, z, ht⟩ := c.get hT (by simp)
  have hd := ht.k
  rw [hT] at hd
  obtain rfl := kind_map hd
  obtain ⟨l, hll⟩ := hkf.2
  obtain ⟨zv, hz, hzr⟩ := run_zeroF he w I
  rcases h.find K hk hkf with ⟨h1, _, h2⟩ | ⟨j, e0, vf', h1, h2, h3, h4, h5, h6⟩
  · have hv : vf = (c.ty e).zfv ∧ found = false := by
      rcases hl with ⟨_, hm⟩ | ⟨hb, hv, _⟩
      · exact absurd rfl (h2 _ hm)
      · exact ⟨hv, hb⟩
    obtain ⟨rfl, rfl⟩ := hv
    cases ok
    · exact ⟨zv, by simp [Instr.lookup, run_underlying ht.u, MapKept.run_getObj_map h.hb, K.check w _ hll, h1, hz, Result.andThen], hzr⟩
    · refine ⟨.tuple #[zv, .bool false], by simp [Instr.lookup, run_underlying ht.u, MapKept.run_getObj_map h.hb, K.check w _ hll, h1, hz, Result.andThen], ?_⟩
      have := RdL.cons hzr (RdL.cons (Rd.bool (w := w) (I := I) false) RdL.nil)
      exact .tup [zv, .bool false] _ this.1 this.2
  · have hv : vf = vf' ∧ found = true := by
      rcases hl with ⟨hb, hm⟩ | ⟨_, _, hm⟩
      · obtain ⟨i, hi⟩ := List.getElem?_of_mem hm
        have := h6 i vf hi
        subst this
        rw [h4] at hi
        simp at hi
        exact ⟨hi.symm, hb⟩
      · exact absurd rfl (hm _ (List.mem_of_getElem? h4))
    obtain ⟨rfl, rfl⟩ := hv
    cases ok
    · exact ⟨e0.val, by simp [Instr.lookup, run_underlying ht.u, MapKept.run_getObj_map h.hb, K.check w _ hll, h1, Result.andThen], h5⟩
    · refine ⟨.tuple #[e0.val, .bool true], by simp [Instr.lookup, run_underlying ht.u, MapKept.run_getObj_map h.hb, K.check w _ hll, h1, Result.andThen], ?_⟩
      have := RdL.cons h5 (RdL.cons (Rd.bool (w := w) (I := I) true) RdL.nil)
      exact .tup [e0.val, .bool true] _ this.1 this.2

theorem FR.mp (h : FR c.N w0 J s a w β) {x : Operand} {id ver : Nat} (ex : s.ev x = .omap id ver) (hl : s.live id ver) : ∃ b clock ents, a.eval x = .map (some b) ∧ β id = some b ∧ Mp w (Imm J w β s) b clock ents (s.ob id).es := by
  obtain ⟨hrow, b, hb, hv⟩ := h.ev_omap ex hl.1 hl.2
  obtain ⟨b', clock, ents, h1, h2, h3, h4, h5, h6, h7⟩ := ((h.obj id hl.1).mapR hrow).ex
  rw [hb] at h1
  injection h1 with h1
  subst h1
  exact ⟨b, clock, ents, hv, hb, h3, h4, h5, h6, h7⟩
theorem FR.smp (h : FR c.N w0 J s a w β) {x : Operand} {es : List (List FV)} (ex : s.ev x = .smap es) : ∃ b clock ents, a.eval x = .map (some b) ∧ Mp w (Imm J w β s) b clock ents es := by
  have hr := h.ev_rd ex rfl
  generalize a.eval x = v at hr
  cases hr with
  | smap b clock ents es hI hb hst hl hk hr => exact ⟨b, clock, ents, rfl, hb, hst, hl, hk, hr⟩

theorem good_look (h : FR c.N w0 J s a w β) {T k e : Nat} (hT : (c.ty T).k = .map k e) {bb : Bool} (he : (c.ty e).k.agg? = some bb) (K : Keyed c.P k) (x y : Operand) (ok : Bool) {es : List (List FV)}
    (ex : (∃ id ver, s.ev x = .omap id ver ∧ s.live id ver ∧ (s.ob id).es = es) ∨ s.ev x = .smap es) {kf : FV} (ey : s.ev y = kf) (hk : ∀ row ∈ es, ∀ kf, row.head? = some kf → KeyF c.P k kf) (hkf : KeyF c.P k kf)
    {vf : FV} {found : Bool} (hl : MLook es kf (c.ty e).zfv vf found) (hn : vf.hand = none) :
    Good c w0 J s a ⟨dst, .lookup T x y ok, ty, pos, after, g⟩ w (if ok then .tup [vf, .bool found] else vf) [] := by
  obtain ⟨b, clock, ents, hx, hm⟩ : ∃ b clock ents, a.eval x = .map (some b) ∧ Mp w (Imm J w β s) b clock ents es := by
    rcases ex with ⟨id, ver, e1, e2, rfl⟩ | e1
    · obtain ⟨b, clock, ents, h1, _, h2⟩ := h.mp e1 e2
      exact ⟨b, clock, ents, h1, h2⟩
    · exact h.smp e1
  have hy : a.eval y = kf.val := (h.ev_rd ey (by have := hkf.1; cases kf <;> first | rfl | (simp [FV.simple, FV.simple1] at this))).simple_val hkf.1
  obtain ⟨v, h1, h2⟩ := run_lookF (w := w) hT he K hm hk hkf ok hl
  refine .rd h (v := v) (by simp [execOp, hx, hy, h1]) h2 ?_
  cases ok
  · exact hn
  · rfl

theorem FR.newMap (h : FR c.N w0 J s a w β) (d T : Nat) : FR c.N w0 J (s.set d ⟨(s.ob d).ver + 1, .mapo, T, 0, []⟩) a (w.alloc (.map #[] 0)) (updB β d (some w.heap.size)) := by
  have hb := below_alloc w (.map #[] 0)
  have hI : ∀ b, Imm J w β s b → Imm J (w.alloc (.map #[] 0)) (updB β d (some w.heap.size)) (s.set d ⟨(s.ob d).ver + 1, .mapo, T, 0, []⟩) b ∧ (w.alloc (.map #[] 0)).heap[b]? = w.heap[b]? := fun b hbb => by
    refine ⟨⟨Nat.lt_of_lt_of_le hbb.1 hb.size, hbb.2.1, fun id hl => ?_⟩, hb.block b hbb.1⟩
    rw [FSt.ob_set] at hl
    unfold updB
    split at hl
    · rename_i hh; rw [if_pos hh.symm]; intro e; injection e with e; have := hbb.1; omega
    · rename_i hh; rw [if_neg (fun e => hh e.symm)]; exact hbb.2.2 id hl
  refine h.step (C := fun id => id = d) h.size h.defers (h.bel.trans (hb.mono h.bel.size)) hI (fun k => .inl ⟨rfl, rfl⟩) (fun id hC => ?_) (fun id hC => ?_) (fun id hC hl hvv => ?_) (fun id hC hl _ => ?_) ?_ ?_
  · refine ⟨by rw [FSt.ob_set, if_neg (fun e => hC e.symm)], by unfold updB; rw [if_neg hC], fun hl b hbb => hb.block b ((h.obj id hl).lt hbb).2⟩
  · subst hC; rw [FSt.ob_set, if_pos rfl]; exact Nat.le_succ _
  · subst hC; rw [FSt.ob_set, if_pos rfl] at hvv; simp at hvv
  · subst hC
    rw [FSt.ob_set, if_pos rfl, updB_same]
    exact .ofMap ⟨w.heap.size, 0, #[], rfl, h.bel.size, heap_alloc_new w _, stamped_empty _, rfl, by simp, by simp⟩ rfl
  · intro id id' b hl hl' e e'
    rw [FSt.ob_set] at hl hl'
    unfold updB at e e'
    by_cases h1 : id = d
    · by_cases h2 : id' = d
      · rw [h1, h2]
      · rw [if_pos h1] at e; rw [if_neg h2] at e'; rw [if_neg (fun e => h2 e.symm)] at hl'
        injection e with e; have := ((h.obj id' hl').lt e').2; omega
    · by_cases h2 : id' = d
      · rw [if_neg h1] at e; rw [if_pos h2] at e'; rw [if_neg (fun e => h1 e.symm)] at hl
        injection e' with e'; have := ((h.obj id hl).lt e).2; omega
      · rw [if_neg h1] at e; rw [if_neg h2] at e'; rw [if_neg (fun e => h1 e.symm)] at hl; rw [if_neg (fun e => h2 e.symm)] at hl'
        exact h.inj id id' b hl hl' e e'
  · intro b hlt hn
    refine ⟨hb.block b hlt, fun id hl e => ?_⟩
    rw [FSt.ob_set] at hl
    unfold updB at e
    by_cases h1 : id = d
    · rw [if_pos h1] at e; injection e with e; omega
    · rw [if_neg h1] at e; rw [if_neg (fun e => h1 e.symm)] at hl; exact hn id hl e

theorem good_makeMap (h : FR c.N w0 J s a w β) (d T : Nat) : Good c w0 J s a ⟨some d, .makeMap T none, ty, pos, after, g⟩ w (.omap d ((s.ob d).ver + 1)) [(d, ⟨(s.ob d).ver + 1, .mapo, T, 0, []⟩)] := by
  have hob : (s.wr [(d, (⟨(s.ob d).ver + 1, .mapo, T, 0, []⟩ : FObj))]).ob d = ⟨(s.ob d).ver + 1, .mapo, T, 0, []⟩ := (FSt.ob_set s d _ d).trans (if_pos rfl)
  refine ⟨.map (some w.heap.size), w.alloc (.map #[] 0), updB β d (some w.heap.size), ?_, h.newMap d T, fun _ _ => ⟨by rw [hob]; rfl, w.heap.size, updB_same _ _ _, rfl⟩, fun id ver e => ?_⟩
  · have := run_makeMap (P := c.P) T w
    simp [execOp, this]
  · simp only [FV.hands, List.mem_singleton, Prod.mk.injEq] at e
    obtain ⟨e1, e2⟩ := e
    replace e1 := e1.symm
    replace e2 := e2.symm
    subst e1
    subst e2
    rw [hob]
    exact Nat.le_refl _

theorem FR.setMap (h : FR c.N w0 J s a w β) {id b clock clock' : Nat} {ents ents' : Array MapEntry} {es' : List (List FV)} (hl : (s.ob id).life = .mapo) (hb : β id = some b) (hbl : w.heap[b]? = some (.map ents clock)) (st : Stamped ents' clock') (sz : ents'.size = es'.length)
    (ks : ∀ (j : Nat) e row, ents'[j]? = some e → es'[j]? = some row → ∃ kf vf, row = [kf, vf] ∧ kf.simple = true ∧ e.key = kf.val)
    (vs : ∀ (j : Nat) e row f, ents'[j]? = some e → es'[j]? = some row → row[1]? = some f → Rd w (Imm J w β s) e.val f) :
    FR c.N w0 J (s.set id { s.ob id with es := es' }) a (setBlock w b (.map ents' clock')) β := by
  have hlive : (s.ob id).life ≠ .dead := by rw [hl]; decide
  have hlt := (h.obj id hlive).lt hb
  have hg : w.grownBy (setBlock w b (.map ents' clock')) (some b) := ⟨rfl, rfl, rfl, by simp [setBlock], fun i _ hi => heap_setBlock_other hbl _ (fun e => hi (by rw [e]))⟩
  have hI : ∀ b', Imm J w β s b' → Imm J (setBlock w b (.map ents' clock')) β (s.set id { s.ob id with es := es' }) b' ∧ (setBlock w b (.map ents' clock')).heap[b']? = w.heap[b']? := fun b' hbb => by
    refine ⟨⟨Nat.lt_of_lt_of_le hbb.1 hg.size, hbb.2.1, fun id' hl' => ?_⟩, hg.block b' hbb.1 (fun e => hbb.2.2 id (by rw [hl]; rfl) (by rw [hb]; exact e.symm))⟩
    rw [FSt.ob_set] at hl'
    split at hl'
    · rename_i e; subst e; exact hbb.2.2 id (by rw [hl]; rfl)
    · exact hbb.2.2 id' hl'
  refine h.step (C := fun k => k = id) h.size h.defers (h.bel.grown hg h.bel.size (fun k hk => by injection hk with hk; subst hk; exact hlt.1)) hI (fun k => .inl ⟨rfl, rfl⟩) (fun k hC => ?_) (fun k hC => ?_) (fun k hC hl2 hvv => ?_) (fun k hC hl2 _ => ?_) ?_ (fun b' hlt' hn => ⟨hg.block b' hlt' (fun e => hn id hlive (by rw [hb]; exact e.symm)), fun k hl2 => hn k (by rw [FSt.ob_set] at hl2; split at hl2; (· rename_i e; subst e; exact hlive); (· exact hl2))⟩)
  · refine ⟨by rw [FSt.ob_set, if_neg (fun e => hC e.symm)], rfl, fun hl2 b' hbb => hg.block b' ((h.obj k hl2).lt hbb).2 (fun e => hC (h.inj k id b' hl2 hlive hbb (by rw [hb]; exact e.symm)))⟩
  · subst hC; rw [FSt.ob_set, if_pos rfl]; exact Nat.le_refl _
  · subst hC
    refine ⟨hlive, rfl, by rw [FSt.ob_set, if_pos rfl], by rw [FSt.ob_set, if_pos rfl], fun v o n hv => ?_⟩
    have := hv.row
    rw [hl] at this
    cases this
  · subst hC
    rw [FSt.ob_set, if_pos rfl]
    exact .ofMap ⟨b, clock', ents', hb, hlt.1, heap_setBlock_same hbl _, st, sz, ks, fun j e row f h1 h2 h3 => (vs j e row f h1 h2 h3).mono hI⟩ (by show (s.ob k).life.slic = false; rw [hl]; rfl)
  · intro k k' b' hl2 hl2' e e'
    refine h.inj k k' b' ?_ ?_ e e'
    · rw [FSt.ob_set] at hl2; split at hl2
      · rename_i e; subst e; exact hlive
      · exact hl2
    · rw [FSt.ob_set] at hl2'; split at hl2'
      · rename_i e; subst e; exact hlive
      · exact hl2'

theorem good_update (h : FR c.N w0 J s a w β) {T k e : Nat} (hT : (c.ty T).k = .map k e) (K : Keyed c.P k) (x y z : Operand) {id ver : Nat} (ex : s.ev x = .omap id ver) (hlf : (s.ob id).life = .mapo) (hver : (s.ob id).ver = ver)
    {kf vf : FV} (ey : s.ev y = kf) (ez : s.ev z = vf) (hk : ∀ row ∈ (s.ob id).es, ∀ kf, row.head? = some kf → KeyF c.P k kf) (hkf : KeyF c.P k kf) (hn : vf.hand = none) {es' : List (List FV)} (hs : MSet (s.ob id).es kf vf es') :
    ∃ w', (execOp a.eval ⟨dst, .mapUpdate T x y z, ty, pos, after, g⟩).run c.P w = .ok .skip w' ∧ FR c.N w0 J (s.wr [(id, { s.ob id with es := es' })]) a w' β := by
  have hlive : s.live id ver := ⟨by rw [hlf]; decide, hver⟩
  obtain ⟨d, ii, zz, ht⟩ := c.get hT (by simp)
  have hd := ht.k
  rw [hT] at hd
  obtain rfl := kind_map hd
  obtain ⟨l, hll⟩ := hkf.2
  obtain ⟨b, clock, ents, hx, hb, hm⟩ := h.mp ex hlive
  have hy : a.eval y = kf.val := (h.ev_rd ey (by have := hkf.1; cases kf <;> first | rfl | (simp [FV.simple, FV.simple1] at this))).simple_val hkf.1
  have hzr := h.ev_rd ez hn
  generalize hzv : a.eval z = u at hzr
  generalize hes : (s.ob id).es = es at hm hk hs
  rcases hm.find K hk hkf with ⟨h1, h2, h3⟩ | ⟨j, e0, vf', h1, h2, h3, h4, h5, h6⟩
  · have he' : es' = es ++ [[kf, vf]] := by
      rcases hs with ⟨j, v0, hj, _⟩ | ⟨_, he⟩
      · exact absurd rfl (h3 _ (List.mem_of_getElem? hj))
      · exact he
    subst he'
    refine ⟨setBlock w b (.map (ents.push ⟨kf.val, u, clock⟩) (clock + 1)), ?_, ?_⟩
    · have : (Instr.mapUpdate T (.map (some b)) kf.val u).run c.P w = .ok () (setBlock w b (.map (ents.push ⟨kf.val, u, clock⟩) (clock + 1))) := by
        simp [Instr.mapUpdate, run_underlying ht.u, MapKept.run_getObj_map hm.hb, K.check w false hll, h1, MapKept.run_setObj_map _ hm.hb, Result.andThen, setBlock]
      simp [execOp, hx, hy, hzv, this]
    · have hcase : ∀ (j : Nat) e row, (ents.push ⟨kf.val, u, clock⟩)[j]? = some e → (es ++ [[kf, vf]])[j]? = some row → (ents[j]? = some e ∧ es[j]? = some row) ∨ (e = ⟨kf.val, u, clock⟩ ∧ row = [kf, vf]) := by
        intro j e row he hr
        rcases Nat.lt_trichotomy j ents.size with hj | hj | hj
        · left
          rw [Array.getElem?_push, if_neg (by omega)] at he
          rw [List.getElem?_append_left (by rw [← hm.sz]; exact hj)] at hr
          exact ⟨he, hr⟩
        · right
          subst hj
          rw [Array.getElem?_push, if_pos rfl] at he
          rw [hm.sz, List.getElem?_append_right (Nat.le_refl _), Nat.sub_self] at hr
          injection he with he
          injection hr with hr
          exact ⟨he.symm, hr.symm⟩
        · rw [Array.getElem?_push, if_neg (by omega)] at he
          rw [Array.getElem?_eq_none (by omega)] at he
          cases he
      refine h.setMap hlf hb hm.hb (stamped_push hm.st h2) (by simp [hm.sz]) (fun j e row he hr => ?_) (fun j e row f he hr hf => ?_)
      · rcases hcase j e row he hr with ⟨q1, q2⟩ | ⟨rfl, rfl⟩
        · exact hm.ks j e row q1 q2
        · exact ⟨kf, vf, rfl, hkf.1, rfl⟩
      · rcases hcase j e row he hr with ⟨q1, q2⟩ | ⟨rfl, rfl⟩
        · exact hm.vs j e row f q1 q2 hf
        · simp at hf; subst hf; exact hzr
  · have he' : es' = es.set j [kf, vf] := by
      rcases hs with ⟨i, v0, hi, he⟩ | ⟨hno, _⟩
      · rw [h6 i v0 hi] at he; exact he
      · exact absurd rfl (hno _ (List.mem_of_getElem? h4))
    subst he'
    have hkeyf : ∀ e', ents[j]? = some e' → ({ e' with key := kf.val, val := u } : MapEntry).key = e'.key := fun e' he' => by rw [h2] at he'; cases he'; exact h3.symm
    refine ⟨setBlock w b (.map (ents.modify j (fun e' => { e' with key := kf.val, val := u })) clock), ?_, ?_⟩
    · have : (Instr.mapUpdate T (.map (some b)) kf.val u).run c.P w = .ok () (setBlock w b (.map (ents.modify j (fun e' => { e' with key := kf.val, val := u })) clock)) := by
        simp [Instr.mapUpdate, run_underlying ht.u, MapKept.run_getObj_map hm.hb, K.check w false hll, h1, h2, h3, K.stays w hll, MapKept.run_setObj_map _ hm.hb, Result.andThen, setBlock]
      simp [execOp, hx, hy, hzv, this]
    · have hcase : ∀ (i : Nat) e row, (ents.modify j (fun e' => { e' with key := kf.val, val := u }))[i]? = some e → (es.set j [kf, vf])[i]? = some row → (ents[i]? = some e ∧ es[i]? = some row) ∨ (e.key = kf.val ∧ e.val = u ∧ row = [kf, vf]) := by
        intro i e row he hr
        rw [Array.getElem?_modify] at he
        rw [List.getElem?_set] at hr
        by_cases hij : j = i
        · subst hij
          right
          rw [if_pos rfl, h2] at he
          rw [if_pos rfl, if_pos (List.getElem?_eq_some_iff.1 h4).1] at hr
          simp only [Option.map_some, Option.some.injEq] at he hr
          subst he
          exact ⟨rfl, rfl, hr.symm⟩
        · left
          rw [if_neg hij] at he hr
          exact ⟨he, hr⟩
      refine h.setMap hlf hb hm.hb (stamped_modify hm.st _ _ (fun _ _ => rfl) (fun e' _ he' => hkeyf e' he')) (by simp [hm.sz]) (fun i e row he hr => ?_) (fun i e row f he hr hf => ?_)
      · rcases hcase i e row he hr with ⟨q1, q2⟩ | ⟨q1, q2, rfl⟩
        · exact hm.ks i e row q1 q2
        · exact ⟨kf, vf, rfl, hkf.1, q1⟩
      · rcases hcase i e row he hr with ⟨q1, q2⟩ | ⟨q1, q2, rfl⟩
        · exact hm.vs i e row f q1 q2 hf
        · simp at hf; subst hf; rw [q2]; exact hzr
end
end Go.Proofs.Ytfegkbmnclhljaa
/-
  Rows whose cells hold handles; an append on the end of a row of which a part is looked at.
-/
namespace Go.Proofs.Ytfegkbmnclhljaa
set_option linter.unusedVariables false
open Go.RowKit

theorem splice_set {α : Type} {X : List α} {p : Nat} (x : α) (h : p < X.length) : splice X p [x] = X.set p x := by
  unfold splice
  rw [List.set_eq_take_append_cons_drop, if_pos h]
  simp
theorem grown_any {w w' : World} (h : w.grownBy w' none) (r : Option Nat) : w.grownBy w' r := { h with block := fun k hk _ => h.block k hk (by simp) }

theorem run_append_room_off (P : Program) (w : World) (t ty e : TypeId) (i : TypeInfo) (ht : P.underlying t = some (.slice e)) (hi : P.info? e = some i) (g off sLen sCap : Nat) (cur : Array Value) (hg : w.heap[g]? = some (.cells cur e (0, 0)))
    (a : Addr) (m c : Nat) (news : List Value) (hl : news.length = m * i.size) (hnews : ∀ (j : Nat) u, news[j]? = some u → w.cell? (a.add j) = some u) (h1 : ∀ u ∈ news, u.oneCell' = true) (hroom : sLen + m ≤ sCap) (hfit : off + sLen * i.size + news.length ≤ cur.size) :
    (Builtin.append_ #[t, t] ty #[.slice (some ⟨g, off, none⟩) sLen sCap, .slice (some a) m c]).run P w = .ok (.slice (some ⟨g, off, none⟩) (sLen + m) sCap) (w.setRow g (splice cur.toList (off + sLen * i.size) news).toArray) := by
  have hf := run_firstCells_some (P := P) w i.size m a m c news hl hnews
  have hst := run_storeCells_at P g (off + sLen * i.size) e news 0 cur w hg (by simpa using hfit) h1
  simp only [Nat.add_zero] at hst
  simp [Builtin.append_, run_underlying ht, sizeOf, typeInfo, hi, Builtin.lenOf, hroom, hf, Addr.add_lit, hst, splice]

section
variable {c : Ctx} {w0 w : World} {J : JJ} {s : FSt} {a : Act} {β : Nat → Option Nat} {dst : Option Nat} {ty : TypeId} {pos : String} {after : Array Edge} {g : Option (Nat × Bool)}

theorem wr2_ob (s : FSt) (id d : Nat) (b1 b2 : FObj) (k : Nat) : (s.wr [(id, b1), (d, b2)]).ob k = if d = k then b2 else if id = k then b1 else s.ob k := by
  show (FSt.set (FSt.set s id b1) d b2).ob k = _
  rw [FSt.ob_set, FSt.ob_set]

theorem Src.nonil (h : FR c.N w0 J s a w β) {y : Operand} {f2 : FV} {sz : Nat} {es2 : List (List FV)} (ey : s.ev y = f2) (h2 : Src s f2 sz es2) (h1 : es2.length = 1) :
    (∀ e ∈ es2, e.length = sz) ∧ (∀ f ∈ es2.flatten, f.one = true) ∧ ∃ ad cc us, a.eval y = .slice (some ad) 1 cc ∧ us.length = 1 * sz ∧ RdL w (Imm J w β s) us es2.flatten ∧ (∀ (j : Nat) u, us[j]? = some u → w.cell? (ad.add j) = some u) ∧ ∀ u ∈ us, u.oneCell' = true := by
  obtain ⟨hw, ho, A, cc, us, hy, hc, hr, hA, hcell⟩ := h.src ey h2
  refine ⟨hw, ho, ?_⟩
  cases A with
  | none => have := (hA rfl).2; rw [this] at h1; simp at h1
  | some ad =>
    refine ⟨ad, cc, us, by rw [hy, h1], by rw [hr.1, flat_length hw, h1], hr, hcell ad rfl, fun u hu => ?_⟩
    obtain ⟨j, hj, rfl⟩ := List.getElem_of_mem hu
    have hj2 : j < es2.flatten.length := by rw [← hr.1]; exact hj
    exact (hr.2 j _ es2.flatten[j] (by simp [hj]) (by simp)).oneCell (ho _ (List.getElem_mem hj2))

theorem good_appRoom (h : FR c.N w0 J s a w β) (d : Nat) {T e : Nat} (hT : (c.ty T).k = .slice e) (he : (c.ty e).k ≠ .other) (hpos : 0 < (c.ty e).size) (x y : Operand) {id ver o n : Nat} (ex : s.ev x = .own id ver o n) (hlf : (s.ob id).life = .roomy) (hver : (s.ob id).ver = ver)
    (hE : (s.ob id).E = e) (hsz : (s.ob id).sz = (c.ty e).size) (hon : o + n = (s.ob id).es.length) {f2 : FV} {es2 : List (List FV)} (ey : s.ev y = f2) (h2 : Src s f2 (c.ty e).size es2) (h1 : es2.length = 1) :
    Good c w0 J s a ⟨some d, .call { callee := .builtin .append, args := #[x, y], argTypes := #[T, T] }, ty, pos, after, g⟩ w (.own d ((s.ob d).ver + 1) o (n + 1)) [(id, { s.ob id with life := .dead }), (d, ⟨(s.ob d).ver + 1, .own, e, (c.ty e).size, (s.ob id).es ++ es2⟩)] := by
  obtain ⟨dd, ii, z, ht⟩ := c.get hT (by simp)
  have hd := ht.k
  rw [hT] at hd
  obtain rfl := kind_slice hd
  obtain ⟨d', i', z', ht'⟩ := c.get rfl he
  obtain ⟨hw2, ho2, ad, c2, us2, hy, hl2, hr2, hcell2, hone2⟩ := Src.nonil h ey h2 h1
  have hlive : (s.ob id).life ≠ .dead := by rw [hlf]; decide
  have hrl : (s.ob id).life.row = true := by rw [hlf]; rfl
  have hO := h.obj id hlive
  have hroom := hO.roomR hrl
  unfold RoomR at hroom
  rw [hlf] at hroom
  obtain ⟨b, cur, hb, hblk, hfit⟩ := hroom
  obtain ⟨v1, us1, r1, r2, r3⟩ := (hO.rowR hrl).row
  have hw1 := (hO.rowR hrl).wide
  have ho1 := (hO.rowR hrl).one
  have hlt := hO.lt hb
  obtain ⟨A, cc, e1, e2, e3, e4, e5⟩ := (h.ev_own ex hlive hver).ex
  obtain ⟨o', rfl, k2, k3⟩ := e5 b hb
  have hcur := k3 cur hblk
  rw [hE, hsz] at r1
  rw [hE] at hblk
  rw [hsz] at k2 hcur hw1 hfit
  generalize hes : (s.ob id).es = es at hon r1 r3 hw1 ho1 hfit
  generalize hszz : (c.ty e).size = sz at hpos hw1 hfit r1 hw2 hl2 hcur k2
  rcases r1.2 with ⟨rfl, _⟩ | ⟨g', cap, cur', rfl, _, hgg, hn, hcm, hcs, htk⟩
  · rw [← r2] at hb; simp [Value.ownBlock] at hb
  have hgb : g' = b := by rw [← r2] at hb; simpa [Value.ownBlock] using hb
  subst hgb
  rw [hblk] at hgg
  injection hgg with hgg
  injection hgg with hgg _ _
  subst hgg
  have hoc : o + cc = cap := Nat.eq_of_mul_eq_mul_right hpos (by rw [← hcur, hcs])
  have hcap : es.length + 1 ≤ cap := Nat.le_of_mul_le_mul_right (by rw [← hcs]; exact hfit) hpos
  have ho' : o' = o * sz := k2 (.inl (by omega))
  subst ho'
  have hlen : o * sz + n * sz = es.length * sz := by rw [← hon, Nat.add_mul]
  have hls : es.length * sz + sz ≤ cur.size := by rw [Nat.add_mul] at hfit; omega
  have hrun := run_append_room_off c.P w T ty e i' ht.u ht'.info g' (o * sz) n cc cur hblk ad 1 c2 us2 (by rw [ht'.size, hszz]; exact hl2) hcell2 hone2 (by omega) (by rw [ht'.size, hszz, hlen]; omega)
  rw [ht'.size, hszz, hlen] at hrun
  have hcl : cur.toList.length = cur.size := by simp
  have hul : us1.length = es.length * sz := r1.1
  obtain ⟨W, hW⟩ : ∃ W, W = w.setRow g' (splice cur.toList (es.length * sz) us2).toArray := ⟨_, rfl⟩
  rw [← hW] at hrun
  have hWb : W.heap[g']? = some (.cells (splice cur.toList (es.length * sz) us2).toArray e (0, 0)) := by rw [hW]; exact heap_setRow_same w g' _ cur _ hblk
  have hWs : (splice cur.toList (es.length * sz) us2).toArray.size = cur.size := by
    rw [List.size_toArray, splice_len (by rw [hcl]; omega), hcl]
  have hgr : w.grownBy W (some g') := by
    subst hW
    exact ⟨rfl, rfl, rfl, by simp [World.setRow], fun k hk hne => heap_setRow_ne w g' k _ (fun e => hne (by rw [e]))⟩
  have hlenes : (es ++ es2).length = es.length + 1 := by rw [List.length_append, h1]
  have hrow' : W.ownsRow w0.heap.size e sz (.slice (some ⟨g', 0, none⟩) (es.length + 1) cap) (es ++ es2).length (us1 ++ us2) := by
    rw [hlenes]
    refine ⟨by rw [List.length_append, hul, hl2, Nat.add_mul], .inr ⟨g', cap, _, rfl, hlt.1, hWb, hcap, hcm, by rw [hWs, hcs], ?_⟩⟩
    show (splice cur.toList (es.length * sz) us2).take ((es.length + 1) * sz) = us1 ++ us2
    unfold splice
    rw [← htk, List.append_assoc, List.take_append, List.take_take, Nat.min_eq_right (by rw [Nat.add_mul]; omega), List.length_take, Nat.min_eq_left (by omega), show (es.length + 1) * sz - es.length * sz = sz by rw [Nat.add_mul]; omega,
      List.take_append_of_le_length (by omega), List.take_of_length_le (by omega : us2.length ≤ sz)]
  have hexec : (execOp a.eval ⟨some d, .call { callee := .builtin .append, args := #[x, y], argTypes := #[T, T] }, ty, pos, after, g⟩).run c.P w = .ok (.value (.slice (some ⟨g', o * sz, none⟩) (n + 1) cc)) W := by
    simp [execOp, resolve, invoke, builtin, e1, hy, hrun]
  have hFR := h.make (some id) d (E := e) (sz := sz) (es := es ++ es2) (v := .slice (some ⟨g', 0, none⟩) (es.length + 1) cap) (xs := us1 ++ us2) (fun k hk => by injection hk with hk; subst hk; rw [hlf]; rfl) (by rw [Option.bind_some, hb]; exact hgr)
    (fun q hq => by
      rcases List.mem_append.1 hq with h' | h'
      · exact hw1 q h'
      · exact hw2 q h')
    (fun f hf => by
      rw [List.flatten_append] at hf
      rcases List.mem_append.1 hf with h' | h'
      · exact ho1 f h'
      · exact ho2 f h') hrow' (by rw [List.flatten_append]; exact r3.append hr2) (.inl (by rw [Option.bind_some, hb]; rfl)) (s' := s.wr [(id, { s.ob id with life := .dead }), (d, ⟨(s.ob d).ver + 1, .own, e, sz, es ++ es2⟩)]) (fun k => by
        rw [wr2_ob]
        split
        · rfl
        · by_cases hik : id = k
          · subst hik; simp
          · rw [if_neg hik, if_neg (by simpa using hik)]) (fun k => FSt.wr_get _ _ _)
  have hobd : (s.wr [(id, { s.ob id with life := .dead }), (d, (⟨(s.ob d).ver + 1, .own, e, sz, es ++ es2⟩ : FObj))]).ob d = ⟨(s.ob d).ver + 1, .own, e, sz, es ++ es2⟩ := by rw [wr2_ob, if_pos rfl]
  refine ⟨_, W, _, hexec, hFR, fun _ _ => ?_, fun id' ver' e => ?_⟩
  · rw [hobd, updB_same]
    refine ⟨rfl, some ⟨g', o * sz, none⟩, cc, rfl, by omega, by show o + (n + 1) ≤ (es ++ es2).length; omega, (fun hb => by simp [Value.ownBlock] at hb), fun b' hb' => ?_⟩
    obtain rfl : g' = b' := by simpa [Value.ownBlock] using hb'
    refine ⟨o * sz, rfl, fun _ => rfl, fun cur' hc' => ?_⟩
    rw [hWb] at hc'
    injection hc' with hc'
    injection hc' with hc' _ _
    rw [← hc', hWs, hcur]
  · simp only [FV.hands, List.mem_singleton, Prod.mk.injEq] at e
    obtain ⟨e1, e2⟩ := e
    replace e1 := e1.symm
    replace e2 := e2.symm
    subst e1
    subst e2
    rw [hobd]
    exact Nat.le_refl _

theorem good_appFull (h : FR c.N w0 J s a w β) (d : Nat) {T e : Nat} (hT : (c.ty T).k = .slice e) (he : (c.ty e).k ≠ .other) (hpos : 0 < (c.ty e).size) (x y : Operand) {id ver o n : Nat} (ex : s.ev x = .own id ver o n) (hlf : (s.ob id).life = .full) (hver : (s.ob id).ver = ver)
    (hE : (s.ob id).E = e) (hsz : (s.ob id).sz = (c.ty e).size) (hon : o + n = (s.ob id).es.length) {f2 : FV} {es2 : List (List FV)} (ey : s.ev y = f2) (h2 : Src s f2 (c.ty e).size es2) (h1 : es2.length = 1)
    (hb : (n + 1) * (c.ty e).bytes ≤ 140737488355328) (hm : n + 1 ≤ 140737488355328) :
    Good c w0 J s a ⟨some d, .call { callee := .builtin .append, args := #[x, y], argTypes := #[T, T] }, ty, pos, after, g⟩ w (.own d ((s.ob d).ver + 1) 0 (n + 1)) [(id, { s.ob id with life := .dead }), (d, ⟨(s.ob d).ver + 1, .own, e, (c.ty e).size, (s.ob id).es.drop o ++ es2⟩)] := by
  obtain ⟨dd, ii, z, ht⟩ := c.get hT (by simp)
  have hd := ht.k
  rw [hT] at hd
  obtain rfl := kind_slice hd
  obtain ⟨d', i', z', ht'⟩ := c.get rfl he
  have hzs : z'.cells.size = (c.ty e).size := by
    have := (RdL.zeros (w := w) (I := Imm J w β s) ht'.zr).1
    rw [ht'.zl] at this; simpa using this
  obtain ⟨hw2, ho2, ad, c2, us2, hy, hl2, hr2, hcell2, hone2⟩ := Src.nonil h ey h2 h1
  have hlive : (s.ob id).life ≠ .dead := by rw [hlf]; decide
  have hrl : (s.ob id).life.row = true := by rw [hlf]; rfl
  have hO := h.obj id hlive
  have hroom := hO.roomR hrl
  unfold RoomR at hroom
  rw [hlf] at hroom
  obtain ⟨v1, us1, r1, r2, r3⟩ := (hO.rowR hrl).row
  have hw1 := (hO.rowR hrl).wide
  have ho1 := (hO.rowR hrl).one
  obtain ⟨A, cc, e1, e2, e3, e4, e5⟩ := (h.ev_own ex hlive hver).ex
  rw [hE, hsz] at r1
  rw [hsz] at hw1
  have hlenes : ((s.ob id).es.drop o ++ es2).length = n + 1 := by rw [List.length_append, List.length_drop, h1]; omega
  have hwd : ∀ q ∈ (s.ob id).es.drop o ++ es2, q.length = (c.ty e).size := fun q hq => by
    rcases List.mem_append.1 hq with h' | h'
    · exact hw1 q (List.mem_of_mem_drop h')
    · exact hw2 q h'
  have hfl : ((s.ob id).es.drop o).flatten = (s.ob id).es.flatten.drop (o * (c.ty e).size) := flat_dropE _ hw1 o
  have hod : ∀ f ∈ ((s.ob id).es.drop o ++ es2).flatten, f.one = true := fun f hf => by
    rw [List.flatten_append] at hf
    rcases List.mem_append.1 hf with h' | h'
    · rw [hfl] at h'; exact ho1 f (List.mem_of_mem_drop h')
    · exact ho2 f h'
  have hrd : RdL w (Imm J w β s) (us1.drop (o * (c.ty e).size) ++ us2) ((s.ob id).es.drop o ++ es2).flatten := by
    rw [List.flatten_append, hfl]
    exact (r3.drop _).append hr2
  -- the run
  obtain ⟨v', w', hrun, hrow', hgr, hblk⟩ : ∃ v' w', (Builtin.append_ #[T, T] ty #[a.eval x, a.eval y]).run c.P w = .ok v' w' ∧ w'.ownsRow w0.heap.size e (c.ty e).size v' (n + 1) (us1.drop (o * (c.ty e).size) ++ us2) ∧ w.grownBy w' none ∧
      (v'.ownBlock = none ∨ ∃ b, v'.ownBlock = some b ∧ w.heap.size ≤ b) := by
    rw [e1, hy]
    cases hb0 : β id with
    | none =>
      obtain ⟨rfl, rfl⟩ := e4 hb0
      obtain rfl : n = 0 := by omega
      rcases r1.2 with ⟨rfl, hz0⟩ | ⟨g', cap, cur', rfl, _⟩
      · have hu0 : us1 = [] := List.eq_nil_of_length_eq_zero (by rw [r1.1, hz0, Nat.zero_mul])
        subst hu0
        obtain ⟨v', w', q1, q2, q3, _, q5⟩ := run_append_own_at (P := c.P) w w0.heap.size T ty e i' z' (c.ty e).size (c.ty e).bytes ht.u ht'.info ht'.zo ht'.size ht'.bytes hzs hpos (.slice none 0 0) 0 [] (World.ownsRow_nil _ _ _ _) ad 1 c2 us2 hl2 hcell2 hone2 (by decide) (by simpa using hb) h.bel.size
        refine ⟨v', w', q1, by simpa using q2, q3, ?_⟩
        rcases q5 with e | e
        · exact .inl e
        · exact .inr ⟨_, e, Nat.le_refl _⟩
      · rw [hb0] at r2; simp [Value.ownBlock] at r2
    | some b =>
      obtain ⟨o', rfl, k2, k3⟩ := e5 b hb0
      rcases r1.2 with ⟨rfl, _⟩ | ⟨g', cap, cur, rfl, _, hgg, hn, hcm, hcs, htk⟩
      · rw [hb0] at r2; simp [Value.ownBlock] at r2
      have hgb : g' = b := by rw [hb0] at r2; simpa [Value.ownBlock] using r2
      subst hgb
      have hc1 := hroom g' cur hb0 (by rw [hE]; exact hgg)
      have hc2 := k3 cur (by rw [hE]; exact hgg)
      rw [hsz] at hc1 hc2 k2
      have hoc : o + cc = (s.ob id).es.length := Nat.eq_of_mul_eq_mul_right hpos (by rw [← hc2, hc1])
      obtain rfl : cc = n := by omega
      have hcl : us1.length = (s.ob id).es.length * (c.ty e).size := r1.1
      obtain ⟨v', w', q1, q2, q3⟩ := run_append_arg_grows (P := c.P) w T ty e i' z' (c.ty e).size (c.ty e).bytes ht.u ht'.info ht'.zo ht'.size ht'.bytes hzs hpos ⟨g', o', none⟩ cc cc (us1.drop (o * (c.ty e).size)) (by rw [List.length_drop, hcl, ← hon, Nat.add_mul]; omega)
        (fun j u hu => by
          rw [List.getElem?_drop] at hu
          have hj := (List.getElem?_eq_some_iff.1 hu).1
          have hcc0 : cc ≠ 0 := by rintro rfl; rw [hcl, ← hon, Nat.add_zero] at hj; omega
          have := k2 (.inl hcc0)
          subst this
          have hcell := r1.cells (g := g') rfl _ u hu
          rw [add_none] at hcell ⊢
          rwa [Nat.zero_add] at hcell) ad 1 c2 us2 hl2 hcell2 (by omega) (by unfold maxLen; omega) hb
      refine ⟨v', w', q1, own_mono q2 h.bel.size, q3, ?_⟩
      cases hvb : v'.ownBlock with
      | none => exact .inl rfl
      | some b2 => exact .inr ⟨b2, rfl, (q2.lt b2 hvb).1⟩
  have hexec : (execOp a.eval ⟨some d, .call { callee := .builtin .append, args := #[x, y], argTypes := #[T, T] }, ty, pos, after, g⟩).run c.P w = .ok (.value v') w' := by
    simp [execOp, resolve, invoke, builtin, hrun]
  rw [← hlenes] at hrow'
  have hFR := h.make (some id) d (E := e) (sz := (c.ty e).size) (es := (s.ob id).es.drop o ++ es2) (v := v') (xs := us1.drop (o * (c.ty e).size) ++ us2) (fun k hk => by injection hk with hk; subst hk; rw [hlf]; rfl) (grown_any hgr _) hwd hod hrow' hrd (.inr hblk)
    (s' := s.wr [(id, { s.ob id with life := .dead }), (d, ⟨(s.ob d).ver + 1, .own, e, (c.ty e).size, (s.ob id).es.drop o ++ es2⟩)]) (fun k => by
        rw [wr2_ob]
        split
        · rfl
        · by_cases hik : id = k
          · subst hik; simp
          · rw [if_neg hik, if_neg (by simpa using hik)]) (fun k => FSt.wr_get _ _ _)
  have hobd : (s.wr [(id, { s.ob id with life := .dead }), (d, (⟨(s.ob d).ver + 1, .own, e, (c.ty e).size, (s.ob id).es.drop o ++ es2⟩ : FObj))]).ob d = ⟨(s.ob d).ver + 1, .own, e, (c.ty e).size, (s.ob id).es.drop o ++ es2⟩ := by rw [wr2_ob, if_pos rfl]
  refine ⟨v', w', _, hexec, hFR, fun _ _ => ?_, fun id' ver' e => ?_⟩
  · rw [hobd, updB_same]
    rw [← hlenes]
    exact OwnV.of_row hrow' rfl rfl rfl rfl
  · simp only [FV.hands, List.mem_singleton, Prod.mk.injEq] at e
    obtain ⟨e1, e2⟩ := e
    replace e1 := e1.symm
    replace e2 := e2.symm
    subst e1
    subst e2
    rw [hobd]
    exact Nat.le_refl _

theorem FR.blockH (h : FR c.N w0 J s a w β) {id : Nat} (hlf : (s.ob id).life = .hrow) {b : Nat} (hb : β id = some b) :
    ∃ cur cap, w.heap[b]? = some (.cells cur (s.ob id).E (0, 0)) ∧ (s.ob id).es.length ≤ cap ∧ cap ≤ maxLen ∧ cur.size = cap * (s.ob id).sz ∧ (cur.toList.take ((s.ob id).es.length * (s.ob id).sz)).length = (s.ob id).es.flatten.length ∧
      ∀ (j : Nat) u f, (cur.toList.take ((s.ob id).es.length * (s.ob id).sz))[j]? = some u → (s.ob id).es.flatten[j]? = some f → VR w (Imm J w β s) β s u f := by
  have hlive : (s.ob id).life ≠ .dead := by rw [hlf]; decide
  obtain ⟨v, us, r1, r2, r3, r4⟩ := ((h.obj id hlive).rowH (by rw [hlf]; rfl) (by rw [hlf]; rfl)).row
  rcases r1.2 with ⟨rfl, _⟩ | ⟨g', cap, cur, rfl, _, hgg, hn, hm, hcs, htk⟩
  · rw [← r2] at hb; simp [Value.ownBlock] at hb
  · have hgb : g' = b := by rw [← r2] at hb; simpa [Value.ownBlock] using hb
    subst hgb
    subst htk
    exact ⟨cur, cap, hgg, hn, hm, hcs, r3, r4⟩

theorem flat1_get {α : Type} : ∀ (es : List (List α)), (∀ e ∈ es, e.length = 1) → ∀ (j : Nat) f, es[j]? = some [f] → es.flatten[j]? = some f
  | [], _, j, f, h => by simp at h
  | e :: es, he, 0, f, h => by simp at h; subst h; simp
  | e :: es, he, j + 1, f, h => by
    have h1 := he e (by simp)
    obtain ⟨x, rfl⟩ := List.length_eq_one_iff.1 h1
    simp at h
    simpa using flat1_get es (fun q hq => he q (by simp [hq])) j f h
theorem flat1_set {α : Type} : ∀ (es : List (List α)), (∀ e ∈ es, e.length = 1) → ∀ (j : Nat) f, (es.set j [f]).flatten = es.flatten.set j f
  | [], _, j, f => by simp
  | e :: es, he, 0, f => by
    obtain ⟨x, rfl⟩ := List.length_eq_one_iff.1 (he e (by simp))
    simp
  | e :: es, he, j + 1, f => by
    obtain ⟨x, rfl⟩ := List.length_eq_one_iff.1 (he e (by simp))
    simpa using flat1_set es (fun q hq => he q (by simp [hq])) j f

theorem good_loadH (h : FR c.N w0 J s a w β) {T : Nat} (hk : (c.ty T).k.agg? = some false) (hz : (c.ty T).size = 1) (x : Operand) {id ver j : Nat} (ex : s.ev x = .ptr id ver j 0) (hlf : (s.ob id).life = .hrow) (hver : (s.ob id).ver = ver) (hsz : (s.ob id).sz = 1) {f : FV} (hj : (s.ob id).es[j]? = some [f]) :
    Good c w0 J s a ⟨dst, .load T x, ty, pos, after, g⟩ w f [] := by
  have hlive : (s.ob id).life ≠ .dead := by rw [hlf]; decide
  obtain ⟨_, b, hb, hv⟩ := h.ev_ptr ex hlive hver
  obtain ⟨cur, cap, hblk, hn, hm, hcs, hl, hr⟩ := h.blockH hlf hb
  have hH := (h.obj id hlive).rowH (by rw [hlf]; rfl) (by rw [hlf]; rfl)
  have hw := hH.wide
  rw [hsz] at hv hcs hl hr hw
  have hjl := (List.getElem?_eq_some_iff.1 hj).1
  have hjf := flat1_get _ hw j f hj
  have hjc : j < cur.size := by omega
  have hu : (cur.toList.take ((s.ob id).es.length * 1))[j]? = some cur[j] := by
    rw [List.getElem?_take, if_pos (by omega)]; simp [hjc]
  have hcell : w.cell? ⟨b, j, none⟩ = some cur[j] := by
    have := cell_of_row w b j cur (s.ob id).E (0, 0) hblk
    rw [this]; simp [hjc]
  refine .pure h (v := cur[j]) ?_ (hr j _ f hu hjf) (fun id' ver' e => hH.vers f (List.mem_of_getElem? hjf) id' ver' e)
  have : (loadVar T ⟨b, j, none⟩).run c.P w = .ok cur[j] w := by simp [loadVar, run_isAgg hk, load, Sem.run, hcell]
  simp [execOp, Instr.loadAt, hv, Instr.sureAddr, this]

def CelOk (s : FSt) (f : FV) : Prop := f.one = true ∨ (∃ id ver o n, f = .own id ver o n ∧ s.live id ver) ∨ (∃ id ver j o, f = .ptr id ver j o ∧ s.live id ver) ∨ ∃ k fs, f = .wrap (.fn k) fs
theorem CelOk.val (h : FR c.N w0 J s a w β) {y : Operand} {f : FV} (ey : s.ev y = f) (hf : CelOk s f) : (a.eval y).cells = #[a.eval y] ∧ (a.eval y).oneCell' = true := by
  rcases hf with h1 | ⟨id, ver, o, n, rfl, hl⟩ | ⟨id, ver, j, o, rfl, hl⟩ | ⟨k, fs, rfl⟩
  · have hn : f.hand = none := by cases f <;> first | rfl | (simp [FV.one] at h1)
    have hr := h.ev_rd ey hn
    generalize a.eval y = v at hr
    cases hr <;> first | exact ⟨rfl, rfl⟩ | (simp [FV.one] at h1)
  · obtain ⟨A, cc, e, _⟩ := (h.ev_own ey hl.1 hl.2).ex
    rw [e]
    exact ⟨rfl, rfl⟩
  · obtain ⟨_, b, _, e⟩ := h.ev_ptr ey hl.1 hl.2
    rw [e]
    exact ⟨rfl, rfl⟩
  · have hv := h.ev y
    rw [ey] at hv
    obtain ⟨us, e, _⟩ := hv
    rw [e]
    exact ⟨rfl, rfl⟩

theorem good_storeH (h : FR c.N w0 J s a w β) {T : Nat} (hk : (c.ty T).k ≠ .other) (hz : (c.ty T).size = 1) (x y : Operand) {id ver j : Nat} (ex : s.ev x = .ptr id ver j 0) (hlf : (s.ob id).life = .hrow) (hver : (s.ob id).ver = ver) (hsz : (s.ob id).sz = 1) {f : FV} (ey : s.ev y = f)
    (hf : CelOk s f) (hj : j < (s.ob id).es.length) :
    ∃ w', (execOp a.eval ⟨dst, .store T x y, ty, pos, after, g⟩).run c.P w = .ok .skip w' ∧ FR c.N w0 J (s.wr [(id, { s.ob id with es := (s.ob id).es.set j [f] })]) a w' β := by
  have hlive : (s.ob id).life ≠ .dead := by rw [hlf]; decide
  obtain ⟨_, b, hb, hvx⟩ := h.ev_ptr ex hlive hver
  obtain ⟨cur, cap, hblk, hn, hm, hcs, hl, hr⟩ := h.blockH hlf hb
  have hH := (h.obj id hlive).rowH (by rw [hlf]; rfl) (by rw [hlf]; rfl)
  have hw := hH.wide
  obtain ⟨hc1, hc2⟩ := CelOk.val h ey hf
  have hvr := h.ev y
  have hvv : ∀ id' ver', (id', ver') ∈ f.hands → ver' ≤ (s.ob id').ver := fun id' ver' e => h.evers y (by rw [ey]; exact e)
  rw [ey] at hvr
  generalize hy : a.eval y = v at hc1 hc2 hvr
  rw [hsz] at hvx hcs hl hr hw
  have hst := run_storeCells_at c.P b j (s.ob id).E [v] 0 cur w hblk (by simp; omega) (by simpa using hc2)
  simp only [Nat.add_zero] at hst
  have hjc : j < cur.toList.length := by simp; omega
  obtain ⟨W, hW⟩ : ∃ W, W = w.setRow b (splice cur.toList j [v]).toArray := ⟨_, rfl⟩
  have hWb : W.heap[b]? = some (.cells (cur.toList.set j v).toArray (s.ob id).E (0, 0)) := by rw [hW, splice_set v hjc]; exact heap_setRow_same w b _ cur _ hblk
  have hg : w.grownBy W (some b) := by
    subst hW
    exact ⟨rfl, rfl, rfl, by simp [World.setRow], fun k hk hne => heap_setRow_ne w b k _ (fun e => hne (by rw [e]))⟩
  have hlt := (h.obj id hlive).lt hb
  refine ⟨W, ?_, ?_⟩
  · have hs := run_sizeOf (c := c) hk w
    have hst' : (storeCells ⟨b, j, none⟩ [v]).run c.P w = .ok () W := by rw [hW]; exact hst
    simp [execOp, Instr.storeAt, storeVar, hvx, hy, Instr.sureAddr, hs, hz, hc1, hst']
  · have hob : ∀ k, (s.wr [(id, { s.ob id with es := (s.ob id).es.set j [f] })]).ob k = if id = k then { s.ob id with es := (s.ob id).es.set j [f] } else s.ob k := fun k => FSt.ob_set s id _ k
    have hI : ∀ b', Imm J w β s b' → Imm J W β (s.wr [(id, { s.ob id with es := (s.ob id).es.set j [f] })]) b' ∧ W.heap[b']? = w.heap[b']? := fun b' hbb => by
      refine ⟨⟨Nat.lt_of_lt_of_le hbb.1 hg.size, hbb.2.1, fun id' hl' => ?_⟩, hg.block b' hbb.1 (fun e => hbb.2.2 id (by rw [hlf]; rfl) (by rw [hb]; exact e.symm))⟩
      rw [hob] at hl'
      split at hl'
      · rename_i e; subst e; exact hbb.2.2 id (by rw [hlf]; rfl)
      · exact hbb.2.2 id' hl'
    refine h.step (C := fun k => k = id) h.size h.defers (h.bel.grown hg h.bel.size (fun k hk => by injection hk with hk; subst hk; exact hlt.1)) hI (fun k => .inl ⟨rfl, rfl⟩) (fun k hC => ?_) (fun k hC => ?_) (fun k hC hl2 hvv2 => ?_) (fun k hC hl2 T' => ?_) ?_ (fun b' hlt' hn => ⟨hg.block b' hlt' (fun e => hn id hlive (by rw [hb]; exact e.symm)), fun k hl2 => hn k (by rw [hob] at hl2; split at hl2; (· rename_i e; subst e; exact hlive); (· exact hl2))⟩)
    · refine ⟨by rw [hob, if_neg (fun e => hC e.symm)], rfl, fun hl2 b' hbb => hg.block b' ((h.obj k hl2).lt hbb).2 (fun e => hC (h.inj k id b' hl2 hlive hbb (by rw [hb]; exact e.symm)))⟩
    · subst hC; rw [hob, if_pos rfl]; exact Nat.le_refl _
    · subst hC
      refine ⟨hlive, rfl, by rw [hob, if_pos rfl], by rw [hob, if_pos rfl], fun v2 o n hv2 => ?_⟩
      rw [hob, if_pos rfl]
      obtain ⟨A, cc, q1, q2, q3, q4, q5⟩ := hv2.ex
      refine ⟨hv2.row, A, cc, q1, q2, by simpa using q3, q4, fun b2 hbb => ?_⟩
      obtain ⟨o', k1, k2, k3⟩ := q5 b2 hbb
      refine ⟨o', k1, k2, fun cur' hc' => ?_⟩
      rw [hb] at hbb
      injection hbb with hbb
      subst hbb
      dsimp only at hc'
      rw [hWb] at hc'
      injection hc' with hc'
      injection hc' with hc' _ _
      rw [← hc']
      have := k3 cur hblk
      simpa using this
    · subst hC
      rw [hob, if_pos rfl]
      have hvers : ∀ id', (s.ob id').ver ≤ ((s.wr [(k, { s.ob k with es := (s.ob k).es.set j [f] })]).ob id').ver := fun id' => by
        rw [hob]; split
        · rename_i e; subst e; exact Nat.le_refl _
        · exact Nat.le_refl _
      have hfl := flat1_set _ hw j f
      have hfll : (s.ob k).es.flatten.length = (s.ob k).es.length := by have := flat_length hw; omega
      refine .ofH ⟨fun e he => ?_, fun f' hf' id' ver' e => ?_, .slice (some ⟨b, 0, none⟩) (s.ob k).es.length cap, (cur.toList.take ((s.ob k).es.length * 1)).set j v, ?_, by rw [hb]; rfl, ?_, fun i u f' hu hf' => ?_⟩ hlf
      · rw [hsz]
        rcases List.mem_or_eq_of_mem_set he with h' | h'
        · exact hw e h'
        · subst h'; rfl
      · dsimp only at hf'
        rw [hfl] at hf'
        refine Nat.le_trans ?_ (hvers id')
        rcases List.mem_or_eq_of_mem_set hf' with h' | h'
        · exact hH.vers f' h' id' ver' e
        · subst h'; exact hvv id' ver' e
      · rw [hsz]
        simp only [List.length_set]
        refine ⟨by rw [List.length_set, hl, hfll, Nat.mul_one], .inr ⟨b, cap, _, rfl, hlt.1, hWb, hn, hm, by simpa using hcs, ?_⟩⟩
        simp only [List.take_set]
      · dsimp only
        rw [List.length_set, hl, hfl, List.length_set]
      · dsimp only at hf'
        rw [hfl] at hf'
        rw [List.getElem?_set] at hu hf'
        by_cases hij : j = i
        · subst hij
          rw [if_pos rfl] at hu hf'
          split at hu
          · split at hf'
            · injection hu with hu
              injection hf' with hf'
              subst hu
              subst hf'
              exact T' _ _ hvr hvv
            · cases hf'
          · cases hu
        · rw [if_neg hij] at hu hf'
          exact T' _ _ (hr i u f' hu hf') (hH.vers f' (List.mem_of_getElem? hf'))
    · intro k k' b' hl2 hl2' e e'
      refine h.inj k k' b' ?_ ?_ e e'
      · rw [hob] at hl2; split at hl2
        · rename_i e; subst e; exact hlive
        · exact hl2
      · rw [hob] at hl2'; split at hl2'
        · rename_i e; subst e; exact hlive
        · exact hl2'
end
end Go.Proofs.Ytfegkbmnclhljaa
/-
  More operations: copy, values in interfaces, function values that hold handles.
-/
namespace Go.Proofs.Ytfegkbmnclhljaa
set_option linter.unusedVariables false
open Go.RowKit Go.Maps

section
variable {c : Ctx} {w0 w : World} {J : JJ} {s : FSt} {a : Act} {β : Nat → Option Nat} {dst : Option Nat} {ty : TypeId} {pos : String} {after : Array Edge} {g : Option (Nat × Bool)}

theorem FR.ext0 {s' : FSt} {N : Nat} (h : FR N w0 J s a w β) (hg : ∀ k, s'.get k = s.get k) (ho : ∀ k, s'.ob k = s.ob k) : FR N w0 J s' a w β := by
  refine h.step (C := fun _ => False) h.size h.defers h.bel (fun b hb => ⟨⟨hb.1, hb.2.1, fun id hl => hb.2.2 id (by rw [← ho]; exact hl)⟩, rfl⟩) (fun k => .inl ⟨rfl, hg k⟩) (fun id _ => ⟨ho id, rfl, fun _ _ _ => rfl⟩) (fun _ h => h.elim) (fun _ h => h.elim) (fun _ h => h.elim) ?_ (fun b _ hn => ⟨rfl, fun id hl => hn id (by rw [← ho]; exact hl)⟩)
  intro id id' b hl hl'
  rw [ho] at hl hl'
  exact h.inj id id' b hl hl'
theorem splice_nil {α : Type} (L : List α) (o : Nat) : splice L o [] = L := by
  unfold splice
  simp
theorem flatlen_one {α : Type} : ∀ {es : List (List α)}, (∀ e ∈ es, e.length = 1) → es.flatten.length = es.length
  | [], _ => rfl
  | e :: es, h => by
    rw [List.flatten_cons, List.length_append, flatlen_one (fun q hq => h q (by simp [hq])), h e (by simp)]
    simp; omega
theorem flat_splice1 {α : Type} {es ds : List (List α)} (he : ∀ e ∈ es, e.length = 1) (hd : ∀ e ∈ ds, e.length = 1) (o : Nat) : (splice es o ds).flatten = splice es.flatten o ds.flatten := by
  unfold splice
  rw [List.flatten_append, List.flatten_append, flat_take es he, flat_dropE es he, flatlen_one hd, Nat.mul_one, Nat.mul_one]
theorem good_copy (h : FR c.N w0 J s a w β) {T T2 e : Nat} (hT : (c.ty T).k = .slice e) (he : (c.ty e).k ≠ .other) (hz : (c.ty e).size = 1) (x y : Operand) {id ver o m : Nat} (ex : s.ev x = .own id ver o m) (hl : (s.ob id).life = .own) (hv : (s.ob id).ver = ver) (hsz : (s.ob id).sz = 1)
    {f2 : FV} {es2 : List (List FV)} (ey : s.ev y = f2) (h2 : Src s f2 1 es2) :
    Good c w0 J s a ⟨dst, .call { callee := .builtin .copy, args := #[x, y], argTypes := #[T, T2] }, ty, pos, after, g⟩ w (.int .i64 ((es2.take m).length : Nat)) [(id, { s.ob id with es := splice (s.ob id).es o (es2.take m) })] := by
  have hlive : (s.ob id).life ≠ .dead := by rw [hl]; decide
  have hrl : (s.ob id).life.row = true := by rw [hl]; rfl
  obtain ⟨dd, ii, z, ht⟩ := c.get hT (by simp)
  have hd := ht.k
  rw [hT] at hd
  obtain rfl := kind_slice hd
  obtain ⟨d', i', z', ht'⟩ := c.get rfl he
  have hsi : (c.P.info? e).map (·.size) = some 1 := by rw [ht'.info, ← hz, ← ht'.size]; rfl
  obtain ⟨hw2, ho2, A2, c2, us2, hy, hc2, hr2, hA2, hcell2⟩ := h.src ey h2
  obtain ⟨A, cc, e1, e2, e3, e4, e5⟩ := (h.ev_own ex hlive hv).ex
  have hlen2 : us2.length = es2.length := by rw [hr2.1, flatlen_one hw2]
  have hmin : (es2.take m).length = Nat.min es2.length m := by rw [List.length_take, Nat.min_comm]
  by_cases h0 : es2.take m = []
  · have hn : Nat.min es2.length m = 0 := by rw [← hmin, h0]; rfl
    have hrun := run_copy_none (P := c.P) w T T2 ty e A A2 m cc es2.length c2 ht.u hsi hn
    refine ⟨goInt 0, w, β, ?_, ?_, ?_, fun _ _ hm => (FV.no_hands rfl hm).elim⟩
    · simp [execOp, resolve, invoke, builtin, e1, hy, hrun]
    · refine h.ext0 (fun k => FSt.wr_get _ _ _) (fun k => ?_)
      rw [h0, splice_nil]
      show (FSt.set s id _).ob k = _
      rw [FSt.ob_set]
      split
      · rename_i e; subst e; rfl
      · rfl
    · rw [h0]; exact Rd.int _ _
  · have hn0 : 0 < (es2.take m).length := by
      rcases Nat.eq_zero_or_pos (es2.take m).length with h' | h'
      · exact absurd (List.eq_nil_of_length_eq_zero h') h0
      · exact h'
    have hm0 : 0 < m := by rw [List.length_take] at hn0; omega
    obtain ⟨b, hb⟩ : ∃ b, β id = some b := by
      cases hbb : β id with
      | none => obtain ⟨q1, q2⟩ := e4 hbb; omega
      | some b => exact ⟨b, rfl⟩
    obtain ⟨o', rfl, k2, k3⟩ := e5 b hb
    have := k2 (.inl (by omega))
    subst this
    obtain ⟨ad, rfl⟩ : ∃ ad, A2 = some ad := by
      cases hA : A2 with
      | none => obtain ⟨_, q⟩ := hA2 hA; subst q; simp at hn0
      | some ad => exact ⟨ad, rfl⟩
    obtain ⟨cur, cap, hblk, hn, hm, hcs, hr, hrow⟩ := h.block hlive hrl hb
    have hw := ((h.obj id hlive).rowR hrl).wide
    have hone := ((h.obj id hlive).rowR hrl).one
    rw [hsz] at hw hcs hr hrow e1
    simp only [Nat.mul_one] at hcs hr hrow e1
    generalize hes : (s.ob id).es = es at hn hr hrow hw hone e3
    have hd1 : ∀ q ∈ es2.take m, q.length = 1 := fun q hq => hw2 q (List.mem_of_mem_take hq)
    have hcsl : (us2.take m).length = (es2.take m).length := by rw [List.length_take, List.length_take, hlen2]
    have hfl : (es2.take m).flatten = es2.flatten.take m := by rw [flat_take es2 hw2, Nat.mul_one]
    have hr3 : RdL w (Imm J w β s) (us2.take m) (es2.take m).flatten := by rw [hfl]; exact hr2.take m
    have hsub : ∀ f ∈ (es2.take m).flatten, f ∈ es2.flatten := fun f hf => by rw [hfl] at hf; exact List.mem_of_mem_take hf
    have h1u : ∀ u ∈ us2.take m, u.oneCell' = true := fun u hu => by
      obtain ⟨j, hj, rfl⟩ := List.getElem_of_mem hu
      have hj2 : j < (es2.take m).flatten.length := by rw [← hr3.1]; exact hj
      exact (hr3.2 j _ (es2.take m).flatten[j] (by simp only [List.getElem?_eq_getElem hj]) (by simp only [List.getElem?_eq_getElem hj2])).oneCell (ho2 _ (hsub _ (List.getElem_mem hj2)))
    have hle : (es2.take m).length ≤ m := by rw [List.length_take]; omega
    have hfit : o + (us2.take m).length ≤ cur.size := by rw [hcsl, hcs]; omega
    have hrun := run_copy_row (P := c.P) w T T2 ty e b o m cc ad es2.length c2 cur (s.ob id).E (us2.take m) ht.u hsi hblk (by rw [hcsl, hmin]) (fun j u hu => hcell2 ad rfl j u (by rw [List.getElem?_take] at hu; split at hu; exact hu; cases hu)) hfit h1u
    obtain ⟨W, hW⟩ : ∃ W, W = w.setRow b (splice cur.toList o (us2.take m)).toArray := ⟨_, rfl⟩
    have hWb : W.heap[b]? = some (.cells (splice cur.toList o (us2.take m)).toArray (s.ob id).E (0, 0)) := by rw [hW]; exact heap_setRow_same w b _ cur _ hblk
    have hgrown : w.grownBy W (β id) := by
      subst hW
      refine ⟨rfl, rfl, rfl, by simp [World.setRow], fun k hk hne => heap_setRow_ne w b k _ (fun e => hne (by rw [e, hb]))⟩
    have hcl : cur.toList.length = cap := by simpa using hcs
    have htl : (cur.toList.take es.length).length = es.length := by rw [List.length_take, hcl]; omega
    have hslen : (splice es o (es2.take m)).length = es.length := splice_len (by omega)
    have hrow' : W.ownsRow w0.heap.size (s.ob id).E 1 (.slice (some ⟨b, 0, none⟩) es.length cap) (splice es o (es2.take m)).length (splice (cur.toList.take es.length) o (us2.take m)) := by
      rw [hslen]
      refine ⟨?_, .inr ⟨b, cap, _, rfl, ((h.obj id hlive).lt hb).1, hWb, hn, hm, ?_, ?_⟩⟩
      · rw [splice_len (by omega), htl, Nat.mul_one]
      · simp only [List.size_toArray]; rw [splice_len (by omega), hcl, Nat.mul_one]
      · rw [Nat.mul_one]
        have key : ∀ (L p : Nat) (cs ds : List Value), p + ds.length ≤ L → L ≤ cs.length → (splice cs p ds).take L = splice (cs.take L) p ds := by
          intro L p cs ds h1 h2
          unfold splice
          rw [List.append_assoc, List.append_assoc, List.take_append, List.length_take, Nat.min_eq_left (by omega), List.take_append, List.take_take, List.take_take, Nat.min_eq_right (by omega), Nat.min_eq_left (by omega), List.take_of_length_le (by omega : ds.length ≤ L - p), List.drop_take]
          congr 3
          omega
        exact key _ _ _ _ (by omega) (by omega)
    refine ⟨goInt (us2.take m).length, W, β, ?_, ?_, ?_, fun _ _ hm => (FV.no_hands rfl hm).elim⟩
    · have hrun' : (Builtin.copy_ #[T, T2] ty #[.slice (some ⟨b, o, none⟩) m cc, .slice (some ad) es2.length c2]).run c.P w = .ok (goInt (us2.take m).length) W := by rw [hW]; exact hrun
      obtain ⟨V, hV⟩ : ∃ V, V = goInt ((us2.take m).length : Nat) := ⟨_, rfl⟩
      rw [← hV] at hrun' ⊢
      simp [execOp, resolve, invoke, builtin, e1, hy, hrun']
    · refine h.write id (es := splice es o (es2.take m)) (v := .slice (some ⟨b, 0, none⟩) es.length cap) (xs := splice (cur.toList.take es.length) o (us2.take m)) hl hgrown ?_ ?_ ?_ hb.symm ?_ ?_ ?_ (fun k => ?_) (fun k => FSt.wr_get _ _ _)
      · rw [hsz]
        intro q hq
        rcases mem_splice hq with hq | hq
        · exact hw q hq
        · exact hd1 q hq
      · intro f hf
        obtain ⟨q, hq, hfq⟩ := List.mem_flatten.1 hf
        rcases mem_splice hq with hq | hq
        · exact hone f (List.mem_flatten.2 ⟨q, hq, hfq⟩)
        · exact ho2 f (List.mem_flatten.2 ⟨q, List.mem_of_mem_take hq, hfq⟩)
      · rw [hsz]; exact hrow'
      · rw [flat_splice1 hw hd1]; exact hr.splice hr3 _
      · rw [hes, hslen]
      · intro b' cur1 cur2 hb' h1 h2
        rw [hb] at hb'
        injection hb' with hb'
        subst hb'
        rw [hblk] at h1
        injection h1 with h1
        injection h1 with h1 _ _
        subst h1
        rw [hWb] at h2
        injection h2 with h2
        injection h2 with h2 _ _
        rw [← h2]
        simp only [List.size_toArray]
        rw [splice_len (by omega), hcl, hcs]
      · rw [← hes]; exact FSt.ob_set s id _ k
    · rw [← hcsl]; exact Rd.int _ _

def isIface (P : Program) (T : Nat) : Bool :=
  match P.underlying T with
  | some (.interface _) => true
  | _ => false
theorem run_mkIface {T : Nat} (hk : (c.ty T).k ≠ .other) (hni : isIface c.P T = false) (x : Operand) : (execOp a.eval ⟨dst, .makeInterface T x, ty, pos, after, g⟩).run c.P w = .ok (.value (.iface T (a.eval x))) w := by
  obtain ⟨d, i, z, ht⟩ := c.get rfl hk
  unfold isIface at hni
  rw [ht.u] at hni
  cases d <;> first | (cases hni; done) | (simp [execOp, Instr.makeInterface, run_underlying ht.u]; done)
theorem good_mkIface (h : FR c.N w0 J s a w β) {T : Nat} (hk : (c.ty T).k ≠ .other) (hni : isIface c.P T = false) (x : Operand) {f : FV} (ex : s.ev x = f) (hn : f.hand = none) :
    Good c w0 J s a ⟨dst, .makeInterface T x, ty, pos, after, g⟩ w (.iface T f) [] :=
  .rd h (v := .iface T (a.eval x)) (run_mkIface hk hni x) (.iface T _ _ (h.ev_rd ex hn)) rfl
def FV.notWrap : FV → Bool
  | .wrap _ _ => false
  | _ => true
theorem FV.notWrap_ne {f : FV} (h : f.notWrap = true) : ∀ k fs, f ≠ .wrap k fs := by rintro k fs rfl; cases h
theorem hands_wrap {k : Wk} {fs : List FV} {id ver : Nat} (h : (id, ver) ∈ (FV.wrap k fs).hands) : ∃ f ∈ fs, f.hand = some (id, ver) := List.mem_filterMap.1 h
theorem good_wrap (h : FR c.N w0 J s a w β) {k : Wk} {xs : List Operand} {fs : List FV} (hx : xs.map s.ev = fs) (hn : fs.all FV.notWrap = true) {o : Oper} (hr : (execOp a.eval o).run c.P w = .ok (.value (k.mk (xs.map a.eval))) w) : Good c w0 J s a o w (.wrap k fs) [] := by
  subst hx
  refine .pure h hr ⟨xs.map a.eval, rfl, by simp, fun j u f hu hf => ?_⟩ fun id ver hm => ?_
  · rw [List.getElem?_map] at hu hf
    cases hj : xs[j]? with
    | none => rw [hj] at hu; cases hu
    | some x =>
      rw [hj] at hu hf
      injection hu with hu; injection hf with hf
      subst hu; subst hf
      have hm : s.ev x ∈ xs.map s.ev := List.mem_map.2 ⟨x, List.mem_of_getElem? hj, rfl⟩
      exact (h.ev x).to1 (FV.notWrap_ne (List.all_eq_true.1 hn _ hm))
  · obtain ⟨f, hf, e⟩ := hands_wrap hm
    obtain ⟨x, hxm, rfl⟩ := List.mem_map.1 hf
    refine h.evers x ?_
    have hw := List.all_eq_true.1 hn _ hf
    generalize s.ev x = q at e hw
    cases q with
    | own | ptr | omap => injection e with e; rw [← e]; exact List.mem_singleton.2 rfl
    | wrap => cases hw
    | _ => cases e
theorem good_mkIfaceH (h : FR c.N w0 J s a w β) {T : Nat} (hk : (c.ty T).k ≠ .other) (hni : isIface c.P T = false) (x : Operand) {f : FV} (ex : s.ev x = f) (hn : f.notWrap = true) :
    Good c w0 J s a ⟨dst, .makeInterface T x, ty, pos, after, g⟩ w (.wrap (.ifc T) [f]) [] :=
  good_wrap h (k := .ifc T) (xs := [x]) (by simp [ex]) (by simpa using hn) (run_mkIface hk hni x)
theorem good_makeFnH (h : FR c.N w0 J s a w β) {f : Nat} {xs : Array Operand} {caps : List FV} (hx : xs.toList.map s.ev = caps) (hn : caps.all FV.notWrap = true) :
    Good c w0 J s a ⟨dst, .makeFunc (.func f) #[] xs, ty, pos, after, g⟩ w (.wrap (.fn f) caps) [] := by
  refine good_wrap h (k := .fn f) (xs := xs.toList) hx hn ?_
  have : (xs.toList.map a.eval).toArray = xs.map a.eval := by apply Array.ext'; simp
  simp [execOp, Instr.makeFunc, Wk.mk, this]
theorem good_bound (h : FR c.N w0 J s a w β) {f : Nat} {xs : Array Operand} {caps : List FV} (hx : xs.toList.map s.ev = caps) (hn : caps.all FV.notWrap = true) :
    Good c w0 J s a ⟨dst, .makeFunc (.func f) xs #[], ty, pos, after, g⟩ w (.wrap (.bound f) caps) [] := by
  refine good_wrap h (k := .bound f) (xs := xs.toList) hx hn ?_
  have : (xs.toList.map a.eval).toArray = xs.map a.eval := by apply Array.ext'; simp
  simp [execOp, Instr.makeFunc, Wk.mk, this]
theorem good_tAssert (h : FR c.N w0 J s a w β) {T T2 : Nat} (hk : (c.ty T).k ≠ .other) (hni : isIface c.P T = false) (x : Operand) {f : FV} (ex : s.ev x = .iface T f) (hn : f.hand = none) :
    Good c w0 J s a ⟨dst, .typeAssert x T2 T false, ty, pos, after, g⟩ w f [] := by
  have hr := h.ev_rd ex rfl
  generalize hx : a.eval x = v at hr
  cases hr with
  | iface t v f hr =>
    refine .rd h (v := v) ?_ hr hn
    obtain ⟨d, i, z, ht⟩ := c.get rfl hk
    unfold isIface at hni
    rw [ht.u] at hni
    cases d <;> first | (cases hni; done) | (simp [execOp, Instr.typeAssert, run_underlying ht.u, hx]; done)
inductive NilIs (s : FSt) : FV → Bool → Prop where
  | nil : NilIs s .nil true
  | own (id ver o n : Nat) (hl : s.live id ver) (hn : 0 < n) : NilIs s (.own id ver o n) false
  | list (sz : Nat) (es : List (List FV)) (hn : es ≠ []) : NilIs s (.list sz es) false
theorem FR.nilIs (h : FR c.N w0 J s a w β) {x : Operand} {f : FV} {b : Bool} (ex : s.ev x = f) (hb : NilIs s f b) : ∃ A n cc, a.eval x = .slice A n cc ∧ A.isNone = b := by
  cases hb with
  | nil => exact ⟨none, 0, 0, h.ev_nil ex, rfl⟩
  | own id ver o n hl hn =>
    obtain ⟨A, cc, e1, e2, e3, e4, e5⟩ := (h.ev_own ex hl.1 hl.2).ex
    refine ⟨A, n, cc, e1, ?_⟩
    cases hb : β id with
    | none => obtain ⟨_, q⟩ := e4 hb; omega
    | some b => obtain ⟨o', rfl, _⟩ := e5 b hb; rfl
  | list sz es hn =>
    have hr := h.ev_rd ex rfl
    generalize hx : a.eval x = v at hr
    cases hr with
    | list A m cc sz es us hm hc hw ho hA hl hrr =>
      refine ⟨A, m, cc, rfl, ?_⟩
      obtain ⟨b, off, rfl, _⟩ := hA (fun e => hn (List.eq_nil_of_length_eq_zero (by omega)))
      rfl
theorem good_eqNil (h : FR c.N w0 J s a w β) (op : BinOp) {T T2 e : Nat} (hT : (c.ty T).k = .slice e) (x y : Operand) {f : FV} {b : Bool} (ex : s.ev x = f) (hb : NilIs s f b) (ey : s.ev y = .nil) (hop : op = .eql ∨ op = .neq) :
    Good c w0 J s a ⟨dst, .binOp op T x y T2, ty, pos, after, g⟩ w (.bool (if op = .eql then b else !b)) [] := by
  obtain ⟨dd, ii, z, ht⟩ := c.get hT (by simp)
  have hd := ht.k
  rw [hT] at hd
  obtain rfl := kind_slice hd
  obtain ⟨A, n, cc, e1, rfl⟩ := h.nilIs ex hb
  have e2 := h.ev_nil ey
  have heq : (Op.equalIn Op.maxDepth T (.slice A n cc) (.slice none 0 0)).run c.P w = .ok A.isNone w := by
    show (Op.equalIn (9999 + 1) T (.slice A n cc) (.slice none 0 0)).run c.P w = _
    unfold Op.equalIn
    cases A <;> simp [run_underlying ht.u]
  refine .rd h (v := .bool (if op = .eql then A.isNone else !A.isNone)) ?_ (.bool _) rfl
  rcases hop with rfl | rfl
  · simp [execOp, e1, e2, eqGuard, binOp, Op.equal, heq]
  · simp [execOp, e1, e2, eqGuard, binOp, Op.equal, heq]
end
def EqAgg (P : Program) (T : Nat) (X Y : List FV) (b : Bool) : Prop := P.eqGuardType P.depth T = false ∧ ∀ w : World, (Op.equalIn 10000 T (.agg (X.map FV.val1).toArray) (.agg (Y.map FV.val1).toArray)).run P w = .ok b w
theorem good_eqAgg {c : Ctx} {w0 w : World} {J : JJ} {s : FSt} {a : Act} {β : Nat → Option Nat} {dst : Option Nat} {ty : TypeId} {pos : String} {after : Array Edge} {g : Option (Nat × Bool)} (h : FR c.N w0 J s a w β) (op : BinOp) {T T2 : TypeId} (x y : Operand) {X Y : List FV} {b : Bool} (ex : s.ev x = .agg X) (hX : X.all FV.simple1 = true) (ey : s.ev y = .agg Y) (hY : Y.all FV.simple1 = true) (hl : EqAgg c.P T X Y b) (hop : op = .eql ∨ op = .neq) :
    Good c w0 J s a ⟨dst, .binOp op T x y T2, ty, pos, after, g⟩ w (.bool (if op = .eql then b else !b)) [] := by
  have e1 : a.eval x = .agg (X.map FV.val1).toArray := (h.ev_rd ex rfl).simple_val hX
  have e2 : a.eval y = .agg (Y.map FV.val1).toArray := (h.ev_rd ey rfl).simple_val hY
  obtain ⟨h1, h2⟩ := hl
  have h3 := fun op => run_eqGuard_agg (P := c.P) (w := w) op T x y (X.map FV.val1).toArray (Y.map FV.val1).toArray h1
  rcases hop with rfl | rfl
  · refine .rd h (v := .bool b) ?_ (.bool _) rfl
    simp only [execOp, e1, e2, Sem.run_bind, h3, Result.andThen_ok, run_eql_struct, h2, Sem.run_pure]
  · refine .rd h (v := .bool (!b)) ?_ (.bool _) rfl
    simp only [execOp, e1, e2, Sem.run_bind, h3, Result.andThen_ok, run_neq_struct, h2, Sem.run_pure]
end Go.Proofs.Ytfegkbmnclhljaa
/-
  What an operation does on plain values, as one relation; that the model follows; that it looks only at its operands.
-/
namespace Go.Proofs.Ytfegkbmnclhljaa
set_option linter.unusedVariables false
open Go.RowKit Go.Maps

def isGo (P : Program) (f : Nat) : Bool :=
  match P.funcs[f]? with
  | some fn => fn.body.isSome && fn.name != "runtime.NumGoroutine"
  | none => false

inductive Mode where
  | fr | sh | ow (E sz : Nat)
  deriving DecidableEq, Inhabited

def ResOk (w w' : World) (I : Nat → Prop) : Mode → Value → FV → Prop
  | .fr, v, f => Rd w' (fun b => w.heap.size ≤ b ∧ b < w'.heap.size) v f
  | .sh, v, f => Rd w' (fun b => I b ∨ (w.heap.size ≤ b ∧ b < w'.heap.size)) v f
  | .ow E sz, v, f => ∃ es us, f = .list sz es ∧ (∀ e ∈ es, e.length = sz) ∧ (∀ f ∈ es.flatten, f.one = true) ∧ w'.ownsRow w.heap.size E sz v es.length us ∧ RdL w' (fun b => w.heap.size ≤ b ∧ b < w'.heap.size ∧ v.ownBlock ≠ some b) us es.flatten

structure Spec (P : Program) (f : Nat) (args : List FV) (m : Mode) (res : FV) : Prop where
  go : isGo P f = true
  hand : res.hand = none
  calls : ∀ (w : World) (I : Nat → Prop) (vs : List Value), (∀ b, I b → b < w.heap.size) → RdL w I vs args → Calls P f vs.toArray w fun e w' => ∃ v, e = .returned v ∧ Below w.heap.size w w' ∧ ResOk w w' I m v res

inductive FV.le : FV → FV → Prop where
  | refl (f : FV) : FV.le f f
  | undef (f : FV) : FV.le f .undef
  | nil (sz : Nat) : FV.le .nil (.list sz [])
  | aggL {fs gs : List FV} (hl : fs.length = gs.length) (h : ∀ (j : Nat) f g, fs[j]? = some f → gs[j]? = some g → FV.le f g) : FV.le (.agg fs) (.agg gs)
  | tupL {fs gs : List FV} (hl : fs.length = gs.length) (h : ∀ (j : Nat) f g, fs[j]? = some f → gs[j]? = some g → FV.le f g) : FV.le (.tup fs) (.tup gs)
inductive LeL : List FV → List FV → Prop where
  | nil : LeL [] []
  | cons {f g : FV} {fs gs : List FV} (h : FV.le f g) (hs : LeL fs gs) : LeL (f :: fs) (g :: gs)
theorem LeL.get {fs gs : List FV} (h : LeL fs gs) : fs.length = gs.length ∧ ∀ (j : Nat) f g, fs[j]? = some f → gs[j]? = some g → FV.le f g := by
  induction h with
  | nil => exact ⟨rfl, by simp⟩
  | cons h hs ih =>
    refine ⟨by simp [ih.1], fun j f g hf hg => ?_⟩
    cases j with
    | zero => simp at hf hg; subst hf; subst hg; exact h
    | succ j => exact ih.2 j f g (by simpa using hf) (by simpa using hg)
theorem FV.le.agg {fs gs : List FV} (h : LeL fs gs) : FV.le (.agg fs) (.agg gs) := .aggL h.get.1 h.get.2
theorem FV.le.tup {fs gs : List FV} (h : LeL fs gs) : FV.le (.tup fs) (.tup gs) := .tupL h.get.1 h.get.2
theorem Rd.le {w : World} {I : Nat → Prop} {f g : FV} (h : FV.le f g) : ∀ {v : Value}, Rd w I v f → Rd w I v g := by
  induction h with
  | refl f => exact id
  | undef f => exact fun _ => .undef _
  | nil sz => intro v h; cases h; exact .list none 0 0 sz [] [] rfl (Nat.le_refl _) (by simp) (by simp) (by simp) (by simp) (by simp)
  | @aggL fs gs hl h ih =>
    intro v hv
    cases hv with
    | agg us fs hl' hr =>
      refine .agg us gs (hl'.trans hl) fun j u g hu hg => ?_
      have hj : j < fs.length := by rw [hl]; exact (List.getElem?_eq_some_iff.1 hg).1
      exact ih j fs[j] g (by simp [hj]) hg (hr j u _ hu (by simp [hj]))
  | @tupL fs gs hl h ih =>
    intro v hv
    cases hv with
    | tup us fs hl' hr =>
      refine .tup us gs (hl'.trans hl) fun j u g hu hg => ?_
      have hj : j < fs.length := by rw [hl]; exact (List.getElem?_eq_some_iff.1 hg).1
      exact ih j fs[j] g (by simp [hj]) hg (hr j u _ hu (by simp [hj]))
inductive ArgOk (s : FSt) (m : Mode) : FV → FV → Prop where
  | plain (f : FV) (hn : f.hand = none) : ArgOk s m f f
  | nil (sz : Nat) : ArgOk s m .nil (.list sz [])
  | sub (f g : FV) (hn : f.hand = none) (hle : FV.le f g) : ArgOk s m f g
  | own (id ver o n : Nat) (hl : s.live id ver) (hrl : (s.ob id).life.row = true) (hm : m = .sh → (s.ob id).life = .shut) : ArgOk s m (.own id ver o n) (.list (s.ob id).sz (((s.ob id).es.drop o).take n))
inductive ArgsOk (s : FSt) (m : Mode) : List Operand → List FV → Prop where
  | nil : ArgsOk s m [] []
  | cons {x : Operand} {xs : List Operand} {g : FV} {gs : List FV} (h : ArgOk s m (s.ev x) g) (hs : ArgsOk s m xs gs) : ArgsOk s m (x :: xs) (g :: gs)

section
variable {c : Ctx} {w0 w : World} {J : JJ} {s : FSt} {a : Act} {β : Nat → Option Nat}

def Lent (J : JJ) (w : World) (β : Nat → Option Nat) (s : FSt) (m : Mode) (b : Nat) : Prop := if m = .sh then Imm J w β s b else b < w.heap.size

theorem FR.arg (h : FR c.N w0 J s a w β) {m : Mode} {x : Operand} {g : FV} (hx : ArgOk s m (s.ev x) g) : Rd w (Lent J w β s m) (a.eval x) g := by
  have him : ∀ b, Imm J w β s b → Lent J w β s m b ∧ w.heap[b]? = w.heap[b]? := fun b hb => by
    unfold Lent; split
    · exact ⟨hb, rfl⟩
    · exact ⟨hb.1, rfl⟩
  generalize hf : s.ev x = f at hx
  cases hx with
  | plain f hn => exact (h.ev_rd hf hn).mono him
  | sub f g hn hle => exact ((h.ev_rd hf hn).mono him).le hle
  | nil sz =>
    rw [h.ev_nil hf]
    exact .list none 0 0 sz [] [] rfl (Nat.le_refl _) (by simp) (by simp) (by simp) (by simp) (by simp)
  | own id ver o n hl hrl hm =>
    obtain ⟨A, cc, e1, e2, e3, e4, e5⟩ := (h.ev_own hf hl.1 hl.2).ex
    obtain ⟨hw, hone, A', cc', us, e1', e2', hr, hA', hcell⟩ := h.src hf (Src.own id ver o n hl hrl)
    rw [e1] at e1' ⊢
    injection e1' with k1 k2 k3
    subst k1
    refine .list A n cc _ _ us k2.symm e2 hw hone (fun h0 => ?_) hr.1 (hr.mono him).2
    cases hb : β id with
    | none => have := (e4 hb).2; omega
    | some b =>
      obtain ⟨o', rfl, _⟩ := e5 b hb
      refine ⟨b, o', rfl, ?_, fun j u hu => by have := hcell _ rfl j u hu; rwa [add_none] at this⟩
      have hlt := ((h.obj id hl.1).lt hb).2
      unfold Lent; split
      · rename_i hsh
        have hshut := hm hsh
        refine ⟨hlt, h.fresh b ((h.obj id hl.1).lt hb).1 (.inr ⟨id, hl.1, hb⟩), fun id' hl' e => ?_⟩
        have := h.inj id id' b hl.1 (Life.mine_ne hl') hb e
        subst this
        rw [hshut] at hl'; cases hl'
      · exact hlt
theorem FR.args (h : FR c.N w0 J s a w β) {m : Mode} : ∀ {xs : List Operand} {gs : List FV}, ArgsOk s m xs gs → RdL w (Lent J w β s m) (xs.map a.eval) gs
  | _, _, .nil => RdL.nil
  | _, _, .cons hx hs => RdL.cons (h.arg hx) (h.args hs)

theorem run_callFunc {P : Program} {f : Nat} (hg : isGo P f = true) (args : Array Value) (w : World) : (callFunc f args).run P w = .ok (.enter f args) w := by
  unfold isGo at hg
  cases hf : P.funcs[f]? with
  | none => rw [hf] at hg; cases hg
  | some fn =>
    rw [hf] at hg
    simp only [Bool.and_eq_true, bne_iff_ne, ne_eq] at hg
    have hb : fn.body ≠ none := fun e => by rw [e] at hg; cases hg.1
    have hp : (program : Sem Program).run P w = .ok P w := rfl
    simp [callFunc, hp, hf, hg.2, hb]

theorem call_wp (h : FR c.N w0 J s a w β) {f : Nat} {xs : Array Operand} {ts : Array TypeId} {m : Mode} {gs : List FV} {res : FV} (hs : Spec c.P f gs m res) (hx : ArgsOk s m xs.toList gs) {dst : Option Nat} {ty : TypeId} {pos : String} {after : Array Edge} {g : Option (Nat × Bool)}
    {K : Act → World → Prop} {Q : Exit → Act → World → Prop} (hK : ∀ v w', Below w.heap.size w w' → ResOk w w' (Lent J w β s m) m v res → K (a.put dst v) w') :
    (⟨dst, .call { callee := .value (.func f), args := xs, argTypes := ts }, ty, pos, after, g⟩ : Oper).wp c.P a w K Q := by
  have hlent : ∀ b, Lent J w β s m b → b < w.heap.size := fun b hb => by
    unfold Lent at hb; split at hb
    · exact hb.1
    · exact hb
  have hc := hs.calls w (Lent J w β s m) (xs.toList.map a.eval) hlent (h.args hx)
  have hmap : (xs.toList.map a.eval).toArray = xs.map a.eval := by
    apply Array.ext'
    simp
  rw [hmap] at hc
  unfold Oper.wp
  have hrun : (execOp a.eval ⟨dst, .call { callee := .value (.func f), args := xs, argTypes := ts }, ty, pos, after, g⟩).run c.P w = .ok (.enter f (xs.map a.eval)) w := by
    have := run_callFunc (P := c.P) hs.go (xs.map a.eval) w
    simp [execOp, resolve, Act.eval, Deferred.ofValue, invoke, this]
  rw [hrun, Oper.upon_enter]
  refine hc.mono ?_
  rintro e w' ⟨v, rfl, hb, hr⟩
  exact hK v w' hb hr
end

section
variable {c : Ctx} {w0 w : World} {J : JJ} {s : FSt} {a : Act} {β : Nat → Option Nat}
theorem callV_wp (h : FR c.N w0 J s a w β) {f : Nat} {x : Operand} {xs : Array Operand} {ts : Array TypeId} {gs caps : List FV} {res : FV} (ex : s.ev x = .fn f caps) (hs : Spec c.P f (gs ++ caps) .fr res) (hx : ArgsOk s .fr xs.toList gs) {dst : Option Nat} {ty : TypeId} {pos : String} {after : Array Edge} {g : Option (Nat × Bool)}
    {K : Act → World → Prop} {Q : Exit → Act → World → Prop} (hK : ∀ v w', Below w.heap.size w w' → ResOk w w' (fun b => b < w.heap.size) .fr v res → K (a.put dst v) w') :
    (⟨dst, .call { callee := .value x, args := xs, argTypes := ts }, ty, pos, after, g⟩ : Oper).wp c.P a w K Q := by
  have hxs := h.args hx
  have hl : ∀ b, Lent J w β s .fr b → b < w.heap.size := fun b hb => by simpa [Lent] using hb
  have hv := VR.rd (by have := h.ev x; rwa [ex] at this) rfl
  generalize hxe : a.eval x = v at hv
  cases hv with
  | fn f us fs hul hur =>
    have hcap : RdL w (fun b => b < w.heap.size) us caps := ⟨hul, fun j u q hu hq => Rd.mono (fun b hb => ⟨hb.1, rfl⟩) (hur j u q hu hq)⟩
    have harg : RdL w (fun b => b < w.heap.size) (xs.toList.map a.eval) gs := ⟨hxs.1, fun j u q hu hq => Rd.mono (fun b hb => ⟨hl b hb, rfl⟩) (hxs.2 j u q hu hq)⟩
    have hc := hs.calls w (fun b => b < w.heap.size) (xs.toList.map a.eval ++ us) (fun b hb => hb) (harg.append hcap)
    have hmap : (xs.toList.map a.eval ++ us).toArray = xs.map a.eval ++ us.toArray := by
      apply Array.ext'
      simp
    rw [hmap] at hc
    unfold Oper.wp
    have hrun : (execOp a.eval ⟨dst, .call { callee := .value x, args := xs, argTypes := ts }, ty, pos, after, g⟩).run c.P w = .ok (.enter f (xs.map a.eval ++ us.toArray)) w := by
      have := run_callFunc (P := c.P) hs.go (xs.map a.eval ++ us.toArray) w
      simp [execOp, resolve, hxe, Deferred.ofValue, invoke, this]
    rw [hrun, Oper.upon_enter]
    refine hc.mono ?_
    rintro e w' ⟨v, rfl, hb, hr⟩
    exact hK v w' hb hr
theorem good_makeFn (hF : FR c.N w0 J s a w β) {f : Nat} {xs : Array Operand} {caps : List FV} (hx : xs.toList.map s.ev = caps) (hc : ∀ g ∈ caps, g.hand = none) {dst : Option Nat} {ty : TypeId} {pos : String} {after : Array Edge} {g : Option (Nat × Bool)} :
    Good c w0 J s a ⟨dst, .makeFunc (.func f) #[] xs, ty, pos, after, g⟩ w (.fn f caps) [] := by
  have hl : RdL w (Imm J w β s) (xs.toList.map a.eval) caps := by
    subst hx
    refine ⟨by simp, fun j u q hu hq => ?_⟩
    rw [List.getElem?_map] at hu hq
    cases hx2 : xs.toList[j]? with
    | none => rw [hx2] at hu; cases hu
    | some y =>
      rw [hx2] at hu hq
      simp only [Option.map_some, Option.some.injEq] at hu hq
      subst hu; subst hq
      exact VR.rd (hF.ev y) (hc _ (List.mem_map.2 ⟨y, List.mem_of_getElem? hx2, rfl⟩))
  have hv : (xs.toList.map a.eval).toArray = xs.map a.eval := by apply Array.ext'; simp
  exact .rd hF (v := .func (.func f) #[] (xs.map a.eval)) (by simp [execOp, Instr.makeFunc]) (by rw [← hv]; exact .fn f _ _ hl.1 hl.2) rfl
end

inductive Eff (c : Ctx) (s : FSt) (d : Nat) : Op → FV → List (Nat × FObj) → Prop where
  | move (x : Operand) : Eff c s d (.move x) (s.ev x) []
  | assign (x : Operand) : Eff c s d (.assign x) (s.ev x) []
  | pick (cnd x y : Operand) {b : Bool} (hb : s.ev cnd = .bool b) : Eff c s d (.pick cnd x y) (if b then s.ev x else s.ev y) []
  | ibin (op : BinOp) (T T2 : TypeId) (x y : Operand) {k : IntKind} {m n : Int} {f : FV} (ex : s.ev x = .int k m) (ey : s.ev y = .int k n) (hf : ibin op k m n = some f) : Eff c s d (.binOp op T x y T2) f []
  | idiv (op : BinOp) (T T2 : TypeId) (x y : Operand) {k : IntKind} {m n : Int} (ex : s.ev x = .int k m) (ey : s.ev y = .int k n) (hn : n ≠ 0) (hop : op = .quo ∨ op = .rem) : Eff c s d (.binOp op T x y T2) (.int k (if op = .quo then k.wrap (m.tdiv n) else m.tmod n)) []
  | bbin (op : BinOp) {T T2 : TypeId} (x y : Operand) {m n : Bool} (hT : (c.ty T).k = .bool) (ex : s.ev x = .bool m) (ey : s.ev y = .bool n) (hop : op = .eql ∨ op = .neq) : Eff c s d (.binOp op T x y T2) (.bool (if op = .eql then m == n else m != n)) []
  | not (T : TypeId) (x : Operand) {b : Bool} (ex : s.ev x = .bool b) : Eff c s d (.unOp .not T x) (.bool (!b)) []
  | shift (op : BinOp) (T T2 : TypeId) (x y : Operand) {k yk : IntKind} {m n : Int} (ex : s.ev x = .int k m) (ey : s.ev y = .int yk n) (hn : 0 ≤ n) (hop : op = .shl ∨ op = .shr) : Eff c s d (.binOp op T x y T2) (.int k (if op = .shl then k.wrap (m * 2 ^ (min n.toNat k.bits)) else m.fdiv (2 ^ (min n.toNat k.bits)))) []
  | conv {T T2 : TypeId} {k2 : IntKind} (hT : (c.ty T).k ≠ .other) (hT2 : (c.ty T2).k = .int k2) (x : Operand) {k : IntKind} {n : Int} (ex : s.ev x = .int k n) : Eff c s d (.convert T T2 x) (.int k2 (k2.wrap n)) []
  | neg (T : TypeId) (x : Operand) {k : IntKind} {n : Int} (ex : s.ev x = .int k n) : Eff c s d (.unOp .neg T x) (.int k (k.wrap (-n))) []
  | min2 (bi : Builtin) (T T2 : TypeId) (x y : Operand) {k : IntKind} {m n : Int} (ex : s.ev x = .int k m) (ey : s.ev y = .int k n) (hbi : bi = .min ∨ bi = .max) :
      Eff c s d (.call { callee := .builtin bi, args := #[x, y], argTypes := #[T, T2] }) (.int k (if bi = .min then (if n < m then n else m) else (if m < n then n else m))) []
  | lenOwn {T e : TypeId} (hT : (c.ty T).k = .slice e) (x : Operand) {id ver o n : Nat} (ex : s.ev x = .own id ver o n) (hl : s.live id ver) : Eff c s d (.call { callee := .builtin .len, args := #[x], argTypes := #[T] }) (.int .i64 n) []
  | lenList {T e : TypeId} (hT : (c.ty T).k = .slice e) (x : Operand) {sz : Nat} {es : List (List FV)} (ex : s.ev x = .list sz es) : Eff c s d (.call { callee := .builtin .len, args := #[x], argTypes := #[T] }) (.int .i64 es.length) []
  | lenNil {T e : TypeId} (hT : (c.ty T).k = .slice e) (x : Operand) (ex : s.ev x = .nil) : Eff c s d (.call { callee := .builtin .len, args := #[x], argTypes := #[T] }) (.int .i64 0) []
  | fieldPtr {T ft i off : Nat} {fs : List (Nat × Nat)} (hT : (c.ty T).k = .strct fs) (hf : fs[i]? = some (off, ft)) (hft : (c.ty ft).k ≠ .other) (hsz : (c.ty ft).size ≠ 0) (x : Operand) {id ver j o : Nat} (ex : s.ev x = .ptr id ver j o) (hl : s.live id ver) :
      Eff c s d (.fieldAddr T x i) (.ptr id ver j (o + off)) []
  | fieldEptr {T ft i off : Nat} {fs : List (Nat × Nat)} (hT : (c.ty T).k = .strct fs) (hf : fs[i]? = some (off, ft)) (hft : (c.ty ft).k ≠ .other) (hsz : (c.ty ft).size ≠ 0) (x : Operand) {sz j o : Nat} {es : List (List FV)} (ex : s.ev x = .eptr sz es j o) :
      Eff c s d (.fieldAddr T x i) (.eptr sz es j (o + off)) []
  | indexList {T e : Nat} (hT : (c.ty T).k = .slice e) (he : (c.ty e).k ≠ .other) (x y : Operand) {sz : Nat} {es : List (List FV)} {k : IntKind} {n : Nat} (ex : s.ev x = .list sz es) (hsz : (c.ty e).size = sz) (ey : s.ev y = .int k n) (h1 : n < es.length) :
      Eff c s d (.indexAddr T x y) (.eptr sz es n 0) []
  | indexOwn {T e : Nat} (hT : (c.ty T).k = .slice e) (he : (c.ty e).k ≠ .other) (x y : Operand) {id ver o m : Nat} {k : IntKind} {n : Nat} (ex : s.ev x = .own id ver o m) (hl : s.live id ver) (hsz : (c.ty e).size = (s.ob id).sz) (ey : s.ev y = .int k n) (h1 : n < m) :
      Eff c s d (.indexAddr T x y) (.ptr id ver (o + n) 0) []
  | indexAPtr {T m e : Nat} (hT : (c.ty T).k = .arr m e) (he : (c.ty e).k ≠ .other) (x y : Operand) {id ver j o : Nat} {k : IntKind} {n : Nat} (ex : s.ev x = .ptr id ver j o) (hl : s.live id ver) (ey : s.ev y = .int k n) (h1 : n < m) :
      Eff c s d (.indexAddr T x y) (.ptr id ver j (o + n * (c.ty e).size)) []
  | indexAEptr {T m e : Nat} (hT : (c.ty T).k = .arr m e) (he : (c.ty e).k ≠ .other) (x y : Operand) {sz j o : Nat} {es : List (List FV)} {k : IntKind} {n : Nat} (ex : s.ev x = .eptr sz es j o) (ey : s.ev y = .int k n) (h1 : n < m) :
      Eff c s d (.indexAddr T x y) (.eptr sz es j (o + n * (c.ty e).size)) []
  | loadEptr {T : Nat} {bb : Bool} (hk : (c.ty T).k.agg? = some bb) (x : Operand) {sz j o : Nat} {es : List (List FV)} (ex : s.ev x = .eptr sz es j o) (hj : j < es.length) (ho : o + (c.ty T).size ≤ sz) (ho' : o < sz) : Eff c s d (.load T x) (loadF (c.ty T) ((es.getD j []).drop o)) []
  | loadPtr {T : Nat} {bb : Bool} (hk : (c.ty T).k.agg? = some bb) (x : Operand) {id ver j o : Nat} (ex : s.ev x = .ptr id ver j o) (hl : s.live id ver) (hrl : (s.ob id).life.row = true) (hj : j < (s.ob id).es.length) (ho : o + (c.ty T).size ≤ (s.ob id).sz) (ho' : o < (s.ob id).sz) :
      Eff c s d (.load T x) (loadF (c.ty T) (((s.ob id).es.getD j []).drop o)) []
  | store {T : Nat} (hk : (c.ty T).k ≠ .other) (x y : Operand) {id ver j o : Nat} (ex : s.ev x = .ptr id ver j o) (hl : (s.ob id).life = .own) (hv : (s.ob id).ver = ver) {f : FV} (ey : s.ev y = f) (hf : f.cells.all FV.one = true) (hfl : f.cells.length = (c.ty T).size)
      (hj : j < (s.ob id).es.length) (ho : o + (c.ty T).size ≤ (s.ob id).sz) : Eff c s d (.store T x y) .undef [(id, { s.ob id with es := (s.ob id).es.set j (splice ((s.ob id).es.getD j []) o f.cells) })]
  | alloc {T : Nat} (hk : (c.ty T).k ≠ .other) (hz : (c.ty T).zero.all FV.one = true) : Eff c s d (.alloc T) (.ptr d ((s.ob d).ver + 1) 0 0) [(d, ⟨(s.ob d).ver + 1, .own, T, (c.ty T).zero.length, [(c.ty T).zero]⟩)]
  | box {T : Nat} (x : Operand) {f : FV} (ex : s.ev x = f) (hf : f.cells.all FV.one = true) : Eff c s d (.box T x) (.ptr d ((s.ob d).ver + 1) 0 0) [(d, ⟨(s.ob d).ver + 1, .own, T, f.cells.length, [f.cells]⟩)]
  | build {T : Nat} {fs : List (Nat × Nat)} (hT : (c.ty T).k = .strct fs) (hfs : ∀ p ∈ fs, (c.ty p.2).k ≠ .other) (ps : Array (Nat × Operand)) {cs : List FV} (hf : ffill (fun i => (fs[i]?).map fun p => (p.1, (c.ty p.2).size)) (c.ty T).zero (s.parts ps) = some cs) :
      Eff c s d (.build T ps) (.agg cs) []
  | buildA {T n e : Nat} (hT : (c.ty T).k = .arr n e) (he : (c.ty e).k ≠ .other) (ps : Array (Nat × Operand)) {cs : List FV} (hf : ffill (fun i => some (i * (c.ty e).size, (c.ty e).size)) (c.ty T).zero (s.parts ps) = some cs) : Eff c s d (.build T ps) (.agg cs) []
  | buildSlice {T e n : Nat} (hT : (c.ty T).k = .slice e) (he : (c.ty e).k ≠ .other) (ps : Array (Nat × Operand)) (es : List (List FV)) (hn : es.length = n) (hw : ∀ x ∈ es, x.length = (c.ty e).size) (ho : ∀ f ∈ es.flatten, f.one = true) (hcap : n * (c.ty e).size ≤ 16777216) (hnm : n ≤ 16777216)
      (hf : ffill (fun i => some (i * (c.ty e).size, (c.ty e).size)) (List.replicate (n * (c.ty e).size) .undef) (s.parts ps) = some es.flatten) : Eff c s d (.buildSlice T n ps) (.own d ((s.ob d).ver + 1) 0 n) [(d, ⟨(s.ob d).ver + 1, .own, e, (c.ty e).size, es⟩)]
  | buildSliceS {T e n : Nat} (hT : (c.ty T).k = .slice e) (he : (c.ty e).k ≠ .other) (ps : Array (Nat × Operand)) (es : List (List FV)) (hn : es.length = n) (hw : ∀ x ∈ es, x.length = (c.ty e).size) (ho : ∀ f ∈ es.flatten, f.one = true) (hcap : n * (c.ty e).size ≤ 16777216) (hnm : n ≤ 16777216)
      (hf : ffill (fun i => some (i * (c.ty e).size, (c.ty e).size)) (List.replicate (n * (c.ty e).size) .undef) (s.parts ps) = some es.flatten) : Eff c s d (.buildSlice T n ps) (.list (c.ty e).size es) []
  | makeSlice {T e n : Nat} (hT : (c.ty T).k = .slice e) (he : (c.ty e).k ≠ .other) (x y : Operand) {k1 k2 : IntKind} (ex : s.ev x = .int k1 n) (ey : s.ev y = .int k2 n) (ho : (c.ty e).zero.all FV.one = true) (hb : (c.ty e).bytes * n ≤ 281474976710656) (hn : n ≤ 281474976710656) :
      Eff c s d (.makeSlice T x y) (.own d ((s.ob d).ver + 1) 0 n) [(d, ⟨(s.ob d).ver + 1, .own, e, (c.ty e).size, List.replicate n (c.ty e).zero⟩)]
  | sliceOwn {T e : Nat} (hT : (c.ty T).k = .slice e) (he : (c.ty e).k ≠ .other) (x : Operand) (lo hi : Option Operand) {id ver o m l u : Nat} (ex : s.ev x = .own id ver o m) (hl : s.live id ver) (hsz : (c.ty e).size = (s.ob id).sz) (hlo : s.lo lo l) (hhi : s.hi hi m u) (h1 : l ≤ u) (h2 : u ≤ m) :
      Eff c s d (.slice T x lo hi none) (.own id ver (o + l) (u - l)) []
  | sliceList {T e : Nat} (hT : (c.ty T).k = .slice e) (he : (c.ty e).k ≠ .other) (x : Operand) (lo hi : Option Operand) {sz l u : Nat} {es : List (List FV)} (ex : s.ev x = .list sz es) (hsz : (c.ty e).size = sz) (hlo : s.lo lo l) (hhi : s.hi hi es.length u) (h1 : l ≤ u) (h2 : u ≤ es.length) :
      Eff c s d (.slice T x lo hi none) (.list sz ((es.drop l).take (u - l))) []
  | sliceNil {T e : Nat} (hT : (c.ty T).k = .slice e) (he : (c.ty e).k ≠ .other) (x : Operand) (lo hi : Option Operand) (ex : s.ev x = .nil) (hlo : s.lo lo 0) (hhi : s.hi hi 0 0) : Eff c s d (.slice T x lo hi none) .nil []
  | extract (x : Operand) {i : Nat} {fs : List FV} {f : FV} (ex : s.ev x = .tup fs) (hf : fs[i]? = some f) (hn : f.hand = none) : Eff c s d (.extract x i) f []
  | nilPtr (x : Operand) {id ver i o : Nat} (ex : s.ev x = .ptr id ver i o) (hl : s.live id ver) : Eff c s d (.nilCheck x) (.ptr id ver i o) []
  | nilEptr (x : Operand) {sz i o : Nat} {es : List (List FV)} (ex : s.ev x = .eptr sz es i o) : Eff c s d (.nilCheck x) (.eptr sz es i o) []
  | append {T e : Nat} (hT : (c.ty T).k = .slice e) (he : (c.ty e).k ≠ .other) (hpos : 0 < (c.ty e).size) (x y : Operand) {f1 f2 : FV} {es1 es2 : List (List FV)} {i : Option Nat} (ex : s.ev x = f1) (ey : s.ev y = f2) (h1 : Bas s f1 (c.ty e).size es1 i) (hE : ∀ k, i = some k → (s.ob k).E = e)
      (h2 : Src s f2 (c.ty e).size es2) (hb : (es1.length + es2.length) * (c.ty e).bytes ≤ 140737488355328) (hm : es1.length + es2.length ≤ 140737488355328) :
      Eff c s d (.call { callee := .builtin .append, args := #[x, y], argTypes := #[T, T] }) (.own d ((s.ob d).ver + 1) 0 (es1 ++ es2).length) (appWr s d e (c.ty e).size (es1 ++ es2) i)
  | appendS {T e : Nat} (hT : (c.ty T).k = .slice e) (he : (c.ty e).k ≠ .other) (hpos : 0 < (c.ty e).size) (x y : Operand) {f1 f2 : FV} {es1 es2 : List (List FV)} {i : Option Nat} (ex : s.ev x = f1) (ey : s.ev y = f2) (h1 : Bas s f1 (c.ty e).size es1 i) (hE : ∀ k, i = some k → (s.ob k).E = e)
      (h2 : Src s f2 (c.ty e).size es2) (hb : (es1.length + es2.length) * (c.ty e).bytes ≤ 140737488355328) (hm : es1.length + es2.length ≤ 140737488355328) :
      Eff c s d (.call { callee := .builtin .append, args := #[x, y], argTypes := #[T, T] }) (.list (c.ty e).size (es1 ++ es2)) (appWr s d e (c.ty e).size (es1 ++ es2) i ++ [(d, ⟨(s.ob d).ver + 1, .dead, e, (c.ty e).size, es1 ++ es2⟩)])
  | call {f : Nat} {xs : Array Operand} {ts : Array TypeId} {m : Mode} {gs : List FV} {res : FV} (hs : Spec c.P f gs m res) (hm : m = .fr ∨ m = .sh) (hx : ArgsOk s m xs.toList gs) : Eff c s d (.call { callee := .value (.func f), args := xs, argTypes := ts }) res []
  | callV {f : Nat} {x : Operand} {xs : Array Operand} {ts : Array TypeId} {gs caps : List FV} {res : FV} (ex : s.ev x = .fn f caps) (hs : Spec c.P f (gs ++ caps) .fr res) (hx : ArgsOk s .fr xs.toList gs) : Eff c s d (.call { callee := .value x, args := xs, argTypes := ts }) res []
  | makeFn {f : Nat} {xs : Array Operand} {caps : List FV} (hx : xs.toList.map s.ev = caps) (hc : ∀ g ∈ caps, g.hand = none) : Eff c s d (.makeFunc (.func f) #[] xs) (.fn f caps) []
  | callOw {f : Nat} {xs : Array Operand} {ts : Array TypeId} {E sz : Nat} {gs : List FV} {es : List (List FV)} (hs : Spec c.P f gs (.ow E sz) (.list sz es)) (hx : ArgsOk s (.ow E sz) xs.toList gs) :
      Eff c s d (.call { callee := .value (.func f), args := xs, argTypes := ts }) (.own d ((s.ob d).ver + 1) 0 es.length) [(d, ⟨(s.ob d).ver + 1, .own, E, sz, es⟩)]
  | appRoom {T e : Nat} (hT : (c.ty T).k = .slice e) (he : (c.ty e).k ≠ .other) (hpos : 0 < (c.ty e).size) (x y : Operand) {id ver o n : Nat} (ex : s.ev x = .own id ver o n) (hlf : (s.ob id).life = .roomy) (hver : (s.ob id).ver = ver)
      (hE : (s.ob id).E = e) (hsz : (s.ob id).sz = (c.ty e).size) (hon : o + n = (s.ob id).es.length) {f2 : FV} {es2 : List (List FV)} (ey : s.ev y = f2) (h2 : Src s f2 (c.ty e).size es2) (h1 : es2.length = 1) :
      Eff c s d (.call { callee := .builtin .append, args := #[x, y], argTypes := #[T, T] }) (.own d ((s.ob d).ver + 1) o (n + 1)) [(id, { s.ob id with life := .dead }), (d, ⟨(s.ob d).ver + 1, .own, e, (c.ty e).size, (s.ob id).es ++ es2⟩)]
  | appFull {T e : Nat} (hT : (c.ty T).k = .slice e) (he : (c.ty e).k ≠ .other) (hpos : 0 < (c.ty e).size) (x y : Operand) {id ver o n : Nat} (ex : s.ev x = .own id ver o n) (hlf : (s.ob id).life = .full) (hver : (s.ob id).ver = ver)
      (hE : (s.ob id).E = e) (hsz : (s.ob id).sz = (c.ty e).size) (hon : o + n = (s.ob id).es.length) {f2 : FV} {es2 : List (List FV)} (ey : s.ev y = f2) (h2 : Src s f2 (c.ty e).size es2) (h1 : es2.length = 1)
      (hb : (n + 1) * (c.ty e).bytes ≤ 140737488355328) (hm : n + 1 ≤ 140737488355328) :
      Eff c s d (.call { callee := .builtin .append, args := #[x, y], argTypes := #[T, T] }) (.own d ((s.ob d).ver + 1) 0 (n + 1)) [(id, { s.ob id with life := .dead }), (d, ⟨(s.ob d).ver + 1, .own, e, (c.ty e).size, (s.ob id).es.drop o ++ es2⟩)]
  | loadH {T : Nat} (hk : (c.ty T).k.agg? = some false) (hz : (c.ty T).size = 1) (x : Operand) {id ver j : Nat} (ex : s.ev x = .ptr id ver j 0) (hlf : (s.ob id).life = .hrow) (hver : (s.ob id).ver = ver) (hsz : (s.ob id).sz = 1) {f : FV} (hj : (s.ob id).es[j]? = some [f]) : Eff c s d (.load T x) f []
  | storeH {T : Nat} (hk : (c.ty T).k ≠ .other) (hz : (c.ty T).size = 1) (x y : Operand) {id ver j : Nat} (ex : s.ev x = .ptr id ver j 0) (hlf : (s.ob id).life = .hrow) (hver : (s.ob id).ver = ver) (hsz : (s.ob id).sz = 1) {f : FV} (ey : s.ev y = f)
      (hf : CelOk s f) (hj : j < (s.ob id).es.length) : Eff c s d (.store T x y) .undef [(id, { s.ob id with es := (s.ob id).es.set j [f] })]
  | copy {T T2 e : Nat} (hT : (c.ty T).k = .slice e) (he : (c.ty e).k ≠ .other) (hz : (c.ty e).size = 1) (x y : Operand) {id ver o m : Nat} (ex : s.ev x = .own id ver o m) (hlf : (s.ob id).life = .own) (hver : (s.ob id).ver = ver) (hsz : (s.ob id).sz = 1) {f2 : FV} {es2 : List (List FV)} (ey : s.ev y = f2) (h2 : Src s f2 1 es2) :
      Eff c s d (.call { callee := .builtin .copy, args := #[x, y], argTypes := #[T, T2] }) (.int .i64 ((es2.take m).length : Nat)) [(id, { s.ob id with es := splice (s.ob id).es o (es2.take m) })]
  | mkIface {T : Nat} (hk : (c.ty T).k ≠ .other) (hni : isIface c.P T = false) (x : Operand) {f : FV} (ex : s.ev x = f) (hn : f.hand = none) : Eff c s d (.makeInterface T x) (.iface T f) []
  | mkIfaceH {T : Nat} (hk : (c.ty T).k ≠ .other) (hni : isIface c.P T = false) (x : Operand) {f : FV} (ex : s.ev x = f) (hn : f.notWrap = true) : Eff c s d (.makeInterface T x) (.wrap (.ifc T) [f]) []
  | tAssert {T T2 : Nat} (hk : (c.ty T).k ≠ .other) (hni : isIface c.P T = false) (x : Operand) {f : FV} (ex : s.ev x = .iface T f) (hn : f.hand = none) : Eff c s d (.typeAssert x T2 T false) f []
  | makeFnH {f : Nat} {xs : Array Operand} {caps : List FV} (hx : xs.toList.map s.ev = caps) (hn : caps.all FV.notWrap = true) : Eff c s d (.makeFunc (.func f) #[] xs) (.wrap (.fn f) caps) []
  | bound {f : Nat} {xs : Array Operand} {caps : List FV} (hx : xs.toList.map s.ev = caps) (hn : caps.all FV.notWrap = true) : Eff c s d (.makeFunc (.func f) xs #[]) (.wrap (.bound f) caps) []
  | eqAgg (op : BinOp) {T T2 : Nat} (x y : Operand) {X Y : List FV} {b : Bool} (ex : s.ev x = .agg X) (hX : X.all FV.simple1 = true) (ey : s.ev y = .agg Y) (hY : Y.all FV.simple1 = true) (hl : EqAgg c.P T X Y b) (hop : op = .eql ∨ op = .neq) : Eff c s d (.binOp op T x y T2) (.bool (if op = .eql then b else !b)) []
  | eqNil (op : BinOp) {T T2 e : Nat} (hT : (c.ty T).k = .slice e) (x y : Operand) {f : FV} {b : Bool} (ex : s.ev x = f) (hb : NilIs s f b) (ey : s.ev y = .nil) (hop : op = .eql ∨ op = .neq) : Eff c s d (.binOp op T x y T2) (.bool (if op = .eql then b else !b)) []
  | makeMap (T : Nat) : Eff c s d (.makeMap T none) (.omap d ((s.ob d).ver + 1)) [(d, ⟨(s.ob d).ver + 1, .mapo, T, 0, []⟩)]
  | look {T k e : Nat} (hT : (c.ty T).k = .map k e) {bb : Bool} (he : (c.ty e).k.agg? = some bb) (K : Keyed c.P k) (x y : Operand) (ok : Bool) {es : List (List FV)} (ex : (∃ id ver, s.ev x = .omap id ver ∧ s.live id ver ∧ (s.ob id).es = es) ∨ s.ev x = .smap es)
      {kf : FV} (ey : s.ev y = kf) (hk : ∀ row ∈ es, ∀ kf, row.head? = some kf → KeyF c.P k kf) (hkf : KeyF c.P k kf) {vf : FV} {found : Bool} (hl : MLook es kf (c.ty e).zfv vf found) (hn : vf.hand = none) : Eff c s d (.lookup T x y ok) (if ok then .tup [vf, .bool found] else vf) []
  | update {T k e : Nat} (hT : (c.ty T).k = .map k e) (K : Keyed c.P k) (x y z : Operand) {id ver : Nat} (ex : s.ev x = .omap id ver) (hlf : (s.ob id).life = .mapo) (hver : (s.ob id).ver = ver)
      {kf vf : FV} (ey : s.ev y = kf) (ez : s.ev z = vf) (hk : ∀ row ∈ (s.ob id).es, ∀ kf, row.head? = some kf → KeyF c.P k kf) (hkf : KeyF c.P k kf) (hn : vf.hand = none) {es' : List (List FV)} (hs : MSet (s.ob id).es kf vf es') :
      Eff c s d (.mapUpdate T x y z) .undef [(id, { s.ob id with es := es' })]

def NoVal (op : Op) : Prop := (∃ T x y, op = .store T x y) ∨ ∃ T x y z, op = .mapUpdate T x y z
def FSt.putD (s : FSt) : Option Nat → FV → FSt
  | some d, f => s.put d f
  | none, _ => s
def FSt.app (s : FSt) (dst : Option Nat) (f : FV) (wr : List (Nat × FObj)) : FSt := (s.wr wr).putD dst f

section
variable {c : Ctx} {w0 w : World} {J : JJ} {s : FSt} {a : Act} {β : Nat → Option Nat}

theorem Good.wp {o : Oper} {f : FV} {wr : List (Nat × FObj)} (h : Good c w0 J s a o w f wr) (hd : ∀ d, o.dst = some d → d < c.N) {K : Act → World → Prop} {Q : Exit → Act → World → Prop} (hK : ∀ a' w' β', FR c.N w0 J (s.app o.dst f wr) a' w' β' → K a' w') : o.wp c.P a w K Q := by
  obtain ⟨v, w', β', hr, hF, hV, hver⟩ := h
  unfold Oper.wp
  rw [hr, Oper.upon_value]
  unfold FSt.app at hK
  cases hdd : o.dst with
  | none => rw [hdd] at hK; exact hK _ _ _ hF
  | some d => rw [hdd] at hK; exact hK _ _ _ (hF.put (hd d hdd) hV hver)

theorem Eff.sound {d : Nat} {op : Op} {f : FV} {wr : List (Nat × FObj)} (h : Eff c s d op f wr) (hF : FR c.N w0 J s a w β) (o : Oper) (ho : o.op = op) (hd : o.dst = some d ∨ (o.dst = none ∧ NoVal op)) (hdN : ∀ d, o.dst = some d → d < c.N)
    {K : Act → World → Prop} {Q : Exit → Act → World → Prop} (hK : ∀ a' w' β', FR c.N w0 J (s.app o.dst f wr) a' w' β' → K a' w') : o.wp c.P a w K Q := by
  obtain ⟨dst, op', ty, pos, after, g⟩ := o
  dsimp only at ho hd hdN hK
  subst ho
  by_cases hst : NoVal op'
  · rcases hst with ⟨T, x, y, rfl⟩ | ⟨T, x, y, z, rfl⟩
    · cases h with
      | store hk x y ex hl hv ey hf hfl hj ho =>
        obtain ⟨w', h1, h2⟩ := good_store (dst := dst) (ty := ty) (pos := pos) (after := after) (g := g) hF hk x y ex hl hv ey hf hfl hj ho
        unfold Oper.wp
        rw [h1, Oper.upon_skip]
        unfold FSt.app at hK
        cases dst with
        | none => exact hK _ _ _ h2
        | some d => exact hK _ _ _ (h2.put (hdN d rfl) (VR.of_rd (.undef _) rfl) (fun id ver e => by cases e))
      | storeH hk hz x y ex hlf hver hsz ey hf hj =>
        obtain ⟨w', h1, h2⟩ := good_storeH (dst := dst) (ty := ty) (pos := pos) (after := after) (g := g) hF hk hz x y ex hlf hver hsz ey hf hj
        unfold Oper.wp
        rw [h1, Oper.upon_skip]
        unfold FSt.app at hK
        cases dst with
        | none => exact hK _ _ _ h2
        | some d => exact hK _ _ _ (h2.put (hdN d rfl) (VR.of_rd (.undef _) rfl) (fun id ver e => by cases e))
    · cases h with
      | update hT K x y z ex hlf hver ey ez hk hkf hn hs =>
        obtain ⟨w', h1, h2⟩ := good_update (dst := dst) (ty := ty) (pos := pos) (after := after) (g := g) hF hT K x y z ex hlf hver ey ez hk hkf hn hs
        unfold Oper.wp
        rw [h1, Oper.upon_skip]
        unfold FSt.app at hK
        cases dst with
        | none => exact hK _ _ _ h2
        | some d => exact hK _ _ _ (h2.put (hdN d rfl) (VR.of_rd (.undef _) rfl) (fun id ver e => by cases e))
  · obtain rfl : dst = some d := by
      rcases hd with h' | ⟨_, h'⟩
      · exact h'
      · exact absurd h' hst
    cases h with
    | move x => exact (good_move hF x).wp hdN hK
    | assign x => exact (good_assign hF x).wp hdN hK
    | pick cnd x y hb => exact (good_pick hF cnd x y hb).wp hdN hK
    | ibin op T T2 x y ex ey hf => exact (good_ibin hF op T T2 x y ex ey hf).wp hdN hK
    | idiv op T T2 x y ex ey hn hop => exact (good_idiv hF op T T2 x y ex ey hn hop).wp hdN hK
    | bbin op x y hT ex ey hop => exact (good_bbin hF op x y hT ex ey hop).wp hdN hK
    | not T x ex => exact (good_not hF T x ex).wp hdN hK
    | shift op T T2 x y ex ey hn hop => exact (good_shift hF op T T2 x y ex ey hn hop).wp hdN hK
    | conv hT hT2 x ex => exact (good_conv hF hT hT2 x ex).wp hdN hK
    | neg T x ex => exact (good_neg hF T x ex).wp hdN hK
    | min2 bi T T2 x y ex ey hbi => exact (good_min2 hF bi T T2 x y ex ey hbi).wp hdN hK
    | lenOwn hT x ex hl => exact (good_len_own hF hT x ex hl).wp hdN hK
    | lenList hT x ex => exact (good_len_list hF hT x ex).wp hdN hK
    | lenNil hT x ex => exact (good_len_nil hF hT x ex).wp hdN hK
    | fieldPtr hT hf hft hsz x ex hl => exact (good_field_ptr hF hT hf hft hsz x ex hl).wp hdN hK
    | fieldEptr hT hf hft hsz x ex => exact (good_field_eptr hF hT hf hft hsz x ex).wp hdN hK
    | indexList hT he x y ex hsz ey h1 => exact (good_index_list hF hT he x y ex hsz ey h1).wp hdN hK
    | indexOwn hT he x y ex hl hsz ey h1 => exact (good_index_own hF hT he x y ex hl hsz ey h1).wp hdN hK
    | indexAPtr hT he x y ex hl ey h1 => exact (good_indexA_ptr hF hT he x y ex hl ey h1).wp hdN hK
    | indexAEptr hT he x y ex ey h1 => exact (good_indexA_eptr hF hT he x y ex ey h1).wp hdN hK
    | loadEptr hk x ex hj ho ho' => exact (good_load_eptr hF hk x ex hj ho ho').wp hdN hK
    | loadPtr hk x ex hl hrl hj ho ho' => exact (good_load_ptr hF hk x ex hl hrl hj ho ho').wp hdN hK
    | store hk x y ex hl hv ey hf hfl hj ho => exact absurd (.inl ⟨_, _, _, rfl⟩) hst
    | storeH hk hz x y ex hlf hver hsz ey hf hj => exact absurd (.inl ⟨_, _, _, rfl⟩) hst
    | loadH hk hz x ex hlf hver hsz hj => exact (good_loadH hF hk hz x ex hlf hver hsz hj).wp hdN hK
    | appRoom hT he hpos x y ex hlf hver hE hsz hon ey h2 h1 => exact (good_appRoom hF d hT he hpos x y ex hlf hver hE hsz hon ey h2 h1).wp hdN hK
    | appFull hT he hpos x y ex hlf hver hE hsz hon ey h2 h1 hb hm => exact (good_appFull hF d hT he hpos x y ex hlf hver hE hsz hon ey h2 h1 hb hm).wp hdN hK
    | update hT K x y z ex hlf hver ey ez hk hkf hn hs => exact absurd (.inr ⟨_, _, _, _, rfl⟩) hst
    | makeMap T => exact (good_makeMap hF d T).wp hdN hK
    | look hT he K x y ok ex ey hk hkf hl hn => exact (good_look hF hT he K x y ok ex ey hk hkf hl hn).wp hdN hK
    | alloc hk hz => exact (good_alloc hF d hk hz).wp hdN hK
    | box x ex hf => exact (good_box hF d x ex hf).wp hdN hK
    | build hT hfs ps hf => exact (good_build hF hT hfs ps hf).wp hdN hK
    | buildA hT he ps hf => exact (good_buildA hF hT he ps hf).wp hdN hK
    | buildSlice hT he ps es hn hw ho hcap hnm hf => exact (good_buildSlice hF d hT he ps es hn hw ho hcap hnm hf).wp hdN hK
    | buildSliceS hT he ps es hn hw ho hcap hnm hf => exact (good_buildSliceS hF d hT he ps es hn hw ho hcap hnm hf).wp hdN hK
    | makeSlice hT he x y ex ey ho hb hn => exact (good_makeSlice hF d hT he x y ex ey ho hb hn).wp hdN hK
    | sliceOwn hT he x lo hi ex hl hsz hlo hhi h1 h2 => exact (good_slice_own hF hT he x lo hi ex hl hsz hlo hhi h1 h2).wp hdN hK
    | sliceList hT he x lo hi ex hsz hlo hhi h1 h2 => exact (good_slice_list hF hT he x lo hi ex hsz hlo hhi h1 h2).wp hdN hK
    | sliceNil hT he x lo hi ex hlo hhi => exact (good_slice_nil hF hT he x lo hi ex hlo hhi).wp hdN hK
    | extract x ex hf hn => exact (good_extract hF x ex hf hn).wp hdN hK
    | nilPtr x ex hl => exact (good_nilCheck_ptr hF x ex hl).wp hdN hK
    | nilEptr x ex => exact (good_nilCheck_eptr hF x ex).wp hdN hK
    | append hT he hpos x y ex ey h1 hE h2 hb hm => exact (good_append hF d hT he hpos x y ex ey h1 hE h2 hb hm).wp hdN hK
    | appendS hT he hpos x y ex ey h1 hE h2 hb hm => exact (good_appendS hF d hT he hpos x y ex ey h1 hE h2 hb hm).wp hdN hK
    | call hs hm hx =>
      rename_i fi xs ts m gs
      refine call_wp hF hs hx (fun v w' hb hr => ?_)
      have hG := hF.grow hb
      have hnew : ∀ b, w.heap.size ≤ b ∧ b < w'.heap.size → Imm J w' β s b ∧ w'.heap[b]? = w'.heap[b]? := fun b hb' => ⟨⟨hb'.2, hF.fresh b (Nat.le_trans hF.bel.size hb'.1) (.inl hb'.1), fun id hl e => by
        have := ((hF.obj id (Life.mine_ne hl)).lt e).2; omega⟩, rfl⟩
      have hrd : Rd w' (Imm J w' β s) v f := by
        rcases hm with rfl | rfl
        · exact Rd.mono hnew hr
        · refine Rd.mono (fun b hb' => ?_) hr
          rcases hb' with h1 | h1
          · exact ⟨(Imm.grow (by simpa [Lent] using h1) hb).1, rfl⟩
          · exact hnew b h1
      exact hK _ _ _ (hG.put (hdN d rfl) (VR.of_rd hrd hs.hand) (fun id ver e => (FV.no_hands hs.hand e).elim))
    | callV ex hs hx =>
      refine callV_wp hF ex hs hx (fun v w' hb hr => ?_)
      have hG := hF.grow hb
      have hrd : Rd w' (Imm J w' β s) v _ := Rd.mono (fun b hb' => ⟨⟨hb'.2, hF.fresh b (Nat.le_trans hF.bel.size hb'.1) (.inl hb'.1), fun id hl e => by
        have := ((hF.obj id (Life.mine_ne hl)).lt e).2; omega⟩, rfl⟩) hr
      exact hK _ _ _ (hG.put (hdN d rfl) (VR.of_rd hrd hs.hand) (fun id ver e => (FV.no_hands hs.hand e).elim))
    | makeFn hx hc => exact (good_makeFn hF hx hc).wp hdN hK
    | copy hT hk hz x y ex hlf hver hsz ey h2 => exact (good_copy hF hT hk hz x y ex hlf hver hsz ey h2).wp hdN hK
    | mkIface hk hni x ex hn => exact (good_mkIface hF hk hni x ex hn).wp hdN hK
    | mkIfaceH hk hni x ex hn => exact (good_mkIfaceH hF hk hni x ex hn).wp hdN hK
    | tAssert hk hni x ex hn => exact (good_tAssert hF hk hni x ex hn).wp hdN hK
    | makeFnH hx hn => exact (good_makeFnH hF hx hn).wp hdN hK
    | bound hx hn => exact (good_bound hF hx hn).wp hdN hK
    | eqAgg op x y ex hX ey hY hl hop => exact (good_eqAgg hF op x y ex hX ey hY hl hop).wp hdN hK
    | eqNil op hT x y ex hb ey hop => exact (good_eqNil hF op hT x y ex hb ey hop).wp hdN hK
    | callOw hs hx =>
      rename_i fi xs ts E sz gs es
      refine call_wp hF hs hx (fun v w' hb hr => ?_)
      obtain ⟨es', us, e, hw, ho, hrow, hrl⟩ := hr
      injection e with _ e
      subst e
      have hG := hF.grow hb
      -- the row is not among what the other slots hold
      have hlow := hrow.lt
      have hI2 : ∀ b, (w.heap.size ≤ b ∧ b < w'.heap.size ∧ v.ownBlock ≠ some b) → Imm J w' (updB β d v.ownBlock) (s.set d ⟨(s.ob d).ver + 1, .own, E, sz, es⟩) b := fun b hb' => ⟨hb'.2.1, hF.fresh b (Nat.le_trans hF.bel.size hb'.1) (.inl hb'.1), fun id hl e => by
        rw [FSt.ob_set] at hl
        unfold updB at e
        split at hl
        · rename_i hh; rw [if_pos hh.symm] at e; exact hb'.2.2 e
        · rename_i hh
          rw [if_neg (fun e => hh e.symm)] at e
          have := ((hF.obj id (Life.mine_ne hl)).lt e).2; omega⟩
      have hM : FR c.N w0 J (s.set d ⟨(s.ob d).ver + 1, .own, E, sz, es⟩) a w' (updB β d v.ownBlock) := by
        have hI : ∀ b, Imm J w β s b → Imm J w' (updB β d v.ownBlock) (s.set d ⟨(s.ob d).ver + 1, .own, E, sz, es⟩) b ∧ w'.heap[b]? = w.heap[b]? := fun b hbb => by
          refine ⟨⟨Nat.lt_of_lt_of_le hbb.1 hb.size, hbb.2.1, fun id hl => ?_⟩, hb.block b hbb.1⟩
          rw [FSt.ob_set] at hl
          unfold updB
          split at hl
          · rename_i hh; rw [if_pos hh.symm]; intro e; have := (hlow b e).1; have := hbb.1; omega
          · rename_i hh; rw [if_neg (fun e => hh e.symm)]; exact hbb.2.2 id hl
        refine hF.step (C := fun id => id = d) hF.size hF.defers (hF.bel.trans (hb.mono hF.bel.size)) hI (fun k => .inl ⟨rfl, rfl⟩) (fun id hC => ?_) (fun id hC => ?_) (fun id hC hl hvv => ?_) (fun id hC hl _ => ?_) ?_ ?_
        · refine ⟨by rw [FSt.ob_set, if_neg (fun e => hC e.symm)], by unfold updB; rw [if_neg hC], fun hl b hbb => hb.block b ((hF.obj id hl).lt hbb).2⟩
        · subst hC; rw [FSt.ob_set, if_pos rfl]; exact Nat.le_succ _
        · subst hC; rw [FSt.ob_set, if_pos rfl] at hvv; simp at hvv
        · subst hC
          rw [FSt.ob_set, if_pos rfl]
          rw [updB_same]
          exact .ofRow ⟨hw, ho, v, us, own_mono hrow hF.bel.size, rfl, hrl.mono (fun b hb' => ⟨hI2 b hb', rfl⟩)⟩ (.own rfl) rfl
        · intro id id' b hl hl' e e'
          rw [FSt.ob_set] at hl hl'
          unfold updB at e e'
          by_cases h1 : id = d
          · by_cases h2 : id' = d
            · rw [h1, h2]
            · rw [if_pos h1] at e; rw [if_neg h2] at e'; rw [if_neg (fun e => h2 e.symm)] at hl'
              have := (hlow b e).1; have := ((hF.obj id' hl').lt e').2; omega
          · by_cases h2 : id' = d
            · rw [if_neg h1] at e; rw [if_pos h2] at e'; rw [if_neg (fun e => h1 e.symm)] at hl
              have := (hlow b e').1; have := ((hF.obj id hl).lt e).2; omega
            · rw [if_neg h1] at e; rw [if_neg h2] at e'; rw [if_neg (fun e => h1 e.symm)] at hl; rw [if_neg (fun e => h2 e.symm)] at hl'
              exact hF.inj id id' b hl hl' e e'
        · intro b hlt hn
          refine ⟨hb.block b hlt, fun id hl e => ?_⟩
          rw [FSt.ob_set] at hl
          unfold updB at e
          by_cases h1 : id = d
          · rw [if_pos h1] at e; have := (hlow b e).1; omega
          · rw [if_neg h1] at e; rw [if_neg (fun e => h1 e.symm)] at hl; exact hn id hl e
      refine hK _ _ _ (hM.put (hdN d rfl) (fun _ _ => ?_) (fun id ver e => ?_))
      · rw [FSt.ob_set, if_pos rfl, updB_same]
        exact OwnV.of_row hrow rfl rfl rfl rfl
      · simp only [FV.hands, List.mem_singleton, Prod.mk.injEq] at e
        obtain ⟨e1, e2⟩ := e
        replace e1 := e1.symm
        replace e2 := e2.symm
        subst e1
        subst e2
        rw [FSt.ob_set, if_pos rfl]
        exact Nat.le_refl _
end
end Go.Proofs.Ytfegkbmnclhljaa
/-
  An operation on plain values looks only at its operands and at their objects.
-/
namespace Go.Proofs.Ytfegkbmnclhljaa
set_option linter.unusedVariables false
open Go.RowKit

def stillOp : Op → Bool
  | .move _ => true
  | .assign _ => true
  | _ => false
def foot (s : FSt) (d : Nat) (op : Op) : List Nat := d :: bif stillOp op then [] else op.operands.toList.filterMap fun x => (s.ev x).hand.map (·.1)
theorem foot_dst (s : FSt) (d : Nat) (op : Op) : d ∈ foot s d op := List.mem_cons_self
theorem foot_mem {s : FSt} {d : Nat} {op : Op} {x : Operand} (hst : stillOp op = false) (hx : x ∈ op.operands.toList) {id ver : Nat} (h : (s.ev x).hand = some (id, ver)) : id ∈ foot s d op := by
  unfold foot
  rw [hst]
  exact List.mem_cons_of_mem _ (List.mem_filterMap.2 ⟨x, hx, by rw [h]; rfl⟩)

section
variable {c : Ctx} {s s' : FSt}
theorem Src.loc {f : FV} {sz : Nat} {es : List (List FV)} (h : Src s f sz es) (ho : ∀ id ver, f.hand = some (id, ver) → s'.ob id = s.ob id) : Src s' f sz es := by
  cases h with
  | nil sz => exact .nil _
  | list sz es => exact .list _ _
  | own id ver o n hl hrl =>
    have e := ho id ver rfl
    rw [← e]
    exact .own id ver o n (by unfold FSt.live at *; rw [e]; exact hl) (by rw [e]; exact hrl)
theorem Bas.loc {f : FV} {sz : Nat} {es : List (List FV)} {i : Option Nat} (h : Bas s f sz es i) (ho : ∀ id ver, f.hand = some (id, ver) → s'.ob id = s.ob id) : Bas s' f sz es i := by
  cases h with
  | nil sz => exact .nil _
  | own id ver hl hv n hn =>
    have e := ho id ver rfl
    rw [← e]
    exact .own id ver (by rw [e]; exact hl) (by rw [e]; exact hv) n (by rw [e]; exact hn)
theorem ArgOk.loc {m : Mode} {f g : FV} (h : ArgOk s m f g) (ho : ∀ id ver, f.hand = some (id, ver) → s'.ob id = s.ob id) : ArgOk s' m f g := by
  cases h with
  | plain f hn => exact .plain _ hn
  | sub f g hn hle => exact .sub _ _ hn hle
  | nil sz => exact .nil _
  | own id ver o n hl hrl hm =>
    have e := ho id ver rfl
    rw [← e]
    exact .own id ver o n (by unfold FSt.live at *; rw [e]; exact hl) (by rw [e]; exact hrl) (by rw [e]; exact hm)
theorem ArgsOk.loc {m : Mode} : ∀ {xs : List Operand} {gs : List FV}, ArgsOk s m xs gs → (∀ x ∈ xs, s'.ev x = s.ev x) → (∀ x ∈ xs, ∀ id ver, (s.ev x).hand = some (id, ver) → s'.ob id = s.ob id) → ArgsOk s' m xs gs
  | _, _, .nil, _, _ => .nil
  | _, _, .cons h hs, he, ho => .cons (by rw [he _ (by simp)]; exact h.loc (ho _ (by simp))) (hs.loc (fun x hx => he x (by simp [hx])) (fun x hx => ho x (by simp [hx])))
theorem lo_loc {lo : Option Operand} {l : Nat} (h : s.lo lo l) (he : ∀ x ∈ lo.toList, s'.ev x = s.ev x) : s'.lo lo l := by
  cases lo with
  | none => exact h
  | some y => obtain ⟨k, hk⟩ := h; exact ⟨k, by rw [he y (by simp)]; exact hk⟩
theorem hi_loc {lo : Option Operand} {l m : Nat} (h : s.hi lo m l) (he : ∀ x ∈ lo.toList, s'.ev x = s.ev x) : s'.hi lo m l := by
  cases lo with
  | none => exact h
  | some y => obtain ⟨k, hk⟩ := h; exact ⟨k, by rw [he y (by simp)]; exact hk⟩
theorem parts_loc {ps : Array (Nat × Operand)} (he : ∀ x ∈ (ps.toList.map (·.2)), s'.ev x = s.ev x) : s'.parts ps = s.parts ps := by
  unfold FSt.parts
  refine List.map_congr_left fun p hp => ?_
  rw [he p.2 (List.mem_map.2 ⟨p, hp, rfl⟩)]

theorem Eff.loc {d : Nat} {op : Op} {f : FV} {wr : List (Nat × FObj)} (h : Eff c s d op f wr) (he : ∀ x ∈ op.operands.toList, s'.ev x = s.ev x) (hob : ∀ id ∈ foot s d op, s'.ob id = s.ob id) : Eff c s' d op f wr := by
  have hd := hob d (foot_dst s d op)
  cases hst : stillOp op with
  | true =>
    cases h <;> first | (cases hst; done) | (rename_i x; rw [← he x (by simp [Op.operands])]; first | exact .move x | exact .assign x)
  | false =>
  have hh : ∀ x ∈ op.operands.toList, ∀ id ver, (s.ev x).hand = some (id, ver) → s'.ob id = s.ob id := fun x hx id ver hv => hob id (foot_mem hst hx hv)
  have hlive : ∀ id ver, s'.ob id = s.ob id → s.live id ver → s'.live id ver := fun id ver e hl => by unfold FSt.live at *; rw [e]; exact hl
  cases h with
  | move x => rw [← he x (by simp [Op.operands])]; exact .move x
  | assign x => rw [← he x (by simp [Op.operands])]; exact .assign x
  | pick cnd x y hb => rw [← he x (by simp [Op.operands]), ← he y (by simp [Op.operands])]; exact .pick cnd x y (by rw [he cnd (by simp [Op.operands])]; exact hb)
  | ibin op T T2 x y ex ey hf => exact .ibin op T T2 x y (by rw [he x (by simp [Op.operands])]; exact ex) (by rw [he y (by simp [Op.operands])]; exact ey) hf
  | idiv op T T2 x y ex ey hn hop => exact .idiv op T T2 x y (by rw [he x (by simp [Op.operands])]; exact ex) (by rw [he y (by simp [Op.operands])]; exact ey) hn hop
  | bbin op x y hT ex ey hop => exact .bbin op x y hT (by rw [he x (by simp [Op.operands])]; exact ex) (by rw [he y (by simp [Op.operands])]; exact ey) hop
  | not T x ex => exact .not T x (by rw [he x (by simp [Op.operands])]; exact ex)
  | shift op T T2 x y ex ey hn hop => exact .shift op T T2 x y (by rw [he x (by simp [Op.operands])]; exact ex) (by rw [he y (by simp [Op.operands])]; exact ey) hn hop
  | conv hT hT2 x ex => exact .conv hT hT2 x (by rw [he x (by simp [Op.operands])]; exact ex)
  | neg T x ex => exact .neg T x (by rw [he x (by simp [Op.operands])]; exact ex)
  | min2 bi T T2 x y ex ey hbi => exact .min2 bi T T2 x y (by rw [he x (by simp [Op.operands, Call.operands])]; exact ex) (by rw [he y (by simp [Op.operands, Call.operands])]; exact ey) hbi
  | lenOwn hT x ex hl => exact .lenOwn hT x (by rw [he x (by simp [Op.operands, Call.operands])]; exact ex) (hlive _ _ (hh x (by simp [Op.operands, Call.operands]) _ _ (by rw [ex]; rfl)) hl)
  | lenList hT x ex => exact .lenList hT x (by rw [he x (by simp [Op.operands, Call.operands])]; exact ex)
  | lenNil hT x ex => exact .lenNil hT x (by rw [he x (by simp [Op.operands, Call.operands])]; exact ex)
  | fieldPtr hT hf hft hsz x ex hl => exact .fieldPtr hT hf hft hsz x (by rw [he x (by simp [Op.operands])]; exact ex) (hlive _ _ (hh x (by simp [Op.operands]) _ _ (by rw [ex]; rfl)) hl)
  | fieldEptr hT hf hft hsz x ex => exact .fieldEptr hT hf hft hsz x (by rw [he x (by simp [Op.operands])]; exact ex)
  | indexList hT hk x y ex hsz ey h1 => exact .indexList hT hk x y (by rw [he x (by simp [Op.operands])]; exact ex) hsz (by rw [he y (by simp [Op.operands])]; exact ey) h1
  | indexOwn hT hk x y ex hl hsz ey h1 =>
    have e := hh x (by simp [Op.operands]) _ _ (by rw [ex]; rfl)
    exact .indexOwn hT hk x y (by rw [he x (by simp [Op.operands])]; exact ex) (hlive _ _ e hl) (by rw [e]; exact hsz) (by rw [he y (by simp [Op.operands])]; exact ey) h1
  | indexAPtr hT hk x y ex hl ey h1 => exact .indexAPtr hT hk x y (by rw [he x (by simp [Op.operands])]; exact ex) (hlive _ _ (hh x (by simp [Op.operands]) _ _ (by rw [ex]; rfl)) hl) (by rw [he y (by simp [Op.operands])]; exact ey) h1
  | indexAEptr hT hk x y ex ey h1 => exact .indexAEptr hT hk x y (by rw [he x (by simp [Op.operands])]; exact ex) (by rw [he y (by simp [Op.operands])]; exact ey) h1
  | loadEptr hk x ex hj ho ho' => exact .loadEptr hk x (by rw [he x (by simp [Op.operands])]; exact ex) hj ho ho'
  | loadPtr hk x ex hl hrl hj ho ho' =>
    have e := hh x (by simp [Op.operands]) _ _ (by rw [ex]; rfl)
    rw [← e]
    exact .loadPtr hk x (by rw [he x (by simp [Op.operands])]; exact ex) (hlive _ _ e hl) (by rw [e]; exact hrl) (by rw [e]; exact hj) (by rw [e]; exact ho) (by rw [e]; exact ho')
  | store hk x y ex hl hv ey hf hfl hj ho =>
    have e := hh x (by simp [Op.operands]) _ _ (by rw [ex]; rfl)
    rw [← e]
    exact .store hk x y (by rw [he x (by simp [Op.operands])]; exact ex) (by rw [e]; exact hl) (by rw [e]; exact hv) (by rw [he y (by simp [Op.operands])]; exact ey) hf hfl (by rw [e]; exact hj) (by rw [e]; exact ho)
  | alloc hk hz => rw [← hd]; exact .alloc hk hz
  | box x ex hf => rw [← hd]; exact .box x (by rw [he x (by simp [Op.operands])]; exact ex) hf
  | build hT hfs ps hf => exact .build hT hfs ps (by rw [parts_loc (fun x hx => he x (by simpa [Op.operands] using hx))]; exact hf)
  | buildA hT hk ps hf => exact .buildA hT hk ps (by rw [parts_loc (fun x hx => he x (by simpa [Op.operands] using hx))]; exact hf)
  | buildSlice hT hk ps es hn hw ho hcap hnm hf => rw [← hd]; exact .buildSlice hT hk ps es hn hw ho hcap hnm (by rw [parts_loc (fun x hx => he x (by simpa [Op.operands] using hx))]; exact hf)
  | buildSliceS hT hk ps es hn hw ho hcap hnm hf => exact .buildSliceS hT hk ps es hn hw ho hcap hnm (by rw [parts_loc (fun x hx => he x (by simpa [Op.operands] using hx))]; exact hf)
  | makeSlice hT hk x y ex ey ho hb hn => rw [← hd]; exact .makeSlice hT hk x y (by rw [he x (by simp [Op.operands])]; exact ex) (by rw [he y (by simp [Op.operands])]; exact ey) ho hb hn
  | sliceOwn hT hk x lo hi ex hl hsz hlo hhi h1 h2 =>
    have e := hh x (by simp [Op.operands]) _ _ (by rw [ex]; rfl)
    exact .sliceOwn hT hk x lo hi (by rw [he x (by simp [Op.operands])]; exact ex) (hlive _ _ e hl) (by rw [e]; exact hsz) (lo_loc hlo (fun y hy => he y (by cases lo <;> simp_all [Op.operands]))) (hi_loc hhi (fun y hy => he y (by cases hi <;> simp_all [Op.operands]))) h1 h2
  | sliceList hT hk x lo hi ex hsz hlo hhi h1 h2 =>
    exact .sliceList hT hk x lo hi (by rw [he x (by simp [Op.operands])]; exact ex) hsz (lo_loc hlo (fun y hy => he y (by cases lo <;> simp_all [Op.operands]))) (hi_loc hhi (fun y hy => he y (by cases hi <;> simp_all [Op.operands]))) h1 h2
  | sliceNil hT hk x lo hi ex hlo hhi =>
    exact .sliceNil hT hk x lo hi (by rw [he x (by simp [Op.operands])]; exact ex) (lo_loc hlo (fun y hy => he y (by cases lo <;> simp_all [Op.operands]))) (hi_loc hhi (fun y hy => he y (by cases hi <;> simp_all [Op.operands])))
  | extract x ex hf hn => exact .extract x (by rw [he x (by simp [Op.operands])]; exact ex) hf hn
  | nilPtr x ex hl => exact .nilPtr x (by rw [he x (by simp [Op.operands])]; exact ex) (hlive _ _ (hh x (by simp [Op.operands]) _ _ (by rw [ex]; rfl)) hl)
  | nilEptr x ex => exact .nilEptr x (by rw [he x (by simp [Op.operands])]; exact ex)
  | append hT hk hpos x y ex ey h1 hE h2 hb hm =>
    rename_i T e f1 f2 es1 es2 i
    have e1 : ∀ id ver, f1.hand = some (id, ver) → s'.ob id = s.ob id := fun id ver hv => hh x (by simp [Op.operands, Call.operands]) id ver (by rw [ex]; exact hv)
    have e2 : ∀ id ver, f2.hand = some (id, ver) → s'.ob id = s.ob id := fun id ver hv => hh y (by simp [Op.operands, Call.operands]) id ver (by rw [ey]; exact hv)
    have h1' := h1.loc e1
    have hi : ∀ k, i = some k → s'.ob k = s.ob k := fun k hk => by
      generalize (c.ty e).size = sz at h1
      cases h1 with
      | nil => cases hk
      | own id ver hl hv n hn => injection hk with hk; subst hk; exact e1 id ver rfl
    have hw : appWr s d e (c.ty e).size (es1 ++ es2) i = appWr s' d e (c.ty e).size (es1 ++ es2) i := by
      cases i with
      | none => simp only [appWr, hd]
      | some k => simp only [appWr, hd, hi k rfl]
    rw [← hd, hw]
    exact .append hT hk hpos x y (by rw [he x (by simp [Op.operands, Call.operands])]; exact ex) (by rw [he y (by simp [Op.operands, Call.operands])]; exact ey) h1' (fun k hk => by rw [hi k hk]; exact hE k hk) (h2.loc e2) hb hm
  | appendS hT hk hpos x y ex ey h1 hE h2 hb hm =>
    rename_i T e f1 f2 es1 es2 i
    have e1 : ∀ id ver, f1.hand = some (id, ver) → s'.ob id = s.ob id := fun id ver hv => hh x (by simp [Op.operands, Call.operands]) id ver (by rw [ex]; exact hv)
    have e2 : ∀ id ver, f2.hand = some (id, ver) → s'.ob id = s.ob id := fun id ver hv => hh y (by simp [Op.operands, Call.operands]) id ver (by rw [ey]; exact hv)
    have h1' := h1.loc e1
    have hi : ∀ k, i = some k → s'.ob k = s.ob k := fun k hk => by
      generalize (c.ty e).size = sz at h1
      cases h1 with
      | nil => cases hk
      | own id ver hl hv n hn => injection hk with hk; subst hk; exact e1 id ver rfl
    have hw : appWr s d e (c.ty e).size (es1 ++ es2) i = appWr s' d e (c.ty e).size (es1 ++ es2) i := by
      cases i with
      | none => simp only [appWr, hd]
      | some k => simp only [appWr, hd, hi k rfl]
    rw [← hd, hw]
    exact .appendS hT hk hpos x y (by rw [he x (by simp [Op.operands, Call.operands])]; exact ex) (by rw [he y (by simp [Op.operands, Call.operands])]; exact ey) h1' (fun k hk => by rw [hi k hk]; exact hE k hk) (h2.loc e2) hb hm
  | appRoom hT hk hpos x y ex hlf hver hE hsz hon ey h2 h1 =>
    have e := hh x (by simp [Op.operands, Call.operands]) _ _ (by rw [ex]; rfl)
    rw [← hd, ← e]
    exact .appRoom hT hk hpos x y (by rw [he x (by simp [Op.operands, Call.operands])]; exact ex) (by rw [e]; exact hlf) (by rw [e]; exact hver) (by rw [e]; exact hE) (by rw [e]; exact hsz) (by rw [e]; exact hon)
      (by rw [he y (by simp [Op.operands, Call.operands])]; exact ey) (h2.loc fun id ver hv => hh y (by simp [Op.operands, Call.operands]) id ver (by rw [ey]; exact hv)) h1
  | appFull hT hk hpos x y ex hlf hver hE hsz hon ey h2 h1 hb hm =>
    have e := hh x (by simp [Op.operands, Call.operands]) _ _ (by rw [ex]; rfl)
    rw [← hd, ← e]
    exact .appFull hT hk hpos x y (by rw [he x (by simp [Op.operands, Call.operands])]; exact ex) (by rw [e]; exact hlf) (by rw [e]; exact hver) (by rw [e]; exact hE) (by rw [e]; exact hsz) (by rw [e]; exact hon)
      (by rw [he y (by simp [Op.operands, Call.operands])]; exact ey) (h2.loc fun id ver hv => hh y (by simp [Op.operands, Call.operands]) id ver (by rw [ey]; exact hv)) h1 hb hm
  | loadH hk hz x ex hlf hver hsz hj =>
    have e := hh x (by simp [Op.operands]) _ _ (by rw [ex]; rfl)
    exact .loadH hk hz x (by rw [he x (by simp [Op.operands])]; exact ex) (by rw [e]; exact hlf) (by rw [e]; exact hver) (by rw [e]; exact hsz) (by rw [e]; exact hj)
  | storeH hk hz x y ex hlf hver hsz ey hf hj =>
    have e := hh x (by simp [Op.operands]) _ _ (by rw [ex]; rfl)
    rw [← e]
    refine .storeH hk hz x y (by rw [he x (by simp [Op.operands])]; exact ex) (by rw [e]; exact hlf) (by rw [e]; exact hver) (by rw [e]; exact hsz) (by rw [he y (by simp [Op.operands])]; exact ey) ?_ (by rw [e]; exact hj)
    rcases hf with h1 | ⟨id', ver', o, n, rfl, hl⟩ | ⟨id', ver', o, n, rfl, hl⟩ | hw
    · exact .inl h1
    · exact .inr (.inl ⟨id', ver', o, n, rfl, hlive _ _ (hh y (by simp [Op.operands]) _ _ (by rw [ey]; rfl)) hl⟩)
    · exact .inr (.inr (.inl ⟨id', ver', o, n, rfl, hlive _ _ (hh y (by simp [Op.operands]) _ _ (by rw [ey]; rfl)) hl⟩))
    · exact .inr (.inr (.inr hw))
  | makeMap T => rw [← hd]; exact .makeMap T
  | eqAgg op x y ex hX ey hY hl hop => exact .eqAgg op x y (by rw [he x (by simp [Op.operands])]; exact ex) hX (by rw [he y (by simp [Op.operands])]; exact ey) hY hl hop
  | eqNil op hT x y ex hb ey hop =>
    rename_i T T2 e f b
    have hb' : NilIs s' f b := by
      cases hb with
      | nil => exact .nil
      | own id ver o n hl hn => exact .own id ver o n (hlive _ _ (hh x (by simp [Op.operands]) _ _ (by rw [ex]; rfl)) hl) hn
      | list sz es hn => exact .list sz es hn
    exact .eqNil op hT x y (by rw [he x (by simp [Op.operands])]; exact ex) hb' (by rw [he y (by simp [Op.operands])]; exact ey) hop
  | copy hT hk hz x y ex hlf hver hsz ey h2 =>
    have e := hh x (by simp [Op.operands, Call.operands]) _ _ (by rw [ex]; rfl)
    rw [← e]
    exact .copy hT hk hz x y (by rw [he x (by simp [Op.operands, Call.operands])]; exact ex) (by rw [e]; exact hlf) (by rw [e]; exact hver) (by rw [e]; exact hsz) (by rw [he y (by simp [Op.operands, Call.operands])]; exact ey)
      (h2.loc fun id ver hv => hh y (by simp [Op.operands, Call.operands]) id ver (by rw [ey]; exact hv))
  | mkIface hk hni x ex hn => exact .mkIface hk hni x (by rw [he x (by simp [Op.operands])]; exact ex) hn
  | mkIfaceH hk hni x ex hn => exact .mkIfaceH hk hni x (by rw [he x (by simp [Op.operands])]; exact ex) hn
  | tAssert hk hni x ex hn => exact .tAssert hk hni x (by rw [he x (by simp [Op.operands])]; exact ex) hn
  | makeFnH hx hn => exact .makeFnH (by rw [← hx]; exact List.map_congr_left fun y hy => he y (by simp [Op.operands] at hy ⊢; exact hy)) hn
  | bound hx hn => exact .bound (by rw [← hx]; exact List.map_congr_left fun y hy => he y (by simp [Op.operands] at hy ⊢; exact hy)) hn
  | look hT hk K x y ok ex ey hkk hkf hl hn =>
    refine .look hT hk K x y ok ?_ (by rw [he y (by simp [Op.operands])]; exact ey) hkk hkf hl hn
    rcases ex with ⟨id, ver, e1, e2, e3⟩ | e1
    · have e := hh x (by simp [Op.operands]) _ _ (by rw [e1]; rfl)
      exact .inl ⟨id, ver, by rw [he x (by simp [Op.operands])]; exact e1, hlive _ _ e e2, by rw [e]; exact e3⟩
    · exact .inr (by rw [he x (by simp [Op.operands])]; exact e1)
  | update hT K x y z ex hlf hver ey ez hk hkf hn hs =>
    have e := hh x (by simp [Op.operands]) _ _ (by rw [ex]; rfl)
    rw [← e]
    exact .update hT K x y z (by rw [he x (by simp [Op.operands])]; exact ex) (by rw [e]; exact hlf) (by rw [e]; exact hver) (by rw [he y (by simp [Op.operands])]; exact ey) (by rw [he z (by simp [Op.operands])]; exact ez) (by rw [e]; exact hk) hkf hn (by rw [e]; exact hs)
  | call hs hm hx => exact .call hs hm (hx.loc (fun x hx => he x (by simp [Op.operands, Call.operands] at hx ⊢; exact .inr hx)) (fun x hx => hh x (by simp [Op.operands, Call.operands] at hx ⊢; exact .inr hx)))
  | @callV f x xs ts gs caps res ex hs hx => exact .callV (by rw [he x (by simp [Op.operands, Call.operands])]; exact ex) hs (hx.loc (fun y hy => he y (by simp [Op.operands, Call.operands] at hy ⊢; exact .inr hy)) (fun y hy => hh y (by simp [Op.operands, Call.operands] at hy ⊢; exact .inr hy)))
  | makeFn hx hc => exact .makeFn (by rw [← hx]; exact List.map_congr_left fun y hy => he y (by simp [Op.operands] at hy ⊢; exact hy)) hc
  | callOw hs hx => rw [← hd]; exact .callOw hs (hx.loc (fun x hx => he x (by simp [Op.operands, Call.operands] at hx ⊢; exact .inr hx)) (fun x hx => hh x (by simp [Op.operands, Call.operands] at hx ⊢; exact .inr hx)))

theorem FR.ext {N : Nat} {w0 w : World} {J : JJ} {a : Act} {β : Nat → Option Nat} (h : FR N w0 J s a w β) (hg : ∀ k, s'.get k = s.get k) (ho : ∀ k, s'.ob k = s.ob k) : FR N w0 J s' a w β := by
  refine h.step (C := fun _ => False) h.size h.defers h.bel (fun b hb => ⟨⟨hb.1, hb.2.1, fun id hl => hb.2.2 id (by rw [← ho]; exact hl)⟩, rfl⟩) (fun k => .inl ⟨rfl, hg k⟩) (fun id _ => ⟨ho id, rfl, fun _ _ _ => rfl⟩) (fun _ h => h.elim) (fun _ h => h.elim) (fun _ h => h.elim) ?_ (fun b _ hn => ⟨rfl, fun id hl => hn id (by rw [← ho]; exact hl)⟩)
  intro id id' b hl hl'
  rw [ho] at hl hl'
  exact h.inj id id' b hl hl'
end
end Go.Proofs.Ytfegkbmnclhljaa
/-
  A region on plain values: walked in the text's order, it is the same in whatever order the model draws.
-/
namespace Go.Proofs.Ytfegkbmnclhljaa
set_option linter.unusedVariables false
open Go.RowKit

structure Rec where
  o : Oper
  f : FV
  wr : List (Nat × FObj)
  ft : List Nat
  deriving Inhabited

def FSt.aft (s : FSt) (r : Rec) : FSt := s.app r.o.dst r.f r.wr

def gans : FV → Bool → Option Bool
  | .bool v, want => some (v == want)
  | .tup [], _ => some false
  | _, _ => none
theorem gans_some {f : FV} {want b : Bool} (h : gans f want = some b) : (∃ v, f = .bool v ∧ (v == want) = b) ∨ (f = .tup [] ∧ b = false) := by
  unfold gans at h
  split at h
  · injection h with h; exact .inl ⟨_, rfl, h⟩
  · injection h with h; exact .inr ⟨rfl, h.symm⟩
  · cases h
def Want (ops : Array Oper) (s : FSt) (o : Oper) (b : Bool) : Prop :=
  match o.guard with
  | none => b = true
  | some (j, want) => ∃ d v, (ops[j]?).bind (·.dst) = some d ∧ s.get d = v ∧ gans v want = some b

inductive Exec (c : Ctx) (ops : Array Oper) : FSt → List Oper → List Rec → FSt → Prop where
  | nil (s : FSt) : Exec c ops s [] [] s
  | step {o : Oper} {rest : List Oper} {s s' : FSt} {f : FV} {wr : List (Nat × FObj)} {tr : List Rec} {d : Nat} (hw : Want ops s o true) (hd : o.dst = some d ∨ (o.dst = none ∧ NoVal o.op)) (hdN : ∀ d, o.dst = some d → d < c.N)
      (he : Eff c s d o.op f wr) (hs : Exec c ops (s.app o.dst f wr) rest tr s') : Exec c ops s (o :: rest) (⟨o, f, wr, foot s d o.op⟩ :: tr) s'
  | skip {o : Oper} {rest : List Oper} {s s' : FSt} {tr : List Rec} (hw : Want ops s o false) (hdN : ∀ d, o.dst = some d → d < c.N) (hs : Exec c ops (s.app o.dst (.tup []) []) rest tr s') : Exec c ops s (o :: rest) (⟨o, .tup [], [], []⟩ :: tr) s'

def RecOk (c : Ctx) (ops : Array Oper) (s : FSt) (r : Rec) : Prop :=
  (∀ d, r.o.dst = some d → d < c.N) ∧ ((Want ops s r.o true ∧ ∃ d, (r.o.dst = some d ∨ (r.o.dst = none ∧ NoVal r.o.op)) ∧ Eff c s d r.o.op r.f r.wr ∧ r.ft = foot s d r.o.op) ∨ (Want ops s r.o false ∧ r.f = .tup [] ∧ r.wr = [] ∧ r.ft = []))

def sig (tr : List Rec) (s0 : FSt) (S : Nat → Bool) : Nat → FSt
  | 0 => s0
  | k + 1 => if S k then (sig tr s0 S k).aft (tr.getD k default) else sig tr s0 S k
theorem sig_cons (r : Rec) (tr : List Rec) (s0 : FSt) (S : Nat → Bool) : ∀ k, sig (r :: tr) s0 S (k + 1) = sig tr (if S 0 then s0.aft r else s0) (fun j => S (j + 1)) k
  | 0 => by simp [sig]
  | k + 1 => by
    rw [sig, sig_cons r tr s0 S k]
    simp [sig]

theorem Exec.at {c : Ctx} {ops : Array Oper} {s : FSt} {l : List Oper} {tr : List Rec} {s' : FSt} (h : Exec c ops s l tr s') : tr.length = l.length ∧ s' = sig tr s (fun _ => true) tr.length ∧
    ∀ k, k < l.length → (tr.getD k default).o = l.getD k default ∧ RecOk c ops (sig tr s (fun _ => true) k) (tr.getD k default) := by
  induction h with
  | nil s => exact ⟨rfl, rfl, fun k hk => by simp at hk⟩
  | @step o rest s s' f wr tr d hw hd hdN he hs ih =>
    obtain ⟨h1, h2, h3⟩ := ih
    refine ⟨by simp [h1], ?_, fun k hk => ?_⟩
    · rw [List.length_cons, sig_cons]; exact h2
    · cases k with
      | zero => exact ⟨rfl, hdN, .inl ⟨hw, d, hd, he, rfl⟩⟩
      | succ k =>
        rw [sig_cons]
        exact h3 k (by simpa using hk)
  | @skip o rest s s' tr hw hdN hs ih =>
    obtain ⟨h1, h2, h3⟩ := ih
    refine ⟨by simp [h1], ?_, fun k hk => ?_⟩
    · rw [List.length_cons, sig_cons]; exact h2
    · cases k with
      | zero => exact ⟨rfl, hdN, .inr ⟨hw, rfl, rfl, rfl⟩⟩
      | succ k =>
        rw [sig_cons]
        exact h3 k (by simpa using hk)

def updG (r : Rec) (t : Nat) : Option FV := if r.o.dst = some t then some r.f else none
def lastW : List (Nat × FObj) → Nat → Option FObj
  | [], _ => none
  | p :: l, id => match lastW l id with | some b => some b | none => if p.1 = id then some p.2 else none
theorem wr_ob : ∀ (l : List (Nat × FObj)) (s : FSt) (id : Nat), (s.wr l).ob id = (lastW l id).getD (s.ob id)
  | [], _, _ => rfl
  | p :: l, s, id => by
    show (FSt.wr (s.set p.1 p.2) l).ob id = _
    rw [wr_ob l, lastW, FSt.ob_set]
    cases lastW l id with
    | some b => rfl
    | none => by_cases h : p.1 = id <;> simp [h]
theorem lastW_mem : ∀ {l : List (Nat × FObj)} {id : Nat}, (lastW l id).isSome → id ∈ l.map (·.1)
  | p :: l, id, h => by
    unfold lastW at h
    cases hl : lastW l id with
    | some b => exact List.mem_cons_of_mem _ (lastW_mem (by rw [hl]; rfl))
    | none =>
      rw [hl] at h
      dsimp only at h
      split at h
      · rename_i e; subst e; simp
      · simp at h
theorem rec_get (s : FSt) (r : Rec) (t : Nat) : (s.aft r).get t = (updG r t).getD (s.get t) := by
  unfold FSt.aft FSt.app updG
  cases h : r.o.dst with
  | none => simp [FSt.putD, FSt.wr_get]
  | some d =>
    simp only [FSt.putD, FSt.get_put, FSt.wr_get, Option.some.injEq]
    split <;> rfl
theorem rec_ob (s : FSt) (r : Rec) (id : Nat) : (s.aft r).ob id = (lastW r.wr id).getD (s.ob id) := by
  unfold FSt.aft FSt.app
  cases r.o.dst with
  | none => exact wr_ob _ _ _
  | some d => exact wr_ob _ _ _

section
variable {α : Type}
def sigF (u : Nat → Option α) (S : Nat → Bool) (x0 : α) : Nat → α
  | 0 => x0
  | k + 1 => if S k then (u k).getD (sigF u S x0 k) else sigF u S x0 k
theorem sigF_same (u : Nat → Option α) (S S' : Nat → Bool) (x0 : α) : ∀ n, (∀ k, k < n → (u k).isSome → S k = S' k) → sigF u S x0 n = sigF u S' x0 n
  | 0, _ => rfl
  | n + 1, h => by
    have ih := sigF_same u S S' x0 n (fun k hk => h k (by omega))
    have hn := h n (by omega)
    unfold sigF
    rw [ih]
    cases hu : u n with
    | none => simp
    | some v => rw [hn (by rw [hu]; rfl)]
theorem sigF_more (u : Nat → Option α) (S : Nat → Bool) (x0 : α) (m : Nat) : ∀ j, (∀ k, m ≤ k → k < m + j → S k = true → u k = none) → sigF u S x0 (m + j) = sigF u S x0 m
  | 0, _ => rfl
  | j + 1, h => by
    have ih := sigF_more u S x0 m j (fun k h1 h2 => h k h1 (by omega))
    rw [← Nat.add_assoc, sigF]
    split
    · rename_i hS; rw [h (m + j) (by omega) (by omega) hS, ih]; rfl
    · exact ih
theorem sigF_add (u : Nat → Option α) (S : Nat → Bool) (x0 : α) (i : Nat) (hS : S i = false) : ∀ n, i < n → (∀ k, i < k → k < n → S k = true → (u k).isSome → u i = none) → sigF u (fun k => k == i || S k) x0 n = (u i).getD (sigF u S x0 n)
  | 0, h, _ => by omega
  | n + 1, hi, h => by
    by_cases hin : i = n
    · subst hin
      unfold sigF
      simp only [beq_self_eq_true, Bool.true_or, if_true, hS, Bool.false_eq_true, if_false]
      congr 1
      refine sigF_same _ _ _ _ _ (fun k hk _ => ?_)
      have : (k == i) = false := by simp; omega
      rw [this]; rfl
    · have ih := sigF_add u S x0 i hS n (by omega) (fun k h1 h2 => h k h1 (by omega))
      have hn : (n == i) = false := by simp; omega
      unfold sigF
      rw [hn, Bool.false_or, ih]
      split
      · rename_i hSn
        cases hu : u n with
        | none => rfl
        | some v =>
          have := h n (by omega) (by omega) hSn (by rw [hu]; rfl)
          rw [this]; rfl
      · rfl
end
theorem sig_get (tr : List Rec) (s0 : FSt) (S : Nat → Bool) (t : Nat) : ∀ k, (sig tr s0 S k).get t = sigF (fun k => updG (tr.getD k default) t) S (s0.get t) k
  | 0 => rfl
  | k + 1 => by
    unfold sig sigF
    split
    · rw [rec_get, sig_get tr s0 S t k]
    · exact sig_get tr s0 S t k
theorem sig_ob (tr : List Rec) (s0 : FSt) (S : Nat → Bool) (id : Nat) : ∀ k, (sig tr s0 S k).ob id = sigF (fun k => lastW (tr.getD k default).wr id) S (s0.ob id) k
  | 0 => rfl
  | k + 1 => by
    unfold sig sigF
    split
    · rw [rec_ob, sig_ob tr s0 S id k]
    · exact sig_ob tr s0 S id k

def ancs : List Oper → List (List Nat) → List (List Nat)
  | [], acc => acc
  | o :: l, acc => ancs l (acc ++ [o.after.toList.flatMap fun e => if Region.binds .any e then e.on :: acc.getD e.on [] else []])

def apartRec (ops : Array Oper) (r q : Rec) : Bool :=
  r.o.apart ops q.o && (r.wr.all fun p => !q.ft.contains p.1 && !(q.wr.map (·.1)).contains p.1) && (q.wr.all fun p => !r.ft.contains p.1)
def okPairs (ops : Array Oper) (tr : List Rec) (A : List (List Nat)) : Bool :=
  (List.range tr.length).all fun i => (List.range i).all fun j => (A.getD i []).contains j || apartRec ops (tr.getD j default) (tr.getD i default)
def okEdges (l : List Oper) : Bool := (List.range l.length).all fun i => (l.getD i default).after.toList.all fun e => !Region.binds .any e || decide (e.on < i)
def okTrace (ops : Array Oper) (tr : List Rec) : Bool := okEdges ops.toList && okPairs ops tr (ancs ops.toList [])

theorem ancs_old : ∀ (l : List Oper) (acc : List (List Nat)) (i : Nat), i < acc.length → (ancs l acc).getD i [] = acc.getD i []
  | [], acc, i, _ => rfl
  | o :: l, acc, i, h => by
    rw [ancs, ancs_old l _ i (by simp; omega), List.getD_eq_getElem?_getD, List.getElem?_append_left h, ← List.getD_eq_getElem?_getD]
theorem ancs_in (S : Nat → Bool) : ∀ (l : List Oper) (acc : List (List Nat)), (∀ i, i < acc.length → S i = true → ∀ j ∈ acc.getD i [], S j = true) →
    (∀ k, k < l.length → S (acc.length + k) = true → ∀ e ∈ (l.getD k default).after.toList, Region.binds .any e = true → S e.on = true) → (∀ k, k < l.length → ∀ e ∈ (l.getD k default).after.toList, Region.binds .any e = true → e.on < acc.length + k) →
    ∀ i, i < acc.length + l.length → S i = true → ∀ j ∈ (ancs l acc).getD i [], S j = true
  | [], acc, ha, _, _, i, hi, hS, j, hj => ha i (by simpa using hi) hS j hj
  | o :: l, acc, ha, hl, hb, i, hi, hS, j, hj => by
    rw [ancs] at hj
    refine ancs_in S l _ (fun i hi hS j hj => ?_) (fun k hk hS e he hbn => ?_) (fun k hk e he hbn => ?_) i (by simp at hi ⊢; omega) hS j hj
    · rcases Nat.lt_or_ge i acc.length with h | h
      · rw [List.getD_eq_getElem?_getD, List.getElem?_append_left h, ← List.getD_eq_getElem?_getD] at hj
        exact ha i h hS j hj
      · have hii : i = acc.length := by simp at hi; omega
        subst hii
        rw [List.getD_eq_getElem?_getD, List.getElem?_append_right (Nat.le_refl _), Nat.sub_self] at hj
        simp only [List.getElem?_cons_zero, Option.getD_some, List.mem_flatMap] at hj
        obtain ⟨e, he, hj⟩ := hj
        split at hj
        · rename_i hbn
          have hon := hl 0 (by simp) (by simpa using hS) e he hbn
          rcases List.mem_cons.1 hj with h | h
          · rw [h]; exact hon
          · exact ha e.on (by have := hb 0 (by simp) e he hbn; omega) hon j h
        · simp at hj
    · refine hl (k + 1) (by simpa using hk) ?_ e he hbn
      simp only [List.length_append, List.length_cons, List.length_nil] at hS
      rwa [show acc.length + (k + 1) = acc.length + (0 + 1) + k by omega]
    · have := hb (k + 1) (by simpa using hk) e he hbn
      simp; omega

theorem looksAt_ev {ops : Array Oper} {o : Oper} {s s' : FSt} (h : ∀ t ∈ o.looksAt ops, s'.get t = s.get t) : ∀ x ∈ o.op.operands.toList, s'.ev x = s.ev x := by
  intro x hx
  cases x with
  | tmp t => exact h t (List.mem_append_left _ (List.mem_filterMap.2 ⟨.tmp t, hx, rfl⟩))
  | const v => rfl
  | global g => rfl
  | func f => rfl
theorem Want.loc {ops : Array Oper} {o : Oper} {s s' : FSt} {b : Bool} (hw : Want ops s o b) (h : ∀ t ∈ o.looksAt ops, s'.get t = s.get t) : Want ops s' o b := by
  unfold Want at *
  cases hg : o.guard with
  | none => rw [hg] at hw; exact hw
  | some p =>
    obtain ⟨j, want⟩ := p
    rw [hg] at hw
    obtain ⟨d, v, h1, h2, h3⟩ := hw
    refine ⟨d, v, h1, ?_, h3⟩
    rw [h d (List.mem_append_right _ (by simp [hg, h1]))]
    exact h2
theorem RecOk.loc {c : Ctx} {ops : Array Oper} {s s' : FSt} {r : Rec} (hr : RecOk c ops s r) (h : ∀ t ∈ r.o.looksAt ops, s'.get t = s.get t) (ho : ∀ id ∈ r.ft, s'.ob id = s.ob id) : RecOk c ops s' r := by
  obtain ⟨hN, hr⟩ := hr
  refine ⟨hN, ?_⟩
  have hev := looksAt_ev h
  rcases hr with ⟨hw, d, hd, he, hf⟩ | ⟨hw, h1, h2, h3⟩
  · refine .inl ⟨hw.loc h, d, hd, he.loc hev (by rw [← hf]; exact ho), ?_⟩
    rw [hf]
    unfold foot
    congr 2
    have key : ∀ l : List Operand, (∀ x ∈ l, s'.ev x = s.ev x) → (l.filterMap fun x => (s.ev x).hand.map (·.1)) = l.filterMap fun x => (s'.ev x).hand.map (·.1) := by
      intro l
      induction l with
      | nil => intro _; rfl
      | cons x l ih => intro h; rw [List.filterMap_cons, List.filterMap_cons, h x (by simp), ih (fun y hy => h y (by simp [hy]))]
    exact key _ hev
  · exact .inr ⟨hw.loc h, h1, h2, h3⟩

section
variable {c : Ctx} {w0 : World} {J : JJ} {ops : Array Oper} {Q : Exit → Act → World → Prop}

theorem Want.model {s : FSt} {a : Act} {w : World} {β : Nat → Option Nat} (hF : FR c.N w0 J s a w β) {o : Oper} {b : Bool} (hw : Want ops s o b) : Region.wanted o (yielded ops a.tmps) = b := by
  unfold Want at hw
  unfold Region.wanted
  cases hg : o.guard with
  | none => rw [hg] at hw; rw [hw]
  | some p =>
    obtain ⟨j, want⟩ := p
    rw [hg] at hw
    obtain ⟨d, v, h1, h2, h3⟩ := hw
    rcases gans_some h3 with ⟨v, rfl, h4⟩ | ⟨rfl, rfl⟩
    · have hv : a.tmps.getD d undef = .bool v := hF.ev_bool (x := .tmp d) (b := v) h2
      have hy : yielded ops a.tmps j = some v := by
        unfold yielded
        rw [h1]
        simp only [Option.bind_some]
        rw [Array.getD_eq_getD_getElem?] at hv
        cases ha : a.tmps[d]? with
        | none => rw [ha] at hv; simp [undef] at hv
        | some u => rw [ha] at hv; simp only [Option.getD_some] at hv; rw [hv]
      simp only [hy]
      rw [← h4]
      cases v <;> cases want <;> rfl
    · have hv : a.tmps.getD d undef = .tuple #[] := by
        have := hF.ev (.tmp d)
        rw [show s.ev (.tmp d) = .tup [] from h2] at this
        have := VR.rd this rfl
        have e : a.eval (.tmp d) = a.tmps.getD d undef := rfl
        rw [e] at this
        generalize a.tmps.getD d undef = v at this
        cases this with
        | tup us fs hl hr =>
          have : us = [] := by cases us with
            | nil => rfl
            | cons u us => simp at hl
          subst this
          rfl
      have hy : yielded ops a.tmps j = none := by
        unfold yielded
        rw [h1]
        simp only [Option.bind_some]
        rw [Array.getD_eq_getD_getElem?] at hv
        cases ha : a.tmps[d]? with
        | none => rfl
        | some u => rw [ha] at hv; simp only [Option.getD_some] at hv; rw [hv]
      simp only [hy]
      cases want <;> rfl

theorem RecOk.wpOp {s : FSt} {a : Act} {w : World} {β : Nat → Option Nat} (hF : FR c.N w0 J s a w β) {r : Rec} {i : Nat} (hi : ops[i]? = some r.o) (hr : RecOk c ops s r) {K : Act → World → Prop} (hK : ∀ a' w' β', FR c.N w0 J (s.aft r) a' w' β' → K a' w') :
    wpOp c.P ops Q i K a w := by
  obtain ⟨hN, hr⟩ := hr
  unfold Go.wpOp
  simp only [hi]
  rcases hr with ⟨hw, d, hd, he, hf⟩ | ⟨hw, h1, h2, h3⟩
  · rw [if_pos (hw.model hF)]
    exact .inl (he.sound hF r.o rfl hd hN hK)
  · rw [if_neg (by rw [hw.model hF]; decide)]
    refine hK _ _ β ?_
    unfold FSt.aft FSt.app
    rw [h1, h2]
    cases hd : r.o.dst with
    | none => exact hF
    | some d => exact hF.put (hN d hd) (VR.of_rd (Rd.tup [] [] rfl (by simp)) rfl) (fun id ver e => by cases e)

def cntU (S : Nat → Bool) : Nat → Nat
  | 0 => 0
  | k + 1 => cntU S k + if S k then 0 else 1
theorem cntU_add {S : Nat → Bool} {i : Nat} (hS : S i = false) : ∀ n, i < n → cntU (fun k => k == i || S k) n + 1 = cntU S n
  | 0, h => by omega
  | n + 1, h => by
    unfold cntU
    by_cases hin : i = n
    · subst hin
      have key : ∀ m, m ≤ i → cntU (fun k => k == i || S k) m = cntU S m := by
        intro m
        induction m with
        | zero => intro _; rfl
        | succ m ih =>
          intro hm
          unfold cntU
          have : (m == i) = false := by simp; omega
          rw [ih (by omega), this]; rfl
      rw [key i (Nat.le_refl _), hS]
      simp
    · have ih := cntU_add hS n (by omega)
      have : (n == i) = false := by simp; omega
      rw [this, Bool.false_or]
      omega
theorem cntU_zero {S : Nat → Bool} : ∀ n, cntU S n = 0 → ∀ k, k < n → S k = true
  | 0, _, k, hk => by omega
  | n + 1, h, k, hk => by
    unfold cntU at h
    by_cases hkn : k = n
    · subst hkn
      cases hS : S k with
      | true => rfl
      | false => rw [hS] at h; simp at h
    · exact cntU_zero n (by omega) k (by omega)

theorem region_any {s0 s' : FSt} {tr : List Rec} (hx : Exec c ops s0 ops.toList tr s') (hok : okTrace ops tr = true) (hQ : ∀ a w β, FR c.N w0 J s' a w β → Q .normal a w) :
    ∀ (fuel : Nat) (listed : Array Bool) (a : Act) (w : World) (β : Nat → Option Nat), listed.size = ops.size → (∀ i, i < ops.size → listed.getD i false = true → ∀ e ∈ (ops.toList.getD i default).after.toList, Region.binds .any e = true → listed.getD e.on false = true) →
      cntU (fun k => listed.getD k false) ops.size ≤ fuel → FR c.N w0 J (sig tr s0 (fun k => listed.getD k false) ops.size) a w β → wpAny c.P .any ops Q fuel listed a w := by
  obtain ⟨hlen0, hs', hrec⟩ := hx.at
  have hlen : tr.length = ops.size := by rw [hlen0]; simp
  rw [Array.length_toList] at hrec
  unfold okTrace at hok
  rw [Bool.and_eq_true] at hok
  obtain ⟨hedge, hpairs⟩ := hok
  have hedge' : ∀ i, i < ops.size → ∀ e ∈ (ops.toList.getD i default).after.toList, Region.binds .any e = true → e.on < i := by
    intro i hi e he hb
    unfold okEdges at hedge
    rw [List.all_eq_true] at hedge
    have := hedge i (by simpa using hi)
    rw [List.all_eq_true] at this
    have := this e he
    simpa [hb] using this
  have hpairs' : ∀ i, i < ops.size → ∀ j, j < i → j ∈ (ancs ops.toList []).getD i [] ∨ apartRec ops (tr.getD j default) (tr.getD i default) = true := by
    intro i hi j hj
    unfold okPairs at hpairs
    rw [List.all_eq_true] at hpairs
    have := hpairs i (by simp [hlen]; exact hi)
    rw [List.all_eq_true] at this
    have := this j (by simpa using hj)
    rw [Bool.or_eq_true] at this
    exact this.imp (fun h => by simpa using h) id
  have hget : ∀ (listed : Array Bool) (i : Nat), i < listed.size → listed.getD i true = listed.getD i false := fun listed i hi => by simp [hi]
  -- all listed: the end
  have hend : ∀ (listed : Array Bool) (a : Act) (w : World) (β : Nat → Option Nat), (∀ k, k < ops.size → listed.getD k false = true) → FR c.N w0 J (sig tr s0 (fun k => listed.getD k false) ops.size) a w β → Q .normal a w := by
    intro listed a w β hall hF
    refine hQ a w β (hF.ext (fun k => ?_) (fun k => ?_))
    · rw [hs', hlen, sig_get, sig_get]
      exact sigF_same _ _ _ _ _ (fun k hk _ => (hall k hk).symm)
    · rw [hs', hlen, sig_ob, sig_ob]
      exact sigF_same _ _ _ _ _ (fun k hk _ => (hall k hk).symm)
  -- nothing ready: all listed
  have hnone : ∀ (listed : Array Bool), listed.size = ops.size → Region.ready .any ops listed = [] → ∀ k, k < ops.size → listed.getD k false = true := by
    intro listed hsz hr k
    induction k using Nat.strongRecOn with
    | _ k ih =>
      intro hk
      cases hl : listed.getD k false with
      | true => rfl
      | false =>
        exfalso
        have : k ∈ Region.ready .any ops listed := by
          rw [mem_ready]
          refine ⟨by rw [hget listed k (by omega)]; exact hl, ops.toList.getD k default, by simp [hk], fun e he hb => ?_⟩
          have hlt := hedge' k hk e (by simpa using he) hb
          exact ih e.on hlt (by omega)
        rw [hr] at this
        simp at this
  intro fuel
  induction fuel with
  | zero =>
    intro listed a w β hsz hclosed hcnt hF
    have hall := cntU_zero (S := fun k => listed.getD k false) ops.size (by omega)
    refine ⟨?_, hend listed a w β hall hF⟩
    cases hr : Region.ready .any ops listed with
    | nil => rfl
    | cons i l =>
      exfalso
      have : i ∈ Region.ready .any ops listed := by rw [hr]; simp
      rw [mem_ready] at this
      obtain ⟨h0, o, ho, _⟩ := this
      have hi : i < ops.size := (Array.getElem?_eq_some_iff.1 ho).1
      rw [hget listed i (by omega), hall i hi] at h0
      cases h0
  | succ fuel ih =>
    intro listed a w β hsz hclosed hcnt hF
    refine ⟨fun hr => hend listed a w β (hnone listed hsz hr) hF, fun i hi => ?_⟩
    rw [mem_ready] at hi
    obtain ⟨h0, o, ho, hall⟩ := hi
    have hilt : i < ops.size := (Array.getElem?_eq_some_iff.1 ho).1
    rw [hget listed i (by omega)] at h0
    have hoi : ops.toList.getD i default = o := by simp [List.getD_eq_getElem?_getD, ho]
    obtain ⟨hro, hrok⟩ := hrec i hilt
    rw [hoi] at hro
    -- the set, closed also with i
    have hclosed' : ∀ k, k < ops.size → (k == i || listed.getD k false) = true → ∀ e ∈ (ops.toList.getD k default).after.toList, Region.binds .any e = true → (e.on == i || listed.getD e.on false) = true := by
      intro k hk hS e he hb
      by_cases hki : k = i
      · subst hki
        rw [hoi] at he
        rw [hall e (by simpa using he) hb, Bool.or_true]
      · have : (k == i) = false := by simpa using hki
        rw [this, Bool.false_or] at hS
        rw [hclosed k hk hS e he hb, Bool.or_true]
    have hanc : ∀ j ∈ (ancs ops.toList []).getD i [], (j == i || listed.getD j false) = true :=
      ancs_in (fun k => k == i || listed.getD k false) ops.toList [] (fun i hi => by simp at hi) (fun k hk hS e he hb => hclosed' k (by simpa using hk) (by simpa using hS) e he hb) (fun k hk e he hb => by simpa using hedge' k (by simpa using hk) e he hb) i (by simpa using hilt) (by simp)
    have hancS : ∀ k, listed.getD k false = true → k < ops.size → ∀ j ∈ (ancs ops.toList []).getD k [], listed.getD j false = true := fun k hS hk =>
      ancs_in (fun k => listed.getD k false) ops.toList [] (fun i hi => by simp at hi) (fun k hk hS e he hb => hclosed k (by simpa using hk) (by simpa using hS) e he hb) (fun k hk e he hb => by simpa using hedge' k (by simpa using hk) e he hb) k (by simpa using hk) hS
    have hancLt : ∀ k, k < ops.size → ∀ j ∈ (ancs ops.toList []).getD k [], j < k ∨ j = k → True := fun _ _ _ _ _ => trivial
    -- whatever meddles with i and lies before it is listed; what lies behind is not
    have hbefore : ∀ k, k < i → apartRec ops (tr.getD k default) (tr.getD i default) = true ∨ listed.getD k false = true := by
      intro k hk
      rcases hpairs' i hilt k hk with h | h
      · have := hanc k h
        have hne : (k == i) = false := by simp; omega
        rw [hne, Bool.false_or] at this
        exact .inr this
      · exact .inl h
    have hbehind : ∀ k, i < k → k < ops.size → listed.getD k false = true → apartRec ops (tr.getD i default) (tr.getD k default) = true := by
      intro k hk hk2 hS
      rcases hpairs' k hk2 i hk with h | h
      · rw [hancS k hS hk2 i h] at h0; cases h0
      · exact h
    have hap : ∀ {r q : Rec}, apartRec ops r q = true → (∀ d, r.o.dst = some d → d ∉ q.o.looksAt ops) ∧ (∀ d, r.o.dst = some d → q.o.dst ≠ some d) ∧ (∀ d, q.o.dst = some d → d ∉ r.o.looksAt ops) ∧
        (∀ id, (lastW r.wr id).isSome → id ∉ q.ft ∧ lastW q.wr id = none) ∧ (∀ id, (lastW q.wr id).isSome → id ∉ r.ft) := by
      intro r q h
      unfold apartRec at h
      rw [Bool.and_eq_true, Bool.and_eq_true] at h
      obtain ⟨⟨h1, h2⟩, h3⟩ := h
      obtain ⟨k1, k2, k3⟩ := Oper.apart_spec h1
      rw [List.all_eq_true] at h2 h3
      refine ⟨k1, k2, k3, fun id hid => ?_, fun id hid => ?_⟩
      · obtain ⟨p, hp, rfl⟩ := List.mem_map.1 (lastW_mem hid)
        have := h2 p hp
        rw [Bool.and_eq_true] at this
        refine ⟨by simpa using this.1, ?_⟩
        cases hl : lastW q.wr p.1 with
        | none => rfl
        | some b =>
          have hm := lastW_mem (l := q.wr) (id := p.1) (by rw [hl]; rfl)
          have h4 := this.2
          simp only [Bool.not_eq_true', List.contains_eq_mem, decide_eq_false_iff_not] at h4
          exact absurd hm h4
      · obtain ⟨p, hp, rfl⟩ := List.mem_map.1 (lastW_mem hid)
        have := h3 p hp
        simpa using this
    -- the state reads as at i in the text's order
    have hslot : ∀ t ∈ (tr.getD i default).o.looksAt ops, (sig tr s0 (fun k => listed.getD k false) ops.size).get t = (sig tr s0 (fun _ => true) i).get t := by
      intro t ht
      rw [sig_get, sig_get]
      obtain ⟨m, hm⟩ : ∃ m, ops.size = i + m := ⟨ops.size - i, by omega⟩
      rw [hm, sigF_more _ _ _ i m]
      · refine sigF_same _ _ _ _ _ (fun k hk hu => ?_)
        rcases hbefore k hk with h | h
        · exfalso
          unfold updG at hu
          split at hu
          · rename_i hd; exact (hap h).1 t hd ht
          · simp at hu
        · exact h
      · intro k hk1 hk2 hS
        rcases Nat.eq_or_lt_of_le hk1 with e | hlt
        · subst e; rw [h0] at hS; cases hS
        · unfold updG
          rw [if_neg]
          intro hd
          exact (hap (hbehind k hlt (by omega) hS)).2.2.1 t hd ht
    have hobj : ∀ id ∈ (tr.getD i default).ft, (sig tr s0 (fun k => listed.getD k false) ops.size).ob id = (sig tr s0 (fun _ => true) i).ob id := by
      intro id hid
      rw [sig_ob, sig_ob]
      obtain ⟨m, hm⟩ : ∃ m, ops.size = i + m := ⟨ops.size - i, by omega⟩
      rw [hm, sigF_more _ _ _ i m]
      · refine sigF_same _ _ _ _ _ (fun k hk hu => ?_)
        rcases hbefore k hk with h | h
        · exact absurd hid ((hap h).2.2.2.1 id hu).1
        · exact h
      · intro k hk1 hk2 hS
        rcases Nat.eq_or_lt_of_le hk1 with e | hlt
        · subst e; rw [h0] at hS; cases hS
        · cases hl : lastW (tr.getD k default).wr id with
          | none => rfl
          | some b => exact absurd hid ((hap (hbehind k hlt (by omega) hS)).2.2.2.2 id (by rw [hl]; rfl))
    have hrok' := hrok.loc hslot hobj
    refine hrok'.wpOp hF (by rw [hro]; exact ho) (fun a' w' β' hF' => ?_)
    have hset : ∀ k, (listed.setIfInBounds i true).getD k false = (k == i || listed.getD k false) := by
      intro k
      by_cases hki : k = i
      · subst hki
        have : k < listed.size := by omega
        simp [this]
      · have hne : (k == i) = false := by simpa using hki
        rw [hne, Bool.false_or]
        simp [Array.getElem?_setIfInBounds_ne (fun e => hki e.symm)]
    have hfun : (fun k => (listed.setIfInBounds i true).getD k false) = (fun k => k == i || listed.getD k false) := funext hset
    refine ih _ a' w' β' (by simp [hsz]) (fun k hk hS e he hb => ?_) ?_ ?_
    · rw [hset] at hS ⊢
      exact hclosed' k hk hS e he hb
    · rw [hfun]
      have := cntU_add (S := fun k => listed.getD k false) h0 ops.size hilt
      omega
    · rw [hfun]
      refine hF'.ext (fun t => ?_) (fun id => ?_)
      · rw [rec_get, sig_get, sig_get]
        refine sigF_add _ _ _ i h0 ops.size hilt (fun k hk1 hk2 hS hu => ?_)
        cases hui : updG (tr.getD i default) t with
        | none => rfl
        | some v =>
          exfalso
          unfold updG at hu hui
          split at hui
          · rename_i hd1
            split at hu
            · rename_i hd2; exact (hap (hbehind k hk1 hk2 hS)).2.1 t hd1 hd2
            · simp at hu
          · cases hui
      · rw [rec_ob, sig_ob, sig_ob]
        refine sigF_add _ _ _ i h0 ops.size hilt (fun k hk1 hk2 hS hu => ?_)
        cases hui : lastW (tr.getD i default).wr id with
        | none => rfl
        | some v =>
          exfalso
          have := ((hap (hbehind k hk1 hk2 hS)).2.2.2.1 id (by rw [hui]; rfl)).2
          rw [this] at hu
          cases hu

theorem region_draw {s0 s' : FSt} {tr : List Rec} (hx : Exec c ops s0 ops.toList tr s') (hok : okTrace ops tr = true) (hQ : ∀ a w β, FR c.N w0 J s' a w β → Q .normal a w) {id : Nat} {a : Act} {w : World} {β : Nat → Option Nat} (hF : FR c.N w0 J s0 a w β) :
    (Code.region id ops true).wp c.P Q a w := by
  refine wp_region_any c.mixed (region_any hx hok hQ ops.size _ a _ β (by simp) (fun i hi hS => ?_) ?_ ?_)
  · have : (Array.replicate ops.size false).getD i false = false := by simp [hi]
    rw [this] at hS; cases hS
  · have key : ∀ n, cntU (fun k => (Array.replicate ops.size false).getD k false) n ≤ n := by
      intro n
      induction n with
      | zero => exact Nat.le_refl _
      | succ n ih => unfold cntU; split <;> omega
    exact key _
  · have hD : FR c.N w0 J s0 a { w with drawn := w.drawn + 1 } β := hF.grow ⟨rfl, rfl, rfl, Nat.le_refl _, fun _ _ => rfl⟩
    refine hD.ext (fun t => ?_) (fun id => ?_)
    · have key := sigF_more (fun k => updG (tr.getD k default) t) (fun k => (Array.replicate ops.size false).getD k false) (s0.get t) 0 ops.size (fun k _ hk hS => by
        have : (Array.replicate ops.size false).getD k false = false := by
          rw [Array.getD_eq_getD_getElem?]; cases h : (Array.replicate ops.size false)[k]? with
          | none => rfl
          | some b => rw [Array.getElem?_replicate] at h; split at h <;> simp_all
        rw [this] at hS; cases hS)
      rw [Nat.zero_add] at key
      rw [sig_get, key]; rfl
    · have key := sigF_more (fun k => lastW (tr.getD k default).wr id) (fun k => (Array.replicate ops.size false).getD k false) (s0.ob id) 0 ops.size (fun k _ hk hS => by
        have : (Array.replicate ops.size false).getD k false = false := by
          rw [Array.getD_eq_getD_getElem?]; cases h : (Array.replicate ops.size false)[k]? with
          | none => rfl
          | some b => rw [Array.getElem?_replicate] at h; split at h <;> simp_all
        rw [this] at hS; cases hS)
      rw [Nat.zero_add] at key
      rw [sig_ob, key]; rfl

end
end Go.Proofs.Ytfegkbmnclhljaa
/-
  Code and functions on plain values.
-/
namespace Go.Proofs.Ytfegkbmnclhljaa
set_option linter.unusedVariables false
open Go.RowKit

def FW (c : Ctx) (code : Code) (Q : Exit → FSt → Prop) (s : FSt) : Prop :=
  ∀ (w0 : World) (J : JJ) (a : Act) (w : World) (β : Nat → Option Nat), FR c.N w0 J s a w β → code.wp c.P (fun e a' w' => ∃ s' β', Q e s' ∧ FR c.N w0 J s' a' w' β') a w

def FLe (s s' : FSt) : Prop := ∀ (N : Nat) (w0 : World) (J : JJ) (a : Act) (w : World) (β : Nat → Option Nat), FR N w0 J s a w β → ∃ β', FR N w0 J s' a w β'
theorem FLe.refl (s : FSt) : FLe s s := fun _ _ _ _ _ β h => ⟨β, h⟩
theorem FLe.trans {s s' s'' : FSt} (h : FLe s s') (k : FLe s' s'') : FLe s s'' := fun N w0 J a w β hF => let ⟨_, h1⟩ := h N w0 J a w β hF; k N w0 J a w _ h1

def thenF (next : FSt → Prop) (Q : Exit → FSt → Prop) : Exit → FSt → Prop
  | .normal, s => next s
  | e, s => Q e s
def blockF (id : Nat) (Q : Exit → FSt → Prop) : Exit → FSt → Prop
  | .exit id', s => if id' = id then Q .normal s else Q (.exit id') s
  | e, s => Q e s

section
variable {c : Ctx} {Q : Exit → FSt → Prop} {s : FSt}
theorem FW.le {code : Code} {s' : FSt} (h : FW c code Q s') (hs : FLe s s') : FW c code Q s := fun w0 J a w β hF => let ⟨β', h1⟩ := hs _ _ _ _ _ _ hF; h w0 J a w β' h1
theorem FW.mono {code : Code} {Q' : Exit → FSt → Prop} (h : FW c code Q s) (hq : ∀ e s, Q e s → Q' e s) : FW c code Q' s := fun w0 J a w β hF =>
  wp_mono (h w0 J a w β hF) fun _ _ _ ⟨s', β', q, f⟩ => ⟨s', β', hq _ _ q, f⟩
theorem FW.skip (h : Q .normal s) : FW c .skip Q s := fun _ _ _ _ β hF => wp_skip ⟨s, β, h, hF⟩
theorem FW.exit {id : Nat} (h : Q (.exit id) s) : FW c (.exit id) Q s := fun _ _ _ _ β hF => wp_exit ⟨s, β, h, hF⟩
theorem FW.ret (h : Q .ret s) : FW c .ret Q s := fun _ _ _ _ β hF => wp_ret ⟨s, β, h, hF⟩
theorem FW.seq {x y : Code} (h : FW c x (thenF (FW c y Q) Q) s) : FW c (.seq x y) Q s := fun w0 J a w β hF => by
  refine wp_seq (wp_mono (h w0 J a w β hF) fun e a' w' ⟨s', β', q, f⟩ => ?_)
  cases e with
  | normal => exact q w0 J a' w' β' f
  | _ => exact ⟨s', β', q, f⟩
theorem FW.block {id : Nat} {x : Code} (h : FW c x (blockF id Q) s) : FW c (.block id x) Q s := fun w0 J a w β hF => by
  refine wp_block (wp_mono (h w0 J a w β hF) fun e a' w' ⟨s', β', q, f⟩ => ?_)
  cases e with
  | exit id' =>
    simp only [Exit.inBlock]
    simp only [blockF] at q
    split
    · rename_i e; rw [if_pos e] at q; exact ⟨s', β', q, f⟩
    · rename_i e; rw [if_neg e] at q; exact ⟨s', β', q, f⟩
  | _ => exact ⟨s', β', q, f⟩
theorem FW.cond {cnd : Operand} {x y : Code} {b : Bool} (hc : s.ev cnd = .bool b) (ht : b = true → FW c x Q s) (hf : b = false → FW c y Q s) : FW c (.cond cnd x y) Q s := fun w0 J a w β hF => by
  have e := hF.ev_bool hc
  cases b with
  | true => exact wp_cond_true e (ht rfl w0 J a w β hF)
  | false => exact wp_cond_false e (hf rfl w0 J a w β hF)
theorem FW.condT {cnd : Operand} {x y : Code} (hc : s.ev cnd = .bool true) (ht : FW c x Q s) : FW c (.cond cnd x y) Q s := FW.cond hc (fun _ => ht) (fun h => by cases h)
theorem FW.condF {cnd : Operand} {x y : Code} (hc : s.ev cnd = .bool false) (ht : FW c y Q s) : FW c (.cond cnd x y) Q s := FW.cond hc (fun h => by cases h) (fun _ => ht)

theorem FW.loop {σ : Type} {body : Code} (inv : σ → FSt) (pre : σ → Prop) (μ : σ → Nat) (x0 : σ) (h0 : pre x0) (hs : FLe s (inv x0))
    (round : ∀ x, pre x → FW c body (thenF (fun s' => ∃ x', pre x' ∧ μ x' < μ x ∧ FLe s' (inv x')) Q) (inv x)) : FW c (.loop body) Q s := fun w0 J a w β hF => by
  obtain ⟨β0, hF0⟩ := hs _ _ _ _ _ _ hF
  refine wp_loop_ghost (fun n a w => ∃ x, pre x ∧ μ x = n ∧ ∃ β, FR c.N w0 J (inv x) a w β) (μ x0) ⟨x0, h0, rfl, β0, hF0⟩ ?_
  rintro n a w ⟨x, hp, rfl, β, hF⟩
  refine wp_mono (round x hp w0 J a w β hF) fun e a' w' ⟨s', β', q, f⟩ => ?_
  cases e with
  | normal =>
    obtain ⟨x', h1, h2, h3⟩ := q
    obtain ⟨β'', hF''⟩ := h3 _ _ _ _ _ _ f
    exact ⟨μ x', h2, x', h1, rfl, β'', hF''⟩
  | _ => exact ⟨s', β', q, f⟩

theorem FW.join {x y : Code} {ι : Type} (fam : ι → FSt) (pre : ι → Prop) (h1 : FW c x (fun e s' => e = .normal ∧ ∃ i, pre i ∧ FLe s' (fam i)) s) (h2 : ∀ i, pre i → FW c y Q (fam i)) : FW c x (thenF (FW c y Q) Q) s :=
  h1.mono fun e s' h => by
    obtain ⟨rfl, i, hp, hle⟩ := h
    exact (h2 i hp).le hle

def RunN (c : Ctx) (ops : Array Oper) (l : List Oper) (s : FSt) (Q : FSt → Prop) : Prop :=
  ∀ (QQ : Exit → Act → World → Prop) (w0 : World) (J : JJ) (a : Act) (w : World) (β : Nat → Option Nat), (∀ s a w β, Q s → FR c.N w0 J s a w β → QQ .normal a w) → FR c.N w0 J s a w β → wpList c.P ops QQ l a w
def RunD (c : Ctx) (ops : Array Oper) (l : List Oper) (s : FSt) (tr : List Rec) (Q : FSt → List Rec → Prop) : Prop := ∃ tr' s', Exec c ops s l tr' s' ∧ Q s' (tr ++ tr')

theorem FW.region {id : Nat} {l : List Oper} (h : RunN c l.toArray l s (Q .normal)) : FW c (.region id l.toArray false) Q s := fun w0 J a w β hF =>
  wp_region_lit (h _ w0 J a w β (fun s a w β q f => ⟨s, β, q, f⟩) hF)
theorem FW.draw {id : Nat} {l : List Oper} (h : RunD c l.toArray l s [] fun s' tr => okTrace l.toArray tr = true ∧ Q .normal s') : FW c (.region id l.toArray true) Q s := fun w0 J a w β hF => by
  obtain ⟨tr, s', hx, hok, hq⟩ := h
  exact region_draw (ops := l.toArray) (by simpa using hx) (by simpa using hok) (fun a w β f => ⟨s', β, hq, f⟩) hF
end

structure Stp (c : Ctx) (s : FSt) (o : Oper) (f : FV) (wr : List (Nat × FObj)) (d : Nat) : Prop where
  dst : o.dst = some d ∨ (o.dst = none ∧ NoVal o.op)
  lt : ∀ d, o.dst = some d → d < c.N
  eff : Eff c s d o.op f wr

section
variable {c : Ctx} {ops : Array Oper} {s : FSt} {o : Oper} {rest : List Oper} {f : FV} {wr : List (Nat × FObj)} {d : Nat} {tr : List Rec}
theorem RunN.nil {Q : FSt → Prop} (h : Q s) : RunN c ops [] s Q := fun _ _ _ a w β hQ hF => hQ s a w β h hF
theorem RunN.le {l : List Oper} {Q : FSt → Prop} {s' : FSt} (h : RunN c ops l s' Q) (hs : FLe s s') : RunN c ops l s Q := fun QQ w0 J a w β hQ hF => let ⟨β', h1⟩ := hs _ _ _ _ _ _ hF; h QQ w0 J a w β' hQ h1
theorem RunD.nil {Q : FSt → List Rec → Prop} (h : Q s tr) : RunD c ops [] s tr Q := ⟨[], s, .nil s, by rw [List.append_nil]; exact h⟩
theorem RunN.cons {Q : FSt → Prop} {s' : FSt} (h : Stp c s o f wr d) (hw : Want ops s o true) (hs : s.app o.dst f wr = s') (k : RunN c ops rest s' Q) : RunN c ops (o :: rest) s Q := fun QQ w0 J a w β hQ hF => by
  unfold wpList
  rw [if_pos (hw.model hF)]
  exact .inl (h.eff.sound hF o rfl h.dst h.lt fun a' w' β' hF' => k QQ w0 J a' w' β' hQ (hs ▸ hF'))
theorem RunD.cons {Q : FSt → List Rec → Prop} {s' : FSt} {ft : List Nat} (h : Stp c s o f wr d) (hw : Want ops s o true) (hs : s.app o.dst f wr = s') (hf : foot s d o.op = ft) (k : RunD c ops rest s' (tr ++ [⟨o, f, wr, ft⟩]) Q) : RunD c ops (o :: rest) s tr Q := by
  obtain ⟨tr', s'', hx, hq⟩ := k
  refine ⟨_, s'', .step hw h.dst h.lt h.eff (hs ▸ hx), ?_⟩
  rw [hf]
  simpa using hq
theorem RunN.skip {Q : FSt → Prop} {s' : FSt} (hw : Want ops s o false) (hd : ∀ d, o.dst = some d → d < c.N) (hs : s.app o.dst (.tup []) [] = s') (k : RunN c ops rest s' Q) : RunN c ops (o :: rest) s Q := fun QQ w0 J a w β hQ hF => by
  unfold wpList
  rw [if_neg (by rw [hw.model hF]; decide)]
  refine k QQ w0 J _ w β hQ (hs ▸ ?_)
  unfold FSt.app
  cases hdd : o.dst with
  | none => exact hF
  | some d => exact hF.put (hd d hdd) (VR.of_rd (Rd.tup [] [] rfl (by simp)) rfl) (fun id ver e => by cases e)
theorem RunD.skip {Q : FSt → List Rec → Prop} {s' : FSt} (hw : Want ops s o false) (hd : ∀ d, o.dst = some d → d < c.N) (hs : s.app o.dst (.tup []) [] = s') (k : RunD c ops rest s' (tr ++ [⟨o, .tup [], [], []⟩]) Q) : RunD c ops (o :: rest) s tr Q := by
  obtain ⟨tr', s'', hx, hq⟩ := k
  refine ⟨_, s'', .skip hw hd (hs ▸ hx), ?_⟩
  simpa using hq
end

def FV.flat : FV → Bool
  | .int _ _ | .bool _ | .str _ | .nil => true
  | .agg cs => flats cs
  | .tup cs => flats cs
  | .iface _ f => f.flat
  | _ => false
where flats : List FV → Bool
  | [] => true
  | f :: fs => f.flat && flats fs
theorem FV.flats_get : ∀ {fs : List FV}, FV.flat.flats fs = true → ∀ (j : Nat) f, fs[j]? = some f → f.flat = true
  | [], _, j, f, h => by simp at h
  | g :: fs, h, 0, f, hf => by simp only [FV.flat.flats, Bool.and_eq_true] at h; simp at hf; subst hf; exact h.1
  | g :: fs, h, j + 1, f, hf => by simp only [FV.flat.flats, Bool.and_eq_true] at h; simp at hf; exact FV.flats_get h.2 j f hf
theorem Rd.flat {w : World} {I : Nat → Prop} {v : Value} {f : FV} (h : Rd w I v f) : f.flat = true → ∀ (w' : World) (I' : Nat → Prop), Rd w' I' v f := by
  induction h with
  | undef v => intro hf; simp [FV.flat] at hf
  | int k n => exact fun _ _ _ => .int k n
  | bool b => exact fun _ _ _ => .bool b
  | str s => exact fun _ _ _ => .str s
  | nil => exact fun _ _ _ => .nil
  | list => intro hf; simp [FV.flat] at hf
  | eptr => intro hf; simp [FV.flat] at hf
  | smap => intro hf; simp [FV.flat] at hf
  | fn => intro hf; simp [FV.flat] at hf
  | iface t v f hr ih => exact fun hf w' I' => .iface t v f (ih (by simpa [FV.flat] using hf) w' I')
  | agg us fs hl hr ih => exact fun hf w' I' => .agg us fs hl fun j u f hu hff => ih j u f hu hff (FV.flats_get hf j f hff) w' I'
  | tup us fs hl hr ih => exact fun hf w' I' => .tup us fs hl fun j u f hu hff => ih j u f hu hff (FV.flats_get hf j f hff) w' I'
theorem FV.flat_hand {f : FV} (h : f.flat = true) : f.hand = none := by cases f <;> first | rfl | (simp [FV.flat] at h)

inductive ResV (c : Ctx) (s : FSt) : ResultVar → FV → Prop where
  | tmp (t : Nat) {f : FV} (h : s.get t = f) (hn : f.hand = none) : ResV c s (.tmp t) f
  | cell (t T : Nat) {bb : Bool} (hk : (c.ty T).k.agg? = some bb) {id ver j o : Nat} (h : s.get t = .ptr id ver j o) (hl : s.live id ver) (hrl : (s.ob id).life.row = true) (hj : j < (s.ob id).es.length) (ho : o + (c.ty T).size ≤ (s.ob id).sz) (ho' : o < (s.ob id).sz) :
      ResV c s (.cell t T) (loadF (c.ty T) (((s.ob id).es.getD j []).drop o))
inductive ResVs (c : Ctx) (s : FSt) : List ResultVar → List FV → Prop where
  | nil : ResVs c s [] []
  | cons {r : ResultVar} {rs : List ResultVar} {f : FV} {fs : List FV} (h : ResV c s r f) (hs : ResVs c s rs fs) : ResVs c s (r :: rs) (f :: fs)

def resOf : List FV → FV
  | [f] => f
  | fs => .tup fs

def resSem (tmps : Array Value) : ResultVar → Sem Value
  | .tmp t => pure (tmps.getD t undef)
  | .cell a t => do loadVar t (← asAddr (tmps.getD a undef))

section
variable {c : Ctx} {w0 w : World} {J : JJ} {s : FSt} {a : Act} {β : Nat → Option Nat}
theorem ResV.run (hF : FR c.N w0 J s a w β) {r : ResultVar} {f : FV} (h : ResV c s r f) : ∃ v, (resSem a.tmps r).run c.P w = .ok v w ∧ Rd w (Imm J w β s) v f := by
  cases h with
  | tmp t h hn => exact ⟨_, rfl, hF.ev_rd (x := .tmp t) h hn⟩
  | cell t T hk h hl hrl hj ho ho' =>
    obtain ⟨v, w', β', h1, h2, h3, h4⟩ := good_load_ptr (dst := none) (ty := 0) (pos := "") (after := #[]) (g := none) hF hk (.tmp t) h hl hrl hj ho ho'
    obtain ⟨hslic, b, hb, hv⟩ := hF.ev_ptr (x := .tmp t) h hl.1 hl.2
    rename_i id ver j o
    obtain ⟨cur, cap, hblk, hn, hm, hcs, hr, hrow⟩ := hF.block hl.1 hrl hb
    have hw := ((hF.obj id hl.1).rowR hrl).wide
    have hd := hr.drop (j * (s.ob id).sz + o)
    rw [flat_drop _ hw j o hj (by omega)] at hd
    have hlen : (((s.ob id).es.getD j []).drop o).length = (s.ob id).sz - o := by rw [List.length_drop, getD_len hw hj]
    have hul := hd.1
    rw [List.length_append, hlen] at hul
    obtain ⟨v, r1, r2⟩ := run_loadVar hk w b (j * (s.ob id).sz + o) ((cur.toList.take ((s.ob id).es.length * (s.ob id).sz)).drop (j * (s.ob id).sz + o)) (by omega) (fun _ => by omega) (fun i u hu => by
      rw [List.getElem?_drop, List.getElem?_take] at hu
      rw [cell_of_row w b _ cur (s.ob id).E (0, 0) hblk]
      split at hu
      · simpa using hu
      · cases hu) hd
    rw [loadF_append (by omega) (fun e => by rw [e] at hlen; simp at hlen; omega)] at r2
    have hv' : a.tmps.getD t undef = .pointer (some ⟨b, j * (s.ob id).sz + o, none⟩) := hv
    refine ⟨v, ?_, r2⟩
    simp only [resSem, hv', asAddr, Sem.run_bind, Sem.run_pure, Result.andThen_ok]
    exact r1
theorem ResVs.run (hF : FR c.N w0 J s a w β) : ∀ {rs : List ResultVar} {fs : List FV}, ResVs c s rs fs → ∃ vs, (rs.mapM (resSem a.tmps)).run c.P w = .ok vs w ∧ RdL w (Imm J w β s) vs fs
  | _, _, .nil => ⟨[], rfl, RdL.nil⟩
  | _, _, .cons h hs => by
    obtain ⟨v, h1, h2⟩ := h.run hF
    obtain ⟨vs, h3, h4⟩ := ResVs.run hF hs
    exact ⟨v :: vs, by simp [List.mapM_cons, h1, h3], RdL.cons h2 h4⟩

theorem results_run (hF : FR c.N w0 J s a w β) (fn : Func) {fs : List FV} (h : ResVs c s fn.results.toList fs) : ∃ v, (results fn a.tmps).run c.P w = .ok v w ∧ Rd w (Imm J w β s) v (resOf fs) := by
  obtain ⟨vs, h1, h2⟩ := h.run hF
  have e : results fn a.tmps = (do let vs ← fn.results.mapM (resSem a.tmps); pure (if h : vs.size = 1 then vs[0] else .tuple vs)) := by
    unfold results
    congr 1
  have h3 : (fn.results.mapM (resSem a.tmps)).run c.P w = .ok vs.toArray w := by
    rw [Array.mapM_eq_mapM_toList]
    simp [h1]
  rw [e]
  refine ⟨if h : vs.toArray.size = 1 then vs.toArray[0] else .tuple vs.toArray, by simp [h3], ?_⟩
  have hl := h2.1
  split
  · rename_i hs
    match vs, fs, hl, h2 with
    | [v], [f], _, h2 => exact h2.2 0 v f rfl rfl
    | [], _, _, _ => simp at hs
    | _ :: _ :: _, _, _, _ => simp at hs
    | [_], [], hl, _ => simp at hl
    | [_], _ :: _ :: _, hl, _ => simp at hl
  · rename_i hs
    have : resOf fs = .tup fs := by
      match fs, hl with
      | [], _ => rfl
      | [f], hl => exact absurd (by simpa using hl) hs
      | _ :: _ :: _, _ => rfl
    rw [this]
    exact .tup vs fs h2.1 h2.2
end

def entry (args : List FV) : FSt := ⟨args.zipIdx.map fun p => (p.2, p.1), []⟩
theorem entry_get (args : List FV) (d : Nat) : (entry args).get d = args.getD d .undef := by
  have key : ∀ (l : List FV) (k d : Nat), look FV.undef ((l.zipIdx k).map fun p => (p.2, p.1)) d = if k ≤ d then l.getD (d - k) .undef else .undef := by
    intro l
    induction l with
    | nil => intro k d; simp [look]
    | cons f l ih =>
      intro k d
      rw [List.zipIdx_cons, List.map_cons, look_cons, ih]
      by_cases h : k = d
      · subst h; simp
      · rw [if_neg h]
        by_cases hk : k ≤ d
        · rw [if_pos (by omega), if_pos hk, show d - k = (d - (k + 1)) + 1 by omega, List.getD_cons_succ]
        · rw [if_neg (by omega), if_neg hk]
  have := key args 0 d
  simpa [entry, FSt.get] using this

structure Fun_ (c : Ctx) (f : Nat) (fn : Func) (code : Code) : Prop where
  at_ : c.P.funcs[f]? = some fn
  b : fn.body = some code
  n : fn.ntmps = c.N
  g : isGo c.P f = true

theorem FR.entry {N : Nat} {w : World} {I : Nat → Prop} (hI : ∀ b, I b → b < w.heap.size) {vs : List Value} {args : List FV} (h : RdL w I vs args) (hn : ∀ f ∈ args, f.hand = none) (hl : args.length ≤ N) :
    FR N w { ok := fun b => I b ∨ w.heap.size ≤ b } (entry args) { tmps := vs.toArray ++ Array.replicate (N - vs.toArray.size) undef, defers := [] } w (fun _ => none) where
  size := by have := h.1; simp; omega
  defers := rfl
  bel := Below.refl _ _
  fresh0 b hb := .inl (.inr hb)
  slot d := by
    rw [entry_get]
    have him : ∀ b, I b → Imm { ok := fun b => I b ∨ w.heap.size ≤ b } w (fun _ => none) (Ytfegkbmnclhljaa.entry args) b ∧ w.heap[b]? = w.heap[b]? := fun b hb => ⟨⟨hI b hb, .inl hb, fun id _ => by simp⟩, rfl⟩
    rcases Nat.lt_or_ge d args.length with hd | hd
    · have hd' : d < vs.length := by rw [h.1]; exact hd
      have e1 : args.getD d .undef = args[d] := by simp [hd]
      have e2 : (vs.toArray ++ Array.replicate (N - vs.toArray.size) undef).getD d undef = vs[d] := by
        rw [Array.getD_eq_getD_getElem?, Array.getElem?_append_left (by simpa using hd')]
        simp [hd']
      rw [e1, e2]
      exact VR.of_rd ((h.2 d _ _ (by simp [hd']) (by simp [hd])).mono him) (hn _ (List.getElem_mem hd))
    · have e1 : args.getD d .undef = .undef := by simp [hd]
      rw [e1]
      exact VR.of_rd (.undef _) rfl
  vers d id ver hf := by
    rw [entry_get] at hf
    rcases Nat.lt_or_ge d args.length with hd | hd
    · have e1 : args.getD d .undef = args[d] := by simp [hd]
      rw [e1] at hf; exact (FV.no_hands (hn _ (List.getElem_mem hd)) hf).elim
    · have e1 : args.getD d .undef = .undef := by simp [hd]
      rw [e1] at hf; cases hf
  obj id hl := absurd rfl hl
  inj id id' b hl := absurd rfl hl
  kept b hb := hb.elim
  gh v f hg := hg.elim

inductive Ret (c : Ctx) (fn : Func) (s : FSt) : Mode → FV → Prop where
  | flat {fs : List FV} {f : FV} (h : ResVs c s fn.results.toList fs) (he : resOf fs = f) (hf : f.flat = true) : Ret c fn s .fr f
  | sh {fs : List FV} {f : FV} (h : ResVs c s fn.results.toList fs) (he : resOf fs = f) (hf : f.hand = none) : Ret c fn s .sh f
  | ow {t id ver n : Nat} (hr : fn.results.toList = [.tmp t]) (h : s.get t = .own id ver 0 n) (hl : (s.ob id).life = .own) (hv : (s.ob id).ver = ver) (hn : n = (s.ob id).es.length) (hp : 0 < (s.ob id).sz) (hflat : ∀ e ∈ (s.ob id).es, FV.flat.flats e = true) :
      Ret c fn s (.ow (s.ob id).E (s.ob id).sz) (.list (s.ob id).sz (s.ob id).es)
  | owNil {t : Nat} (E sz : Nat) (hr : fn.results.toList = [.tmp t]) (h : s.get t = .nil) : Ret c fn s (.ow E sz) (.list sz [])

theorem flats_flatten {es : List (List FV)} (h : ∀ e ∈ es, FV.flat.flats e = true) : ∀ f ∈ es.flatten, f.flat = true := by
  intro f hf
  obtain ⟨e, he, hfe⟩ := List.mem_flatten.1 hf
  obtain ⟨j, hj, rfl⟩ := List.getElem_of_mem hfe
  exact FV.flats_get (h e he) j _ (by simp [hj])

theorem Spec.of_body {c : Ctx} {f : Nat} {fn : Func} {code : Code} (hf : Fun_ c f fn code) {args : List FV} {m : Mode} {res : FV} (hn : ∀ f ∈ args, f.hand = none) (hl : args.length ≤ c.N) (hh : res.hand = none)
    (h : FW c code (fun e s => (e = .ret ∨ e = .normal) ∧ Ret c fn s m res) (entry args)) : Spec c.P f args m res where
  go := hf.g
  hand := hh
  calls w I vs hI hv := by
    refine calls_of_wp hf.at_ hf.b ?_
    rw [hf.n]
    refine wp_mono (h w _ _ w _ (FR.entry hI hv hn hl)) ?_
    rintro e a' w' ⟨s', β', ⟨he, hr⟩, hF⟩
    have key : a'.defers = [] ∧ ∃ v, (results fn a'.tmps).run c.P w' = .ok v w' ∧ ∃ v', Ending.returned v = .returned v' ∧ Below w.heap.size w w' ∧ ResOk w w' I m v' res := by
      refine ⟨hF.defers, ?_⟩
      cases hr with
      | flat hrs he hfl =>
        obtain ⟨v, h1, h2⟩ := results_run hF fn hrs
        rw [he] at h2
        exact ⟨v, h1, v, rfl, hF.bel, h2.flat hfl _ _⟩
      | sh hrs he hfl =>
        obtain ⟨v, h1, h2⟩ := results_run hF fn hrs
        rw [he] at h2
        refine ⟨v, h1, v, rfl, hF.bel, h2.mono fun b hb => ⟨?_, rfl⟩⟩
        rcases hb.2.1 with h | h
        · exact .inl h
        · exact .inr ⟨h, hb.1⟩
      | @ow t id ver n hrs hg hlv hv hn hp hflat =>
        have hlive : (s'.ob id).life ≠ .dead := by rw [hlv]; decide
        obtain ⟨A, cc, e1, e2, e3, e4, e5⟩ := (hF.ev_own (x := .tmp t) hg hlive hv).ex
        have hrl : (s'.ob id).life.row = true := by rw [hlv]; rfl
        obtain ⟨v, us, r1, r2, r3⟩ := ((hF.obj id hlive).rowR hrl).row
        have hw := ((hF.obj id hlive).rowR hrl).wide
        have hone := ((hF.obj id hlive).rowR hrl).one
        have hveq : a'.tmps.getD t undef = v := by
          have e1' : a'.tmps.getD t undef = .slice A n cc := e1
          rw [e1']
          rcases r1.2 with ⟨rfl, h0⟩ | ⟨b, cap, cur, rfl, _, hgg, _, _, hcs, _⟩
          · have hb0 : β' id = none := by rw [← r2]; rfl
            obtain ⟨rfl, rfl⟩ := e4 hb0
            rw [hn, h0]
          · have hb0 : β' id = some b := by rw [← r2]; rfl
            obtain ⟨o', rfl, k2, k3⟩ := e5 b hb0
            have := k3 cur hgg
            rw [hcs, Nat.zero_add] at this
            have hcc : cap = cc := Nat.eq_of_mul_eq_mul_right hp this
            rw [k2 (.inr rfl), hcc, hn]
            simp
        refine ⟨v, ?_, v, rfl, hF.bel, _, us, rfl, hw, hone, r1, ?_⟩
        · have hra : fn.results = #[.tmp t] := by apply Array.ext'; simpa using hrs
          rw [results_tmp hra, hveq]
        · have hfl := flats_flatten hflat
          exact ⟨r3.1, fun j u f hu hf => (r3.2 j u f hu hf).flat (hfl f (List.mem_of_getElem? hf)) _ _⟩
      | @owNil t E sz hrs hg =>
        refine ⟨.slice none 0 0, ?_, _, rfl, hF.bel, [], [], rfl, by simp, by simp, World.ownsRow_nil _ _ _ _, RdL.nil⟩
        have hra : fn.results = #[.tmp t] := by apply Array.ext'; simpa using hrs
        rw [results_tmp hra]
        have := hF.ev_nil (x := .tmp t) hg
        have : a'.tmps.getD t undef = .slice none 0 0 := this
        rw [this]
    rcases he with rfl | rfl
    · exact key
    · exact key
end Go.Proofs.Ytfegkbmnclhljaa
