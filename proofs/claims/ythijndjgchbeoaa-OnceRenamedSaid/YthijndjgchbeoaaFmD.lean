/-
  The runs of the operations that read and write memory, on plain values.
-/
import Derived.Test.YthijndjgchbeoaaFmC
namespace Go.Proofs.Ythijndjgchbeoaa
set_option linter.unusedVariables false
open Go.RowKit

theorem add_none (b o n : Nat) : (⟨b, o, none⟩ : Addr).add n = ⟨b, o + n, none⟩ := by
  unfold Addr.add; split
  · rename_i h; subst h; rfl
  · rfl

/-- what a load of this type gives, out of the cells from its place on -/
def loadF (ts : TS) (cs : List FV) : FV :=
  match ts.k.agg? with
  | some true => .agg (cs.take ts.size)
  | _ => cs.headD .undef

theorem kind_slice {P : Program} {d : TypeDesc} {e : Nat} (h : kindOk P d (.slice e) = true) : d = .slice e := by
  cases d <;> simp [kindOk] at h
  subst h; rfl
theorem kind_arr {P : Program} {d : TypeDesc} {n e : Nat} (h : kindOk P d (.arr n e) = true) : d = .array n e := by
  cases d <;> simp [kindOk] at h
  obtain ⟨rfl, rfl⟩ := h; rfl
theorem kind_map {P : Program} {d : TypeDesc} {n e : Nat} (h : kindOk P d (.map n e) = true) : d = .map n e := by
  cases d <;> simp [kindOk] at h
  obtain ⟨rfl, rfl⟩ := h; rfl
theorem kind_int {P : Program} {d : TypeDesc} {k : IntKind} (h : kindOk P d (.int k) = true) : d = .int k := by
  cases d <;> simp [kindOk] at h
  subst h; rfl
theorem kind_bool {P : Program} {d : TypeDesc} (h : kindOk P d .bool = true) : d = .bool := by
  cases d <;> first | rfl | (simp [kindOk] at h)
theorem kind_str {P : Program} {d : TypeDesc} (h : kindOk P d .str = true) : d = .string := by
  cases d <;> first | rfl | (simp [kindOk] at h)
theorem kind_strct {P : Program} {d : TypeDesc} {fs : List (Nat × Nat)} (h : kindOk P d (.strct fs) = true) : ∃ gs, d = .struct gs ∧ fs = gs.toList.map (fun f => (f.offset, f.type)) ∧ ∀ f ∈ gs.toList, f.name ≠ "_" := by
  cases d <;> simp [kindOk] at h
  rename_i gs
  refine ⟨gs, rfl, h.1, fun f hf => ?_⟩
  obtain ⟨i, hi, rfl⟩ := List.getElem_of_mem hf
  have := h.2 i (by simpa using hi)
  simpa using this

theorem run_isAgg {c : Ctx} {T : Nat} {b : Bool} (hk : (c.ty T).k.agg? = some b) (w : World) : (isAgg T).run c.P w = .ok b w := by
  cases hkk : (c.ty T).k with
  | other => rw [hkk] at hk; cases hk
  | any => rw [hkk] at hk; cases hk
  | _ =>
    obtain ⟨d, i, z, h⟩ := c.get hkk (by simp)
    have hd := h.k
    rw [hkk] at hd hk
    first
      | (obtain ⟨gs, rfl, _⟩ := kind_strct hd; simp only [TK.agg?, Option.some.injEq] at hk; subst hk; simp [isAgg, run_underlying h.u])
      | (obtain rfl := kind_arr hd; simp only [TK.agg?, Option.some.injEq] at hk; subst hk; simp [isAgg, run_underlying h.u])
      | (obtain rfl := kind_int hd; simp only [TK.agg?, Option.some.injEq] at hk; subst hk; simp [isAgg, run_underlying h.u])
      | (obtain rfl := kind_bool hd; simp only [TK.agg?, Option.some.injEq] at hk; subst hk; simp [isAgg, run_underlying h.u])
      | (obtain rfl := kind_str hd; simp only [TK.agg?, Option.some.injEq] at hk; subst hk; simp [isAgg, run_underlying h.u])
      | (obtain rfl := kind_slice hd; simp only [TK.agg?, Option.some.injEq] at hk; subst hk; simp [isAgg, run_underlying h.u])
      | (obtain rfl := kind_map hd; simp only [TK.agg?, Option.some.injEq] at hk; subst hk; simp [isAgg, run_underlying h.u])

theorem agg_ne {k : TK} {b : Bool} (h : k.agg? = some b) : k ≠ .other := by rintro rfl; cases h
theorem run_sizeOf {c : Ctx} {T : Nat} (hk : (c.ty T).k ≠ .other) (w : World) : (sizeOf T).run c.P w = .ok (c.ty T).size w := by
  obtain ⟨d, i, z, h⟩ := c.get rfl hk
  simp [sizeOf, typeInfo, h.info, h.size]
theorem run_zeroValue {c : Ctx} {T : Nat} (hk : (c.ty T).k ≠ .other) (w : World) : ∃ z, (zeroValue T).run c.P w = .ok z w ∧ zerosRel z.cells.toList (c.ty T).zero = true ∧ z.cells.size = (c.ty T).size := by
  obtain ⟨d, i, z, h⟩ := c.get rfl hk
  refine ⟨z, by simp [zeroValue, typeInfo, h.info, h.zo], h.zr, ?_⟩
  have := (RdL.zeros (w := w) (I := fun _ => True) h.zr).1
  rw [h.zl] at this
  simpa using this

/-- a load at known cells -/
theorem run_loadVar {c : Ctx} {T : Nat} {bb : Bool} (hk : (c.ty T).k.agg? = some bb) (w : World) (b o : Nat) (us : List Value) (hl : (c.ty T).size ≤ us.length) (h1 : bb = false → 0 < us.length)
    (hc : ∀ (j : Nat) u, us[j]? = some u → w.cell? ⟨b, o + j, none⟩ = some u) {I : Nat → Prop} {fs : List FV} (hr : RdL w I us fs) :
    ∃ v, (loadVar T ⟨b, o, none⟩).run c.P w = .ok v w ∧ Rd w I v (loadF (c.ty T) fs) := by
  cases bb with
  | true =>
    refine ⟨.agg (us.take (c.ty T).size).toArray, ?_, ?_⟩
    · have hs := run_sizeOf (agg_ne hk) w
      have hlc := run_loadCells_list (P := c.P) (w := w) ⟨b, o, none⟩ (us.take (c.ty T).size) (fun j v hv => by
        rw [add_none]
        rw [List.getElem?_take] at hv
        split at hv
        · exact hc j v hv
        · cases hv)
      rw [List.length_take, Nat.min_eq_left hl] at hlc
      simp [loadVar, run_isAgg hk, hs, hlc]
    · unfold loadF
      rw [hk]
      have := hr.take (c.ty T).size
      exact .agg _ _ this.1 this.2
  | false =>
    have h0 := h1 rfl
    obtain ⟨u, rest, rfl⟩ : ∃ u rest, us = u :: rest := by cases us with | nil => simp at h0 | cons u r => exact ⟨u, r, rfl⟩
    obtain ⟨f, gs, rfl⟩ : ∃ f gs, fs = f :: gs := by cases fs with | nil => have := hr.1; simp at this | cons f r => exact ⟨f, r, rfl⟩
    refine ⟨u, ?_, ?_⟩
    · have := hc 0 u rfl
      rw [Nat.add_zero] at this
      simp [loadVar, run_isAgg hk, load, Sem.run, this]
    · unfold loadF
      rw [hk]
      exact hr.2 0 u f rfl rfl

/-- the cells of a plain value -/
def FV.cells : FV → List FV
  | .agg cs => cs
  | f => [f]
theorem Rd.oneCell {w : World} {I : Nat → Prop} {v : Value} {f : FV} (h : Rd w I v f) (hf : f.one = true) : v.oneCell' = true := by
  cases h <;> first | rfl | (simp [FV.one] at hf)
theorem Rd.cells {w : World} {I : Nat → Prop} {v : Value} {f : FV} (h : Rd w I v f) (hf : f.cells.all FV.one = true) : RdL w I v.cells.toList f.cells ∧ (∀ u ∈ v.cells.toList, u.oneCell' = true) := by
  have key : RdL w I v.cells.toList f.cells := by
    cases h with
    | agg us fs hl hr => exact ⟨by simpa [Value.cells, FV.cells] using hl, by simpa [Value.cells, FV.cells] using hr⟩
    | undef v => simp [FV.cells, FV.one] at hf
    | tup us fs hl hr => simp [FV.cells, FV.one] at hf
    | eptr b off sz es i o us hI he ho hA hl hr => simp [FV.cells, FV.one] at hf
    | int k n => exact RdL.cons (.int k n) .nil
    | bool b => exact RdL.cons (.bool b) .nil
    | str s => exact RdL.cons (.str s) .nil
    | nil => exact RdL.cons .nil RdL.nil
    | list A n c sz es us hn hc he ho hA hl hr => exact RdL.cons (.list A n c sz es us hn hc he ho hA hl hr) RdL.nil
    | smap b clock ents es hI hb hst hl hk hr => exact RdL.cons (.smap b clock ents es hI hb hst hl hk hr) RdL.nil
  refine ⟨key, fun u hu => ?_⟩
  obtain ⟨j, hj, rfl⟩ := List.getElem_of_mem hu
  have hj2 : j < f.cells.length := by rw [← key.1]; exact hj
  refine (key.2 j _ f.cells[j] (by simp) (by simp [hj2])).oneCell ?_
  rw [List.all_eq_true] at hf
  exact hf _ (List.getElem_mem hj2)
theorem Rd.nohand {f : FV} (hf : f.cells.all FV.one = true) : f.hand = none := by
  cases f <;> first | rfl | (simp [FV.cells, FV.one] at hf)
end Go.Proofs.Ythijndjgchbeoaa
