/-
  Between contracts on memory and contracts on plain values.
-/
import Derived.Test.YthijndjgchbeoaaFmN
import Derived.Test.YthijndjgchbeoaaFmT
import Derived.Test.YthijndjgchbeoaaTypes
namespace Go.Proofs.Ythijndjgchbeoaa
set_option linter.unusedVariables false
open Go.RowKit

/-- a type whose elements are some cells that read from no memory -/
structure Typ {α : Type} (sz : Nat) (vals : α → List Value) (fv : α → List FV) : Prop where
  rd : ∀ w I x, RdL w I (vals x) (fv x)
  inv : ∀ w I us x, RdL w I us (fv x) → us = vals x
  wide : ∀ x, (fv x).length = sz
  one : ∀ x, ∀ f ∈ fv x, f.one = true
  flat : ∀ x, FV.flat.flats (fv x) = true

section
variable {α : Type} {sz : Nat} {vals : α → List Value} {fv : α → List FV}
theorem Typ.flatRd (T : Typ sz vals fv) (w : World) (I : Nat → Prop) : ∀ l : List α, RdL w I (Ythijndjgchbeoaa.flat vals l) (l.map fv).flatten
  | [] => RdL.nil
  | x :: l => by
    simp only [Ythijndjgchbeoaa.flat, List.flatMap_cons, List.map_cons, List.flatten_cons]
    exact (T.rd w I x).append (T.flatRd w I l)
theorem Typ.flatInv (T : Typ sz vals fv) (w : World) (I : Nat → Prop) : ∀ (l : List α) (us : List Value), RdL w I us (l.map fv).flatten → us = Ythijndjgchbeoaa.flat vals l
  | [], us, h => by have := h.1; simpa [Ythijndjgchbeoaa.flat] using this
  | x :: l, us, h => by
    have h' := h
    simp only [List.map_cons, List.flatten_cons] at h
    have hl := T.wide x
    have h1 := h.take sz
    have h2 := h.drop sz
    rw [List.take_left' hl] at h1
    rw [List.drop_left' hl] at h2
    have e1 := T.inv w I _ x h1
    have e2 := T.flatInv w I l _ h2
    simp only [Ythijndjgchbeoaa.flat, List.flatMap_cons]
    rw [← e1, show List.flatMap vals l = Ythijndjgchbeoaa.flat vals l from rfl, ← e2, List.take_append_drop]
theorem Typ.wideM (T : Typ sz vals fv) (l : List α) : ∀ e ∈ l.map fv, e.length = sz := fun e he => by
  obtain ⟨x, _, rfl⟩ := List.mem_map.1 he; exact T.wide x
theorem Typ.oneM (T : Typ sz vals fv) (l : List α) : ∀ f ∈ (l.map fv).flatten, f.one = true := fun f hf => by
  obtain ⟨e, he, hfe⟩ := List.mem_flatten.1 hf
  obtain ⟨x, _, rfl⟩ := List.mem_map.1 he
  exact T.one x f hfe
theorem Typ.to (T : Typ sz vals fv) {w : World} {B : Nat} {A : Option Addr} {l : List α} {c : Nat} (h : Sl vals w B A l) (hc : l.length ≤ c) : Rd w (fun b => b < B) (.slice A l.length c) (.list sz (l.map fv)) := by
  have hR := T.flatRd w (fun b => b < B) l
  refine .list A l.length c sz _ (Ythijndjgchbeoaa.flat vals l) (by simp) hc (T.wideM l) (T.oneM l) (fun h0 => ?_) hR.1 hR.2
  obtain ⟨b, off, ha, hb, hcell⟩ := h (fun e => h0 (by rw [e]; rfl))
  exact ⟨b, off, ha, hb, hcell⟩
theorem Typ.of (T : Typ sz vals fv) {w : World} {I : Nat → Prop} {B : Nat} {v : Value} {l : List α} (h : Rd w I v (.list sz (l.map fv))) (hI : ∀ b, I b → b < B) : ∃ A c, v = .slice A l.length c ∧ l.length ≤ c ∧ Sl vals w B A l := by
  cases h with
  | list A n c sz es us hn hc he ho hA hl hr =>
    rw [List.length_map] at hn
    subst hn
    have := T.flatInv w I l us ⟨hl, hr⟩
    subst this
    refine ⟨A, c, rfl, hc, fun hne => ?_⟩
    obtain ⟨b, off, ha, hb, hcell⟩ := hA (by simpa using hne)
    exact ⟨b, off, ha, hI b hb, hcell⟩
theorem Typ.res (T : Typ sz vals fv) {w w' : World} {I : Nat → Prop} {E : Nat} {v : Value} {l : List α} (h : w'.ownsRow w.heap.size E sz v l.length (Ythijndjgchbeoaa.flat vals l)) : ResOk w w' I (.ow E sz) v (.list sz (l.map fv)) :=
  ⟨_, _, rfl, T.wideM l, T.oneM l, by rw [List.length_map]; exact h, T.flatRd _ _ l⟩
end

theorem Rd.int_inv {w : World} {I : Nat → Prop} {v : Value} {k : IntKind} {n : Int} (h : Rd w I v (.int k n)) : v = .int k n := by cases h; rfl
theorem Rd.bool_inv {w : World} {I : Nat → Prop} {v : Value} {b : Bool} (h : Rd w I v (.bool b)) : v = .bool b := by cases h; rfl
theorem RdL.cons_inv {w : World} {I : Nat → Prop} {us : List Value} {f : FV} {fs : List FV} (h : RdL w I us (f :: fs)) : ∃ u vs, us = u :: vs ∧ Rd w I u f ∧ RdL w I vs fs := by
  cases us with
  | nil => have := h.1; simp at this
  | cons u vs => exact ⟨u, vs, rfl, h.2 0 u f rfl rfl, by have := h.1; simpa using this, fun j u' f' hu hf => h.2 (j + 1) u' f' (by simpa using hu) (by simpa using hf)⟩
theorem RdL.nil_inv {w : World} {I : Nat → Prop} {us : List Value} (h : RdL w I us []) : us = [] := by have := h.1; simpa using this

theorem RdL.inv1 {w : World} {I : Nat → Prop} {vs : List Value} {f0 : FV} (h : RdL w I vs [f0]) : ∃ u0, vs = [u0] ∧ Rd w I u0 f0 := by
  obtain ⟨u0, r0, rfl, e0, h0⟩ := h.cons_inv
  have := h0.nil_inv
  subst this
  exact ⟨u0, rfl, e0⟩
theorem RdL.inv2 {w : World} {I : Nat → Prop} {vs : List Value} {f0 f1 : FV} (h : RdL w I vs [f0, f1]) : ∃ u0 u1, vs = [u0, u1] ∧ Rd w I u0 f0 ∧ Rd w I u1 f1 := by
  obtain ⟨u0, r0, rfl, e0, h0⟩ := h.cons_inv
  obtain ⟨u1, r1, rfl, e1, h1⟩ := h0.cons_inv
  have := h1.nil_inv
  subst this
  exact ⟨u0, u1, rfl, e0, e1⟩
theorem RdL.inv3 {w : World} {I : Nat → Prop} {vs : List Value} {f0 f1 f2 : FV} (h : RdL w I vs [f0, f1, f2]) : ∃ u0 u1 u2, vs = [u0, u1, u2] ∧ Rd w I u0 f0 ∧ Rd w I u1 f1 ∧ Rd w I u2 f2 := by
  obtain ⟨u0, r0, rfl, e0, h0⟩ := h.cons_inv
  obtain ⟨u1, r1, rfl, e1, h1⟩ := h0.cons_inv
  obtain ⟨u2, r2, rfl, e2, h2⟩ := h1.cons_inv
  have := h2.nil_inv
  subst this
  exact ⟨u0, u1, u2, rfl, e0, e1, e2⟩
theorem RdL.inv4 {w : World} {I : Nat → Prop} {vs : List Value} {f0 f1 f2 f3 : FV} (h : RdL w I vs [f0, f1, f2, f3]) : ∃ u0 u1 u2 u3, vs = [u0, u1, u2, u3] ∧ Rd w I u0 f0 ∧ Rd w I u1 f1 ∧ Rd w I u2 f2 ∧ Rd w I u3 f3 := by
  obtain ⟨u0, r0, rfl, e0, h0⟩ := h.cons_inv
  obtain ⟨u1, r1, rfl, e1, h1⟩ := h0.cons_inv
  obtain ⟨u2, r2, rfl, e2, h2⟩ := h1.cons_inv
  obtain ⟨u3, r3, rfl, e3, h3⟩ := h2.cons_inv
  have := h3.nil_inv
  subst this
  exact ⟨u0, u1, u2, u3, rfl, e0, e1, e2, e3⟩
theorem RdL.inv5 {w : World} {I : Nat → Prop} {vs : List Value} {f0 f1 f2 f3 f4 : FV} (h : RdL w I vs [f0, f1, f2, f3, f4]) : ∃ u0 u1 u2 u3 u4, vs = [u0, u1, u2, u3, u4] ∧ Rd w I u0 f0 ∧ Rd w I u1 f1 ∧ Rd w I u2 f2 ∧ Rd w I u3 f3 ∧ Rd w I u4 f4 := by
  obtain ⟨u0, r0, rfl, e0, h0⟩ := h.cons_inv
  obtain ⟨u1, r1, rfl, e1, h1⟩ := h0.cons_inv
  obtain ⟨u2, r2, rfl, e2, h2⟩ := h1.cons_inv
  obtain ⟨u3, r3, rfl, e3, h3⟩ := h2.cons_inv
  obtain ⟨u4, r4, rfl, e4, h4⟩ := h3.cons_inv
  have := h4.nil_inv
  subst this
  exact ⟨u0, u1, u2, u3, u4, rfl, e0, e1, e2, e3, e4⟩
theorem RdL.inv6 {w : World} {I : Nat → Prop} {vs : List Value} {f0 f1 f2 f3 f4 f5 : FV} (h : RdL w I vs [f0, f1, f2, f3, f4, f5]) : ∃ u0 u1 u2 u3 u4 u5, vs = [u0, u1, u2, u3, u4, u5] ∧ Rd w I u0 f0 ∧ Rd w I u1 f1 ∧ Rd w I u2 f2 ∧ Rd w I u3 f3 ∧ Rd w I u4 f4 ∧ Rd w I u5 f5 := by
  obtain ⟨u0, r0, rfl, e0, h0⟩ := h.cons_inv
  obtain ⟨u1, r1, rfl, e1, h1⟩ := h0.cons_inv
  obtain ⟨u2, r2, rfl, e2, h2⟩ := h1.cons_inv
  obtain ⟨u3, r3, rfl, e3, h3⟩ := h2.cons_inv
  obtain ⟨u4, r4, rfl, e4, h4⟩ := h3.cons_inv
  obtain ⟨u5, r5, rfl, e5, h5⟩ := h4.cons_inv
  have := h5.nil_inv
  subst this
  exact ⟨u0, u1, u2, u3, u4, u5, rfl, e0, e1, e2, e3, e4, e5⟩

def intf (x : Int) : List FV := [.int .i64 x]
theorem intT : Typ 1 intv intf where
  rd w I x := RdL.cons (.int _ _) .nil
  inv w I us x h := by
    obtain ⟨u, vs, rfl, h1, h2⟩ := h.cons_inv
    rw [h1.int_inv, h2.nil_inv]; rfl
  wide x := rfl
  one x f hf := by simp [intf] at hf; subst hf; rfl
  flat x := rfl
def OpV.fv (o : OpV) : List FV := [.int .i64 o.p, .int .i64 o.k, .int .i64 o.key, .int .i64 o.arg, .int .i64 o.res, .int .i64 o.call, .int .i64 o.ret, .bool o.done]
theorem opT : Typ 8 OpV.vals OpV.fv where
  rd w I x := RdL.cons (.int _ _) <| RdL.cons (.int _ _) <| RdL.cons (.int _ _) <| RdL.cons (.int _ _) <| RdL.cons (.int _ _) <| RdL.cons (.int _ _) <| RdL.cons (.int _ _) <| RdL.cons (.bool _) .nil
  inv w I us x h := by
    obtain ⟨_, _, rfl, h1, h⟩ := h.cons_inv
    obtain ⟨_, _, rfl, h2, h⟩ := h.cons_inv
    obtain ⟨_, _, rfl, h3, h⟩ := h.cons_inv
    obtain ⟨_, _, rfl, h4, h⟩ := h.cons_inv
    obtain ⟨_, _, rfl, h5, h⟩ := h.cons_inv
    obtain ⟨_, _, rfl, h6, h⟩ := h.cons_inv
    obtain ⟨_, _, rfl, h7, h⟩ := h.cons_inv
    obtain ⟨_, _, rfl, h8, h⟩ := h.cons_inv
    rw [h1.int_inv, h2.int_inv, h3.int_inv, h4.int_inv, h5.int_inv, h6.int_inv, h7.int_inv, h8.bool_inv, h.nil_inv]; rfl
  wide x := rfl
  one x f hf := by simp [OpV.fv] at hf; rcases hf with rfl | rfl | rfl | rfl | rfl | rfl | rfl | rfl <;> rfl
  flat x := rfl

/-- The law's answer out of its contract. -/
theorem Spec.law {P : Program} {f : Nat} {args : List FV} (h : Spec P f args .fr (.bool true)) {w : World} {vs : List Value} (hv : RdL w (fun b => b < w.heap.size) vs args) : Calls P f vs.toArray w fun e w' => e = .returned (.bool true) ∧ Below w.heap.size w w' := by
  refine (h.calls w _ vs (fun b hb => hb) hv).mono ?_
  rintro e w' ⟨v, rfl, hb, hr⟩
  have hr' : Rd w' _ v (.bool true) := hr
  rw [hr'.bool_inv]
  exact ⟨rfl, hb⟩
/-- a function hands back a slice of its own -/
theorem ret_ow {c : Ctx} {fn : Func} {t : List (Nat × FV)} {ob : List (Nat × FObj)} {d id ver n E sz : Nat} {es es' : List (List FV)} (hr : fn.results.toList = [.tmp d]) (h : look .undef t d = .own id ver 0 n) (hb : look {} ob id = ⟨ver, .own, E, sz, es⟩) (hn : n = es.length) (hp : 0 < sz) (e : es = es')
    (hf : ∀ e ∈ es', FV.flat.flats e = true) : Ret c fn ⟨t, ob⟩ (.ow E sz) (.list sz es') := by
  subst e
  have hb' : (⟨t, ob⟩ : FS).ob id = ⟨ver, .own, E, sz, es⟩ := hb
  have := Ret.ow (c := c) (fn := fn) (s := ⟨t, ob⟩) hr h (by rw [hb']) (by rw [hb']) (by rw [hb']; exact hn) (by rw [hb']; exact hp) (by rw [hb']; exact hf)
  rw [hb'] at this
  exact this
theorem ret_flat {c : Ctx} {fn : Func} {s : FS} {d : Nat} {f f' : FV} (hr : fn.results.toList = [.tmp d]) (h : s.get d = f) (e : f = f') (hf : f'.flat = true) : Ret c fn s .fr f' := by
  subst e
  exact .flat (fs := [f]) (by rw [hr]; exact .cons (.tmp d h (FV.flat_hand hf)) .nil) rfl hf
theorem Typ.flatsM {α : Type} {sz : Nat} {vals : α → List Value} {fv : α → List FV} (T : Typ sz vals fv) (l : List α) : ∀ e ∈ l.map fv, FV.flat.flats e = true := fun e he => by
  obtain ⟨x, _, rfl⟩ := List.mem_map.1 he
  exact T.flat x
/-- a result variable in a cell, read whole -/
theorem resv_cell {c : Ctx} {t : List (Nat × FV)} {ob : List (Nat × FObj)} {d T id ver E sz by_ : Nat} {kk : TK} {z cs : List FV} {lf : Life} (h : look .undef t d = .ptr id ver 0 0) (hb : look {} ob id = ⟨ver, lf, E, sz, [cs]⟩) (hl : lf.row = true) (hT : c.ty T = ⟨kk, sz, by_, z⟩) (hk : kk.agg? = some true)
    (hlen : cs.length = sz) (hp : 0 < sz) : ResV c ⟨t, ob⟩ (.cell d T) (.agg cs) := by
  have hb' : (⟨t, ob⟩ : FS).ob id = ⟨ver, lf, E, sz, [cs]⟩ := hb
  have hk' : (c.ty T).k.agg? = some true := by rw [hT]; exact hk
  have := ResV.cell (c := c) (s := ⟨t, ob⟩) d T hk' h (live_of hb (Life.row_ne hl)) (by rw [hb']; exact hl) (by rw [hb']; exact Nat.zero_lt_one) (by rw [hb', hT]; simp) (by rw [hb']; exact hp)
  rw [hb'] at this
  unfold loadF at this
  rw [hk'] at this
  dsimp only at this
  rw [hT, List.drop_zero] at this
  simpa [List.take_of_length_le (Nat.le_of_eq hlen)] using this
end Go.Proofs.Ythijndjgchbeoaa
