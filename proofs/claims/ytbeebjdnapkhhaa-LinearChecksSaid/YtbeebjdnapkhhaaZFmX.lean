/-
  A slice literal without room; a call that is lent such a slice and hands back what cannot lie in it.
-/
import Derived.Test.YtbeebjdnapkhhaaZFmW
namespace Go.Proofs.Ytbeebjdnapkhhaa
set_option linter.unusedVariables false
open Go.RowKit

section
variable {c : Ctx} {w0 w : World} {J : JJ} {s : FSt} {a : Act} {β : Nat → Option Nat} {dst : Option Nat} {ty : TypeId} {pos : String} {after : Array Edge} {g : Option (Nat × Bool)}
theorem zax (h : FR c.N w0 J s a w β) {o : Oper} (d E sz : Nat) (es : List (List FV)) (cur : Array Value) (hw : ∀ e ∈ es, e.length = sz) (ho : ∀ f ∈ es.flatten, f.one = true) (hr : RdL w (Imm J w β s) cur.toList es.flatten) (hm : es.length ≤ maxLen)
  (hrun : (execOp a.eval o).run c.P w = .ok (.value (.slice (some ⟨w.heap.size, 0, none⟩) es.length es.length)) (w.alloc (.cells cur E))) :
  yN c w0 J s a o w (.own d ((s.ob d).ver + 1) 0 es.length) [(d, ⟨(s.ob d).ver + 1, .full, E, sz, es⟩)] := by
 obtain ⟨v, w', β', hrun', hF, hV, hver⟩ := Yt h d E sz es cur hw ho hr hm hrun
 rw [hrun] at hrun'
 injection hrun' with q1 q2
 injection q1 with q1
 subst q1
 subst q2
 have hob : (s.wr [(d, ⟨(s.ob d).ver + 1, .own, E, sz, es⟩)]).ob d = ⟨(s.ob d).ver + 1, .own, E, sz, es⟩ := by show (FSt.set s d _).ob d = _; rw [FSt.ob_set, if_pos rfl]
 have hO := hV (by rw [hob]; exact fun q => by cases q) (by rw [hob])
 obtain ⟨A, cc, e1, e2, e3, e4, e5⟩ := hO.ex
 injection e1 with eA en ec
 subst ec
 rw [hob] at e5
 have hs : ∀ k, (s.wr [(d, ⟨(s.ob d).ver + 1, .full, E, sz, es⟩)]).ob k = if d = k then { (s.wr [(d, ⟨(s.ob d).ver + 1, .own, E, sz, es⟩)]).ob d with life := .full } else (s.wr [(d, ⟨(s.ob d).ver + 1, .own, E, sz, es⟩)]).ob k := fun k => by
  show (FSt.set s d _).ob k = if d = k then { (FSt.set s d _).ob d with life := .full } else (FSt.set s d _).ob k
  rw [FSt.ob_set, FSt.ob_set, FSt.ob_set]
  by_cases hk : d = k
  ·rw [if_pos hk, if_pos hk, if_pos rfl]
  ·rw [if_neg hk, if_neg hk, if_neg hk]
 have hF2 := hF.lives d .full (fun _ => by rw [hob]; rfl) (fun q => by rw [hob] at q; cases q) (fun _ => by rw [hob]; rfl) hs (fun _ => rfl) (fun _ hq => by
  have hrl : ((s.wr [(d, ⟨(s.ob d).ver + 1, .own, E, sz, es⟩)]).ob d).life.row = true := by rw [hob]; rfl
  have hR := hq.rowR hrl
  refine ObR.ofRow ⟨hR.wide, hR.one, hR.row⟩ ?_ rfl
  show ∀ b cur, _ → _ → _
  intro b cur' hb hc
  rw [hob] at hc ⊢
  obtain ⟨o', _, _, k3⟩ := e5 b hb
  have := k3 cur' hc
  simpa using this)
 refine ⟨_, _, _, hrun, hF2, fun _ _ => ?_, fun id ver e => ?_⟩
 ·rw [hs d, if_pos rfl]
  refine ⟨by rfl, ?_⟩
  have := hO.ex
  rw [hob] at this ⊢
  exact this
 ·have := hver id ver e
  rw [hs id]
  split
  ·rename_i hk; subst hk; exact this
  ·exact this
theorem Vq (h : FR c.N w0 J s a w β) (d : Nat) {T e n : Nat} (hT : (c.ty T).k = .slice e) (he : (c.ty e).k ≠ .other) (ps : Array (Nat × Operand)) (es : List (List FV)) (hn : es.length = n) (hw : ∀ x ∈ es, x.length = (c.ty e).size) (ho : ∀ f ∈ es.flatten, f.one = true)
  (hcap : n * (c.ty e).size ≤ 16777216) (hnm : n ≤ 16777216)
  (hf : Zt (fun i => some (i * (c.ty e).size, (c.ty e).size)) (List.replicate (n * (c.ty e).size) .undef) (s.parts ps) = some es.flatten) :
  yN c w0 J s a ⟨some d, .buildSlice T n ps, ty, pos, after, g⟩ w (.own d ((s.ob d).ver + 1) 0 n) [(d, ⟨(s.ob d).ver + 1, .full, e, (c.ty e).size, es⟩)] := by
 obtain ⟨dd, i, z, ht⟩ := c.get hT (by simp)
 have hd := ht.k
 rw [hT] at hd
 obtain rfl := ym hd
 have hs := yx (c := c) he w
 obtain ⟨zz, hz, _, _⟩ := yZ he w
 obtain ⟨A0, hA0⟩ : ∃ A0 : Array Value, (if n * (c.ty e).size = 0 then (Array.range (n * (c.ty e).size)).map (fun x => (#[] : Array Value)[x % (#[] : Array Value).size]!) else (Array.range (n * (c.ty e).size)).map (fun x => zz.cells[x % zz.cells.size]!)) = A0 := ⟨_, rfl⟩
 have hsz : A0.size = n * (c.ty e).size := by rw [← hA0]; split <;> simp
 have hu := RdL.undefs (w := w) (I := Imm J w β s) A0.toList
 rw [Array.length_toList, hsz] at hu
 obtain ⟨A', h1, h2⟩ := h.parts ps hu hf
 subst hn
 refine zax h d e (c.ty e).size es A' hw ho h2 (by unfold maxLen; omega) ?_
 have hcap' : ¬ (16777216 < es.length * (c.ty e).size) := by omega
 by_cases h0 : es.length * (c.ty e).size = 0
 ·rw [if_pos h0] at hA0
  simp [execOp, Instr.buildSlice, run_underlying ht.u, hs, h0, newRow] at hA0 h1 ⊢
  rw [hA0, h1]
  simp
 ·rw [if_neg h0] at hA0
  simp [execOp, Instr.buildSlice, run_underlying ht.u, hs, hcap', h0, hz, newRow, hA0] at h1 ⊢
  rw [h1]
  simp
end
section
variable {c : Ctx} {ops : Array Oper} {rest : List Oper} {t : List (Nat × FV)} {ob : List (Nat × zu)} {d : Nat} {ty : TypeId} {pos : String} {af : Array Edge} {g : Option (Nat × Bool)} {Q : FSt → Prop}
theorem zfD {T e n sz by_ : Nat} {kk : TK} {z : List FV} {es : List (List FV)} {ps : List (Nat × Operand)} {v0 E0 sz0 : Nat} {lf0 : ya} {es0 : List (List FV)} (hT : (c.ty T).k = .slice e) (he : c.ty e = ⟨kk, sz, by_, z⟩) (hk : kk.known = true) (hf : ZE ⟨t, ob⟩ sz 0 ps es) (hn : ps.length = n) (hm : Nat.ble (n * sz) 16777216 = true) (hm2 : Nat.ble n 16777216 = true) (hv : (⟨t, ob⟩ : FSt).ob d = ⟨v0, lf0, E0, sz0, es0⟩) (hd : Nat.blt d c.N = true) (hw : zT ops ⟨t, ob⟩ (⟨some d, .buildSlice T n ps.toArray, ty, pos, af, g⟩ : Oper) true)
  (k : zd c ops rest ⟨((d, (.own d (v0 + 1) 0 n)) :: t), ((d, ⟨v0 + 1, .full, e, sz, es⟩) :: ob)⟩ Q) : zd c ops ((⟨some d, .buildSlice T n ps.toArray, ty, pos, af, g⟩ : Oper) :: rest) ⟨t, ob⟩ Q := fun QQ w0 J a w β hQ hF => by
 unfold wpList
 rw [if_pos (hw.model hF)]
 refine .inl ?_
 subst hn
 obtain ⟨l1, l2, l3⟩ := hf.len
 have hfill := hf.fill [] (by simp)
 have := Vq (ty := ty) (pos := pos) (after := af) (g := g) hF d (n := ps.length) hT (by rw [he]; exact TK.known_ne hk) ps.toArray es l1 (by rw [he]; exact l2) l3 (by rw [he]; exact Nat.le_of_ble_eq_true hm) (Nat.le_of_ble_eq_true hm2) (by rw [he]; simpa [FSt.parts] using hfill)
 rw [ZC hv, he] at this
 exact this.wp (fun _ e => by injection e with e; subst e; exact Nat.le_of_ble_eq_true hd) fun a' w' β' hF' => k QQ w0 J a' w' β' hQ hF'
end
end Go.Proofs.Ytbeebjdnapkhhaa
