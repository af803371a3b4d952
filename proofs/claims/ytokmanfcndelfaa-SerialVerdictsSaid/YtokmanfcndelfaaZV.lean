/-
  A slice literal without room; a call that is lent such a slice and hands back what cannot lie in it.
-/
import Derived.Test.YtokmanfcndelfaaZFmW
namespace Go.Proofs.Ytokmanfcndelfaa
set_option linter.unusedVariables false
open Go.RowKit

def zjP (C : List FV) : FV → Bool
 | .int _ n => C.all fun q => match q with
  | .int _ m => decide (m ≠ n)
  | .bool _ => true
  | _ => false
 | _ => false
def FV.avo (C : List FV) : FV → Bool
 | .int _ _ | .bool _ | .str _ | .nil | .undef => true
 | .list _ es => es.flatten.all FV.flat && (es.isEmpty || es.flatten.any (zjP C))
 | .agg cs => avos cs
 | .tup cs => avos cs
 | _ => false
where avos : List FV → Bool
 | [] => true
 | f :: fs => f.avo C && avos fs
theorem FV.avos_get {C : List FV} : ∀ {fs : List FV}, FV.avo.avos C fs = true → ∀ (j : Nat) f, fs[j]? = some f → f.avo C = true
 | [], _, j, f, h => by simp at h
 | g :: fs, h, 0, f, hf => by simp only [FV.avo.avos, Bool.and_eq_true] at h; simp at hf; subst hf; exact h.1
 | g :: fs, h, j + 1, f, hf => by simp only [FV.avo.avos, Bool.and_eq_true] at h; simp at hf; exact FV.avos_get h.2 j f hf
theorem Rd.avoid {w w1 : World} {I F I' : Nat → Prop} {b0 : Nat} {cur : Array Value} {T : TypeId} {fr : Nat × Nat} {C : List FV} (hblk : w.heap[b0]? = some (.cells cur T fr)) (hC : RdL w1 I' cur.toList C) (hI : ∀ b, I b → b = b0 ∨ F b) {v : Value} {f : FV} (h : Rd w I v f) : f.avo C = true → Rd w F v f := by
 induction h with
 | undef v => exact fun _ => .undef v
 | int k n => exact fun _ => .int k n
 | bool b => exact fun _ => .bool b
 | str s => exact fun _ => .str s
 | nil => exact fun _ => .nil
 | list A n c sz es us hn hc he ho hA hl hr _ =>
  intro hv
  simp only [FV.avo, Bool.and_eq_true, Bool.or_eq_true] at hv
  obtain ⟨hfl, hany⟩ := hv
  refine Rd.list A n c sz es us hn hc he ho (fun hne => ?_) hl (fun j u f hu hf => (hr j u f hu hf).flat (List.all_eq_true.1 hfl _ (List.mem_of_getElem? hf)) _ _)
  obtain ⟨b, off, e, hb, hcell⟩ := hA hne
  refine ⟨b, off, e, ?_, hcell⟩
  rcases hI b hb with rfl | hF
  ·exfalso
   rcases hany with h0 | h1
   ·have : es = [] := by simpa using h0
    subst this
    exact hne (by simpa using hn.symm)
   ·obtain ⟨g, hg, hlone⟩ := List.any_eq_true.1 h1
    obtain ⟨j, hj, rfl⟩ := List.getElem_of_mem hg
    have hju : j < us.length := by omega
    have hrd := hr j us[j] es.flatten[j] (by simp [hju]) (by simp [hj])
    generalize es.flatten[j] = g at hlone hrd
    cases g with
    | int k n =>
     have hce := hcell j us[j] (by simp [hju])
     have hu : us[j] = .int k n := by
      generalize us[j] = u at hrd
      cases hrd; rfl
     rw [cell_of_row w b _ cur _ _ hblk, hu] at hce
     have hcl : off + j < cur.toList.length := by
      obtain ⟨q, _⟩ := Array.getElem?_eq_some_iff.1 hce
      simpa using q
     have hq := hC.2 (off + j) (.int k n) (C[off + j]'(by rw [← hC.1]; exact hcl)) (by simpa using hce) (by simp)
     have hall := List.all_eq_true.1 hlone _ (List.getElem_mem (l := C) (by rw [← hC.1]; exact hcl))
     generalize C[off + j]'(by rw [← hC.1]; exact hcl) = q at hq hall
     cases hq with
     | int => simp at hall
     | undef => simp at hall
    | _ => simp [zjP] at hlone
  ·exact hF
 | agg us fs hl _ ih => exact fun hv => Rd.agg us fs hl (fun j u f hu hf => ih j u f hu hf (FV.avos_get hv j f hf))
 | tup us fs hl _ ih => exact fun hv => Rd.tup us fs hl (fun j u f hu hf => ih j u f hu hf (FV.avos_get hv j f hf))
 | _ => intro hv; simp [FV.avo] at hv
section
variable {c : Ctx} {w0 w : World} {J : JJ} {s : FSt} {a : Act} {β : Nat → Option Nat} {dst : Option Nat} {ty : TypeId} {pos : String} {after : Array Edge} {g : Option (Nat × Bool)}
theorem UU (h : FR c.N w0 J s a w β) {o : Oper} (d E sz : Nat) (es : List (List FV)) (cur : Array Value) (hw : ∀ e ∈ es, e.length = sz) (ho : ∀ f ∈ es.flatten, f.one = true) (hr : RdL w (Imm J w β s) cur.toList es.flatten) (hm : es.length ≤ maxLen)
  (hrun : (execOp a.eval o).run c.P w = .ok (.value (.slice (some ⟨w.heap.size, 0, none⟩) es.length es.length)) (w.alloc (.cells cur E))) :
  xg c w0 J s a o w (.own d ((s.ob d).ver + 1) 0 es.length) [(d, ⟨(s.ob d).ver + 1, .full, E, sz, es⟩)] := by
 obtain ⟨v, w', β', hrun', hF, hV, hver⟩ := ZS h d E sz es cur hw ho hr hm hrun
 rw [hrun] at hrun'
 injection hrun' with q1 q2
 injection q1 with q1
 subst q1
 subst q2
 have hob : (s.wr [(d, ⟨(s.ob d).ver + 1, .own, E, sz, es⟩)]).ob d = ⟨(s.ob d).ver + 1, .own, E, sz, es⟩ := by show (FSt.set s d _).ob d = _; rw [FSt.ob_set, if_pos rfl]
 have hO := hV (by rw [hob]; exact fun q => by cases q) (by rw [hob])
 obtain ⟨A, cc, e1, e2, e3, e4, e5⟩ := hO.ex
 injection e1 with eA en ec
 subst ec
 rw [hob] at e5
 have hs : ∀ k, (s.wr [(d, ⟨(s.ob d).ver + 1, .full, E, sz, es⟩)]).ob k = if d = k then { (s.wr [(d, ⟨(s.ob d).ver + 1, .own, E, sz, es⟩)]).ob d with life := .full } else (s.wr [(d, ⟨(s.ob d).ver + 1, .own, E, sz, es⟩)]).ob k := fun k => by
  show (FSt.set s d _).ob k = if d = k then { (FSt.set s d _).ob d with life := .full } else (FSt.set s d _).ob k
  rw [FSt.ob_set, FSt.ob_set, FSt.ob_set]
  by_cases hk : d = k
  ·rw [if_pos hk, if_pos hk, if_pos rfl]
  ·rw [if_neg hk, if_neg hk, if_neg hk]
 have hF2 := hF.lives d .full (fun _ => by rw [hob]; rfl) (fun q => by rw [hob] at q; cases q) (fun _ => by rw [hob]; rfl) hs (fun _ => rfl) (fun _ hq => by
  have hrl : ((s.wr [(d, ⟨(s.ob d).ver + 1, .own, E, sz, es⟩)]).ob d).life.row = true := by rw [hob]; rfl
  have hR := hq.rowR hrl
  refine ObR.ofRow ⟨hR.wide, hR.one, hR.row⟩ ?_ rfl
  show ∀ b cur, _ → _ → _
  intro b cur' hb hc
  rw [hob] at hc ⊢
  obtain ⟨o', _, _, k3⟩ := e5 b hb
  have := k3 cur' hc
  simpa using this)
 refine ⟨_, _, _, hrun, hF2, fun _ _ => ?_, fun id ver e => ?_⟩
 ·rw [hs d, if_pos rfl]
  refine ⟨by rfl, ?_⟩
  have := hO.ex
  rw [hob] at this ⊢
  exact this
 ·have := hver id ver e
  rw [hs id]
  split
  ·rename_i hk; subst hk; exact this
  ·exact this
theorem WT (h : FR c.N w0 J s a w β) (d : Nat) {T e n : Nat} (hT : (c.ty T).k = .slice e) (he : (c.ty e).k ≠ .other) (ps : Array (Nat × Operand)) (es : List (List FV)) (hn : es.length = n) (hw : ∀ x ∈ es, x.length = (c.ty e).size) (ho : ∀ f ∈ es.flatten, f.one = true)
  (hcap : n * (c.ty e).size ≤ 16777216) (hnm : n ≤ 16777216)
  (hf : xZ (fun i => some (i * (c.ty e).size, (c.ty e).size)) (List.replicate (n * (c.ty e).size) .undef) (s.parts ps) = some es.flatten) :
  xg c w0 J s a ⟨some d, .buildSlice T n ps, ty, pos, after, g⟩ w (.own d ((s.ob d).ver + 1) 0 n) [(d, ⟨(s.ob d).ver + 1, .full, e, (c.ty e).size, es⟩)] := by
 obtain ⟨dd, i, z, ht⟩ := c.get hT (by simp)
 have hd := ht.k
 rw [hT] at hd
 obtain rfl := yt hd
 have hs := yF (c := c) he w
 obtain ⟨zz, hz, _, _⟩ := yR he w
 obtain ⟨A0, hA0⟩ : ∃ A0 : Array Value, (if n * (c.ty e).size = 0 then (Array.range (n * (c.ty e).size)).map (fun x => (#[] : Array Value)[x % (#[] : Array Value).size]!) else (Array.range (n * (c.ty e).size)).map (fun x => zz.cells[x % zz.cells.size]!)) = A0 := ⟨_, rfl⟩
 have hsz : A0.size = n * (c.ty e).size := by rw [← hA0]; split <;> simp
 have hu := RdL.undefs (w := w) (I := Imm J w β s) A0.toList
 rw [Array.length_toList, hsz] at hu
 obtain ⟨A', h1, h2⟩ := h.parts ps hu hf
 subst hn
 refine UU h d e (c.ty e).size es A' hw ho h2 (by unfold maxLen; omega) ?_
 have hcap' : ¬ (16777216 < es.length * (c.ty e).size) := by omega
 by_cases h0 : es.length * (c.ty e).size = 0
 ·rw [if_pos h0] at hA0
  simp [execOp, Instr.buildSlice, run_underlying ht.u, hs, h0, newRow] at hA0 h1 ⊢
  rw [hA0, h1]
  simp
 ·rw [if_neg h0] at hA0
  simp [execOp, Instr.buildSlice, run_underlying ht.u, hs, hcap', h0, hz, newRow, hA0] at h1 ⊢
  rw [h1]
  simp
end
section
variable {c : Ctx} {ops : Array Oper} {rest : List Oper} {t : List (Nat × FV)} {ob : List (Nat × zt)} {d : Nat} {ty : TypeId} {pos : String} {af : Array Edge} {g : Option (Nat × Bool)} {Q : FSt → Prop}
theorem zfl {T e n sz by_ : Nat} {kk : TK} {z : List FV} {es : List (List FV)} {ps : List (Nat × Operand)} {v0 E0 sz0 : Nat} {lf0 : yb} {es0 : List (List FV)} (hT : (c.ty T).k = .slice e) (he : c.ty e = ⟨kk, sz, by_, z⟩) (hk : kk.known = true) (hf : xJ ⟨t, ob⟩ sz 0 ps es) (hn : ps.length = n) (hm : Nat.ble (n * sz) 16777216 = true) (hm2 : Nat.ble n 16777216 = true) (hv : (⟨t, ob⟩ : FSt).ob d = ⟨v0, lf0, E0, sz0, es0⟩) (hd : Nat.blt d c.N = true) (hw : zQ ops ⟨t, ob⟩ (⟨some d, .buildSlice T n ps.toArray, ty, pos, af, g⟩ : Oper) true)
  (k : zd c ops rest ⟨((d, (.own d (v0 + 1) 0 n)) :: t), ((d, ⟨v0 + 1, .full, e, sz, es⟩) :: ob)⟩ Q) : zd c ops ((⟨some d, .buildSlice T n ps.toArray, ty, pos, af, g⟩ : Oper) :: rest) ⟨t, ob⟩ Q := fun QQ w0 J a w β hQ hF => by
 unfold wpList
 rw [if_pos (hw.model hF)]
 refine .inl ?_
 subst hn
 obtain ⟨l1, l2, l3⟩ := hf.len
 have hfill := hf.fill [] (by simp)
 have := WT (ty := ty) (pos := pos) (after := af) (g := g) hF d (n := ps.length) hT (by rw [he]; exact TK.known_ne hk) ps.toArray es l1 (by rw [he]; exact l2) l3 (by rw [he]; exact Nat.le_of_ble_eq_true hm) (Nat.le_of_ble_eq_true hm2) (by rw [he]; simpa [FSt.parts] using hfill)
 rw [xE hv, he] at this
 exact this.wp (fun _ e => by injection e with e; subst e; exact Nat.le_of_ble_eq_true hd) fun a' w' β' hF' => k QQ w0 J a' w' β' hQ hF'
theorem zg0 {f id ver E sz n : Nat} {x y : Operand} {q : Bool} {es : List (List FV)} {res : FV} {ts : Array TypeId} (hs : yc c.P f [.list sz es, .bool q] .sh res) (hx : (⟨t, ob⟩ : FSt).ev x = .own id ver 0 n) (hy : (⟨t, ob⟩ : FSt).ev y = .bool q) (hb : (⟨t, ob⟩ : FSt).ob id = ⟨ver, .full, E, sz, es⟩) (hn : n = es.length) (hfl : es.flatten.all FV.flat = true) (hav : res.avo es.flatten = true) (hd : Nat.blt d c.N = true)
  (hw : zQ ops ⟨t, ob⟩ (⟨some d, .call { callee := .value (.func f), args := #[x, y], argTypes := ts }, ty, pos, af, g⟩ : Oper) true)
  (k : zd c ops rest ⟨(d, res) :: t, (id, ⟨ver, .own, E, sz, es⟩) :: ob⟩ Q) : zd c ops ((⟨some d, .call { callee := .value (.func f), args := #[x, y], argTypes := ts }, ty, pos, af, g⟩ : Oper) :: rest) ⟨t, ob⟩ Q := fun QQ w0 J a w β hQ hF => by
 unfold wpList
 rw [if_pos (hw.model hF)]
 refine .inl ?_
 subst hn
 have hl : ((⟨t, ob⟩ : FSt).ob id).life ≠ .dead := by rw [hb]; exact fun q => by cases q
 have hrl : ((⟨t, ob⟩ : FSt).ob id).life.row = true := by rw [hb]; rfl
 have hwd := ((hF.obj id hl).rowR hrl).wide
 have hone := ((hF.obj id hl).rowR hrl).one
 have hroom := (hF.obj id hl).roomR hrl
 obtain ⟨A, cc, e1, e2, e3, e4, e5⟩ := (hF.ev_own hx hl (by rw [hb])).ex
 have hey := hF.ev_bool hy
 rw [hb] at hwd hone e5 hroom
 obtain ⟨I, hI, hrd, hout⟩ : ∃ I : Nat → Prop, (∀ b, I b → b < w.heap.size) ∧ Rd w I (a.eval x) (.list sz es) ∧ ∀ w' v, Below w.heap.size w w' → Rd w' (fun b => I b ∨ (w.heap.size ≤ b ∧ b < w'.heap.size)) v res → Rd w' (fun b => w.heap.size ≤ b ∧ b < w'.heap.size) v res := by
  rw [e1]
  cases hbd : β id with
  | none =>
   obtain ⟨rfl, rfl⟩ := e4 hbd
   have hn0 : es.length = 0 := by omega
   have hnil : es = [] := List.eq_nil_of_length_eq_zero hn0
   refine ⟨fun _ => False, fun _ h => h.elim, ?_, fun w' v _ h => h.mono fun b hb' => ⟨hb'.resolve_left (fun q => q), rfl⟩⟩
   rw [hnil]
   exact Rd.list none 0 0 sz [] [] rfl (Nat.le_refl _) (by simp) (by simp) (fun q => absurd rfl q) rfl (fun j u f hu => by simp at hu)
  | some b0 =>
   obtain ⟨cur, cap, hblk, hnc, hm2, hcs, hr, hrow⟩ := hF.block hl hrl hbd
   obtain ⟨o', rfl, k2, k3⟩ := e5 b0 hbd
   have ho' : o' = 0 := by have := k2 (.inr rfl); rw [Nat.zero_mul] at this; exact this
   subst ho'
   rw [hb] at hblk hcs hr hrow hnc
   have hcur : cur.size = es.length * sz := hroom b0 cur hbd hblk
   have hall : cur.toList.take (es.length * sz) = cur.toList := List.take_of_length_le (by simp [hcur])
   dsimp only at hr
   rw [hall] at hr
   have hb0 : b0 < w.heap.size := ((hF.obj id hl).lt hbd).2
   refine ⟨fun b => b = b0, fun b e => e ▸ hb0, ?_, fun w' v hbel h => ?_⟩
   ·refine Rd.list (some ⟨b0, 0, none⟩) _ cc _ _ cur.toList rfl e2 hwd hone (fun _ => ⟨b0, 0, rfl, rfl, fun j u hu => ?_⟩) hr.1 (fun j u f hu hf => (hr.2 j u f hu hf).flat (List.all_eq_true.1 hfl _ (List.mem_of_getElem? hf)) _ _)
    rw [cell_of_row w b0 _ cur _ (0, 0) hblk]
    simpa using hu
   ·have hblk' : w'.heap[b0]? = some (.cells cur E (0, 0)) := by rw [hbel.block b0 hb0]; exact hblk
    exact Rd.avoid hblk' hr (fun b hb' => hb') h hav
 have hc := hs.calls w I [a.eval x, a.eval y] hI ⟨rfl, fun j u g hu hg => by
  match j, hu, hg with
  | 0, hu, hg => simp at hu hg; subst hu; subst hg; exact hrd
  | 1, hu, hg => simp at hu hg; subst hu; subst hg; rw [hey]; exact .bool q
  | j + 2, hu, hg => simp at hu⟩
 unfold Oper.wp
 have hrun : ∀ xs : Array Operand, (execOp a.eval ⟨some d, .call { callee := .value (.func f), args := xs, argTypes := ts }, ty, pos, af, g⟩).run c.P w = .ok (.enter f (xs.map a.eval)) w := fun xs => by
  have := xo (P := c.P) hs.go (xs.map a.eval) w
  simp [execOp, resolve, Act.eval, Deferred.ofValue, invoke, this]
 have hmap : #[x, y].map a.eval = #[a.eval x, a.eval y] := by simp
 rw [hrun, Oper.upon_enter, hmap]
 refine hc.mono ?_
 rintro e w' ⟨v, rfl, hbel, hr⟩
 have hfr := hout w' v hbel hr
 have hG := hF.grow hbel
 have hG2 : FR c.N w0 J ⟨t, (id, ⟨ver, .own, E, sz, es⟩) :: ob⟩ a w' β := hG.lives id .own (fun _ => by rw [hb]; rfl) (fun q => by rw [hb] at q; cases q) (fun _ => by rw [hb]; rfl) (fun k => by
   have := FSt.ob_set ⟨t, ob⟩ id ⟨ver, .own, E, sz, es⟩ k
   rw [hb]
   exact this) (fun _ => rfl) (fun _ hq => by
  have hR := hq.rowR hrl
  exact ObR.ofRow ⟨hR.wide, hR.one, hR.row⟩ (Yg.own rfl) rfl)
 have hrd2 : Rd w' (Imm J w' β ⟨t, (id, ⟨ver, .own, E, sz, es⟩) :: ob⟩) v res := hfr.mono fun b hb' => ⟨⟨hb'.2, hF.fresh b (Nat.le_trans hF.bel.size hb'.1) (.inl hb'.1), fun i hm e => by
  have := ((hG2.obj i (yb.mine_ne hm)).lt e).2
  have hold : ((⟨t, ob⟩ : FSt).ob i).life ≠ .dead := by
   by_cases hi : id = i
   ·subst hi; exact hl
   ·have h2 := FSt.ob_set ⟨t, ob⟩ id ⟨ver, .own, E, sz, es⟩ i
    rw [if_neg hi] at h2
    have hm' := yb.mine_ne hm
    intro h3
    exact hm' (by rw [show (⟨t, (id, ⟨ver, .own, E, sz, es⟩) :: ob⟩ : FSt).ob i = (⟨t, ob⟩ : FSt).ob i from h2]; exact h3)
  have := ((hF.obj i hold).lt e).2
  omega⟩, rfl⟩
 have hP := hG2.put (Nat.le_of_ble_eq_true hd) (VR.of_rd hrd2 hs.hand) (fun id ver e => (FV.no_hands hs.hand e).elim)
 exact k QQ w0 J _ _ _ hQ hP
end
end Go.Proofs.Ytokmanfcndelfaa
