/-
  Some texts as one: FmDeep1, FmRowH, FmRowD.
-/
import Derived.Test.YtokmanfcndelfaaZJ
import Derived.Test.YtokmanfcndelfaaZV
/-
 A struct that holds an own row: the row is shut, and the struct holds a list.
-/
namespace Go.Proofs.Ytokmanfcndelfaa
set_option linter.unusedVariables false
open Go.RowKit

theorem FLe.deep1 {t : List (Nat × FV)} {ob : List (Nat × zt)} (id k p : Nat) {w q E2 E sz v : Nat} {r : List FV} {es : List (List FV)} (hid : id ≠ k) (hq : r.length = q) (h : look {} ob id = ⟨w, .hrow, E2, q, [r]⟩) (hp : r[p]? = some (.own k v 0 es.length)) (hone : ∀ i f, r[i]? = some f → i ≠ p → f.one = true)
  (hf : look {} ob k = ⟨v, .own, E, sz, es⟩) : FLe ⟨t, ob⟩ ⟨t, (id, ⟨w, .own, E2, q, [r.set p (.list sz es)]⟩) :: (k, ⟨v, .dead, E, sz, es⟩) :: ob⟩ := by
 intro N w0 J a wd β hF
 refine ⟨β, ?_⟩
 have ho : (⟨t, ob⟩ : FSt).ob id = ⟨w, .hrow, E2, q, [r]⟩ := h
 have hok : (⟨t, ob⟩ : FSt).ob k = ⟨v, .own, E, sz, es⟩ := hf
 have hlive : ((⟨t, ob⟩ : FSt).ob id).life ≠ .dead := by rw [ho]; exact (by decide : yb.hrow ≠ .dead)
 have hlk : ((⟨t, ob⟩ : FSt).ob k).life ≠ .dead := by rw [hok]; exact (by decide : yb.own ≠ .dead)
 obtain ⟨s', hs'⟩ : ∃ s' : FSt, s' = ⟨t, (id, ⟨w, .own, E2, q, [r.set p (.list sz es)]⟩) :: (k, ⟨v, .dead, E, sz, es⟩) :: ob⟩ := ⟨_, rfl⟩
 rw [← hs']
 have hob : ∀ i, s'.ob i = if id = i then ⟨w, .own, E2, q, [r.set p (.list sz es)]⟩ else if k = i then ⟨v, .dead, E, sz, es⟩ else (⟨t, ob⟩ : FSt).ob i := fun i => by
  rw [hs']
  show look ({} : zt) _ i = _
  rw [zC, zC]
  split
  ·rfl
  ·split <;> rfl
 have hsub : ∀ i, (s'.ob i).life ≠ .dead → ((⟨t, ob⟩ : FSt).ob i).life ≠ .dead := fun i hl => by
  rw [hob] at hl
  split at hl
  ·rename_i e; subst e; exact hlive
  ·split at hl
   ·exact absurd rfl hl
   ·exact hl
 have hmine : ∀ i, (s'.ob i).life.mine = true → ((⟨t, ob⟩ : FSt).ob i).life.mine = true := fun i hl => by
  rw [hob] at hl
  split at hl
  ·rename_i e; subst e; rw [ho]; rfl
  ·split at hl
   ·cases hl
   ·exact hl
 have hI : ∀ b, Imm J wd β ⟨t, ob⟩ b → Imm J wd β s' b := fun b hb => ⟨hb.1, hb.2.1, fun i hl => hb.2.2 i (hmine i hl)⟩
 have hver : ∀ i, (s'.ob i).ver = ((⟨t, ob⟩ : FSt).ob i).ver := fun i => by
  rw [hob]
  split
  ·rename_i e; subst e; rw [ho]
  ·split
   ·rename_i e; subst e; rw [hok]
   ·rfl
 refine hF.step (C := fun i => i = id ∨ i = k) hF.size hF.defers hF.bel (fun b hb => ⟨hI b hb, rfl⟩) (fun i => .inl ⟨rfl, by rw [hs']; rfl⟩) (fun i hC => ?_) (fun i _ => Nat.le_of_eq (hver i).symm) (fun i hC hl _ => ?_) (fun i hC hl T => ?_) (fun i i' b hl hl' e e' => hF.inj i i' b (hsub i hl) (hsub i' hl') e e') (fun b _ hn => ⟨rfl, fun i hl => hn i (hsub i hl)⟩)
 ·refine ⟨?_, rfl, fun _ _ _ => rfl⟩
  rw [hob, if_neg (fun e => hC (.inl e.symm)), if_neg (fun e => hC (.inr e.symm))]
 ·rcases hC with rfl | rfl
  ·refine ⟨hlive, rfl, by rw [hob, if_pos rfl, ho], by rw [hob, if_pos rfl, ho]; rfl, fun v o m hv => ?_⟩
   rw [ho] at hv
   obtain ⟨A, c, k1, k2, k3, k4, k5⟩ := hv.ex
   rw [hob, if_pos rfl]
   exact ⟨rfl, A, c, k1, k2, by simpa using k3, k4, k5⟩
  ·exfalso
   rw [hob, if_neg hid, if_pos rfl] at hl
   exact hl rfl
 ·rcases hC with rfl | rfl
  ·rw [hob, if_pos rfl]
   have hH := (hF.obj i hlive).rowH (by rw [ho]; rfl) (by rw [ho]; rfl)
   rw [ho] at hH
   obtain ⟨v1, us, r1, r2, r3, r4⟩ := hH.row
   dsimp only at r1 r3 r4
   rw [show ([r] : List (List FV)).flatten = r by simp] at r3 r4
   refine .ofRow ⟨fun e he => ?_, fun f hf' => ?_, v1, us, ?_, r2, ?_, fun j u f hu hff => ?_⟩ (.own rfl) rfl
   ·rw [List.mem_singleton.1 he, List.length_set]; exact hq
   ·dsimp only at hf'
    rw [show ([r.set p (.list sz es)] : List (List FV)).flatten = r.set p (.list sz es) by simp] at hf'
    obtain ⟨j, hj, rfl⟩ := List.getElem_of_mem hf'
    rw [List.length_set] at hj
    rw [List.getElem_set]
    split
    ·rfl
    ·rename_i hne
     exact hone j _ (by simp [hj]) fun e => hne e.symm
   ·exact r1
   ·dsimp only
    rw [show ([r.set p (.list sz es)] : List (List FV)).flatten = r.set p (.list sz es) by simp, List.length_set]
    exact r3
   ·dsimp only at hff
    rw [show ([r.set p (.list sz es)] : List (List FV)).flatten = r.set p (.list sz es) by simp, List.getElem?_set] at hff
    by_cases hjp : p = j
    ·subst hjp
     rw [if_pos rfl] at hff
     have hpl : p < r.length := (List.getElem?_eq_some_iff.1 hp).1
     rw [if_pos hpl] at hff
     injection hff with hff
     subst hff
     have hv := r4 p u _ hu hp
     have hov := hv hlk (by rw [hok])
     have hO := hF.obj k hlk
     have hrr := hO.rowR (by rw [hok]; rfl)
     have := zcp (I' := Imm J wd β s') hov hrr (fun b hb => ?_) hI
     ·rw [hok] at this
      dsimp only at this
      rwa [List.drop_zero, List.take_length] at this
     ·have hlt := hO.lt hb
      refine ⟨hlt.2, hF.fresh b hlt.1 (.inr ⟨_, hlk, hb⟩), fun k' hl' e => ?_⟩
      have := hF.inj k k' b hlk (hsub k' (yb.mine_ne hl')) hb e
      subst this
      rw [hob, if_neg hid, if_pos rfl] at hl'
      cases hl'
    ·rw [if_neg hjp] at hff
     have hv := r4 j u f hu hff
     have h1 := hone j f hff fun e => hjp e.symm
     have hn : f.hand = none := by cases f <;> first | rfl | (simp [FV.one] at h1)
     exact (VR.rd hv hn).mono fun b hb => ⟨hI b hb, rfl⟩
  ·exfalso
   rw [hob, if_neg hid, if_pos rfl] at hl
   exact hl rfl
theorem FLe.deep1B {t : List (Nat × FV)} {ob : List (Nat × zt)} (id k p : Nat) {w q E2 E sz v : Nat} {r : List FV} {es : List (List FV)} (hid : id ≠ k) (hq : r.length = q) (h : look {} ob id = ⟨w, .hrow, E2, q, [r]⟩) (hp : r[p]? = some (.own k v 0 es.length)) (hone : (r.set p (.bool true)).all FV.one = true)
  (hf : look {} ob k = ⟨v, .own, E, sz, es⟩) : FLe ⟨t, ob⟩ ⟨t, (id, ⟨w, .own, E2, q, [r.set p (.list sz es)]⟩) :: (k, ⟨v, .dead, E, sz, es⟩) :: ob⟩ :=
 FLe.deep1 id k p hid hq h hp (fun i f hi hne => List.all_eq_true.1 hone f (List.mem_of_getElem? (i := i) (by rw [List.getElem?_set_ne (fun e => hne e.symm)]; exact hi))) hf
theorem FLe.deep1C {t : List (Nat × FV)} {ob : List (Nat × zt)} (id k p : Nat) {w q E2 E sz v : Nat} {r r2 : List FV} {es : List (List FV)} (hid : id ≠ k) (hq : r.length = q) (h : look {} ob id = ⟨w, .hrow, E2, q, [r]⟩) (hp : r[p]? = some (.own k v 0 es.length)) (hone : (r.set p (.bool true)).all FV.one = true)
  (hf : look {} ob k = ⟨v, .own, E, sz, es⟩) (h2 : r.set p (.list sz es) = r2) : FLe ⟨t, ob⟩ ⟨t, (id, ⟨w, .own, E2, q, [r2]⟩) :: (k, ⟨v, .dead, E, sz, es⟩) :: ob⟩ := by
 subst h2
 exact FLe.deep1B id k p hid hq h hp hone hf
end Go.Proofs.Ytokmanfcndelfaa
/-
 Rows whose cells may hold handles, with more cells than one; literals that hold handles. (RunN alone: regions in the text's order.)
-/
namespace Go.Proofs.Ytokmanfcndelfaa
set_option linter.unusedVariables false
open Go.RowKit

theorem zbQ {α : Type} {sz : Nat} : ∀ (es : List (List α)), (∀ e ∈ es, e.length = sz) → ∀ (j o : Nat) row f, es[j]? = some row → row[o]? = some f → es.flatten[j * sz + o]? = some f
 | [], _, j, o, row, f, h, _ => by simp at h
 | e :: es, he, 0, o, row, f, h, hf => by
  simp at h; subst h
  have := (List.getElem?_eq_some_iff.1 hf).1
  rw [Nat.zero_mul, Nat.zero_add, List.flatten_cons, List.getElem?_append_left this]; exact hf
 | e :: es, he, j + 1, o, row, f, h, hf => by
  have h1 := he e (by simp)
  have := zbQ es (fun q hq => he q (by simp [hq])) j o row f (by simpa using h) hf
  rw [List.flatten_cons, List.getElem?_append_right (by rw [h1, Nat.add_mul]; omega), h1, show (j + 1) * sz + o - sz = j * sz + o by rw [Nat.add_mul]; omega]
  exact this
theorem zbR {α : Type} {sz : Nat} : ∀ (es : List (List α)), (∀ e ∈ es, e.length = sz) → ∀ (j o : Nat) row f, es[j]? = some row → o < row.length → (es.set j (row.set o f)).flatten = es.flatten.set (j * sz + o) f
 | [], _, j, o, row, f, h, _ => by simp at h
 | e :: es, he, 0, o, row, f, h, ho => by
  simp at h; subst h
  rw [List.set_cons_zero, List.flatten_cons, List.flatten_cons, Nat.zero_mul, Nat.zero_add, List.set_append_left _ _ ho]
 | e :: es, he, j + 1, o, row, f, h, ho => by
  have h1 := he e (by simp)
  have := zbR es (fun q hq => he q (by simp [hq])) j o row f (by simpa using h) ho
  rw [List.set_cons_succ, List.flatten_cons, List.flatten_cons, this, List.set_append_right _ _ (by rw [h1, Nat.add_mul]; omega), h1, show (j + 1) * sz + o - sz = j * sz + o by rw [Nat.add_mul]; omega]
section
variable {c : Ctx} {w0 w : World} {J : JJ} {s : FSt} {a : Act} {β : Nat → Option Nat} {dst : Option Nat} {ty : TypeId} {pos : String} {after : Array Edge} {g : Option (Nat × Bool)}
theorem zdc (h : FR c.N w0 J s a w β) {T : Nat} (hk : (c.ty T).k.agg? = some false) (x : Operand) {id ver j o : Nat} (ex : s.ev x = .ptr id ver j o) (hlf : (s.ob id).life = .hrow) (hver : (s.ob id).ver = ver) {row : List FV} {f : FV} (hj : (s.ob id).es[j]? = some row) (ho : row[o]? = some f) :
  xg c w0 J s a ⟨dst, .load T x, ty, pos, after, g⟩ w f [] := by
 have hlive : (s.ob id).life ≠ .dead := by rw [hlf]; decide
 obtain ⟨_, b, hb, hv⟩ := h.ev_ptr ex hlive hver
 obtain ⟨cur, cap, hblk, hn, hm, hcs, hl, hr⟩ := h.blockH hlf hb
 have hH := (h.obj id hlive).rowH (by rw [hlf]; rfl) (by rw [hlf]; rfl)
 have hw := hH.wide
 have hjl := (List.getElem?_eq_some_iff.1 hj).1
 have hjf := zbQ _ hw j o row f hj ho
 obtain ⟨p, hp⟩ : ∃ p, j * (s.ob id).sz + o = p := ⟨_, rfl⟩
 rw [hp] at hjf hv
 have hpf : p < (s.ob id).es.length * (s.ob id).sz := by have := (List.getElem?_eq_some_iff.1 hjf).1; rwa [xk hw] at this
 have hpc : p < cur.size := by
  have : (s.ob id).es.length * (s.ob id).sz ≤ cap * (s.ob id).sz := Nat.mul_le_mul_right _ hn
  omega
 have hu : (cur.toList.take ((s.ob id).es.length * (s.ob id).sz))[p]? = some cur[p] := by
  rw [List.getElem?_take, if_pos hpf]; simp [hpc]
 have hcell : w.cell? ⟨b, p, none⟩ = some cur[p] := by
  have := cell_of_row w b p cur (s.ob id).E (0, 0) hblk
  rw [this]; simp [hpc]
 refine .pure h (v := cur[p]) ?_ (hr p _ f hu hjf) (fun id' ver' e => hH.vers f (List.mem_of_getElem? hjf) id' ver' e)
 have : (loadVar T ⟨b, p, none⟩).run c.P w = .ok cur[p] w := by simp [loadVar, Yw hk, load, Sem.run, hcell]
 simp [execOp, Instr.loadAt, hv, Instr.sureAddr, this]
theorem WK (h : FR c.N w0 J s a w β) {T : Nat} (hk : (c.ty T).k ≠ .other) (hz : (c.ty T).size = 1) (x y : Operand) {id ver j o : Nat} (ex : s.ev x = .ptr id ver j o) (hlf : (s.ob id).life = .hrow) (hver : (s.ob id).ver = ver) {rw_ : List FV} {f : FV} (ey : s.ev y = f)
  (hf : Xh s f) (hj : (s.ob id).es[j]? = some rw_) (ho : o < rw_.length) :
  ∃ w', (execOp a.eval ⟨dst, .store T x y, ty, pos, after, g⟩).run c.P w = .ok .skip w' ∧ FR c.N w0 J (s.wr [(id, { s.ob id with es := (s.ob id).es.set j (rw_.set o f) })]) a w' β := by
 have hlive : (s.ob id).life ≠ .dead := by rw [hlf]; decide
 obtain ⟨_, b, hb, hvx⟩ := h.ev_ptr ex hlive hver
 obtain ⟨cur, cap, hblk, hn, hm, hcs, hl, hr⟩ := h.blockH hlf hb
 have hH := (h.obj id hlive).rowH (by rw [hlf]; rfl) (by rw [hlf]; rfl)
 have hw := hH.wide
 obtain ⟨hc1, hc2⟩ := Xh.val h ey hf
 have hvr := h.ev y
 have hvv : ∀ id' ver', (id', ver') ∈ f.hands → ver' ≤ (s.ob id').ver := fun id' ver' e => h.evers y (by rw [ey]; exact e)
 rw [ey] at hvr
 generalize hy : a.eval y = v at hc1 hc2 hvr
 obtain ⟨p, hp⟩ : ∃ p, j * (s.ob id).sz + o = p := ⟨_, rfl⟩
 have hjl := (List.getElem?_eq_some_iff.1 hj).1
 have hrl : rw_.length = (s.ob id).sz := hw _ (List.mem_of_getElem? hj)
 have hpl : p < (s.ob id).es.length * (s.ob id).sz := by
  have : (j + 1) * (s.ob id).sz ≤ (s.ob id).es.length * (s.ob id).sz := Nat.mul_le_mul_right _ hjl
  rw [Nat.add_mul, Nat.one_mul] at this
  omega
 have hpc : p < cur.size := by
  have : (s.ob id).es.length * (s.ob id).sz ≤ cap * (s.ob id).sz := Nat.mul_le_mul_right _ hn
  omega
 rw [hp] at hvx
 have hst := run_storeCells_at c.P b p (s.ob id).E [v] 0 cur w hblk (by simp; omega) (by simpa using hc2)
 simp only [Nat.add_zero] at hst
 have hjc : p < cur.toList.length := by simp; omega
 obtain ⟨W, hW⟩ : ∃ W, W = w.setRow b (splice cur.toList p [v]).toArray := ⟨_, rfl⟩
 have hWb : W.heap[b]? = some (.cells (cur.toList.set p v).toArray (s.ob id).E (0, 0)) := by rw [hW, zaL v hjc]; exact yE w b _ cur _ hblk
 have hg : w.grownBy W (some b) := by
  subst hW
  exact ⟨rfl, rfl, rfl, by simp [World.setRow], fun k hk hne => yV w b k _ (fun e => hne (by rw [e]))⟩
 have hlt := (h.obj id hlive).lt hb
 refine ⟨W, ?_, ?_⟩
 ·have hs := yF (c := c) hk w
  have hst' : (storeCells ⟨b, p, none⟩ [v]).run c.P w = .ok () W := by rw [hW]; exact hst
  simp [execOp, Instr.storeAt, storeVar, hvx, hy, Instr.sureAddr, hs, hz, hc1, hst']
 ·have hob : ∀ k, (s.wr [(id, { s.ob id with es := (s.ob id).es.set j (rw_.set o f) })]).ob k = if id = k then { s.ob id with es := (s.ob id).es.set j (rw_.set o f) } else s.ob k := fun k => FSt.ob_set s id _ k
  have hI : ∀ b', Imm J w β s b' → Imm J W β (s.wr [(id, { s.ob id with es := (s.ob id).es.set j (rw_.set o f) })]) b' ∧ W.heap[b']? = w.heap[b']? := fun b' hbb => by
   refine ⟨⟨Nat.lt_of_lt_of_le hbb.1 hg.size, hbb.2.1, fun id' hl' => ?_⟩, hg.block b' hbb.1 (fun e => hbb.2.2 id (by rw [hlf]; rfl) (by rw [hb]; exact e.symm))⟩
   rw [hob] at hl'
   split at hl'
   ·rename_i e; subst e; exact hbb.2.2 id (by rw [hlf]; rfl)
   ·exact hbb.2.2 id' hl'
  refine h.step (C := fun k => k = id) h.size h.defers (h.bel.grown hg h.bel.size (fun k hk => by injection hk with hk; subst hk; exact hlt.1)) hI (fun k => .inl ⟨rfl, rfl⟩) (fun k hC => ?_) (fun k hC => ?_) (fun k hC hl2 hvv2 => ?_) (fun k hC hl2 T' => ?_) ?_ (fun b' hlt' hn => ⟨hg.block b' hlt' (fun e => hn id hlive (by rw [hb]; exact e.symm)), fun k hl2 => hn k (by rw [hob] at hl2; split at hl2; (· rename_i e; subst e; exact hlive); (· exact hl2))⟩)
  ·refine ⟨by rw [hob, if_neg (fun e => hC e.symm)], rfl, fun hl2 b' hbb => hg.block b' ((h.obj k hl2).lt hbb).2 (fun e => hC (h.inj k id b' hl2 hlive hbb (by rw [hb]; exact e.symm)))⟩
  ·subst hC; rw [hob, if_pos rfl]; exact Nat.le_refl _
  ·subst hC
   refine ⟨hlive, rfl, by rw [hob, if_pos rfl], by rw [hob, if_pos rfl], fun v2 o n hv2 => ?_⟩
   rw [hob, if_pos rfl]
   obtain ⟨A, cc, q1, q2, q3, q4, q5⟩ := hv2.ex
   refine ⟨hv2.row, A, cc, q1, q2, by simpa using q3, q4, fun b2 hbb => ?_⟩
   obtain ⟨o', k1, k2, k3⟩ := q5 b2 hbb
   refine ⟨o', k1, k2, fun cur' hc' => ?_⟩
   rw [hb] at hbb
   injection hbb with hbb
   subst hbb
   dsimp only at hc'
   rw [hWb] at hc'
   injection hc' with hc'
   injection hc' with hc' _ _
   rw [← hc']
   have := k3 cur hblk
   simpa using this
  ·subst hC
   rw [hob, if_pos rfl]
   have hvers : ∀ id', (s.ob id').ver ≤ ((s.wr [(k, { s.ob k with es := (s.ob k).es.set j (rw_.set o f) })]).ob id').ver := fun id' => by
    rw [hob]; split
    ·rename_i e; subst e; exact Nat.le_refl _
    ·exact Nat.le_refl _
   have hfl := zbR _ hw j o rw_ f hj ho
   rw [hp] at hfl
   have hfll : (s.ob k).es.flatten.length = (s.ob k).es.length * (s.ob k).sz := xk hw
   refine .ofH ⟨fun e he => ?_, fun f' hf' id' ver' e => ?_, .slice (some ⟨b, 0, none⟩) (s.ob k).es.length cap, (cur.toList.take ((s.ob k).es.length * (s.ob k).sz)).set p v, ?_, by rw [hb]; rfl, ?_, fun i u f' hu hf' => ?_⟩ hlf
   ·rcases List.mem_or_eq_of_mem_set he with h' | h'
    ·exact hw e h'
    ·subst h'; rw [List.length_set]; exact hrl
   ·dsimp only at hf'
    rw [hfl] at hf'
    refine Nat.le_trans ?_ (hvers id')
    rcases List.mem_or_eq_of_mem_set hf' with h' | h'
    ·exact hH.vers f' h' id' ver' e
    ·subst h'; exact hvv id' ver' e
   ·simp only [List.length_set]
    refine ⟨by rw [List.length_set, hl, hfll], .inr ⟨b, cap, _, rfl, hlt.1, hWb, hn, hm, by simpa using hcs, ?_⟩⟩
    simp only [List.take_set]
   ·dsimp only
    rw [List.length_set, hl, hfl, List.length_set]
   ·dsimp only at hf'
    rw [hfl] at hf'
    rw [List.getElem?_set] at hu hf'
    by_cases hij : p = i
    ·subst hij
     rw [if_pos rfl] at hu hf'
     split at hu
     ·split at hf'
      ·injection hu with hu
       injection hf' with hf'
       subst hu
       subst hf'
       exact T' _ _ hvr hvv
      ·cases hf'
     ·cases hu
    ·rw [if_neg hij] at hu hf'
     exact T' _ _ (hr i u f' hu hf') (hH.vers f' (List.mem_of_getElem? hf'))
  ·intro k k' b' hl2 hl2' e e'
   refine h.inj k k' b' ?_ ?_ e e'
   ·rw [hob] at hl2; split at hl2
    ·rename_i e; subst e; exact hlive
    ·exact hl2
   ·rw [hob] at hl2'; split at hl2'
    ·rename_i e; subst e; exact hlive
    ·exact hl2'
theorem Xh.one {I : Nat → Prop} {v : Value} {f : FV} (hv : VR w I β s v f) (hf : Xh s f) : v.cells = #[v] ∧ v.oneCell' = true := by
 rcases hf with h1 | ⟨id, ver, o, n, rfl, hl⟩ | ⟨id, ver, j, o, rfl, hl⟩ | ⟨k, fs, rfl⟩
 ·have hn : f.hand = none := by cases f <;> first | rfl | (simp [FV.one] at h1)
  have hr := VR.rd hv hn
  cases hr <;> first | exact ⟨rfl, rfl⟩ | (simp [FV.one] at h1)
 ·obtain ⟨A, cc, e, _⟩ := (hv hl.1 hl.2).ex
  rw [e]
  exact ⟨rfl, rfl⟩
 ·obtain ⟨_, b, _, e⟩ := hv hl.1 hl.2
  rw [e]
  exact ⟨rfl, rfl⟩
 ·obtain ⟨us, e, _⟩ := hv
  rw [e]
  exact ⟨rfl, rfl⟩
end
section
variable {c : Ctx} {ops : Array Oper} {rest : List Oper} {t : List (Nat × FV)} {ob : List (Nat × zt)} {d : Nat} {ty : TypeId} {pos : String} {af : Array Edge} {gd : Option (Nat × Bool)} {QS : FSt → Prop}
theorem zfu {T id ver j o E sz : Nat} {x y : Operand} {es : List (List FV)} {row : List FV} {f : FV} (hx : (⟨t, ob⟩ : FSt).ev x = .ptr id ver j o) (hy : (⟨t, ob⟩ : FSt).ev y = f) (hf : Xh ⟨t, ob⟩ f) (hk : (c.ty T).k.known = true) (hz : (c.ty T).size = 1) (hb : (⟨t, ob⟩ : FSt).ob id = ⟨ver, .hrow, E, sz, es⟩) (hj : es[j]? = some row) (ho : o < row.length) (hw : zQ ops ⟨t, ob⟩ (⟨none, .store T x y, ty, pos, af, gd⟩ : Oper) true)
  (k : zd c ops rest ⟨t, (id, ⟨ver, .hrow, E, sz, es.set j (row.set o f)⟩) :: ob⟩ QS) : zd c ops ((⟨none, .store T x y, ty, pos, af, gd⟩ : Oper) :: rest) ⟨t, ob⟩ QS := fun QQ w0 J a w β hQ hF => by
 unfold wpList
 rw [if_pos (hw.model hF)]
 refine .inl ?_
 obtain ⟨W, h2, h3⟩ := WK (ty := ty) (pos := pos) (after := af) (g := gd) (dst := none) hF (TK.known_ne hk) hz x y hx (by rw [hb]) (by rw [hb]) hy hf (by rw [hb]; exact hj) ho
 unfold Oper.wp
 rw [h2, Oper.upon_skip]
 rw [hb] at h3
 exact k QQ w0 J _ W β hQ h3
end
end Go.Proofs.Ytokmanfcndelfaa
/-
 Steps of one's own in drawn regions: rows of handles with more cells, calls that are lent objects; handles in cells that are read as lists from now on.
-/
namespace Go.Proofs.Ytokmanfcndelfaa
set_option linter.unusedVariables false
open Go.RowKit

theorem Xh.loc {s s' : FSt} {f : FV} (h : Xh s f) (ho : ∀ id ver, f.hand = some (id, ver) → s'.ob id = s.ob id) : Xh s' f := by
 rcases h with h1 | ⟨id, ver, o, n, rfl, hl⟩ | ⟨id, ver, j, o, rfl, hl⟩ | ⟨k, fs, rfl⟩
 ·exact .inl h1
 ·exact .inr (.inl ⟨id, ver, o, n, rfl, by unfold FSt.live at *; rw [ho id ver rfl]; exact hl⟩)
 ·exact .inr (.inr (.inl ⟨id, ver, j, o, rfl, by unfold FSt.live at *; rw [ho id ver rfl]; exact hl⟩))
 ·exact .inr (.inr (.inr ⟨k, fs, rfl⟩))
section
variable {c : Ctx} {w0 w : World} {J : JJ} {s : FSt} {a : Act} {β : Nat → Option Nat} {dst : Option Nat} {ty : TypeId} {pos : String} {after : Array Edge} {g : Option (Nat × Bool)}
end
section
variable {c : Ctx} {ops : Array Oper} {rest : List Oper} {t : List (Nat × FV)} {ob : List (Nat × zt)} {d : Nat} {ty : TypeId} {pos : String} {af : Array Edge} {gd : Option (Nat × Bool)} {tr : List Rec} {QD : FSt → List Rec → Prop}
theorem ziL {op : Op} {f : FV} {wr : List (Nat × zt)} (hst : WA op = false) (hno : ¬ zaR op) (hd : Nat.blt d c.N = true) (hw : zQ ops ⟨t, ob⟩ (⟨some d, op, ty, pos, af, gd⟩ : Oper) true)
  (hg : ∀ s' : FSt, (∀ x ∈ op.operands.toList, s'.ev x = (⟨t, ob⟩ : FSt).ev x) → (∀ id ∈ xr ⟨t, ob⟩ d op, s'.ob id = (⟨t, ob⟩ : FSt).ob id) → ∀ (w0 : World) (J : JJ) (a : Act) (w : World) (β : Nat → Option Nat) (ty : TypeId) (pos : String) (after : Array Edge) (g : Option (Nat × Bool)),
   FR c.N w0 J s' a w β → xg c w0 J s' a ⟨some d, op, ty, pos, after, g⟩ w f wr)
  (k : zL c ops rest (((⟨t, ob⟩ : FSt).wr wr).put d f) (tr ++ [⟨(⟨some d, op, ty, pos, af, gd⟩ : Oper), f, wr, xr ⟨t, ob⟩ d op⟩]) QD) : zL c ops ((⟨some d, op, ty, pos, af, gd⟩ : Oper) :: rest) ⟨t, ob⟩ tr QD :=
 zL.cons (f := f) (wr := wr) (d := d) ⟨.inl rfl, (fun _ e => by injection e with e; subst e; exact Nat.le_of_ble_eq_true hd), .ext hst hno fun s' h1 h2 w0 J a w β ty pos after g hdN hF K Q hK =>
  xg.wp (hg s' h1 h2 w0 J a w β ty pos after g hF) (fun d' e => by injection e with e; subst e; exact hdN) hK⟩ hw rfl rfl k
theorem ziI {T : Nat} {x : Operand} : ¬ zaR (.load T x) := by rintro (⟨_, _, _, e⟩ | ⟨_, _, _, _, e⟩) <;> cases e
theorem zcn {T id ver j o E sz : Nat} {x : Operand} {es : List (List FV)} {row : List FV} {f : FV} (hx : (⟨t, ob⟩ : FSt).ev x = .ptr id ver j o) (hk : (c.ty T).k.agg? = some false) (hb : (⟨t, ob⟩ : FSt).ob id = ⟨ver, .hrow, E, sz, es⟩) (hj : es[j]? = some row) (ho : row[o]? = some f) (hd : Nat.blt d c.N = true) (hw : zQ ops ⟨t, ob⟩ (⟨some d, .load T x, ty, pos, af, gd⟩ : Oper) true)
  (k : zL c ops rest ⟨(d, f) :: t, ob⟩ (tr ++ [⟨(⟨some d, .load T x, ty, pos, af, gd⟩ : Oper), f, [], xr ⟨t, ob⟩ d (.load T x)⟩]) QD) : zL c ops ((⟨some d, .load T x, ty, pos, af, gd⟩ : Oper) :: rest) ⟨t, ob⟩ tr QD :=
 ziL (wr := []) rfl ziI hd hw (fun s' h1 h2 w0 J a w β ty pos after g hF => by
  have e1 := (h1 x (by simp [Op.operands])).trans hx
  have e2 := (h2 id (Vc (x := x) rfl (by simp [Op.operands]) (by rw [hx]; rfl))).trans hb
  exact zdc hF hk x e1 (by rw [e2]) (by rw [e2]) (by rw [e2]; exact hj) ho) k
theorem zaz {T id ver j o E sz : Nat} {x y : Operand} {es : List (List FV)} {row : List FV} {f : FV} (hx : (⟨t, ob⟩ : FSt).ev x = .ptr id ver j o) (hy : (⟨t, ob⟩ : FSt).ev y = f) (hf : ∃ i v n, f = .own i v 0 n) (hst : (⟨t, ob⟩ : FSt).live id ver) (hfl : ∀ i v n, f = .own i v 0 n → (⟨t, ob⟩ : FSt).live i v) (hk : (c.ty T).k.known = true) (hz : (c.ty T).size = 1) (hb : (⟨t, ob⟩ : FSt).ob id = ⟨ver, .hrow, E, sz, es⟩) (hj : es[j]? = some row) (ho : o < row.length) (hd : Nat.blt d c.N = true) (hw : zQ ops ⟨t, ob⟩ (⟨none, .store T x y, ty, pos, af, gd⟩ : Oper) true)
  (k : zL c ops rest ⟨t, (id, ⟨ver, .hrow, E, sz, es.set j (row.set o f)⟩) :: ob⟩ (tr ++ [⟨(⟨none, .store T x y, ty, pos, af, gd⟩ : Oper), .undef, [(id, ⟨ver, .hrow, E, sz, es.set j (row.set o f)⟩)], xr ⟨t, ob⟩ d (.store T x y)⟩]) QD) : zL c ops ((⟨none, .store T x y, ty, pos, af, gd⟩ : Oper) :: rest) ⟨t, ob⟩ tr QD := by
 refine zL.cons (f := .undef) (wr := [(id, ⟨ver, .hrow, E, sz, es.set j (row.set o f)⟩)]) (d := d) ⟨.inr ⟨rfl, .inl ⟨_, _, _, rfl⟩⟩, (fun _ e => by cases e), .extN rfl (.inl ⟨_, _, _, rfl⟩) fun s' h1 h2 w0 J a w β dst ty pos after g hF => ?_⟩ hw rfl rfl k
 have e1 := (h1 x (by simp [Op.operands])).trans hx
 have e2 := (h1 y (by simp [Op.operands])).trans hy
 have m1 : id ∈ xr ⟨t, ob⟩ d (.store T x y) := Vc (x := x) rfl (by simp [Op.operands]) (ver := ver) (by rw [hx]; rfl)
 have e3 := (h2 id m1).trans hb
 obtain ⟨i, v, n, rfl⟩ := hf
 have m2 : i ∈ xr ⟨t, ob⟩ d (.store T x y) := Vc (x := y) rfl (by simp [Op.operands]) (ver := v) (by rw [hy]; rfl)
 have hl2 : s'.live i v := by
  have := hfl i v n rfl
  unfold FSt.live at this ⊢
  rw [h2 i m2]; exact this
 have := WK (dst := dst) (ty := ty) (pos := pos) (after := after) (g := g) hF (TK.known_ne hk) hz x y e1 (by rw [e3]) (by rw [e3]) e2 (.inr (.inl ⟨_, _, _, _, rfl, hl2⟩)) (by rw [e3]; exact hj) ho
 rw [e3] at this
 exact this
theorem zH.loc {o o' : List (Nat × zt)} {g : Nat → Nat} {l : List (Nat × zt)} (h : zH o g l) (ho : ∀ k ∈ l.map Prod.fst, look {} o' (g k) = look {} o (g k)) : zH o' g l := by
 induction h with
 | nil => exact .nil
 | cons h hm hg hs ih => exact .cons ((ho _ (by simp)).trans h) hm hg (ih fun k hk => ho k (by simp only [List.map_cons, List.mem_cons]; exact .inr hk))
end
end Go.Proofs.Ytokmanfcndelfaa
