/-
  A new variable that is filled at once.
-/
import Derived.Test.YtokmanfcndelfaaZL
import Derived.Lib.SliceRun
namespace Go.Proofs.Ytokmanfcndelfaa
set_option linter.unusedVariables false
open Go.RowKit

def zjR (d : Nat) : Operand → Bool
 | .tmp k => !Nat.beq k d
 | _ => true
theorem zcE (w : World) (xs ys : Array Value) (T : TypeId) : (w.alloc (.cells xs T)).setRow w.heap.size ys = w.alloc (.cells ys T) := by
 unfold World.setRow World.alloc
 dsimp only
 congr 1
 apply Array.ext
 ·simp
 ·intro i h1 h2
  rw [Array.getElem_modify]
  by_cases e : w.heap.size = i
  ·subst e; simp
  ·rw [if_neg e]
   have hi : i < w.heap.size := by simp at h2; omega
   rw [Array.getElem_push_lt hi, Array.getElem_push_lt hi]
section
variable {c : Ctx} {ops : Array Oper} {rest : List Oper} {t : List (Nat × FV)} {ob : List (Nat × zt)} {d : Nat} {ty ty2 : TypeId} {pos pos2 : String} {af af2 : Array Edge} {QS : FSt → Prop}
theorem zds {T sz by_ : Nat} {kk : TK} {z fs : List FV} {x : Operand} {v0 E0 sz0 : Nat} {lf0 : yb} {es0 : List (List FV)} (hx : (⟨t, ob⟩ : FSt).ev x = .agg fs) (hxd : zjR d x = true) (hT : c.ty T = ⟨kk, sz, by_, z⟩) (hk : kk.known = true) (h1 : fs.all FV.one = true) (hl : fs.length = sz) (hv : (⟨t, ob⟩ : FSt).ob d = ⟨v0, lf0, E0, sz0, es0⟩) (hd : Nat.blt d c.N = true)
  (k : zd c ops rest ⟨((d, (.ptr d (v0 + 1) 0 0)) :: t), ((d, ⟨v0 + 1, .own, T, sz, [fs]⟩) :: ob)⟩ QS) :
  zd c ops ((⟨some d, .alloc T, ty, pos, af, none⟩ : Oper) :: (⟨none, .store T (.tmp d) x, ty2, pos2, af2, none⟩ : Oper) :: rest) ⟨t, ob⟩ QS := fun QQ w0 J a w β hQ hF => by
 have hkn : (c.ty T).k ≠ .other := fun e => by rw [hT] at e; dsimp only at e; rw [e] at hk; cases hk
 have hdN : d < c.N := Nat.le_of_ble_eq_true hd
 obtain ⟨vb, wb, βb, hrun, hFb, hVb, hverb⟩ := zdY (ty := ty) (pos := pos) (after := af) (g := none) hF d (T := T) x hx h1
 have hbox : (execOp a.eval ⟨some d, .box T x, ty, pos, af, none⟩).run c.P w = .ok (.value (.pointer (some ⟨w.heap.size, 0, none⟩))) (w.alloc (.cells (a.eval x).cells T)) := by
  simp [execOp, Instr.box, newVar, newRow]
 rw [hbox] at hrun
 injection hrun with e1 e2
 injection e1 with e1
 subst e1
 subst e2
 obtain ⟨zv, z1, _, z3⟩ := yR (c := c) (T := T) hkn w
 have hall : (execOp a.eval ⟨some d, .alloc T, ty, pos, af, none⟩).run c.P w = .ok (.value (.pointer (some ⟨w.heap.size, 0, none⟩))) (w.alloc (.cells zv.cells T)) := by
  simp [execOp, Instr.alloc, z1, newVar, newRow]
 unfold wpList
 rw [if_pos (zQ.model hF (show zQ ops ⟨t, ob⟩ (⟨some d, .alloc T, ty, pos, af, none⟩ : Oper) true from rfl))]
 refine .inl ?_
 unfold Oper.wp
 rw [hall, Oper.upon_value]
 have hrd := hF.ev_rd hx (Rd.nohand h1)
 obtain ⟨hc1, hc2⟩ := hrd.cells h1
 have hcl : (a.eval x).cells.toList.length = (c.ty T).size := by rw [hc1.1, hT]; exact hl
 have hzs : zv.cells.size = (c.ty T).size := z3
 have hevx : (a.put (some d) (.pointer (some ⟨w.heap.size, 0, none⟩))).eval x = a.eval x := by
  cases x with
  | tmp i =>
   show (a.put (some d) _).tmps.getD i undef = a.tmps.getD i undef
   rw [za1 a d _ i (by rw [hF.size]; exact hdN)]
   rw [if_neg (fun e => by subst e; simp [zjR] at hxd)]
  | _ => rfl
 have hevd : (a.put (some d) (.pointer (some ⟨w.heap.size, 0, none⟩))).eval (.tmp d) = .pointer (some ⟨w.heap.size, 0, none⟩) := by
  show (a.put (some d) _).tmps.getD d undef = _
  rw [za1 a d _ d (by rw [hF.size]; exact hdN), if_pos rfl]
 have hblk : (w.alloc (.cells zv.cells T)).heap[w.heap.size]? = some (.cells zv.cells T (0, 0)) := by show (w.heap.push _)[w.heap.size]? = _; simp
 have hst := run_storeCells_at c.P w.heap.size 0 T (a.eval x).cells.toList 0 zv.cells (w.alloc (.cells zv.cells T)) hblk (by omega) hc2
 have hfill : (splice zv.cells.toList 0 (a.eval x).cells.toList).toArray = (a.eval x).cells := by
  apply Array.ext'
  show List.take 0 _ ++ _ ++ List.drop _ _ = _
  rw [List.take_zero, List.nil_append, List.drop_of_length_le (by simp at hcl ⊢; omega), List.append_nil]
 have hst' : (storeCells ⟨w.heap.size, 0, none⟩ (a.eval x).cells.toList).run c.P (w.alloc (.cells zv.cells T)) = .ok () (w.alloc (.cells (a.eval x).cells T)) := by
  rw [← zcE w zv.cells (a.eval x).cells T]
  simp only [Nat.add_zero, Nat.zero_add] at hst
  have hf2 : (zv.cells.toList.take 0 ++ (a.eval x).cells.toList ++ zv.cells.toList.drop (a.eval x).cells.toList.length).toArray = (a.eval x).cells := by
   have := hfill
   unfold splice at this
   simpa using this
  rw [hf2] at hst
  exact hst
 have hs := yF (c := c) hkn (w.alloc (.cells zv.cells T))
 have hcs : (a.eval x).cells.size = (c.ty T).size := by simpa using hcl
 have hstore : (execOp (a.put (some d) (.pointer (some ⟨w.heap.size, 0, none⟩))).eval ⟨none, .store T (.tmp d) x, ty2, pos2, af2, none⟩).run c.P (w.alloc (.cells zv.cells T)) = .ok .skip (w.alloc (.cells (a.eval x).cells T)) := by
  simp [execOp, Instr.storeAt, storeVar, hevd, hevx, Instr.sureAddr, hs, hcs, hst']
 show wpList c.P ops QQ (_ :: rest) _ _
 unfold wpList
 rw [if_pos (by rfl)]
 refine .inl ?_
 unfold Oper.wp
 rw [hstore, Oper.upon_skip]
 rw [hv] at hFb hVb hverb
 dsimp only [FV.cells] at hFb hVb hverb
 rw [hl] at hFb hVb hverb
 exact k QQ w0 J _ _ _ hQ (hFb.put hdN hVb hverb)
theorem zeJ {w0 w : World} {J : JJ} {s : FSt} {a : Act} {β : Nat → Option Nat} {g : Option (Nat × Bool)} {dst : Option Nat} (h : FR c.N w0 J s a w β) {T e : Nat} (hT : (c.ty T).k = .slice e) (he : (c.ty e).k ≠ .other) (hz : (c.ty e).size = 1) {f0 : FV} (hz0 : (c.ty e).zero = [f0]) (h1 : f0.one = true) (x : Operand) {id ver o m : Nat} (ex : s.ev x = .own id ver o m) (hl : (s.ob id).life = .own) (hv : (s.ob id).ver = ver) (hsz : (s.ob id).sz = 1) (hm0 : 0 < m) :
  ∃ W, (execOp a.eval ⟨dst, .call { callee := .builtin .clear, args := #[x], argTypes := #[T] }, ty, pos, af, g⟩).run c.P w = .ok (.value (.tuple #[])) W ∧ FR c.N w0 J (s.wr [(id, { s.ob id with es := splice (s.ob id).es o (List.replicate m [f0]) })]) a W β := by
 have hlive : (s.ob id).life ≠ .dead := by rw [hl]; decide
 have hrl : (s.ob id).life.row = true := by rw [hl]; rfl
 obtain ⟨dd, ii, z, ht⟩ := c.get hT (by simp)
 have hd := ht.k
 rw [hT] at hd
 obtain rfl := yt hd
 obtain ⟨zv, z1, z2, z3⟩ := yR he w
 rw [hz] at z3
 rw [hz0] at z2
 obtain ⟨u, hu⟩ : ∃ u, zv.cells = #[u] := by
  have hl : zv.cells.toList.length = 1 := by simpa using z3
  obtain ⟨u, hu⟩ := List.length_eq_one_iff.1 hl
  exact ⟨u, by apply Array.ext'; rw [hu]⟩
 have hrz : RdL w (Imm J w β s) [u] [f0] := by have := RdL.zeros (w := w) (I := Imm J w β s) z2; rwa [hu] at this
 have hru := hrz.2 0 u f0 rfl rfl
 have hou := hru.oneCell h1
 obtain ⟨A, cc, e1, e2, e3, e4, e5⟩ := (h.ev_own ex hlive hv).ex
 obtain ⟨b, hb⟩ : ∃ b, β id = some b := by
  cases hbb : β id with
  | none => obtain ⟨q1, q2⟩ := e4 hbb; omega
  | some b => exact ⟨b, rfl⟩
 obtain ⟨o', rfl, k2, k3⟩ := e5 b hb
 have := k2 (.inl (by omega))
 subst this
 obtain ⟨cur, cap, hblk, hn, hm, hcs, hr, hrow⟩ := h.block hlive hrl hb
 have hw := ((h.obj id hlive).rowR hrl).wide
 have hone := ((h.obj id hlive).rowR hrl).one
 rw [hsz] at hw hcs hr hrow e1
 simp only [Nat.mul_one] at hcs hr hrow e1
 generalize hes : (s.ob id).es = es at hn hr hrow hw hone e3
 obtain ⟨us, hus⟩ : ∃ us, List.replicate m u = us := ⟨_, rfl⟩
 have husl : us.length = m := by rw [← hus]; simp
 obtain ⟨q2, hq2⟩ : ∃ q2, List.replicate m [f0] = q2 := ⟨_, rfl⟩
 have hq2l : q2.length = m := by rw [← hq2]; simp
 have hd1 : ∀ q ∈ q2, q.length = 1 := fun q hq => by rw [← hq2] at hq; rw [List.eq_of_mem_replicate hq]; rfl
 have hqf : q2.flatten = List.replicate m f0 := by rw [← hq2, List.flatten_replicate_singleton]
 have hr3 : RdL w (Imm J w β s) us q2.flatten := by
  rw [hqf, ← hus]
  refine ⟨by simp, fun j v f hv hf => ?_⟩
  have a1 := List.eq_of_mem_replicate (List.mem_of_getElem? hv)
  have a2 := List.eq_of_mem_replicate (List.mem_of_getElem? hf)
  rw [a1, a2]; exact hru
 have h1u : ∀ v ∈ us, v.oneCell' = true := fun v hv => by rw [← hus] at hv; rw [List.eq_of_mem_replicate hv]; exact hou
 have hfit : o + us.length ≤ cur.size := by rw [husl, hcs]; omega
 have hst := run_storeCells_at c.P b o (s.ob id).E us 0 cur w hblk (by omega) h1u
 simp only [Nat.add_zero] at hst
 obtain ⟨W, hW⟩ : ∃ W, W = w.setRow b (splice cur.toList o us).toArray := ⟨_, rfl⟩
 have hst' : (storeCells ⟨b, o, none⟩ us).run c.P w = .ok () W := by rw [hW]; exact hst
 have hWb : W.heap[b]? = some (.cells (splice cur.toList o us).toArray (s.ob id).E (0, 0)) := by rw [hW]; exact yE w b _ cur _ hblk
 have hgrown : w.grownBy W (β id) := by
  subst hW
  refine ⟨rfl, rfl, rfl, by simp [World.setRow], fun k hk hne => yV w b k _ (fun e => hne (by rw [e, hb]))⟩
 have hcl : cur.toList.length = cap := by simpa using hcs
 have htl : (cur.toList.take es.length).length = es.length := by rw [List.length_take, hcl]; omega
 have hslen : (splice es o q2).length = es.length := yy (by omega)
 have hrow' : W.ownsRow w0.heap.size (s.ob id).E 1 (.slice (some ⟨b, 0, none⟩) es.length cap) (splice es o q2).length (splice (cur.toList.take es.length) o us) := by
  rw [hslen]
  refine ⟨?_, .inr ⟨b, cap, _, rfl, ((h.obj id hlive).lt hb).1, hWb, hn, hm, ?_, ?_⟩⟩
  ·rw [yy (by omega), htl, Nat.mul_one]
  ·simp only [List.size_toArray]; rw [yy (by omega), hcl, Nat.mul_one]
  ·rw [Nat.mul_one]
   have key : ∀ (L p : Nat) (cs ds : List Value), p + ds.length ≤ L → L ≤ cs.length → (splice cs p ds).take L = splice (cs.take L) p ds := by
    intro L p cs ds h1 h2
    unfold splice
    rw [List.append_assoc, List.append_assoc, List.take_append, List.length_take, Nat.min_eq_left (by omega), List.take_append, List.take_take, List.take_take, Nat.min_eq_right (by omega), Nat.min_eq_left (by omega), List.take_of_length_le (by omega : ds.length ≤ L - p), List.drop_take]
    congr 3
    omega
   exact key _ _ _ _ (by omega) (by omega)
 refine ⟨W, ?_, ?_⟩
 ·have hzc : (Builtin.zeroCells zv.cells m).toList = us := by
   rw [hu, ← hus]
   simp [Builtin.zeroCells]
   apply List.ext_getElem
   ·simp
   ·intro i h1 h2
    simp [Nat.mod_one]
  obtain ⟨m', rfl⟩ : ∃ m', m = m' + 1 := ⟨m - 1, by omega⟩
  have hrunc : (Builtin.clear_ #[T] ty #[.slice (some ⟨b, o, none⟩) (m' + 1) cc]).run c.P w = .ok (.tuple #[]) W := by
   simp [Builtin.clear_, run_underlying ht.u, z1, hzc, hst']
  simp [execOp, resolve, invoke, builtin, e1, hrunc]
 ·refine h.write id (es := splice es o q2) (v := .slice (some ⟨b, 0, none⟩) es.length cap) (xs := splice (cur.toList.take es.length) o us) hl hgrown ?_ ?_ ?_ hb.symm ?_ ?_ ?_ (fun k => ?_) (fun k => FSt.wr_get _ _ _)
  ·rw [hsz]
   intro q hq
   rcases ZG hq with hq | hq
   ·exact hw q hq
   ·exact hd1 q hq
  ·intro f hf
   obtain ⟨q, hq, hfq⟩ := List.mem_flatten.1 hf
   rcases ZG hq with hq | hq
   ·exact hone f (List.mem_flatten.2 ⟨q, hq, hfq⟩)
   ·have hff : f ∈ q2.flatten := List.mem_flatten.2 ⟨q, hq, hfq⟩
    rw [hqf] at hff
    rw [List.eq_of_mem_replicate hff]; exact h1
  ·rw [hsz]; exact hrow'
  ·rw [WJ hw hd1]; exact hr.splice hr3 _
  ·rw [hes, hslen]
  ·intro b' cur1 cur2 hb' h1 h2
   rw [hb] at hb'
   injection hb' with hb'
   subst hb'
   rw [hblk] at h1
   injection h1 with h1
   injection h1 with h1 _ _
   subst h1
   rw [hWb] at h2
   injection h2 with h2
   injection h2 with h2 _ _
   rw [← h2]
   simp only [List.size_toArray]
   rw [yy (by omega), hcl, hcs]
  ·rw [← hes, ← hq2]; exact FSt.ob_set s id _ k
theorem zh4 {T e by_ : Nat} {kk : TK} {f0 : FV} {x : Operand} {id ver o m E : Nat} {es : List (List FV)} {gd : Option (Nat × Bool)} (hT : (c.ty T).k = .slice e) (he : c.ty e = ⟨kk, 1, by_, [f0]⟩) (hk : kk.known = true) (h1 : f0.one = true) (hx : (⟨t, ob⟩ : FSt).ev x = .own id ver o m) (hb : (⟨t, ob⟩ : FSt).ob id = ⟨ver, .own, E, 1, es⟩) (hm0 : 0 < m) (hw : zQ ops ⟨t, ob⟩ (⟨none, .call { callee := .builtin .clear, args := #[x], argTypes := #[T] }, ty, pos, af, gd⟩ : Oper) true)
  (k : zd c ops rest ⟨t, ((id, ⟨ver, .own, E, 1, splice es o (List.replicate m [f0])⟩) :: ob)⟩ QS) : zd c ops ((⟨none, .call { callee := .builtin .clear, args := #[x], argTypes := #[T] }, ty, pos, af, gd⟩ : Oper) :: rest) ⟨t, ob⟩ QS := fun QQ w0 J a w β hQ hF => by
 unfold wpList
 rw [if_pos (hw.model hF)]
 refine .inl ?_
 obtain ⟨W, h2, h3⟩ := zeJ (ty := ty) (pos := pos) (af := af) (g := gd) (dst := none) hF hT (fun e => by rw [he] at e; dsimp only at e; rw [e] at hk; cases hk) (by rw [he]) (by rw [he]) h1 x hx (by rw [hb]) (by rw [hb]) (by rw [hb]) hm0
 unfold Oper.wp
 rw [h2, Oper.upon_value]
 rw [hb] at h3
 exact k QQ w0 J _ W β hQ h3
theorem Up {x : Operand} {i : Nat} {fs : List FV} {f : FV} {gd : Option (Nat × Bool)} (hx : (⟨t, ob⟩ : FSt).ev x = .wrap .tup fs) (hf : fs[i]? = some f) (hnw : f.notWrap = true) (hd : Nat.blt d c.N = true) (hw : zQ ops ⟨t, ob⟩ (⟨some d, .extract x i, ty, pos, af, gd⟩ : Oper) true)
  (k : zd c ops rest ⟨((d, f) :: t), ob⟩ QS) : zd c ops ((⟨some d, .extract x i, ty, pos, af, gd⟩ : Oper) :: rest) ⟨t, ob⟩ QS := fun QQ w0 J a w β hQ hF => by
 unfold wpList
 rw [if_pos (hw.model hF)]
 refine .inl ?_
 have hv := hF.ev x
 rw [hx] at hv
 obtain ⟨us, ev, hul, hur⟩ := hv
 have ev' : a.eval x = .tuple us.toArray := ev
 have hi : i < fs.length := (List.getElem?_eq_some_iff.1 hf).1
 have hiu : i < us.length := by rw [hul]; exact hi
 have h1 := hur i us[i] f (by simp [hiu]) hf
 have hrun : (execOp a.eval ⟨some d, .extract x i, ty, pos, af, gd⟩).run c.P w = .ok (.value us[i]) w := by
  simp [execOp, Instr.extract, ev', hiu]
 have hver : ∀ id ver, (id, ver) ∈ f.hands → ver ≤ ((⟨t, ob⟩ : FSt).ob id).ver := fun id ver hm => by
  refine hF.evers x (id := id) (ver := ver) ?_
  rw [hx]
  refine List.mem_filterMap.2 ⟨f, List.mem_of_getElem? hf, ?_⟩
  cases f with
  | own | ptr | omap => rw [List.mem_singleton.1 hm]; rfl
  | wrap k fs => cases hnw
  | _ => exact (FV.no_hands rfl hm).elim
 exact xg.wp (f := f) (wr := []) (xg.pure hF hrun (VR.of1 h1) hver) (fun d' e => by injection e with e; subst e; exact Nat.le_of_ble_eq_true hd) fun a' w' β' hF' => k QQ w0 J a' w' β' hQ hF'
end
end Go.Proofs.Ytokmanfcndelfaa
