/-
  Some texts as one: FmRowH, FmRowD.
-/
import Derived.Test.YthjplkjpehdpfaaZV
import Derived.Test.YthjplkjpehdpfaaZJ
/-
 Rows whose cells may hold handles, with more cells than one; literals that hold handles. (RunN alone: regions in the text's order.)
-/
namespace Go.Proofs.Ythjplkjpehdpfaa
set_option linter.unusedVariables false
open Go.RowKit

section
variable {c : Ctx} {w0 w : World} {J : JJ} {s : FSt} {a : Act} {β : Nat → Option Nat} {dst : Option Nat} {ty : TypeId} {pos : String} {after : Array Edge} {g : Option (Nat × Bool)}
theorem XD.one {I : Nat → Prop} {v : Value} {f : FV} (hv : VR w I β s v f) (hf : XD s f) : v.cells = #[v] ∧ v.oneCell' = true := by
 rcases hf with h1 | ⟨id, ver, o, n, rfl, hl⟩ | ⟨id, ver, j, o, rfl, hl⟩ | ⟨k, fs, rfl⟩
 ·have hn : f.hand = none := by cases f <;> first | rfl | (simp [FV.one] at h1)
  have hr := VR.rd hv hn
  cases hr <;> first | exact ⟨rfl, rfl⟩ | (simp [FV.one] at h1)
 ·obtain ⟨A, cc, e, _⟩ := (hv hl.1 hl.2).ex
  rw [e]
  exact ⟨rfl, rfl⟩
 ·obtain ⟨_, b, _, e⟩ := hv hl.1 hl.2
  rw [e]
  exact ⟨rfl, rfl⟩
 ·obtain ⟨us, e, _⟩ := hv
  rw [e]
  exact ⟨rfl, rfl⟩
end
section
variable {c : Ctx} {ops : Array Oper} {rest : List Oper} {t : List (Nat × FV)} {ob : List (Nat × zg)} {d : Nat} {ty : TypeId} {pos : String} {af : Array Edge} {gd : Option (Nat × Bool)} {QS : FSt → Prop}
theorem UE {op : Op} {f : FV} {wr : List (Nat × zg)} (hd : Nat.blt d c.N = true) (hw : zF ops ⟨t, ob⟩ (⟨some d, op, ty, pos, af, gd⟩ : Oper) true)
  (hg : ∀ (w0 : World) (J : JJ) (a : Act) (w : World) (β : Nat → Option Nat), FR c.N w0 J ⟨t, ob⟩ a w β → yp c w0 J ⟨t, ob⟩ a ⟨some d, op, ty, pos, af, gd⟩ w f wr)
  (k : zd c ops rest (((⟨t, ob⟩ : FSt).wr wr).put d f) QS) : zd c ops ((⟨some d, op, ty, pos, af, gd⟩ : Oper) :: rest) ⟨t, ob⟩ QS := fun QQ w0 J a w β hQ hF => by
 unfold wpList
 rw [if_pos (hw.model hF)]
 refine .inl ?_
 exact yp.wp (hg w0 J a w β hF) (fun d' e => by injection e with e; subst e; exact Nat.le_of_ble_eq_true hd) fun a' w' β' hF' => k QQ w0 J a' w' β' hQ hF'
end
end Go.Proofs.Ythjplkjpehdpfaa
/-
 Steps of one's own in drawn regions: rows of handles with more cells, calls that are lent objects; handles in cells that are read as lists from now on.
-/
namespace Go.Proofs.Ythjplkjpehdpfaa
set_option linter.unusedVariables false
open Go.RowKit

theorem XD.loc {s s' : FSt} {f : FV} (h : XD s f) (ho : ∀ id ver, f.hand = some (id, ver) → s'.ob id = s.ob id) : XD s' f := by
 rcases h with h1 | ⟨id, ver, o, n, rfl, hl⟩ | ⟨id, ver, j, o, rfl, hl⟩ | ⟨k, fs, rfl⟩
 ·exact .inl h1
 ·exact .inr (.inl ⟨id, ver, o, n, rfl, by unfold FSt.live at *; rw [ho id ver rfl]; exact hl⟩)
 ·exact .inr (.inr (.inl ⟨id, ver, j, o, rfl, by unfold FSt.live at *; rw [ho id ver rfl]; exact hl⟩))
 ·exact .inr (.inr (.inr ⟨k, fs, rfl⟩))
section
variable {c : Ctx} {w0 w : World} {J : JJ} {s : FSt} {a : Act} {β : Nat → Option Nat} {dst : Option Nat} {ty : TypeId} {pos : String} {after : Array Edge} {g : Option (Nat × Bool)}
theorem zbe (h : FR c.N w0 J s a w β) (d : Nat) {T : Nat} (hk : (c.ty T).k.known = true) (hz : (c.ty T).size = 1) : yp c w0 J s a ⟨some d, .alloc T, ty, pos, after, g⟩ w (.ptr d ((s.ob d).ver + 1) 0 0) [(d, ⟨(s.ob d).ver + 1, .hrow, T, 1, [[.undef]]⟩)] := by
 obtain ⟨z, h1, _, h3⟩ := yR (c := c) (T := T) (fun e => by rw [e] at hk; cases hk) w
 obtain ⟨u, hu⟩ : ∃ u, z.cells = #[u] := by
  have hl : z.cells.toList.length = 1 := by rw [← hz, ← h3]; simp
  obtain ⟨u, hu⟩ := List.length_eq_one_iff.1 hl
  exact ⟨u, by apply Array.ext'; rw [hu]⟩
 have hN := h.newH d T (f := .undef) (v := u) (VR.of_rd (.undef _) rfl) (fun _ _ e => by cases e)
 have hrun : (execOp a.eval ⟨some d, .alloc T, ty, pos, after, g⟩).run c.P w = .ok (.value (.pointer (some ⟨w.heap.size, 0, none⟩))) (w.alloc (.cells #[u] T)) := by
  simp [execOp, Instr.alloc, h1, newVar, newRow, hu]
 refine ⟨_, _, _, hrun, hN, fun _ _ => ⟨?_, w.heap.size, zQ _ _ _, by simp⟩, fun id ver e => ?_⟩
 ·show (FSt.ob (FSt.set _ d _) d).life.slic = true
  rw [FSt.ob_set, if_pos rfl]; rfl
 ·simp only [FV.hands, List.mem_singleton, Prod.mk.injEq] at e
  obtain ⟨rfl, rfl⟩ := e
  show _ ≤ (FSt.ob (FSt.set _ _ _) _).ver
  rw [FSt.ob_set, if_pos rfl]
  exact Nat.le_refl _
end
section
variable {c : Ctx} {ops : Array Oper} {rest : List Oper} {t : List (Nat × FV)} {ob : List (Nat × zg)} {d : Nat} {ty : TypeId} {pos : String} {af : Array Edge} {gd : Option (Nat × Bool)} {tr : List Rec} {QD : FSt → List Rec → Prop}
theorem zf0 {op : Op} {f : FV} {wr : List (Nat × zg)} (hst : Xl op = false) (hno : ¬ Uh op) (hd : Nat.blt d c.N = true) (hw : zF ops ⟨t, ob⟩ (⟨some d, op, ty, pos, af, gd⟩ : Oper) true)
  (hg : ∀ s' : FSt, (∀ x ∈ op.operands.toList, s'.ev x = (⟨t, ob⟩ : FSt).ev x) → (∀ id ∈ xi ⟨t, ob⟩ d op, s'.ob id = (⟨t, ob⟩ : FSt).ob id) → ∀ (w0 : World) (J : JJ) (a : Act) (w : World) (β : Nat → Option Nat) (ty : TypeId) (pos : String) (after : Array Edge) (g : Option (Nat × Bool)),
   FR c.N w0 J s' a w β → yp c w0 J s' a ⟨some d, op, ty, pos, after, g⟩ w f wr)
  (k : zD c ops rest (((⟨t, ob⟩ : FSt).wr wr).put d f) (tr ++ [⟨(⟨some d, op, ty, pos, af, gd⟩ : Oper), f, wr, xi ⟨t, ob⟩ d op⟩]) QD) : zD c ops ((⟨some d, op, ty, pos, af, gd⟩ : Oper) :: rest) ⟨t, ob⟩ tr QD :=
 zD.cons (f := f) (wr := wr) (d := d) ⟨.inl rfl, (fun _ e => by injection e with e; subst e; exact Nat.le_of_ble_eq_true hd), .ext hst hno fun s' h1 h2 w0 J a w β ty pos after g hdN hF K Q hK =>
  yp.wp (hg s' h1 h2 w0 J a w β ty pos after g hF) (fun d' e => by injection e with e; subst e; exact hdN) hK⟩ hw rfl rfl k
theorem zeZ {T : Nat} : ¬ Uh (.alloc T) := by rintro (⟨_, _, _, e⟩ | ⟨_, _, _, _, e⟩) <;> cases e
theorem zaA {T : Nat} {v0 E0 sz0 : Nat} {lf0 : zN} {es0 : List (List FV)} (hk : (c.ty T).k.known = true) (hz : (c.ty T).size = 1) (hv : (⟨t, ob⟩ : FSt).ob d = ⟨v0, lf0, E0, sz0, es0⟩) (hd : Nat.blt d c.N = true) (hw : zF ops ⟨t, ob⟩ (⟨some d, .alloc T, ty, pos, af, gd⟩ : Oper) true)
  (k : zD c ops rest ⟨(d, .ptr d (v0 + 1) 0 0) :: t, (d, ⟨v0 + 1, .hrow, T, 1, [[.undef]]⟩) :: ob⟩ (tr ++ [⟨(⟨some d, .alloc T, ty, pos, af, gd⟩ : Oper), .ptr d (v0 + 1) 0 0, [(d, ⟨v0 + 1, .hrow, T, 1, [[.undef]]⟩)], xi ⟨t, ob⟩ d (.alloc T)⟩]) QD) : zD c ops ((⟨some d, .alloc T, ty, pos, af, gd⟩ : Oper) :: rest) ⟨t, ob⟩ tr QD :=
 zf0 (wr := [(d, ⟨v0 + 1, .hrow, T, 1, [[.undef]]⟩)]) rfl zeZ hd hw (fun s' h1 h2 w0 J a w β ty pos after g hF => by
  have e2 := (h2 d (zbU _ _ _)).trans hv
  have := zbe (ty := ty) (pos := pos) (after := after) (g := g) hF d hk hz
  rw [e2] at this
  exact this) k
theorem zh.loc {o o' : List (Nat × zg)} {g : Nat → Nat} {l : List (Nat × zg)} (h : zh o g l) (ho : ∀ k ∈ l.map Prod.fst, look {} o' (g k) = look {} o (g k)) : zh o' g l := by
 induction h with
 | nil => exact .nil
 | cons h hm hg hs ih => exact .cons ((ho _ (by simp)).trans h) hm hg (ih fun k hk => ho k (by simp only [List.map_cons, List.mem_cons]; exact .inr hk))
end
end Go.Proofs.Ythjplkjpehdpfaa
