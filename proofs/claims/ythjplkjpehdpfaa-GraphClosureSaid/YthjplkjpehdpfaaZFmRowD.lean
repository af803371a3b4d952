/-
  Steps of one's own in drawn regions: rows of handles with more cells, calls that are lent objects; handles in cells that are read as lists from now on.
-/
import Derived.Test.YthjplkjpehdpfaaZFmRowH
import Derived.Test.YthjplkjpehdpfaaZJ
namespace Go.Proofs.Ythjplkjpehdpfaa
set_option linter.unusedVariables false
open Go.RowKit

theorem Xk.loc {s s' : FSt} {f : FV} (h : Xk s f) (ho : ∀ id ver, f.hand = some (id, ver) → s'.ob id = s.ob id) : Xk s' f := by
 rcases h with h1 | ⟨id, ver, o, n, rfl, hl⟩ | ⟨id, ver, j, o, rfl, hl⟩ | ⟨k, fs, rfl⟩
 ·exact .inl h1
 ·exact .inr (.inl ⟨id, ver, o, n, rfl, by unfold FSt.live at *; rw [ho id ver rfl]; exact hl⟩)
 ·exact .inr (.inr (.inl ⟨id, ver, j, o, rfl, by unfold FSt.live at *; rw [ho id ver rfl]; exact hl⟩))
 ·exact .inr (.inr (.inr ⟨k, fs, rfl⟩))
section
variable {c : Ctx} {w0 w : World} {J : JJ} {s : FSt} {a : Act} {β : Nat → Option Nat} {dst : Option Nat} {ty : TypeId} {pos : String} {after : Array Edge} {g : Option (Nat × Bool)}
theorem zaC (h : FR c.N w0 J s a w β) (d : Nat) {T : Nat} (hk : (c.ty T).k.known = true) (hz : (c.ty T).size = 1) : yC c w0 J s a ⟨some d, .alloc T, ty, pos, after, g⟩ w (.ptr d ((s.ob d).ver + 1) 0 0) [(d, ⟨(s.ob d).ver + 1, .hrow, T, 1, [[.undef]]⟩)] := by
 obtain ⟨z, h1, _, h3⟩ := yP (c := c) (T := T) (fun e => by rw [e] at hk; cases hk) w
 obtain ⟨u, hu⟩ : ∃ u, z.cells = #[u] := by
  have hl : z.cells.toList.length = 1 := by rw [← hz, ← h3]; simp
  obtain ⟨u, hu⟩ := List.length_eq_one_iff.1 hl
  exact ⟨u, by apply Array.ext'; rw [hu]⟩
 have hN := h.newH d T (f := .undef) (v := u) (VR.of_rd (.undef _) rfl) (fun _ _ e => by cases e)
 have hrun : (execOp a.eval ⟨some d, .alloc T, ty, pos, after, g⟩).run c.P w = .ok (.value (.pointer (some ⟨w.heap.size, 0, none⟩))) (w.alloc (.cells #[u] T)) := by
  simp [execOp, Instr.alloc, h1, newVar, newRow, hu]
 refine ⟨_, _, _, hrun, hN, fun _ _ => ⟨?_, w.heap.size, zV _ _ _, by simp⟩, fun id ver e => ?_⟩
 ·show (FSt.ob (FSt.set _ d _) d).life.slic = true
  rw [FSt.ob_set, if_pos rfl]; rfl
 ·simp only [FV.hands, List.mem_singleton, Prod.mk.injEq] at e
  obtain ⟨rfl, rfl⟩ := e
  show _ ≤ (FSt.ob (FSt.set _ _ _) _).ver
  rw [FSt.ob_set, if_pos rfl]
  exact Nat.le_refl _
end
section
variable {c : Ctx} {ops : Array Oper} {rest : List Oper} {t : List (Nat × FV)} {ob : List (Nat × zm)} {d : Nat} {ty : TypeId} {pos : String} {af : Array Edge} {gd : Option (Nat × Bool)} {tr : List Rec} {QD : FSt → List Rec → Prop}
theorem zeY {op : Op} {f : FV} {wr : List (Nat × zm)} (hst : WC op = false) (hno : ¬ Ue op) (hd : Nat.blt d c.N = true) (hw : zK ops ⟨t, ob⟩ (⟨some d, op, ty, pos, af, gd⟩ : Oper) true)
  (hg : ∀ s' : FSt, (∀ x ∈ op.operands.toList, s'.ev x = (⟨t, ob⟩ : FSt).ev x) → (∀ id ∈ xo ⟨t, ob⟩ d op, s'.ob id = (⟨t, ob⟩ : FSt).ob id) → ∀ (w0 : World) (J : JJ) (a : Act) (w : World) (β : Nat → Option Nat) (ty : TypeId) (pos : String) (after : Array Edge) (g : Option (Nat × Bool)),
   FR c.N w0 J s' a w β → yC c w0 J s' a ⟨some d, op, ty, pos, after, g⟩ w f wr)
  (k : zH c ops rest (((⟨t, ob⟩ : FSt).wr wr).put d f) (tr ++ [⟨(⟨some d, op, ty, pos, af, gd⟩ : Oper), f, wr, xo ⟨t, ob⟩ d op⟩]) QD) : zH c ops ((⟨some d, op, ty, pos, af, gd⟩ : Oper) :: rest) ⟨t, ob⟩ tr QD :=
 zH.cons (f := f) (wr := wr) (d := d) ⟨.inl rfl, (fun _ e => by injection e with e; subst e; exact Nat.le_of_ble_eq_true hd), .ext hst hno fun s' h1 h2 w0 J a w β ty pos after g hdN hF K Q hK =>
  yC.wp (hg s' h1 h2 w0 J a w β ty pos after g hF) (fun d' e => by injection e with e; subst e; exact hdN) hK⟩ hw rfl rfl k
theorem zec {T : Nat} : ¬ Ue (.alloc T) := by rintro (⟨_, _, _, e⟩ | ⟨_, _, _, _, e⟩) <;> cases e
theorem UL {T : Nat} {v0 E0 sz0 : Nat} {lf0 : zR} {es0 : List (List FV)} (hk : (c.ty T).k.known = true) (hz : (c.ty T).size = 1) (hv : (⟨t, ob⟩ : FSt).ob d = ⟨v0, lf0, E0, sz0, es0⟩) (hd : Nat.blt d c.N = true) (hw : zK ops ⟨t, ob⟩ (⟨some d, .alloc T, ty, pos, af, gd⟩ : Oper) true)
  (k : zH c ops rest ⟨(d, .ptr d (v0 + 1) 0 0) :: t, (d, ⟨v0 + 1, .hrow, T, 1, [[.undef]]⟩) :: ob⟩ (tr ++ [⟨(⟨some d, .alloc T, ty, pos, af, gd⟩ : Oper), .ptr d (v0 + 1) 0 0, [(d, ⟨v0 + 1, .hrow, T, 1, [[.undef]]⟩)], xo ⟨t, ob⟩ d (.alloc T)⟩]) QD) : zH c ops ((⟨some d, .alloc T, ty, pos, af, gd⟩ : Oper) :: rest) ⟨t, ob⟩ tr QD :=
 zeY (wr := [(d, ⟨v0 + 1, .hrow, T, 1, [[.undef]]⟩)]) rfl zec hd hw (fun s' h1 h2 w0 J a w β ty pos after g hF => by
  have e2 := (h2 d (zbf _ _ _)).trans hv
  have := zaC (ty := ty) (pos := pos) (after := after) (g := g) hF d hk hz
  rw [e2] at this
  exact this) k
theorem zi.loc {o o' : List (Nat × zm)} {g : Nat → Nat} {l : List (Nat × zm)} (h : zi o g l) (ho : ∀ k ∈ l.map Prod.fst, look {} o' (g k) = look {} o (g k)) : zi o' g l := by
 induction h with
 | nil => exact .nil
 | cons h hm hg hs ih => exact .cons ((ho _ (by simp)).trans h) hm hg (ih fun k hk => ho k (by simp only [List.map_cons, List.mem_cons]; exact .inr hk))
end
end Go.Proofs.Ythjplkjpehdpfaa
