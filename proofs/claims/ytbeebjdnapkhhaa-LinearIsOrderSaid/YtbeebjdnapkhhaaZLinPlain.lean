/-
  Linearizability of registers, in plain Lean: points in time, violations; what has points in time has no violation.
-/
import Derived.Test.YtbeebjdnapkhhaaZFmLin2
import Derived.Test.YtbeebjdnapkhhaaZG
namespace Go.Proofs.Ytbeebjdnapkhhaa
set_option linter.unusedVariables false

def VJ (key v : Int) (o : OpV) : Bool := decide (o.k = 0) && (o.done && (decide (o.key = key) && decide (o.res = v)))
theorem yR {key v : Int} {o : OpV} : VJ key v o = true ↔ o.k = 0 ∧ o.done = true ∧ o.key = key ∧ o.res = v := by simp [VJ]
def zR (l : List OpV) (i : Nat) : Bool := (nth l i).done || (decide ((nth l i).k = 1) && l.any (VJ (nth l i).key (nth l i).arg))
theorem Zz {α : Type} [Inhabited α] {l : List α} {f : α → Bool} : l.any f = true ↔ ∃ i, i < l.length ∧ f (nth l i) = true := by
 rw [List.any_eq_true]
 constructor
 ·rintro ⟨x, hx, h⟩
  obtain ⟨i, hi, e⟩ := List.getElem_of_mem hx
  exact ⟨i, hi, by rw [zi hi, e]; exact h⟩
 ·rintro ⟨i, hi, h⟩; exact ⟨_, zp hi, h⟩
def zll (l : List OpV) (c v : Int) (i : Nat) : Prop := i < l.length ∧ (nth l i).key = c ∧ zah (nth l i) = v ∧ zR l i = true
def wrI (l : List OpV) (c : Int) (i : Nat) : Prop := i < l.length ∧ (nth l i).key = c ∧ (nth l i).k = 1 ∧ zR l i = true
def zgi (l : List OpV) (i : Nat) : Bool := decide ((nth l i).k = 0) && ((nth l i).done && (decide ((nth l i).res ≠ 0) && (wIx l (nth l i).key (nth l i).res).isNone))
def zgK (l : List OpV) (i : Nat) : Bool := decide ((nth l i).k = 0) && ((nth l i).done && (decide ((nth l i).res ≠ 0) && match wIx l (nth l i).key (nth l i).res with | none => false | some w => bef l i w))
structure zjW (l : List OpV) (tau : Nat → Nat) : Prop where
 rt : ∀ i k, i < l.length → k < l.length → zR l i = true → zR l k = true → bef l i k = true → tau i < tau k
 rd : ∀ r, r < l.length → (nth l r).k = 0 → (nth l r).done = true → ((nth l r).res = 0 ∧ ∀ w, wrI l (nth l r).key w → tau r ≤ tau w) ∨
  ∃ w, wrI l (nth l r).key w ∧ (nth l w).arg = (nth l r).res ∧ tau w ≤ tau r ∧ ∀ w', wrI l (nth l r).key w' → w' ≠ w → tau w' < tau w ∨ tau r < tau w'
section
variable {l : List OpV}
theorem yj.kind (D : yj l) {i : Nat} (hi : i < l.length) : (nth l i).k = 0 ∨ (nth l i).k = 1 := by
 rcases D i hi with h | h
 ·exact .inl h
 ·exact .inr h.1
theorem yj.arg (D : yj l) {i : Nat} (hi : i < l.length) (h : (nth l i).k = 1) : (nth l i).arg ≠ 0 := by
 rcases D i hi with h1 | h1
 ·omega
 ·exact h1.2.1
theorem yj.uniq (D : yj l) {i j : Nat} (hi : i < l.length) (hj : j < l.length) (h1 : (nth l i).k = 1) (h2 : (nth l j).k = 1) (hk : (nth l i).key = (nth l j).key) (ha : (nth l i).arg = (nth l j).arg) : i = j := by
 have key : ∀ a b, a < b → b < l.length → (nth l a).k = 1 → (nth l b).k = 1 → (nth l a).key = (nth l b).key → (nth l a).arg = (nth l b).arg → False := fun a b hab hb h1 h2 hk ha => by
  rcases D b hb with h | h
  ·omega
  ·have := h.2.2 a hab
   rw [Xj.2 ⟨h1, hk, ha⟩] at this
   cases this
 rcases Nat.lt_trichotomy i j with h | h | h
 ·exact (key i j h hj h1 h2 hk ha).elim
 ·exact h
 ·exact (key j i h hi h2 h1 hk.symm ha.symm).elim
theorem zjQ (D : yj l) {w : Nat} (hw : w < l.length) (h1 : (nth l w).k = 1) : wIx l (nth l w).key (nth l w).arg = some w := by
 cases h : wIx l (nth l w).key (nth l w).arg with
 | none => have := zcb h w hw; rw [Xj.2 ⟨h1, rfl, rfl⟩] at this; cases this
 | some v =>
  obtain ⟨a, b, _⟩ := Zt h
  rw [Xj] at b
  rw [D.uniq a hw b.1 h1 b.2.1 b.2.2]
theorem Yo {o : OpV} (h : o.k = 1) : zah o = o.arg := by unfold zah; rw [if_pos h]
theorem Xi {o : OpV} (h : o.k = 0) : zah o = o.res := by unfold zah; rw [if_neg (by omega)]
theorem Yg {i : Nat} (h : (nth l i).done = true) : zR l i = true := by unfold zR; rw [h]; rfl
theorem Zu {i : Nat} (h : (nth l i).k = 0) (hi : zR l i = true) : (nth l i).done = true := by
 unfold zR at hi
 rw [decide_eq_false (show ¬ (nth l i).k = 1 by omega)] at hi
 simpa using hi
theorem zeo {r w : Nat} (hr : r < l.length) (h0 : (nth l r).k = 0) (hd : (nth l r).done = true) (hw : w < l.length) (h1 : (nth l w).k = 1) (hk : (nth l w).key = (nth l r).key) (ha : (nth l w).arg = (nth l r).res) : zR l w = true := by
 unfold zR
 rw [Bool.or_eq_true, Bool.and_eq_true]
 exact .inr ⟨by simpa using h1, Zz.2 ⟨r, hr, yR.2 ⟨h0, hd, hk.symm, ha.symm⟩⟩⟩
theorem zbw (hw : ∀ i, i < l.length → (nth l i).call < (nth l i).ret) {i k : Nat} (hi : i < l.length) (h : bef l i k = true) : (nth l i).call < (nth l k).call := by
 unfold bef at h
 simp only [Bool.and_eq_true, decide_eq_true_eq] at h
 have := hw i hi
 omega
theorem zjW.cl (D : yj l) {tau : Nat → Nat} (T : zjW l tau) {c v : Int} {i w : Nat} (hi : zll l c v i) (hw : wrI l c w) (hv : (nth l w).arg = v) : tau w ≤ tau i ∧ ∀ w', wrI l c w' → w' ≠ w → tau w' < tau w ∨ tau i < tau w' ∨ tau w' = tau w := by
 obtain ⟨h1, h2, h3, h4⟩ := hi
 obtain ⟨w1, w2, w3, w4⟩ := hw
 rcases D.kind h1 with hk | hk
 ·have hd := Zu hk h4
  rw [Xi hk] at h3
  rcases T.rd i h1 hk hd with ⟨e, _⟩ | ⟨u, hu, ha, hle, ho⟩
  ·exact absurd (by rw [hv, ← h3, e]) (D.arg w1 w3)
  ·rw [h2] at hu ho
   have : u = w := D.uniq hu.1 w1 hu.2.2.1 w3 (hu.2.1.trans w2.symm) (by rw [ha, h3, hv])
   subst this
   exact ⟨hle, fun w' hw' hne => (ho w' hw' hne).imp id .inl⟩
 ·rw [Yo hk] at h3
  have : i = w := D.uniq h1 w1 hk w3 (h2.trans w2.symm) (by rw [h3, hv])
  subst this
  refine ⟨Nat.le_refl _, fun w' _ _ => ?_⟩
  rcases Nat.lt_trichotomy (tau w') (tau i) with h | h | h
  ·exact .inl h
  ·exact .inr (.inr h)
  ·exact .inr (.inl h)
end
end Go.Proofs.Ytbeebjdnapkhhaa
