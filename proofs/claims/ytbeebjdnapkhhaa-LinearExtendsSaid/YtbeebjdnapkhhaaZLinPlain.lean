/-
  Linearizability of registers, in plain Lean: points in time, violations; what has points in time has no violation.
-/
import Derived.Test.YtbeebjdnapkhhaaZFmLin2
import Derived.Test.YtbeebjdnapkhhaaZG
namespace Go.Proofs.Ytbeebjdnapkhhaa
set_option linter.unusedVariables false

def Vt (key v : Int) (o : OpV) : Bool := decide (o.k = 0) && (o.done && (decide (o.key = key) && decide (o.res = v)))
theorem yO {key v : Int} {o : OpV} : Vt key v o = true ↔ o.k = 0 ∧ o.done = true ∧ o.key = key ∧ o.res = v := by simp [Vt]
def zW (l : List OpV) (i : Nat) : Bool := (nth l i).done || (decide ((nth l i).k = 1) && l.any (Vt (nth l i).key (nth l i).arg))
theorem Yi {α : Type} [Inhabited α] {l : List α} {f : α → Bool} : l.any f = true ↔ ∃ i, i < l.length ∧ f (nth l i) = true := by
 rw [List.any_eq_true]
 constructor
 ·rintro ⟨x, hx, h⟩
  obtain ⟨i, hi, e⟩ := List.getElem_of_mem hx
  exact ⟨i, hi, by rw [zi hi, e]; exact h⟩
 ·rintro ⟨i, hi, h⟩; exact ⟨_, zn hi, h⟩
def zkO (l : List OpV) (c v : Int) (i : Nat) : Prop := i < l.length ∧ (nth l i).key = c ∧ UU (nth l i) = v ∧ zW l i = true
def wrI (l : List OpV) (c : Int) (i : Nat) : Prop := i < l.length ∧ (nth l i).key = c ∧ (nth l i).k = 1 ∧ zW l i = true
def zfP (l : List OpV) (i : Nat) : Bool := decide ((nth l i).k = 0) && ((nth l i).done && (decide ((nth l i).res ≠ 0) && (wIx l (nth l i).key (nth l i).res).isNone))
def zgh (l : List OpV) (i : Nat) : Bool := decide ((nth l i).k = 0) && ((nth l i).done && (decide ((nth l i).res ≠ 0) && match wIx l (nth l i).key (nth l i).res with | none => false | some w => bef l i w))
structure zkc (l : List OpV) (tau : Nat → Nat) : Prop where
 rt : ∀ i k, i < l.length → k < l.length → zW l i = true → zW l k = true → bef l i k = true → tau i < tau k
 rd : ∀ r, r < l.length → (nth l r).k = 0 → (nth l r).done = true → ((nth l r).res = 0 ∧ ∀ w, wrI l (nth l r).key w → tau r ≤ tau w) ∨
  ∃ w, wrI l (nth l r).key w ∧ (nth l w).arg = (nth l r).res ∧ tau w ≤ tau r ∧ ∀ w', wrI l (nth l r).key w' → w' ≠ w → tau w' < tau w ∨ tau r < tau w'
section
variable {l : List OpV}
theorem yq.kind (D : yq l) {i : Nat} (hi : i < l.length) : (nth l i).k = 0 ∨ (nth l i).k = 1 := by
 rcases D i hi with h | h
 ·exact .inl h
 ·exact .inr h.1
theorem yq.arg (D : yq l) {i : Nat} (hi : i < l.length) (h : (nth l i).k = 1) : (nth l i).arg ≠ 0 := by
 rcases D i hi with h1 | h1
 ·omega
 ·exact h1.2.1
theorem yq.uniq (D : yq l) {i j : Nat} (hi : i < l.length) (hj : j < l.length) (h1 : (nth l i).k = 1) (h2 : (nth l j).k = 1) (hk : (nth l i).key = (nth l j).key) (ha : (nth l i).arg = (nth l j).arg) : i = j := by
 have key : ∀ a b, a < b → b < l.length → (nth l a).k = 1 → (nth l b).k = 1 → (nth l a).key = (nth l b).key → (nth l a).arg = (nth l b).arg → False := fun a b hab hb h1 h2 hk ha => by
  rcases D b hb with h | h
  ·omega
  ·have := h.2.2 a hab
   rw [YW.2 ⟨h1, hk, ha⟩] at this
   cases this
 rcases Nat.lt_trichotomy i j with h | h | h
 ·exact (key i j h hj h1 h2 hk ha).elim
 ·exact h
 ·exact (key j i h hi h2 h1 hk.symm ha.symm).elim
theorem zjf (D : yq l) {w : Nat} (hw : w < l.length) (h1 : (nth l w).k = 1) : wIx l (nth l w).key (nth l w).arg = some w := by
 cases h : wIx l (nth l w).key (nth l w).arg with
 | none => have := zbW h w hw; rw [YW.2 ⟨h1, rfl, rfl⟩] at this; cases this
 | some v =>
  obtain ⟨a, b, _⟩ := Zk h
  rw [YW] at b
  rw [D.uniq a hw b.1 h1 b.2.1 b.2.2]
theorem Yc {o : OpV} (h : o.k = 1) : UU o = o.arg := by unfold UU; rw [if_pos h]
theorem YV {o : OpV} (h : o.k = 0) : UU o = o.res := by unfold UU; rw [if_neg (by omega)]
theorem ZR {i : Nat} (h : (nth l i).done = true) : zW l i = true := by unfold zW; rw [h]; rfl
theorem ZS {i : Nat} (h : (nth l i).k = 0) (hi : zW l i = true) : (nth l i).done = true := by
 unfold zW at hi
 rw [decide_eq_false (show ¬ (nth l i).k = 1 by omega)] at hi
 simpa using hi
theorem zd4 {r w : Nat} (hr : r < l.length) (h0 : (nth l r).k = 0) (hd : (nth l r).done = true) (hw : w < l.length) (h1 : (nth l w).k = 1) (hk : (nth l w).key = (nth l r).key) (ha : (nth l w).arg = (nth l r).res) : zW l w = true := by
 unfold zW
 rw [Bool.or_eq_true, Bool.and_eq_true]
 exact .inr ⟨by simpa using h1, Yi.2 ⟨r, hr, yO.2 ⟨h0, hd, hk.symm, ha.symm⟩⟩⟩
theorem zbe (hw : ∀ i, i < l.length → (nth l i).call < (nth l i).ret) {i k : Nat} (hi : i < l.length) (h : bef l i k = true) : (nth l i).call < (nth l k).call := by
 unfold bef at h
 simp only [Bool.and_eq_true, decide_eq_true_eq] at h
 have := hw i hi
 omega
theorem zkc.cl (D : yq l) {tau : Nat → Nat} (T : zkc l tau) {c v : Int} {i w : Nat} (hi : zkO l c v i) (hw : wrI l c w) (hv : (nth l w).arg = v) : tau w ≤ tau i ∧ ∀ w', wrI l c w' → w' ≠ w → tau w' < tau w ∨ tau i < tau w' ∨ tau w' = tau w := by
 obtain ⟨h1, h2, h3, h4⟩ := hi
 obtain ⟨w1, w2, w3, w4⟩ := hw
 rcases D.kind h1 with hk | hk
 ·have hd := ZS hk h4
  rw [YV hk] at h3
  rcases T.rd i h1 hk hd with ⟨e, _⟩ | ⟨u, hu, ha, hle, ho⟩
  ·exact absurd (by rw [hv, ← h3, e]) (D.arg w1 w3)
  ·rw [h2] at hu ho
   have : u = w := D.uniq hu.1 w1 hu.2.2.1 w3 (hu.2.1.trans w2.symm) (by rw [ha, h3, hv])
   subst this
   exact ⟨hle, fun w' hw' hne => (ho w' hw' hne).imp id .inl⟩
 ·rw [Yc hk] at h3
  have : i = w := D.uniq h1 w1 hk w3 (h2.trans w2.symm) (by rw [h3, hv])
  subst this
  refine ⟨Nat.le_refl _, fun w' _ _ => ?_⟩
  rcases Nat.lt_trichotomy (tau w') (tau i) with h | h | h
  ·exact .inl h
  ·exact .inr (.inr h)
  ·exact .inr (.inl h)
end
end Go.Proofs.Ytbeebjdnapkhhaa
