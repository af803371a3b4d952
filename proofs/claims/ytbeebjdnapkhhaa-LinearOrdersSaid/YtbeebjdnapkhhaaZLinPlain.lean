/-
  Linearizability of registers, in plain Lean: points in time, violations; what has points in time has no violation.
-/
import Derived.Test.YtbeebjdnapkhhaaZFmLin2
import Derived.Test.YtbeebjdnapkhhaaZG
namespace Go.Proofs.Ytbeebjdnapkhhaa
set_option linter.unusedVariables false

def VP (key v : Int) (o : OpV) : Bool := decide (o.k = 0) && (o.done && (decide (o.key = key) && decide (o.res = v)))
theorem yI {key v : Int} {o : OpV} : VP key v o = true ↔ o.k = 0 ∧ o.done = true ∧ o.key = key ∧ o.res = v := by simp [VP]
def zN (l : List OpV) (i : Nat) : Bool := (nth l i).done || (decide ((nth l i).k = 1) && l.any (VP (nth l i).key (nth l i).arg))
theorem Zo {α : Type} [Inhabited α] {l : List α} {f : α → Bool} : l.any f = true ↔ ∃ i, i < l.length ∧ f (nth l i) = true := by
 rw [List.any_eq_true]
 constructor
 ·rintro ⟨x, hx, h⟩
  obtain ⟨i, hi, e⟩ := List.getElem_of_mem hx
  exact ⟨i, hi, by rw [zh hi, e]; exact h⟩
 ·rintro ⟨i, hi, h⟩; exact ⟨_, zp hi, h⟩
def ziA (l : List OpV) (c v : Int) (i : Nat) : Prop := i < l.length ∧ (nth l i).key = c ∧ VG (nth l i) = v ∧ zN l i = true
def zkT (l : List OpV) (c v w : Int) : Prop := ∃ i k, ziA l c v i ∧ ziA l c w k ∧ bef l i k = true
def wrI (l : List OpV) (c : Int) (i : Nat) : Prop := i < l.length ∧ (nth l i).key = c ∧ (nth l i).k = 1 ∧ zN l i = true
def zdK (l : List OpV) (c : Int) : Prop := ∃ i, wrI l c i ∧ (zkT l c (nth l i).arg 0 ∨ ∃ k, k < i ∧ wrI l c k ∧ zkT l c (nth l i).arg (nth l k).arg ∧ zkT l c (nth l k).arg (nth l i).arg)
def zcn (l : List OpV) (i : Nat) : Bool := decide ((nth l i).k = 0) && ((nth l i).done && (decide ((nth l i).res ≠ 0) && (wIx l (nth l i).key (nth l i).res).isNone))
def za6 (l : List OpV) (i : Nat) : Bool := decide ((nth l i).k = 0) && ((nth l i).done && (decide ((nth l i).res ≠ 0) && match wIx l (nth l i).key (nth l i).res with | none => false | some w => bef l i w))
structure zgM (l : List OpV) (c : Int) : Prop where
 thin : ∀ i, i < l.length → (nth l i).key = c → zcn l i = false
 early : ∀ i, i < l.length → (nth l i).key = c → za6 l i = false
 zones : ¬ zdK l c
structure ziK (l : List OpV) (tau : Nat → Nat) : Prop where
 rt : ∀ i k, i < l.length → k < l.length → zN l i = true → zN l k = true → bef l i k = true → tau i < tau k
 rd : ∀ r, r < l.length → (nth l r).k = 0 → (nth l r).done = true → ((nth l r).res = 0 ∧ ∀ w, wrI l (nth l r).key w → tau r ≤ tau w) ∨
  ∃ w, wrI l (nth l r).key w ∧ (nth l w).arg = (nth l r).res ∧ tau w ≤ tau r ∧ ∀ w', wrI l (nth l r).key w' → w' ≠ w → tau w' < tau w ∨ tau r < tau w'
section
variable {l : List OpV}
theorem ya.kind (D : ya l) {i : Nat} (hi : i < l.length) : (nth l i).k = 0 ∨ (nth l i).k = 1 := by
 rcases D i hi with h | h
 ·exact .inl h
 ·exact .inr h.1
theorem ya.arg (D : ya l) {i : Nat} (hi : i < l.length) (h : (nth l i).k = 1) : (nth l i).arg ≠ 0 := by
 rcases D i hi with h1 | h1
 ·omega
 ·exact h1.2.1
theorem ya.uniq (D : ya l) {i j : Nat} (hi : i < l.length) (hj : j < l.length) (h1 : (nth l i).k = 1) (h2 : (nth l j).k = 1) (hk : (nth l i).key = (nth l j).key) (ha : (nth l i).arg = (nth l j).arg) : i = j := by
 have key : ∀ a b, a < b → b < l.length → (nth l a).k = 1 → (nth l b).k = 1 → (nth l a).key = (nth l b).key → (nth l a).arg = (nth l b).arg → False := fun a b hab hb h1 h2 hk ha => by
  rcases D b hb with h | h
  ·omega
  ·have := h.2.2 a hab
   rw [Yb.2 ⟨h1, hk, ha⟩] at this
   cases this
 rcases Nat.lt_trichotomy i j with h | h | h
 ·exact (key i j h hj h1 h2 hk ha).elim
 ·exact h
 ·exact (key j i h hi h2 h1 hk.symm ha.symm).elim
theorem ziu (D : ya l) {w : Nat} (hw : w < l.length) (h1 : (nth l w).k = 1) : wIx l (nth l w).key (nth l w).arg = some w := by
 cases h : wIx l (nth l w).key (nth l w).arg with
 | none => have := VW h w hw; rw [Yb.2 ⟨h1, rfl, rfl⟩] at this; cases this
 | some v =>
  obtain ⟨a, b, _⟩ := Zx h
  rw [Yb] at b
  rw [D.uniq a hw b.1 h1 b.2.1 b.2.2]
theorem ZL {o : OpV} (h : o.k = 1) : VG o = o.arg := by unfold VG; rw [if_pos h]
theorem Yv {o : OpV} (h : o.k = 0) : VG o = o.res := by unfold VG; rw [if_neg (by omega)]
theorem Zz {i : Nat} (h : (nth l i).done = true) : zN l i = true := by unfold zN; rw [h]; rfl
theorem xE {i : Nat} (h : (nth l i).k = 0) (hi : zN l i = true) : (nth l i).done = true := by
 unfold zN at hi
 rw [decide_eq_false (show ¬ (nth l i).k = 1 by omega)] at hi
 simpa using hi
theorem zez {r w : Nat} (hr : r < l.length) (h0 : (nth l r).k = 0) (hd : (nth l r).done = true) (hw : w < l.length) (h1 : (nth l w).k = 1) (hk : (nth l w).key = (nth l r).key) (ha : (nth l w).arg = (nth l r).res) : zN l w = true := by
 unfold zN
 rw [Bool.or_eq_true, Bool.and_eq_true]
 exact .inr ⟨by simpa using h1, Zo.2 ⟨r, hr, yI.2 ⟨h0, hd, hk.symm, ha.symm⟩⟩⟩
theorem zbJ (hw : ∀ i, i < l.length → (nth l i).call < (nth l i).ret) {i k : Nat} (hi : i < l.length) (h : bef l i k = true) : (nth l i).call < (nth l k).call := by
 unfold bef at h
 simp only [Bool.and_eq_true, decide_eq_true_eq] at h
 have := hw i hi
 omega
theorem ziK.cl (D : ya l) {tau : Nat → Nat} (T : ziK l tau) {c v : Int} {i w : Nat} (hi : ziA l c v i) (hw : wrI l c w) (hv : (nth l w).arg = v) : tau w ≤ tau i ∧ ∀ w', wrI l c w' → w' ≠ w → tau w' < tau w ∨ tau i < tau w' ∨ tau w' = tau w := by
 obtain ⟨h1, h2, h3, h4⟩ := hi
 obtain ⟨w1, w2, w3, w4⟩ := hw
 rcases D.kind h1 with hk | hk
 ·have hd := xE hk h4
  rw [Yv hk] at h3
  rcases T.rd i h1 hk hd with ⟨e, _⟩ | ⟨u, hu, ha, hle, ho⟩
  ·exact absurd (by rw [hv, ← h3, e]) (D.arg w1 w3)
  ·rw [h2] at hu ho
   have : u = w := D.uniq hu.1 w1 hu.2.2.1 w3 (hu.2.1.trans w2.symm) (by rw [ha, h3, hv])
   subst this
   exact ⟨hle, fun w' hw' hne => (ho w' hw' hne).imp id .inl⟩
 ·rw [ZL hk] at h3
  have : i = w := D.uniq h1 w1 hk w3 (h2.trans w2.symm) (by rw [h3, hv])
  subst this
  refine ⟨Nat.le_refl _, fun w' _ _ => ?_⟩
  rcases Nat.lt_trichotomy (tau w') (tau i) with h | h | h
  ·exact .inl h
  ·exact .inr (.inr h)
  ·exact .inr (.inl h)
theorem ziK.noViol (D : ya l) {tau : Nat → Nat} (T : ziK l tau) (hinj : ∀ i k, i < l.length → k < l.length → zN l i = true → zN l k = true → tau i = tau k → i = k) (c : Int) : zgM l c where
 thin i hi hk := by
  cases h : zcn l i with
  | false => rfl
  | true =>
   unfold zcn at h
   simp only [Bool.and_eq_true, decide_eq_true_eq, Option.isNone_iff_eq_none] at h
   obtain ⟨h0, hd, hr, hn⟩ := h
   rcases T.rd i hi h0 hd with ⟨e, _⟩ | ⟨w, hw, ha, _⟩
   ·exact absurd e hr
   ·have := VW hn w hw.1
    rw [Yb.2 ⟨hw.2.2.1, hw.2.1, ha⟩] at this
    cases this
 early i hi hk := by
  cases h : za6 l i with
  | false => rfl
  | true =>
   unfold za6 at h
   simp only [Bool.and_eq_true, decide_eq_true_eq] at h
   obtain ⟨h0, hd, hr, hn⟩ := h
   rcases T.rd i hi h0 hd with ⟨e, _⟩ | ⟨w, hw, ha, hle, _⟩
   ·exact absurd e hr
   ·have e := ziu D hw.1 hw.2.2.1
    rw [hw.2.1, ha] at e
    rw [e] at hn
    have := T.rt i w hi hw.1 (Zz hd) hw.2.2.2 hn
    omega
 zones := by
  rintro ⟨i, hwi, h⟩
  rcases h with ⟨a, b, ha, hb, hab⟩ | ⟨k, hki, hwk, ⟨a, b, ha, hb, hab⟩, ⟨a', b', ha', hb', hab'⟩⟩
  ·have h1 := (T.cl D ha hwi rfl).1
   have h2 := T.rt a b ha.1 hb.1 ha.2.2.2 hb.2.2.2 hab
   obtain ⟨b1, b2, b3, b4⟩ := hb
   rcases D.kind b1 with hk | hk
   ·have hd := xE hk b4
    rw [Yv hk] at b3
    rcases T.rd b b1 hk hd with ⟨_, ho⟩ | ⟨u, hu, hua, _⟩
    ·have := ho i (by rw [b2]; exact hwi)
     omega
    ·exact D.arg hu.1 hu.2.2.1 (by rw [hua, b3])
   ·rw [ZL hk] at b3
    exact D.arg b1 hk b3
  ·have hne : k ≠ i := by omega
   have hti : tau k ≠ tau i := fun e => hne (hinj k i hwk.1 hwi.1 hwk.2.2.2 hwi.2.2.2 e)
   have h1 := T.rt a b ha.1 hb.1 ha.2.2.2 hb.2.2.2 hab
   have h2 := T.rt a' b' ha'.1 hb'.1 ha'.2.2.2 hb'.2.2.2 hab'
   obtain ⟨p1, p2⟩ := T.cl D ha hwi rfl
   obtain ⟨q1, q2⟩ := T.cl D hb hwk rfl
   obtain ⟨r1, r2⟩ := T.cl D ha' hwk rfl
   obtain ⟨s1, s2⟩ := T.cl D hb' hwi rfl
   have p3 := p2 k hwk hne
   have q3 := q2 i hwi (Ne.symm hne)
   have r3 := r2 i hwi (Ne.symm hne)
   have s3 := s2 k hwk hne
   omega
end
end Go.Proofs.Ytbeebjdnapkhhaa
