/-
  Linearizability of registers, in plain Lean: points in time, violations; what has points in time has no violation.
-/
import Derived.Test.YtbeebjdnapkhhaaZFmLin2
import Derived.Test.YtbeebjdnapkhhaaZG
namespace Go.Proofs.Ytbeebjdnapkhhaa
set_option linter.unusedVariables false

def zbn (key v : Int) (o : OpV) : Bool := decide (o.k = 0) && (o.done && (decide (o.key = key) && decide (o.res = v)))
theorem yz {key v : Int} {o : OpV} : zbn key v o = true ↔ o.k = 0 ∧ o.done = true ∧ o.key = key ∧ o.res = v := by simp [zbn]
def zM (l : List OpV) (i : Nat) : Bool := (nth l i).done || (decide ((nth l i).k = 1) && l.any (zbn (nth l i).key (nth l i).arg))
theorem YE {α : Type} [Inhabited α] {l : List α} {f : α → Bool} : l.any f = true ↔ ∃ i, i < l.length ∧ f (nth l i) = true := by
 rw [List.any_eq_true]
 constructor
 ·rintro ⟨x, hx, h⟩
  obtain ⟨i, hi, e⟩ := List.getElem_of_mem hx
  exact ⟨i, hi, by rw [zi hi, e]; exact h⟩
 ·rintro ⟨i, hi, h⟩; exact ⟨_, zj hi, h⟩
def zhb (l : List OpV) (c v : Int) (i : Nat) : Prop := i < l.length ∧ (nth l i).key = c ∧ Vc (nth l i) = v ∧ zM l i = true
def zjD (l : List OpV) (c v w : Int) : Prop := ∃ i k, zhb l c v i ∧ zhb l c w k ∧ bef l i k = true
def wrI (l : List OpV) (c : Int) (i : Nat) : Prop := i < l.length ∧ (nth l i).key = c ∧ (nth l i).k = 1 ∧ zM l i = true
def zcP (l : List OpV) (c : Int) : Prop := ∃ i, wrI l c i ∧ (zjD l c (nth l i).arg 0 ∨ ∃ k, k < i ∧ wrI l c k ∧ zjD l c (nth l i).arg (nth l k).arg ∧ zjD l c (nth l k).arg (nth l i).arg)
def zbC (l : List OpV) (i : Nat) : Bool := decide ((nth l i).k = 0) && ((nth l i).done && (decide ((nth l i).res ≠ 0) && (wIx l (nth l i).key (nth l i).res).isNone))
def zam (l : List OpV) (i : Nat) : Bool := decide ((nth l i).k = 0) && ((nth l i).done && (decide ((nth l i).res ≠ 0) && match wIx l (nth l i).key (nth l i).res with | none => false | some w => bef l i w))
structure zfq (l : List OpV) (c : Int) : Prop where
 thin : ∀ i, i < l.length → (nth l i).key = c → zbC l i = false
 early : ∀ i, i < l.length → (nth l i).key = c → zam l i = false
 zones : ¬ zcP l c
structure zhk (l : List OpV) (tau : Nat → Nat) : Prop where
 rt : ∀ i k, i < l.length → k < l.length → zM l i = true → zM l k = true → bef l i k = true → tau i < tau k
 rd : ∀ r, r < l.length → (nth l r).k = 0 → (nth l r).done = true → ((nth l r).res = 0 ∧ ∀ w, wrI l (nth l r).key w → tau r ≤ tau w) ∨
  ∃ w, wrI l (nth l r).key w ∧ (nth l w).arg = (nth l r).res ∧ tau w ≤ tau r ∧ ∀ w', wrI l (nth l r).key w' → w' ≠ w → tau w' < tau w ∨ tau r < tau w'
section
variable {l : List OpV}
theorem zU.kind (D : zU l) {i : Nat} (hi : i < l.length) : (nth l i).k = 0 ∨ (nth l i).k = 1 := by
 rcases D i hi with h | h
 ·exact .inl h
 ·exact .inr h.1
theorem zU.arg (D : zU l) {i : Nat} (hi : i < l.length) (h : (nth l i).k = 1) : (nth l i).arg ≠ 0 := by
 rcases D i hi with h1 | h1
 ·omega
 ·exact h1.2.1
theorem zU.uniq (D : zU l) {i j : Nat} (hi : i < l.length) (hj : j < l.length) (h1 : (nth l i).k = 1) (h2 : (nth l j).k = 1) (hk : (nth l i).key = (nth l j).key) (ha : (nth l i).arg = (nth l j).arg) : i = j := by
 have key : ∀ a b, a < b → b < l.length → (nth l a).k = 1 → (nth l b).k = 1 → (nth l a).key = (nth l b).key → (nth l a).arg = (nth l b).arg → False := fun a b hab hb h1 h2 hk ha => by
  rcases D b hb with h | h
  ·omega
  ·have := h.2.2 a hab
   rw [ZJ.2 ⟨h1, hk, ha⟩] at this
   cases this
 rcases Nat.lt_trichotomy i j with h | h | h
 ·exact (key i j h hj h1 h2 hk ha).elim
 ·exact h
 ·exact (key j i h hi h2 h1 hk.symm ha.symm).elim
theorem zg8 (D : zU l) {w : Nat} (hw : w < l.length) (h1 : (nth l w).k = 1) : wIx l (nth l w).key (nth l w).arg = some w := by
 cases h : wIx l (nth l w).key (nth l w).arg with
 | none => have := Vm h w hw; rw [ZJ.2 ⟨h1, rfl, rfl⟩] at this; cases this
 | some v =>
  obtain ⟨a, b, _⟩ := Ze h
  rw [ZJ] at b
  rw [D.uniq a hw b.1 h1 b.2.1 b.2.2]
theorem Zs {o : OpV} (h : o.k = 1) : Vc o = o.arg := by unfold Vc; rw [if_pos h]
theorem Yd {o : OpV} (h : o.k = 0) : Vc o = o.res := by unfold Vc; rw [if_neg (by omega)]
theorem xK {i : Nat} (h : (nth l i).done = true) : zM l i = true := by unfold zM; rw [h]; rfl
theorem xv {i : Nat} (h : (nth l i).k = 0) (hi : zM l i = true) : (nth l i).done = true := by
 unfold zM at hi
 rw [decide_eq_false (show ¬ (nth l i).k = 1 by omega)] at hi
 simpa using hi
theorem zdy {r w : Nat} (hr : r < l.length) (h0 : (nth l r).k = 0) (hd : (nth l r).done = true) (hw : w < l.length) (h1 : (nth l w).k = 1) (hk : (nth l w).key = (nth l r).key) (ha : (nth l w).arg = (nth l r).res) : zM l w = true := by
 unfold zM
 rw [Bool.or_eq_true, Bool.and_eq_true]
 exact .inr ⟨by simpa using h1, YE.2 ⟨r, hr, yz.2 ⟨h0, hd, hk.symm, ha.symm⟩⟩⟩
theorem zaW (hw : ∀ i, i < l.length → (nth l i).call < (nth l i).ret) {i k : Nat} (hi : i < l.length) (h : bef l i k = true) : (nth l i).call < (nth l k).call := by
 unfold bef at h
 simp only [Bool.and_eq_true, decide_eq_true_eq] at h
 have := hw i hi
 omega
theorem zhk.cl (D : zU l) {tau : Nat → Nat} (T : zhk l tau) {c v : Int} {i w : Nat} (hi : zhb l c v i) (hw : wrI l c w) (hv : (nth l w).arg = v) : tau w ≤ tau i ∧ ∀ w', wrI l c w' → w' ≠ w → tau w' < tau w ∨ tau i < tau w' ∨ tau w' = tau w := by
 obtain ⟨h1, h2, h3, h4⟩ := hi
 obtain ⟨w1, w2, w3, w4⟩ := hw
 rcases D.kind h1 with hk | hk
 ·have hd := xv hk h4
  rw [Yd hk] at h3
  rcases T.rd i h1 hk hd with ⟨e, _⟩ | ⟨u, hu, ha, hle, ho⟩
  ·exact absurd (by rw [hv, ← h3, e]) (D.arg w1 w3)
  ·rw [h2] at hu ho
   have : u = w := D.uniq hu.1 w1 hu.2.2.1 w3 (hu.2.1.trans w2.symm) (by rw [ha, h3, hv])
   subst this
   exact ⟨hle, fun w' hw' hne => (ho w' hw' hne).imp id .inl⟩
 ·rw [Zs hk] at h3
  have : i = w := D.uniq h1 w1 hk w3 (h2.trans w2.symm) (by rw [h3, hv])
  subst this
  refine ⟨Nat.le_refl _, fun w' _ _ => ?_⟩
  rcases Nat.lt_trichotomy (tau w') (tau i) with h | h | h
  ·exact .inl h
  ·exact .inr (.inr h)
  ·exact .inr (.inl h)
theorem zhk.noViol (D : zU l) {tau : Nat → Nat} (T : zhk l tau) (hinj : ∀ i k, i < l.length → k < l.length → zM l i = true → zM l k = true → tau i = tau k → i = k) (c : Int) : zfq l c where
 thin i hi hk := by
  cases h : zbC l i with
  | false => rfl
  | true =>
   unfold zbC at h
   simp only [Bool.and_eq_true, decide_eq_true_eq, Option.isNone_iff_eq_none] at h
   obtain ⟨h0, hd, hr, hn⟩ := h
   rcases T.rd i hi h0 hd with ⟨e, _⟩ | ⟨w, hw, ha, _⟩
   ·exact absurd e hr
   ·have := Vm hn w hw.1
    rw [ZJ.2 ⟨hw.2.2.1, hw.2.1, ha⟩] at this
    cases this
 early i hi hk := by
  cases h : zam l i with
  | false => rfl
  | true =>
   unfold zam at h
   simp only [Bool.and_eq_true, decide_eq_true_eq] at h
   obtain ⟨h0, hd, hr, hn⟩ := h
   rcases T.rd i hi h0 hd with ⟨e, _⟩ | ⟨w, hw, ha, hle, _⟩
   ·exact absurd e hr
   ·have e := zg8 D hw.1 hw.2.2.1
    rw [hw.2.1, ha] at e
    rw [e] at hn
    have := T.rt i w hi hw.1 (xK hd) hw.2.2.2 hn
    omega
 zones := by
  rintro ⟨i, hwi, h⟩
  rcases h with ⟨a, b, ha, hb, hab⟩ | ⟨k, hki, hwk, ⟨a, b, ha, hb, hab⟩, ⟨a', b', ha', hb', hab'⟩⟩
  ·have h1 := (T.cl D ha hwi rfl).1
   have h2 := T.rt a b ha.1 hb.1 ha.2.2.2 hb.2.2.2 hab
   obtain ⟨b1, b2, b3, b4⟩ := hb
   rcases D.kind b1 with hk | hk
   ·have hd := xv hk b4
    rw [Yd hk] at b3
    rcases T.rd b b1 hk hd with ⟨_, ho⟩ | ⟨u, hu, hua, _⟩
    ·have := ho i (by rw [b2]; exact hwi)
     omega
    ·exact D.arg hu.1 hu.2.2.1 (by rw [hua, b3])
   ·rw [Zs hk] at b3
    exact D.arg b1 hk b3
  ·have hne : k ≠ i := by omega
   have hti : tau k ≠ tau i := fun e => hne (hinj k i hwk.1 hwi.1 hwk.2.2.2 hwi.2.2.2 e)
   have h1 := T.rt a b ha.1 hb.1 ha.2.2.2 hb.2.2.2 hab
   have h2 := T.rt a' b' ha'.1 hb'.1 ha'.2.2.2 hb'.2.2.2 hab'
   obtain ⟨p1, p2⟩ := T.cl D ha hwi rfl
   obtain ⟨q1, q2⟩ := T.cl D hb hwk rfl
   obtain ⟨r1, r2⟩ := T.cl D ha' hwk rfl
   obtain ⟨s1, s2⟩ := T.cl D hb' hwi rfl
   have p3 := p2 k hwk hne
   have q3 := q2 i hwi (Ne.symm hne)
   have r3 := r2 i hwi (Ne.symm hne)
   have s3 := s2 k hwk hne
   omega
end
end Go.Proofs.Ytbeebjdnapkhhaa
