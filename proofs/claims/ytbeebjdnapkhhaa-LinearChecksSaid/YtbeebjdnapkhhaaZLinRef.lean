/-
  The reference's verdict of layer 21, in plain Lean: it is the program's.
-/
import Derived.Test.YtbeebjdnapkhhaaZLinChk
namespace Go.Proofs.Ytbeebjdnapkhhaa
set_option linter.unusedVariables false

def zds (l : List OpV) (c v w : Int) (i k : Nat) : Bool := decide ((nth l i).key = c) && (decide ((nth l k).key = c) && (decide (XV (nth l i) = v) && (decide (XV (nth l k) = w) && (yj l i && (yj l k && bef l i k)))))
def WJ (l : List OpV) (c v w : Int) : Bool := (List.range l.length).any fun i => (List.range l.length).any fun k => zds l c v w i k
def zjY (l : List OpV) (c : Int) (i k : Nat) : Bool := decide ((nth l k).key = c) && (decide ((nth l k).k = 1) && (yj l k && (WJ l c (nth l i).arg (nth l k).arg && WJ l c (nth l k).arg (nth l i).arg)))
def zkW (l : List OpV) (c : Int) (i : Nat) : Bool := decide ((nth l i).key = c) && (decide ((nth l i).k = 1) && yj l i)
def zjX (l : List OpV) (c : Int) (i : Nat) : Bool := zkW l c i && (WJ l c (nth l i).arg 0 || (List.range i).any (zjY l c i))
def Xe (l : List OpV) (c : Int) : Bool := (List.range l.length).any (zjX l c)
def WO (l : List OpV) (c : Int) : Int × Int :=
 match (List.range l.length).find? (Xz l c) with
 | some i => (2, i)
 | none => match (List.range l.length).find? (xz l c) with
  | some i => (3, i)
  | none => if Xe l c = true then (4, -1) else (0, -1)
section
variable {l : List OpV} {c : Int}
theorem Wj {v w : Int} : WJ l c v w = true ↔ zj5 l c v w := by
 unfold WJ zj5 zhJ
 rw [YW]
 simp only [YW]
 unfold zds
 simp only [Bool.and_eq_true, decide_eq_true_eq]
 constructor
 ·rintro ⟨i, hi, k, hk, h1, h2, h3, h4, h5, h6, h7⟩
  exact ⟨i, k, ⟨hi, h1, h3, h5⟩, ⟨hk, h2, h4, h6⟩, h7⟩
 ·rintro ⟨i, k, ⟨hi, h1, h3, h5⟩, ⟨hk, h2, h4, h6⟩, h7⟩
  exact ⟨i, hi, k, hk, h1, h2, h3, h4, h5, h6, h7⟩
theorem zeL {i : Nat} (hi : i < l.length) : zkW l c i = true ↔ wrI l c i := by
 unfold zkW wrI
 simp only [Bool.and_eq_true, decide_eq_true_eq]
 exact ⟨fun h => ⟨hi, h⟩, fun h => h.2⟩
theorem zbh : Xe l c = true ↔ zeM l c := by
 unfold Xe zeM
 rw [YW]
 constructor
 ·rintro ⟨i, hi, h⟩
  unfold zjX at h
  rw [Bool.and_eq_true, zeL hi, Bool.or_eq_true, Wj, YW] at h
  refine ⟨i, h.1, h.2.imp id ?_⟩
  rintro ⟨k, hk, h2⟩
  unfold zjY at h2
  simp only [Bool.and_eq_true, decide_eq_true_eq, Wj] at h2
  exact ⟨k, hk, ⟨by omega, h2.1, h2.2.1, h2.2.2.1⟩, h2.2.2.2.1, h2.2.2.2.2⟩
 ·rintro ⟨i, hi, h⟩
  refine ⟨i, hi.1, ?_⟩
  unfold zjX
  rw [Bool.and_eq_true, zeL hi.1, Bool.or_eq_true, Wj, YW]
  refine ⟨hi, h.imp id ?_⟩
  rintro ⟨k, hk, hw, h1, h2⟩
  refine ⟨k, hk, ?_⟩
  unfold zjY
  simp only [Bool.and_eq_true, decide_eq_true_eq, Wj]
  exact ⟨hw.2.1, hw.2.2.1, hw.2.2.2, h1, h2⟩
theorem zf7 {w : Nat} (hw : wrI l c w) : ∃ j, j < (yC l c).length ∧ ZX l c j = (nth l w).arg := by
 rw [Yr]
 have hm : (false, [w], (nth l w).arg) ∈ ZT l c l.length := Zl.2 (.inr ⟨w, hw.1, ZD.2 ⟨hw.2.1, hw.2.2.1, hw.2.2.2⟩, rfl⟩)
 obtain ⟨j, hj, e⟩ := List.getElem_of_mem hm
 exact ⟨j, hj, by unfold ZX; rw [zn hj, e]⟩
theorem zjr (D : yn l) {b : Nat} (hb : zhJ l c 0 b) : 0 < (yC l c).length ∧ ZX l c 0 = 0 ∧ (nth (yC l c) 0).ini = true := by
 have h0 : zi5 l c = true := by
  obtain ⟨b1, b2, b3, b4⟩ := hb
  rcases D.kind b1 with hk | hk
  ·rw [YE hk] at b3
   exact Yo.2 ⟨b, b1, yS.2 ⟨hk, Yc hk b4, b2, b3⟩⟩
  ·rw [ZB hk] at b3
   exact absurd b3 (D.arg b1 hk)
 have hm : (true, [], (0 : Int)) ∈ ZT l c l.length := Zl.2 (.inl ⟨h0, rfl⟩)
 obtain ⟨j, hj, e⟩ := List.getElem_of_mem hm
 have hj' : j < (yC l c).length := by rw [Yr]; exact hj
 have hi : (nth (yC l c) j).ini = true := by
  have h1 : nth (yC l c) j = _ := XI hj
  rw [h1, zn hj, e]
 have := (zbn hj' hi).1
 subst this
 exact ⟨hj', by unfold ZX; rw [zn hj, e], hi⟩
theorem zfQ (D : yn l) (h : zeM l c) : VW l c ≠ [] := by
 intro hc
 unfold VW at hc
 rw [zdj] at hc
 have hcf : ∀ a j, a < j → j < (yC l c).length → YL l (nth (yC l c) a) (nth (yC l c) j) = [] := fun a j haj hj => hc a (by omega) (by omega) j haj hj
 have hbf : ∀ {p q a b : Nat} {v w : Int}, p < (yC l c).length → q < (yC l c).length → ZX l c p = v → ZX l c q = w → zhJ l c v a → zhJ l c w b → bef l a b = true → Vi l (nth (yC l c) p).ops < VG l (nth (yC l c) q).ops := fun {p q a b v w} hp hq vp vq ha hb hab => by
  have m1 := zgf (l := l) ((yP D hp).2 (by rw [vp]; exact ha))
  have m2 := zhz (l := l) ((yP D hq).2 (by rw [vq]; exact hb))
  unfold bef at hab
  simp only [Bool.and_eq_true, decide_eq_true_eq] at hab
  have : ZW (nth l a) = (nth l a).ret := by unfold ZW; rw [hab.1]; rfl
  omega
 obtain ⟨i, hwi, h⟩ := h
 obtain ⟨p, hp, vp⟩ := zf7 hwi
 rcases h with ⟨a, b, ha, hb, hab⟩ | ⟨k, hki, hwk, ⟨a, b, ha, hb, hab⟩, ⟨a', b', ha', hb', hab'⟩⟩
 ·obtain ⟨q1, q2, q3⟩ := zjr D hb
  have hlt := hbf hp q1 vp q2 ha hb hab
  have hp0 : p ≠ 0 := fun e => by
   subst e
   rw [q2] at vp
   exact D.arg hwi.1 hwi.2.2.1 vp.symm
  have := Zs.1 (hcf 0 p (by omega) hp)
  rw [q3] at this
  rcases this with h | h
  ·omega
  ·cases h.1
 ·obtain ⟨q, hq, vq⟩ := zf7 hwk
  have h1 := hbf hp hq vp vq ha hb hab
  have h2 := hbf hq hp vq vp ha' hb' hab'
  have hpq : p ≠ q := fun e => by
   subst e
   rw [vp] at vq
   have := D.uniq hwi.1 hwk.1 hwi.2.2.1 hwk.2.2.1 (hwi.2.1.trans hwk.2.1.symm) vq
   omega
  rcases Nat.lt_or_gt_of_ne hpq with h | h
  ·rcases Zs.1 (hcf p q h hq) with h3 | h3 <;> omega
  ·rcases Zs.1 (hcf q p h hp) with h3 | h3 <;> omega
theorem zeY (D : yn l) (hin : ∀ o ∈ l, zak o) {a j : Nat} (haj : a < j) (hj : j < (yC l c).length) (h : YL l (nth (yC l c) a) (nth (yC l c) j) ≠ []) : zeM l c := by
 have ha : a < (yC l c).length := by omega
 have hn : ¬ (VG l (nth (yC l c) a).ops ≤ Vi l (nth (yC l c) j).ops ∨ ((nth (yC l c) a).ini = false ∧ VG l (nth (yC l c) j).ops ≤ Vi l (nth (yC l c) a).ops)) := fun h2 => h (Zs.2 h2)
 have hgo : ∀ {p q : Nat}, p < (yC l c).length → q < (yC l c).length → Vi l (nth (yC l c) p).ops < VG l (nth (yC l c) q).ops → zj5 l c (ZX l c p) (ZX l c q) := fun {p q} hp hq hlt => by
  have m1 := (yP D hp).1 (zch (l := l) (VY D hp))
  have m2 := (yP D hq).1 (zcE (l := l) (VY D hq))
  refine ⟨_, _, m1, m2, ?_⟩
  have o2 := hin _ (zK m2.1)
  unfold Vi VG ZW at hlt
  unfold bef
  cases hd : (nth l (YO l (nth (yC l c) p).ops)).done with
  | true =>
   rw [hd] at hlt
   simp only [if_true] at hlt
   simpa using hlt
  | false =>
   rw [hd] at hlt
   simp only [Bool.false_eq_true, if_false] at hlt
   unfold zak I64 at o2
   omega
 have hlt : Vi l (nth (yC l c) j).ops < VG l (nth (yC l c) a).ops := Int.lt_of_not_ge fun h2 => hn (.inl h2)
 have g1 := hgo hj ha hlt
 have hcj := Zr hj
 rcases hcj with ⟨h0, h1, h2⟩ | ⟨w, w1, w2, h1, h2⟩
 ·exfalso
  have := (zbn hj (by rw [h2])).1
  omega
 have hww : wrI l c w := by rw [ZD] at w2; exact ⟨w1, w2⟩
 rcases Zr ha with ⟨k0, k1, k2⟩ | ⟨u, u1, u2, k1, k2⟩
 ·rw [h1, k1] at g1
  exact ⟨w, hww, .inl g1⟩
 have huu : wrI l c u := by rw [ZD] at u2; exact ⟨u1, u2⟩
 have hlt2 : Vi l (nth (yC l c) a).ops < VG l (nth (yC l c) j).ops := Int.lt_of_not_ge fun h3 => hn (.inr ⟨by rw [k2], h3⟩)
 have g2 := hgo ha hj hlt2
 rw [h1, k1] at g1
 rw [h1, k1] at g2
 have hne : w ≠ u := fun e => by
  subst e
  have := VZ D ha hj (by rw [h1, k1])
  omega
 rcases Nat.lt_or_gt_of_ne hne with h3 | h3
 ·exact ⟨u, huu, .inr ⟨w, h3, hww, g2, g1⟩⟩
 ·exact ⟨w, hww, .inr ⟨u, h3, huu, g1, g2⟩⟩
theorem zi3 (D : yn l) (hin : ∀ o ∈ l, zak o) : VW l c = [] ↔ Xe l c = false := by
 constructor
 ·intro h
  rw [Bool.eq_false_iff]
  intro h2
  exact zfQ D (zbh.1 h2) h
 ·intro h
  refine Classical.byContradiction fun hne => ?_
  obtain ⟨a, j, _, _, h3, h4, h5⟩ := zd4 (l := l) (C := yC l c) (f := (yC l c).length) (i := 0) hne
  have := zbh.2 (zeY D hin h3 h4 (by rw [← h5]; exact hne))
  rw [h] at this
  cases this
theorem zeo (D : yn l) (hin : ∀ o ∈ l, zak o) : (WO l c).1 = (Xo l c).cls := by
 unfold WO Xo
 cases (List.range l.length).find? (Xz l c) with
 | some i => rfl
 | none =>
  dsimp only
  cases (List.range l.length).find? (xz l c) with
  | some i => rfl
  | none =>
   dsimp only
   cases hz : Xe l c with
   | true => rw [if_pos rfl, if_neg (fun h => by rw [(zi3 D hin).1 h] at hz; cases hz)]
   | false => rw [if_neg (by decide), if_pos ((zi3 D hin).2 hz)]
theorem zeX : 0 ≤ (Xo l c).cls := by
 unfold Xo
 split
 ·exact (by decide : (0 : Int) ≤ 2)
 ·split
  ·exact (by decide : (0 : Int) ≤ 3)
  ·split
   ·exact (by decide : (0 : Int) ≤ 0)
   ·exact (by decide : (0 : Int) ≤ 4)
end
def ZY (l : List OpV) : Nat → Option Int
 | 0 => none
 | i + 1 => match ZY l i with
  | none => if 0 < (WO l (nth l i).key).1 then some (nth l i).key else none
  | some a => if 0 < (WO l (nth l i).key).1 ∧ (nth l i).key < a then some (nth l i).key else some a
def zjZ (l : List OpV) (i : Nat) : Option Int → Prop
 | none => ∀ j, j < i → ¬ 0 < (WO l (nth l j).key).1
 | some c => (∃ j, j < i ∧ (nth l j).key = c) ∧ 0 < (WO l c).1 ∧ ∀ j, j < i → 0 < (WO l (nth l j).key).1 → c ≤ (nth l j).key
theorem zb6 {l : List OpV} : ∀ i, zjZ l i (ZY l i)
 | 0 => fun j hj => by omega
 | i + 1 => by
  have ih := zb6 (l := l) i
  unfold ZY
  cases hc : ZY l i with
  | none =>
   rw [hc] at ih
   dsimp only [zjZ] at ih ⊢
   by_cases h : 0 < (WO l (nth l i).key).1
   ·rw [if_pos h]
    refine ⟨⟨i, by omega, rfl⟩, h, fun j hj hk => ?_⟩
    by_cases e : j = i
    ·subst e; exact Int.le_refl _
    ·exact absurd hk (ih j (by omega))
   ·rw [if_neg h]
    intro j hj
    by_cases e : j = i
    ·subst e; exact h
    ·exact ih j (by omega)
  | some a =>
   rw [hc] at ih
   dsimp only [zjZ] at ih ⊢
   obtain ⟨⟨j0, h1, h2⟩, h3, h4⟩ := ih
   by_cases h : 0 < (WO l (nth l i).key).1 ∧ (nth l i).key < a
   ·rw [if_pos h]
    refine ⟨⟨i, by omega, rfl⟩, h.1, fun j hj hk => ?_⟩
    by_cases e : j = i
    ·subst e; exact Int.le_refl _
    ·have := h4 j (by omega) hk; omega
   ·rw [if_neg h]
    refine ⟨⟨j0, by omega, h2⟩, h3, fun j hj hk => ?_⟩
    by_cases e : j = i
    ·subst e
     refine Int.not_lt.1 fun hlt => h ⟨hk, hlt⟩
    ·exact h4 j (by omega) hk
theorem zf9 {l : List OpV} (D : yn l) (hin : ∀ o ∈ l, zak o) : ZY l l.length = zc5 l := by
 have h := zb6 (l := l) l.length
 have hpos : ∀ c, 0 < (WO l c).1 ↔ (Xo l c).cls ≠ 0 := fun c => by
  rw [zeo D hin]
  have := zeX (l := l) (c := c)
  omega
 cases hv : zc5 l with
 | none =>
  unfold zc5 at hv
  rw [List.find?_eq_none] at hv
  cases hc : ZY l l.length with
  | none => rfl
  | some c =>
   rw [hc] at h
   dsimp only [zjZ] at h
   obtain ⟨⟨j, h1, h2⟩, h3, _⟩ := h
   have := hv c (by rw [← h2]; exact Uw l j h1)
   simp only [decide_eq_true_eq] at this
   exact absurd ((hpos c).1 h3) this
 | some d =>
  have hv' := hv
  unfold zc5 at hv
  obtain ⟨hd, i, hi, he, hlt⟩ := List.find?_eq_some_iff_getElem.1 hv
  simp only [decide_eq_true_eq] at hd
  have hdm : d ∈ yU l := List.mem_of_find?_eq_some hv
  obtain ⟨o, ho, hok⟩ := (Zv l d).1 hdm
  obtain ⟨j, hj, hje⟩ := List.getElem_of_mem ho
  have hjd : (nth l j).key = d := by rw [zn hj, hje, hok]
  cases hc : ZY l l.length with
  | none =>
   rw [hc] at h
   dsimp only [zjZ] at h
   exact absurd (by rw [hjd]; exact (hpos d).2 hd) (h j hj)
  | some c =>
   rw [hc] at h
   dsimp only [zjZ] at h
   obtain ⟨⟨j', h1, h2⟩, h3, h4⟩ := h
   have hle := h4 j hj (by rw [hjd]; exact (hpos d).2 hd)
   rw [hjd] at hle
   have hcm : c ∈ yU l := by rw [← h2]; exact Uw l j' h1
   obtain ⟨p, hp, hpe⟩ := List.getElem_of_mem hcm
   have hpi : i ≤ p := by
    refine Nat.le_of_not_lt fun hlt2 => ?_
    have := hlt p hlt2
    simp only [hpe, Bool.not_eq_true', decide_eq_false_iff_not] at this
    exact this ((hpos c).1 h3)
   have hdc : d ≤ c := by
    rcases Nat.lt_or_eq_of_le hpi with h5 | h5
    ·have := List.pairwise_iff_getElem.1 (Ux l) i p hi hp h5
     rw [he, hpe] at this
     omega
    ·subst h5
     rw [he] at hpe
     omega
   have : c = d := by omega
   rw [this]
end Go.Proofs.Ytbeebjdnapkhhaa
