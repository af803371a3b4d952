/-
  What is in the clusters of a key; the verdict about a key.
-/
import Derived.Test.YtbeebjdnapkhhaaZFmClus3
namespace Go.Proofs.Ytbeebjdnapkhhaa
set_option linter.unusedVariables false

section
variable {l : List OpV} {c : Int}
def Ve (l : List OpV) (c : Int) (j : Nat) : Int := (nth (Yg l c l.length) j).2.2
theorem XT : (Zf l c).length = (Yg l c l.length).length := by unfold Zf; exact Zd _ _
theorem YI {j : Nat} (hj : j < (Zf l c).length) : (zjy l c = true ∧ Ve l c j = 0 ∧ nth (Zf l c) j = ⟨true, YA l c 0 l.length⟩) ∨
  ∃ w, w < l.length ∧ wrB l c w = true ∧ Ve l c j = (nth l w).arg ∧ nth (Zf l c) j = ⟨false, w :: YA l c (nth l w).arg l.length⟩ := by
 rw [XT] at hj
 have h1 : nth (Zf l c) j = _ := WA hj
 have hm := zn hj
 unfold Ve
 rcases Yv.1 hm with ⟨h0, e⟩ | ⟨w, w1, w2, e⟩
 ·left
  refine ⟨h0, by rw [e], ?_⟩
  rw [h1, e]; rfl
 ·right
  refine ⟨w, w1, w2, by rw [e], ?_⟩
  rw [h1, e]; rfl
theorem xR (D : yq l) {j : Nat} (hj : j < (Zf l c).length) {i : Nat} : i ∈ (nth (Zf l c) j).ops ↔ zkO l c (Ve l c j) i := by
 have rd : ∀ v, i ∈ YA l c v l.length ↔ zkO l c v i ∧ (nth l i).k = 0 := fun v => by
  rw [YS, yO]
  unfold zkO
  constructor
  ·rintro ⟨h1, h2, h3, h4, h5⟩
   exact ⟨⟨h1, h4, (YV h2).trans h5, ZR h3⟩, h2⟩
  ·rintro ⟨⟨h1, h2, h3, h4⟩, h5⟩
   exact ⟨h1, h5, ZS h5 h4, h2, (YV h5).symm.trans h3⟩
 rcases YI hj with ⟨h0, h1, h2⟩ | ⟨w, w1, w2, h1, h2⟩
 ·rw [h1, h2]
  show i ∈ YA l c 0 l.length ↔ _
  rw [rd]
  refine ⟨fun h => h.1, fun h => ⟨h, ?_⟩⟩
  rcases D.kind h.1 with hk | hk
  ·exact hk
  ·exact absurd ((Yc hk).symm.trans h.2.2.1) (D.arg h.1 hk)
 ·rw [h1, h2]
  show i ∈ w :: YA l c (nth l w).arg l.length ↔ _
  rw [List.mem_cons, rd]
  rw [YZ] at w2
  constructor
  ·rintro (rfl | h)
   ·exact ⟨w1, w2.1, Yc w2.2.1, w2.2.2⟩
   ·exact h.1
  ·intro h
   rcases D.kind h.1 with hk | hk
   ·exact .inr ⟨h, hk⟩
   ·exact .inl (D.uniq h.1 w1 hk w2.2.1 (h.2.1.trans w2.1.symm) ((Yc hk).symm.trans h.2.2.1))
theorem zdv (D : yq l) {j : Nat} (hj : j < (Zf l c).length) : 0 < (nth (Zf l c) j).ops.length := by
 rcases YI hj with ⟨h0, h1, h2⟩ | ⟨w, w1, w2, h1, h2⟩
 ·obtain ⟨i, hi, h⟩ := Yi.1 h0
  rw [h2]
  exact List.length_pos_of_mem (YS.2 ⟨hi, h⟩)
 ·rw [h2]; simp
theorem zcY (v : Int) (k : Nat) : (YA l c v k).length ≤ k := by unfold YA; exact Nat.le_trans (List.length_filter_le _ _) (by simp)
theorem zgc {j : Nat} (hj : j < (Zf l c).length) : (nth (Zf l c) j).ops.length ≤ l.length + 1 := by
 rcases YI hj with ⟨h0, h1, h2⟩ | ⟨w, w1, w2, h1, h2⟩
 ·rw [h2]; have := zcY (l := l) (c := c) 0 l.length; dsimp only; omega
 ·rw [h2]; have := zcY (l := l) (c := c) (nth l w).arg l.length; simp; omega
theorem VK : (Zf l c).length ≤ l.length + 1 := by rw [XT]; exact Vu
theorem zgE (D : yq l) {i : Nat} (hi : i < l.length) : nth (zjz l) i = zW l i := by
 unfold zjz
 rw [YN hi, decide_eq_true hi, Bool.true_and]
 unfold zW
 cases hd : (nth l i).done with
 | true => rfl
 | false =>
  rw [Bool.false_or, Bool.false_or, Bool.eq_iff_iff, List.any_eq_true, Bool.and_eq_true, Yi]
  constructor
  ·rintro ⟨j, hj, h⟩
   simp only [Bool.and_eq_true, decide_eq_true_eq] at h
   obtain ⟨h1, h2⟩ := h
   have hj' : j < l.length := List.mem_range.1 hj
   obtain ⟨w1, w2, _⟩ := Zk h2
   rw [YW] at w2
   refine ⟨by simpa using w2.1, j, hj', ?_⟩
   rcases D.kind hj' with hk | hk
   ·exact yO.2 ⟨hk, h1, w2.2.1.symm, by rw [w2.2.2, YV hk]⟩
   ·have : j = i := D.uniq hj' hi hk w2.1 w2.2.1.symm (by rw [w2.2.2, Yc hk])
    subst this
    rw [h1] at hd; cases hd
  ·rintro ⟨h1, j, hj, h2⟩
   have h1 : (nth l i).k = 1 := by simpa using h1
   rw [yO] at h2
   refine ⟨j, List.mem_range.2 hj, ?_⟩
   rw [h2.2.1, Bool.true_and, decide_eq_true_eq, YV h2.1, h2.2.2.1, h2.2.2.2]
   exact zjf D hi h1
end
def cfK (l : List OpV) (C : List ClV) (i : Nat) : Nat → Nat → List (Nat × Nat)
 | 0, _ => []
 | f + 1, k => if Vf l (nth C i) (nth C k) = [] then cfK l C i f (k + 1) else Vf l (nth C i) (nth C k)
def cfI (l : List OpV) (C : List ClV) : Nat → Nat → List (Nat × Nat)
 | 0, _ => []
 | f + 1, i => if cfK l C i (C.length - (i + 1)) (i + 1) = [] then cfI l C f (i + 1) else cfK l C i (C.length - (i + 1)) (i + 1)
theorem zdt {l : List OpV} {C : List ClV} {i : Nat} : ∀ {f k : Nat}, cfK l C i f k = [] ↔ ∀ j, k ≤ j → j < k + f → Vf l (nth C i) (nth C j) = []
 | 0, k => ⟨fun _ j h1 h2 => by omega, fun _ => rfl⟩
 | f + 1, k => by
  unfold cfK
  by_cases h : Vf l (nth C i) (nth C k) = []
  ·rw [if_pos h, zdt]
   constructor
   ·intro h2 j h3 h4
    by_cases e : j = k
    ·rw [e]; exact h
    ·exact h2 j (by omega) (by omega)
   ·intro h2 j h3 h4; exact h2 j (by omega) (by omega)
  ·rw [if_neg h]
   exact ⟨fun h2 => absurd h2 h, fun h2 => absurd (h2 k (Nat.le_refl _) (by omega)) h⟩
theorem zgb {l : List OpV} {C : List ClV} : ∀ {f i : Nat}, cfI l C f i = [] ↔ ∀ a, i ≤ a → a < i + f → ∀ j, a < j → j < C.length → Vf l (nth C a) (nth C j) = []
 | 0, i => ⟨fun _ j h1 h2 => by omega, fun _ => rfl⟩
 | f + 1, i => by
  unfold cfI
  by_cases h : cfK l C i (C.length - (i + 1)) (i + 1) = []
  ·rw [if_pos h, zgb]
   rw [zdt] at h
   constructor
   ·intro h2 a h3 h4 j h5 h6
    by_cases e : a = i
    ·subst e; exact h j (by omega) (by omega)
    ·exact h2 a (by omega) (by omega) j h5 h6
   ·intro h2 a h3 h4; exact h2 a (by omega) (by omega)
  ·rw [if_neg h]
   refine ⟨fun h2 => absurd h2 h, fun h2 => absurd ?_ h⟩
   exact zdt.2 fun j h3 h4 => h2 i (Nat.le_refl _) (by omega) j (by omega) (by omega)
structure LV where
 cls : Int
 ord : List Nat
 ed : List (Nat × Nat)
 deriving DecidableEq
def zaA (l : List OpV) (c : Int) (i : Nat) : Bool := decide ((nth l i).key = c) && zfP l i
def ZM (l : List OpV) (c : Int) (i : Nat) : Bool := decide ((nth l i).key = c) && zgh l i
def zkL (l : List OpV) (i : Nat) : Nat := (wIx l (nth l i).key (nth l i).res).getD 0
def zds (l : List OpV) (c : Int) : List (Nat × Nat) := cfI l (Zf l c) (Zf l c).length 0
def UW (l : List OpV) (c : Int) : LV :=
 match (List.range l.length).find? (zaA l c) with
 | some i => ⟨2, [i], []⟩
 | none => match (List.range l.length).find? (ZM l c) with
  | some i => ⟨3, [i, zkL l i], []⟩
  | none => if zds l c = [] then ⟨0, [], []⟩ else ⟨4, [], zds l c⟩
theorem zcg {n i : Nat} {p : Nat → Bool} (hi : i < n) (h : p i = true) (hj : ∀ j, j < i → p j = false) : (List.range n).find? p = some i := by
 rw [List.find?_range_eq_some]
 exact ⟨h, List.mem_range.2 hi, fun j hj' => by rw [hj j hj']; rfl⟩
theorem zcf {n : Nat} {p : Nat → Bool} (hj : ∀ j, j < n → p j = false) : (List.range n).find? p = none := by
 rw [List.find?_eq_none]
 exact fun j hj' => by rw [hj j (List.mem_range.1 hj')]; decide
end Go.Proofs.Ytbeebjdnapkhhaa
