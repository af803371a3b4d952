/-
  What is in the clusters of a key; the verdict about a key.
-/
import Derived.Test.YtbeebjdnapkhhaaZFmClus3
namespace Go.Proofs.Ytbeebjdnapkhhaa
set_option linter.unusedVariables false

section
variable {l : List OpV} {c : Int}
def ZR (l : List OpV) (c : Int) (j : Nat) : Int := (nth (ZL l c l.length) j).2.2
theorem Yj : (yp l c).length = (ZL l c l.length).length := by unfold yp; exact Za _ _
theorem Zj {j : Nat} (hj : j < (yp l c).length) : (ziz l c = true ∧ ZR l c j = 0 ∧ nth (yp l c) j = ⟨true, YA l c 0 l.length⟩) ∨
  ∃ w, w < l.length ∧ wrB l c w = true ∧ ZR l c j = (nth l w).arg ∧ nth (yp l c) j = ⟨false, w :: YA l c (nth l w).arg l.length⟩ := by
 rw [Yj] at hj
 have h1 : nth (yp l c) j = _ := Xv hj
 have hm := zj hj
 unfold ZR
 rcases Zd.1 hm with ⟨h0, e⟩ | ⟨w, w1, w2, e⟩
 ·left
  refine ⟨h0, by rw [e], ?_⟩
  rw [h1, e]; rfl
 ·right
  refine ⟨w, w1, w2, by rw [e], ?_⟩
  rw [h1, e]; rfl
theorem yE (D : zU l) {j : Nat} (hj : j < (yp l c).length) {i : Nat} : i ∈ (nth (yp l c) j).ops ↔ zhb l c (ZR l c j) i := by
 have rd : ∀ v, i ∈ YA l c v l.length ↔ zhb l c v i ∧ (nth l i).k = 0 := fun v => by
  rw [YU, yz]
  unfold zhb
  constructor
  ·rintro ⟨h1, h2, h3, h4, h5⟩
   exact ⟨⟨h1, h4, (Yd h2).trans h5, xK h3⟩, h2⟩
  ·rintro ⟨⟨h1, h2, h3, h4⟩, h5⟩
   exact ⟨h1, h5, xv h5 h4, h2, (Yd h5).symm.trans h3⟩
 rcases Zj hj with ⟨h0, h1, h2⟩ | ⟨w, w1, w2, h1, h2⟩
 ·rw [h1, h2]
  show i ∈ YA l c 0 l.length ↔ _
  rw [rd]
  refine ⟨fun h => h.1, fun h => ⟨h, ?_⟩⟩
  rcases D.kind h.1 with hk | hk
  ·exact hk
  ·exact absurd ((Zs hk).symm.trans h.2.2.1) (D.arg h.1 hk)
 ·rw [h1, h2]
  show i ∈ w :: YA l c (nth l w).arg l.length ↔ _
  rw [List.mem_cons, rd]
  rw [Zv] at w2
  constructor
  ·rintro (rfl | h)
   ·exact ⟨w1, w2.1, Zs w2.2.1, w2.2.2⟩
   ·exact h.1
  ·intro h
   rcases D.kind h.1 with hk | hk
   ·exact .inr ⟨h, hk⟩
   ·exact .inl (D.uniq h.1 w1 hk w2.2.1 (h.2.1.trans w2.1.symm) ((Zs hk).symm.trans h.2.2.1))
theorem Vx (D : zU l) {j : Nat} (hj : j < (yp l c).length) : 0 < (nth (yp l c) j).ops.length := by
 rcases Zj hj with ⟨h0, h1, h2⟩ | ⟨w, w1, w2, h1, h2⟩
 ·obtain ⟨i, hi, h⟩ := YE.1 h0
  rw [h2]
  exact List.length_pos_of_mem (YU.2 ⟨hi, h⟩)
 ·rw [h2]; simp
theorem zcw (v : Int) (k : Nat) : (YA l c v k).length ≤ k := by unfold YA; exact Nat.le_trans (List.length_filter_le _ _) (by simp)
theorem zfB {j : Nat} (hj : j < (yp l c).length) : (nth (yp l c) j).ops.length ≤ l.length + 1 := by
 rcases Zj hj with ⟨h0, h1, h2⟩ | ⟨w, w1, w2, h1, h2⟩
 ·rw [h2]; have := zcw (l := l) (c := c) 0 l.length; dsimp only; omega
 ·rw [h2]; have := zcw (l := l) (c := c) (nth l w).arg l.length; simp; omega
theorem Vw : (yp l c).length ≤ l.length + 1 := by rw [Yj]; exact Vj
theorem zf5 (D : zU l) {i : Nat} (hi : i < l.length) : nth (zi6 l) i = zM l i := by
 unfold zi6
 rw [YN hi, decide_eq_true hi, Bool.true_and]
 unfold zM
 cases hd : (nth l i).done with
 | true => rfl
 | false =>
  rw [Bool.false_or, Bool.false_or, Bool.eq_iff_iff, List.any_eq_true, Bool.and_eq_true, YE]
  constructor
  ·rintro ⟨j, hj, h⟩
   simp only [Bool.and_eq_true, decide_eq_true_eq] at h
   obtain ⟨h1, h2⟩ := h
   have hj' : j < l.length := List.mem_range.1 hj
   obtain ⟨w1, w2, _⟩ := Ze h2
   rw [ZJ] at w2
   refine ⟨by simpa using w2.1, j, hj', ?_⟩
   rcases D.kind hj' with hk | hk
   ·exact yz.2 ⟨hk, h1, w2.2.1.symm, by rw [w2.2.2, Yd hk]⟩
   ·have : j = i := D.uniq hj' hi hk w2.1 w2.2.1.symm (by rw [w2.2.2, Zs hk])
    subst this
    rw [h1] at hd; cases hd
  ·rintro ⟨h1, j, hj, h2⟩
   have h1 : (nth l i).k = 1 := by simpa using h1
   rw [yz] at h2
   refine ⟨j, List.mem_range.2 hj, ?_⟩
   rw [h2.2.1, Bool.true_and, decide_eq_true_eq, Yd h2.1, h2.2.2.1, h2.2.2.2]
   exact zg8 D hi h1
end
def cfK (l : List OpV) (C : List ClV) (i : Nat) : Nat → Nat → List (Nat × Nat)
 | 0, _ => []
 | f + 1, k => if YI l (nth C i) (nth C k) = [] then cfK l C i f (k + 1) else YI l (nth C i) (nth C k)
def cfI (l : List OpV) (C : List ClV) : Nat → Nat → List (Nat × Nat)
 | 0, _ => []
 | f + 1, i => if cfK l C i (C.length - (i + 1)) (i + 1) = [] then cfI l C f (i + 1) else cfK l C i (C.length - (i + 1)) (i + 1)
theorem zc3 {l : List OpV} {C : List ClV} {i : Nat} : ∀ {f k : Nat}, cfK l C i f k = [] ↔ ∀ j, k ≤ j → j < k + f → YI l (nth C i) (nth C j) = []
 | 0, k => ⟨fun _ j h1 h2 => by omega, fun _ => rfl⟩
 | f + 1, k => by
  unfold cfK
  by_cases h : YI l (nth C i) (nth C k) = []
  ·rw [if_pos h, zc3]
   constructor
   ·intro h2 j h3 h4
    by_cases e : j = k
    ·rw [e]; exact h
    ·exact h2 j (by omega) (by omega)
   ·intro h2 j h3 h4; exact h2 j (by omega) (by omega)
  ·rw [if_neg h]
   exact ⟨fun h2 => absurd h2 h, fun h2 => absurd (h2 k (Nat.le_refl _) (by omega)) h⟩
theorem zdJ {l : List OpV} {C : List ClV} {i : Nat} : ∀ {f k : Nat}, cfK l C i f k ≠ [] → ∃ j, k ≤ j ∧ j < k + f ∧ cfK l C i f k = YI l (nth C i) (nth C j)
 | 0, k, h => absurd rfl h
 | f + 1, k, h => by
  unfold cfK at h ⊢
  by_cases h1 : YI l (nth C i) (nth C k) = []
  ·rw [if_pos h1] at h ⊢
   obtain ⟨j, j1, j2, j3⟩ := zdJ h
   exact ⟨j, by omega, by omega, j3⟩
  ·rw [if_neg h1]
   exact ⟨k, Nat.le_refl _, by omega, rfl⟩
theorem zc2 {l : List OpV} {C : List ClV} : ∀ {f i : Nat}, cfI l C f i = [] ↔ ∀ a, i ≤ a → a < i + f → ∀ j, a < j → j < C.length → YI l (nth C a) (nth C j) = []
 | 0, i => ⟨fun _ j h1 h2 => by omega, fun _ => rfl⟩
 | f + 1, i => by
  unfold cfI
  by_cases h : cfK l C i (C.length - (i + 1)) (i + 1) = []
  ·rw [if_pos h, zc2]
   rw [zc3] at h
   constructor
   ·intro h2 a h3 h4 j h5 h6
    by_cases e : a = i
    ·subst e; exact h j (by omega) (by omega)
    ·exact h2 a (by omega) (by omega) j h5 h6
   ·intro h2 a h3 h4; exact h2 a (by omega) (by omega)
  ·rw [if_neg h]
   refine ⟨fun h2 => absurd h2 h, fun h2 => absurd ?_ h⟩
   exact zc3.2 fun j h3 h4 => h2 i (Nat.le_refl _) (by omega) j (by omega) (by omega)
theorem zdI {l : List OpV} {C : List ClV} : ∀ {f i : Nat}, cfI l C f i ≠ [] → ∃ a j, i ≤ a ∧ a < i + f ∧ a < j ∧ j < C.length ∧ cfI l C f i = YI l (nth C a) (nth C j)
 | 0, i, h => absurd rfl h
 | f + 1, i, h => by
  unfold cfI at h ⊢
  by_cases h1 : cfK l C i (C.length - (i + 1)) (i + 1) = []
  ·rw [if_pos h1] at h ⊢
   obtain ⟨a, j, j1, j2, j3, j4, j5⟩ := zdI h
   exact ⟨a, j, by omega, by omega, j3, j4, j5⟩
  ·rw [if_neg h1]
   obtain ⟨j, j1, j2, j3⟩ := zdJ h1
   exact ⟨i, j, Nat.le_refl _, by omega, by omega, by omega, j3⟩
structure LV where
 cls : Int
 ord : List Nat
 ed : List (Nat × Nat)
 deriving DecidableEq
def zah (l : List OpV) (c : Int) (i : Nat) : Bool := decide ((nth l i).key = c) && zbC l i
def ZT (l : List OpV) (c : Int) (i : Nat) : Bool := decide ((nth l i).key = c) && zam l i
def zkq (l : List OpV) (i : Nat) : Nat := (wIx l (nth l i).key (nth l i).res).getD 0
def UP (l : List OpV) (c : Int) : List (Nat × Nat) := cfI l (yp l c) (yp l c).length 0
def UE (l : List OpV) (c : Int) : LV :=
 match (List.range l.length).find? (zah l c) with
 | some i => ⟨2, [i], []⟩
 | none => match (List.range l.length).find? (ZT l c) with
  | some i => ⟨3, [i, zkq l i], []⟩
  | none => if UP l c = [] then ⟨0, [], []⟩ else ⟨4, [], UP l c⟩
theorem zbV {n i : Nat} {p : Nat → Bool} (hi : i < n) (h : p i = true) (hj : ∀ j, j < i → p j = false) : (List.range n).find? p = some i := by
 rw [List.find?_range_eq_some]
 exact ⟨h, List.mem_range.2 hi, fun j hj' => by rw [hj j hj']; rfl⟩
theorem zbU {n : Nat} {p : Nat → Bool} (hj : ∀ j, j < n → p j = false) : (List.range n).find? p = none := by
 rw [List.find?_eq_none]
 exact fun j hj' => by rw [hj j (List.mem_range.1 hj')]; decide
end Go.Proofs.Ytbeebjdnapkhhaa
