/-
  What is in the clusters of a key; the verdict about a key.
-/
import Derived.Test.YtbeebjdnapkhhaaZFmClus3
namespace Go.Proofs.Ytbeebjdnapkhhaa
set_option linter.unusedVariables false

section
variable {l : List OpV} {c : Int}
def ZU (l : List OpV) (c : Int) (j : Nat) : Int := (nth (ZQ l c l.length) j).2.2
theorem Yn : (yu l c).length = (ZQ l c l.length).length := by unfold yu; exact Za _ _
theorem Zo {j : Nat} (hj : j < (yu l c).length) : (zi1 l c = true ∧ ZU l c j = 0 ∧ nth (yu l c) j = ⟨true, YC l c 0 l.length⟩) ∨
  ∃ w, w < l.length ∧ wrB l c w = true ∧ ZU l c j = (nth l w).arg ∧ nth (yu l c) j = ⟨false, w :: YC l c (nth l w).arg l.length⟩ := by
 rw [Yn] at hj
 have h1 : nth (yu l c) j = _ := XC hj
 have hm := zA hj
 unfold ZU
 rcases Zh.1 hm with ⟨h0, e⟩ | ⟨w, w1, w2, e⟩
 ·left
  refine ⟨h0, by rw [e], ?_⟩
  rw [h1, e]; rfl
 ·right
  refine ⟨w, w1, w2, by rw [e], ?_⟩
  rw [h1, e]; rfl
theorem yA (D : zX l) {j : Nat} (hj : j < (yu l c).length) {i : Nat} : i ∈ (nth (yu l c) j).ops ↔ zfc l c (ZU l c j) i := by
 have rd : ∀ v, i ∈ YC l c v l.length ↔ zfc l c v i ∧ (nth l i).k = 0 := fun v => by
  rw [YU, yD]
  unfold zfc
  constructor
  ·rintro ⟨h1, h2, h3, h4, h5⟩
   exact ⟨⟨h1, h4, (YB h2).trans h5, xN h3⟩, h2⟩
  ·rintro ⟨⟨h1, h2, h3, h4⟩, h5⟩
   exact ⟨h1, h5, ZZ h5 h4, h2, (YB h5).symm.trans h3⟩
 rcases Zo hj with ⟨h0, h1, h2⟩ | ⟨w, w1, w2, h1, h2⟩
 ·rw [h1, h2]
  show i ∈ YC l c 0 l.length ↔ _
  rw [rd]
  refine ⟨fun h => h.1, fun h => ⟨h, ?_⟩⟩
  rcases D.kind h.1 with hk | hk
  ·exact hk
  ·exact absurd ((ZH hk).symm.trans h.2.2.1) (D.arg h.1 hk)
 ·rw [h1, h2]
  show i ∈ w :: YC l c (nth l w).arg l.length ↔ _
  rw [List.mem_cons, rd]
  rw [Zy] at w2
  constructor
  ·rintro (rfl | h)
   ·exact ⟨w1, w2.1, ZH w2.2.1, w2.2.2⟩
   ·exact h.1
  ·intro h
   rcases D.kind h.1 with hk | hk
   ·exact .inr ⟨h, hk⟩
   ·exact .inl (D.uniq h.1 w1 hk w2.2.1 (h.2.1.trans w2.1.symm) ((ZH hk).symm.trans h.2.2.1))
theorem WE (D : zX l) {j : Nat} (hj : j < (yu l c).length) : 0 < (nth (yu l c) j).ops.length := by
 rcases Zo hj with ⟨h0, h1, h2⟩ | ⟨w, w1, w2, h1, h2⟩
 ·obtain ⟨i, hi, h⟩ := Zm.1 h0
  rw [h2]
  exact List.length_pos_of_mem (YU.2 ⟨hi, h⟩)
 ·rw [h2]; simp
theorem zcQ (v : Int) (k : Nat) : (YC l c v k).length ≤ k := by unfold YC; exact Nat.le_trans (List.length_filter_le _ _) (by simp)
theorem zf3 {j : Nat} (hj : j < (yu l c).length) : (nth (yu l c) j).ops.length ≤ l.length + 1 := by
 rcases Zo hj with ⟨h0, h1, h2⟩ | ⟨w, w1, w2, h1, h2⟩
 ·rw [h2]; have := zcQ (l := l) (c := c) 0 l.length; dsimp only; omega
 ·rw [h2]; have := zcQ (l := l) (c := c) (nth l w).arg l.length; simp; omega
theorem VU : (yu l c).length ≤ l.length + 1 := by rw [Yn]; exact VE
theorem zgx (D : zX l) {i : Nat} (hi : i < l.length) : nth (zjt l) i = zR l i := by
 unfold zjt
 rw [YO hi, decide_eq_true hi, Bool.true_and]
 unfold zR
 cases hd : (nth l i).done with
 | true => rfl
 | false =>
  rw [Bool.false_or, Bool.false_or, Bool.eq_iff_iff, List.any_eq_true, Bool.and_eq_true, Zm]
  constructor
  ·rintro ⟨j, hj, h⟩
   simp only [Bool.and_eq_true, decide_eq_true_eq] at h
   obtain ⟨h1, h2⟩ := h
   have hj' : j < l.length := List.mem_range.1 hj
   obtain ⟨w1, w2, _⟩ := xG h2
   rw [Yw] at w2
   refine ⟨by simpa using w2.1, j, hj', ?_⟩
   rcases D.kind hj' with hk | hk
   ·exact yD.2 ⟨hk, h1, w2.2.1.symm, by rw [w2.2.2, YB hk]⟩
   ·have : j = i := D.uniq hj' hi hk w2.1 w2.2.1.symm (by rw [w2.2.2, ZH hk])
    subst this
    rw [h1] at hd; cases hd
  ·rintro ⟨h1, j, hj, h2⟩
   have h1 : (nth l i).k = 1 := by simpa using h1
   rw [yD] at h2
   refine ⟨j, List.mem_range.2 hj, ?_⟩
   rw [h2.2.1, Bool.true_and, decide_eq_true_eq, YB h2.1, h2.2.2.1, h2.2.2.2]
   exact zhC D hi h1
end
def cfK (l : List OpV) (C : List ClV) (i : Nat) : Nat → Nat → List (Nat × Nat)
 | 0, _ => []
 | f + 1, k => if YI l (nth C i) (nth C k) = [] then cfK l C i f (k + 1) else YI l (nth C i) (nth C k)
def cfI (l : List OpV) (C : List ClV) : Nat → Nat → List (Nat × Nat)
 | 0, _ => []
 | f + 1, i => if cfK l C i (C.length - (i + 1)) (i + 1) = [] then cfI l C f (i + 1) else cfK l C i (C.length - (i + 1)) (i + 1)
theorem zdj {l : List OpV} {C : List ClV} {i : Nat} : ∀ {f k : Nat}, cfK l C i f k = [] ↔ ∀ j, k ≤ j → j < k + f → YI l (nth C i) (nth C j) = []
 | 0, k => ⟨fun _ j h1 h2 => by omega, fun _ => rfl⟩
 | f + 1, k => by
  unfold cfK
  by_cases h : YI l (nth C i) (nth C k) = []
  ·rw [if_pos h, zdj]
   constructor
   ·intro h2 j h3 h4
    by_cases e : j = k
    ·rw [e]; exact h
    ·exact h2 j (by omega) (by omega)
   ·intro h2 j h3 h4; exact h2 j (by omega) (by omega)
  ·rw [if_neg h]
   exact ⟨fun h2 => absurd h2 h, fun h2 => absurd (h2 k (Nat.le_refl _) (by omega)) h⟩
theorem zd1 {l : List OpV} {C : List ClV} {i : Nat} : ∀ {f k : Nat}, cfK l C i f k ≠ [] → ∃ j, k ≤ j ∧ j < k + f ∧ cfK l C i f k = YI l (nth C i) (nth C j)
 | 0, k, h => absurd rfl h
 | f + 1, k, h => by
  unfold cfK at h ⊢
  by_cases h1 : YI l (nth C i) (nth C k) = []
  ·rw [if_pos h1] at h ⊢
   obtain ⟨j, j1, j2, j3⟩ := zd1 h
   exact ⟨j, by omega, by omega, j3⟩
  ·rw [if_neg h1]
   exact ⟨k, Nat.le_refl _, by omega, rfl⟩
theorem zbg {l : List OpV} {C : List ClV} : ∀ {f i : Nat}, cfI l C f i = [] ↔ ∀ a, i ≤ a → a < i + f → ∀ j, a < j → j < C.length → YI l (nth C a) (nth C j) = []
 | 0, i => ⟨fun _ j h1 h2 => by omega, fun _ => rfl⟩
 | f + 1, i => by
  unfold cfI
  by_cases h : cfK l C i (C.length - (i + 1)) (i + 1) = []
  ·rw [if_pos h, zbg]
   rw [zdj] at h
   constructor
   ·intro h2 a h3 h4 j h5 h6
    by_cases e : a = i
    ·subst e; exact h j (by omega) (by omega)
    ·exact h2 a (by omega) (by omega) j h5 h6
   ·intro h2 a h3 h4; exact h2 a (by omega) (by omega)
  ·rw [if_neg h]
   refine ⟨fun h2 => absurd h2 h, fun h2 => absurd ?_ h⟩
   exact zdj.2 fun j h3 h4 => h2 i (Nat.le_refl _) (by omega) j (by omega) (by omega)
theorem zd0 {l : List OpV} {C : List ClV} : ∀ {f i : Nat}, cfI l C f i ≠ [] → ∃ a j, i ≤ a ∧ a < i + f ∧ a < j ∧ j < C.length ∧ cfI l C f i = YI l (nth C a) (nth C j)
 | 0, i, h => absurd rfl h
 | f + 1, i, h => by
  unfold cfI at h ⊢
  by_cases h1 : cfK l C i (C.length - (i + 1)) (i + 1) = []
  ·rw [if_pos h1] at h ⊢
   obtain ⟨a, j, j1, j2, j3, j4, j5⟩ := zd0 h
   exact ⟨a, j, by omega, by omega, j3, j4, j5⟩
  ·rw [if_neg h1]
   obtain ⟨j, j1, j2, j3⟩ := zd1 h1
   exact ⟨i, j, Nat.le_refl _, by omega, by omega, by omega, j3⟩
structure LV where
 cls : Int
 ord : List Nat
 ed : List (Nat × Nat)
 deriving DecidableEq
def Yv (l : List OpV) (c : Int) (i : Nat) : Bool := decide ((nth l i).key = c) && zc3 l i
def yX (l : List OpV) (c : Int) (i : Nat) : Bool := decide ((nth l i).key = c) && zb7 l i
def zkz (l : List OpV) (i : Nat) : Nat := (wIx l (nth l i).key (nth l i).res).getD 0
def Vl (l : List OpV) (c : Int) : List (Nat × Nat) := cfI l (yu l c) (yu l c).length 0
def YX (l : List OpV) (c : Int) : LV :=
 match (List.range l.length).find? (Yv l c) with
 | some i => ⟨2, [i], []⟩
 | none => match (List.range l.length).find? (yX l c) with
  | some i => ⟨3, [i, zkz l i], []⟩
  | none => if Vl l c = [] then ⟨0, [], []⟩ else ⟨4, [], Vl l c⟩
theorem zcb {n i : Nat} {p : Nat → Bool} (hi : i < n) (h : p i = true) (hj : ∀ j, j < i → p j = false) : (List.range n).find? p = some i := by
 rw [List.find?_range_eq_some]
 exact ⟨h, List.mem_range.2 hi, fun j hj' => by rw [hj j hj']; rfl⟩
theorem zca {n : Nat} {p : Nat → Bool} (hj : ∀ j, j < n → p j = false) : (List.range n).find? p = none := by
 rw [List.find?_eq_none]
 exact fun j hj' => by rw [hj j (List.mem_range.1 hj')]; decide
end Go.Proofs.Ytbeebjdnapkhhaa
