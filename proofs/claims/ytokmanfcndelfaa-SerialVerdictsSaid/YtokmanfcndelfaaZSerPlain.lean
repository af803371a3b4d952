/-
  Serializability, in plain Lean: the dependencies, the serial orders.
-/
import Derived.Test.YtokmanfcndelfaaZG
namespace Go.Proofs.Ytokmanfcndelfaa
set_option linter.unusedVariables false

def zV (o : OpV) : Bool := o.done && (decide (o.k = 0) || decide (o.k = 2))
def yN (a b : OpV) (kind : Int) : Bool := decide (a.k = 2) && decide (a.key = b.key) && decide (a.arg = b.res) && decide (b.k = kind)
def ZX (i k : Nat) (a b : OpV) : Bool := decide (i ≠ k) && decide (a.key = b.key) && decide (a.res = b.res) && decide (b.k = 2)
def xU (b : Bool) (w : Int) : List Int := if b = true then [w] else []
def zih (l : List OpV) (strict : Bool) (i k : Nat) : List Int :=
 xU (yN (nth l i) (nth l k) 0) 2 ++ (xU (yN (nth l i) (nth l k) 2) 3 ++ (xU (ZX i k (nth l i) (nth l k)) 4 ++ xU (strict && bef l i k) 5))
def xK (l : List OpV) (strict : Bool) (i k : Nat) : List Int := if (zV (nth l i) && zV (nth l k)) = true then zih l strict i k else []
abbrev EdV := Nat × Nat × Int
def xL (l : List OpV) (strict : Bool) (i k : Nat) : List EdV := (xK l strict i k).map fun w => (i, k, w)
def ye (l : List OpV) (strict : Bool) (i k : Nat) : List EdV := (List.range k).flatMap fun j => xL l strict i j
def XF (l : List OpV) (strict : Bool) (i : Nat) : List EdV := (List.range i).flatMap fun j => ye l strict j l.length
def yj (l : List OpV) (strict : Bool) : List EdV := XF l strict l.length
def prs (E : List EdV) : List (Nat × Nat) := E.map fun e => (e.1, e.2.1)

theorem Zc (b : Bool) (w : Int) : (xU b w).length ≤ 1 := by unfold xU; split <;> simp
theorem Vf {b : Bool} {w : Int} : xU b w ≠ [] ↔ b = true := by unfold xU; split <;> simp_all
theorem zhQ {b : Bool} {w x : Int} : x ∈ xU b w ↔ b = true ∧ x = w := by unfold xU; split <;> simp_all
theorem zii (l : List OpV) (strict : Bool) (i k : Nat) : (zih l strict i k).length ≤ 4 := by
 unfold zih
 simp only [List.length_append]
 have := Zc (yN (nth l i) (nth l k) 0) 2
 have := Zc (yN (nth l i) (nth l k) 2) 3
 have := Zc (ZX i k (nth l i) (nth l k)) 4
 have := Zc (strict && bef l i k) 5
 omega
theorem UG (l : List OpV) (strict : Bool) (i k : Nat) : (xK l strict i k).length ≤ 4 := by
 unfold xK; split
 ·exact zii l strict i k
 ·simp
theorem zbL (l : List OpV) (strict : Bool) (i k : Nat) : (xL l strict i k).length ≤ 4 := by unfold xL; rw [List.length_map]; exact UG l strict i k
theorem ZR (l : List OpV) (strict : Bool) (i k : Nat) : ye l strict i (k + 1) = ye l strict i k ++ xL l strict i k := by
 unfold ye; rw [List.range_succ, List.flatMap_append]; simp
theorem Vv (l : List OpV) (strict : Bool) (i : Nat) : XF l strict (i + 1) = XF l strict i ++ ye l strict i l.length := by
 unfold XF; rw [List.range_succ, List.flatMap_append]; simp
theorem Wh (l : List OpV) (strict : Bool) (i : Nat) : ∀ k, (ye l strict i k).length ≤ 4 * k
 | 0 => by simp [ye]
 | k + 1 => by
  rw [ZR, List.length_append]
  have := Wh l strict i k
  have := zbL l strict i k
  omega
theorem Vb (l : List OpV) (strict : Bool) : ∀ i, (XF l strict i).length ≤ 4 * l.length * i
 | 0 => by simp [XF]
 | i + 1 => by
  rw [Vv, List.length_append, Nat.mul_succ]
  have := Vb l strict i
  have := Wh l strict i l.length
  omega
theorem Vw {l : List OpV} {strict : Bool} {e : EdV} : e ∈ yj l strict ↔ e.1 < l.length ∧ e.2.1 < l.length ∧ e.2.2 ∈ xK l strict e.1 e.2.1 := by
 unfold yj XF ye xL
 simp only [List.mem_flatMap, List.mem_map, List.mem_range]
 constructor
 ·rintro ⟨a, ha, b, hb, w, hw, rfl⟩; exact ⟨ha, hb, hw⟩
 ·rintro ⟨h1, h2, h3⟩; exact ⟨e.1, h1, e.2.1, h2, e.2.2, h3, rfl⟩
theorem zgQ {l : List OpV} {strict : Bool} {a b : Nat} : (a, b) ∈ prs (yj l strict) ↔ a < l.length ∧ b < l.length ∧ xK l strict a b ≠ [] := by
 unfold prs
 rw [List.mem_map]
 constructor
 ·rintro ⟨e, he, h⟩
  injection h with h1 h2
  subst h1; subst h2
  obtain ⟨h1, h2, h3⟩ := Vw.1 he
  exact ⟨h1, h2, fun h => by rw [h] at h3; cases h3⟩
 ·rintro ⟨h1, h2, h3⟩
  obtain ⟨w, hw⟩ := List.exists_mem_of_ne_nil _ h3
  exact ⟨(a, b, w), Vw.2 ⟨h1, h2, hw⟩, rfl⟩
theorem zhi {l : List OpV} {strict : Bool} {a b : Nat} : xK l strict a b ≠ [] ↔ zV (nth l a) = true ∧ zV (nth l b) = true ∧ (yN (nth l a) (nth l b) 0 = true ∨ yN (nth l a) (nth l b) 2 = true ∨ ZX a b (nth l a) (nth l b) = true ∨ (strict = true ∧ bef l a b = true)) := by
 have n1 := Vf (b := yN (nth l a) (nth l b) 0) (w := 2)
 have n2 := Vf (b := yN (nth l a) (nth l b) 2) (w := 3)
 have n3 := Vf (b := ZX a b (nth l a) (nth l b)) (w := 4)
 have n4 := Vf (b := strict && bef l a b) (w := 5)
 rw [show (strict && bef l a b) = true ↔ strict = true ∧ bef l a b = true by simp] at n4
 unfold xK zih
 by_cases h : (zV (nth l a) && zV (nth l b)) = true
 ·rw [if_pos h, ← n1, ← n2, ← n3, ← n4]
  have h' := Bool.and_eq_true_iff.1 h
  clear n1 n2 n3 n4
  generalize xU (yN (nth l a) (nth l b) 0) 2 = x1
  generalize xU (yN (nth l a) (nth l b) 2) 3 = x2
  generalize xU (ZX a b (nth l a) (nth l b)) 4 = x3
  generalize xU (strict && bef l a b) 5 = x4
  simp only [ne_eq, List.append_eq_nil_iff, h'.1, h'.2, true_and, Classical.not_and_iff_not_or_not]
 ·rw [if_neg h]
  constructor
  ·intro h1; exact absurd rfl h1
  ·rintro ⟨h1, h2, _⟩; exact absurd (by rw [h1, h2]; rfl) h
structure zeo (l : List OpV) : Prop where
 kind : ∀ i, i < l.length → (nth l i).k = 0 ∨ (nth l i).k = 2
 arg : ∀ i, i < l.length → (nth l i).k = 2 → (nth l i).arg ≠ 0
 uniq : ∀ i j, i < l.length → j < l.length → (nth l i).k = 2 → (nth l j).k = 2 → (nth l i).key = (nth l j).key → (nth l i).arg = (nth l j).arg → i = j
 pend : ∀ i k, i < l.length → k < l.length → (nth l k).k = 2 → (nth l k).key = (nth l i).key → (nth l i).done = true → (nth l k).arg = (nth l i).res → (nth l k).done = true
def zjA (l : List OpV) : Prop := ∀ v, v < l.length → zV (nth l v) = true → (nth l v).res ≠ 0 → ∃ w, w < l.length ∧ (nth l w).k = 2 ∧ (nth l w).key = (nth l v).key ∧ (nth l w).arg = (nth l v).res

def zfS (l : List OpV) (key x : Int) : Bool := decide ((nth l x.toNat).k = 2) && decide ((nth l x.toNat).key = key)
def zdD (l : List OpV) (key : Int) (o : List Int) : Int := o.foldl (fun v x => if zfS l key x = true then (nth l x.toNat).arg else v) 0
theorem zfJ (l : List OpV) (key : Int) (o : List Int) (x : Int) : zdD l key (o ++ [x]) = if zfS l key x = true then (nth l x.toNat).arg else zdD l key o := by
 unfold zdD; rw [List.foldl_append]; rfl
theorem zhe {o : List Int} {i : Nat} (h : i < o.length) : o.take (i + 1) = o.take i ++ [nth o i] := by
 rw [List.take_succ_eq_append_getElem h, nth_eq h]
theorem YU (l : List OpV) (key : Int) (o : List Int) : ∀ i, i ≤ o.length → (zdD l key (o.take i) = 0 ∧ ∀ j, j < i → zfS l key (nth o j) = false) ∨
  ∃ j, j < i ∧ zfS l key (nth o j) = true ∧ zdD l key (o.take i) = (nth l (nth o j).toNat).arg ∧ ∀ q, j < q → q < i → zfS l key (nth o q) = false
 | 0, _ => .inl ⟨rfl, fun j hj => by omega⟩
 | i + 1, hi => by
  rw [zhe (show i < o.length by omega), zfJ]
  by_cases h : zfS l key (nth o i) = true
  ·rw [if_pos h]
   exact .inr ⟨i, by omega, h, rfl, fun q h1 h2 => by omega⟩
  ·rw [if_neg h]
   have h' : zfS l key (nth o i) = false := by simpa using h
   rcases YU l key o i (by omega) with ⟨h1, h2⟩ | ⟨j, h1, h2, h3, h4⟩
   ·refine .inl ⟨h1, fun j hj => ?_⟩
    by_cases e : j = i
    ·subst e; exact h'
    ·exact h2 j (by omega)
   ·refine .inr ⟨j, by omega, h2, h3, fun q q1 q2 => ?_⟩
    by_cases e : q = i
    ·subst e; exact h'
    ·exact h4 q q1 (by omega)
structure Vk (l : List OpV) (strict : Bool) (o : List Int) : Prop where
 rng : ∀ x ∈ o, 0 ≤ x ∧ x < l.length
 nd : o.Nodup
 inc : ∀ x ∈ o, zV (nth l x.toNat) = true
 all : ∀ v : Nat, v < l.length → zV (nth l v) = true → (v : Int) ∈ o
 val : ∀ i, i < o.length → (nth l (nth o i).toNat).res = zdD l (nth l (nth o i).toNat).key (o.take i)
 rt : strict = true → ∀ i j, i < o.length → j < i → bef l (nth o i).toNat (nth o j).toNat = false
theorem ziu {o : List Int} (h : o.Nodup) {i j : Nat} (hi : i < o.length) (hj : j < o.length) (e : nth o i = nth o j) : i = j := by
 rw [nth_eq hi, nth_eq hj] at e
 exact (List.getElem_inj h).1 e
section
variable {l : List OpV} {strict : Bool} {o : List Int}
theorem Vk.fwd (h : Vk l strict o) (hD : zeo l) (hwf : ∀ i, i < l.length → (nth l i).call < (nth l i).ret) {p q : Nat} (hp : p < o.length) (hq : q < o.length) (hw : xK l strict (nth o p).toNat (nth o q).toNat ≠ []) : p < q := by
 obtain ⟨_, _, hc⟩ := zhi.1 hw
 have hpr := h.rng _ (zI hp)
 have hqr := h.rng _ (zI hq)
 obtain ⟨a, ha⟩ : ∃ a : Nat, nth o p = a := ⟨(nth o p).toNat, by omega⟩
 obtain ⟨b, hb⟩ : ∃ b : Nat, nth o q = b := ⟨(nth o q).toNat, by omega⟩
 rw [ha, hb, Int.toNat_natCast, Int.toNat_natCast] at hc
 rw [ha] at hpr
 rw [hb] at hqr
 have hvq := h.val q hq
 rw [hb, Int.toNat_natCast] at hvq
 have nat : ∀ j, j < o.length → ∃ x : Nat, nth o j = x ∧ x < l.length := fun j hj => by
  have := h.rng _ (zI hj)
  exact ⟨(nth o j).toNat, by omega, by omega⟩
 have wr : ∀ kd, yN (nth l a) (nth l b) kd = true → p < q := fun kd hk => by
  unfold yN at hk
  simp only [Bool.and_eq_true, decide_eq_true_eq] at hk
  obtain ⟨⟨⟨k1, k2⟩, k3⟩, _⟩ := hk
  rcases YU l (nth l b).key o q (by omega) with ⟨h1, _⟩ | ⟨j, h1, h2, h3, _⟩
  ·have := hD.arg a (by omega) k1
   rw [k3, hvq, h1] at this
   exact absurd rfl this
  ·obtain ⟨x, hx, hxl⟩ := nat j (by omega)
   rw [hx, Int.toNat_natCast] at h3
   unfold zfS at h2
   simp only [Bool.and_eq_true, decide_eq_true_eq, hx, Int.toNat_natCast] at h2
   have := hD.uniq a x (by omega) hxl k1 h2.1 (k2.trans h2.2.symm) (by rw [k3, hvq, h3])
   have : p = j := ziu h.nd hp (by omega) (by rw [ha, hx]; omega)
   omega
 rcases hc with hc | hc | hc | ⟨hs, hc⟩
 ·exact wr 0 hc
 ·exact wr 2 hc
 ·unfold ZX at hc
  simp only [Bool.and_eq_true, decide_eq_true_eq] at hc
  obtain ⟨⟨⟨k1, k2⟩, k3⟩, k4⟩ := hc
  have hpq : p ≠ q := fun e => by subst e; rw [ha] at hb; exact k1 (by omega)
  rcases Nat.lt_or_ge p q with hlt | hge
  ·exact hlt
  exfalso
  have hvp := h.val p hp
  rw [ha, Int.toNat_natCast, k2] at hvp
  have hqs : zfS l (nth l b).key (nth o q) = true := by rw [hb]; unfold zfS; simp [k4]
  rcases YU l (nth l b).key o p (by omega) with ⟨_, h1⟩ | ⟨j, h1, h2, h3, h4⟩
  ·rw [h1 q (by omega)] at hqs; cases hqs
  ·have hjq : q ≤ j := Nat.le_of_not_lt fun hlt => by rw [h4 q hlt (by omega)] at hqs; cases hqs
   obtain ⟨x, hx, hxl⟩ := nat j (by omega)
   rw [hx, Int.toNat_natCast] at h3
   unfold zfS at h2
   simp only [Bool.and_eq_true, decide_eq_true_eq, hx, Int.toNat_natCast] at h2
   have hxr : (nth l x).arg = zdD l (nth l b).key (o.take q) := by rw [← h3, ← hvp, k3, hvq]
   rcases YU l (nth l b).key o q (by omega) with ⟨g1, _⟩ | ⟨j', g1, g2, g3, _⟩
   ·exact hD.arg x hxl h2.1 (hxr.trans g1)
   ·obtain ⟨y, hy, hyl⟩ := nat j' (by omega)
    rw [hy, Int.toNat_natCast] at g3
    unfold zfS at g2
    simp only [Bool.and_eq_true, decide_eq_true_eq, hy, Int.toNat_natCast] at g2
    have := hD.uniq x y hxl hyl h2.1 g2.1 (h2.2.trans g2.2.symm) (hxr.trans g3)
    have : j = j' := ziu h.nd (by omega) (by omega) (by rw [hx, hy]; omega)
    omega
 ·rcases Nat.lt_trichotomy p q with hlt | he | hgt
  ·exact hlt
  ·exfalso
   subst he
   have hab : a = b := by rw [ha] at hb; omega
   subst hab
   unfold bef at hc
   simp only [Bool.and_eq_true, decide_eq_true_eq] at hc
   have := hwf a (by omega)
   omega
  ·have := h.rt hs p q hp hgt
   rw [ha, hb, Int.toNat_natCast, Int.toNat_natCast, hc] at this
   cases this
end
end Go.Proofs.Ytokmanfcndelfaa
