/-
  The edges of a cycle, found by halving; the domain, decided.
-/
import Derived.Test.YtokmanfcndelfaaZSerPlain2
namespace Go.Proofs.Ytokmanfcndelfaa
set_option linter.unusedVariables false

def zai (a b : Int) : Int := if a < b then -1 else if b < a then 1 else 0
def orI (a b : Int) : Int := if a ≠ 0 then a else b
def zf5 (a b : EdV) : Int := orI (zai a.1 b.1) (orI (zai a.2.1 b.2.1) (zai a.2.2 b.2.2))
def zhT (l : List OpV) (s : Bool) (i k : Nat) : Nat := (XF l s i).length + (ye l s i k).length
section
variable {l : List OpV} {s : Bool}
theorem zhx {i : Nat} {e : EdV} (he : e ∈ XF l s i) : e.1 < i := by
 unfold XF ye xL at he
 simp only [List.mem_flatMap, List.mem_map, List.mem_range] at he
 obtain ⟨a, ha, b, hb, w, hw, rfl⟩ := he
 exact ha
theorem zak {i k : Nat} {e : EdV} (he : e ∈ ye l s i k) : e.1 = i ∧ e.2.1 < k := by
 unfold ye xL at he
 simp only [List.mem_flatMap, List.mem_map, List.mem_range] at he
 obtain ⟨b, hb, w, hw, rfl⟩ := he
 exact ⟨rfl, hb⟩
theorem Ug {n i : Nat} (hi : i < n) : List.range n = List.range i ++ (i :: (List.range (n - i - 1)).map fun x => i + 1 + x) := by
 have h := List.range_add (n := i) (m := n - i)
 rw [show i + (n - i) = n by omega] at h
 rw [h]
 congr 1
 have h2 := List.range_add (n := 1) (m := n - i - 1)
 rw [show 1 + (n - i - 1) = n - i by omega] at h2
 rw [h2, List.map_append, List.map_map]
 simp only [List.range_one, List.map_cons, List.map_nil, Nat.add_zero, List.singleton_append]
 congr 1
 apply List.map_congr_left
 intro x _
 simp only [Function.comp_apply]
 omega
theorem zc7 {i k : Nat} (hi : i < l.length) (hk : k < l.length) : ∃ rest, yj l s = XF l s i ++ (ye l s i k ++ (xL l s i k ++ rest)) ∧ ∀ e ∈ rest, (e.1 = i ∧ k < e.2.1) ∨ i < e.1 := by
 refine ⟨((List.range (l.length - k - 1)).map fun x => k + 1 + x).flatMap (fun j => xL l s i j) ++ ((List.range (l.length - i - 1)).map fun x => i + 1 + x).flatMap (fun j => ye l s j l.length), ?_, fun e he => ?_⟩
 ·have e1 : ye l s i l.length = ye l s i k ++ (xL l s i k ++ ((List.range (l.length - k - 1)).map fun x => k + 1 + x).flatMap (fun j => xL l s i j)) := by
   unfold ye
   rw [Ug hk, List.flatMap_append, List.flatMap_cons]
  unfold yj XF
  rw [Ug hi, List.flatMap_append, List.flatMap_cons, e1]
  simp only [List.append_assoc]
 ·rcases List.mem_append.1 he with he | he
  ·obtain ⟨j, hj, hm⟩ := List.mem_flatMap.1 he
   obtain ⟨x, _, rfl⟩ := List.mem_map.1 hj
   unfold xL at hm
   obtain ⟨w, _, rfl⟩ := List.mem_map.1 hm
   exact .inl ⟨rfl, by show k < k + 1 + x; omega⟩
  ·obtain ⟨j, hj, hm⟩ := List.mem_flatMap.1 he
   obtain ⟨x, _, rfl⟩ := List.mem_map.1 hj
   have := (zak hm).1
   exact .inr (by omega)
theorem zig {i k : Nat} {w : Int} (h : w ∈ xK l s i k) : 2 ≤ w ∧ w ≤ 5 := by
 unfold xK at h
 split at h
 ·unfold zih at h
  simp only [List.mem_append, zhQ] at h
  omega
 ·cases h
theorem zht {a b : EdV} : zf5 a b < 0 ↔ a.1 < b.1 ∨ (a.1 = b.1 ∧ (a.2.1 < b.2.1 ∨ (a.2.1 = b.2.1 ∧ a.2.2 < b.2.2))) := by
 obtain ⟨a1, a2, a3⟩ := a
 obtain ⟨b1, b2, b3⟩ := b
 unfold zf5 orI zai
 dsimp only
 split
 ·split
  ·omega
  ·split <;> omega
 ·split
  ·split
   ·omega
   ·split <;> omega
  ·split
   ·omega
   ·split <;> omega
theorem Zb {α : Type} [Inhabited α] {x y : List α} {j : Nat} (h : x.length ≤ j) : nth (x ++ y) j = nth y (j - x.length) := by
 unfold nth
 rw [List.getD_eq_getElem?_getD, List.getD_eq_getElem?_getD, List.getElem?_append_right h]
theorem zhU {i k : Nat} (hi : i < l.length) (hk : k < l.length) (hne : xK l s i k ≠ []) : zhT l s i k < (yj l s).length ∧ nth (yj l s) (zhT l s i k) = (i, k, hd0 (xK l s i k)) ∧ ∀ j, j < (yj l s).length → (zf5 (nth (yj l s) j) (i, k, 0) < 0 ↔ j < zhT l s i k) := by
 obtain ⟨rest, he, hr⟩ := zc7 (s := s) hi hk
 obtain ⟨w, ws, hw⟩ := List.exists_cons_of_ne_nil hne
 have hrow : xL l s i k = (i, k, w) :: ws.map fun w => (i, k, w) := by unfold xL; rw [hw]; rfl
 have hhd : hd0 (xK l s i k) = w := by rw [hw]; rfl
 have hlen : zhT l s i k < (yj l s).length := by
  rw [he, hrow]
  unfold zhT
  simp only [List.length_append, List.length_cons]
  omega
 refine ⟨hlen, ?_, fun j hj => ?_⟩
 ·rw [he, hhd]
  unfold zhT
  rw [Zb (by omega), Zb (by omega), hrow, show (XF l s i).length + (ye l s i k).length - (XF l s i).length - (ye l s i k).length = 0 by omega]
  rfl
 ·rw [zht]
  unfold zhT
  rw [he] at hj ⊢
  rcases Nat.lt_or_ge j (XF l s i).length with h1 | h1
  ·rw [yz h1]
   have := zhx (zI h1)
   dsimp only
   omega
  ·rw [Zb h1]
   rw [List.length_append] at hj
   rcases Nat.lt_or_ge (j - (XF l s i).length) (ye l s i k).length with h2 | h2
   ·rw [yz h2]
    have := zak (zI h2)
    dsimp only
    omega
   ·rw [Zb h2]
    rw [List.length_append] at hj
    have hm : nth (xL l s i k ++ rest) (j - (XF l s i).length - (ye l s i k).length) ∈ xL l s i k ++ rest := zI (by omega)
    generalize nth (xL l s i k ++ rest) (j - (XF l s i).length - (ye l s i k).length) = e0 at hm ⊢
    dsimp only
    rcases List.mem_append.1 hm with hm | hm
    ·unfold xL at hm
     obtain ⟨w', hw', e⟩ := List.mem_map.1 hm
     rw [← e]
     have := zig hw'
     dsimp only
     omega
    ·have := hr _ hm
     omega
end
def okK (o : OpV) : Bool := decide (o.k = 0) || (decide (o.k = 2) && decide (o.arg ≠ 0))
def zjh (l : List OpV) (i : Nat) : Bool := okK (nth l i) && !(decide ((nth l i).k = 2) && Yb (l.take i) (nth l i).key (nth l i).arg)
def zch (l : List OpV) (i : Nat) : Bool := (nth l i).done && l.any fun o => decide (o.k = 2) && decide (o.key = (nth l i).key) && decide (o.arg = (nth l i).res) && !o.done
def zgK (l : List OpV) (i : Nat) : Bool := (List.range i).all (zjh l)
def Xc (l : List OpV) (i : Nat) : Bool := (List.range i).any (zch l)
def ZQ (l : List OpV) : Bool := zgK l l.length && !Xc l l.length
theorem zgL (l : List OpV) (i : Nat) : zgK l (i + 1) = (zgK l i && zjh l i) := by
 unfold zgK; rw [List.range_succ, List.all_append]; simp
theorem zdn (l : List OpV) (i : Nat) : Xc l (i + 1) = (Xc l i || zch l i) := by
 unfold Xc; rw [List.range_succ, List.any_append]; simp
theorem XZ {l : List OpV} {i : Nat} (hi : i ≤ l.length) {key v : Int} : Yb (l.take i) key v = true ↔ ∃ w, w < i ∧ (nth l w).k = 2 ∧ (nth l w).key = key ∧ (nth l w).arg = v := by
 rw [UI]
 have e : ∀ w, w < i → nth (l.take i) w = nth l w := fun w hw => by rw [nth_eq (by simp; omega), nth_eq (by omega), List.getElem_take]
 have hl : (l.take i).length = i := by simp; omega
 rw [hl]
 constructor
 ·rintro ⟨w, hw, h⟩; exact ⟨w, hw, by rw [← e w hw]; exact h⟩
 ·rintro ⟨w, hw, h⟩; exact ⟨w, hw, by rw [e w hw]; exact h⟩
structure zjV (l : List OpV) (i : Nat) : Prop where
 kind : ∀ j, j < i → (nth l j).k = 0 ∨ ((nth l j).k = 2 ∧ (nth l j).arg ≠ 0)
 uniq : ∀ j q, j < q → q < i → (nth l j).k = 2 → (nth l q).k = 2 → (nth l j).key = (nth l q).key → (nth l j).arg ≠ (nth l q).arg
theorem zeb {l : List OpV} {i : Nat} (hi : i ≤ l.length) : zgK l i = true ↔ zjV l i := by
 unfold zgK zjh okK
 simp only [List.all_eq_true, List.mem_range, Bool.and_eq_true, Bool.or_eq_true, decide_eq_true_eq, Bool.not_eq_true', Bool.and_eq_false_iff, decide_eq_false_iff_not]
 constructor
 ·intro h
  refine ⟨fun j hj => (h j hj).1, fun j q hjq hq k1 k2 hk ha => ?_⟩
  rcases (h q hq).2 with h1 | h1
  ·exact h1 k2
  ·have := XZ (l := l) (i := q) (by omega) |>.2 ⟨j, hjq, k1, hk, ha⟩
   rw [h1] at this; cases this
 ·intro h j hj
  refine ⟨h.kind j hj, ?_⟩
  by_cases h2 : (nth l j).k = 2
  ·right
   cases hw : Yb (l.take j) (nth l j).key (nth l j).arg with
   | false => rfl
   | true =>
    obtain ⟨w, w1, w2, w3, w4⟩ := (XZ (by omega)).1 hw
    exact absurd w4 (h.uniq w j w1 hj w2 h2 w3)
  ·exact .inl h2
theorem Vt {l : List OpV} : ZQ l = true ↔ zeo l := by
 unfold ZQ
 rw [Bool.and_eq_true, zeb (Nat.le_refl _), Bool.not_eq_true']
 unfold Xc zch
 constructor
 ·rintro ⟨h, hp⟩
  refine ⟨fun i hi => by rcases h.kind i hi with e | e; exact .inl e; exact .inr e.1, fun i hi h2 => by rcases h.kind i hi with e | e; omega; exact e.2, fun i j hi hj k1 k2 hk ha => ?_, fun i k hi hk k2 hkk hd ha => ?_⟩
  ·rcases Nat.lt_trichotomy i j with hlt | he | hgt
   ·exact absurd ha (h.uniq i j hlt hj k1 k2 hk)
   ·exact he
   ·exact absurd ha.symm (h.uniq j i hgt hi k2 k1 hk.symm)
  ·have h1 := List.any_eq_false.1 hp i (List.mem_range.2 hi)
   rw [hd, Bool.true_and, Bool.not_eq_true, List.any_eq_false] at h1
   have h2 := h1 (nth l k) (zI hk)
   simpa [k2, hkk, ha] using h2
 ·intro h
  refine ⟨⟨fun j hj => ?_, fun j q hjq hq k1 k2 hk ha => ?_⟩, ?_⟩
  ·rcases h.kind j hj with e | e
   ·exact .inl e
   ·exact .inr ⟨e, h.arg j hj e⟩
  ·have := h.uniq j q (by omega) hq k1 k2 hk ha; omega
  ·refine List.any_eq_false.2 fun i hi => ?_
   have hi := List.mem_range.1 hi
   cases hd : (nth l i).done with
   | false => simp
   | true =>
    rw [Bool.true_and, Bool.not_eq_true, List.any_eq_false]
    intro o ho
    obtain ⟨k, hk, rfl⟩ := List.getElem_of_mem ho
    rw [← nth_eq hk]
    intro hc
    simp only [Bool.and_eq_true, decide_eq_true_eq, Bool.not_eq_true'] at hc
    have := h.pend i k hi hk hc.1.1.1 hc.1.1.2 hd hc.1.2
    rw [hc.2] at this; cases this
end Go.Proofs.Ytokmanfcndelfaa
