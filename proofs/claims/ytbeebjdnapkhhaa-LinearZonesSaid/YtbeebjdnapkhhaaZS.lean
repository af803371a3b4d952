/-
  Some texts as one: LinSeq, LinGlob, LinChk, LinRef.
-/
import Derived.Test.YtbeebjdnapkhhaaZLinClus
import Derived.Test.YtbeebjdnapkhhaaZQ
import Derived.Test.YtbeebjdnapkhhaaZG
/-
 The order of a key's operations (linear.sequence), in plain Lean: the clusters of a key without violations, one after the other.
-/
namespace Go.Proofs.Ytbeebjdnapkhhaa
set_option linter.unusedVariables false

section
variable {l : List OpV}
theorem zdW {c : List Nat} : ∀ {k : Nat}, k ≤ c.length → ∀ j, j < k → Yu (nth l (UX l c k)) ≤ Yu (nth l (nth c j))
 | 0, _, j, hj => by omega
 | k + 1, hk, j, hj => by
  rw [Wt (by omega)]
  unfold zjt
  by_cases hjk : j = k
  ·subst hjk
   split
   ·exact Int.le_refl _
   ·omega
  ·have := zdW (c := c) (k := k) (by omega) j (by omega)
   split
   ·omega
   ·exact this
theorem zd9 {c : List Nat} : ∀ {k : Nat}, k ≤ c.length → ∀ j, j < k → (nth l (nth c j)).call ≤ (nth l (zbf l c k)).call
 | 0, _, j, hj => by omega
 | k + 1, hk, j, hj => by
  rw [Wz (by omega)]
  unfold zjv
  by_cases hjk : j = k
  ·subst hjk
   split
   ·exact Int.le_refl _
   ·omega
  ·have := zd9 (c := c) (k := k) (by omega) j (by omega)
   split
   ·omega
   ·exact this
theorem ziW {c : List Nat} {i : Nat} (h : i ∈ c) : VH l c ≤ Yu (nth l i) := by
 obtain ⟨j, hj, e⟩ := List.getElem_of_mem h
 have := zdW (l := l) (Nat.le_refl c.length) j hj
 rw [VQ, zm hj, e] at this
 exact this
theorem zjg {c : List Nat} {i : Nat} (h : i ∈ c) : (nth l i).call ≤ zal l c := by
 obtain ⟨j, hj, e⟩ := List.getElem_of_mem h
 have := zd9 (l := l) (Nat.le_refl c.length) j hj
 rw [Uk, zm hj, e] at this
 exact this
theorem zbX {c : List Nat} (h0 : 0 < c.length) : Yg l c ∈ c := by rw [← VQ]; exact VS h0 (Nat.le_refl _)
theorem zcl {c : List Nat} (h0 : 0 < c.length) : Yw l c ∈ c := by rw [← Uk]; exact Ul h0 (Nat.le_refl _)
end

def zhV (l : List OpV) (x y : ClV) : Bool := x.ini || decide (VH l x.ops < zal l y.ops)
def zhg (l : List OpV) (C : List ClV) (i k : Nat) : Prs := ((List.range k).filter fun k => decide (i ≠ k) && zhV l (nth C i) (nth C k)).map fun k => (i, k)
def zgx (l : List OpV) (C : List ClV) (i : Nat) : Prs := (List.range i).flatMap fun i => zhg l C i C.length
def ze2 (l : List OpV) (C : List ClV) : Prs := zgx l C C.length
theorem zgw (l : List OpV) (C : List ClV) (i k : Nat) : zhg l C i (k + 1) = zhg l C i k ++ if (decide (i ≠ k) && zhV l (nth C i) (nth C k)) = true then [(i, k)] else [] := by
 unfold zhg
 rw [List.range_succ, List.filter_append, List.map_append]
 congr 1
 by_cases h : (decide (i ≠ k) && zhV l (nth C i) (nth C k)) = true
 ·rw [if_pos h, List.filter_cons_of_pos (by exact h)]; rfl
 ·rw [if_neg h, List.filter_cons_of_neg (by exact h)]; rfl
theorem zct (l : List OpV) (C : List ClV) (i : Nat) : zgx l C (i + 1) = zgx l C i ++ zhg l C i C.length := by
 unfold zgx
 rw [List.range_succ, List.flatMap_append]
 simp
theorem zei (l : List OpV) (C : List ClV) (i k : Nat) : (zhg l C i k).length ≤ k := by
 unfold zhg
 rw [List.length_map]
 exact Nat.le_trans (List.length_filter_le _ _) (by simp)
theorem zbl (l : List OpV) (C : List ClV) : ∀ i, (zgx l C i).length ≤ i * C.length
 | 0 => by simp [zgx]
 | i + 1 => by
  rw [zct, List.length_append]
  have := zbl l C i
  have := zei l C i C.length
  rw [Nat.succ_mul]; omega
theorem zbk {l : List OpV} {C : List ClV} {i k : Nat} : (i, k) ∈ ze2 l C ↔ i < C.length ∧ k < C.length ∧ i ≠ k ∧ zhV l (nth C i) (nth C k) = true := by
 unfold ze2 zgx
 rw [List.mem_flatMap]
 constructor
 ·rintro ⟨i', h1, h2⟩
  unfold zhg at h2
  obtain ⟨k', h3, h4⟩ := List.mem_map.1 h2
  obtain ⟨h5, h6⟩ := List.mem_filter.1 h3
  simp only [Prod.mk.injEq] at h4
  obtain ⟨rfl, rfl⟩ := h4
  simp only [Bool.and_eq_true, decide_eq_true_eq] at h6
  exact ⟨List.mem_range.1 h1, List.mem_range.1 h5, h6.1, h6.2⟩
 ·rintro ⟨h1, h2, h3, h4⟩
  refine ⟨i, List.mem_range.2 h1, List.mem_map.2 ⟨k, List.mem_filter.2 ⟨List.mem_range.2 h2, ?_⟩, rfl⟩⟩
  rw [decide_eq_true h3, h4]; rfl
theorem VC {l : List OpV} {x y : ClV} : Xh l x y = [] ↔ zal l x.ops ≤ VH l y.ops ∨ (x.ini = false ∧ zal l y.ops ≤ VH l x.ops) := by
 unfold Xh
 by_cases h1 : VH l y.ops ≥ zal l x.ops
 ·rw [if_pos h1]; exact ⟨fun _ => .inl h1, fun _ => rfl⟩
 ·rw [if_neg h1]
  by_cases h2 : x.ini = true
  ·rw [if_pos h2, h2]
   constructor
   ·intro h; cases h
   ·rintro (h | h)
    ·exact absurd h h1
    ·cases h.1
  ·rw [if_neg h2]
   by_cases h3 : VH l x.ops < zal l y.ops
   ·rw [if_pos h3]
    constructor
    ·intro h; cases h
    ·rintro (h | h)
     ·exact absurd h h1
     ·omega
   ·rw [if_neg h3]
    exact ⟨fun _ => .inr ⟨by simpa using h2, by omega⟩, fun _ => rfl⟩
def rkC (l : List OpV) (x : ClV) : Nat := if x.ini = true then 0 else 1 + 2 * (min (VH l x.ops) (zal l x.ops)).toNat + if VH l x.ops < zal l x.ops then 1 else 0
theorem zhX {l : List OpV} {C : List ClV} (hC : ∀ a j, a < j → j < C.length → Xh l (nth C a) (nth C j) = []) (hini : ∀ j, j < C.length → (nth C j).ini = true → j = 0)
  (h0 : ∀ j, j < C.length → 0 ≤ VH l (nth C j).ops ∧ 0 ≤ zal l (nth C j).ops) : ∀ e ∈ ze2 l C, rkC l (nth C e.1) < rkC l (nth C e.2) := by
 rintro ⟨i, k⟩ he
 obtain ⟨hi, hk, hne, hp⟩ := zbk.1 he
 dsimp only
 unfold zhV at hp
 rw [Bool.or_eq_true, decide_eq_true_eq] at hp
 have kini : (nth C k).ini = true → False := fun h => by
  have e := hini k hk h
  have := VC.1 (hC k i (by omega) hi)
  rw [h] at this
  rcases this with h1 | h1
  ·rcases hp with h2 | h2
   ·have := hini i hi h2; omega
   ·omega
  ·cases h1.1
 have kf : (nth C k).ini = false := by
  cases h : (nth C k).ini with
  | false => rfl
  | true => exact (kini h).elim
 unfold rkC
 rw [kf, if_neg (show ¬ false = true by decide)]
 cases hii : (nth C i).ini with
 | true => rw [if_pos rfl]; omega
 | false =>
  rw [if_neg (by decide)]
  have hp : VH l (nth C i).ops < zal l (nth C k).ops := hp.resolve_left (by rw [hii]; decide)
  have hnc : zal l (nth C i).ops ≤ VH l (nth C k).ops := by
   rcases Nat.lt_or_gt_of_ne hne with h | h
   ·rcases VC.1 (hC i k h hk) with h1 | h1
    ·exact h1
    ·omega
   ·rcases VC.1 (hC k i h hi) with h1 | h1
    ·omega
    ·exact h1.2
  obtain ⟨i1, i2⟩ := h0 i hi
  obtain ⟨k1, k2⟩ := h0 k hk
  split <;> split <;> omega
theorem ziL.mem {R : Nat → Nat → Bool} {n : Nat} {L : List Nat} (h : ziL R n L) {b : Nat} (hb : b < n) : b ∈ L := by
 refine Classical.byContradiction fun hno => ?_
 have key : ∀ (l m : List Nat), l.Nodup → (∀ x ∈ l, x ∈ m) → l.length ≤ m.length := by
  intro l
  induction l with
  | nil => intro m _ _; exact Nat.zero_le _
  | cons x l ih =>
   intro m hn hs
   obtain ⟨h1, h2⟩ := List.nodup_cons.1 hn
   have hx := hs x (by simp)
   have hl := List.length_erase_of_mem hx
   have hpos : 0 < m.length := List.length_pos_of_mem hx
   have := ih (m.erase x) h2 fun y hy => (List.mem_erase_of_ne (fun e : y = x => h1 (by rw [← e]; exact hy))).2 (hs y (by simp [hy]))
   rw [List.length_cons]
   omega
 have hs := key L ((List.range n).erase b) h.nd fun x hx => (List.mem_erase_of_ne (fun e : x = b => hno (by rw [← e]; exact hx))).2 (List.mem_range.2 (h.rng x hx))
 rw [List.length_erase_of_mem (List.mem_range.2 hb), List.length_range, h.len] at hs
 omega
def Xz (L : List Nat) (x : Nat) : Nat := L.idxOf x
theorem Yl {L : List Nat} {x : Nat} (h : x ∈ L) : Xz L x < L.length := List.idxOf_lt_length_of_mem h
theorem xA {L : List Nat} {x : Nat} (h : x ∈ L) : nth L (Xz L x) = x := by
 rw [zm (Yl h)]
 exact List.getElem_idxOf _
theorem zgv {L : List Nat} (hn : L.Nodup) {i : Nat} (hi : i < L.length) : Xz L (nth L i) = i := by
 rw [zm hi]
 exact hn.idxOf_getElem i hi
theorem Vk {L : List Nat} {x y : Nat} (hx : x ∈ L) (hy : y ∈ L) (e : Xz L x = Xz L y) : x = y := by
 rw [← xA hx, e, xA hy]
theorem ziL.lt {R : Nat → Nat → Bool} {n : Nat} {L : List Nat} (h : ziL R n L) {a b : Nat} (ha : a < n) (hb : b < n) (hr : R a b = true) : Xz L a < Xz L b := by
 have ma := h.mem ha
 have mb := h.mem hb
 have := h.ord (Xz L a) (Xz L b) (by rw [← h.len]; exact Yl ma) (by rw [← h.len]; exact Yl mb)
 rw [xA ma, xA mb] at this
 exact this hr
structure VO (l : List OpV) (c : Int) : Prop where
 thin : ∀ i, i < l.length → (nth l i).key = c → zfj l i = false
 early : ∀ i, i < l.length → (nth l i).key = c → zfM l i = false
 conf : Xt l c = []
def nCl (l : List OpV) (c : Int) : Nat := (yV l c).length
noncomputable def zfO (l : List OpV) (c : Int) : List Nat := yD (yU (ze2 l (yV l c))) (nCl l c) (nCl l c)
noncomputable def Yz (l : List OpV) (c : Int) : List Nat := (zfO l c).flatMap fun j => (nth (yV l c) j).ops
def zc2 (l : List OpV) (c : Int) (i : Nat) : Nat := ((List.range (nCl l c)).find? fun j => decide (Yv l c j = ZX (nth l i))).getD 0
noncomputable def spL (l : List OpV) (c : Int) (i : Nat) : Nat := Xz (zfO l c) (zc2 l c i) * (l.length + 2) + if (nth l i).k = 1 then 0 else i + 1
section
variable {l : List OpV} {c : Int}
theorem zdL {j : Nat} (hj : j < (yV l c).length) : (nth (yV l c) j).ini = true → j = 0 ∧ zi1 l c = true := by
 rw [XL] at hj
 have h1 : nth (yV l c) j = _ := Wr hj
 rw [h1]
 show (nth (Yb l c l.length) j).1 = true → _
 unfold Yb at hj ⊢
 intro h
 by_cases h0 : zi1 l c = true
 ·rw [if_pos h0] at h hj
  refine ⟨Classical.byContradiction fun hne => ?_, h0⟩
  obtain ⟨j, rfl⟩ : ∃ j', j = j' + 1 := ⟨j - 1, by omega⟩
  simp only [List.length_append, List.length_cons, List.length_nil] at hj
  rw [zm (by simp at hj ⊢; omega)] at h
  simp at h
 ·rw [if_neg h0] at h hj
  rw [List.nil_append] at h hj
  rw [zm hj] at h
  simp at h
theorem VB (D : yu l) {j k : Nat} (hj : j < nCl l c) (hk : k < nCl l c) (e : Yv l c j = Yv l c k) : j = k := by
 have hn := zcN (c := c) D (Nat.le_refl l.length)
 unfold nCl at hj hk
 rw [XL] at hj hk
 unfold Yv at e
 rw [zm hj, zm hk] at e
 refine (List.getElem_inj hn (h₀ := by simpa using hj) (h₁ := by simpa using hk)).1 ?_
 simpa using e
theorem YD (D : yu l) (V : VO l c) {i : Nat} (h1 : i < l.length) (h2 : (nth l i).key = c) (h4 : yn l i = true) : zc2 l c i < nCl l c ∧ Yv l c (zc2 l c i) = ZX (nth l i) := by
 have hex : ∃ j, j < nCl l c ∧ Yv l c j = ZX (nth l i) := by
  unfold nCl
  rw [XL]
  unfold Yv
  rcases D.kind h1 with hk | hk
  ·obtain ⟨j, j1, j2⟩ := zcM D h1 h2 hk (YZ hk h4) (V.thin i h1 h2)
   exact ⟨j, j1, by rw [j2, YP hk]⟩
  ·have hm : (false, [i], (nth l i).arg) ∈ Yb l c l.length := Yq.2 (.inr ⟨i, h1, ZJ.2 ⟨h2, hk, h4⟩, rfl⟩)
   obtain ⟨j, hj, e⟩ := List.getElem_of_mem hm
   exact ⟨j, hj, by rw [zm hj, e, ZA hk]⟩
 obtain ⟨j, j1, j2⟩ := hex
 unfold zc2
 cases hf : (List.range (nCl l c)).find? fun j => decide (Yv l c j = ZX (nth l i)) with
 | none =>
  have := List.find?_eq_none.1 hf j (List.mem_range.2 j1)
  rw [j2] at this
  simp at this
 | some z =>
  rw [List.find?_range_eq_some] at hf
  exact ⟨List.mem_range.1 hf.2.1, by simpa using hf.1⟩
theorem ziR (D : yu l) (V : VO l c) {j i : Nat} (hj : j < nCl l c) (hi : i ∈ (nth (yV l c) j).ops) : zc2 l c i = j := by
 obtain ⟨h1, h2, h3, h4⟩ := (xg D hj).1 hi
 obtain ⟨c1, c2⟩ := YD D V h1 h2 h4
 exact VB D c1 hj (by rw [c2, h3])
theorem VG (D : yu l) (hw : ∀ i, i < l.length → 0 ≤ (nth l i).call ∧ (nth l i).call < (nth l i).ret) (V : VO l c) : (∀ e ∈ ze2 l (yV l c), rkC l (nth (yV l c) e.1) < rkC l (nth (yV l c) e.2)) ∧ ziL (yU (ze2 l (yV l c))) (nCl l c) (zfO l c) := by
 have h := zhX (l := l) (C := yV l c) (fun a j haj hj => zfG.1 V.conf a (by omega) (by omega) j haj hj) (fun j hj h => (zdL hj h).1) (fun j hj => by
  have h0 := VA D hj
  have m1 := (xg D hj).1 (zbX (l := l) h0)
  have m2 := (xg D hj).1 (zcl (l := l) h0)
  have w1 := hw _ m1.1
  have w2 := hw _ m2.1
  refine ⟨?_, w2.1⟩
  unfold VH Yu
  split <;> omega)
 exact ⟨h, zdR (Zz (f := fun j => rkC l (nth (yV l c) j)) h)⟩
theorem xk (D : yu l) (hw : ∀ i, i < l.length → 0 ≤ (nth l i).call ∧ (nth l i).call < (nth l i).ret) (V : VO l c) {i : Nat} : i ∈ Yz l c ↔ i < l.length ∧ (nth l i).key = c ∧ yn l i = true := by
 obtain ⟨_, E⟩ := VG D hw V
 unfold Yz
 rw [List.mem_flatMap]
 constructor
 ·rintro ⟨j, hj, hi⟩
  obtain ⟨h1, h2, h3, h4⟩ := (xg D (E.rng j hj)).1 hi
  exact ⟨h1, h2, h4⟩
 ·rintro ⟨h1, h2, h4⟩
  obtain ⟨c1, c2⟩ := YD D V h1 h2 h4
  exact ⟨_, E.mem c1, (xg D c1).2 ⟨h1, h2, c2.symm, h4⟩⟩
theorem zen (D : yu l) (V : VO l c) {j i : Nat} (hj : j < nCl l c) (hi : i ∈ (nth (yV l c) j).ops) : spL l c i = Xz (zfO l c) j * (l.length + 2) + if (nth l i).k = 1 then 0 else i + 1 := by
 unfold spL
 rw [ziR D V hj hi]
theorem UH {i : Nat} (h : i < l.length) : (if (nth l i).k = 1 then 0 else i + 1) < l.length + 2 := by split <;> omega
theorem zg5 {a b B x y : Nat} (h : a < b) (hx : x < B) : a * B + x < b * B + y := by
 have := Nat.mul_le_mul_right B (show a + 1 ≤ b by omega)
 rw [Nat.succ_mul] at this
 omega
theorem UD (D : yu l) (hw : ∀ i, i < l.length → 0 ≤ (nth l i).call ∧ (nth l i).call < (nth l i).ret) (V : VO l c) : (Yz l c).Pairwise fun a b => spL l c a < spL l c b := by
 obtain ⟨_, E⟩ := VG D hw V
 unfold Yz
 rw [List.pairwise_flatMap]
 constructor
 ·intro j hj
  have hjn := E.rng j hj
  have hrd : ∀ v, (Yx l c v l.length).Pairwise fun a b => a < b ∧ (nth l a).k = 0 ∧ (nth l b).k = 0 := fun v => by
   have h1 : (Yx l c v l.length).Pairwise fun a b => a < b := List.pairwise_lt_range.sublist List.filter_sublist
   refine h1.imp_of_mem fun ha hb hab => ⟨hab, ?_, ?_⟩
   ·exact (yQ.1 (YM.1 ha).2).1
   ·exact (yQ.1 (YM.1 hb).2).1
  have hp : (nth (yV l c) j).ops.Pairwise fun a b => (if (nth l a).k = 1 then 0 else a + 1) < if (nth l b).k = 1 then 0 else b + 1 := by
   rcases xO hjn with ⟨h0, h1, h2⟩ | ⟨w, w1, w2, h1, h2⟩
   ·rw [h2]
    refine (hrd 0).imp fun h => ?_
    rw [if_neg (by omega), if_neg (by omega)]; omega
   ·rw [h2]
    refine List.pairwise_cons.2 ⟨fun b hb => ?_, (hrd _).imp fun h => ?_⟩
    ·have := (yQ.1 (YM.1 hb).2).1
     rw [if_pos (ZJ.1 w2).2.1, if_neg (by omega)]; omega
    ·rw [if_neg (by omega), if_neg (by omega)]; omega
  refine hp.imp_of_mem fun ha hb h => ?_
  rw [zen D V hjn ha, zen D V hjn hb]
  omega
 ·rw [List.pairwise_iff_getElem]
  intro p q hp hq hpq x hx y hy
  have h1 := E.rng _ (List.getElem_mem hp)
  have h2 := E.rng _ (List.getElem_mem hq)
  rw [zen D V h1 hx, zen D V h2 hy]
  have e1 := zgv E.nd hp
  have e2 := zgv E.nd hq
  rw [zm hp] at e1
  rw [zm hq] at e2
  rw [e1, e2]
  exact zg5 hpq (UH ((xg D h1).1 hx).1)
theorem ziC (D : yu l) (hw : ∀ i, i < l.length → 0 ≤ (nth l i).call ∧ (nth l i).call < (nth l i).ret) (V : VO l c) {i k : Nat} (hi : i < nCl l c) (hk : k < nCl l c) (hne : i ≠ k) (h : zhV l (nth (yV l c) i) (nth (yV l c) k) = true) : Xz (zfO l c) i < Xz (zfO l c) k :=
 (VG D hw V).2.lt hi hk (xH.2 (.one (zbk.2 ⟨hi, hk, hne, h⟩)))
theorem zjf (D : yu l) (hc : ∀ i j, i < l.length → j < l.length → (nth l i).call < (nth l j).call → i < j) (hw : ∀ i, i < l.length → 0 ≤ (nth l i).call ∧ (nth l i).call < (nth l i).ret) (V : VO l c) {i k : Nat} (hi : i ∈ Yz l c) (hk : k ∈ Yz l c) (hb : bef l i k = true) : spL l c i < spL l c k := by
 obtain ⟨i1, i2, i4⟩ := (xk D hw V).1 hi
 obtain ⟨k1, k2, k4⟩ := (xk D hw V).1 hk
 obtain ⟨ci, vi⟩ := YD D V i1 i2 i4
 obtain ⟨ck, vk⟩ := YD D V k1 k2 k4
 have mi := (xg D ci).2 ⟨i1, i2, vi.symm, i4⟩
 have mk := (xg D ck).2 ⟨k1, k2, vk.symm, k4⟩
 have hcall := zhn (fun i h => (hw i h).2) i1 hb
 have hik := hc i k i1 k1 hcall
 have hbf := hb
 unfold bef at hbf
 simp only [Bool.and_eq_true, decide_eq_true_eq] at hbf
 unfold spL
 by_cases e : zc2 l c i = zc2 l c k
 ·rw [e]
  have hv : ZX (nth l i) = ZX (nth l k) := by rw [← vi, ← vk, e]
  rcases D.kind i1 with ki | ki
  ·rcases D.kind k1 with kk | kk
   ·rw [if_neg (by omega), if_neg (by omega)]; omega
   ·exfalso
    rw [YP ki, ZA kk] at hv
    have he := V.early i i1 i2
    have e1 := ziJ D k1 kk
    rw [k2, ← hv, ← i2] at e1
    have ha := D.arg k1 kk
    unfold zfM at he
    rw [e1, decide_eq_true ki, hbf.1, decide_eq_true (show (nth l i).res ≠ 0 by omega)] at he
    have he : bef l i k = false := by simpa using he
    rw [hb] at he
    cases he
  ·rcases D.kind k1 with kk | kk
   ·rw [if_pos ki, if_neg (by omega)]; omega
   ·exfalso
    rw [ZA ki, ZA kk] at hv
    have := D.uniq i1 k1 ki kk (i2.trans k2.symm) hv
    omega
 ·refine zg5 (ziC D hw V ci ck e ?_) (UH i1)
  unfold zhV
  rw [Bool.or_eq_true, decide_eq_true_eq]
  refine .inr ?_
  have h1 := ziW (l := l) mi
  have h2 := zjg (l := l) mk
  have h3 : Yu (nth l i) = (nth l i).ret := by unfold Yu; rw [hbf.1]; rfl
  omega
theorem zje (D : yu l) (hw : ∀ i, i < l.length → 0 ≤ (nth l i).call ∧ (nth l i).call < (nth l i).ret) (V : VO l c) {r : Nat} (hr : r < l.length) (hrc : (nth l r).key = c) (h0 : (nth l r).k = 0) (hd : (nth l r).done = true) :
  ((nth l r).res = 0 ∧ ∀ w, wrI l c w → spL l c r < spL l c w) ∨ ∃ w, wrI l c w ∧ (nth l w).arg = (nth l r).res ∧ spL l c w < spL l c r ∧ ∀ w', wrI l c w' → w' ≠ w → spL l c w' < spL l c w ∨ spL l c r < spL l c w' := by
 obtain ⟨cr, vr⟩ := YD D V hr hrc (YY hd)
 rw [YP h0] at vr
 by_cases hz : (nth l r).res = 0
 ·refine .inl ⟨hz, fun w hwi => ?_⟩
  obtain ⟨w1, w2, w3, w4⟩ := hwi
  obtain ⟨cw, vw⟩ := YD D V w1 w2 w4
  rw [ZA w3] at vw
  have ha := D.arg w1 w3
  have hne : zc2 l c r ≠ zc2 l c w := fun e => by rw [e, vw] at vr; omega
  unfold spL
  refine zg5 (ziC D hw V cr cw hne ?_) (UH hr)
  unfold zhV
  rw [Bool.or_eq_true]
  left
  rcases xO cr with ⟨h0, h1, h2⟩ | ⟨u, u1, u2, h1, h2⟩
  ·rw [h2]
  ·exact absurd (by rw [← h1, vr, hz]) (D.arg u1 (ZJ.1 u2).2.1)
 ·have ht := V.thin r hr hrc
  unfold zfj at ht
  rw [decide_eq_true h0, hd, decide_eq_true hz] at ht
  simp only [Bool.true_and] at ht
  cases hwx : wIx l (nth l r).key (nth l r).res with
  | none => rw [hwx] at ht; cases ht
  | some w =>
   obtain ⟨w1, w2, _⟩ := Zc hwx
   rw [YQ] at w2
   obtain ⟨w2, w3, w5⟩ := w2
   have w4 := zhd hr h0 hd w1 w2 w3 w5
   have wc : (nth l w).key = c := w3.trans hrc
   obtain ⟨cw, vw⟩ := YD D V w1 wc w4
   rw [ZA w2] at vw
   have hsame : zc2 l c w = zc2 l c r := VB D cw cr (by rw [vw, vr, w5])
   refine .inr ⟨w, ⟨w1, wc, w2, w4⟩, w5, ?_, ?_⟩
   ·unfold spL
    rw [hsame, if_pos w2, if_neg (by omega)]; omega
   ·rintro w' ⟨x1, x2, x3, x4⟩ hne
    obtain ⟨cx, vx⟩ := YD D V x1 x2 x4
    rw [ZA x3] at vx
    have hdif : zc2 l c w' ≠ zc2 l c w := fun e => by
     rw [e, vw] at vx
     exact hne (D.uniq x1 w1 x3 w2 (x2.trans wc.symm) vx.symm)
    have E := (VG D hw V).2
    have hpd : Xz (zfO l c) (zc2 l c w') ≠ Xz (zfO l c) (zc2 l c w) := fun e => hdif (Vk (E.mem cx) (E.mem cw) e)
    rcases Nat.lt_or_gt_of_ne hpd with h | h
    ·left; unfold spL; exact zg5 h (UH x1)
    ·right; unfold spL; rw [← hsame]; exact zg5 h (UH hr)
end
end Go.Proofs.Ytbeebjdnapkhhaa
/-
 A linearization of a history without violations (linear.linearization), in plain Lean.
-/
namespace Go.Proofs.Ytbeebjdnapkhhaa
set_option linter.unusedVariables false

def zil (h : Nat → Nat) (L : List Nat) : Nat := L.foldr (fun x m => max (h x) m) 0
theorem zbx {h : Nat → Nat} {x : Nat} : ∀ {L : List Nat}, x ∈ L → h x ≤ zil h L
 | y :: L, hx => by
  show h x ≤ max (h y) (zil h L)
  rcases List.mem_cons.1 hx with rfl | hx
  ·omega
  ·have := zbx (h := h) hx; omega
theorem zdz {h : Nat → Nat} : ∀ (L : List Nat), zil h L = 0 ∨ ∃ x ∈ L, h x = zil h L
 | [] => .inl rfl
 | y :: L => by
  show max (h y) (zil h L) = 0 ∨ ∃ x ∈ y :: L, h x = max (h y) (zil h L)
  rcases Nat.le_total (zil h L) (h y) with hle | hle
  ·exact .inr ⟨y, by simp, by omega⟩
  ·rcases zdz (h := h) L with e | ⟨x, hx, e⟩
   ·by_cases h0 : h y = 0
    ·left; omega
    ·exact .inr ⟨y, by simp, by omega⟩
   ·exact .inr ⟨x, by simp [hx], by omega⟩
theorem WB {α : Type} [BEq α] [LawfulBEq α] : ∀ {l m : List α}, l.Nodup → (∀ x ∈ l, x ∈ m) → l.length ≤ m.length
 | [], m, _, _ => Nat.zero_le _
 | x :: l, m, hn, hs => by
  have h1 := List.nodup_cons.1 hn
  have hx := hs x (by simp)
  have hl := List.length_erase_of_mem hx
  have hpos : 0 < m.length := List.length_pos_of_mem hx
  have := WB (m := m.erase x) h1.2 fun y hy => (List.mem_erase_of_ne (fun e : y = x => h1.1 (by rw [← e]; exact hy))).2 (hs y (by simp [hy]))
  rw [List.length_cons]
  omega
def Zk (l : List OpV) : List Nat := (List.range l.length).filter (yn l)
def zed (l : List OpV) (i : Nat) : Nat := Xz (Zk l) i
def zft (l : List OpV) (row : List Nat) (k : Nat) : Prs := (List.range k).map fun i => (zed l (nth row i), zed l (nth row (i + 1)))
def zj2 (l : List OpV) (row : List Nat) : Prs := zft l row (row.length - 1)
noncomputable def zd2 (l : List OpV) (K : List Int) : Prs := K.flatMap fun c => zj2 l (Yz l c)
def rtR (l : List OpV) (a k : Nat) : Prs := ((List.range k).filter fun b => bef l (nth (Zk l) a) (nth (Zk l) b)).map fun b => (a, b)
def rtT (l : List OpV) (a : Nat) : Prs := (List.range a).flatMap fun a => rtR l a (Zk l).length
noncomputable def zgn (l : List OpV) (K : List Int) : Prs := zd2 l K ++ rtT l (Zk l).length
noncomputable def ziA (l : List OpV) (K : List Int) : List Nat := yD (yU (zgn l K)) (Zk l).length (Zk l).length
noncomputable def zeU (l : List OpV) (K : List Int) : List Nat := (ziA l K).map fun a => nth (Zk l) a
theorem zgV (l : List OpV) (row : List Nat) (k : Nat) : zft l row (k + 1) = zft l row k ++ [(zed l (nth row k), zed l (nth row (k + 1)))] := by
 unfold zft; rw [List.range_succ, List.map_append]; rfl
theorem zek (l : List OpV) (row : List Nat) (k : Nat) : (zft l row k).length = k := by simp [zft]
theorem zib (l : List OpV) (a k : Nat) : rtR l a (k + 1) = rtR l a k ++ if bef l (nth (Zk l) a) (nth (Zk l) k) = true then [(a, k)] else [] := by
 unfold rtR
 rw [List.range_succ, List.filter_append, List.map_append]
 congr 1
 by_cases h : bef l (nth (Zk l) a) (nth (Zk l) k) = true
 ·rw [if_pos h, List.filter_cons_of_pos (by exact h)]; rfl
 ·rw [if_neg h, List.filter_cons_of_neg (by exact h)]; rfl
theorem zel (l : List OpV) (a : Nat) : rtT l (a + 1) = rtT l a ++ rtR l a (Zk l).length := by
 unfold rtT
 rw [List.range_succ, List.flatMap_append]
 simp
theorem zgZ (l : List OpV) (a k : Nat) : (rtR l a k).length ≤ k := by
 unfold rtR
 rw [List.length_map]
 exact Nat.le_trans (List.length_filter_le _ _) (by simp)
theorem zg0 (l : List OpV) : ∀ i, (rtT l i).length ≤ i * (Zk l).length
 | 0 => by simp [rtT]
 | i + 1 => by
  rw [zel, List.length_append]
  have := zg0 l i
  have := zgZ l i (Zk l).length
  rw [Nat.succ_mul]; omega
theorem yE {l : List OpV} {i : Nat} : i ∈ Zk l ↔ i < l.length ∧ yn l i = true := by unfold Zk; rw [List.mem_filter, List.mem_range]
theorem zi3 (l : List OpV) : (Zk l).length ≤ l.length := by unfold Zk; exact Nat.le_trans (List.length_filter_le _ _) (by simp)
theorem xZ {l : List OpV} {i : Nat} (h : i ∈ Zk l) : zed l i < (Zk l).length := Yl h
theorem Wd {l : List OpV} {i : Nat} (h : i ∈ Zk l) : nth (Zk l) (zed l i) = i := xA h
section
variable {l : List OpV} {K : List Int}
theorem zdw {a b : Nat} : (a, b) ∈ rtT l (Zk l).length ↔ a < (Zk l).length ∧ b < (Zk l).length ∧ bef l (nth (Zk l) a) (nth (Zk l) b) = true := by
 unfold rtT
 rw [List.mem_flatMap]
 constructor
 ·rintro ⟨i', h1, h2⟩
  unfold rtR at h2
  obtain ⟨k', h3, h4⟩ := List.mem_map.1 h2
  obtain ⟨h5, h6⟩ := List.mem_filter.1 h3
  simp only [Prod.mk.injEq] at h4
  obtain ⟨rfl, rfl⟩ := h4
  exact ⟨List.mem_range.1 h1, List.mem_range.1 h5, h6⟩
 ·rintro ⟨h1, h2, h3⟩
  exact ⟨a, List.mem_range.2 h1, List.mem_map.2 ⟨b, List.mem_filter.2 ⟨List.mem_range.2 h2, h3⟩, rfl⟩⟩
theorem Vj {x : Nat × Nat} : x ∈ zd2 l K ↔ ∃ c ∈ K, ∃ i, i + 1 < (Yz l c).length ∧ x = (zed l (nth (Yz l c) i), zed l (nth (Yz l c) (i + 1))) := by
 unfold zd2 zj2 zft
 rw [List.mem_flatMap]
 constructor
 ·rintro ⟨c, hc, h⟩
  obtain ⟨i, hi, e⟩ := List.mem_map.1 h
  exact ⟨c, hc, i, by have := List.mem_range.1 hi; omega, e.symm⟩
 ·rintro ⟨c, hc, i, hi, e⟩
  exact ⟨c, hc, List.mem_map.2 ⟨i, List.mem_range.2 (by omega), e.symm⟩⟩
structure H21 (l : List OpV) : Prop where
 dom : yu l
 ord : ∀ i j, i < l.length → j < l.length → (nth l i).call < (nth l j).call → i < j
 wf : ∀ i, i < l.length → 0 ≤ (nth l i).call ∧ (nth l i).call < (nth l i).ret
theorem zem (H : H21 l) {c : Int} (V : VO l c) : (Yz l c).length ≤ l.length := by
 have hn : (Yz l c).Nodup := (UD H.dom H.wf V).imp fun h e => by rw [e] at h; omega
 have := WB (m := List.range l.length) hn fun x hx => List.mem_range.2 ((xk H.dom H.wf V).1 hx).1
 simpa using this
theorem zd3 (H : H21 l) (V : ∀ c ∈ K, VO l c) : ∀ i, i ≤ K.length → (zd2 l (K.take i)).length ≤ i * l.length
 | 0, _ => by simp [zd2]
 | i + 1, hi => by
  have h1 := zd3 H V i (by omega)
  have h2 := zem H (V _ (zC (l := K) (i := i) (by omega)))
  rw [Zb (by omega)]
  unfold zd2 at h1 ⊢
  rw [List.flatMap_append, List.length_append, List.flatMap_singleton, Nat.succ_mul]
  have h3 : (zj2 l (Yz l (nth K i))).length = (Yz l (nth K i)).length - 1 := by unfold zj2; rw [zek]
  omega
theorem zgj {i : Nat} (hi : i < K.length) : zd2 l (K.take (i + 1)) = zd2 l (K.take i) ++ zj2 l (Yz l (nth K i)) := by
 rw [Zb hi]
 unfold zd2
 rw [List.flatMap_append, List.flatMap_singleton]
theorem ziH (H : H21 l) {c : Int} (V : VO l c) {p q : Nat} (hq : q < (Yz l c).length) (hpq : p < q) : spL l c (nth (Yz l c) p) < spL l c (nth (Yz l c) q) := by
 have := List.pairwise_iff_getElem.1 (UD H.dom H.wf V) p q (by omega) hq hpq
 rw [zm hq, zm (by omega)]
 exact this
theorem zhR (H : H21 l) (V : ∀ c ∈ K, VO l c) (hK : ∀ i, i < l.length → (nth l i).key ∈ K) : ∃ f : Nat → Nat, (∀ i k, i < l.length → k < l.length → yn l i = true → yn l k = true → bef l i k = true → f i < f k) ∧
  ∀ i k, i < l.length → k < l.length → yn l i = true → yn l k = true → (nth l i).key = (nth l k).key → spL l (nth l i).key i < spL l (nth l i).key k → f i < f k := by
 obtain ⟨FK, hFK⟩ : ∃ FK : Nat → Nat, FK = fun a => spL l (nth l a).key a := ⟨_, rfl⟩
 have hkk : ∀ a b, a < l.length → b < l.length → yn l a = true → yn l b = true → (nth l a).key = (nth l b).key → bef l a b = true → FK a < FK b := fun a b ha hb ia ib e hbf => by
  rw [hFK]; dsimp only
  rw [← e]
  have V' := V _ (hK a ha)
  exact zjf H.dom H.ord H.wf V' ((xk H.dom H.wf V').2 ⟨ha, rfl, ia⟩) ((xk H.dom H.wf V').2 ⟨hb, e.symm, ib⟩) hbf
 obtain ⟨B, hB⟩ : ∃ B, B = zil FK (List.range l.length) + 1 := ⟨_, rfl⟩
 have hlt : ∀ a, a < l.length → FK a < B := fun a ha => by
  have := zbx (h := FK) (List.mem_range.2 ha)
  omega
 obtain ⟨S, hS⟩ : ∃ S : Nat → List Nat, S = fun a => (List.range l.length).filter fun b => yn l b && decide ((nth l b).key = (nth l a).key) && decide (FK b ≤ FK a) := ⟨_, rfl⟩
 have hSm : ∀ a b, b ∈ S a ↔ b < l.length ∧ yn l b = true ∧ (nth l b).key = (nth l a).key ∧ FK b ≤ FK a := fun a b => by
  rw [hS]; dsimp only
  rw [List.mem_filter, List.mem_range]
  simp only [Bool.and_eq_true, decide_eq_true_eq, and_assoc]
 obtain ⟨g, hg⟩ : ∃ g : Nat → Nat, g = fun a => zil (fun b => (nth l b).call.toNat) (S a) := ⟨_, rfl⟩
 have same : ∀ a b, a < l.length → b < l.length → (nth l a).key = (nth l b).key → FK a < FK b → g a * B + FK a < g b * B + FK b := fun a b ha hb hk h1 => by
  have h2 : g a ≤ g b := by
   rw [hg]; dsimp only
   rcases zdz (h := fun b => (nth l b).call.toNat) (S a) with e | ⟨x, hx, e⟩
   ·omega
   ·rw [← e]
    obtain ⟨x1, x2, x3, x4⟩ := (hSm a x).1 hx
    exact zbx (h := fun b => (nth l b).call.toNat) ((hSm b x).2 ⟨x1, x2, x3.trans hk, by omega⟩)
  have := Nat.mul_le_mul_right B h2
  omega
 refine ⟨fun a => g a * B + FK a, fun a b ha hb ia ib hbf => ?_, fun a b ha hb ia ib hk hs => ?_⟩
 ·dsimp only
  by_cases hk : (nth l a).key = (nth l b).key
  ·exact same a b ha hb hk (hkk a b ha hb ia ib hk hbf)
  ·have hbf' := hbf
   unfold bef at hbf
   simp only [Bool.and_eq_true, decide_eq_true_eq] at hbf
   have hwa := H.wf a ha
   have hwb := H.wf b hb
   have h1 : g a ≤ (nth l a).ret.toNat := by
    rw [hg]; dsimp only
    rcases zdz (h := fun b => (nth l b).call.toNat) (S a) with e | ⟨x, hx, e⟩
    ·omega
    ·rw [← e]
     obtain ⟨x1, x2, x3, x4⟩ := (hSm a x).1 hx
     have hwx := H.wf x x1
     by_cases hlt2 : (nth l a).ret < (nth l x).call
     ·exfalso
      have := hkk a x ha x1 ia x2 x3.symm (by unfold bef; simp [hbf.1, hlt2])
      omega
     ·omega
   have h2 : (nth l b).call.toNat ≤ g b := by
    rw [hg]; dsimp only
    exact zbx (h := fun b => (nth l b).call.toNat) ((hSm b b).2 ⟨hb, ib, rfl, Nat.le_refl _⟩)
   have h3 : g a + 1 ≤ g b := by omega
   have h4 := Nat.mul_le_mul_right B h3
   rw [Nat.succ_mul] at h4
   have := hlt a ha
   omega
 ·dsimp only
  refine same a b ha hb hk ?_
  rw [hFK]; dsimp only
  rw [← hk]; exact hs
theorem zi6 (H : H21 l) (V : ∀ c ∈ K, VO l c) : ∀ e ∈ zgn l K, e.1 < (Zk l).length ∧ e.2 < (Zk l).length := by
 rintro ⟨a, b⟩ he
 rcases List.mem_append.1 he with he | he
 ·obtain ⟨c, hc, i, hi, e⟩ := Vj.1 he
  simp only [Prod.mk.injEq] at e
  obtain ⟨rfl, rfl⟩ := e
  have m1 := (xk H.dom H.wf (V c hc)).1 (zC (show i < (Yz l c).length by omega))
  have m2 := (xk H.dom H.wf (V c hc)).1 (zC hi)
  exact ⟨xZ (yE.2 ⟨m1.1, m1.2.2⟩), xZ (yE.2 ⟨m2.1, m2.2.2⟩)⟩
 ·obtain ⟨h1, h2, _⟩ := zdw.1 he
  exact ⟨h1, h2⟩
theorem zci (H : H21 l) (V : ∀ c ∈ K, VO l c) (hK : ∀ i, i < l.length → (nth l i).key ∈ K) : ∃ f : Nat → Nat, ∀ e ∈ zgn l K, f e.1 < f e.2 := by
 obtain ⟨f, f1, f2⟩ := zhR H V hK
 refine ⟨fun a => f (nth (Zk l) a), ?_⟩
 rintro ⟨a, b⟩ he
 dsimp only
 rcases List.mem_append.1 he with he | he
 ·obtain ⟨c, hc, i, hi, e⟩ := Vj.1 he
  simp only [Prod.mk.injEq] at e
  obtain ⟨rfl, rfl⟩ := e
  have m1 := (xk H.dom H.wf (V c hc)).1 (zC (show i < (Yz l c).length by omega))
  have m2 := (xk H.dom H.wf (V c hc)).1 (zC hi)
  rw [Wd (yE.2 ⟨m1.1, m1.2.2⟩), Wd (yE.2 ⟨m2.1, m2.2.2⟩)]
  refine f2 _ _ m1.1 m2.1 m1.2.2 m2.2.2 (m1.2.1.trans m2.2.1.symm) ?_
  rw [m1.2.1]
  exact ziH H (V c hc) hi (by omega)
 ·obtain ⟨h1, h2, h3⟩ := zdw.1 he
  have m1 := yE.1 (zC h1)
  have m2 := yE.1 (zC h2)
  exact f1 _ _ m1.1 m2.1 m1.2 m2.2 h3
theorem Wy (H : H21 l) (V : ∀ c ∈ K, VO l c) (hK : ∀ i, i < l.length → (nth l i).key ∈ K) : ziL (yU (zgn l K)) (Zk l).length (ziA l K) := by
 obtain ⟨f, hf⟩ := zci H V hK
 exact zdR (Zz hf)
theorem zd5 (H : H21 l) (V : ∀ c ∈ K, VO l c) (hK : ∀ i, i < l.length → (nth l i).key ∈ K) : (zeU l K).length = (Zk l).length := by
 unfold zeU; rw [List.length_map]; exact (Wy H V hK).len
noncomputable def zcU (l : List OpV) (K : List Int) (i : Nat) : Nat := Xz (ziA l K) (zed l i)
theorem zeo (H : H21 l) (V : ∀ c ∈ K, VO l c) (hK : ∀ i, i < l.length → (nth l i).key ∈ K) {a b : Nat} (ha : a < l.length) (hb : b < l.length) (ia : yn l a = true) (ib : yn l b = true) {c : Int} (ka : (nth l a).key = c) (kb : (nth l b).key = c) (h : spL l c a < spL l c b) : zcU l K a < zcU l K b := by
 have E := Wy H V hK
 have hc : c ∈ K := by rw [← ka]; exact hK a ha
 have V' := V c hc
 have ma := (xk H.dom H.wf V').2 ⟨ha, ka, ia⟩
 have mb := (xk H.dom H.wf V').2 ⟨hb, kb, ib⟩
 have reach : ∀ d p, p + d + 1 < (Yz l c).length → zhk (zgn l K) (zed l (nth (Yz l c) p)) (zed l (nth (Yz l c) (p + d + 1))) := by
  intro d
  induction d with
  | zero => intro p hp; exact .one (List.mem_append_left _ (Vj.2 ⟨c, hc, p, hp, rfl⟩))
  | succ d ih =>
   intro p hp
   refine .step (b := zed l (nth (Yz l c) (p + 1))) (List.mem_append_left _ (Vj.2 ⟨c, hc, p, by omega, rfl⟩)) ?_
   have := ih (p + 1) (by omega)
   rw [show p + 1 + d + 1 = p + (d + 1) + 1 by omega] at this
   exact this
 have hpa := Yl ma
 have hpb := Yl mb
 have hlt : Xz (Yz l c) a < Xz (Yz l c) b := by
  refine Nat.lt_of_not_le fun hle => ?_
  rcases Nat.lt_or_eq_of_le hle with h2 | h2
  ·have := ziH H V' hpa h2
   rw [xA ma, xA mb] at this
   omega
  ·have := Vk mb ma h2
   subst this
   omega
 have h1 := reach (Xz (Yz l c) b - Xz (Yz l c) a - 1) (Xz (Yz l c) a) (by omega)
 rw [show Xz (Yz l c) a + (Xz (Yz l c) b - Xz (Yz l c) a - 1) + 1 = Xz (Yz l c) b by omega, xA ma, xA mb] at h1
 exact E.lt (xZ (yE.2 ⟨ha, ia⟩)) (xZ (yE.2 ⟨hb, ib⟩)) (xH.2 h1)
theorem zhQ (H : H21 l) (V : ∀ c ∈ K, VO l c) (hK : ∀ i, i < l.length → (nth l i).key ∈ K) : zkf l (zcU l K) where
 rt i k hi hk ii ik hb := by
  have E := Wy H V hK
  have mi := yE.2 ⟨hi, ii⟩
  have mk := yE.2 ⟨hk, ik⟩
  refine E.lt (xZ mi) (xZ mk) (xH.2 (.one (List.mem_append_right _ (zdw.2 ⟨xZ mi, xZ mk, ?_⟩))))
  rw [Wd mi, Wd mk]; exact hb
 rd r hr h0 hd := by
  have V' := V _ (hK r hr)
  have ir := YY hd
  rcases zje H.dom H.wf V' hr rfl h0 hd with ⟨e, h⟩ | ⟨w, hw, ha, hlt, ho⟩
  ·exact .inl ⟨e, fun w hw => Nat.le_of_lt (zeo H V hK hr hw.1 ir hw.2.2.2 rfl hw.2.1 (h w hw))⟩
  ·refine .inr ⟨w, hw, ha, Nat.le_of_lt (zeo H V hK hw.1 hr hw.2.2.2 ir hw.2.1 rfl hlt), fun w' hw' hne => ?_⟩
   rcases ho w' hw' hne with h | h
   ·exact .inl (zeo H V hK hw'.1 hw.1 hw'.2.2.2 hw.2.2.2 hw'.2.1 hw.2.1 h)
   ·exact .inr (zeo H V hK hr hw'.1 ir hw'.2.2.2 rfl hw'.2.1 h)
theorem zjh (H : H21 l) (V : ∀ c ∈ K, VO l c) (hK : ∀ i, i < l.length → (nth l i).key ∈ K) {i k : Nat} (hi : i < l.length) (hk : k < l.length) (ii : yn l i = true) (ik : yn l k = true) (e : zcU l K i = zcU l K k) : i = k := by
 have E := Wy H V hK
 have mi := yE.2 ⟨hi, ii⟩
 have mk := yE.2 ⟨hk, ik⟩
 have := Vk (E.mem (xZ mi)) (E.mem (xZ mk)) e
 exact Vk mi mk this
end
end Go.Proofs.Ytbeebjdnapkhhaa
/-
 linear.Check's verdict, in plain Lean.
-/
namespace Go.Proofs.Ytbeebjdnapkhhaa
set_option linter.unusedVariables false

theorem zap {l : List OpV} (h : xx l = 0) : l.length ≤ 300 ∧ ∀ j, j < l.length → zbA l j = 0 := by
 unfold xx at h
 split at h
 ·cases h
 ·refine ⟨by omega, fun j hj => ?_⟩
  have key : ∀ (n k : Nat), zW l k n = 0 → ∀ j, k ≤ j → j < k + n → zbA l j = 0 := by
   intro n
   induction n with
   | zero => intro k _ j h1 h2; omega
   | succ n ih =>
    intro k hk j h1 h2
    unfold zW at hk
    split at hk
    ·rename_i he
     rcases Nat.eq_or_lt_of_le h1 with e | e
     ·rw [← e]; exact he
     ·exact ih (k + 1) hk j e (by omega)
    ·rename_i he; exact absurd hk he
  exact key l.length 0 h j (Nat.zero_le _) (by omega)
theorem zaZ {l : List OpV} (h : xx l = 0) {j : Nat} (hj : j < l.length) : wfB (nth l j) = true ∧ (0 < j → (nth l (j - 1)).call < (nth l j).call) := by
 have := (zap h).2 j hj
 unfold zbA at this
 by_cases hw : wfB (nth l j) = false
 ·rw [if_pos hw] at this; cases this
 ·rw [if_neg hw] at this
  refine ⟨by simpa using hw, fun h0 => ?_⟩
  by_cases hc : 0 < j ∧ (nth l j).call ≤ (nth l (j - 1)).call
  ·rw [if_pos hc] at this; cases this
  ·omega
theorem zbK {l : List OpV} (h : xx l = 0) {i : Nat} : ∀ {d : Nat}, i + d + 1 < l.length → (nth l i).call < (nth l (i + d + 1)).call
 | 0, hd => (zaZ h hd).2 (by omega)
 | d + 1, hd => by
  have h1 := zbK h (i := i) (d := d) (by omega)
  have h2 := (zaZ h hd).2 (by omega)
  rw [show i + (d + 1) + 1 - 1 = i + d + 1 by omega] at h2
  omega
theorem zbJ {l : List OpV} (h : xx l = 0) (D : yu l) : H21 l where
 dom := D
 ord i j hi hj hc := by
  refine Nat.lt_of_not_le fun hle => ?_
  rcases Nat.lt_or_eq_of_le hle with h2 | h2
  ·have := zbK h (i := j) (d := i - j - 1) (by omega)
   rw [show j + (i - j - 1) + 1 = i by omega] at this
   omega
  ·subst h2; omega
 wf i hi := by
  have := (zaZ h hi).1
  simp only [wfB, Bool.and_eq_true, decide_eq_true_eq] at this
  omega
theorem zha {l : List OpV} {c : Int} : (Vp l c).cls = 0 ↔ VO l c := by
 unfold Vp
 cases h1 : (List.range l.length).find? (UJ l c) with
 | some i =>
  rw [List.find?_range_eq_some] at h1
  refine ⟨fun h => (by cases h), fun V => ?_⟩
  have := h1.1
  unfold UJ at this
  rw [Bool.and_eq_true, decide_eq_true_eq] at this
  rw [V.thin i (List.mem_range.1 h1.2.1) this.1] at this
  cases this.2
 | none =>
  dsimp only
  cases h2 : (List.range l.length).find? (Zw l c) with
  | some i =>
   rw [List.find?_range_eq_some] at h2
   refine ⟨fun h => (by cases h), fun V => ?_⟩
   have := h2.1
   unfold Zw at this
   rw [Bool.and_eq_true, decide_eq_true_eq] at this
   rw [V.early i (List.mem_range.1 h2.2.1) this.1] at this
   cases this.2
  | none =>
   dsimp only
   by_cases h3 : Xt l c = []
   ·rw [if_pos h3]
    refine ⟨fun _ => ⟨fun i hi hk => ?_, fun i hi hk => ?_, h3⟩, fun _ => rfl⟩
    ·have := List.find?_eq_none.1 h1 i (List.mem_range.2 hi)
     unfold UJ at this
     rw [decide_eq_true hk, Bool.true_and] at this
     simpa using this
    ·have := List.find?_eq_none.1 h2 i (List.mem_range.2 hi)
     unfold Zw at this
     rw [decide_eq_true hk, Bool.true_and] at this
     simpa using this
   ·rw [if_neg h3]
    exact ⟨fun h => (by cases h), fun V => absurd V.conf h3⟩
def zfw (l : List OpV) : Option Int := (yO l).find? fun c => decide ((Vp l c).cls ≠ 0)
structure zj7 where
 cls : Int
 arg : Int
 ord : List Nat
 ed : List (Nat × Nat)
noncomputable def ziB (l : List OpV) : zj7 :=
 match zfw l with
 | some c => ⟨(Vp l c).cls, c, (Vp l c).ord, (Vp l c).ed⟩
 | none => ⟨0, 0, zeU l (yO l), []⟩
theorem zcO {l : List OpV} : zfw l = none ↔ ∀ c ∈ yO l, VO l c := by
 unfold zfw
 rw [List.find?_eq_none]
 constructor
 ·intro h c hc
  have := h c hc
  exact zha.1 (by simpa using this)
 ·intro h c hc
  have := zha.2 (h c hc)
  simpa using this
theorem zjk {l : List OpV} {i : Nat} (hi : i < (yO l).length) (h : ∀ j, j < i → (Vp l (nth (yO l) j)).cls = 0) (h2 : (Vp l (nth (yO l) i)).cls ≠ 0) : zfw l = some (nth (yO l) i) := by
 unfold zfw
 rw [List.find?_eq_some_iff_getElem]
 refine ⟨by simpa using h2, i, hi, (zm hi).symm, fun j hj => ?_⟩
 have := h j hj
 rw [zm (by omega)] at this
 simpa using this
theorem zf5 (l : List OpV) : ∀ i, i < l.length → (nth l i).key ∈ yO l := fun i hi => (ZP l _).2 ⟨_, zC hi, rfl⟩
end Go.Proofs.Ytbeebjdnapkhhaa
/-
 The reference's verdict of layer 21, in plain Lean: it is the program's.
-/
namespace Go.Proofs.Ytbeebjdnapkhhaa
set_option linter.unusedVariables false

section
variable {l : List OpV} {c : Int}
end
end Go.Proofs.Ytbeebjdnapkhhaa
