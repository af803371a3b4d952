/-
  Some texts as one: LinSeq, LinGlob, LinChk, LinRef, LinOrder.
-/
import Derived.Test.YtbeebjdnapkhhaaZLinClus
import Derived.Test.YtbeebjdnapkhhaaZQ
import Derived.Test.YtbeebjdnapkhhaaZG
/-
 The order of a key's operations (linear.sequence), in plain Lean: the clusters of a key without violations, one after the other.
-/
namespace Go.Proofs.Ytbeebjdnapkhhaa
set_option linter.unusedVariables false

section
variable {l : List OpV}
theorem zev {c : List Nat} : ∀ {k : Nat}, k ≤ c.length → ∀ j, j < k → ZU (nth l (zam l c k)) ≤ ZU (nth l (nth c j))
 | 0, _, j, hj => by omega
 | k + 1, hk, j, hj => by
  rw [Wz (by omega)]
  unfold zki
  by_cases hjk : j = k
  ·subst hjk
   split
   ·exact Int.le_refl _
   ·omega
  ·have := zev (c := c) (k := k) (by omega) j (by omega)
   split
   ·omega
   ·exact this
theorem zeM {c : List Nat} : ∀ {k : Nat}, k ≤ c.length → ∀ j, j < k → (nth l (nth c j)).call ≤ (nth l (zbD l c k)).call
 | 0, _, j, hj => by omega
 | k + 1, hk, j, hj => by
  rw [WE (by omega)]
  unfold zkl
  by_cases hjk : j = k
  ·subst hjk
   split
   ·exact Int.le_refl _
   ·omega
  ·have := zeM (c := c) (k := k) (by omega) j (by omega)
   split
   ·omega
   ·exact this
theorem zgu {c : List Nat} {i : Nat} (h : i ∈ c) : WU l c ≤ ZU (nth l i) := by
 obtain ⟨j, hj, e⟩ := List.getElem_of_mem h
 have := zev (l := l) (Nat.le_refl c.length) j hj
 rw [Ua, zg hj, e] at this
 exact this
theorem zhM {c : List Nat} {i : Nat} (h : i ∈ c) : (nth l i).call ≤ Vu l c := by
 obtain ⟨j, hj, e⟩ := List.getElem_of_mem h
 have := zeM (l := l) (Nat.le_refl c.length) j hj
 rw [Uu, zg hj, e] at this
 exact this
theorem zcq {c : List Nat} (h0 : 0 < c.length) : YO l c ∈ c := by rw [← Ua]; exact Ub h0 (Nat.le_refl _)
theorem zcS {c : List Nat} (h0 : 0 < c.length) : Xs l c ∈ c := by rw [← Uu]; exact Uv h0 (Nat.le_refl _)
end

def ziH (l : List OpV) (x y : ClV) : Bool := x.ini || decide (WU l x.ops < Vu l y.ops)
def zh1 (l : List OpV) (C : List ClV) (i k : Nat) : Prs := ((List.range k).filter fun k => decide (i ≠ k) && ziH l (nth C i) (nth C k)).map fun k => (i, k)
def zhb (l : List OpV) (C : List ClV) (i : Nat) : Prs := (List.range i).flatMap fun i => zh1 l C i C.length
def zfF (l : List OpV) (C : List ClV) : Prs := zhb l C C.length
theorem zha (l : List OpV) (C : List ClV) (i k : Nat) : zh1 l C i (k + 1) = zh1 l C i k ++ if (decide (i ≠ k) && ziH l (nth C i) (nth C k)) = true then [(i, k)] else [] := by
 unfold zh1
 rw [List.range_succ, List.filter_append, List.map_append]
 congr 1
 by_cases h : (decide (i ≠ k) && ziH l (nth C i) (nth C k)) = true
 ·rw [if_pos h, List.filter_cons_of_pos (by exact h)]; rfl
 ·rw [if_neg h, List.filter_cons_of_neg (by exact h)]; rfl
theorem zc0 (l : List OpV) (C : List ClV) (i : Nat) : zhb l C (i + 1) = zhb l C i ++ zh1 l C i C.length := by
 unfold zhb
 rw [List.range_succ, List.flatMap_append]
 simp
theorem zeU (l : List OpV) (C : List ClV) (i k : Nat) : (zh1 l C i k).length ≤ k := by
 unfold zh1
 rw [List.length_map]
 exact Nat.le_trans (List.length_filter_le _ _) (by simp)
theorem zbM (l : List OpV) (C : List ClV) : ∀ i, (zhb l C i).length ≤ i * C.length
 | 0 => by simp [zhb]
 | i + 1 => by
  rw [zc0, List.length_append]
  have := zbM l C i
  have := zeU l C i C.length
  rw [Nat.succ_mul]; omega
theorem zbL {l : List OpV} {C : List ClV} {i k : Nat} : (i, k) ∈ zfF l C ↔ i < C.length ∧ k < C.length ∧ i ≠ k ∧ ziH l (nth C i) (nth C k) = true := by
 unfold zfF zhb
 rw [List.mem_flatMap]
 constructor
 ·rintro ⟨i', h1, h2⟩
  unfold zh1 at h2
  obtain ⟨k', h3, h4⟩ := List.mem_map.1 h2
  obtain ⟨h5, h6⟩ := List.mem_filter.1 h3
  simp only [Prod.mk.injEq] at h4
  obtain ⟨rfl, rfl⟩ := h4
  simp only [Bool.and_eq_true, decide_eq_true_eq] at h6
  exact ⟨List.mem_range.1 h1, List.mem_range.1 h5, h6.1, h6.2⟩
 ·rintro ⟨h1, h2, h3, h4⟩
  refine ⟨i, List.mem_range.2 h1, List.mem_map.2 ⟨k, List.mem_filter.2 ⟨List.mem_range.2 h2, ?_⟩, rfl⟩⟩
  rw [decide_eq_true h3, h4]; rfl
theorem Zs {l : List OpV} {x y : ClV} : YL l x y = [] ↔ Vu l x.ops ≤ WU l y.ops ∨ (x.ini = false ∧ Vu l y.ops ≤ WU l x.ops) := by
 unfold YL
 by_cases h1 : WU l y.ops ≥ Vu l x.ops
 ·rw [if_pos h1]; exact ⟨fun _ => .inl h1, fun _ => rfl⟩
 ·rw [if_neg h1]
  by_cases h2 : x.ini = true
  ·rw [if_pos h2, h2]
   constructor
   ·intro h; cases h
   ·rintro (h | h)
    ·exact absurd h h1
    ·cases h.1
  ·rw [if_neg h2]
   by_cases h3 : WU l x.ops < Vu l y.ops
   ·rw [if_pos h3]
    constructor
    ·intro h; cases h
    ·rintro (h | h)
     ·exact absurd h h1
     ·omega
   ·rw [if_neg h3]
    exact ⟨fun _ => .inr ⟨by simpa using h2, by omega⟩, fun _ => rfl⟩
def rkC (l : List OpV) (x : ClV) : Nat := if x.ini = true then 0 else 1 + 2 * (min (WU l x.ops) (Vu l x.ops)).toNat + if WU l x.ops < Vu l x.ops then 1 else 0
theorem ziJ {l : List OpV} {C : List ClV} (hC : ∀ a j, a < j → j < C.length → YL l (nth C a) (nth C j) = []) (hini : ∀ j, j < C.length → (nth C j).ini = true → j = 0)
  (h0 : ∀ j, j < C.length → 0 ≤ WU l (nth C j).ops ∧ 0 ≤ Vu l (nth C j).ops) : ∀ e ∈ zfF l C, rkC l (nth C e.1) < rkC l (nth C e.2) := by
 rintro ⟨i, k⟩ he
 obtain ⟨hi, hk, hne, hp⟩ := zbL.1 he
 dsimp only
 unfold ziH at hp
 rw [Bool.or_eq_true, decide_eq_true_eq] at hp
 have kini : (nth C k).ini = true → False := fun h => by
  have e := hini k hk h
  have := Zs.1 (hC k i (by omega) hi)
  rw [h] at this
  rcases this with h1 | h1
  ·rcases hp with h2 | h2
   ·have := hini i hi h2; omega
   ·omega
  ·cases h1.1
 have kf : (nth C k).ini = false := by
  cases h : (nth C k).ini with
  | false => rfl
  | true => exact (kini h).elim
 unfold rkC
 rw [kf, if_neg (show ¬ false = true by decide)]
 cases hii : (nth C i).ini with
 | true => rw [if_pos rfl]; omega
 | false =>
  rw [if_neg (by decide)]
  have hp : WU l (nth C i).ops < Vu l (nth C k).ops := hp.resolve_left (by rw [hii]; decide)
  have hnc : Vu l (nth C i).ops ≤ WU l (nth C k).ops := by
   rcases Nat.lt_or_gt_of_ne hne with h | h
   ·rcases Zs.1 (hC i k h hk) with h1 | h1
    ·exact h1
    ·omega
   ·rcases Zs.1 (hC k i h hi) with h1 | h1
    ·omega
    ·exact h1.2
  obtain ⟨i1, i2⟩ := h0 i hi
  obtain ⟨k1, k2⟩ := h0 k hk
  split <;> split <;> omega
theorem zjz.mem {R : Nat → Nat → Bool} {n : Nat} {L : List Nat} (h : zjz R n L) {b : Nat} (hb : b < n) : b ∈ L := by
 refine Classical.byContradiction fun hno => ?_
 have key : ∀ (l m : List Nat), l.Nodup → (∀ x ∈ l, x ∈ m) → l.length ≤ m.length := by
  intro l
  induction l with
  | nil => intro m _ _; exact Nat.zero_le _
  | cons x l ih =>
   intro m hn hs
   obtain ⟨h1, h2⟩ := List.nodup_cons.1 hn
   have hx := hs x (by simp)
   have hl := List.length_erase_of_mem hx
   have hpos : 0 < m.length := List.length_pos_of_mem hx
   have := ih (m.erase x) h2 fun y hy => (List.mem_erase_of_ne (fun e : y = x => h1 (by rw [← e]; exact hy))).2 (hs y (by simp [hy]))
   rw [List.length_cons]
   omega
 have hs := key L ((List.range n).erase b) h.nd fun x hx => (List.mem_erase_of_ne (fun e : x = b => hno (by rw [← e]; exact hx))).2 (List.mem_range.2 (h.rng x hx))
 rw [List.length_erase_of_mem (List.mem_range.2 hb), List.length_range, h.len] at hs
 omega
def XI (L : List Nat) (x : Nat) : Nat := L.idxOf x
theorem Yw {L : List Nat} {x : Nat} (h : x ∈ L) : XI L x < L.length := List.idxOf_lt_length_of_mem h
theorem xB {L : List Nat} {x : Nat} (h : x ∈ L) : nth L (XI L x) = x := by
 rw [zg (Yw h)]
 exact List.getElem_idxOf _
theorem zbK {L : List Nat} (hn : L.Nodup) {i : Nat} (hi : i < L.length) : XI L (nth L i) = i := by
 rw [zg hi]
 exact hn.idxOf_getElem i hi
theorem Vs {L : List Nat} {x y : Nat} (hx : x ∈ L) (hy : y ∈ L) (e : XI L x = XI L y) : x = y := by
 rw [← xB hx, e, xB hy]
theorem zjz.lt {R : Nat → Nat → Bool} {n : Nat} {L : List Nat} (h : zjz R n L) {a b : Nat} (ha : a < n) (hb : b < n) (hr : R a b = true) : XI L a < XI L b := by
 have ma := h.mem ha
 have mb := h.mem hb
 have := h.ord (XI L a) (XI L b) (by rw [← h.len]; exact Yw ma) (by rw [← h.len]; exact Yw mb)
 rw [xB ma, xB mb] at this
 exact this hr
structure VO (l : List OpV) (c : Int) : Prop where
 thin : ∀ i, i < l.length → (nth l i).key = c → zb0 l i = false
 early : ∀ i, i < l.length → (nth l i).key = c → zaJ l i = false
 conf : zai l c = []
def nCl (l : List OpV) (c : Int) : Nat := (yz l c).length
noncomputable def zgt (l : List OpV) (c : Int) : List Nat := yF (yY (zfF l (yz l c))) (nCl l c) (nCl l c)
noncomputable def YH (l : List OpV) (c : Int) : List Nat := (zgt l c).flatMap fun j => (nth (yz l c) j).ops
def zdA (l : List OpV) (c : Int) (i : Nat) : Nat := ((List.range (nCl l c)).find? fun j => decide (ZV l c j = Vl (nth l i))).getD 0
noncomputable def spL (l : List OpV) (c : Int) (i : Nat) : Nat := XI (zgt l c) (zdA l c i) * (l.length + 2) + if (nth l i).k = 1 then 0 else i + 1
section
variable {l : List OpV} {c : Int}
theorem zbl {j : Nat} (hj : j < (yz l c).length) : (nth (yz l c) j).ini = true → j = 0 ∧ zjm l c = true := by
 rw [Yp] at hj
 have h1 : nth (yz l c) j = _ := XC hj
 rw [h1]
 show (nth (ZR l c l.length) j).1 = true → _
 unfold ZR at hj ⊢
 intro h
 by_cases h0 : zjm l c = true
 ·rw [if_pos h0] at h hj
  refine ⟨Classical.byContradiction fun hne => ?_, h0⟩
  obtain ⟨j, rfl⟩ : ∃ j', j = j' + 1 := ⟨j - 1, by omega⟩
  simp only [List.length_append, List.length_cons, List.length_nil] at hj
  rw [zg (by simp at hj ⊢; omega)] at h
  simp at h
 ·rw [if_neg h0] at h hj
  rw [List.nil_append] at h hj
  rw [zg hj] at h
  simp at h
theorem VM (D : yb l) {j k : Nat} (hj : j < nCl l c) (hk : k < nCl l c) (e : ZV l c j = ZV l c k) : j = k := by
 have hn := zdk (c := c) D (Nat.le_refl l.length)
 unfold nCl at hj hk
 rw [Yp] at hj hk
 unfold ZV at e
 rw [zg hj, zg hk] at e
 refine (List.getElem_inj hn (h₀ := by simpa using hj) (h₁ := by simpa using hk)).1 ?_
 simpa using e
theorem YK (D : yb l) (V : VO l c) {i : Nat} (h1 : i < l.length) (h2 : (nth l i).key = c) (h4 : zO l i = true) : zdA l c i < nCl l c ∧ ZV l c (zdA l c i) = Vl (nth l i) := by
 have hex : ∃ j, j < nCl l c ∧ ZV l c j = Vl (nth l i) := by
  unfold nCl
  rw [Yp]
  unfold ZV
  rcases D.kind h1 with hk | hk
  ·obtain ⟨j, j1, j2⟩ := zdj D h1 h2 hk (xK hk h4) (V.thin i h1 h2)
   exact ⟨j, j1, by rw [j2, Yh hk]⟩
  ·have hm : (false, [i], (nth l i).arg) ∈ ZR l c l.length := Zi.2 (.inr ⟨i, h1, ZA.2 ⟨h2, hk, h4⟩, rfl⟩)
   obtain ⟨j, hj, e⟩ := List.getElem_of_mem hm
   exact ⟨j, hj, by rw [zg hj, e, Zz hk]⟩
 obtain ⟨j, j1, j2⟩ := hex
 unfold zdA
 cases hf : (List.range (nCl l c)).find? fun j => decide (ZV l c j = Vl (nth l i)) with
 | none =>
  have := List.find?_eq_none.1 hf j (List.mem_range.2 j1)
  rw [j2] at this
  simp at this
 | some z =>
  rw [List.find?_range_eq_some] at hf
  exact ⟨List.mem_range.1 hf.2.1, by simpa using hf.1⟩
theorem zjF (D : yb l) (V : VO l c) {j i : Nat} (hj : j < nCl l c) (hi : i ∈ (nth (yz l c) j).ops) : zdA l c i = j := by
 obtain ⟨h1, h2, h3, h4⟩ := (yM D hj).1 hi
 obtain ⟨c1, c2⟩ := YK D V h1 h2 h4
 exact VM D c1 hj (by rw [c2, h3])
theorem VS (D : yb l) (hw : ∀ i, i < l.length → 0 ≤ (nth l i).call ∧ (nth l i).call < (nth l i).ret) (V : VO l c) : (∀ e ∈ zfF l (yz l c), rkC l (nth (yz l c) e.1) < rkC l (nth (yz l c) e.2)) ∧ zjz (yY (zfF l (yz l c))) (nCl l c) (zgt l c) := by
 have h := ziJ (l := l) (C := yz l c) (fun a j haj hj => zdy.1 V.conf a (by omega) (by omega) j haj hj) (fun j hj h => (zbl hj h).1) (fun j hj => by
  have h0 := VL D hj
  have m1 := (yM D hj).1 (zcq (l := l) h0)
  have m2 := (yM D hj).1 (zcS (l := l) h0)
  have w1 := hw _ m1.1
  have w2 := hw _ m2.1
  refine ⟨?_, w2.1⟩
  unfold WU ZU
  split <;> omega)
 exact ⟨h, zeq (ZH (f := fun j => rkC l (nth (yz l c) j)) h)⟩
theorem xp (D : yb l) (hw : ∀ i, i < l.length → 0 ≤ (nth l i).call ∧ (nth l i).call < (nth l i).ret) (V : VO l c) {i : Nat} : i ∈ YH l c ↔ i < l.length ∧ (nth l i).key = c ∧ zO l i = true := by
 obtain ⟨_, E⟩ := VS D hw V
 unfold YH
 rw [List.mem_flatMap]
 constructor
 ·rintro ⟨j, hj, hi⟩
  obtain ⟨h1, h2, h3, h4⟩ := (yM D (E.rng j hj)).1 hi
  exact ⟨h1, h2, h4⟩
 ·rintro ⟨h1, h2, h4⟩
  obtain ⟨c1, c2⟩ := YK D V h1 h2 h4
  exact ⟨_, E.mem c1, (yM D c1).2 ⟨h1, h2, c2.symm, h4⟩⟩
theorem zeY (D : yb l) (V : VO l c) {j i : Nat} (hj : j < nCl l c) (hi : i ∈ (nth (yz l c) j).ops) : spL l c i = XI (zgt l c) j * (l.length + 2) + if (nth l i).k = 1 then 0 else i + 1 := by
 unfold spL
 rw [zjF D V hj hi]
theorem US {i : Nat} (h : i < l.length) : (if (nth l i).k = 1 then 0 else i + 1) < l.length + 2 := by split <;> omega
theorem zhK {a b B x y : Nat} (h : a < b) (hx : x < B) : a * B + x < b * B + y := by
 have := Nat.mul_le_mul_right B (show a + 1 ≤ b by omega)
 rw [Nat.succ_mul] at this
 omega
theorem UO (D : yb l) (hw : ∀ i, i < l.length → 0 ≤ (nth l i).call ∧ (nth l i).call < (nth l i).ret) (V : VO l c) : (YH l c).Pairwise fun a b => spL l c a < spL l c b := by
 obtain ⟨_, E⟩ := VS D hw V
 unfold YH
 rw [List.pairwise_flatMap]
 constructor
 ·intro j hj
  have hjn := E.rng j hj
  have hrd : ∀ v, (YF l c v l.length).Pairwise fun a b => a < b ∧ (nth l a).k = 0 ∧ (nth l b).k = 0 := fun v => by
   have h1 : (YF l c v l.length).Pairwise fun a b => a < b := List.pairwise_lt_range.sublist List.filter_sublist
   refine h1.imp_of_mem fun ha hb hab => ⟨hab, ?_, ?_⟩
   ·exact (yP.1 (YY.1 ha).2).1
   ·exact (yP.1 (YY.1 hb).2).1
  have hp : (nth (yz l c) j).ops.Pairwise fun a b => (if (nth l a).k = 1 then 0 else a + 1) < if (nth l b).k = 1 then 0 else b + 1 := by
   rcases Zr hjn with ⟨h0, h1, h2⟩ | ⟨w, w1, w2, h1, h2⟩
   ·rw [h2]
    refine (hrd 0).imp fun h => ?_
    rw [if_neg (by omega), if_neg (by omega)]; omega
   ·rw [h2]
    refine List.pairwise_cons.2 ⟨fun b hb => ?_, (hrd _).imp fun h => ?_⟩
    ·have := (yP.1 (YY.1 hb).2).1
     rw [if_pos (ZA.1 w2).2.1, if_neg (by omega)]; omega
    ·rw [if_neg (by omega), if_neg (by omega)]; omega
  refine hp.imp_of_mem fun ha hb h => ?_
  rw [zeY D V hjn ha, zeY D V hjn hb]
  omega
 ·rw [List.pairwise_iff_getElem]
  intro p q hp hq hpq x hx y hy
  have h1 := E.rng _ (List.getElem_mem hp)
  have h2 := E.rng _ (List.getElem_mem hq)
  rw [zeY D V h1 hx, zeY D V h2 hy]
  have e1 := zbK E.nd hp
  have e2 := zbK E.nd hq
  rw [zg hp] at e1
  rw [zg hq] at e2
  rw [e1, e2]
  exact zhK hpq (US ((yM D h1).1 hx).1)
theorem zjr (D : yb l) (hw : ∀ i, i < l.length → 0 ≤ (nth l i).call ∧ (nth l i).call < (nth l i).ret) (V : VO l c) {i k : Nat} (hi : i < nCl l c) (hk : k < nCl l c) (hne : i ≠ k) (h : ziH l (nth (yz l c) i) (nth (yz l c) k) = true) : XI (zgt l c) i < XI (zgt l c) k :=
 (VS D hw V).2.lt hi hk (xM.2 (.one (zbL.2 ⟨hi, hk, hne, h⟩)))
theorem zj4 (D : yb l) (hc : ∀ i j, i < l.length → j < l.length → (nth l i).call < (nth l j).call → i < j) (hw : ∀ i, i < l.length → 0 ≤ (nth l i).call ∧ (nth l i).call < (nth l i).ret) (V : VO l c) {i k : Nat} (hi : i ∈ YH l c) (hk : k ∈ YH l c) (hb : bef l i k = true) : spL l c i < spL l c k := by
 obtain ⟨i1, i2, i4⟩ := (xp D hw V).1 hi
 obtain ⟨k1, k2, k4⟩ := (xp D hw V).1 hk
 obtain ⟨ci, vi⟩ := YK D V i1 i2 i4
 obtain ⟨ck, vk⟩ := YK D V k1 k2 k4
 have mi := (yM D ci).2 ⟨i1, i2, vi.symm, i4⟩
 have mk := (yM D ck).2 ⟨k1, k2, vk.symm, k4⟩
 have hcall := zeh (fun i h => (hw i h).2) i1 hb
 have hik := hc i k i1 k1 hcall
 have hbf := hb
 unfold bef at hbf
 simp only [Bool.and_eq_true, decide_eq_true_eq] at hbf
 unfold spL
 by_cases e : zdA l c i = zdA l c k
 ·rw [e]
  have hv : Vl (nth l i) = Vl (nth l k) := by rw [← vi, ← vk, e]
  rcases D.kind i1 with ki | ki
  ·rcases D.kind k1 with kk | kk
   ·rw [if_neg (by omega), if_neg (by omega)]; omega
   ·exfalso
    rw [Yh ki, Zz kk] at hv
    have he := V.early i i1 i2
    have e1 := zhS D k1 kk
    rw [k2, ← hv, ← i2] at e1
    have ha := D.arg k1 kk
    unfold zaJ at he
    rw [e1, decide_eq_true ki, hbf.1, decide_eq_true (show (nth l i).res ≠ 0 by omega)] at he
    have he : bef l i k = false := by simpa using he
    rw [hb] at he
    cases he
  ·rcases D.kind k1 with kk | kk
   ·rw [if_pos ki, if_neg (by omega)]; omega
   ·exfalso
    rw [Zz ki, Zz kk] at hv
    have := D.uniq i1 k1 ki kk (i2.trans k2.symm) hv
    omega
 ·refine zhK (zjr D hw V ci ck e ?_) (US i1)
  unfold ziH
  rw [Bool.or_eq_true, decide_eq_true_eq]
  refine .inr ?_
  have h1 := zgu (l := l) mi
  have h2 := zhM (l := l) mk
  have h3 : ZU (nth l i) = (nth l i).ret := by unfold ZU; rw [hbf.1]; rfl
  omega
theorem zj3 (D : yb l) (hw : ∀ i, i < l.length → 0 ≤ (nth l i).call ∧ (nth l i).call < (nth l i).ret) (V : VO l c) {r : Nat} (hr : r < l.length) (hrc : (nth l r).key = c) (h0 : (nth l r).k = 0) (hd : (nth l r).done = true) :
  ((nth l r).res = 0 ∧ ∀ w, wrI l c w → spL l c r < spL l c w) ∨ ∃ w, wrI l c w ∧ (nth l w).arg = (nth l r).res ∧ spL l c w < spL l c r ∧ ∀ w', wrI l c w' → w' ≠ w → spL l c w' < spL l c w ∨ spL l c r < spL l c w' := by
 obtain ⟨cr, vr⟩ := YK D V hr hrc (Zl hd)
 rw [Yh h0] at vr
 by_cases hz : (nth l r).res = 0
 ·refine .inl ⟨hz, fun w hwi => ?_⟩
  obtain ⟨w1, w2, w3, w4⟩ := hwi
  obtain ⟨cw, vw⟩ := YK D V w1 w2 w4
  rw [Zz w3] at vw
  have ha := D.arg w1 w3
  have hne : zdA l c r ≠ zdA l c w := fun e => by rw [e, vw] at vr; omega
  unfold spL
  refine zhK (zjr D hw V cr cw hne ?_) (US hr)
  unfold ziH
  rw [Bool.or_eq_true]
  left
  rcases Zr cr with ⟨h0, h1, h2⟩ | ⟨u, u1, u2, h1, h2⟩
  ·rw [h2]
  ·exact absurd (by rw [← h1, vr, hz]) (D.arg u1 (ZA.1 u2).2.1)
 ·have ht := V.thin r hr hrc
  unfold zb0 at ht
  rw [decide_eq_true h0, hd, decide_eq_true hz] at ht
  simp only [Bool.true_and] at ht
  cases hwx : wIx l (nth l r).key (nth l r).res with
  | none => rw [hwx] at ht; cases ht
  | some w =>
   obtain ⟨w1, w2, _⟩ := Zj hwx
   rw [YA] at w2
   obtain ⟨w2, w3, w5⟩ := w2
   have w4 := zhU hr h0 hd w1 w2 w3 w5
   have wc : (nth l w).key = c := w3.trans hrc
   obtain ⟨cw, vw⟩ := YK D V w1 wc w4
   rw [Zz w2] at vw
   have hsame : zdA l c w = zdA l c r := VM D cw cr (by rw [vw, vr, w5])
   refine .inr ⟨w, ⟨w1, wc, w2, w4⟩, w5, ?_, ?_⟩
   ·unfold spL
    rw [hsame, if_pos w2, if_neg (by omega)]; omega
   ·rintro w' ⟨x1, x2, x3, x4⟩ hne
    obtain ⟨cx, vx⟩ := YK D V x1 x2 x4
    rw [Zz x3] at vx
    have hdif : zdA l c w' ≠ zdA l c w := fun e => by
     rw [e, vw] at vx
     exact hne (D.uniq x1 w1 x3 w2 (x2.trans wc.symm) vx.symm)
    have E := (VS D hw V).2
    have hpd : XI (zgt l c) (zdA l c w') ≠ XI (zgt l c) (zdA l c w) := fun e => hdif (Vs (E.mem cx) (E.mem cw) e)
    rcases Nat.lt_or_gt_of_ne hpd with h | h
    ·left; unfold spL; exact zhK h (US x1)
    ·right; unfold spL; rw [← hsame]; exact zhK h (US hr)
end
end Go.Proofs.Ytbeebjdnapkhhaa
/-
 A linearization of a history without violations (linear.linearization), in plain Lean.
-/
namespace Go.Proofs.Ytbeebjdnapkhhaa
set_option linter.unusedVariables false

def zi9 (h : Nat → Nat) (L : List Nat) : Nat := L.foldr (fun x m => max (h x) m) 0
theorem zb1 {h : Nat → Nat} {x : Nat} : ∀ {L : List Nat}, x ∈ L → h x ≤ zi9 h L
 | y :: L, hx => by
  show h x ≤ max (h y) (zi9 h L)
  rcases List.mem_cons.1 hx with rfl | hx
  ·omega
  ·have := zb1 (h := h) hx; omega
theorem zd7 {h : Nat → Nat} : ∀ (L : List Nat), zi9 h L = 0 ∨ ∃ x ∈ L, h x = zi9 h L
 | [] => .inl rfl
 | y :: L => by
  show max (h y) (zi9 h L) = 0 ∨ ∃ x ∈ y :: L, h x = max (h y) (zi9 h L)
  rcases Nat.le_total (zi9 h L) (h y) with hle | hle
  ·exact .inr ⟨y, by simp, by omega⟩
  ·rcases zd7 (h := h) L with e | ⟨x, hx, e⟩
   ·by_cases h0 : h y = 0
    ·left; omega
    ·exact .inr ⟨y, by simp, by omega⟩
   ·exact .inr ⟨x, by simp [hx], by omega⟩
theorem Zn {α : Type} [BEq α] [LawfulBEq α] : ∀ {l m : List α}, l.Nodup → (∀ x ∈ l, x ∈ m) → l.length ≤ m.length
 | [], m, _, _ => Nat.zero_le _
 | x :: l, m, hn, hs => by
  have h1 := List.nodup_cons.1 hn
  have hx := hs x (by simp)
  have hl := List.length_erase_of_mem hx
  have hpos : 0 < m.length := List.length_pos_of_mem hx
  have := Zn (m := m.erase x) h1.2 fun y hy => (List.mem_erase_of_ne (fun e : y = x => h1.1 (by rw [← e]; exact hy))).2 (hs y (by simp [hy]))
  rw [List.length_cons]
  omega
def yZ (l : List OpV) : List Nat := (List.range l.length).filter (zO l)
def zdr (l : List OpV) (i : Nat) : Nat := XI (yZ l) i
def zf9 (l : List OpV) (row : List Nat) (k : Nat) : Prs := (List.range k).map fun i => (zdr l (nth row i), zdr l (nth row (i + 1)))
def zkV (l : List OpV) (row : List Nat) : Prs := zf9 l row (row.length - 1)
noncomputable def zeE (l : List OpV) (K : List Int) : Prs := K.flatMap fun c => zkV l (YH l c)
def rtR (l : List OpV) (a k : Nat) : Prs := ((List.range k).filter fun b => bef l (nth (yZ l) a) (nth (yZ l) b)).map fun b => (a, b)
def rtT (l : List OpV) (a : Nat) : Prs := (List.range a).flatMap fun a => rtR l a (yZ l).length
noncomputable def zg2 (l : List OpV) (K : List Int) : Prs := zeE l K ++ rtT l (yZ l).length
noncomputable def zhY (l : List OpV) (K : List Int) : List Nat := yF (yY (zg2 l K)) (yZ l).length (yZ l).length
noncomputable def Vh (l : List OpV) (K : List Int) : List Nat := (zhY l K).map fun a => nth (yZ l) a
theorem zhA (l : List OpV) (row : List Nat) (k : Nat) : zf9 l row (k + 1) = zf9 l row k ++ [(zdr l (nth row k), zdr l (nth row (k + 1)))] := by
 unfold zf9; rw [List.range_succ, List.map_append]; rfl
theorem zeV (l : List OpV) (row : List Nat) (k : Nat) : (zf9 l row k).length = k := by simp [zf9]
theorem ziY (l : List OpV) (a k : Nat) : rtR l a (k + 1) = rtR l a k ++ if bef l (nth (yZ l) a) (nth (yZ l) k) = true then [(a, k)] else [] := by
 unfold rtR
 rw [List.range_succ, List.filter_append, List.map_append]
 congr 1
 by_cases h : bef l (nth (yZ l) a) (nth (yZ l) k) = true
 ·rw [if_pos h, List.filter_cons_of_pos (by exact h)]; rfl
 ·rw [if_neg h, List.filter_cons_of_neg (by exact h)]; rfl
theorem zeW (l : List OpV) (a : Nat) : rtT l (a + 1) = rtT l a ++ rtR l a (yZ l).length := by
 unfold rtT
 rw [List.range_succ, List.flatMap_append]
 simp
theorem zhE (l : List OpV) (a k : Nat) : (rtR l a k).length ≤ k := by
 unfold rtR
 rw [List.length_map]
 exact Nat.le_trans (List.length_filter_le _ _) (by simp)
theorem zhF (l : List OpV) : ∀ i, (rtT l i).length ≤ i * (yZ l).length
 | 0 => by simp [rtT]
 | i + 1 => by
  rw [zeW, List.length_append]
  have := zhF l i
  have := zhE l i (yZ l).length
  rw [Nat.succ_mul]; omega
theorem yf {l : List OpV} {i : Nat} : i ∈ yZ l ↔ i < l.length ∧ zO l i = true := by unfold yZ; rw [List.mem_filter, List.mem_range]
theorem zgT (l : List OpV) : (yZ l).Nodup := List.nodup_range.sublist List.filter_sublist
theorem zdS (l : List OpV) : (yZ l).length ≤ l.length := by unfold yZ; exact Nat.le_trans (List.length_filter_le _ _) (by simp)
theorem xL {l : List OpV} {i : Nat} (h : i ∈ yZ l) : zdr l i < (yZ l).length := Yw h
theorem Xh {l : List OpV} {i : Nat} (h : i ∈ yZ l) : nth (yZ l) (zdr l i) = i := xB h
theorem zdX {l : List OpV} {a : Nat} (h : a < (yZ l).length) : zdr l (nth (yZ l) a) = a := zbK (zgT l) h
section
variable {l : List OpV} {K : List Int}
theorem zd4 {a b : Nat} : (a, b) ∈ rtT l (yZ l).length ↔ a < (yZ l).length ∧ b < (yZ l).length ∧ bef l (nth (yZ l) a) (nth (yZ l) b) = true := by
 unfold rtT
 rw [List.mem_flatMap]
 constructor
 ·rintro ⟨i', h1, h2⟩
  unfold rtR at h2
  obtain ⟨k', h3, h4⟩ := List.mem_map.1 h2
  obtain ⟨h5, h6⟩ := List.mem_filter.1 h3
  simp only [Prod.mk.injEq] at h4
  obtain ⟨rfl, rfl⟩ := h4
  exact ⟨List.mem_range.1 h1, List.mem_range.1 h5, h6⟩
 ·rintro ⟨h1, h2, h3⟩
  exact ⟨a, List.mem_range.2 h1, List.mem_map.2 ⟨b, List.mem_filter.2 ⟨List.mem_range.2 h2, h3⟩, rfl⟩⟩
theorem Vr {x : Nat × Nat} : x ∈ zeE l K ↔ ∃ c ∈ K, ∃ i, i + 1 < (YH l c).length ∧ x = (zdr l (nth (YH l c) i), zdr l (nth (YH l c) (i + 1))) := by
 unfold zeE zkV zf9
 rw [List.mem_flatMap]
 constructor
 ·rintro ⟨c, hc, h⟩
  obtain ⟨i, hi, e⟩ := List.mem_map.1 h
  exact ⟨c, hc, i, by have := List.mem_range.1 hi; omega, e.symm⟩
 ·rintro ⟨c, hc, i, hi, e⟩
  exact ⟨c, hc, List.mem_map.2 ⟨i, List.mem_range.2 (by omega), e.symm⟩⟩
structure H21 (l : List OpV) : Prop where
 dom : yb l
 ord : ∀ i j, i < l.length → j < l.length → (nth l i).call < (nth l j).call → i < j
 wf : ∀ i, i < l.length → 0 ≤ (nth l i).call ∧ (nth l i).call < (nth l i).ret
theorem zeX (H : H21 l) {c : Int} (V : VO l c) : (YH l c).length ≤ l.length := by
 have hn : (YH l c).Nodup := (UO H.dom H.wf V).imp fun h e => by rw [e] at h; omega
 have := Zn (m := List.range l.length) hn fun x hx => List.mem_range.2 ((xp H.dom H.wf V).1 hx).1
 simpa using this
theorem zeF (H : H21 l) (V : ∀ c ∈ K, VO l c) : ∀ i, i ≤ K.length → (zeE l (K.take i)).length ≤ i * l.length
 | 0, _ => by simp [zeE]
 | i + 1, hi => by
  have h1 := zeF H V i (by omega)
  have h2 := zeX H (V _ (zn (l := K) (i := i) (by omega)))
  rw [xE (by omega)]
  unfold zeE at h1 ⊢
  rw [List.flatMap_append, List.length_append, List.flatMap_singleton, Nat.succ_mul]
  have h3 : (zkV l (YH l (nth K i))).length = (YH l (nth K i)).length - 1 := by unfold zkV; rw [zeV]
  omega
theorem zgY {i : Nat} (hi : i < K.length) : zeE l (K.take (i + 1)) = zeE l (K.take i) ++ zkV l (YH l (nth K i)) := by
 rw [xE hi]
 unfold zeE
 rw [List.flatMap_append, List.flatMap_singleton]
theorem zjw (H : H21 l) {c : Int} (V : VO l c) {p q : Nat} (hq : q < (YH l c).length) (hpq : p < q) : spL l c (nth (YH l c) p) < spL l c (nth (YH l c) q) := by
 have := List.pairwise_iff_getElem.1 (UO H.dom H.wf V) p q (by omega) hq hpq
 rw [zg hq, zg (by omega)]
 exact this
theorem ziD (H : H21 l) (V : ∀ c ∈ K, VO l c) (hK : ∀ i, i < l.length → (nth l i).key ∈ K) : ∃ f : Nat → Nat, (∀ i k, i < l.length → k < l.length → zO l i = true → zO l k = true → bef l i k = true → f i < f k) ∧
  ∀ i k, i < l.length → k < l.length → zO l i = true → zO l k = true → (nth l i).key = (nth l k).key → spL l (nth l i).key i < spL l (nth l i).key k → f i < f k := by
 obtain ⟨FK, hFK⟩ : ∃ FK : Nat → Nat, FK = fun a => spL l (nth l a).key a := ⟨_, rfl⟩
 have hkk : ∀ a b, a < l.length → b < l.length → zO l a = true → zO l b = true → (nth l a).key = (nth l b).key → bef l a b = true → FK a < FK b := fun a b ha hb ia ib e hbf => by
  rw [hFK]; dsimp only
  rw [← e]
  have V' := V _ (hK a ha)
  exact zj4 H.dom H.ord H.wf V' ((xp H.dom H.wf V').2 ⟨ha, rfl, ia⟩) ((xp H.dom H.wf V').2 ⟨hb, e.symm, ib⟩) hbf
 obtain ⟨B, hB⟩ : ∃ B, B = zi9 FK (List.range l.length) + 1 := ⟨_, rfl⟩
 have hlt : ∀ a, a < l.length → FK a < B := fun a ha => by
  have := zb1 (h := FK) (List.mem_range.2 ha)
  omega
 obtain ⟨S, hS⟩ : ∃ S : Nat → List Nat, S = fun a => (List.range l.length).filter fun b => zO l b && decide ((nth l b).key = (nth l a).key) && decide (FK b ≤ FK a) := ⟨_, rfl⟩
 have hSm : ∀ a b, b ∈ S a ↔ b < l.length ∧ zO l b = true ∧ (nth l b).key = (nth l a).key ∧ FK b ≤ FK a := fun a b => by
  rw [hS]; dsimp only
  rw [List.mem_filter, List.mem_range]
  simp only [Bool.and_eq_true, decide_eq_true_eq, and_assoc]
 obtain ⟨g, hg⟩ : ∃ g : Nat → Nat, g = fun a => zi9 (fun b => (nth l b).call.toNat) (S a) := ⟨_, rfl⟩
 have same : ∀ a b, a < l.length → b < l.length → (nth l a).key = (nth l b).key → FK a < FK b → g a * B + FK a < g b * B + FK b := fun a b ha hb hk h1 => by
  have h2 : g a ≤ g b := by
   rw [hg]; dsimp only
   rcases zd7 (h := fun b => (nth l b).call.toNat) (S a) with e | ⟨x, hx, e⟩
   ·omega
   ·rw [← e]
    obtain ⟨x1, x2, x3, x4⟩ := (hSm a x).1 hx
    exact zb1 (h := fun b => (nth l b).call.toNat) ((hSm b x).2 ⟨x1, x2, x3.trans hk, by omega⟩)
  have := Nat.mul_le_mul_right B h2
  omega
 refine ⟨fun a => g a * B + FK a, fun a b ha hb ia ib hbf => ?_, fun a b ha hb ia ib hk hs => ?_⟩
 ·dsimp only
  by_cases hk : (nth l a).key = (nth l b).key
  ·exact same a b ha hb hk (hkk a b ha hb ia ib hk hbf)
  ·have hbf' := hbf
   unfold bef at hbf
   simp only [Bool.and_eq_true, decide_eq_true_eq] at hbf
   have hwa := H.wf a ha
   have hwb := H.wf b hb
   have h1 : g a ≤ (nth l a).ret.toNat := by
    rw [hg]; dsimp only
    rcases zd7 (h := fun b => (nth l b).call.toNat) (S a) with e | ⟨x, hx, e⟩
    ·omega
    ·rw [← e]
     obtain ⟨x1, x2, x3, x4⟩ := (hSm a x).1 hx
     have hwx := H.wf x x1
     by_cases hlt2 : (nth l a).ret < (nth l x).call
     ·exfalso
      have := hkk a x ha x1 ia x2 x3.symm (by unfold bef; simp [hbf.1, hlt2])
      omega
     ·omega
   have h2 : (nth l b).call.toNat ≤ g b := by
    rw [hg]; dsimp only
    exact zb1 (h := fun b => (nth l b).call.toNat) ((hSm b b).2 ⟨hb, ib, rfl, Nat.le_refl _⟩)
   have h3 : g a + 1 ≤ g b := by omega
   have h4 := Nat.mul_le_mul_right B h3
   rw [Nat.succ_mul] at h4
   have := hlt a ha
   omega
 ·dsimp only
  refine same a b ha hb hk ?_
  rw [hFK]; dsimp only
  rw [← hk]; exact hs
theorem zjT (H : H21 l) (V : ∀ c ∈ K, VO l c) : ∀ e ∈ zg2 l K, e.1 < (yZ l).length ∧ e.2 < (yZ l).length := by
 rintro ⟨a, b⟩ he
 rcases List.mem_append.1 he with he | he
 ·obtain ⟨c, hc, i, hi, e⟩ := Vr.1 he
  simp only [Prod.mk.injEq] at e
  obtain ⟨rfl, rfl⟩ := e
  have m1 := (xp H.dom H.wf (V c hc)).1 (zn (show i < (YH l c).length by omega))
  have m2 := (xp H.dom H.wf (V c hc)).1 (zn hi)
  exact ⟨xL (yf.2 ⟨m1.1, m1.2.2⟩), xL (yf.2 ⟨m2.1, m2.2.2⟩)⟩
 ·obtain ⟨h1, h2, _⟩ := zd4.1 he
  exact ⟨h1, h2⟩
theorem zcP (H : H21 l) (V : ∀ c ∈ K, VO l c) (hK : ∀ i, i < l.length → (nth l i).key ∈ K) : ∃ f : Nat → Nat, ∀ e ∈ zg2 l K, f e.1 < f e.2 := by
 obtain ⟨f, f1, f2⟩ := ziD H V hK
 refine ⟨fun a => f (nth (yZ l) a), ?_⟩
 rintro ⟨a, b⟩ he
 dsimp only
 rcases List.mem_append.1 he with he | he
 ·obtain ⟨c, hc, i, hi, e⟩ := Vr.1 he
  simp only [Prod.mk.injEq] at e
  obtain ⟨rfl, rfl⟩ := e
  have m1 := (xp H.dom H.wf (V c hc)).1 (zn (show i < (YH l c).length by omega))
  have m2 := (xp H.dom H.wf (V c hc)).1 (zn hi)
  rw [Xh (yf.2 ⟨m1.1, m1.2.2⟩), Xh (yf.2 ⟨m2.1, m2.2.2⟩)]
  refine f2 _ _ m1.1 m2.1 m1.2.2 m2.2.2 (m1.2.1.trans m2.2.1.symm) ?_
  rw [m1.2.1]
  exact zjw H (V c hc) hi (by omega)
 ·obtain ⟨h1, h2, h3⟩ := zd4.1 he
  have m1 := yf.1 (zn h1)
  have m2 := yf.1 (zn h2)
  exact f1 _ _ m1.1 m2.1 m1.2 m2.2 h3
theorem Yv (H : H21 l) (V : ∀ c ∈ K, VO l c) (hK : ∀ i, i < l.length → (nth l i).key ∈ K) : zjz (yY (zg2 l K)) (yZ l).length (zhY l K) := by
 obtain ⟨f, hf⟩ := zcP H V hK
 exact zeq (ZH hf)
theorem zbB (H : H21 l) (V : ∀ c ∈ K, VO l c) (hK : ∀ i, i < l.length → (nth l i).key ∈ K) {i : Nat} : i ∈ Vh l K ↔ i < l.length ∧ zO l i = true := by
 have E := Yv H V hK
 unfold Vh
 rw [List.mem_map]
 constructor
 ·rintro ⟨a, ha, rfl⟩
  exact yf.1 (zn (E.rng a ha))
 ·intro h
  have := yf.2 h
  exact ⟨zdr l i, E.mem (xL this), Xh this⟩
theorem zeH (H : H21 l) (V : ∀ c ∈ K, VO l c) (hK : ∀ i, i < l.length → (nth l i).key ∈ K) : (Vh l K).length = (yZ l).length := by
 unfold Vh; rw [List.length_map]; exact (Yv H V hK).len
theorem zjS (H : H21 l) (V : ∀ c ∈ K, VO l c) (hK : ∀ i, i < l.length → (nth l i).key ∈ K) : (Vh l K).Nodup := by
 have E := Yv H V hK
 unfold Vh List.Nodup
 rw [List.pairwise_map]
 refine E.nd.imp_of_mem fun ha hb hab e => hab ?_
 rw [← zdX (E.rng _ ha), e, zdX (E.rng _ hb)]
noncomputable def zb4 (l : List OpV) (K : List Int) (i : Nat) : Nat := XI (zhY l K) (zdr l i)
theorem zj6 (H : H21 l) (V : ∀ c ∈ K, VO l c) (hK : ∀ i, i < l.length → (nth l i).key ∈ K) {p : Nat} (hp : p < (Vh l K).length) : zb4 l K (nth (Vh l K) p) = p := by
 have E := Yv H V hK
 have hp' : p < (zhY l K).length := by unfold Vh at hp; simpa using hp
 have e : nth (Vh l K) p = nth (yZ l) (nth (zhY l K) p) := by
  unfold Vh at hp ⊢; rw [zg hp, zg hp', List.getElem_map]
 unfold zb4
 rw [e, zdX (E.rng _ (zn hp')), zbK E.nd hp']
theorem zeZ (H : H21 l) (V : ∀ c ∈ K, VO l c) (hK : ∀ i, i < l.length → (nth l i).key ∈ K) {a b : Nat} (ha : a < l.length) (hb : b < l.length) (ia : zO l a = true) (ib : zO l b = true) {c : Int} (ka : (nth l a).key = c) (kb : (nth l b).key = c) (h : spL l c a < spL l c b) : zb4 l K a < zb4 l K b := by
 have E := Yv H V hK
 have hc : c ∈ K := by rw [← ka]; exact hK a ha
 have V' := V c hc
 have ma := (xp H.dom H.wf V').2 ⟨ha, ka, ia⟩
 have mb := (xp H.dom H.wf V').2 ⟨hb, kb, ib⟩
 have reach : ∀ d p, p + d + 1 < (YH l c).length → zh5 (zg2 l K) (zdr l (nth (YH l c) p)) (zdr l (nth (YH l c) (p + d + 1))) := by
  intro d
  induction d with
  | zero => intro p hp; exact .one (List.mem_append_left _ (Vr.2 ⟨c, hc, p, hp, rfl⟩))
  | succ d ih =>
   intro p hp
   refine .step (b := zdr l (nth (YH l c) (p + 1))) (List.mem_append_left _ (Vr.2 ⟨c, hc, p, by omega, rfl⟩)) ?_
   have := ih (p + 1) (by omega)
   rw [show p + 1 + d + 1 = p + (d + 1) + 1 by omega] at this
   exact this
 have hpa := Yw ma
 have hpb := Yw mb
 have hlt : XI (YH l c) a < XI (YH l c) b := by
  refine Nat.lt_of_not_le fun hle => ?_
  rcases Nat.lt_or_eq_of_le hle with h2 | h2
  ·have := zjw H V' hpa h2
   rw [xB ma, xB mb] at this
   omega
  ·have := Vs mb ma h2
   subst this
   omega
 have h1 := reach (XI (YH l c) b - XI (YH l c) a - 1) (XI (YH l c) a) (by omega)
 rw [show XI (YH l c) a + (XI (YH l c) b - XI (YH l c) a - 1) + 1 = XI (YH l c) b by omega, xB ma, xB mb] at h1
 exact E.lt (xL (yf.2 ⟨ha, ia⟩)) (xL (yf.2 ⟨hb, ib⟩)) (xM.2 h1)
theorem zeI (H : H21 l) (V : ∀ c ∈ K, VO l c) (hK : ∀ i, i < l.length → (nth l i).key ∈ K) : zjg l (zb4 l K) where
 rt i k hi hk ii ik hb := by
  have E := Yv H V hK
  have mi := yf.2 ⟨hi, ii⟩
  have mk := yf.2 ⟨hk, ik⟩
  refine E.lt (xL mi) (xL mk) (xM.2 (.one (List.mem_append_right _ (zd4.2 ⟨xL mi, xL mk, ?_⟩))))
  rw [Xh mi, Xh mk]; exact hb
 rd r hr h0 hd := by
  have V' := V _ (hK r hr)
  have ir := Zl hd
  rcases zj3 H.dom H.wf V' hr rfl h0 hd with ⟨e, h⟩ | ⟨w, hw, ha, hlt, ho⟩
  ·exact .inl ⟨e, fun w hw => Nat.le_of_lt (zeZ H V hK hr hw.1 ir hw.2.2.2 rfl hw.2.1 (h w hw))⟩
  ·refine .inr ⟨w, hw, ha, Nat.le_of_lt (zeZ H V hK hw.1 hr hw.2.2.2 ir hw.2.1 rfl hlt), fun w' hw' hne => ?_⟩
   rcases ho w' hw' hne with h | h
   ·exact .inl (zeZ H V hK hw'.1 hw.1 hw'.2.2.2 hw.2.2.2 hw'.2.1 hw.2.1 h)
   ·exact .inr (zeZ H V hK hr hw'.1 ir hw'.2.2.2 rfl hw'.2.1 h)
theorem zj5 (H : H21 l) (V : ∀ c ∈ K, VO l c) (hK : ∀ i, i < l.length → (nth l i).key ∈ K) {i k : Nat} (hi : i < l.length) (hk : k < l.length) (ii : zO l i = true) (ik : zO l k = true) (e : zb4 l K i = zb4 l K k) : i = k := by
 have E := Yv H V hK
 have mi := yf.2 ⟨hi, ii⟩
 have mk := yf.2 ⟨hk, ik⟩
 have := Vs (E.mem (xL mi)) (E.mem (xL mk)) e
 exact Vs mi mk this
end
end Go.Proofs.Ytbeebjdnapkhhaa
/-
 linear.Check's verdict, in plain Lean.
-/
namespace Go.Proofs.Ytbeebjdnapkhhaa
set_option linter.unusedVariables false

theorem zaH {l : List OpV} (h : xy l = 0) : l.length ≤ 300 ∧ ∀ j, j < l.length → zb3 l j = 0 := by
 unfold xy at h
 split at h
 ·cases h
 ·refine ⟨by omega, fun j hj => ?_⟩
  have key : ∀ (n k : Nat), zY l k n = 0 → ∀ j, k ≤ j → j < k + n → zb3 l j = 0 := by
   intro n
   induction n with
   | zero => intro k _ j h1 h2; omega
   | succ n ih =>
    intro k hk j h1 h2
    unfold zY at hk
    split at hk
    ·rename_i he
     rcases Nat.eq_or_lt_of_le h1 with e | e
     ·rw [← e]; exact he
     ·exact ih (k + 1) hk j e (by omega)
    ·rename_i he; exact absurd hk he
  exact key l.length 0 h j (Nat.zero_le _) (by omega)
theorem zbk {l : List OpV} (h : xy l = 0) {j : Nat} (hj : j < l.length) : wfB (nth l j) = true ∧ (0 < j → (nth l (j - 1)).call < (nth l j).call) := by
 have := (zaH h).2 j hj
 unfold zb3 at this
 by_cases hw : wfB (nth l j) = false
 ·rw [if_pos hw] at this; cases this
 ·rw [if_neg hw] at this
  refine ⟨by simpa using hw, fun h0 => ?_⟩
  by_cases hc : 0 < j ∧ (nth l j).call ≤ (nth l (j - 1)).call
  ·rw [if_pos hc] at this; cases this
  ·omega
theorem zcd {l : List OpV} (h : xy l = 0) {i : Nat} : ∀ {d : Nat}, i + d + 1 < l.length → (nth l i).call < (nth l (i + d + 1)).call
 | 0, hd => (zbk h hd).2 (by omega)
 | d + 1, hd => by
  have h1 := zcd h (i := i) (d := d) (by omega)
  have h2 := (zbk h hd).2 (by omega)
  rw [show i + (d + 1) + 1 - 1 = i + d + 1 by omega] at h2
  omega
theorem VJ {l : List OpV} (h : xy l = 0) (D : yb l) : H21 l where
 dom := D
 ord i j hi hj hc := by
  refine Nat.lt_of_not_le fun hle => ?_
  rcases Nat.lt_or_eq_of_le hle with h2 | h2
  ·have := zcd h (i := j) (d := i - j - 1) (by omega)
   rw [show j + (i - j - 1) + 1 = i by omega] at this
   omega
  ·subst h2; omega
 wf i hi := by
  have := (zbk h hi).1
  simp only [wfB, Bool.and_eq_true, decide_eq_true_eq] at this
  omega
theorem zhQ {l : List OpV} {c : Int} : (UV l c).cls = 0 ↔ VO l c := by
 unfold UV
 cases h1 : (List.range l.length).find? (zaC l c) with
 | some i =>
  rw [List.find?_range_eq_some] at h1
  refine ⟨fun h => (by cases h), fun V => ?_⟩
  have := h1.1
  unfold zaC at this
  rw [Bool.and_eq_true, decide_eq_true_eq] at this
  rw [V.thin i (List.mem_range.1 h1.2.1) this.1] at this
  cases this.2
 | none =>
  dsimp only
  cases h2 : (List.range l.length).find? (ZX l c) with
  | some i =>
   rw [List.find?_range_eq_some] at h2
   refine ⟨fun h => (by cases h), fun V => ?_⟩
   have := h2.1
   unfold ZX at this
   rw [Bool.and_eq_true, decide_eq_true_eq] at this
   rw [V.early i (List.mem_range.1 h2.2.1) this.1] at this
   cases this.2
  | none =>
   dsimp only
   by_cases h3 : zai l c = []
   ·rw [if_pos h3]
    refine ⟨fun _ => ⟨fun i hi hk => ?_, fun i hi hk => ?_, h3⟩, fun _ => rfl⟩
    ·have := List.find?_eq_none.1 h1 i (List.mem_range.2 hi)
     unfold zaC at this
     rw [decide_eq_true hk, Bool.true_and] at this
     simpa using this
    ·have := List.find?_eq_none.1 h2 i (List.mem_range.2 hi)
     unfold ZX at this
     rw [decide_eq_true hk, Bool.true_and] at this
     simpa using this
   ·rw [if_neg h3]
    exact ⟨fun h => (by cases h), fun V => absurd V.conf h3⟩
def zfY (l : List OpV) : Option Int := (yR l).find? fun c => decide ((UV l c).cls ≠ 0)
structure zk0 where
 cls : Int
 arg : Int
 ord : List Nat
 ed : List (Nat × Nat)
noncomputable def zhZ (l : List OpV) : zk0 :=
 match zfY l with
 | some c => ⟨(UV l c).cls, c, (UV l c).ord, (UV l c).ed⟩
 | none => ⟨0, 0, Vh l (yR l), []⟩
theorem UU {l : List OpV} : zfY l = none ↔ ∀ c ∈ yR l, VO l c := by
 unfold zfY
 rw [List.find?_eq_none]
 constructor
 ·intro h c hc
  have := h c hc
  exact zhQ.1 (by simpa using this)
 ·intro h c hc
  have := zhQ.2 (h c hc)
  simpa using this
theorem zj9 {l : List OpV} {i : Nat} (hi : i < (yR l).length) (h : ∀ j, j < i → (UV l (nth (yR l) j)).cls = 0) (h2 : (UV l (nth (yR l) i)).cls ≠ 0) : zfY l = some (nth (yR l) i) := by
 unfold zfY
 rw [List.find?_eq_some_iff_getElem]
 refine ⟨by simpa using h2, i, hi, (zg hi).symm, fun j hj => ?_⟩
 have := h j hj
 rw [zg (by omega)] at this
 simpa using this
theorem zcD (l : List OpV) : ∀ i, i < l.length → (nth l i).key ∈ yR l := fun i hi => (ZZ l _).2 ⟨_, zn hi, rfl⟩
theorem zfx {l : List OpV} : (zhZ l).cls = 0 ↔ ∀ c ∈ yR l, VO l c := by
 unfold zhZ
 rw [← UU]
 cases h : zfY l with
 | none => exact ⟨fun _ => rfl, fun _ => rfl⟩
 | some c =>
  refine ⟨fun h2 => ?_, fun h2 => (by cases h2)⟩
  exfalso
  unfold zfY at h
  have := List.find?_some h
  simp at this
  exact this h2
end Go.Proofs.Ytbeebjdnapkhhaa
/-
 The reference's verdict of layer 21, in plain Lean: it is the program's.
-/
namespace Go.Proofs.Ytbeebjdnapkhhaa
set_option linter.unusedVariables false

def zky (l : List OpV) (c v w : Int) (i k : Nat) : Bool := decide ((nth l i).key = c) && (decide ((nth l k).key = c) && (decide (Vl (nth l i) = v) && (decide (Vl (nth l k) = w) && (zO l i && (zO l k && bef l i k)))))
def zgA (l : List OpV) (c v w : Int) : Bool := (List.range l.length).any fun i => (List.range l.length).any fun k => zky l c v w i k
def zli (l : List OpV) (c : Int) (i k : Nat) : Bool := decide ((nth l k).key = c) && (decide ((nth l k).k = 1) && (zO l k && (zgA l c (nth l i).arg (nth l k).arg && zgA l c (nth l k).arg (nth l i).arg)))
def zlj (l : List OpV) (c : Int) (i : Nat) : Bool := decide ((nth l i).key = c) && (decide ((nth l i).k = 1) && zO l i)
def zlh (l : List OpV) (c : Int) (i : Nat) : Bool := zlj l c i && (zgA l c (nth l i).arg 0 || (List.range i).any (zli l c i))
def zhV (l : List OpV) (c : Int) : Bool := (List.range l.length).any (zlh l c)
section
variable {l : List OpV} {c : Int}
theorem XZ {v w : Int} : zgA l c v w = true ↔ zkj l c v w := by
 unfold zgA zkj zhX
 rw [YW]
 simp only [YW]
 unfold zky
 simp only [Bool.and_eq_true, decide_eq_true_eq]
 constructor
 ·rintro ⟨i, hi, k, hk, h1, h2, h3, h4, h5, h6, h7⟩
  exact ⟨i, k, ⟨hi, h1, h3, h5⟩, ⟨hk, h2, h4, h6⟩, h7⟩
 ·rintro ⟨i, k, ⟨hi, h1, h3, h5⟩, ⟨hk, h2, h4, h6⟩, h7⟩
  exact ⟨i, hi, k, hk, h1, h2, h3, h4, h5, h6, h7⟩
theorem ze1 {i : Nat} (hi : i < l.length) : zlj l c i = true ↔ wrI l c i := by
 unfold zlj wrI
 simp only [Bool.and_eq_true, decide_eq_true_eq]
 exact ⟨fun h => ⟨hi, h⟩, fun h => h.2⟩
theorem WR : zhV l c = true ↔ zdo l c := by
 unfold zhV zdo
 rw [YW]
 constructor
 ·rintro ⟨i, hi, h⟩
  unfold zlh at h
  rw [Bool.and_eq_true, ze1 hi, Bool.or_eq_true, XZ, YW] at h
  refine ⟨i, h.1, h.2.imp id ?_⟩
  rintro ⟨k, hk, h2⟩
  unfold zli at h2
  simp only [Bool.and_eq_true, decide_eq_true_eq, XZ] at h2
  exact ⟨k, hk, ⟨by omega, h2.1, h2.2.1, h2.2.2.1⟩, h2.2.2.2.1, h2.2.2.2.2⟩
 ·rintro ⟨i, hi, h⟩
  refine ⟨i, hi.1, ?_⟩
  unfold zlh
  rw [Bool.and_eq_true, ze1 hi.1, Bool.or_eq_true, XZ, YW]
  refine ⟨hi, h.imp id ?_⟩
  rintro ⟨k, hk, hw, h1, h2⟩
  refine ⟨k, hk, ?_⟩
  unfold zli
  simp only [Bool.and_eq_true, decide_eq_true_eq, XZ]
  exact ⟨hw.2.1, hw.2.2.1, hw.2.2.2, h1, h2⟩
theorem zgo {w : Nat} (hw : wrI l c w) : ∃ j, j < (yz l c).length ∧ ZV l c j = (nth l w).arg := by
 rw [Yp]
 have hm : (false, [w], (nth l w).arg) ∈ ZR l c l.length := Zi.2 (.inr ⟨w, hw.1, ZA.2 ⟨hw.2.1, hw.2.2.1, hw.2.2.2⟩, rfl⟩)
 obtain ⟨j, hj, e⟩ := List.getElem_of_mem hm
 exact ⟨j, hj, by unfold ZV; rw [zg hj, e]⟩
theorem zjH (D : yb l) {b : Nat} (hb : zhX l c 0 b) : 0 < (yz l c).length ∧ ZV l c 0 = 0 ∧ (nth (yz l c) 0).ini = true := by
 have h0 : zjm l c = true := by
  obtain ⟨b1, b2, b3, b4⟩ := hb
  rcases D.kind b1 with hk | hk
  ·rw [Yh hk] at b3
   exact Ym.2 ⟨b, b1, yP.2 ⟨hk, xK hk b4, b2, b3⟩⟩
  ·rw [Zz hk] at b3
   exact absurd b3 (D.arg b1 hk)
 have hm : (true, [], (0 : Int)) ∈ ZR l c l.length := Zi.2 (.inl ⟨h0, rfl⟩)
 obtain ⟨j, hj, e⟩ := List.getElem_of_mem hm
 have hj' : j < (yz l c).length := by rw [Yp]; exact hj
 have hi : (nth (yz l c) j).ini = true := by
  have h1 : nth (yz l c) j = _ := XC hj
  rw [h1, zg hj, e]
 have := (zbl hj' hi).1
 subst this
 exact ⟨hj', by unfold ZV; rw [zg hj, e], hi⟩
theorem zf3 (D : yb l) (h : zdo l c) : zai l c ≠ [] := by
 intro hc
 unfold zai at hc
 rw [zdy] at hc
 have hcf : ∀ a j, a < j → j < (yz l c).length → YL l (nth (yz l c) a) (nth (yz l c) j) = [] := fun a j haj hj => hc a (by omega) (by omega) j haj hj
 have hbf : ∀ {p q a b : Nat} {v w : Int}, p < (yz l c).length → q < (yz l c).length → ZV l c p = v → ZV l c q = w → zhX l c v a → zhX l c w b → bef l a b = true → WU l (nth (yz l c) p).ops < Vu l (nth (yz l c) q).ops := fun {p q a b v w} hp hq vp vq ha hb hab => by
  have m1 := zgu (l := l) ((yM D hp).2 (by rw [vp]; exact ha))
  have m2 := zhM (l := l) ((yM D hq).2 (by rw [vq]; exact hb))
  unfold bef at hab
  simp only [Bool.and_eq_true, decide_eq_true_eq] at hab
  have : ZU (nth l a) = (nth l a).ret := by unfold ZU; rw [hab.1]; rfl
  omega
 obtain ⟨i, hwi, h⟩ := h
 obtain ⟨p, hp, vp⟩ := zgo hwi
 rcases h with ⟨a, b, ha, hb, hab⟩ | ⟨k, hki, hwk, ⟨a, b, ha, hb, hab⟩, ⟨a', b', ha', hb', hab'⟩⟩
 ·obtain ⟨q1, q2, q3⟩ := zjH D hb
  have hlt := hbf hp q1 vp q2 ha hb hab
  have hp0 : p ≠ 0 := fun e => by
   subst e
   rw [q2] at vp
   exact D.arg hwi.1 hwi.2.2.1 vp.symm
  have := Zs.1 (hcf 0 p (by omega) hp)
  rw [q3] at this
  rcases this with h | h
  ·omega
  ·cases h.1
 ·obtain ⟨q, hq, vq⟩ := zgo hwk
  have h1 := hbf hp hq vp vq ha hb hab
  have h2 := hbf hq hp vq vp ha' hb' hab'
  have hpq : p ≠ q := fun e => by
   subst e
   rw [vp] at vq
   have := D.uniq hwi.1 hwk.1 hwi.2.2.1 hwk.2.2.1 (hwi.2.1.trans hwk.2.1.symm) vq
   omega
  rcases Nat.lt_or_gt_of_ne hpq with h | h
  ·rcases Zs.1 (hcf p q h hq) with h3 | h3 <;> omega
  ·rcases Zs.1 (hcf q p h hp) with h3 | h3 <;> omega
theorem zfa (D : yb l) (hin : ∀ o ∈ l, zaE o) {a j : Nat} (haj : a < j) (hj : j < (yz l c).length) (h : YL l (nth (yz l c) a) (nth (yz l c) j) ≠ []) : zdo l c := by
 have ha : a < (yz l c).length := by omega
 have hn : ¬ (Vu l (nth (yz l c) a).ops ≤ WU l (nth (yz l c) j).ops ∨ ((nth (yz l c) a).ini = false ∧ Vu l (nth (yz l c) j).ops ≤ WU l (nth (yz l c) a).ops)) := fun h2 => h (Zs.2 h2)
 have hgo : ∀ {p q : Nat}, p < (yz l c).length → q < (yz l c).length → WU l (nth (yz l c) p).ops < Vu l (nth (yz l c) q).ops → zkj l c (ZV l c p) (ZV l c q) := fun {p q} hp hq hlt => by
  have m1 := (yM D hp).1 (zcq (l := l) (VL D hp))
  have m2 := (yM D hq).1 (zcS (l := l) (VL D hq))
  refine ⟨_, _, m1, m2, ?_⟩
  have o2 := hin _ (zn m2.1)
  unfold WU Vu ZU at hlt
  unfold bef
  cases hd : (nth l (YO l (nth (yz l c) p).ops)).done with
  | true =>
   rw [hd] at hlt
   simp only [if_true] at hlt
   simpa using hlt
  | false =>
   rw [hd] at hlt
   simp only [Bool.false_eq_true, if_false] at hlt
   unfold zaE I64 at o2
   omega
 have hlt : WU l (nth (yz l c) j).ops < Vu l (nth (yz l c) a).ops := Int.lt_of_not_ge fun h2 => hn (.inl h2)
 have g1 := hgo hj ha hlt
 have hcj := Zr hj
 rcases hcj with ⟨h0, h1, h2⟩ | ⟨w, w1, w2, h1, h2⟩
 ·exfalso
  have := (zbl hj (by rw [h2])).1
  omega
 have hww : wrI l c w := by rw [ZA] at w2; exact ⟨w1, w2⟩
 rcases Zr ha with ⟨k0, k1, k2⟩ | ⟨u, u1, u2, k1, k2⟩
 ·rw [h1, k1] at g1
  exact ⟨w, hww, .inl g1⟩
 have huu : wrI l c u := by rw [ZA] at u2; exact ⟨u1, u2⟩
 have hlt2 : WU l (nth (yz l c) a).ops < Vu l (nth (yz l c) j).ops := Int.lt_of_not_ge fun h3 => hn (.inr ⟨by rw [k2], h3⟩)
 have g2 := hgo ha hj hlt2
 rw [h1, k1] at g1
 rw [h1, k1] at g2
 have hne : w ≠ u := fun e => by
  subst e
  have := VM D ha hj (by rw [h1, k1])
  omega
 rcases Nat.lt_or_gt_of_ne hne with h3 | h3
 ·exact ⟨u, huu, .inr ⟨w, h3, hww, g2, g1⟩⟩
 ·exact ⟨w, hww, .inr ⟨u, h3, huu, g1, g2⟩⟩
theorem zko (D : yb l) (hin : ∀ o ∈ l, zaE o) : zai l c = [] ↔ zhV l c = false := by
 constructor
 ·intro h
  rw [Bool.eq_false_iff]
  intro h2
  exact zf3 D (WR.1 h2) h
 ·intro h
  refine Classical.byContradiction fun hne => ?_
  obtain ⟨a, j, _, _, h3, h4, h5⟩ := zej (l := l) (C := yz l c) (f := (yz l c).length) (i := 0) hne
  have := WR.2 (zfa D hin h3 h4 (by rw [← h5]; exact hne))
  rw [h] at this
  cases this
end
end Go.Proofs.Ytbeebjdnapkhhaa
/-
 Linearizations as lists, in plain Lean: the reference's and the program's way to decide them; one exists where the verdict holds.
-/
namespace Go.Proofs.Ytbeebjdnapkhhaa
set_option linter.unusedVariables false

def zf7 (l : List OpV) (key x : Int) : Bool := decide ((nth l x.toNat).key = key) && decide ((nth l x.toNat).k = 1)
def zgb (l : List OpV) (key : Int) (o : List Int) : Int := o.foldl (fun v x => if zf7 l key x = true then (nth l x.toNat).arg else v) 0
theorem zdl (l : List OpV) (key : Int) (o : List Int) (x : Int) : zgb l key (o ++ [x]) = if zf7 l key x = true then (nth l x.toNat).arg else zgb l key o := by
 unfold zgb; rw [List.foldl_append]; rfl
theorem Wu (l : List OpV) (key : Int) (o : List Int) : ∀ i, i ≤ o.length → (zgb l key (o.take i) = 0 ∧ ∀ j, j < i → zf7 l key (nth o j) = false) ∨
  ∃ j, j < i ∧ zf7 l key (nth o j) = true ∧ zgb l key (o.take i) = (nth l (nth o j).toNat).arg ∧ ∀ q, j < q → q < i → zf7 l key (nth o q) = false
 | 0, _ => .inl ⟨rfl, fun j hj => by omega⟩
 | i + 1, hi => by
  rw [xE (show i < o.length by omega), zdl]
  by_cases h : zf7 l key (nth o i) = true
  ·rw [if_pos h]
   exact .inr ⟨i, by omega, h, rfl, fun q h1 h2 => by omega⟩
  ·rw [if_neg h]
   have h' : zf7 l key (nth o i) = false := by simpa using h
   rcases Wu l key o i (by omega) with ⟨h1, h2⟩ | ⟨j, h1, h2, h3, h4⟩
   ·refine .inl ⟨h1, fun j hj => ?_⟩
    by_cases e : j = i
    ·subst e; exact h'
    ·exact h2 j (by omega)
   ·refine .inr ⟨j, by omega, h2, h3, fun q q1 q2 => ?_⟩
    by_cases e : q = i
    ·subst e; exact h'
    ·exact h4 q q1 (by omega)
structure zf5 (l : List OpV) (o : List Int) : Prop where
 rng : ∀ x ∈ o, 0 ≤ x ∧ x < l.length
 nd : o.Nodup
 inc : ∀ x ∈ o, zO l x.toNat = true
 all : ∀ v : Nat, v < l.length → zO l v = true → (v : Int) ∈ o
 val : ∀ i, i < o.length → (nth l (nth o i).toNat).k = 1 ∨ zgb l (nth l (nth o i).toNat).key (o.take i) = (nth l (nth o i).toNat).res
 rt : ∀ i j, i < o.length → j < i → bef l (nth o i).toNat (nth o j).toNat = false
theorem zjU {o : List Int} (h : o.Nodup) {i j : Nat} (hi : i < o.length) (hj : j < o.length) (e : nth o i = nth o j) : i = j := by
 rw [zg hi, zg hj] at e
 exact (List.getElem_inj h).1 e
theorem zbE {o : List Int} {x : Int} (h : x ∈ o) : ∃ p, p < o.length ∧ nth o p = x := by
 obtain ⟨p, hp, e⟩ := List.getElem_of_mem h
 exact ⟨p, hp, by rw [zg hp, e]⟩
def zf8 (o : List Int) (i : Nat) : Nat := o.idxOf (i : Int)
theorem zbJ {o : List Int} {i : Nat} (h : (i : Int) ∈ o) : zf8 o i < o.length := List.idxOf_lt_length_of_mem h
theorem yV {o : List Int} {i : Nat} (h : (i : Int) ∈ o) : nth o (zf8 o i) = i := by rw [zg (zbJ h)]; exact List.getElem_idxOf _
section
variable {l : List OpV} {o : List Int}
theorem Un (D : yb l) {x : Nat} {c : Int} (hx : x < l.length) (hi : zO l x = true) : zf7 l c (x : Int) = true ↔ wrI l c x := by
 unfold zf7 wrI
 rw [Int.toNat_natCast, Bool.and_eq_true, decide_eq_true_eq, decide_eq_true_eq]
 exact ⟨fun h => ⟨hx, h.1, h.2, hi⟩, fun h => ⟨h.2.1, h.2.2.1⟩⟩
theorem zf5.tau (D : yb l) (hw : ∀ i, i < l.length → (nth l i).call < (nth l i).ret) (h : zf5 l o) : zjg l (zf8 o) := by
 have hm : ∀ i, i < l.length → zO l i = true → (i : Int) ∈ o := h.all
 have hcan : ∀ q, q < o.length → ∃ x : Nat, nth o q = x ∧ x < l.length ∧ zO l x = true ∧ zf8 o x = q := fun q hq => by
  have hr := h.rng _ (zn hq)
  refine ⟨(nth o q).toNat, by omega, by omega, h.inc _ (zn hq), ?_⟩
  have e : (((nth o q).toNat : Nat) : Int) = nth o q := by omega
  have hmem : (((nth o q).toNat : Nat) : Int) ∈ o := by rw [e]; exact zn hq
  exact zjU h.nd (zbJ hmem) hq (by rw [yV hmem, e])
 refine ⟨fun i k hi hk ii ik hb => ?_, fun r hr h0 hd => ?_⟩
 ·have mi := hm i hi ii
  have mk := hm k hk ik
  refine Nat.lt_of_not_le fun hle => ?_
  rcases Nat.lt_or_eq_of_le hle with h2 | h2
  ·have := h.rt _ _ (zbJ mi) h2
   rw [yV mi, yV mk, Int.toNat_natCast, Int.toNat_natCast, hb] at this
   cases this
  ·have e : ((k : Int)) = i := by rw [← yV mk, h2, yV mi]
   have : k = i := by omega
   subst this
   have := zeh hw hk hb
   omega
 ·have ir := Zl (l := l) hd
  have mr := hm r hr ir
  have hp := zbJ mr
  have hv := h.val _ hp
  rw [yV mr, Int.toNat_natCast] at hv
  have hv := hv.resolve_left (by omega)
  rcases Wu l (nth l r).key o (zf8 o r) (by omega) with ⟨h1, h2⟩ | ⟨j, h1, h2, h3, h4⟩
  ·refine .inl ⟨by rw [← hv, h1], fun w hw => ?_⟩
   have mw := hm w hw.1 hw.2.2.2
   refine Nat.le_of_not_lt fun hlt => ?_
   have := h2 _ hlt
   rw [yV mw, (Un D hw.1 hw.2.2.2).2 hw] at this
   cases this
  ·obtain ⟨w, e, w1, w2, w3⟩ := hcan j (by omega)
   rw [e, Un D w1 w2] at h2
   rw [e, Int.toNat_natCast] at h3
   refine .inr ⟨w, h2, by rw [← h3, hv], by omega, fun w' hw' hne => ?_⟩
   have mw' := hm w' hw'.1 hw'.2.2.2
   have hne2 : zf8 o w' ≠ j := fun e2 => hne (by
    have e3 := yV mw'
    rw [e2, e] at e3
    omega)
   by_cases hq : zf8 o w' < zf8 o r
   ·left
    rw [w3]
    refine Nat.lt_of_not_le fun hle => ?_
    have := h4 _ (by omega) hq
    rw [yV mw', (Un D hw'.1 hw'.2.2.2).2 hw'] at this
    cases this
   ·right
    have : zf8 o w' ≠ zf8 o r := fun e2 => by
     have e3 := yV mw'
     rw [e2, yV mr] at e3
     have : w' = r := by omega
     subst this
     have := hw'.2.2.1
     omega
    omega
theorem zf5.inj (h : zf5 l o) {i k : Nat} (hi : i < l.length) (hk : k < l.length) (ii : zO l i = true) (ik : zO l k = true) (e : zf8 o i = zf8 o k) : i = k := by
 have e1 := yV (h.all i hi ii)
 rw [e, yV (h.all k hk ik)] at e1
 omega
theorem zjg.linO (D : yb l) {tau : Nat → Nat} (T : zjg l tau) (hrng : ∀ x ∈ o, 0 ≤ x ∧ x < l.length) (hnd : o.Nodup) (hinc : ∀ x ∈ o, zO l x.toNat = true) (hall : ∀ v : Nat, v < l.length → zO l v = true → (v : Int) ∈ o)
  (hpos : ∀ q, q < o.length → tau (nth o q).toNat = q) : zf5 l o := by
 refine ⟨hrng, hnd, hinc, hall, fun i hi => ?_, fun i j hi hj => ?_⟩
 ·have hr := hrng _ (zn hi)
  have hii := hinc _ (zn hi)
  have hpi := hpos i hi
  obtain ⟨r, hre⟩ : ∃ r, (nth o i).toNat = r := ⟨_, rfl⟩
  have hrl : r < l.length := by omega
  rw [hre] at hii hpi ⊢
  rcases D.kind hrl with h0 | h1
  ·right
   have hd := xK h0 hii
   have hpw : ∀ j, j < i → zf7 l (nth l r).key (nth o j) = true → ∃ w, wrI l (nth l r).key w ∧ tau w = j ∧ nth o j = w := fun j hj hs => by
    have hjr := hrng _ (zn (show j < o.length by omega))
    have hji := hinc _ (zn (show j < o.length by omega))
    refine ⟨(nth o j).toNat, ?_, hpos j (by omega), by omega⟩
    have e : nth o j = (((nth o j).toNat : Nat) : Int) := by omega
    rw [e] at hs
    exact (Un D (by omega) hji).1 hs
   rcases T.rd r hrl h0 hd with ⟨e0, hf⟩ | ⟨w, hw, ha, hle, ho⟩
   ·rcases Wu l (nth l r).key o i (by omega) with ⟨g1, _⟩ | ⟨j, g1, g2, _, _⟩
    ·rw [g1, e0]
    ·obtain ⟨w, hw, hwj, _⟩ := hpw j g1 g2
     have := hf w hw
     omega
   ·have hwm := hall w hw.1 hw.2.2.2
    obtain ⟨q, hq, hqe⟩ := zbE hwm
    have hqp := hpos q hq
    rw [hqe, Int.toNat_natCast] at hqp
    have hwr : w ≠ r := fun e => by rw [e] at hw; have := hw.2.2.1; omega
    have hqi : q < i := by
     have : q ≠ i := fun e => by
      subst e
      rw [hqe, Int.toNat_natCast] at hre
      exact hwr hre
     omega
    have hsw : zf7 l (nth l r).key (nth o q) = true := by rw [hqe]; exact (Un D hw.1 hw.2.2.2).2 hw
    rcases Wu l (nth l r).key o i (by omega) with ⟨_, g2⟩ | ⟨j, g1, g2, g3, g4⟩
    ·rw [g2 q hqi] at hsw; cases hsw
    ·obtain ⟨w', hw', hwj, hwe⟩ := hpw j g1 g2
     by_cases e : w' = w
     ·rw [g3, hwe, Int.toNat_natCast, e, ha]
     ·exfalso
      rcases ho w' hw' e with h2 | h2
      ·have := g4 q (by omega) hqi
       rw [this] at hsw; cases hsw
      ·omega
  ·exact .inl h1
 ·cases hb : bef l (nth o i).toNat (nth o j).toNat with
  | false => rfl
  | true =>
   have hri := hrng _ (zn hi)
   have hrj := hrng _ (zn (show j < o.length by omega))
   have := T.rt _ _ (by omega) (by omega) (hinc _ (zn hi)) (hinc _ (zn (show j < o.length by omega))) hb
   rw [hpos i hi, hpos j (by omega)] at this
   omega
def zah (L : List Nat) : List Int := L.map fun n : Nat => (n : Int)
theorem zgl {L : List Nat} {i : Nat} (h : i < L.length) : nth (zah L) i = ((nth L i : Nat) : Int) := by
 unfold zah
 rw [zg (by simpa using h), zg h, List.getElem_map]
theorem VI (L : List Nat) : (zah L).length = L.length := by simp [zah]
theorem zkG {K : List Int} (H : H21 l) (V : ∀ c ∈ K, VO l c) (hK : ∀ i, i < l.length → (nth l i).key ∈ K) : zf5 l (zah (Vh l K)) := by
 have hmem : ∀ x, x ∈ zah (Vh l K) → ∃ n : Nat, x = n ∧ n ∈ Vh l K := fun x hx => by
  obtain ⟨n, hn, e⟩ := List.mem_map.1 hx
  exact ⟨n, e.symm, hn⟩
 refine (zeI H V hK).linO H.dom (fun x hx => ?_) ?_ (fun x hx => ?_) (fun v hv hi => ?_) (fun q hq => ?_)
 ·obtain ⟨n, rfl, hn⟩ := hmem x hx
  have := ((zbB H V hK).1 hn).1
  omega
 ·unfold zah List.Nodup
  rw [List.pairwise_map]
  exact (zjS H V hK).imp fun h e => h (by omega)
 ·obtain ⟨n, rfl, hn⟩ := hmem x hx
  rw [Int.toNat_natCast]
  exact ((zbB H V hK).1 hn).2
 ·exact List.mem_map.2 ⟨v, (zbB H V hK).2 ⟨hv, hi⟩, rfl⟩
 ·rw [VI] at hq
  rw [zgl hq, Int.toNat_natCast]
  exact zj6 H V hK hq
theorem zk8 (D : yb l) (hin : ∀ p ∈ l, zaE p) {c : Int} (h : zje l c) : VO l c :=
 ⟨h.thin, h.early, (zko D hin).2 (by rw [Bool.eq_false_iff]; exact fun hz => h.zones (WR.1 hz))⟩
theorem zcO (H : H21 l) (hin : ∀ p ∈ l, zaE p) : (zhZ l).cls = 0 ↔ ∃ o, zf5 l o := by
 rw [zfx]
 constructor
 ·intro V
  exact ⟨_, zkG H V (zcD l)⟩
 ·rintro ⟨o, h⟩ c _
  exact zk8 H.dom hin ((h.tau H.dom fun i hi => (H.wf i hi).2).noViol H.dom (fun i k hi hk ii ik e => h.inj hi hk ii ik e) c)
end
def zal (l : List OpV) (o : List Int) (i : Int) : Bool := zO l i.toNat && (!zir o i && (!(o.any fun k => bef l i.toNat k.toNat) && (decide ((nth l i.toNat).k = 1) || decide (zgb l (nth l i.toNat).key o = (nth l i.toNat).res))))
def zbZ (l : List OpV) (o : List Int) (n : Nat) : Bool := (decide (0 ≤ nth o n) && decide (nth o n < l.length)) && zal l (o.take n) (nth o n)
def zeD (l : List OpV) (o : List Int) : Bool := (List.range o.length).all (zbZ l o) && decide (o.length = (yZ l).length)
def zhW (l : List OpV) : Nat → List Int → Bool
 | 0, _ => true
 | k + 1, o => (List.range l.length).any fun i => zal l o (i : Int) && zhW l k (o ++ [(i : Int)])
section
variable {l : List OpV}
theorem zf5.len {o : List Int} (h : zf5 l o) : o.length = (yZ l).length := by
 have e : (zah (yZ l)).length = (yZ l).length := VI _
 rw [← e]
 refine Nat.le_antisymm (Zn h.nd fun x hx => ?_) (Zn ?_ fun x hx => ?_)
 ·have h1 := h.rng x hx
  exact List.mem_map.2 ⟨x.toNat, yf.2 ⟨by omega, h.inc x hx⟩, by omega⟩
 ·unfold zah List.Nodup
  rw [List.pairwise_map]
  exact (zgT l).imp fun h e => h (by omega)
 ·obtain ⟨n, hn, rfl⟩ := List.mem_map.1 hx
  have := yf.1 hn
  exact h.all n this.1 this.2
def zk2 (l : List OpV) (o : List Int) : Prop := ∀ n, n < o.length → zbZ l o n = true
theorem zdi {o : List Int} {n : Nat} : zbZ l o n = true ↔ (0 ≤ nth o n ∧ nth o n < l.length) ∧ zO l (nth o n).toNat = true ∧ nth o n ∉ o.take n ∧ (∀ j, j < n → j < o.length → bef l (nth o n).toNat (nth o j).toNat = false) ∧ ((nth l (nth o n).toNat).k = 1 ∨ zgb l (nth l (nth o n).toNat).key (o.take n) = (nth l (nth o n).toNat).res) := by
 unfold zbZ zal zir
 simp only [Bool.and_eq_true, Bool.or_eq_true, Bool.not_eq_true', decide_eq_true_eq, decide_eq_false_iff_not, List.any_eq_false]
 constructor
 ·rintro ⟨h1, h2, h3, h4, h5⟩
  refine ⟨h1, h2, h3, fun j hj hjl => ?_, h5⟩
  have := h4 (nth o j) (List.mem_take_iff_getElem.2 ⟨j, by omega, (zg _).symm⟩)
  simpa using this
 ·rintro ⟨h1, h2, h3, h4, h5⟩
  refine ⟨h1, h2, h3, fun x hx => ?_, h5⟩
  obtain ⟨j, hj, e⟩ := List.mem_take_iff_getElem.1 hx
  have := h4 j (by omega) (by omega)
  rw [zg (show j < o.length by omega), e] at this
  simp [this]
theorem zcK {o : List Int} : zeD l o = true ↔ zf5 l o := by
 unfold zeD
 rw [Bool.and_eq_true, decide_eq_true_eq, List.all_eq_true]
 simp only [List.mem_range]
 constructor
 ·rintro ⟨h, hlen⟩
  have h := fun n hn => zdi.1 (h n hn)
  have hnd : o.Nodup := by
   unfold List.Nodup
   rw [List.pairwise_iff_getElem]
   intro i j hi hj hij e
   refine (h j hj).2.2.1 (List.mem_take_iff_getElem.2 ⟨i, by omega, ?_⟩)
   rw [zg hj, e]
  have hx : ∀ x ∈ o, (0 ≤ x ∧ x < l.length) ∧ zO l x.toNat = true := fun x hx => by
   obtain ⟨i, hi, e⟩ := zbE hx
   have := h i hi
   rw [e] at this
   exact ⟨this.1, this.2.1⟩
  refine ⟨fun x h => (hx x h).1, hnd, fun x h => (hx x h).2, fun v hv hi => ?_, fun i hi => (h i hi).2.2.2.2, fun i j hi hj => (h i hi).2.2.2.1 j hj (by omega)⟩
  refine Classical.byContradiction fun hno => ?_
  have := Zn (m := zah (yZ l)) (List.nodup_cons.2 ⟨hno, hnd⟩) fun y hy => by
   rcases List.mem_cons.1 hy with rfl | hy
   ·exact List.mem_map.2 ⟨v, yf.2 ⟨hv, hi⟩, rfl⟩
   ·have := hx y hy
    exact List.mem_map.2 ⟨y.toNat, yf.2 ⟨by omega, this.2⟩, by omega⟩
  rw [VI, List.length_cons] at this
  omega
 ·intro h
  refine ⟨fun n hn => zdi.2 ⟨h.rng _ (zn hn), h.inc _ (zn hn), fun hm => ?_, fun j hj hjl => h.rt n j hn hj, h.val n hn⟩, h.len⟩
  obtain ⟨j, hj, e⟩ := List.mem_take_iff_getElem.1 hm
  rw [zg hn] at e
  have := (List.getElem_inj h.nd).1 e
  omega
theorem zi4 {o o2 : List Int} {n : Nat} (hn : n < o.length) : zbZ l (o ++ o2) n = zbZ l o n := by
 have e1 : nth (o ++ o2) n = nth o n := by rw [zg (by simp; omega), zg hn, List.getElem_append_left hn]
 have e2 : (o ++ o2).take n = o.take n := List.take_append_of_le_length (by omega)
 unfold zbZ
 rw [e1, e2]
theorem zk2.add {o : List Int} (h : zk2 l o) {i : Nat} (hi : i < l.length) (hf : zal l o (i : Int) = true) : zk2 l (o ++ [(i : Int)]) := fun n hn => by
 by_cases e : n = o.length
 ·subst e
  have e1 : nth (o ++ [(i : Int)]) o.length = i := by rw [zg (by simp)]; simp
  unfold zbZ
  rw [e1, List.take_left, hf, decide_eq_true (show (0 : Int) ≤ i by omega), decide_eq_true (show (i : Int) < l.length by omega)]
  rfl
 ·rw [zi4 (by simp at hn; omega)]
  exact h n (by simp at hn; omega)
theorem zbo : ∀ (k : Nat) (o : List Int), o.length + k = (yZ l).length → zk2 l o → (zhW l k o = true ↔ ∃ o', zf5 l (o ++ o'))
 | 0, o, hk, hp => by
  refine ⟨fun _ => ⟨[], ?_⟩, fun _ => rfl⟩
  rw [List.append_nil, ← zcK]
  unfold zeD
  rw [Bool.and_eq_true, decide_eq_true_eq, List.all_eq_true]
  exact ⟨fun n hn => hp n (List.mem_range.1 hn), by omega⟩
 | k + 1, o, hk, hp => by
  show (List.range l.length).any _ = true ↔ _
  rw [List.any_eq_true]
  constructor
  ·rintro ⟨i, hi, h⟩
   rw [Bool.and_eq_true] at h
   obtain ⟨o', h'⟩ := (zbo k (o ++ [(i : Int)]) (by simp; omega) (hp.add (List.mem_range.1 hi) h.1)).1 h.2
   exact ⟨(i : Int) :: o', by rw [List.append_assoc] at h'; exact h'⟩
  ·rintro ⟨o', h⟩
   have hl := h.len
   rw [List.length_append] at hl
   cases o' with
   | nil => rw [List.length_nil] at hl; omega
   | cons x o' =>
    have hs := zcK.2 h
    unfold zeD at hs
    rw [Bool.and_eq_true, List.all_eq_true] at hs
    have hsx := hs.1 o.length (List.mem_range.2 (by simp))
    have hx : nth (o ++ x :: o') o.length = x := by rw [zg (by simp)]; simp
    have hr := h.rng x (by simp)
    unfold zbZ at hsx
    rw [hx, List.take_left, Bool.and_eq_true] at hsx
    have e : ((x.toNat : Nat) : Int) = x := by omega
    refine ⟨x.toNat, List.mem_range.2 (by omega), ?_⟩
    rw [e, Bool.and_eq_true]
    refine ⟨hsx.2, ?_⟩
    have hp2 := hp.add (i := x.toNat) (by omega) (by rw [e]; exact hsx.2)
    rw [e] at hp2
    exact (zbo k (o ++ [x]) (by simp; omega) hp2).2 ⟨o', by rw [List.append_assoc]; exact h⟩
theorem zfh : zhW l (yZ l).length [] = true ↔ ∃ o, zf5 l o := by
 rw [zbo _ _ (by simp) (fun n hn => by simp at hn)]
 simp
end
end Go.Proofs.Ytbeebjdnapkhhaa
