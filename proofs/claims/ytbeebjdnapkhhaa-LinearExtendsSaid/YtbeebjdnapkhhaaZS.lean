/-
  Some texts as one: LinSeq, LinGlob, LinChk, LinRef, LinOrder.
-/
import Derived.Test.YtbeebjdnapkhhaaZLinClus
import Derived.Test.YtbeebjdnapkhhaaZQ
import Derived.Test.YtbeebjdnapkhhaaZG
/-
 The order of a key's operations (linear.sequence), in plain Lean: the clusters of a key without violations, one after the other.
-/
namespace Go.Proofs.Ytbeebjdnapkhhaa
set_option linter.unusedVariables false

section
variable {l : List OpV}
theorem zeo {c : List Nat} : ∀ {k : Nat}, k ≤ c.length → ∀ j, j < k → YG (nth l (zak l c k)) ≤ YG (nth l (nth c j))
 | 0, _, j, hj => by omega
 | k + 1, hk, j, hj => by
  rw [WC (by omega)]
  unfold zj7
  by_cases hjk : j = k
  ·subst hjk
   split
   ·exact Int.le_refl _
   ·omega
  ·have := zeo (c := c) (k := k) (by omega) j (by omega)
   split
   ·omega
   ·exact this
theorem zeB {c : List Nat} : ∀ {k : Nat}, k ≤ c.length → ∀ j, j < k → (nth l (nth c j)).call ≤ (nth l (zby l c k)).call
 | 0, _, j, hj => by omega
 | k + 1, hk, j, hj => by
  rw [WH (by omega)]
  unfold zj9
  by_cases hjk : j = k
  ·subst hjk
   split
   ·exact Int.le_refl _
   ·omega
  ·have := zeB (c := c) (k := k) (by omega) j (by omega)
   split
   ·omega
   ·exact this
theorem zjs {c : List Nat} {i : Nat} (h : i ∈ c) : zbi l c ≤ YG (nth l i) := by
 obtain ⟨j, hj, e⟩ := List.getElem_of_mem h
 have := zeo (l := l) (Nat.le_refl c.length) j hj
 rw [VZ, zi hj, e] at this
 exact this
theorem zjQ {c : List Nat} {i : Nat} (h : i ∈ c) : (nth l i).call ≤ zdc l c := by
 obtain ⟨j, hj, e⟩ := List.getElem_of_mem h
 have := zeB (l := l) (Nat.le_refl c.length) j hj
 rw [Us, zi hj, e] at this
 exact this
theorem zgm {c : List Nat} (h0 : 0 < c.length) : Xr l c ∈ c := by rw [← VZ]; exact Ua h0 (Nat.le_refl _)
theorem zgW {c : List Nat} (h0 : 0 < c.length) : Xv l c ∈ c := by rw [← Us]; exact Ut h0 (Nat.le_refl _)
end

def zis (l : List OpV) (x y : ClV) : Bool := x.ini || decide (zbi l x.ops < zdc l y.ops)
def zhM (l : List OpV) (C : List ClV) (i k : Nat) : Prs := ((List.range k).filter fun k => decide (i ≠ k) && zis l (nth C i) (nth C k)).map fun k => (i, k)
def zg2 (l : List OpV) (C : List ClV) (i : Nat) : Prs := (List.range i).flatMap fun i => zhM l C i C.length
def zfu (l : List OpV) (C : List ClV) : Prs := zg2 l C C.length
theorem zg1 (l : List OpV) (C : List ClV) (i k : Nat) : zhM l C i (k + 1) = zhM l C i k ++ if (decide (i ≠ k) && zis l (nth C i) (nth C k)) = true then [(i, k)] else [] := by
 unfold zhM
 rw [List.range_succ, List.filter_append, List.map_append]
 congr 1
 by_cases h : (decide (i ≠ k) && zis l (nth C i) (nth C k)) = true
 ·rw [if_pos h, List.filter_cons_of_pos (by exact h)]; rfl
 ·rw [if_neg h, List.filter_cons_of_neg (by exact h)]; rfl
theorem zcT (l : List OpV) (C : List ClV) (i : Nat) : zg2 l C (i + 1) = zg2 l C i ++ zhM l C i C.length := by
 unfold zg2
 rw [List.range_succ, List.flatMap_append]
 simp
theorem zeI (l : List OpV) (C : List ClV) (i k : Nat) : (zhM l C i k).length ≤ k := by
 unfold zhM
 rw [List.length_map]
 exact Nat.le_trans (List.length_filter_le _ _) (by simp)
theorem zbH (l : List OpV) (C : List ClV) : ∀ i, (zg2 l C i).length ≤ i * C.length
 | 0 => by simp [zg2]
 | i + 1 => by
  rw [zcT, List.length_append]
  have := zbH l C i
  have := zeI l C i C.length
  rw [Nat.succ_mul]; omega
theorem zbG {l : List OpV} {C : List ClV} {i k : Nat} : (i, k) ∈ zfu l C ↔ i < C.length ∧ k < C.length ∧ i ≠ k ∧ zis l (nth C i) (nth C k) = true := by
 unfold zfu zg2
 rw [List.mem_flatMap]
 constructor
 ·rintro ⟨i', h1, h2⟩
  unfold zhM at h2
  obtain ⟨k', h3, h4⟩ := List.mem_map.1 h2
  obtain ⟨h5, h6⟩ := List.mem_filter.1 h3
  simp only [Prod.mk.injEq] at h4
  obtain ⟨rfl, rfl⟩ := h4
  simp only [Bool.and_eq_true, decide_eq_true_eq] at h6
  exact ⟨List.mem_range.1 h1, List.mem_range.1 h5, h6.1, h6.2⟩
 ·rintro ⟨h1, h2, h3, h4⟩
  refine ⟨i, List.mem_range.2 h1, List.mem_map.2 ⟨k, List.mem_filter.2 ⟨List.mem_range.2 h2, ?_⟩, rfl⟩⟩
  rw [decide_eq_true h3, h4]; rfl
theorem VL {l : List OpV} {x y : ClV} : Vf l x y = [] ↔ zdc l x.ops ≤ zbi l y.ops ∨ (x.ini = false ∧ zdc l y.ops ≤ zbi l x.ops) := by
 unfold Vf
 by_cases h1 : zbi l y.ops ≥ zdc l x.ops
 ·rw [if_pos h1]; exact ⟨fun _ => .inl h1, fun _ => rfl⟩
 ·rw [if_neg h1]
  by_cases h2 : x.ini = true
  ·rw [if_pos h2, h2]
   constructor
   ·intro h; cases h
   ·rintro (h | h)
    ·exact absurd h h1
    ·cases h.1
  ·rw [if_neg h2]
   by_cases h3 : zbi l x.ops < zdc l y.ops
   ·rw [if_pos h3]
    constructor
    ·intro h; cases h
    ·rintro (h | h)
     ·exact absurd h h1
     ·omega
   ·rw [if_neg h3]
    exact ⟨fun _ => .inr ⟨by simpa using h2, by omega⟩, fun _ => rfl⟩
def rkC (l : List OpV) (x : ClV) : Nat := if x.ini = true then 0 else 1 + 2 * (min (zbi l x.ops) (zdc l x.ops)).toNat + if zbi l x.ops < zdc l x.ops then 1 else 0
theorem ziu {l : List OpV} {C : List ClV} (hC : ∀ a j, a < j → j < C.length → Vf l (nth C a) (nth C j) = []) (hini : ∀ j, j < C.length → (nth C j).ini = true → j = 0)
  (h0 : ∀ j, j < C.length → 0 ≤ zbi l (nth C j).ops ∧ 0 ≤ zdc l (nth C j).ops) : ∀ e ∈ zfu l C, rkC l (nth C e.1) < rkC l (nth C e.2) := by
 rintro ⟨i, k⟩ he
 obtain ⟨hi, hk, hne, hp⟩ := zbG.1 he
 dsimp only
 unfold zis at hp
 rw [Bool.or_eq_true, decide_eq_true_eq] at hp
 have kini : (nth C k).ini = true → False := fun h => by
  have e := hini k hk h
  have := VL.1 (hC k i (by omega) hi)
  rw [h] at this
  rcases this with h1 | h1
  ·rcases hp with h2 | h2
   ·have := hini i hi h2; omega
   ·omega
  ·cases h1.1
 have kf : (nth C k).ini = false := by
  cases h : (nth C k).ini with
  | false => rfl
  | true => exact (kini h).elim
 unfold rkC
 rw [kf, if_neg (show ¬ false = true by decide)]
 cases hii : (nth C i).ini with
 | true => rw [if_pos rfl]; omega
 | false =>
  rw [if_neg (by decide)]
  have hp : zbi l (nth C i).ops < zdc l (nth C k).ops := hp.resolve_left (by rw [hii]; decide)
  have hnc : zdc l (nth C i).ops ≤ zbi l (nth C k).ops := by
   rcases Nat.lt_or_gt_of_ne hne with h | h
   ·rcases VL.1 (hC i k h hk) with h1 | h1
    ·exact h1
    ·omega
   ·rcases VL.1 (hC k i h hi) with h1 | h1
    ·omega
    ·exact h1.2
  obtain ⟨i1, i2⟩ := h0 i hi
  obtain ⟨k1, k2⟩ := h0 k hk
  split <;> split <;> omega
theorem zjh.mem {R : Nat → Nat → Bool} {n : Nat} {L : List Nat} (h : zjh R n L) {b : Nat} (hb : b < n) : b ∈ L := by
 refine Classical.byContradiction fun hno => ?_
 have key : ∀ (l m : List Nat), l.Nodup → (∀ x ∈ l, x ∈ m) → l.length ≤ m.length := by
  intro l
  induction l with
  | nil => intro m _ _; exact Nat.zero_le _
  | cons x l ih =>
   intro m hn hs
   obtain ⟨h1, h2⟩ := List.nodup_cons.1 hn
   have hx := hs x (by simp)
   have hl := List.length_erase_of_mem hx
   have hpos : 0 < m.length := List.length_pos_of_mem hx
   have := ih (m.erase x) h2 fun y hy => (List.mem_erase_of_ne (fun e : y = x => h1 (by rw [← e]; exact hy))).2 (hs y (by simp [hy]))
   rw [List.length_cons]
   omega
 have hs := key L ((List.range n).erase b) h.nd fun x hx => (List.mem_erase_of_ne (fun e : x = b => hno (by rw [← e]; exact hx))).2 (List.mem_range.2 (h.rng x hx))
 rw [List.length_erase_of_mem (List.mem_range.2 hb), List.length_range, h.len] at hs
 omega
def Ys (L : List Nat) (x : Nat) : Nat := L.idxOf x
theorem xO {L : List Nat} {x : Nat} (h : x ∈ L) : Ys L x < L.length := List.idxOf_lt_length_of_mem h
theorem yp {L : List Nat} {x : Nat} (h : x ∈ L) : nth L (Ys L x) = x := by
 rw [zi (xO h)]
 exact List.getElem_idxOf _
theorem UD {L : List Nat} (hn : L.Nodup) {i : Nat} (hi : i < L.length) : Ys L (nth L i) = i := by
 rw [zi hi]
 exact hn.idxOf_getElem i hi
theorem Xf {L : List Nat} {x y : Nat} (hx : x ∈ L) (hy : y ∈ L) (e : Ys L x = Ys L y) : x = y := by
 rw [← yp hx, e, yp hy]
theorem zjh.lt {R : Nat → Nat → Bool} {n : Nat} {L : List Nat} (h : zjh R n L) {a b : Nat} (ha : a < n) (hb : b < n) (hr : R a b = true) : Ys L a < Ys L b := by
 have ma := h.mem ha
 have mb := h.mem hb
 have := h.ord (Ys L a) (Ys L b) (by rw [← h.len]; exact xO ma) (by rw [← h.len]; exact xO mb)
 rw [yp ma, yp mb] at this
 exact this hr
structure VO (l : List OpV) (c : Int) : Prop where
 thin : ∀ i, i < l.length → (nth l i).key = c → zfP l i = false
 early : ∀ i, i < l.length → (nth l i).key = c → zgh l i = false
 conf : zds l c = []
def nCl (l : List OpV) (c : Int) : Nat := (Zf l c).length
noncomputable def zgj (l : List OpV) (c : Int) : List Nat := yE (yH (zfu l (Zf l c))) (nCl l c) (nCl l c)
noncomputable def YD (l : List OpV) (c : Int) : List Nat := (zgj l c).flatMap fun j => (nth (Zf l c) j).ops
def zdu (l : List OpV) (c : Int) (i : Nat) : Nat := ((List.range (nCl l c)).find? fun j => decide (Ve l c j = UU (nth l i))).getD 0
noncomputable def spL (l : List OpV) (c : Int) (i : Nat) : Nat := Ys (zgj l c) (zdu l c i) * (l.length + 2) + if (nth l i).k = 1 then 0 else i + 1
section
variable {l : List OpV} {c : Int}
theorem zhV {j : Nat} (hj : j < (Zf l c).length) : (nth (Zf l c) j).ini = true → j = 0 ∧ zjy l c = true := by
 rw [XT] at hj
 have h1 : nth (Zf l c) j = _ := WA hj
 rw [h1]
 show (nth (Yg l c l.length) j).1 = true → _
 unfold Yg at hj ⊢
 intro h
 by_cases h0 : zjy l c = true
 ·rw [if_pos h0] at h hj
  refine ⟨Classical.byContradiction fun hne => ?_, h0⟩
  obtain ⟨j, rfl⟩ : ∃ j', j = j' + 1 := ⟨j - 1, by omega⟩
  simp only [List.length_append, List.length_cons, List.length_nil] at hj
  rw [zi (by simp at hj ⊢; omega)] at h
  simp at h
 ·rw [if_neg h0] at h hj
  rw [List.nil_append] at h hj
  rw [zi hj] at h
  simp at h
theorem zb9 (D : yq l) {j k : Nat} (hj : j < nCl l c) (hk : k < nCl l c) (e : Ve l c j = Ve l c k) : j = k := by
 have hn := zde (c := c) D (Nat.le_refl l.length)
 unfold nCl at hj hk
 rw [XT] at hj hk
 unfold Ve at e
 rw [zi hj, zi hk] at e
 refine (List.getElem_inj hn (h₀ := by simpa using hj) (h₁ := by simpa using hk)).1 ?_
 simpa using e
theorem YH (D : yq l) (V : VO l c) {i : Nat} (h1 : i < l.length) (h2 : (nth l i).key = c) (h4 : zW l i = true) : zdu l c i < nCl l c ∧ Ve l c (zdu l c i) = UU (nth l i) := by
 have hex : ∃ j, j < nCl l c ∧ Ve l c j = UU (nth l i) := by
  unfold nCl
  rw [XT]
  unfold Ve
  rcases D.kind h1 with hk | hk
  ·obtain ⟨j, j1, j2⟩ := zdd D h1 h2 hk (ZS hk h4) (V.thin i h1 h2)
   exact ⟨j, j1, by rw [j2, YV hk]⟩
  ·have hm : (false, [i], (nth l i).arg) ∈ Yg l c l.length := Yv.2 (.inr ⟨i, h1, YZ.2 ⟨h2, hk, h4⟩, rfl⟩)
   obtain ⟨j, hj, e⟩ := List.getElem_of_mem hm
   exact ⟨j, hj, by rw [zi hj, e, Yc hk]⟩
 obtain ⟨j, j1, j2⟩ := hex
 unfold zdu
 cases hf : (List.range (nCl l c)).find? fun j => decide (Ve l c j = UU (nth l i)) with
 | none =>
  have := List.find?_eq_none.1 hf j (List.mem_range.2 j1)
  rw [j2] at this
  simp at this
 | some z =>
  rw [List.find?_range_eq_some] at hf
  exact ⟨List.mem_range.1 hf.2.1, by simpa using hf.1⟩
theorem zjn (D : yq l) (V : VO l c) {j i : Nat} (hj : j < nCl l c) (hi : i ∈ (nth (Zf l c) j).ops) : zdu l c i = j := by
 obtain ⟨h1, h2, h3, h4⟩ := (xR D hj).1 hi
 obtain ⟨c1, c2⟩ := YH D V h1 h2 h4
 exact zb9 D c1 hj (by rw [c2, h3])
theorem VQ (D : yq l) (hw : ∀ i, i < l.length → 0 ≤ (nth l i).call ∧ (nth l i).call < (nth l i).ret) (V : VO l c) : (∀ e ∈ zfu l (Zf l c), rkC l (nth (Zf l c) e.1) < rkC l (nth (Zf l c) e.2)) ∧ zjh (yH (zfu l (Zf l c))) (nCl l c) (zgj l c) := by
 have h := ziu (l := l) (C := Zf l c) (fun a j haj hj => zgb.1 V.conf a (by omega) (by omega) j haj hj) (fun j hj h => (zhV hj h).1) (fun j hj => by
  have h0 := zdv D hj
  have m1 := (xR D hj).1 (zgm (l := l) h0)
  have m2 := (xR D hj).1 (zgW (l := l) h0)
  have w1 := hw _ m1.1
  have w2 := hw _ m2.1
  refine ⟨?_, w2.1⟩
  unfold zbi YG
  split <;> omega)
 exact ⟨h, zej (ZC (f := fun j => rkC l (nth (Zf l c) j)) h)⟩
theorem xt (D : yq l) (hw : ∀ i, i < l.length → 0 ≤ (nth l i).call ∧ (nth l i).call < (nth l i).ret) (V : VO l c) {i : Nat} : i ∈ YD l c ↔ i < l.length ∧ (nth l i).key = c ∧ zW l i = true := by
 obtain ⟨_, E⟩ := VQ D hw V
 unfold YD
 rw [List.mem_flatMap]
 constructor
 ·rintro ⟨j, hj, hi⟩
  obtain ⟨h1, h2, h3, h4⟩ := (xR D (E.rng j hj)).1 hi
  exact ⟨h1, h2, h4⟩
 ·rintro ⟨h1, h2, h4⟩
  obtain ⟨c1, c2⟩ := YH D V h1 h2 h4
  exact ⟨_, E.mem c1, (xR D c1).2 ⟨h1, h2, c2.symm, h4⟩⟩
theorem zeM (D : yq l) (V : VO l c) {j i : Nat} (hj : j < nCl l c) (hi : i ∈ (nth (Zf l c) j).ops) : spL l c i = Ys (zgj l c) j * (l.length + 2) + if (nth l i).k = 1 then 0 else i + 1 := by
 unfold spL
 rw [zjn D V hj hi]
theorem US {i : Nat} (h : i < l.length) : (if (nth l i).k = 1 then 0 else i + 1) < l.length + 2 := by split <;> omega
theorem zhA {a b B x y : Nat} (h : a < b) (hx : x < B) : a * B + x < b * B + y := by
 have := Nat.mul_le_mul_right B (show a + 1 ≤ b by omega)
 rw [Nat.succ_mul] at this
 omega
theorem UO (D : yq l) (hw : ∀ i, i < l.length → 0 ≤ (nth l i).call ∧ (nth l i).call < (nth l i).ret) (V : VO l c) : (YD l c).Pairwise fun a b => spL l c a < spL l c b := by
 obtain ⟨_, E⟩ := VQ D hw V
 unfold YD
 rw [List.pairwise_flatMap]
 constructor
 ·intro j hj
  have hjn := E.rng j hj
  have hrd : ∀ v, (YA l c v l.length).Pairwise fun a b => a < b ∧ (nth l a).k = 0 ∧ (nth l b).k = 0 := fun v => by
   have h1 : (YA l c v l.length).Pairwise fun a b => a < b := List.pairwise_lt_range.sublist List.filter_sublist
   refine h1.imp_of_mem fun ha hb hab => ⟨hab, ?_, ?_⟩
   ·exact (yO.1 (YS.1 ha).2).1
   ·exact (yO.1 (YS.1 hb).2).1
  have hp : (nth (Zf l c) j).ops.Pairwise fun a b => (if (nth l a).k = 1 then 0 else a + 1) < if (nth l b).k = 1 then 0 else b + 1 := by
   rcases YI hjn with ⟨h0, h1, h2⟩ | ⟨w, w1, w2, h1, h2⟩
   ·rw [h2]
    refine (hrd 0).imp fun h => ?_
    rw [if_neg (by omega), if_neg (by omega)]; omega
   ·rw [h2]
    refine List.pairwise_cons.2 ⟨fun b hb => ?_, (hrd _).imp fun h => ?_⟩
    ·have := (yO.1 (YS.1 hb).2).1
     rw [if_pos (YZ.1 w2).2.1, if_neg (by omega)]; omega
    ·rw [if_neg (by omega), if_neg (by omega)]; omega
  refine hp.imp_of_mem fun ha hb h => ?_
  rw [zeM D V hjn ha, zeM D V hjn hb]
  omega
 ·rw [List.pairwise_iff_getElem]
  intro p q hp hq hpq x hx y hy
  have h1 := E.rng _ (List.getElem_mem hp)
  have h2 := E.rng _ (List.getElem_mem hq)
  rw [zeM D V h1 hx, zeM D V h2 hy]
  have e1 := UD E.nd hp
  have e2 := UD E.nd hq
  rw [zi hp] at e1
  rw [zi hq] at e2
  rw [e1, e2]
  exact zhA hpq (US ((xR D h1).1 hx).1)
theorem zi9 (D : yq l) (hw : ∀ i, i < l.length → 0 ≤ (nth l i).call ∧ (nth l i).call < (nth l i).ret) (V : VO l c) {i k : Nat} (hi : i < nCl l c) (hk : k < nCl l c) (hne : i ≠ k) (h : zis l (nth (Zf l c) i) (nth (Zf l c) k) = true) : Ys (zgj l c) i < Ys (zgj l c) k :=
 (VQ D hw V).2.lt hi hk (xA.2 (.one (zbG.2 ⟨hi, hk, hne, h⟩)))
theorem zjP (D : yq l) (hc : ∀ i j, i < l.length → j < l.length → (nth l i).call < (nth l j).call → i < j) (hw : ∀ i, i < l.length → 0 ≤ (nth l i).call ∧ (nth l i).call < (nth l i).ret) (V : VO l c) {i k : Nat} (hi : i ∈ YD l c) (hk : k ∈ YD l c) (hb : bef l i k = true) : spL l c i < spL l c k := by
 obtain ⟨i1, i2, i4⟩ := (xt D hw V).1 hi
 obtain ⟨k1, k2, k4⟩ := (xt D hw V).1 hk
 obtain ⟨ci, vi⟩ := YH D V i1 i2 i4
 obtain ⟨ck, vk⟩ := YH D V k1 k2 k4
 have mi := (xR D ci).2 ⟨i1, i2, vi.symm, i4⟩
 have mk := (xR D ck).2 ⟨k1, k2, vk.symm, k4⟩
 have hcall := zbe (fun i h => (hw i h).2) i1 hb
 have hik := hc i k i1 k1 hcall
 have hbf := hb
 unfold bef at hbf
 simp only [Bool.and_eq_true, decide_eq_true_eq] at hbf
 unfold spL
 by_cases e : zdu l c i = zdu l c k
 ·rw [e]
  have hv : UU (nth l i) = UU (nth l k) := by rw [← vi, ← vk, e]
  rcases D.kind i1 with ki | ki
  ·rcases D.kind k1 with kk | kk
   ·rw [if_neg (by omega), if_neg (by omega)]; omega
   ·exfalso
    rw [YV ki, Yc kk] at hv
    have he := V.early i i1 i2
    have e1 := zjf D k1 kk
    rw [k2, ← hv, ← i2] at e1
    have ha := D.arg k1 kk
    unfold zgh at he
    rw [e1, decide_eq_true ki, hbf.1, decide_eq_true (show (nth l i).res ≠ 0 by omega)] at he
    have he : bef l i k = false := by simpa using he
    rw [hb] at he
    cases he
  ·rcases D.kind k1 with kk | kk
   ·rw [if_pos ki, if_neg (by omega)]; omega
   ·exfalso
    rw [Yc ki, Yc kk] at hv
    have := D.uniq i1 k1 ki kk (i2.trans k2.symm) hv
    omega
 ·refine zhA (zi9 D hw V ci ck e ?_) (US i1)
  unfold zis
  rw [Bool.or_eq_true, decide_eq_true_eq]
  refine .inr ?_
  have h1 := zjs (l := l) mi
  have h2 := zjQ (l := l) mk
  have h3 : YG (nth l i) = (nth l i).ret := by unfold YG; rw [hbf.1]; rfl
  omega
theorem zjO (D : yq l) (hw : ∀ i, i < l.length → 0 ≤ (nth l i).call ∧ (nth l i).call < (nth l i).ret) (V : VO l c) {r : Nat} (hr : r < l.length) (hrc : (nth l r).key = c) (h0 : (nth l r).k = 0) (hd : (nth l r).done = true) :
  ((nth l r).res = 0 ∧ ∀ w, wrI l c w → spL l c r < spL l c w) ∨ ∃ w, wrI l c w ∧ (nth l w).arg = (nth l r).res ∧ spL l c w < spL l c r ∧ ∀ w', wrI l c w' → w' ≠ w → spL l c w' < spL l c w ∨ spL l c r < spL l c w' := by
 obtain ⟨cr, vr⟩ := YH D V hr hrc (ZR hd)
 rw [YV h0] at vr
 by_cases hz : (nth l r).res = 0
 ·refine .inl ⟨hz, fun w hwi => ?_⟩
  obtain ⟨w1, w2, w3, w4⟩ := hwi
  obtain ⟨cw, vw⟩ := YH D V w1 w2 w4
  rw [Yc w3] at vw
  have ha := D.arg w1 w3
  have hne : zdu l c r ≠ zdu l c w := fun e => by rw [e, vw] at vr; omega
  unfold spL
  refine zhA (zi9 D hw V cr cw hne ?_) (US hr)
  unfold zis
  rw [Bool.or_eq_true]
  left
  rcases YI cr with ⟨h0, h1, h2⟩ | ⟨u, u1, u2, h1, h2⟩
  ·rw [h2]
  ·exact absurd (by rw [← h1, vr, hz]) (D.arg u1 (YZ.1 u2).2.1)
 ·have ht := V.thin r hr hrc
  unfold zfP at ht
  rw [decide_eq_true h0, hd, decide_eq_true hz] at ht
  simp only [Bool.true_and] at ht
  cases hwx : wIx l (nth l r).key (nth l r).res with
  | none => rw [hwx] at ht; cases ht
  | some w =>
   obtain ⟨w1, w2, _⟩ := Zk hwx
   rw [YW] at w2
   obtain ⟨w2, w3, w5⟩ := w2
   have w4 := zd4 hr h0 hd w1 w2 w3 w5
   have wc : (nth l w).key = c := w3.trans hrc
   obtain ⟨cw, vw⟩ := YH D V w1 wc w4
   rw [Yc w2] at vw
   have hsame : zdu l c w = zdu l c r := zb9 D cw cr (by rw [vw, vr, w5])
   refine .inr ⟨w, ⟨w1, wc, w2, w4⟩, w5, ?_, ?_⟩
   ·unfold spL
    rw [hsame, if_pos w2, if_neg (by omega)]; omega
   ·rintro w' ⟨x1, x2, x3, x4⟩ hne
    obtain ⟨cx, vx⟩ := YH D V x1 x2 x4
    rw [Yc x3] at vx
    have hdif : zdu l c w' ≠ zdu l c w := fun e => by
     rw [e, vw] at vx
     exact hne (D.uniq x1 w1 x3 w2 (x2.trans wc.symm) vx.symm)
    have E := (VQ D hw V).2
    have hpd : Ys (zgj l c) (zdu l c w') ≠ Ys (zgj l c) (zdu l c w) := fun e => hdif (Xf (E.mem cx) (E.mem cw) e)
    rcases Nat.lt_or_gt_of_ne hpd with h | h
    ·left; unfold spL; exact zhA h (US x1)
    ·right; unfold spL; rw [← hsame]; exact zhA h (US hr)
end
end Go.Proofs.Ytbeebjdnapkhhaa
/-
 A linearization of a history without violations (linear.linearization), in plain Lean.
-/
namespace Go.Proofs.Ytbeebjdnapkhhaa
set_option linter.unusedVariables false

def ziU (h : Nat → Nat) (L : List Nat) : Nat := L.foldr (fun x m => max (h x) m) 0
theorem zbV {h : Nat → Nat} {x : Nat} : ∀ {L : List Nat}, x ∈ L → h x ≤ ziU h L
 | y :: L, hx => by
  show h x ≤ max (h y) (ziU h L)
  rcases List.mem_cons.1 hx with rfl | hx
  ·omega
  ·have := zbV (h := h) hx; omega
theorem zd3 {h : Nat → Nat} : ∀ (L : List Nat), ziU h L = 0 ∨ ∃ x ∈ L, h x = ziU h L
 | [] => .inl rfl
 | y :: L => by
  show max (h y) (ziU h L) = 0 ∨ ∃ x ∈ y :: L, h x = max (h y) (ziU h L)
  rcases Nat.le_total (ziU h L) (h y) with hle | hle
  ·exact .inr ⟨y, by simp, by omega⟩
  ·rcases zd3 (h := h) L with e | ⟨x, hx, e⟩
   ·by_cases h0 : h y = 0
    ·left; omega
    ·exact .inr ⟨y, by simp, by omega⟩
   ·exact .inr ⟨x, by simp [hx], by omega⟩
theorem ZW {α : Type} [BEq α] [LawfulBEq α] : ∀ {l m : List α}, l.Nodup → (∀ x ∈ l, x ∈ m) → l.length ≤ m.length
 | [], m, _, _ => Nat.zero_le _
 | x :: l, m, hn, hs => by
  have h1 := List.nodup_cons.1 hn
  have hx := hs x (by simp)
  have hl := List.length_erase_of_mem hx
  have hpos : 0 < m.length := List.length_pos_of_mem hx
  have := ZW (m := m.erase x) h1.2 fun y hy => (List.mem_erase_of_ne (fun e : y = x => h1.1 (by rw [← e]; exact hy))).2 (hs y (by simp [hy]))
  rw [List.length_cons]
  omega
def yF (l : List OpV) : List Nat := (List.range l.length).filter (zW l)
def XL (l : List OpV) (i : Nat) : Nat := Ys (yF l) i
def zf0 (l : List OpV) (row : List Nat) (k : Nat) : Prs := (List.range k).map fun i => (XL l (nth row i), XL l (nth row (i + 1)))
def zkH (l : List OpV) (row : List Nat) : Prs := zf0 l row (row.length - 1)
noncomputable def zeu (l : List OpV) (K : List Int) : Prs := K.flatMap fun c => zkH l (YD l c)
def rtR (l : List OpV) (a k : Nat) : Prs := ((List.range k).filter fun b => bef l (nth (yF l) a) (nth (yF l) b)).map fun b => (a, b)
def rtT (l : List OpV) (a : Nat) : Prs := (List.range a).flatMap fun a => rtR l a (yF l).length
noncomputable def zgS (l : List OpV) (K : List Int) : Prs := zeu l K ++ rtT l (yF l).length
noncomputable def zhL (l : List OpV) (K : List Int) : List Nat := yE (yH (zgS l K)) (yF l).length (yF l).length
noncomputable def Uo (l : List OpV) (K : List Int) : List Nat := (zhL l K).map fun a => nth (yF l) a
theorem zhs (l : List OpV) (row : List Nat) (k : Nat) : zf0 l row (k + 1) = zf0 l row k ++ [(XL l (nth row k), XL l (nth row (k + 1)))] := by
 unfold zf0; rw [List.range_succ, List.map_append]; rfl
theorem zeJ (l : List OpV) (row : List Nat) (k : Nat) : (zf0 l row k).length = k := by simp [zf0]
theorem zeK (l : List OpV) (a k : Nat) : rtR l a (k + 1) = rtR l a k ++ if bef l (nth (yF l) a) (nth (yF l) k) = true then [(a, k)] else [] := by
 unfold rtR
 rw [List.range_succ, List.filter_append, List.map_append]
 congr 1
 by_cases h : bef l (nth (yF l) a) (nth (yF l) k) = true
 ·rw [if_pos h, List.filter_cons_of_pos (by exact h)]; rfl
 ·rw [if_neg h, List.filter_cons_of_neg (by exact h)]; rfl
theorem zbO (l : List OpV) (a : Nat) : rtT l (a + 1) = rtT l a ++ rtR l a (yF l).length := by
 unfold rtT
 rw [List.range_succ, List.flatMap_append]
 simp
theorem zdZ (l : List OpV) (a k : Nat) : (rtR l a k).length ≤ k := by
 unfold rtR
 rw [List.length_map]
 exact Nat.le_trans (List.length_filter_le _ _) (by simp)
theorem zd0 (l : List OpV) : ∀ i, (rtT l i).length ≤ i * (yF l).length
 | 0 => by simp [rtT]
 | i + 1 => by
  rw [zbO, List.length_append]
  have := zd0 l i
  have := zdZ l i (yF l).length
  rw [Nat.succ_mul]; omega
theorem zX {l : List OpV} {i : Nat} : i ∈ yF l ↔ i < l.length ∧ zW l i = true := by unfold yF; rw [List.mem_filter, List.mem_range]
theorem zgI (l : List OpV) : (yF l).Nodup := List.nodup_range.sublist List.filter_sublist
theorem zgH (l : List OpV) : (yF l).length ≤ l.length := by unfold yF; exact Nat.le_trans (List.length_filter_le _ _) (by simp)
theorem xw {l : List OpV} {i : Nat} (h : i ∈ yF l) : XL l i < (yF l).length := xO h
theorem xS {l : List OpV} {i : Nat} (h : i ∈ yF l) : nth (yF l) (XL l i) = i := yp h
theorem zbD {l : List OpV} {a : Nat} (h : a < (yF l).length) : XL l (nth (yF l) a) = a := UD (zgI l) h
section
variable {l : List OpV} {K : List Int}
theorem WS {a b : Nat} : (a, b) ∈ rtT l (yF l).length ↔ a < (yF l).length ∧ b < (yF l).length ∧ bef l (nth (yF l) a) (nth (yF l) b) = true := by
 unfold rtT
 rw [List.mem_flatMap]
 constructor
 ·rintro ⟨i', h1, h2⟩
  unfold rtR at h2
  obtain ⟨k', h3, h4⟩ := List.mem_map.1 h2
  obtain ⟨h5, h6⟩ := List.mem_filter.1 h3
  simp only [Prod.mk.injEq] at h4
  obtain ⟨rfl, rfl⟩ := h4
  exact ⟨List.mem_range.1 h1, List.mem_range.1 h5, h6⟩
 ·rintro ⟨h1, h2, h3⟩
  exact ⟨a, List.mem_range.2 h1, List.mem_map.2 ⟨b, List.mem_filter.2 ⟨List.mem_range.2 h2, h3⟩, rfl⟩⟩
theorem Vs {x : Nat × Nat} : x ∈ zeu l K ↔ ∃ c ∈ K, ∃ i, i + 1 < (YD l c).length ∧ x = (XL l (nth (YD l c) i), XL l (nth (YD l c) (i + 1))) := by
 unfold zeu zkH zf0
 rw [List.mem_flatMap]
 constructor
 ·rintro ⟨c, hc, h⟩
  obtain ⟨i, hi, e⟩ := List.mem_map.1 h
  exact ⟨c, hc, i, by have := List.mem_range.1 hi; omega, e.symm⟩
 ·rintro ⟨c, hc, i, hi, e⟩
  exact ⟨c, hc, List.mem_map.2 ⟨i, List.mem_range.2 (by omega), e.symm⟩⟩
structure H21 (l : List OpV) : Prop where
 dom : yq l
 ord : ∀ i j, i < l.length → j < l.length → (nth l i).call < (nth l j).call → i < j
 wf : ∀ i, i < l.length → 0 ≤ (nth l i).call ∧ (nth l i).call < (nth l i).ret
theorem zeL (H : H21 l) {c : Int} (V : VO l c) : (YD l c).length ≤ l.length := by
 have hn : (YD l c).Nodup := (UO H.dom H.wf V).imp fun h e => by rw [e] at h; omega
 have := ZW (m := List.range l.length) hn fun x hx => List.mem_range.2 ((xt H.dom H.wf V).1 hx).1
 simpa using this
theorem zev (H : H21 l) (V : ∀ c ∈ K, VO l c) : ∀ i, i ≤ K.length → (zeu l (K.take i)).length ≤ i * l.length
 | 0, _ => by simp [zeu]
 | i + 1, hi => by
  have h1 := zev H V i (by omega)
  have h2 := zeL H (V _ (zn (l := K) (i := i) (by omega)))
  rw [xu (by omega)]
  unfold zeu at h1 ⊢
  rw [List.flatMap_append, List.length_append, List.flatMap_singleton, Nat.succ_mul]
  have h3 : (zkH l (YD l (nth K i))).length = (YD l (nth K i)).length - 1 := by unfold zkH; rw [zeJ]
  omega
theorem zgO {i : Nat} (hi : i < K.length) : zeu l (K.take (i + 1)) = zeu l (K.take i) ++ zkH l (YD l (nth K i)) := by
 rw [xu hi]
 unfold zeu
 rw [List.flatMap_append, List.flatMap_singleton]
theorem zjd (H : H21 l) {c : Int} (V : VO l c) {p q : Nat} (hq : q < (YD l c).length) (hpq : p < q) : spL l c (nth (YD l c) p) < spL l c (nth (YD l c) q) := by
 have := List.pairwise_iff_getElem.1 (UO H.dom H.wf V) p q (by omega) hq hpq
 rw [zi hq, zi (by omega)]
 exact this
theorem zil (H : H21 l) (V : ∀ c ∈ K, VO l c) (hK : ∀ i, i < l.length → (nth l i).key ∈ K) : ∃ f : Nat → Nat, (∀ i k, i < l.length → k < l.length → zW l i = true → zW l k = true → bef l i k = true → f i < f k) ∧
  ∀ i k, i < l.length → k < l.length → zW l i = true → zW l k = true → (nth l i).key = (nth l k).key → spL l (nth l i).key i < spL l (nth l i).key k → f i < f k := by
 obtain ⟨FK, hFK⟩ : ∃ FK : Nat → Nat, FK = fun a => spL l (nth l a).key a := ⟨_, rfl⟩
 have hkk : ∀ a b, a < l.length → b < l.length → zW l a = true → zW l b = true → (nth l a).key = (nth l b).key → bef l a b = true → FK a < FK b := fun a b ha hb ia ib e hbf => by
  rw [hFK]; dsimp only
  rw [← e]
  have V' := V _ (hK a ha)
  exact zjP H.dom H.ord H.wf V' ((xt H.dom H.wf V').2 ⟨ha, rfl, ia⟩) ((xt H.dom H.wf V').2 ⟨hb, e.symm, ib⟩) hbf
 obtain ⟨B, hB⟩ : ∃ B, B = ziU FK (List.range l.length) + 1 := ⟨_, rfl⟩
 have hlt : ∀ a, a < l.length → FK a < B := fun a ha => by
  have := zbV (h := FK) (List.mem_range.2 ha)
  omega
 obtain ⟨S, hS⟩ : ∃ S : Nat → List Nat, S = fun a => (List.range l.length).filter fun b => zW l b && decide ((nth l b).key = (nth l a).key) && decide (FK b ≤ FK a) := ⟨_, rfl⟩
 have hSm : ∀ a b, b ∈ S a ↔ b < l.length ∧ zW l b = true ∧ (nth l b).key = (nth l a).key ∧ FK b ≤ FK a := fun a b => by
  rw [hS]; dsimp only
  rw [List.mem_filter, List.mem_range]
  simp only [Bool.and_eq_true, decide_eq_true_eq, and_assoc]
 obtain ⟨g, hg⟩ : ∃ g : Nat → Nat, g = fun a => ziU (fun b => (nth l b).call.toNat) (S a) := ⟨_, rfl⟩
 have same : ∀ a b, a < l.length → b < l.length → (nth l a).key = (nth l b).key → FK a < FK b → g a * B + FK a < g b * B + FK b := fun a b ha hb hk h1 => by
  have h2 : g a ≤ g b := by
   rw [hg]; dsimp only
   rcases zd3 (h := fun b => (nth l b).call.toNat) (S a) with e | ⟨x, hx, e⟩
   ·omega
   ·rw [← e]
    obtain ⟨x1, x2, x3, x4⟩ := (hSm a x).1 hx
    exact zbV (h := fun b => (nth l b).call.toNat) ((hSm b x).2 ⟨x1, x2, x3.trans hk, by omega⟩)
  have := Nat.mul_le_mul_right B h2
  omega
 refine ⟨fun a => g a * B + FK a, fun a b ha hb ia ib hbf => ?_, fun a b ha hb ia ib hk hs => ?_⟩
 ·dsimp only
  by_cases hk : (nth l a).key = (nth l b).key
  ·exact same a b ha hb hk (hkk a b ha hb ia ib hk hbf)
  ·have hbf' := hbf
   unfold bef at hbf
   simp only [Bool.and_eq_true, decide_eq_true_eq] at hbf
   have hwa := H.wf a ha
   have hwb := H.wf b hb
   have h1 : g a ≤ (nth l a).ret.toNat := by
    rw [hg]; dsimp only
    rcases zd3 (h := fun b => (nth l b).call.toNat) (S a) with e | ⟨x, hx, e⟩
    ·omega
    ·rw [← e]
     obtain ⟨x1, x2, x3, x4⟩ := (hSm a x).1 hx
     have hwx := H.wf x x1
     by_cases hlt2 : (nth l a).ret < (nth l x).call
     ·exfalso
      have := hkk a x ha x1 ia x2 x3.symm (by unfold bef; simp [hbf.1, hlt2])
      omega
     ·omega
   have h2 : (nth l b).call.toNat ≤ g b := by
    rw [hg]; dsimp only
    exact zbV (h := fun b => (nth l b).call.toNat) ((hSm b b).2 ⟨hb, ib, rfl, Nat.le_refl _⟩)
   have h3 : g a + 1 ≤ g b := by omega
   have h4 := Nat.mul_le_mul_right B h3
   rw [Nat.succ_mul] at h4
   have := hlt a ha
   omega
 ·dsimp only
  refine same a b ha hb hk ?_
  rw [hFK]; dsimp only
  rw [← hk]; exact hs
theorem zjD (H : H21 l) (V : ∀ c ∈ K, VO l c) : ∀ e ∈ zgS l K, e.1 < (yF l).length ∧ e.2 < (yF l).length := by
 rintro ⟨a, b⟩ he
 rcases List.mem_append.1 he with he | he
 ·obtain ⟨c, hc, i, hi, e⟩ := Vs.1 he
  simp only [Prod.mk.injEq] at e
  obtain ⟨rfl, rfl⟩ := e
  have m1 := (xt H.dom H.wf (V c hc)).1 (zn (show i < (YD l c).length by omega))
  have m2 := (xt H.dom H.wf (V c hc)).1 (zn hi)
  exact ⟨xw (zX.2 ⟨m1.1, m1.2.2⟩), xw (zX.2 ⟨m2.1, m2.2.2⟩)⟩
 ·obtain ⟨h1, h2, _⟩ := WS.1 he
  exact ⟨h1, h2⟩
theorem zcK (H : H21 l) (V : ∀ c ∈ K, VO l c) (hK : ∀ i, i < l.length → (nth l i).key ∈ K) : ∃ f : Nat → Nat, ∀ e ∈ zgS l K, f e.1 < f e.2 := by
 obtain ⟨f, f1, f2⟩ := zil H V hK
 refine ⟨fun a => f (nth (yF l) a), ?_⟩
 rintro ⟨a, b⟩ he
 dsimp only
 rcases List.mem_append.1 he with he | he
 ·obtain ⟨c, hc, i, hi, e⟩ := Vs.1 he
  simp only [Prod.mk.injEq] at e
  obtain ⟨rfl, rfl⟩ := e
  have m1 := (xt H.dom H.wf (V c hc)).1 (zn (show i < (YD l c).length by omega))
  have m2 := (xt H.dom H.wf (V c hc)).1 (zn hi)
  rw [xS (zX.2 ⟨m1.1, m1.2.2⟩), xS (zX.2 ⟨m2.1, m2.2.2⟩)]
  refine f2 _ _ m1.1 m2.1 m1.2.2 m2.2.2 (m1.2.1.trans m2.2.1.symm) ?_
  rw [m1.2.1]
  exact zjd H (V c hc) hi (by omega)
 ·obtain ⟨h1, h2, h3⟩ := WS.1 he
  have m1 := zX.1 (zn h1)
  have m2 := zX.1 (zn h2)
  exact f1 _ _ m1.1 m2.1 m1.2 m2.2 h3
theorem Yr (H : H21 l) (V : ∀ c ∈ K, VO l c) (hK : ∀ i, i < l.length → (nth l i).key ∈ K) : zjh (yH (zgS l K)) (yF l).length (zhL l K) := by
 obtain ⟨f, hf⟩ := zcK H V hK
 exact zej (ZC hf)
theorem zik (H : H21 l) (V : ∀ c ∈ K, VO l c) (hK : ∀ i, i < l.length → (nth l i).key ∈ K) {i : Nat} : i ∈ Uo l K ↔ i < l.length ∧ zW l i = true := by
 have E := Yr H V hK
 unfold Uo
 rw [List.mem_map]
 constructor
 ·rintro ⟨a, ha, rfl⟩
  exact zX.1 (zn (E.rng a ha))
 ·intro h
  have := zX.2 h
  exact ⟨XL l i, E.mem (xw this), xS this⟩
theorem zbw (H : H21 l) (V : ∀ c ∈ K, VO l c) (hK : ∀ i, i < l.length → (nth l i).key ∈ K) : (Uo l K).length = (yF l).length := by
 unfold Uo; rw [List.length_map]; exact (Yr H V hK).len
theorem zjC (H : H21 l) (V : ∀ c ∈ K, VO l c) (hK : ∀ i, i < l.length → (nth l i).key ∈ K) : (Uo l K).Nodup := by
 have E := Yr H V hK
 unfold Uo List.Nodup
 rw [List.pairwise_map]
 refine E.nd.imp_of_mem fun ha hb hab e => hab ?_
 rw [← zbD (E.rng _ ha), e, zbD (E.rng _ hb)]
noncomputable def zbU (l : List OpV) (K : List Int) (i : Nat) : Nat := Ys (zhL l K) (XL l i)
theorem zjS (H : H21 l) (V : ∀ c ∈ K, VO l c) (hK : ∀ i, i < l.length → (nth l i).key ∈ K) {p : Nat} (hp : p < (Uo l K).length) : zbU l K (nth (Uo l K) p) = p := by
 have E := Yr H V hK
 have hp' : p < (zhL l K).length := by unfold Uo at hp; simpa using hp
 have e : nth (Uo l K) p = nth (yF l) (nth (zhL l K) p) := by
  unfold Uo at hp ⊢; rw [zi hp, zi hp', List.getElem_map]
 unfold zbU
 rw [e, zbD (E.rng _ (zn hp')), UD E.nd hp']
theorem zeN (H : H21 l) (V : ∀ c ∈ K, VO l c) (hK : ∀ i, i < l.length → (nth l i).key ∈ K) {a b : Nat} (ha : a < l.length) (hb : b < l.length) (ia : zW l a = true) (ib : zW l b = true) {c : Int} (ka : (nth l a).key = c) (kb : (nth l b).key = c) (h : spL l c a < spL l c b) : zbU l K a < zbU l K b := by
 have E := Yr H V hK
 have hc : c ∈ K := by rw [← ka]; exact hK a ha
 have V' := V c hc
 have ma := (xt H.dom H.wf V').2 ⟨ha, ka, ia⟩
 have mb := (xt H.dom H.wf V').2 ⟨hb, kb, ib⟩
 have reach : ∀ d p, p + d + 1 < (YD l c).length → zhJ (zgS l K) (XL l (nth (YD l c) p)) (XL l (nth (YD l c) (p + d + 1))) := by
  intro d
  induction d with
  | zero => intro p hp; exact .one (List.mem_append_left _ (Vs.2 ⟨c, hc, p, hp, rfl⟩))
  | succ d ih =>
   intro p hp
   refine .step (b := XL l (nth (YD l c) (p + 1))) (List.mem_append_left _ (Vs.2 ⟨c, hc, p, by omega, rfl⟩)) ?_
   have := ih (p + 1) (by omega)
   rw [show p + 1 + d + 1 = p + (d + 1) + 1 by omega] at this
   exact this
 have hpa := xO ma
 have hpb := xO mb
 have hlt : Ys (YD l c) a < Ys (YD l c) b := by
  refine Nat.lt_of_not_le fun hle => ?_
  rcases Nat.lt_or_eq_of_le hle with h2 | h2
  ·have := zjd H V' hpa h2
   rw [yp ma, yp mb] at this
   omega
  ·have := Xf mb ma h2
   subst this
   omega
 have h1 := reach (Ys (YD l c) b - Ys (YD l c) a - 1) (Ys (YD l c) a) (by omega)
 rw [show Ys (YD l c) a + (Ys (YD l c) b - Ys (YD l c) a - 1) + 1 = Ys (YD l c) b by omega, yp ma, yp mb] at h1
 exact E.lt (xw (zX.2 ⟨ha, ia⟩)) (xw (zX.2 ⟨hb, ib⟩)) (xA.2 h1)
theorem zex (H : H21 l) (V : ∀ c ∈ K, VO l c) (hK : ∀ i, i < l.length → (nth l i).key ∈ K) : zkc l (zbU l K) where
 rt i k hi hk ii ik hb := by
  have E := Yr H V hK
  have mi := zX.2 ⟨hi, ii⟩
  have mk := zX.2 ⟨hk, ik⟩
  refine E.lt (xw mi) (xw mk) (xA.2 (.one (List.mem_append_right _ (WS.2 ⟨xw mi, xw mk, ?_⟩))))
  rw [xS mi, xS mk]; exact hb
 rd r hr h0 hd := by
  have V' := V _ (hK r hr)
  have ir := ZR hd
  rcases zjO H.dom H.wf V' hr rfl h0 hd with ⟨e, h⟩ | ⟨w, hw, ha, hlt, ho⟩
  ·exact .inl ⟨e, fun w hw => Nat.le_of_lt (zeN H V hK hr hw.1 ir hw.2.2.2 rfl hw.2.1 (h w hw))⟩
  ·refine .inr ⟨w, hw, ha, Nat.le_of_lt (zeN H V hK hw.1 hr hw.2.2.2 ir hw.2.1 rfl hlt), fun w' hw' hne => ?_⟩
   rcases ho w' hw' hne with h | h
   ·exact .inl (zeN H V hK hw'.1 hw.1 hw'.2.2.2 hw.2.2.2 hw'.2.1 hw.2.1 h)
   ·exact .inr (zeN H V hK hr hw'.1 ir hw'.2.2.2 rfl hw'.2.1 h)
theorem zjR (H : H21 l) (V : ∀ c ∈ K, VO l c) (hK : ∀ i, i < l.length → (nth l i).key ∈ K) {i k : Nat} (hi : i < l.length) (hk : k < l.length) (ii : zW l i = true) (ik : zW l k = true) (e : zbU l K i = zbU l K k) : i = k := by
 have E := Yr H V hK
 have mi := zX.2 ⟨hi, ii⟩
 have mk := zX.2 ⟨hk, ik⟩
 have := Xf (E.mem (xw mi)) (E.mem (xw mk)) e
 exact Xf mi mk this
end
end Go.Proofs.Ytbeebjdnapkhhaa
/-
 linear.Check's verdict, in plain Lean.
-/
namespace Go.Proofs.Ytbeebjdnapkhhaa
set_option linter.unusedVariables false

theorem zaD {l : List OpV} (h : xF l = 0) : l.length ≤ 300 ∧ ∀ j, j < l.length → zbZ l j = 0 := by
 unfold xF at h
 split at h
 ·cases h
 ·refine ⟨by omega, fun j hj => ?_⟩
  have key : ∀ (n k : Nat), ya l k n = 0 → ∀ j, k ≤ j → j < k + n → zbZ l j = 0 := by
   intro n
   induction n with
   | zero => intro k _ j h1 h2; omega
   | succ n ih =>
    intro k hk j h1 h2
    unfold ya at hk
    split at hk
    ·rename_i he
     rcases Nat.eq_or_lt_of_le h1 with e | e
     ·rw [← e]; exact he
     ·exact ih (k + 1) hk j e (by omega)
    ·rename_i he; exact absurd hk he
  exact key l.length 0 h j (Nat.zero_le _) (by omega)
theorem zbf {l : List OpV} (h : xF l = 0) {j : Nat} (hj : j < l.length) : wfB (nth l j) = true ∧ (0 < j → (nth l (j - 1)).call < (nth l j).call) := by
 have := (zaD h).2 j hj
 unfold zbZ at this
 by_cases hw : wfB (nth l j) = false
 ·rw [if_pos hw] at this; cases this
 ·rw [if_neg hw] at this
  refine ⟨by simpa using hw, fun h0 => ?_⟩
  by_cases hc : 0 < j ∧ (nth l j).call ≤ (nth l (j - 1)).call
  ·rw [if_pos hc] at this; cases this
  ·omega
theorem zb8 {l : List OpV} (h : xF l = 0) {i : Nat} : ∀ {d : Nat}, i + d + 1 < l.length → (nth l i).call < (nth l (i + d + 1)).call
 | 0, hd => (zbf h hd).2 (by omega)
 | d + 1, hd => by
  have h1 := zb8 h (i := i) (d := d) (by omega)
  have h2 := (zbf h hd).2 (by omega)
  rw [show i + (d + 1) + 1 - 1 = i + d + 1 by omega] at h2
  omega
theorem VJ {l : List OpV} (h : xF l = 0) (D : yq l) : H21 l where
 dom := D
 ord i j hi hj hc := by
  refine Nat.lt_of_not_le fun hle => ?_
  rcases Nat.lt_or_eq_of_le hle with h2 | h2
  ·have := zb8 h (i := j) (d := i - j - 1) (by omega)
   rw [show j + (i - j - 1) + 1 = i by omega] at this
   omega
  ·subst h2; omega
 wf i hi := by
  have := (zbf h hi).1
  simp only [wfB, Bool.and_eq_true, decide_eq_true_eq] at this
  omega
theorem zhG {l : List OpV} {c : Int} : (UW l c).cls = 0 ↔ VO l c := by
 unfold UW
 cases h1 : (List.range l.length).find? (zaA l c) with
 | some i =>
  rw [List.find?_range_eq_some] at h1
  refine ⟨fun h => (by cases h), fun V => ?_⟩
  have := h1.1
  unfold zaA at this
  rw [Bool.and_eq_true, decide_eq_true_eq] at this
  rw [V.thin i (List.mem_range.1 h1.2.1) this.1] at this
  cases this.2
 | none =>
  dsimp only
  cases h2 : (List.range l.length).find? (ZM l c) with
  | some i =>
   rw [List.find?_range_eq_some] at h2
   refine ⟨fun h => (by cases h), fun V => ?_⟩
   have := h2.1
   unfold ZM at this
   rw [Bool.and_eq_true, decide_eq_true_eq] at this
   rw [V.early i (List.mem_range.1 h2.2.1) this.1] at this
   cases this.2
  | none =>
   dsimp only
   by_cases h3 : zds l c = []
   ·rw [if_pos h3]
    refine ⟨fun _ => ⟨fun i hi hk => ?_, fun i hi hk => ?_, h3⟩, fun _ => rfl⟩
    ·have := List.find?_eq_none.1 h1 i (List.mem_range.2 hi)
     unfold zaA at this
     rw [decide_eq_true hk, Bool.true_and] at this
     simpa using this
    ·have := List.find?_eq_none.1 h2 i (List.mem_range.2 hi)
     unfold ZM at this
     rw [decide_eq_true hk, Bool.true_and] at this
     simpa using this
   ·rw [if_neg h3]
    exact ⟨fun h => (by cases h), fun V => absurd V.conf h3⟩
def zfR (l : List OpV) : Option Int := (yK l).find? fun c => decide ((UW l c).cls ≠ 0)
structure zkb where
 cls : Int
 arg : Int
 ord : List Nat
 ed : List (Nat × Nat)
noncomputable def zfk (l : List OpV) : zkb :=
 match zfR l with
 | some c => ⟨(UW l c).cls, c, (UW l c).ord, (UW l c).ed⟩
 | none => ⟨0, 0, Uo l (yK l), []⟩
theorem Wv {l : List OpV} : zfR l = none ↔ ∀ c ∈ yK l, VO l c := by
 unfold zfR
 rw [List.find?_eq_none]
 constructor
 ·intro h c hc
  have := h c hc
  exact zhG.1 (by simpa using this)
 ·intro h c hc
  have := zhG.2 (h c hc)
  simpa using this
theorem zjV {l : List OpV} {i : Nat} (hi : i < (yK l).length) (h : ∀ j, j < i → (UW l (nth (yK l) j)).cls = 0) (h2 : (UW l (nth (yK l) i)).cls ≠ 0) : zfR l = some (nth (yK l) i) := by
 unfold zfR
 rw [List.find?_eq_some_iff_getElem]
 refine ⟨by simpa using h2, i, hi, (zi hi).symm, fun j hj => ?_⟩
 have := h j hj
 rw [zi (by omega)] at this
 simpa using this
theorem zcy (l : List OpV) : ∀ i, i < l.length → (nth l i).key ∈ yK l := fun i hi => (ZO l _).2 ⟨_, zn hi, rfl⟩
theorem zfl {l : List OpV} : (zfk l).cls = 0 ↔ ∀ c ∈ yK l, VO l c := by
 unfold zfk
 rw [← Wv]
 cases h : zfR l with
 | none => exact ⟨fun _ => rfl, fun _ => rfl⟩
 | some c =>
  refine ⟨fun h2 => ?_, fun h2 => (by cases h2)⟩
  exfalso
  unfold zfR at h
  have := List.find?_some h
  simp at this
  exact this h2
end Go.Proofs.Ytbeebjdnapkhhaa
/-
 The reference's verdict of layer 21, in plain Lean: it is the program's.
-/
namespace Go.Proofs.Ytbeebjdnapkhhaa
set_option linter.unusedVariables false

section
variable {l : List OpV} {c : Int}
end
end Go.Proofs.Ytbeebjdnapkhhaa
/-
 Linearizations as lists, in plain Lean: the reference's and the program's way to decide them; one exists where the verdict holds.
-/
namespace Go.Proofs.Ytbeebjdnapkhhaa
set_option linter.unusedVariables false

def zb0 (l : List OpV) (key x : Int) : Bool := decide ((nth l x.toNat).key = key) && decide ((nth l x.toNat).k = 1)
def Vx (l : List OpV) (key : Int) (o : List Int) : Int := o.foldl (fun v x => if zb0 l key x = true then (nth l x.toNat).arg else v) 0
theorem zdf (l : List OpV) (key : Int) (o : List Int) (x : Int) : Vx l key (o ++ [x]) = if zb0 l key x = true then (nth l x.toNat).arg else Vx l key o := by
 unfold Vx; rw [List.foldl_append]; rfl
theorem Ww (l : List OpV) (key : Int) (o : List Int) : ∀ i, i ≤ o.length → (Vx l key (o.take i) = 0 ∧ ∀ j, j < i → zb0 l key (nth o j) = false) ∨
  ∃ j, j < i ∧ zb0 l key (nth o j) = true ∧ Vx l key (o.take i) = (nth l (nth o j).toNat).arg ∧ ∀ q, j < q → q < i → zb0 l key (nth o q) = false
 | 0, _ => .inl ⟨rfl, fun j hj => by omega⟩
 | i + 1, hi => by
  rw [xu (show i < o.length by omega), zdf]
  by_cases h : zb0 l key (nth o i) = true
  ·rw [if_pos h]
   exact .inr ⟨i, by omega, h, rfl, fun q h1 h2 => by omega⟩
  ·rw [if_neg h]
   have h' : zb0 l key (nth o i) = false := by simpa using h
   rcases Ww l key o i (by omega) with ⟨h1, h2⟩ | ⟨j, h1, h2, h3, h4⟩
   ·refine .inl ⟨h1, fun j hj => ?_⟩
    by_cases e : j = i
    ·subst e; exact h'
    ·exact h2 j (by omega)
   ·refine .inr ⟨j, by omega, h2, h3, fun q q1 q2 => ?_⟩
    by_cases e : q = i
    ·subst e; exact h'
    ·exact h4 q q1 (by omega)
structure zj0 (l : List OpV) (o : List Int) : Prop where
 rng : ∀ x ∈ o, 0 ≤ x ∧ x < l.length
 nd : o.Nodup
 inc : ∀ x ∈ o, zW l x.toNat = true
 all : ∀ v : Nat, v < l.length → zW l v = true → (v : Int) ∈ o
 val : ∀ i, i < o.length → (nth l (nth o i).toNat).k = 1 ∨ Vx l (nth l (nth o i).toNat).key (o.take i) = (nth l (nth o i).toNat).res
 rt : ∀ i j, i < o.length → j < i → bef l (nth o i).toNat (nth o j).toNat = false
theorem zjF {o : List Int} (h : o.Nodup) {i j : Nat} (hi : i < o.length) (hj : j < o.length) (e : nth o i = nth o j) : i = j := by
 rw [zi hi, zi hj] at e
 exact (List.getElem_inj h).1 e
def zfZ (o : List Int) (i : Nat) : Nat := o.idxOf (i : Int)
theorem zbF {o : List Int} {i : Nat} (h : (i : Int) ∈ o) : zfZ o i < o.length := List.idxOf_lt_length_of_mem h
theorem yY {o : List Int} {i : Nat} (h : (i : Int) ∈ o) : nth o (zfZ o i) = i := by rw [zi (zbF h)]; exact List.getElem_idxOf _
section
variable {l : List OpV} {o : List Int}
theorem Ul (D : yq l) {x : Nat} {c : Int} (hx : x < l.length) (hi : zW l x = true) : zb0 l c (x : Int) = true ↔ wrI l c x := by
 unfold zb0 wrI
 rw [Int.toNat_natCast, Bool.and_eq_true, decide_eq_true_eq, decide_eq_true_eq]
 exact ⟨fun h => ⟨hx, h.1, h.2, hi⟩, fun h => ⟨h.2.1, h.2.2.1⟩⟩
theorem zj0.tau (D : yq l) (hw : ∀ i, i < l.length → (nth l i).call < (nth l i).ret) (h : zj0 l o) : zkc l (zfZ o) := by
 have hm : ∀ i, i < l.length → zW l i = true → (i : Int) ∈ o := h.all
 have hcan : ∀ q, q < o.length → ∃ x : Nat, nth o q = x ∧ x < l.length ∧ zW l x = true ∧ zfZ o x = q := fun q hq => by
  have hr := h.rng _ (zn hq)
  refine ⟨(nth o q).toNat, by omega, by omega, h.inc _ (zn hq), ?_⟩
  have e : (((nth o q).toNat : Nat) : Int) = nth o q := by omega
  have hmem : (((nth o q).toNat : Nat) : Int) ∈ o := by rw [e]; exact zn hq
  exact zjF h.nd (zbF hmem) hq (by rw [yY hmem, e])
 refine ⟨fun i k hi hk ii ik hb => ?_, fun r hr h0 hd => ?_⟩
 ·have mi := hm i hi ii
  have mk := hm k hk ik
  refine Nat.lt_of_not_le fun hle => ?_
  rcases Nat.lt_or_eq_of_le hle with h2 | h2
  ·have := h.rt _ _ (zbF mi) h2
   rw [yY mi, yY mk, Int.toNat_natCast, Int.toNat_natCast, hb] at this
   cases this
  ·have e : ((k : Int)) = i := by rw [← yY mk, h2, yY mi]
   have : k = i := by omega
   subst this
   have := zbe hw hk hb
   omega
 ·have ir := ZR (l := l) hd
  have mr := hm r hr ir
  have hp := zbF mr
  have hv := h.val _ hp
  rw [yY mr, Int.toNat_natCast] at hv
  have hv := hv.resolve_left (by omega)
  rcases Ww l (nth l r).key o (zfZ o r) (by omega) with ⟨h1, h2⟩ | ⟨j, h1, h2, h3, h4⟩
  ·refine .inl ⟨by rw [← hv, h1], fun w hw => ?_⟩
   have mw := hm w hw.1 hw.2.2.2
   refine Nat.le_of_not_lt fun hlt => ?_
   have := h2 _ hlt
   rw [yY mw, (Ul D hw.1 hw.2.2.2).2 hw] at this
   cases this
  ·obtain ⟨w, e, w1, w2, w3⟩ := hcan j (by omega)
   rw [e, Ul D w1 w2] at h2
   rw [e, Int.toNat_natCast] at h3
   refine .inr ⟨w, h2, by rw [← h3, hv], by omega, fun w' hw' hne => ?_⟩
   have mw' := hm w' hw'.1 hw'.2.2.2
   have hne2 : zfZ o w' ≠ j := fun e2 => hne (by
    have e3 := yY mw'
    rw [e2, e] at e3
    omega)
   by_cases hq : zfZ o w' < zfZ o r
   ·left
    rw [w3]
    refine Nat.lt_of_not_le fun hle => ?_
    have := h4 _ (by omega) hq
    rw [yY mw', (Ul D hw'.1 hw'.2.2.2).2 hw'] at this
    cases this
   ·right
    have : zfZ o w' ≠ zfZ o r := fun e2 => by
     have e3 := yY mw'
     rw [e2, yY mr] at e3
     have : w' = r := by omega
     subst this
     have := hw'.2.2.1
     omega
    omega
theorem zj0.inj (h : zj0 l o) {i k : Nat} (hi : i < l.length) (hk : k < l.length) (ii : zW l i = true) (ik : zW l k = true) (e : zfZ o i = zfZ o k) : i = k := by
 have e1 := yY (h.all i hi ii)
 rw [e, yY (h.all k hk ik)] at e1
 omega
def Zp (L : List Nat) : List Int := L.map fun n : Nat => (n : Int)
theorem XS {L : List Nat} {i : Nat} (h : i < L.length) : nth (Zp L) i = ((nth L i : Nat) : Int) := by
 unfold Zp
 rw [zi (by simpa using h), zi h, List.getElem_map]
theorem VH (L : List Nat) : (Zp L).length = L.length := by simp [Zp]
end
def zkm (l : List OpV) (o : List Int) (i : Int) : Bool := zW l i.toNat && (!zlc o i && (!(o.any fun k => bef l i.toNat k.toNat) && (decide ((nth l i.toNat).k = 1) || decide (Vx l (nth l i.toNat).key o = (nth l i.toNat).res))))
def zhC (l : List OpV) (o : List Int) (n : Nat) : Bool := (decide (0 ≤ nth o n) && decide (nth o n < l.length)) && zkm l (o.take n) (nth o n)
section
variable {l : List OpV}
theorem zj0.len {o : List Int} (h : zj0 l o) : o.length = (yF l).length := by
 have e : (Zp (yF l)).length = (yF l).length := VH _
 rw [← e]
 refine Nat.le_antisymm (ZW h.nd fun x hx => ?_) (ZW ?_ fun x hx => ?_)
 ·have h1 := h.rng x hx
  exact List.mem_map.2 ⟨x.toNat, zX.2 ⟨by omega, h.inc x hx⟩, by omega⟩
 ·unfold Zp List.Nodup
  rw [List.pairwise_map]
  exact (zgI l).imp fun h e => h (by omega)
 ·obtain ⟨n, hn, rfl⟩ := List.mem_map.1 hx
  have := zX.1 hn
  exact h.all n this.1 this.2
def zkT (l : List OpV) (o : List Int) : Prop := ∀ n, n < o.length → zhC l o n = true
theorem ziP {o o2 : List Int} {n : Nat} (hn : n < o.length) : zhC l (o ++ o2) n = zhC l o n := by
 have e1 : nth (o ++ o2) n = nth o n := by rw [zi (by simp; omega), zi hn, List.getElem_append_left hn]
 have e2 : (o ++ o2).take n = o.take n := List.take_append_of_le_length (by omega)
 unfold zhC
 rw [e1, e2]
theorem zkT.add {o : List Int} (h : zkT l o) {i : Nat} (hi : i < l.length) (hf : zkm l o (i : Int) = true) : zkT l (o ++ [(i : Int)]) := fun n hn => by
 by_cases e : n = o.length
 ·subst e
  have e1 : nth (o ++ [(i : Int)]) o.length = i := by rw [zi (by simp)]; simp
  unfold zhC
  rw [e1, List.take_left, hf, decide_eq_true (show (0 : Int) ≤ i by omega), decide_eq_true (show (i : Int) < l.length by omega)]
  rfl
 ·rw [ziP (by simp at hn; omega)]
  exact h n (by simp at hn; omega)
end
end Go.Proofs.Ytbeebjdnapkhhaa
