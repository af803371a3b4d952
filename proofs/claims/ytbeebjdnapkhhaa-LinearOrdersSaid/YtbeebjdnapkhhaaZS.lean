/-
  Some texts as one: LinSeq, LinGlob, LinChk, LinRef, LinOrder.
-/
import Derived.Test.YtbeebjdnapkhhaaZLinClus
import Derived.Test.YtbeebjdnapkhhaaZQ
import Derived.Test.YtbeebjdnapkhhaaZG
/-
 The order of a key's operations (linear.sequence), in plain Lean: the clusters of a key without violations, one after the other.
-/
namespace Go.Proofs.Ytbeebjdnapkhhaa
set_option linter.unusedVariables false

section
variable {l : List OpV}
theorem zeZ {c : List Nat} : ∀ {k : Nat}, k ≤ c.length → ∀ j, j < k → Yg (nth l (zaK l c k)) ≤ Yg (nth l (nth c j))
 | 0, _, j, hj => by omega
 | k + 1, hk, j, hj => by
  rw [WT (by omega)]
  unfold zkS
  by_cases hjk : j = k
  ·subst hjk
   split
   ·exact Int.le_refl _
   ·omega
  ·have := zeZ (c := c) (k := k) (by omega) j (by omega)
   split
   ·omega
   ·exact this
theorem zfg {c : List Nat} : ∀ {k : Nat}, k ≤ c.length → ∀ j, j < k → (nth l (nth c j)).call ≤ (nth l (zb6 l c k)).call
 | 0, _, j, hj => by omega
 | k + 1, hk, j, hj => by
  rw [WX (by omega)]
  unfold zkV
  by_cases hjk : j = k
  ·subst hjk
   split
   ·exact Int.le_refl _
   ·omega
  ·have := zfg (c := c) (k := k) (by omega) j (by omega)
   split
   ·omega
   ·exact this
theorem zg4 {c : List Nat} {i : Nat} (h : i ∈ c) : Vo l c ≤ Yg (nth l i) := by
 obtain ⟨j, hj, e⟩ := List.getElem_of_mem h
 have := zeZ (l := l) (Nat.le_refl c.length) j hj
 rw [Uv, zh hj, e] at this
 exact this
theorem zin {c : List Nat} {i : Nat} (h : i ∈ c) : (nth l i).call ≤ VS l c := by
 obtain ⟨j, hj, e⟩ := List.getElem_of_mem h
 have := zfg (l := l) (Nat.le_refl c.length) j hj
 rw [UR, zh hj, e] at this
 exact this
theorem zcM {c : List Nat} (h0 : 0 < c.length) : Xc l c ∈ c := by rw [← Uv]; exact Uw h0 (Nat.le_refl _)
theorem zdf {c : List Nat} (h0 : 0 < c.length) : XJ l c ∈ c := by rw [← UR]; exact US h0 (Nat.le_refl _)
end

def zji (l : List OpV) (x y : ClV) : Bool := x.ini || decide (Vo l x.ops < VS l y.ops)
def ziE (l : List OpV) (C : List ClV) (i k : Nat) : Prs := ((List.range k).filter fun k => decide (i ≠ k) && zji l (nth C i) (nth C k)).map fun k => (i, k)
def zhM (l : List OpV) (C : List ClV) (i : Nat) : Prs := (List.range i).flatMap fun i => ziE l C i C.length
def zgc (l : List OpV) (C : List ClV) : Prs := zhM l C C.length
theorem zhL (l : List OpV) (C : List ClV) (i k : Nat) : ziE l C i (k + 1) = ziE l C i k ++ if (decide (i ≠ k) && zji l (nth C i) (nth C k)) = true then [(i, k)] else [] := by
 unfold ziE
 rw [List.range_succ, List.filter_append, List.map_append]
 congr 1
 by_cases h : (decide (i ≠ k) && zji l (nth C i) (nth C k)) = true
 ·rw [if_pos h, List.filter_cons_of_pos (by exact h)]; rfl
 ·rw [if_neg h, List.filter_cons_of_neg (by exact h)]; rfl
theorem zdn (l : List OpV) (C : List ClV) (i : Nat) : zhM l C (i + 1) = zhM l C i ++ ziE l C i C.length := by
 unfold zhM
 rw [List.range_succ, List.flatMap_append]
 simp
theorem zfo (l : List OpV) (C : List ClV) (i k : Nat) : (ziE l C i k).length ≤ k := by
 unfold ziE
 rw [List.length_map]
 exact Nat.le_trans (List.length_filter_le _ _) (by simp)
theorem zcd (l : List OpV) (C : List ClV) : ∀ i, (zhM l C i).length ≤ i * C.length
 | 0 => by simp [zhM]
 | i + 1 => by
  rw [zdn, List.length_append]
  have := zcd l C i
  have := zfo l C i C.length
  rw [Nat.succ_mul]; omega
theorem zcc {l : List OpV} {C : List ClV} {i k : Nat} : (i, k) ∈ zgc l C ↔ i < C.length ∧ k < C.length ∧ i ≠ k ∧ zji l (nth C i) (nth C k) = true := by
 unfold zgc zhM
 rw [List.mem_flatMap]
 constructor
 ·rintro ⟨i', h1, h2⟩
  unfold ziE at h2
  obtain ⟨k', h3, h4⟩ := List.mem_map.1 h2
  obtain ⟨h5, h6⟩ := List.mem_filter.1 h3
  simp only [Prod.mk.injEq] at h4
  obtain ⟨rfl, rfl⟩ := h4
  simp only [Bool.and_eq_true, decide_eq_true_eq] at h6
  exact ⟨List.mem_range.1 h1, List.mem_range.1 h5, h6.1, h6.2⟩
 ·rintro ⟨h1, h2, h3, h4⟩
  refine ⟨i, List.mem_range.2 h1, List.mem_map.2 ⟨k, List.mem_filter.2 ⟨List.mem_range.2 h2, ?_⟩, rfl⟩⟩
  rw [decide_eq_true h3, h4]; rfl
theorem ZG {l : List OpV} {x y : ClV} : YZ l x y = [] ↔ VS l x.ops ≤ Vo l y.ops ∨ (x.ini = false ∧ VS l y.ops ≤ Vo l x.ops) := by
 unfold YZ
 by_cases h1 : Vo l y.ops ≥ VS l x.ops
 ·rw [if_pos h1]; exact ⟨fun _ => .inl h1, fun _ => rfl⟩
 ·rw [if_neg h1]
  by_cases h2 : x.ini = true
  ·rw [if_pos h2, h2]
   constructor
   ·intro h; cases h
   ·rintro (h | h)
    ·exact absurd h h1
    ·cases h.1
  ·rw [if_neg h2]
   by_cases h3 : Vo l x.ops < VS l y.ops
   ·rw [if_pos h3]
    constructor
    ·intro h; cases h
    ·rintro (h | h)
     ·exact absurd h h1
     ·omega
   ·rw [if_neg h3]
    exact ⟨fun _ => .inr ⟨by simpa using h2, by omega⟩, fun _ => rfl⟩
def rkC (l : List OpV) (x : ClV) : Nat := if x.ini = true then 0 else 1 + 2 * (min (Vo l x.ops) (VS l x.ops)).toNat + if Vo l x.ops < VS l x.ops then 1 else 0
theorem zjk {l : List OpV} {C : List ClV} (hC : ∀ a j, a < j → j < C.length → YZ l (nth C a) (nth C j) = []) (hini : ∀ j, j < C.length → (nth C j).ini = true → j = 0)
  (h0 : ∀ j, j < C.length → 0 ≤ Vo l (nth C j).ops ∧ 0 ≤ VS l (nth C j).ops) : ∀ e ∈ zgc l C, rkC l (nth C e.1) < rkC l (nth C e.2) := by
 rintro ⟨i, k⟩ he
 obtain ⟨hi, hk, hne, hp⟩ := zcc.1 he
 dsimp only
 unfold zji at hp
 rw [Bool.or_eq_true, decide_eq_true_eq] at hp
 have kini : (nth C k).ini = true → False := fun h => by
  have e := hini k hk h
  have := ZG.1 (hC k i (by omega) hi)
  rw [h] at this
  rcases this with h1 | h1
  ·rcases hp with h2 | h2
   ·have := hini i hi h2; omega
   ·omega
  ·cases h1.1
 have kf : (nth C k).ini = false := by
  cases h : (nth C k).ini with
  | false => rfl
  | true => exact (kini h).elim
 unfold rkC
 rw [kf, if_neg (show ¬ false = true by decide)]
 cases hii : (nth C i).ini with
 | true => rw [if_pos rfl]; omega
 | false =>
  rw [if_neg (by decide)]
  have hp : Vo l (nth C i).ops < VS l (nth C k).ops := hp.resolve_left (by rw [hii]; decide)
  have hnc : VS l (nth C i).ops ≤ Vo l (nth C k).ops := by
   rcases Nat.lt_or_gt_of_ne hne with h | h
   ·rcases ZG.1 (hC i k h hk) with h1 | h1
    ·exact h1
    ·omega
   ·rcases ZG.1 (hC k i h hi) with h1 | h1
    ·omega
    ·exact h1.2
  obtain ⟨i1, i2⟩ := h0 i hi
  obtain ⟨k1, k2⟩ := h0 k hk
  split <;> split <;> omega
theorem zj8.mem {R : Nat → Nat → Bool} {n : Nat} {L : List Nat} (h : zj8 R n L) {b : Nat} (hb : b < n) : b ∈ L := by
 refine Classical.byContradiction fun hno => ?_
 have key : ∀ (l m : List Nat), l.Nodup → (∀ x ∈ l, x ∈ m) → l.length ≤ m.length := by
  intro l
  induction l with
  | nil => intro m _ _; exact Nat.zero_le _
  | cons x l ih =>
   intro m hn hs
   obtain ⟨h1, h2⟩ := List.nodup_cons.1 hn
   have hx := hs x (by simp)
   have hl := List.length_erase_of_mem hx
   have hpos : 0 < m.length := List.length_pos_of_mem hx
   have := ih (m.erase x) h2 fun y hy => (List.mem_erase_of_ne (fun e : y = x => h1 (by rw [← e]; exact hy))).2 (hs y (by simp [hy]))
   rw [List.length_cons]
   omega
 have hs := key L ((List.range n).erase b) h.nd fun x hx => (List.mem_erase_of_ne (fun e : x = b => hno (by rw [← e]; exact hx))).2 (List.mem_range.2 (h.rng x hx))
 rw [List.length_erase_of_mem (List.mem_range.2 hb), List.length_range, h.len] at hs
 omega
def YJ (L : List Nat) (x : Nat) : Nat := L.idxOf x
theorem xV {L : List Nat} {x : Nat} (h : x ∈ L) : YJ L x < L.length := List.idxOf_lt_length_of_mem h
theorem yq {L : List Nat} {x : Nat} (h : x ∈ L) : nth L (YJ L x) = x := by
 rw [zh (xV h)]
 exact List.getElem_idxOf _
theorem zaa {L : List Nat} (hn : L.Nodup) {i : Nat} (hi : i < L.length) : YJ L (nth L i) = i := by
 rw [zh hi]
 exact hn.idxOf_getElem i hi
theorem YK {L : List Nat} {x y : Nat} (hx : x ∈ L) (hy : y ∈ L) (e : YJ L x = YJ L y) : x = y := by
 rw [← yq hx, e, yq hy]
theorem zj8.lt {R : Nat → Nat → Bool} {n : Nat} {L : List Nat} (h : zj8 R n L) {a b : Nat} (ha : a < n) (hb : b < n) (hr : R a b = true) : YJ L a < YJ L b := by
 have ma := h.mem ha
 have mb := h.mem hb
 have := h.ord (YJ L a) (YJ L b) (by rw [← h.len]; exact xV ma) (by rw [← h.len]; exact xV mb)
 rw [yq ma, yq mb] at this
 exact this hr
structure VO (l : List OpV) (c : Int) : Prop where
 thin : ∀ i, i < l.length → (nth l i).key = c → zcn l i = false
 early : ∀ i, i < l.length → (nth l i).key = c → za6 l i = false
 conf : zaG l c = []
def nCl (l : List OpV) (c : Int) : Nat := (yD l c).length
noncomputable def zg3 (l : List OpV) (c : Int) : List Nat := yH (xh (zgc l (yD l c))) (nCl l c) (nCl l c)
noncomputable def YU (l : List OpV) (c : Int) : List Nat := (zg3 l c).flatMap fun j => (nth (yD l c) j).ops
def zdX (l : List OpV) (c : Int) (i : Nat) : Nat := ((List.range (nCl l c)).find? fun j => decide (Yh l c j = VG (nth l i))).getD 0
noncomputable def spL (l : List OpV) (c : Int) (i : Nat) : Nat := YJ (zg3 l c) (zdX l c i) * (l.length + 2) + if (nth l i).k = 1 then 0 else i + 1
section
variable {l : List OpV} {c : Int}
theorem zbL {j : Nat} (hj : j < (yD l c).length) : (nth (yD l c) j).ini = true → j = 0 ∧ zjV l c = true := by
 rw [YD] at hj
 have h1 : nth (yD l c) j = _ := XS hj
 rw [h1]
 show (nth (Yd l c l.length) j).1 = true → _
 unfold Yd at hj ⊢
 intro h
 by_cases h0 : zjV l c = true
 ·rw [if_pos h0] at h hj
  refine ⟨Classical.byContradiction fun hne => ?_, h0⟩
  obtain ⟨j, rfl⟩ : ∃ j', j = j' + 1 := ⟨j - 1, by omega⟩
  simp only [List.length_append, List.length_cons, List.length_nil] at hj
  rw [zh (by simp at hj ⊢; omega)] at h
  simp at h
 ·rw [if_neg h0] at h hj
  rw [List.nil_append] at h hj
  rw [zh hj] at h
  simp at h
theorem Uj (D : ya l) {j k : Nat} (hj : j < nCl l c) (hk : k < nCl l c) (e : Yh l c j = Yh l c k) : j = k := by
 have hn := zdI (c := c) D (Nat.le_refl l.length)
 unfold nCl at hj hk
 rw [YD] at hj hk
 unfold Yh at e
 rw [zh hj, zh hk] at e
 refine (List.getElem_inj hn (h₀ := by simpa using hj) (h₁ := by simpa using hk)).1 ?_
 simpa using e
theorem YY (D : ya l) (V : VO l c) {i : Nat} (h1 : i < l.length) (h2 : (nth l i).key = c) (h4 : zN l i = true) : zdX l c i < nCl l c ∧ Yh l c (zdX l c i) = VG (nth l i) := by
 have hex : ∃ j, j < nCl l c ∧ Yh l c j = VG (nth l i) := by
  unfold nCl
  rw [YD]
  unfold Yh
  rcases D.kind h1 with hk | hk
  ·obtain ⟨j, j1, j2⟩ := zdH D h1 h2 hk (xE hk h4) (V.thin i h1 h2)
   exact ⟨j, j1, by rw [j2, Yv hk]⟩
  ·have hm : (false, [i], (nth l i).arg) ∈ Yd l c l.length := Zw.2 (.inr ⟨i, h1, ZN.2 ⟨h2, hk, h4⟩, rfl⟩)
   obtain ⟨j, hj, e⟩ := List.getElem_of_mem hm
   exact ⟨j, hj, by rw [zh hj, e, ZL hk]⟩
 obtain ⟨j, j1, j2⟩ := hex
 unfold zdX
 cases hf : (List.range (nCl l c)).find? fun j => decide (Yh l c j = VG (nth l i)) with
 | none =>
  have := List.find?_eq_none.1 hf j (List.mem_range.2 j1)
  rw [j2] at this
  simp at this
 | some z =>
  rw [List.find?_range_eq_some] at hf
  exact ⟨List.mem_range.1 hf.2.1, by simpa using hf.1⟩
theorem zke (D : ya l) (V : VO l c) {j i : Nat} (hj : j < nCl l c) (hi : i ∈ (nth (yD l c) j).ops) : zdX l c i = j := by
 obtain ⟨h1, h2, h3, h4⟩ := (yQ D hj).1 hi
 obtain ⟨c1, c2⟩ := YY D V h1 h2 h4
 exact Uj D c1 hj (by rw [c2, h3])
theorem Un (D : ya l) (hw : ∀ i, i < l.length → 0 ≤ (nth l i).call ∧ (nth l i).call < (nth l i).ret) (V : VO l c) : (∀ e ∈ zgc l (yD l c), rkC l (nth (yD l c) e.1) < rkC l (nth (yD l c) e.2)) ∧ zj8 (xh (zgc l (yD l c))) (nCl l c) (zg3 l c) := by
 have h := zjk (l := l) (C := yD l c) (fun a j haj hj => zdV.1 V.conf a (by omega) (by omega) j haj hj) (fun j hj h => (zbL hj h).1) (fun j hj => by
  have h0 := Ui D hj
  have m1 := (yQ D hj).1 (zcM (l := l) h0)
  have m2 := (yQ D hj).1 (zdf (l := l) h0)
  have w1 := hw _ m1.1
  have w2 := hw _ m2.1
  refine ⟨?_, w2.1⟩
  unfold Vo Yg
  split <;> omega)
 exact ⟨h, zeU (ZV (f := fun j => rkC l (nth (yD l c) j)) h)⟩
theorem xy (D : ya l) (hw : ∀ i, i < l.length → 0 ≤ (nth l i).call ∧ (nth l i).call < (nth l i).ret) (V : VO l c) {i : Nat} : i ∈ YU l c ↔ i < l.length ∧ (nth l i).key = c ∧ zN l i = true := by
 obtain ⟨_, E⟩ := Un D hw V
 unfold YU
 rw [List.mem_flatMap]
 constructor
 ·rintro ⟨j, hj, hi⟩
  obtain ⟨h1, h2, h3, h4⟩ := (yQ D (E.rng j hj)).1 hi
  exact ⟨h1, h2, h4⟩
 ·rintro ⟨h1, h2, h4⟩
  obtain ⟨c1, c2⟩ := YY D V h1 h2 h4
  exact ⟨_, E.mem c1, (yQ D c1).2 ⟨h1, h2, c2.symm, h4⟩⟩
theorem zft (D : ya l) (V : VO l c) {j i : Nat} (hj : j < nCl l c) (hi : i ∈ (nth (yD l c) j).ops) : spL l c i = YJ (zg3 l c) j * (l.length + 2) + if (nth l i).k = 1 then 0 else i + 1 := by
 unfold spL
 rw [zke D V hj hi]
theorem zao {i : Nat} (h : i < l.length) : (if (nth l i).k = 1 then 0 else i + 1) < l.length + 2 := by split <;> omega
theorem zil {a b B x y : Nat} (h : a < b) (hx : x < B) : a * B + x < b * B + y := by
 have := Nat.mul_le_mul_right B (show a + 1 ≤ b by omega)
 rw [Nat.succ_mul] at this
 omega
theorem zak (D : ya l) (hw : ∀ i, i < l.length → 0 ≤ (nth l i).call ∧ (nth l i).call < (nth l i).ret) (V : VO l c) : (YU l c).Pairwise fun a b => spL l c a < spL l c b := by
 obtain ⟨_, E⟩ := Un D hw V
 unfold YU
 rw [List.pairwise_flatMap]
 constructor
 ·intro j hj
  have hjn := E.rng j hj
  have hrd : ∀ v, (YQ l c v l.length).Pairwise fun a b => a < b ∧ (nth l a).k = 0 ∧ (nth l b).k = 0 := fun v => by
   have h1 : (YQ l c v l.length).Pairwise fun a b => a < b := List.pairwise_lt_range.sublist List.filter_sublist
   refine h1.imp_of_mem fun ha hb hab => ⟨hab, ?_, ?_⟩
   ·exact (yI.1 (Xn.1 ha).2).1
   ·exact (yI.1 (Xn.1 hb).2).1
  have hp : (nth (yD l c) j).ops.Pairwise fun a b => (if (nth l a).k = 1 then 0 else a + 1) < if (nth l b).k = 1 then 0 else b + 1 := by
   rcases ZF hjn with ⟨h0, h1, h2⟩ | ⟨w, w1, w2, h1, h2⟩
   ·rw [h2]
    refine (hrd 0).imp fun h => ?_
    rw [if_neg (by omega), if_neg (by omega)]; omega
   ·rw [h2]
    refine List.pairwise_cons.2 ⟨fun b hb => ?_, (hrd _).imp fun h => ?_⟩
    ·have := (yI.1 (Xn.1 hb).2).1
     rw [if_pos (ZN.1 w2).2.1, if_neg (by omega)]; omega
    ·rw [if_neg (by omega), if_neg (by omega)]; omega
  refine hp.imp_of_mem fun ha hb h => ?_
  rw [zft D V hjn ha, zft D V hjn hb]
  omega
 ·rw [List.pairwise_iff_getElem]
  intro p q hp hq hpq x hx y hy
  have h1 := E.rng _ (List.getElem_mem hp)
  have h2 := E.rng _ (List.getElem_mem hq)
  rw [zft D V h1 hx, zft D V h2 hy]
  have e1 := zaa E.nd hp
  have e2 := zaa E.nd hq
  rw [zh hp] at e1
  rw [zh hq] at e2
  rw [e1, e2]
  exact zil hpq (zao ((yQ D h1).1 hx).1)
theorem zj1 (D : ya l) (hw : ∀ i, i < l.length → 0 ≤ (nth l i).call ∧ (nth l i).call < (nth l i).ret) (V : VO l c) {i k : Nat} (hi : i < nCl l c) (hk : k < nCl l c) (hne : i ≠ k) (h : zji l (nth (yD l c) i) (nth (yD l c) k) = true) : YJ (zg3 l c) i < YJ (zg3 l c) k :=
 (Un D hw V).2.lt hi hk (xW.2 (.one (zcc.2 ⟨hi, hk, hne, h⟩)))
theorem zkD (D : ya l) (hc : ∀ i j, i < l.length → j < l.length → (nth l i).call < (nth l j).call → i < j) (hw : ∀ i, i < l.length → 0 ≤ (nth l i).call ∧ (nth l i).call < (nth l i).ret) (V : VO l c) {i k : Nat} (hi : i ∈ YU l c) (hk : k ∈ YU l c) (hb : bef l i k = true) : spL l c i < spL l c k := by
 obtain ⟨i1, i2, i4⟩ := (xy D hw V).1 hi
 obtain ⟨k1, k2, k4⟩ := (xy D hw V).1 hk
 obtain ⟨ci, vi⟩ := YY D V i1 i2 i4
 obtain ⟨ck, vk⟩ := YY D V k1 k2 k4
 have mi := (yQ D ci).2 ⟨i1, i2, vi.symm, i4⟩
 have mk := (yQ D ck).2 ⟨k1, k2, vk.symm, k4⟩
 have hcall := zbJ (fun i h => (hw i h).2) i1 hb
 have hik := hc i k i1 k1 hcall
 have hbf := hb
 unfold bef at hbf
 simp only [Bool.and_eq_true, decide_eq_true_eq] at hbf
 unfold spL
 by_cases e : zdX l c i = zdX l c k
 ·rw [e]
  have hv : VG (nth l i) = VG (nth l k) := by rw [← vi, ← vk, e]
  rcases D.kind i1 with ki | ki
  ·rcases D.kind k1 with kk | kk
   ·rw [if_neg (by omega), if_neg (by omega)]; omega
   ·exfalso
    rw [Yv ki, ZL kk] at hv
    have he := V.early i i1 i2
    have e1 := ziu D k1 kk
    rw [k2, ← hv, ← i2] at e1
    have ha := D.arg k1 kk
    unfold za6 at he
    rw [e1, decide_eq_true ki, hbf.1, decide_eq_true (show (nth l i).res ≠ 0 by omega)] at he
    have he : bef l i k = false := by simpa using he
    rw [hb] at he
    cases he
  ·rcases D.kind k1 with kk | kk
   ·rw [if_pos ki, if_neg (by omega)]; omega
   ·exfalso
    rw [ZL ki, ZL kk] at hv
    have := D.uniq i1 k1 ki kk (i2.trans k2.symm) hv
    omega
 ·refine zil (zj1 D hw V ci ck e ?_) (zao i1)
  unfold zji
  rw [Bool.or_eq_true, decide_eq_true_eq]
  refine .inr ?_
  have h1 := zg4 (l := l) mi
  have h2 := zin (l := l) mk
  have h3 : Yg (nth l i) = (nth l i).ret := by unfold Yg; rw [hbf.1]; rfl
  omega
theorem zkC (D : ya l) (hw : ∀ i, i < l.length → 0 ≤ (nth l i).call ∧ (nth l i).call < (nth l i).ret) (V : VO l c) {r : Nat} (hr : r < l.length) (hrc : (nth l r).key = c) (h0 : (nth l r).k = 0) (hd : (nth l r).done = true) :
  ((nth l r).res = 0 ∧ ∀ w, wrI l c w → spL l c r < spL l c w) ∨ ∃ w, wrI l c w ∧ (nth l w).arg = (nth l r).res ∧ spL l c w < spL l c r ∧ ∀ w', wrI l c w' → w' ≠ w → spL l c w' < spL l c w ∨ spL l c r < spL l c w' := by
 obtain ⟨cr, vr⟩ := YY D V hr hrc (Zz hd)
 rw [Yv h0] at vr
 by_cases hz : (nth l r).res = 0
 ·refine .inl ⟨hz, fun w hwi => ?_⟩
  obtain ⟨w1, w2, w3, w4⟩ := hwi
  obtain ⟨cw, vw⟩ := YY D V w1 w2 w4
  rw [ZL w3] at vw
  have ha := D.arg w1 w3
  have hne : zdX l c r ≠ zdX l c w := fun e => by rw [e, vw] at vr; omega
  unfold spL
  refine zil (zj1 D hw V cr cw hne ?_) (zao hr)
  unfold zji
  rw [Bool.or_eq_true]
  left
  rcases ZF cr with ⟨h0, h1, h2⟩ | ⟨u, u1, u2, h1, h2⟩
  ·rw [h2]
  ·exact absurd (by rw [← h1, vr, hz]) (D.arg u1 (ZN.1 u2).2.1)
 ·have ht := V.thin r hr hrc
  unfold zcn at ht
  rw [decide_eq_true h0, hd, decide_eq_true hz] at ht
  simp only [Bool.true_and] at ht
  cases hwx : wIx l (nth l r).key (nth l r).res with
  | none => rw [hwx] at ht; cases ht
  | some w =>
   obtain ⟨w1, w2, _⟩ := Zx hwx
   rw [Yb] at w2
   obtain ⟨w2, w3, w5⟩ := w2
   have w4 := zez hr h0 hd w1 w2 w3 w5
   have wc : (nth l w).key = c := w3.trans hrc
   obtain ⟨cw, vw⟩ := YY D V w1 wc w4
   rw [ZL w2] at vw
   have hsame : zdX l c w = zdX l c r := Uj D cw cr (by rw [vw, vr, w5])
   refine .inr ⟨w, ⟨w1, wc, w2, w4⟩, w5, ?_, ?_⟩
   ·unfold spL
    rw [hsame, if_pos w2, if_neg (by omega)]; omega
   ·rintro w' ⟨x1, x2, x3, x4⟩ hne
    obtain ⟨cx, vx⟩ := YY D V x1 x2 x4
    rw [ZL x3] at vx
    have hdif : zdX l c w' ≠ zdX l c w := fun e => by
     rw [e, vw] at vx
     exact hne (D.uniq x1 w1 x3 w2 (x2.trans wc.symm) vx.symm)
    have E := (Un D hw V).2
    have hpd : YJ (zg3 l c) (zdX l c w') ≠ YJ (zg3 l c) (zdX l c w) := fun e => hdif (YK (E.mem cx) (E.mem cw) e)
    rcases Nat.lt_or_gt_of_ne hpd with h | h
    ·left; unfold spL; exact zil h (zao x1)
    ·right; unfold spL; rw [← hsame]; exact zil h (zao hr)
end
end Go.Proofs.Ytbeebjdnapkhhaa
/-
 A linearization of a history without violations (linear.linearization), in plain Lean.
-/
namespace Go.Proofs.Ytbeebjdnapkhhaa
set_option linter.unusedVariables false

def zjK (h : Nat → Nat) (L : List Nat) : Nat := L.foldr (fun x m => max (h x) m) 0
theorem zco {h : Nat → Nat} {x : Nat} : ∀ {L : List Nat}, x ∈ L → h x ≤ zjK h L
 | y :: L, hx => by
  show h x ≤ max (h y) (zjK h L)
  rcases List.mem_cons.1 hx with rfl | hx
  ·omega
  ·have := zco (h := h) hx; omega
theorem zey {h : Nat → Nat} : ∀ (L : List Nat), zjK h L = 0 ∨ ∃ x ∈ L, h x = zjK h L
 | [] => .inl rfl
 | y :: L => by
  show max (h y) (zjK h L) = 0 ∨ ∃ x ∈ y :: L, h x = max (h y) (zjK h L)
  rcases Nat.le_total (zjK h L) (h y) with hle | hle
  ·exact .inr ⟨y, by simp, by omega⟩
  ·rcases zey (h := h) L with e | ⟨x, hx, e⟩
   ·by_cases h0 : h y = 0
    ·left; omega
    ·exact .inr ⟨y, by simp, by omega⟩
   ·exact .inr ⟨x, by simp [hx], by omega⟩
theorem ZB {α : Type} [BEq α] [LawfulBEq α] : ∀ {l m : List α}, l.Nodup → (∀ x ∈ l, x ∈ m) → l.length ≤ m.length
 | [], m, _, _ => Nat.zero_le _
 | x :: l, m, hn, hs => by
  have h1 := List.nodup_cons.1 hn
  have hx := hs x (by simp)
  have hl := List.length_erase_of_mem hx
  have hpos : 0 < m.length := List.length_pos_of_mem hx
  have := ZB (m := m.erase x) h1.2 fun y hy => (List.mem_erase_of_ne (fun e : y = x => h1.1 (by rw [← e]; exact hy))).2 (hs y (by simp [hy]))
  rw [List.length_cons]
  omega
def xI (l : List OpV) : List Nat := (List.range l.length).filter (zN l)
def zdN (l : List OpV) (i : Nat) : Nat := YJ (xI l) i
def zgJ (l : List OpV) (row : List Nat) (k : Nat) : Prs := (List.range k).map fun i => (zdN l (nth row i), zdN l (nth row (i + 1)))
def zlu (l : List OpV) (row : List Nat) : Prs := zgJ l row (row.length - 1)
noncomputable def ze6 (l : List OpV) (K : List Int) : Prs := K.flatMap fun c => zlu l (YU l c)
def rtR (l : List OpV) (a k : Nat) : Prs := ((List.range k).filter fun b => bef l (nth (xI l) a) (nth (xI l) b)).map fun b => (a, b)
def rtT (l : List OpV) (a : Nat) : Prs := (List.range a).flatMap fun a => rtR l a (xI l).length
noncomputable def zhD (l : List OpV) (K : List Int) : Prs := ze6 l K ++ rtT l (xI l).length
noncomputable def ziC (l : List OpV) (K : List Int) : List Nat := yH (xh (zhD l K)) (xI l).length (xI l).length
noncomputable def Vq (l : List OpV) (K : List Int) : List Nat := (ziC l K).map fun a => nth (xI l) a
theorem zib (l : List OpV) (row : List Nat) (k : Nat) : zgJ l row (k + 1) = zgJ l row k ++ [(zdN l (nth row k), zdN l (nth row (k + 1)))] := by
 unfold zgJ; rw [List.range_succ, List.map_append]; rfl
theorem zfq (l : List OpV) (row : List Nat) (k : Nat) : (zgJ l row k).length = k := by simp [zgJ]
theorem zjy (l : List OpV) (a k : Nat) : rtR l a (k + 1) = rtR l a k ++ if bef l (nth (xI l) a) (nth (xI l) k) = true then [(a, k)] else [] := by
 unfold rtR
 rw [List.range_succ, List.filter_append, List.map_append]
 congr 1
 by_cases h : bef l (nth (xI l) a) (nth (xI l) k) = true
 ·rw [if_pos h, List.filter_cons_of_pos (by exact h)]; rfl
 ·rw [if_neg h, List.filter_cons_of_neg (by exact h)]; rfl
theorem zfr (l : List OpV) (a : Nat) : rtT l (a + 1) = rtT l a ++ rtR l a (xI l).length := by
 unfold rtT
 rw [List.range_succ, List.flatMap_append]
 simp
theorem zif (l : List OpV) (a k : Nat) : (rtR l a k).length ≤ k := by
 unfold rtR
 rw [List.length_map]
 exact Nat.le_trans (List.length_filter_le _ _) (by simp)
theorem zig (l : List OpV) : ∀ i, (rtT l i).length ≤ i * (xI l).length
 | 0 => by simp [rtT]
 | i + 1 => by
  rw [zfr, List.length_append]
  have := zig l i
  have := zif l i (xI l).length
  rw [Nat.succ_mul]; omega
theorem ym {l : List OpV} {i : Nat} : i ∈ xI l ↔ i < l.length ∧ zN l i = true := by unfold xI; rw [List.mem_filter, List.mem_range]
theorem zhv (l : List OpV) : (xI l).Nodup := List.nodup_range.sublist List.filter_sublist
theorem zhu (l : List OpV) : (xI l).length ≤ l.length := by unfold xI; exact Nat.le_trans (List.length_filter_le _ _) (by simp)
theorem xU {l : List OpV} {i : Nat} (h : i ∈ xI l) : zdN l i < (xI l).length := xV h
theorem Xw {l : List OpV} {i : Nat} (h : i ∈ xI l) : nth (xI l) (zdN l i) = i := yq h
theorem zen {l : List OpV} {a : Nat} (h : a < (xI l).length) : zdN l (nth (xI l) a) = a := zaa (zhv l) h
section
variable {l : List OpV} {K : List Int}
theorem zev {a b : Nat} : (a, b) ∈ rtT l (xI l).length ↔ a < (xI l).length ∧ b < (xI l).length ∧ bef l (nth (xI l) a) (nth (xI l) b) = true := by
 unfold rtT
 rw [List.mem_flatMap]
 constructor
 ·rintro ⟨i', h1, h2⟩
  unfold rtR at h2
  obtain ⟨k', h3, h4⟩ := List.mem_map.1 h2
  obtain ⟨h5, h6⟩ := List.mem_filter.1 h3
  simp only [Prod.mk.injEq] at h4
  obtain ⟨rfl, rfl⟩ := h4
  exact ⟨List.mem_range.1 h1, List.mem_range.1 h5, h6⟩
 ·rintro ⟨h1, h2, h3⟩
  exact ⟨a, List.mem_range.2 h1, List.mem_map.2 ⟨b, List.mem_filter.2 ⟨List.mem_range.2 h2, h3⟩, rfl⟩⟩
theorem VM {x : Nat × Nat} : x ∈ ze6 l K ↔ ∃ c ∈ K, ∃ i, i + 1 < (YU l c).length ∧ x = (zdN l (nth (YU l c) i), zdN l (nth (YU l c) (i + 1))) := by
 unfold ze6 zlu zgJ
 rw [List.mem_flatMap]
 constructor
 ·rintro ⟨c, hc, h⟩
  obtain ⟨i, hi, e⟩ := List.mem_map.1 h
  exact ⟨c, hc, i, by have := List.mem_range.1 hi; omega, e.symm⟩
 ·rintro ⟨c, hc, i, hi, e⟩
  exact ⟨c, hc, List.mem_map.2 ⟨i, List.mem_range.2 (by omega), e.symm⟩⟩
structure H21 (l : List OpV) : Prop where
 dom : ya l
 ord : ∀ i j, i < l.length → j < l.length → (nth l i).call < (nth l j).call → i < j
 wf : ∀ i, i < l.length → 0 ≤ (nth l i).call ∧ (nth l i).call < (nth l i).ret
theorem zfs (H : H21 l) {c : Int} (V : VO l c) : (YU l c).length ≤ l.length := by
 have hn : (YU l c).Nodup := (zak H.dom H.wf V).imp fun h e => by rw [e] at h; omega
 have := ZB (m := List.range l.length) hn fun x hx => List.mem_range.2 ((xy H.dom H.wf V).1 hx).1
 simpa using this
theorem ze7 (H : H21 l) (V : ∀ c ∈ K, VO l c) : ∀ i, i ≤ K.length → (ze6 l (K.take i)).length ≤ i * l.length
 | 0, _ => by simp [ze6]
 | i + 1, hi => by
  have h1 := ze7 H V i (by omega)
  have h2 := zfs H (V _ (zp (l := K) (i := i) (by omega)))
  rw [xg (by omega)]
  unfold ze6 at h1 ⊢
  rw [List.flatMap_append, List.length_append, List.flatMap_singleton, Nat.succ_mul]
  have h3 : (zlu l (YU l (nth K i))).length = (YU l (nth K i)).length - 1 := by unfold zlu; rw [zfq]
  omega
theorem zhA {i : Nat} (hi : i < K.length) : ze6 l (K.take (i + 1)) = ze6 l (K.take i) ++ zlu l (YU l (nth K i)) := by
 rw [xg hi]
 unfold ze6
 rw [List.flatMap_append, List.flatMap_singleton]
theorem zj5 (H : H21 l) {c : Int} (V : VO l c) {p q : Nat} (hq : q < (YU l c).length) (hpq : p < q) : spL l c (nth (YU l c) p) < spL l c (nth (YU l c) q) := by
 have := List.pairwise_iff_getElem.1 (zak H.dom H.wf V) p q (by omega) hq hpq
 rw [zh hq, zh (by omega)]
 exact this
theorem zje (H : H21 l) (V : ∀ c ∈ K, VO l c) (hK : ∀ i, i < l.length → (nth l i).key ∈ K) : ∃ f : Nat → Nat, (∀ i k, i < l.length → k < l.length → zN l i = true → zN l k = true → bef l i k = true → f i < f k) ∧
  ∀ i k, i < l.length → k < l.length → zN l i = true → zN l k = true → (nth l i).key = (nth l k).key → spL l (nth l i).key i < spL l (nth l i).key k → f i < f k := by
 obtain ⟨FK, hFK⟩ : ∃ FK : Nat → Nat, FK = fun a => spL l (nth l a).key a := ⟨_, rfl⟩
 have hkk : ∀ a b, a < l.length → b < l.length → zN l a = true → zN l b = true → (nth l a).key = (nth l b).key → bef l a b = true → FK a < FK b := fun a b ha hb ia ib e hbf => by
  rw [hFK]; dsimp only
  rw [← e]
  have V' := V _ (hK a ha)
  exact zkD H.dom H.ord H.wf V' ((xy H.dom H.wf V').2 ⟨ha, rfl, ia⟩) ((xy H.dom H.wf V').2 ⟨hb, e.symm, ib⟩) hbf
 obtain ⟨B, hB⟩ : ∃ B, B = zjK FK (List.range l.length) + 1 := ⟨_, rfl⟩
 have hlt : ∀ a, a < l.length → FK a < B := fun a ha => by
  have := zco (h := FK) (List.mem_range.2 ha)
  omega
 obtain ⟨S, hS⟩ : ∃ S : Nat → List Nat, S = fun a => (List.range l.length).filter fun b => zN l b && decide ((nth l b).key = (nth l a).key) && decide (FK b ≤ FK a) := ⟨_, rfl⟩
 have hSm : ∀ a b, b ∈ S a ↔ b < l.length ∧ zN l b = true ∧ (nth l b).key = (nth l a).key ∧ FK b ≤ FK a := fun a b => by
  rw [hS]; dsimp only
  rw [List.mem_filter, List.mem_range]
  simp only [Bool.and_eq_true, decide_eq_true_eq, and_assoc]
 obtain ⟨g, hg⟩ : ∃ g : Nat → Nat, g = fun a => zjK (fun b => (nth l b).call.toNat) (S a) := ⟨_, rfl⟩
 have same : ∀ a b, a < l.length → b < l.length → (nth l a).key = (nth l b).key → FK a < FK b → g a * B + FK a < g b * B + FK b := fun a b ha hb hk h1 => by
  have h2 : g a ≤ g b := by
   rw [hg]; dsimp only
   rcases zey (h := fun b => (nth l b).call.toNat) (S a) with e | ⟨x, hx, e⟩
   ·omega
   ·rw [← e]
    obtain ⟨x1, x2, x3, x4⟩ := (hSm a x).1 hx
    exact zco (h := fun b => (nth l b).call.toNat) ((hSm b x).2 ⟨x1, x2, x3.trans hk, by omega⟩)
  have := Nat.mul_le_mul_right B h2
  omega
 refine ⟨fun a => g a * B + FK a, fun a b ha hb ia ib hbf => ?_, fun a b ha hb ia ib hk hs => ?_⟩
 ·dsimp only
  by_cases hk : (nth l a).key = (nth l b).key
  ·exact same a b ha hb hk (hkk a b ha hb ia ib hk hbf)
  ·have hbf' := hbf
   unfold bef at hbf
   simp only [Bool.and_eq_true, decide_eq_true_eq] at hbf
   have hwa := H.wf a ha
   have hwb := H.wf b hb
   have h1 : g a ≤ (nth l a).ret.toNat := by
    rw [hg]; dsimp only
    rcases zey (h := fun b => (nth l b).call.toNat) (S a) with e | ⟨x, hx, e⟩
    ·omega
    ·rw [← e]
     obtain ⟨x1, x2, x3, x4⟩ := (hSm a x).1 hx
     have hwx := H.wf x x1
     by_cases hlt2 : (nth l a).ret < (nth l x).call
     ·exfalso
      have := hkk a x ha x1 ia x2 x3.symm (by unfold bef; simp [hbf.1, hlt2])
      omega
     ·omega
   have h2 : (nth l b).call.toNat ≤ g b := by
    rw [hg]; dsimp only
    exact zco (h := fun b => (nth l b).call.toNat) ((hSm b b).2 ⟨hb, ib, rfl, Nat.le_refl _⟩)
   have h3 : g a + 1 ≤ g b := by omega
   have h4 := Nat.mul_le_mul_right B h3
   rw [Nat.succ_mul] at h4
   have := hlt a ha
   omega
 ·dsimp only
  refine same a b ha hb hk ?_
  rw [hFK]; dsimp only
  rw [← hk]; exact hs
theorem zks (H : H21 l) (V : ∀ c ∈ K, VO l c) : ∀ e ∈ zhD l K, e.1 < (xI l).length ∧ e.2 < (xI l).length := by
 rintro ⟨a, b⟩ he
 rcases List.mem_append.1 he with he | he
 ·obtain ⟨c, hc, i, hi, e⟩ := VM.1 he
  simp only [Prod.mk.injEq] at e
  obtain ⟨rfl, rfl⟩ := e
  have m1 := (xy H.dom H.wf (V c hc)).1 (zp (show i < (YU l c).length by omega))
  have m2 := (xy H.dom H.wf (V c hc)).1 (zp hi)
  exact ⟨xU (ym.2 ⟨m1.1, m1.2.2⟩), xU (ym.2 ⟨m2.1, m2.2.2⟩)⟩
 ·obtain ⟨h1, h2, _⟩ := zev.1 he
  exact ⟨h1, h2⟩
theorem zdc (H : H21 l) (V : ∀ c ∈ K, VO l c) (hK : ∀ i, i < l.length → (nth l i).key ∈ K) : ∃ f : Nat → Nat, ∀ e ∈ zhD l K, f e.1 < f e.2 := by
 obtain ⟨f, f1, f2⟩ := zje H V hK
 refine ⟨fun a => f (nth (xI l) a), ?_⟩
 rintro ⟨a, b⟩ he
 dsimp only
 rcases List.mem_append.1 he with he | he
 ·obtain ⟨c, hc, i, hi, e⟩ := VM.1 he
  simp only [Prod.mk.injEq] at e
  obtain ⟨rfl, rfl⟩ := e
  have m1 := (xy H.dom H.wf (V c hc)).1 (zp (show i < (YU l c).length by omega))
  have m2 := (xy H.dom H.wf (V c hc)).1 (zp hi)
  rw [Xw (ym.2 ⟨m1.1, m1.2.2⟩), Xw (ym.2 ⟨m2.1, m2.2.2⟩)]
  refine f2 _ _ m1.1 m2.1 m1.2.2 m2.2.2 (m1.2.1.trans m2.2.1.symm) ?_
  rw [m1.2.1]
  exact zj5 H (V c hc) hi (by omega)
 ·obtain ⟨h1, h2, h3⟩ := zev.1 he
  have m1 := ym.1 (zp h1)
  have m2 := ym.1 (zp h2)
  exact f1 _ _ m1.1 m2.1 m1.2 m2.2 h3
theorem YI (H : H21 l) (V : ∀ c ∈ K, VO l c) (hK : ∀ i, i < l.length → (nth l i).key ∈ K) : zj8 (xh (zhD l K)) (xI l).length (ziC l K) := by
 obtain ⟨f, hf⟩ := zdc H V hK
 exact zeU (ZV hf)
theorem zb4 (H : H21 l) (V : ∀ c ∈ K, VO l c) (hK : ∀ i, i < l.length → (nth l i).key ∈ K) {i : Nat} : i ∈ Vq l K ↔ i < l.length ∧ zN l i = true := by
 have E := YI H V hK
 unfold Vq
 rw [List.mem_map]
 constructor
 ·rintro ⟨a, ha, rfl⟩
  exact ym.1 (zp (E.rng a ha))
 ·intro h
  have := ym.2 h
  exact ⟨zdN l i, E.mem (xU this), Xw this⟩
theorem zb3 (H : H21 l) (V : ∀ c ∈ K, VO l c) (hK : ∀ i, i < l.length → (nth l i).key ∈ K) : (Vq l K).length = (xI l).length := by
 unfold Vq; rw [List.length_map]; exact (YI H V hK).len
theorem zkr (H : H21 l) (V : ∀ c ∈ K, VO l c) (hK : ∀ i, i < l.length → (nth l i).key ∈ K) : (Vq l K).Nodup := by
 have E := YI H V hK
 unfold Vq List.Nodup
 rw [List.pairwise_map]
 refine E.nd.imp_of_mem fun ha hb hab e => hab ?_
 rw [← zen (E.rng _ ha), e, zen (E.rng _ hb)]
noncomputable def zcr (l : List OpV) (K : List Int) (i : Nat) : Nat := YJ (ziC l K) (zdN l i)
theorem zkF (H : H21 l) (V : ∀ c ∈ K, VO l c) (hK : ∀ i, i < l.length → (nth l i).key ∈ K) {p : Nat} (hp : p < (Vq l K).length) : zcr l K (nth (Vq l K) p) = p := by
 have E := YI H V hK
 have hp' : p < (ziC l K).length := by unfold Vq at hp; simpa using hp
 have e : nth (Vq l K) p = nth (xI l) (nth (ziC l K) p) := by
  unfold Vq at hp ⊢; rw [zh hp, zh hp', List.getElem_map]
 unfold zcr
 rw [e, zen (E.rng _ (zp hp')), zaa E.nd hp']
theorem zfu (H : H21 l) (V : ∀ c ∈ K, VO l c) (hK : ∀ i, i < l.length → (nth l i).key ∈ K) {a b : Nat} (ha : a < l.length) (hb : b < l.length) (ia : zN l a = true) (ib : zN l b = true) {c : Int} (ka : (nth l a).key = c) (kb : (nth l b).key = c) (h : spL l c a < spL l c b) : zcr l K a < zcr l K b := by
 have E := YI H V hK
 have hc : c ∈ K := by rw [← ka]; exact hK a ha
 have V' := V c hc
 have ma := (xy H.dom H.wf V').2 ⟨ha, ka, ia⟩
 have mb := (xy H.dom H.wf V').2 ⟨hb, kb, ib⟩
 have reach : ∀ d p, p + d + 1 < (YU l c).length → ziJ (zhD l K) (zdN l (nth (YU l c) p)) (zdN l (nth (YU l c) (p + d + 1))) := by
  intro d
  induction d with
  | zero => intro p hp; exact .one (List.mem_append_left _ (VM.2 ⟨c, hc, p, hp, rfl⟩))
  | succ d ih =>
   intro p hp
   refine .step (b := zdN l (nth (YU l c) (p + 1))) (List.mem_append_left _ (VM.2 ⟨c, hc, p, by omega, rfl⟩)) ?_
   have := ih (p + 1) (by omega)
   rw [show p + 1 + d + 1 = p + (d + 1) + 1 by omega] at this
   exact this
 have hpa := xV ma
 have hpb := xV mb
 have hlt : YJ (YU l c) a < YJ (YU l c) b := by
  refine Nat.lt_of_not_le fun hle => ?_
  rcases Nat.lt_or_eq_of_le hle with h2 | h2
  ·have := zj5 H V' hpa h2
   rw [yq ma, yq mb] at this
   omega
  ·have := YK mb ma h2
   subst this
   omega
 have h1 := reach (YJ (YU l c) b - YJ (YU l c) a - 1) (YJ (YU l c) a) (by omega)
 rw [show YJ (YU l c) a + (YJ (YU l c) b - YJ (YU l c) a - 1) + 1 = YJ (YU l c) b by omega, yq ma, yq mb] at h1
 exact E.lt (xU (ym.2 ⟨ha, ia⟩)) (xU (ym.2 ⟨hb, ib⟩)) (xW.2 h1)
theorem zfa (H : H21 l) (V : ∀ c ∈ K, VO l c) (hK : ∀ i, i < l.length → (nth l i).key ∈ K) : ziK l (zcr l K) where
 rt i k hi hk ii ik hb := by
  have E := YI H V hK
  have mi := ym.2 ⟨hi, ii⟩
  have mk := ym.2 ⟨hk, ik⟩
  refine E.lt (xU mi) (xU mk) (xW.2 (.one (List.mem_append_right _ (zev.2 ⟨xU mi, xU mk, ?_⟩))))
  rw [Xw mi, Xw mk]; exact hb
 rd r hr h0 hd := by
  have V' := V _ (hK r hr)
  have ir := Zz hd
  rcases zkC H.dom H.wf V' hr rfl h0 hd with ⟨e, h⟩ | ⟨w, hw, ha, hlt, ho⟩
  ·exact .inl ⟨e, fun w hw => Nat.le_of_lt (zfu H V hK hr hw.1 ir hw.2.2.2 rfl hw.2.1 (h w hw))⟩
  ·refine .inr ⟨w, hw, ha, Nat.le_of_lt (zfu H V hK hw.1 hr hw.2.2.2 ir hw.2.1 rfl hlt), fun w' hw' hne => ?_⟩
   rcases ho w' hw' hne with h | h
   ·exact .inl (zfu H V hK hw'.1 hw.1 hw'.2.2.2 hw.2.2.2 hw'.2.1 hw.2.1 h)
   ·exact .inr (zfu H V hK hr hw'.1 ir hw'.2.2.2 rfl hw'.2.1 h)
theorem zkE (H : H21 l) (V : ∀ c ∈ K, VO l c) (hK : ∀ i, i < l.length → (nth l i).key ∈ K) {i k : Nat} (hi : i < l.length) (hk : k < l.length) (ii : zN l i = true) (ik : zN l k = true) (e : zcr l K i = zcr l K k) : i = k := by
 have E := YI H V hK
 have mi := ym.2 ⟨hi, ii⟩
 have mk := ym.2 ⟨hk, ik⟩
 have := YK (E.mem (xU mi)) (E.mem (xU mk)) e
 exact YK mi mk this
end
end Go.Proofs.Ytbeebjdnapkhhaa
/-
 linear.Check's verdict, in plain Lean.
-/
namespace Go.Proofs.Ytbeebjdnapkhhaa
set_option linter.unusedVariables false

theorem za4 {l : List OpV} (h : xK l = 0) : l.length ≤ 300 ∧ ∀ j, j < l.length → zcq l j = 0 := by
 unfold xK at h
 split at h
 ·cases h
 ·refine ⟨by omega, fun j hj => ?_⟩
  have key : ∀ (n k : Nat), yd l k n = 0 → ∀ j, k ≤ j → j < k + n → zcq l j = 0 := by
   intro n
   induction n with
   | zero => intro k _ j h1 h2; omega
   | succ n ih =>
    intro k hk j h1 h2
    unfold yd at hk
    split at hk
    ·rename_i he
     rcases Nat.eq_or_lt_of_le h1 with e | e
     ·rw [← e]; exact he
     ·exact ih (k + 1) hk j e (by omega)
    ·rename_i he; exact absurd hk he
  exact key l.length 0 h j (Nat.zero_le _) (by omega)
theorem zbK {l : List OpV} (h : xK l = 0) {j : Nat} (hj : j < l.length) : wfB (nth l j) = true ∧ (0 < j → (nth l (j - 1)).call < (nth l j).call) := by
 have := (za4 h).2 j hj
 unfold zcq at this
 by_cases hw : wfB (nth l j) = false
 ·rw [if_pos hw] at this; cases this
 ·rw [if_neg hw] at this
  refine ⟨by simpa using hw, fun h0 => ?_⟩
  by_cases hc : 0 < j ∧ (nth l j).call ≤ (nth l (j - 1)).call
  ·rw [if_pos hc] at this; cases this
  ·omega
theorem zcz {l : List OpV} (h : xK l = 0) {i : Nat} : ∀ {d : Nat}, i + d + 1 < l.length → (nth l i).call < (nth l (i + d + 1)).call
 | 0, hd => (zbK h hd).2 (by omega)
 | d + 1, hd => by
  have h1 := zcz h (i := i) (d := d) (by omega)
  have h2 := (zbK h hd).2 (by omega)
  rw [show i + (d + 1) + 1 - 1 = i + d + 1 by omega] at h2
  omega
theorem Ug {l : List OpV} (h : xK l = 0) (D : ya l) : H21 l where
 dom := D
 ord i j hi hj hc := by
  refine Nat.lt_of_not_le fun hle => ?_
  rcases Nat.lt_or_eq_of_le hle with h2 | h2
  ·have := zcz h (i := j) (d := i - j - 1) (by omega)
   rw [show j + (i - j - 1) + 1 = i by omega] at this
   omega
  ·subst h2; omega
 wf i hi := by
  have := (zbK h hi).1
  simp only [wfB, Bool.and_eq_true, decide_eq_true_eq] at this
  omega
theorem zis {l : List OpV} {c : Int} : (zar l c).cls = 0 ↔ VO l c := by
 unfold zar
 cases h1 : (List.range l.length).find? (zaZ l c) with
 | some i =>
  rw [List.find?_range_eq_some] at h1
  refine ⟨fun h => (by cases h), fun V => ?_⟩
  have := h1.1
  unfold zaZ at this
  rw [Bool.and_eq_true, decide_eq_true_eq] at this
  rw [V.thin i (List.mem_range.1 h1.2.1) this.1] at this
  cases this.2
 | none =>
  dsimp only
  cases h2 : (List.range l.length).find? (Yj l c) with
  | some i =>
   rw [List.find?_range_eq_some] at h2
   refine ⟨fun h => (by cases h), fun V => ?_⟩
   have := h2.1
   unfold Yj at this
   rw [Bool.and_eq_true, decide_eq_true_eq] at this
   rw [V.early i (List.mem_range.1 h2.2.1) this.1] at this
   cases this.2
  | none =>
   dsimp only
   by_cases h3 : zaG l c = []
   ·rw [if_pos h3]
    refine ⟨fun _ => ⟨fun i hi hk => ?_, fun i hi hk => ?_, h3⟩, fun _ => rfl⟩
    ·have := List.find?_eq_none.1 h1 i (List.mem_range.2 hi)
     unfold zaZ at this
     rw [decide_eq_true hk, Bool.true_and] at this
     simpa using this
    ·have := List.find?_eq_none.1 h2 i (List.mem_range.2 hi)
     unfold Yj at this
     rw [decide_eq_true hk, Bool.true_and] at this
     simpa using this
   ·rw [if_neg h3]
    exact ⟨fun h => (by cases h), fun V => absurd V.conf h3⟩
def zgz (l : List OpV) : Option Int := (yV l).find? fun c => decide ((zar l c).cls ≠ 0)
structure zkN where
 cls : Int
 arg : Int
 ord : List Nat
 ed : List (Nat × Nat)
noncomputable def zfb (l : List OpV) : zkN :=
 match zgz l with
 | some c => ⟨(zar l c).cls, c, (zar l c).ord, (zar l c).ed⟩
 | none => ⟨0, 0, Vq l (yV l), []⟩
theorem WM {l : List OpV} : zgz l = none ↔ ∀ c ∈ yV l, VO l c := by
 unfold zgz
 rw [List.find?_eq_none]
 constructor
 ·intro h c hc
  have := h c hc
  exact zis.1 (by simpa using this)
 ·intro h c hc
  have := zis.2 (h c hc)
  simpa using this
theorem zkI {l : List OpV} {i : Nat} (hi : i < (yV l).length) (h : ∀ j, j < i → (zar l (nth (yV l) j)).cls = 0) (h2 : (zar l (nth (yV l) i)).cls ≠ 0) : zgz l = some (nth (yV l) i) := by
 unfold zgz
 rw [List.find?_eq_some_iff_getElem]
 refine ⟨by simpa using h2, i, hi, (zh hi).symm, fun j hj => ?_⟩
 have := h j hj
 rw [zh (by omega)] at this
 simpa using this
theorem UG (l : List OpV) : ∀ i, i < l.length → (nth l i).key ∈ yV l := fun i hi => (Yl l _).2 ⟨_, zp hi, rfl⟩
theorem zbi {l : List OpV} : (zfb l).cls = 0 ↔ ∀ c ∈ yV l, VO l c := by
 unfold zfb
 rw [← WM]
 cases h : zgz l with
 | none => exact ⟨fun _ => rfl, fun _ => rfl⟩
 | some c =>
  refine ⟨fun h2 => ?_, fun h2 => (by cases h2)⟩
  exfalso
  unfold zgz at h
  have := List.find?_some h
  simp at this
  exact this h2
end Go.Proofs.Ytbeebjdnapkhhaa
/-
 The reference's verdict of layer 21, in plain Lean: it is the program's.
-/
namespace Go.Proofs.Ytbeebjdnapkhhaa
set_option linter.unusedVariables false

def zk9 (l : List OpV) (c v w : Int) (i k : Nat) : Bool := decide ((nth l i).key = c) && (decide ((nth l k).key = c) && (decide (VG (nth l i) = v) && (decide (VG (nth l k) = w) && (zN l i && (zN l k && bef l i k)))))
def zg9 (l : List OpV) (c v w : Int) : Bool := (List.range l.length).any fun i => (List.range l.length).any fun k => zk9 l c v w i k
def zlP (l : List OpV) (c : Int) (i k : Nat) : Bool := decide ((nth l k).key = c) && (decide ((nth l k).k = 1) && (zN l k && (zg9 l c (nth l i).arg (nth l k).arg && zg9 l c (nth l k).arg (nth l i).arg)))
def zlQ (l : List OpV) (c : Int) (i : Nat) : Bool := decide ((nth l i).key = c) && (decide ((nth l i).k = 1) && zN l i)
def zlO (l : List OpV) (c : Int) (i : Nat) : Bool := zlQ l c i && (zg9 l c (nth l i).arg 0 || (List.range i).any (zlP l c i))
def ziw (l : List OpV) (c : Int) : Bool := (List.range l.length).any (zlO l c)
section
variable {l : List OpV} {c : Int}
theorem Ws {v w : Int} : zg9 l c v w = true ↔ zkT l c v w := by
 unfold zg9 zkT ziA
 rw [Xl]
 simp only [Xl]
 unfold zk9
 simp only [Bool.and_eq_true, decide_eq_true_eq]
 constructor
 ·rintro ⟨i, hi, k, hk, h1, h2, h3, h4, h5, h6, h7⟩
  exact ⟨i, k, ⟨hi, h1, h3, h5⟩, ⟨hk, h2, h4, h6⟩, h7⟩
 ·rintro ⟨i, k, ⟨hi, h1, h3, h5⟩, ⟨hk, h2, h4, h6⟩, h7⟩
  exact ⟨i, hi, k, hk, h1, h2, h3, h4, h5, h6, h7⟩
theorem zfx {i : Nat} (hi : i < l.length) : zlQ l c i = true ↔ wrI l c i := by
 unfold zlQ wrI
 simp only [Bool.and_eq_true, decide_eq_true_eq]
 exact ⟨fun h => ⟨hi, h⟩, fun h => h.2⟩
theorem Vl : ziw l c = true ↔ zdK l c := by
 unfold ziw zdK
 rw [Xl]
 constructor
 ·rintro ⟨i, hi, h⟩
  unfold zlO at h
  rw [Bool.and_eq_true, zfx hi, Bool.or_eq_true, Ws, Xl] at h
  refine ⟨i, h.1, h.2.imp id ?_⟩
  rintro ⟨k, hk, h2⟩
  unfold zlP at h2
  simp only [Bool.and_eq_true, decide_eq_true_eq, Ws] at h2
  exact ⟨k, hk, ⟨by omega, h2.1, h2.2.1, h2.2.2.1⟩, h2.2.2.2.1, h2.2.2.2.2⟩
 ·rintro ⟨i, hi, h⟩
  refine ⟨i, hi.1, ?_⟩
  unfold zlO
  rw [Bool.and_eq_true, zfx hi.1, Bool.or_eq_true, Ws, Xl]
  refine ⟨hi, h.imp id ?_⟩
  rintro ⟨k, hk, hw, h1, h2⟩
  refine ⟨k, hk, ?_⟩
  unfold zlP
  simp only [Bool.and_eq_true, decide_eq_true_eq, Ws]
  exact ⟨hw.2.1, hw.2.2.1, hw.2.2.2, h1, h2⟩
theorem zgY {w : Nat} (hw : wrI l c w) : ∃ j, j < (yD l c).length ∧ Yh l c j = (nth l w).arg := by
 rw [YD]
 have hm : (false, [w], (nth l w).arg) ∈ Yd l c l.length := Zw.2 (.inr ⟨w, hw.1, ZN.2 ⟨hw.2.1, hw.2.2.1, hw.2.2.2⟩, rfl⟩)
 obtain ⟨j, hj, e⟩ := List.getElem_of_mem hm
 exact ⟨j, hj, by unfold Yh; rw [zh hj, e]⟩
theorem zkg (D : ya l) {b : Nat} (hb : ziA l c 0 b) : 0 < (yD l c).length ∧ Yh l c 0 = 0 ∧ (nth (yD l c) 0).ini = true := by
 have h0 : zjV l c = true := by
  obtain ⟨b1, b2, b3, b4⟩ := hb
  rcases D.kind b1 with hk | hk
  ·rw [Yv hk] at b3
   exact Zo.2 ⟨b, b1, yI.2 ⟨hk, xE hk b4, b2, b3⟩⟩
  ·rw [ZL hk] at b3
   exact absurd b3 (D.arg b1 hk)
 have hm : (true, [], (0 : Int)) ∈ Yd l c l.length := Zw.2 (.inl ⟨h0, rfl⟩)
 obtain ⟨j, hj, e⟩ := List.getElem_of_mem hm
 have hj' : j < (yD l c).length := by rw [YD]; exact hj
 have hi : (nth (yD l c) j).ini = true := by
  have h1 : nth (yD l c) j = _ := XS hj
  rw [h1, zh hj, e]
 have := (zbL hj' hi).1
 subst this
 exact ⟨hj', by unfold Yh; rw [zh hj, e], hi⟩
theorem zgE (D : ya l) (h : zdK l c) : zaG l c ≠ [] := by
 intro hc
 unfold zaG at hc
 rw [zdV] at hc
 have hcf : ∀ a j, a < j → j < (yD l c).length → YZ l (nth (yD l c) a) (nth (yD l c) j) = [] := fun a j haj hj => hc a (by omega) (by omega) j haj hj
 have hbf : ∀ {p q a b : Nat} {v w : Int}, p < (yD l c).length → q < (yD l c).length → Yh l c p = v → Yh l c q = w → ziA l c v a → ziA l c w b → bef l a b = true → Vo l (nth (yD l c) p).ops < VS l (nth (yD l c) q).ops := fun {p q a b v w} hp hq vp vq ha hb hab => by
  have m1 := zg4 (l := l) ((yQ D hp).2 (by rw [vp]; exact ha))
  have m2 := zin (l := l) ((yQ D hq).2 (by rw [vq]; exact hb))
  unfold bef at hab
  simp only [Bool.and_eq_true, decide_eq_true_eq] at hab
  have : Yg (nth l a) = (nth l a).ret := by unfold Yg; rw [hab.1]; rfl
  omega
 obtain ⟨i, hwi, h⟩ := h
 obtain ⟨p, hp, vp⟩ := zgY hwi
 rcases h with ⟨a, b, ha, hb, hab⟩ | ⟨k, hki, hwk, ⟨a, b, ha, hb, hab⟩, ⟨a', b', ha', hb', hab'⟩⟩
 ·obtain ⟨q1, q2, q3⟩ := zkg D hb
  have hlt := hbf hp q1 vp q2 ha hb hab
  have hp0 : p ≠ 0 := fun e => by
   subst e
   rw [q2] at vp
   exact D.arg hwi.1 hwi.2.2.1 vp.symm
  have := ZG.1 (hcf 0 p (by omega) hp)
  rw [q3] at this
  rcases this with h | h
  ·omega
  ·cases h.1
 ·obtain ⟨q, hq, vq⟩ := zgY hwk
  have h1 := hbf hp hq vp vq ha hb hab
  have h2 := hbf hq hp vq vp ha' hb' hab'
  have hpq : p ≠ q := fun e => by
   subst e
   rw [vp] at vq
   have := D.uniq hwi.1 hwk.1 hwi.2.2.1 hwk.2.2.1 (hwi.2.1.trans hwk.2.1.symm) vq
   omega
  rcases Nat.lt_or_gt_of_ne hpq with h | h
  ·rcases ZG.1 (hcf p q h hq) with h3 | h3 <;> omega
  ·rcases ZG.1 (hcf q p h hp) with h3 | h3 <;> omega
theorem zfK (D : ya l) (hin : ∀ o ∈ l, zaz o) {a j : Nat} (haj : a < j) (hj : j < (yD l c).length) (h : YZ l (nth (yD l c) a) (nth (yD l c) j) ≠ []) : zdK l c := by
 have ha : a < (yD l c).length := by omega
 have hn : ¬ (VS l (nth (yD l c) a).ops ≤ Vo l (nth (yD l c) j).ops ∨ ((nth (yD l c) a).ini = false ∧ VS l (nth (yD l c) j).ops ≤ Vo l (nth (yD l c) a).ops)) := fun h2 => h (ZG.2 h2)
 have hgo : ∀ {p q : Nat}, p < (yD l c).length → q < (yD l c).length → Vo l (nth (yD l c) p).ops < VS l (nth (yD l c) q).ops → zkT l c (Yh l c p) (Yh l c q) := fun {p q} hp hq hlt => by
  have m1 := (yQ D hp).1 (zcM (l := l) (Ui D hp))
  have m2 := (yQ D hq).1 (zdf (l := l) (Ui D hq))
  refine ⟨_, _, m1, m2, ?_⟩
  have o2 := hin _ (zp m2.1)
  unfold Vo VS Yg at hlt
  unfold bef
  cases hd : (nth l (Xc l (nth (yD l c) p).ops)).done with
  | true =>
   rw [hd] at hlt
   simp only [if_true] at hlt
   simpa using hlt
  | false =>
   rw [hd] at hlt
   simp only [Bool.false_eq_true, if_false] at hlt
   unfold zaz I64 at o2
   omega
 have hlt : Vo l (nth (yD l c) j).ops < VS l (nth (yD l c) a).ops := Int.lt_of_not_ge fun h2 => hn (.inl h2)
 have g1 := hgo hj ha hlt
 have hcj := ZF hj
 rcases hcj with ⟨h0, h1, h2⟩ | ⟨w, w1, w2, h1, h2⟩
 ·exfalso
  have := (zbL hj (by rw [h2])).1
  omega
 have hww : wrI l c w := by rw [ZN] at w2; exact ⟨w1, w2⟩
 rcases ZF ha with ⟨k0, k1, k2⟩ | ⟨u, u1, u2, k1, k2⟩
 ·rw [h1, k1] at g1
  exact ⟨w, hww, .inl g1⟩
 have huu : wrI l c u := by rw [ZN] at u2; exact ⟨u1, u2⟩
 have hlt2 : Vo l (nth (yD l c) a).ops < VS l (nth (yD l c) j).ops := Int.lt_of_not_ge fun h3 => hn (.inr ⟨by rw [k2], h3⟩)
 have g2 := hgo ha hj hlt2
 rw [h1, k1] at g1
 rw [h1, k1] at g2
 have hne : w ≠ u := fun e => by
  subst e
  have := Uj D ha hj (by rw [h1, k1])
  omega
 rcases Nat.lt_or_gt_of_ne hne with h3 | h3
 ·exact ⟨u, huu, .inr ⟨w, h3, hww, g2, g1⟩⟩
 ·exact ⟨w, hww, .inr ⟨u, h3, huu, g1, g2⟩⟩
theorem zkZ (D : ya l) (hin : ∀ o ∈ l, zaz o) : zaG l c = [] ↔ ziw l c = false := by
 constructor
 ·intro h
  rw [Bool.eq_false_iff]
  intro h2
  exact zgE D (Vl.1 h2) h
 ·intro h
  refine Classical.byContradiction fun hne => ?_
  obtain ⟨a, j, _, _, h3, h4, h5⟩ := zeN (l := l) (C := yD l c) (f := (yD l c).length) (i := 0) hne
  have := Vl.2 (zfK D hin h3 h4 (by rw [← h5]; exact hne))
  rw [h] at this
  cases this
end
end Go.Proofs.Ytbeebjdnapkhhaa
/-
 Linearizations as lists, in plain Lean: the reference's and the program's way to decide them; one exists where the verdict holds.
-/
namespace Go.Proofs.Ytbeebjdnapkhhaa
set_option linter.unusedVariables false

def zaw (l : List OpV) (key x : Int) : Bool := decide ((nth l x.toNat).key = key) && decide ((nth l x.toNat).k = 1)
def Xz (l : List OpV) (key : Int) (o : List Int) : Int := o.foldl (fun v x => if zaw l key x = true then (nth l x.toNat).arg else v) 0
theorem WN (l : List OpV) (key : Int) (o : List Int) (x : Int) : Xz l key (o ++ [x]) = if zaw l key x = true then (nth l x.toNat).arg else Xz l key o := by
 unfold Xz; rw [List.foldl_append]; rfl
theorem Yw (l : List OpV) (key : Int) (o : List Int) : ∀ i, i ≤ o.length → (Xz l key (o.take i) = 0 ∧ ∀ j, j < i → zaw l key (nth o j) = false) ∨
  ∃ j, j < i ∧ zaw l key (nth o j) = true ∧ Xz l key (o.take i) = (nth l (nth o j).toNat).arg ∧ ∀ q, j < q → q < i → zaw l key (nth o q) = false
 | 0, _ => .inl ⟨rfl, fun j hj => by omega⟩
 | i + 1, hi => by
  rw [xg (show i < o.length by omega), WN]
  by_cases h : zaw l key (nth o i) = true
  ·rw [if_pos h]
   exact .inr ⟨i, by omega, h, rfl, fun q h1 h2 => by omega⟩
  ·rw [if_neg h]
   have h' : zaw l key (nth o i) = false := by simpa using h
   rcases Yw l key o i (by omega) with ⟨h1, h2⟩ | ⟨j, h1, h2, h3, h4⟩
   ·refine .inl ⟨h1, fun j hj => ?_⟩
    by_cases e : j = i
    ·subst e; exact h'
    ·exact h2 j (by omega)
   ·refine .inr ⟨j, by omega, h2, h3, fun q q1 q2 => ?_⟩
    by_cases e : q = i
    ·subst e; exact h'
    ·exact h4 q q1 (by omega)
structure zgG (l : List OpV) (o : List Int) : Prop where
 rng : ∀ x ∈ o, 0 ≤ x ∧ x < l.length
 nd : o.Nodup
 inc : ∀ x ∈ o, zN l x.toNat = true
 all : ∀ v : Nat, v < l.length → zN l v = true → (v : Int) ∈ o
 val : ∀ i, i < o.length → (nth l (nth o i).toNat).k = 1 ∨ Xz l (nth l (nth o i).toNat).key (o.take i) = (nth l (nth o i).toNat).res
 rt : ∀ i j, i < o.length → j < i → bef l (nth o i).toNat (nth o j).toNat = false
theorem zkt {o : List Int} (h : o.Nodup) {i j : Nat} (hi : i < o.length) (hj : j < o.length) (e : nth o i = nth o j) : i = j := by
 rw [zh hi, zh hj] at e
 exact (List.getElem_inj h).1 e
theorem VN {o : List Int} {x : Int} (h : x ∈ o) : ∃ p, p < o.length ∧ nth o p = x := by
 obtain ⟨p, hp, e⟩ := List.getElem_of_mem h
 exact ⟨p, hp, by rw [zh hp, e]⟩
def zgI (o : List Int) (i : Nat) : Nat := o.idxOf (i : Int)
theorem zcb {o : List Int} {i : Nat} (h : (i : Int) ∈ o) : zgI o i < o.length := List.idxOf_lt_length_of_mem h
theorem xc {o : List Int} {i : Nat} (h : (i : Int) ∈ o) : nth o (zgI o i) = i := by rw [zh (zcb h)]; exact List.getElem_idxOf _
section
variable {l : List OpV} {o : List Int}
theorem XV (D : ya l) {x : Nat} {c : Int} (hx : x < l.length) (hi : zN l x = true) : zaw l c (x : Int) = true ↔ wrI l c x := by
 unfold zaw wrI
 rw [Int.toNat_natCast, Bool.and_eq_true, decide_eq_true_eq, decide_eq_true_eq]
 exact ⟨fun h => ⟨hx, h.1, h.2, hi⟩, fun h => ⟨h.2.1, h.2.2.1⟩⟩
theorem zgG.tau (D : ya l) (hw : ∀ i, i < l.length → (nth l i).call < (nth l i).ret) (h : zgG l o) : ziK l (zgI o) := by
 have hm : ∀ i, i < l.length → zN l i = true → (i : Int) ∈ o := h.all
 have hcan : ∀ q, q < o.length → ∃ x : Nat, nth o q = x ∧ x < l.length ∧ zN l x = true ∧ zgI o x = q := fun q hq => by
  have hr := h.rng _ (zp hq)
  refine ⟨(nth o q).toNat, by omega, by omega, h.inc _ (zp hq), ?_⟩
  have e : (((nth o q).toNat : Nat) : Int) = nth o q := by omega
  have hmem : (((nth o q).toNat : Nat) : Int) ∈ o := by rw [e]; exact zp hq
  exact zkt h.nd (zcb hmem) hq (by rw [xc hmem, e])
 refine ⟨fun i k hi hk ii ik hb => ?_, fun r hr h0 hd => ?_⟩
 ·have mi := hm i hi ii
  have mk := hm k hk ik
  refine Nat.lt_of_not_le fun hle => ?_
  rcases Nat.lt_or_eq_of_le hle with h2 | h2
  ·have := h.rt _ _ (zcb mi) h2
   rw [xc mi, xc mk, Int.toNat_natCast, Int.toNat_natCast, hb] at this
   cases this
  ·have e : ((k : Int)) = i := by rw [← xc mk, h2, xc mi]
   have : k = i := by omega
   subst this
   have := zbJ hw hk hb
   omega
 ·have ir := Zz (l := l) hd
  have mr := hm r hr ir
  have hp := zcb mr
  have hv := h.val _ hp
  rw [xc mr, Int.toNat_natCast] at hv
  have hv := hv.resolve_left (by omega)
  rcases Yw l (nth l r).key o (zgI o r) (by omega) with ⟨h1, h2⟩ | ⟨j, h1, h2, h3, h4⟩
  ·refine .inl ⟨by rw [← hv, h1], fun w hw => ?_⟩
   have mw := hm w hw.1 hw.2.2.2
   refine Nat.le_of_not_lt fun hlt => ?_
   have := h2 _ hlt
   rw [xc mw, (XV D hw.1 hw.2.2.2).2 hw] at this
   cases this
  ·obtain ⟨w, e, w1, w2, w3⟩ := hcan j (by omega)
   rw [e, XV D w1 w2] at h2
   rw [e, Int.toNat_natCast] at h3
   refine .inr ⟨w, h2, by rw [← h3, hv], by omega, fun w' hw' hne => ?_⟩
   have mw' := hm w' hw'.1 hw'.2.2.2
   have hne2 : zgI o w' ≠ j := fun e2 => hne (by
    have e3 := xc mw'
    rw [e2, e] at e3
    omega)
   by_cases hq : zgI o w' < zgI o r
   ·left
    rw [w3]
    refine Nat.lt_of_not_le fun hle => ?_
    have := h4 _ (by omega) hq
    rw [xc mw', (XV D hw'.1 hw'.2.2.2).2 hw'] at this
    cases this
   ·right
    have : zgI o w' ≠ zgI o r := fun e2 => by
     have e3 := xc mw'
     rw [e2, xc mr] at e3
     have : w' = r := by omega
     subst this
     have := hw'.2.2.1
     omega
    omega
theorem zgG.inj (h : zgG l o) {i k : Nat} (hi : i < l.length) (hk : k < l.length) (ii : zN l i = true) (ik : zN l k = true) (e : zgI o i = zgI o k) : i = k := by
 have e1 := xc (h.all i hi ii)
 rw [e, xc (h.all k hk ik)] at e1
 omega
theorem ziK.linO (D : ya l) {tau : Nat → Nat} (T : ziK l tau) (hrng : ∀ x ∈ o, 0 ≤ x ∧ x < l.length) (hnd : o.Nodup) (hinc : ∀ x ∈ o, zN l x.toNat = true) (hall : ∀ v : Nat, v < l.length → zN l v = true → (v : Int) ∈ o)
  (hpos : ∀ q, q < o.length → tau (nth o q).toNat = q) : zgG l o := by
 refine ⟨hrng, hnd, hinc, hall, fun i hi => ?_, fun i j hi hj => ?_⟩
 ·have hr := hrng _ (zp hi)
  have hii := hinc _ (zp hi)
  have hpi := hpos i hi
  obtain ⟨r, hre⟩ : ∃ r, (nth o i).toNat = r := ⟨_, rfl⟩
  have hrl : r < l.length := by omega
  rw [hre] at hii hpi ⊢
  rcases D.kind hrl with h0 | h1
  ·right
   have hd := xE h0 hii
   have hpw : ∀ j, j < i → zaw l (nth l r).key (nth o j) = true → ∃ w, wrI l (nth l r).key w ∧ tau w = j ∧ nth o j = w := fun j hj hs => by
    have hjr := hrng _ (zp (show j < o.length by omega))
    have hji := hinc _ (zp (show j < o.length by omega))
    refine ⟨(nth o j).toNat, ?_, hpos j (by omega), by omega⟩
    have e : nth o j = (((nth o j).toNat : Nat) : Int) := by omega
    rw [e] at hs
    exact (XV D (by omega) hji).1 hs
   rcases T.rd r hrl h0 hd with ⟨e0, hf⟩ | ⟨w, hw, ha, hle, ho⟩
   ·rcases Yw l (nth l r).key o i (by omega) with ⟨g1, _⟩ | ⟨j, g1, g2, _, _⟩
    ·rw [g1, e0]
    ·obtain ⟨w, hw, hwj, _⟩ := hpw j g1 g2
     have := hf w hw
     omega
   ·have hwm := hall w hw.1 hw.2.2.2
    obtain ⟨q, hq, hqe⟩ := VN hwm
    have hqp := hpos q hq
    rw [hqe, Int.toNat_natCast] at hqp
    have hwr : w ≠ r := fun e => by rw [e] at hw; have := hw.2.2.1; omega
    have hqi : q < i := by
     have : q ≠ i := fun e => by
      subst e
      rw [hqe, Int.toNat_natCast] at hre
      exact hwr hre
     omega
    have hsw : zaw l (nth l r).key (nth o q) = true := by rw [hqe]; exact (XV D hw.1 hw.2.2.2).2 hw
    rcases Yw l (nth l r).key o i (by omega) with ⟨_, g2⟩ | ⟨j, g1, g2, g3, g4⟩
    ·rw [g2 q hqi] at hsw; cases hsw
    ·obtain ⟨w', hw', hwj, hwe⟩ := hpw j g1 g2
     by_cases e : w' = w
     ·rw [g3, hwe, Int.toNat_natCast, e, ha]
     ·exfalso
      rcases ho w' hw' e with h2 | h2
      ·have := g4 q (by omega) hqi
       rw [this] at hsw; cases hsw
      ·omega
  ·exact .inl h1
 ·cases hb : bef l (nth o i).toNat (nth o j).toNat with
  | false => rfl
  | true =>
   have hri := hrng _ (zp hi)
   have hrj := hrng _ (zp (show j < o.length by omega))
   have := T.rt _ _ (by omega) (by omega) (hinc _ (zp hi)) (hinc _ (zp (show j < o.length by omega))) hb
   rw [hpos i hi, hpos j (by omega)] at this
   omega
def yX (L : List Nat) : List Int := L.map fun n : Nat => (n : Int)
theorem YX {L : List Nat} {i : Nat} (h : i < L.length) : nth (yX L) i = ((nth L i : Nat) : Int) := by
 unfold yX
 rw [zh (by simpa using h), zh h, List.getElem_map]
theorem Zd (L : List Nat) : (yX L).length = L.length := by simp [yX]
theorem zlg {K : List Int} (H : H21 l) (V : ∀ c ∈ K, VO l c) (hK : ∀ i, i < l.length → (nth l i).key ∈ K) : zgG l (yX (Vq l K)) := by
 have hmem : ∀ x, x ∈ yX (Vq l K) → ∃ n : Nat, x = n ∧ n ∈ Vq l K := fun x hx => by
  obtain ⟨n, hn, e⟩ := List.mem_map.1 hx
  exact ⟨n, e.symm, hn⟩
 refine (zfa H V hK).linO H.dom (fun x hx => ?_) ?_ (fun x hx => ?_) (fun v hv hi => ?_) (fun q hq => ?_)
 ·obtain ⟨n, rfl, hn⟩ := hmem x hx
  have := ((zb4 H V hK).1 hn).1
  omega
 ·unfold yX List.Nodup
  rw [List.pairwise_map]
  exact (zkr H V hK).imp fun h e => h (by omega)
 ·obtain ⟨n, rfl, hn⟩ := hmem x hx
  rw [Int.toNat_natCast]
  exact ((zb4 H V hK).1 hn).2
 ·exact List.mem_map.2 ⟨v, (zb4 H V hK).2 ⟨hv, hi⟩, rfl⟩
 ·rw [Zd] at hq
  rw [YX hq, Int.toNat_natCast]
  exact zkF H V hK hq
theorem zlF (D : ya l) (hin : ∀ p ∈ l, zaz p) {c : Int} (h : zgM l c) : VO l c :=
 ⟨h.thin, h.early, (zkZ D hin).2 (by rw [Bool.eq_false_iff]; exact fun hz => h.zones (Vl.1 hz))⟩
end
def zbP (l : List OpV) (o : List Int) (i : Int) : Bool := zN l i.toNat && (!zhn o i && (!(o.any fun k => bef l i.toNat k.toNat) && (decide ((nth l i.toNat).k = 1) || decide (Xz l (nth l i.toNat).key o = (nth l i.toNat).res))))
def Zn (l : List OpV) (o : List Int) (n : Nat) : Bool := (decide (0 ≤ nth o n) && decide (nth o n < l.length)) && zbP l (o.take n) (nth o n)
def Xh (l : List OpV) (o : List Int) : Bool := (List.range o.length).all (Zn l o) && decide (o.length = (xI l).length)
section
variable {l : List OpV}
theorem zgG.len {o : List Int} (h : zgG l o) : o.length = (xI l).length := by
 have e : (yX (xI l)).length = (xI l).length := Zd _
 rw [← e]
 refine Nat.le_antisymm (ZB h.nd fun x hx => ?_) (ZB ?_ fun x hx => ?_)
 ·have h1 := h.rng x hx
  exact List.mem_map.2 ⟨x.toNat, ym.2 ⟨by omega, h.inc x hx⟩, by omega⟩
 ·unfold yX List.Nodup
  rw [List.pairwise_map]
  exact (zhv l).imp fun h e => h (by omega)
 ·obtain ⟨n, hn, rfl⟩ := List.mem_map.1 hx
  have := ym.1 hn
  exact h.all n this.1 this.2
def zlE (l : List OpV) (o : List Int) : Prop := ∀ n, n < o.length → Zn l o n = true
theorem Xq {o : List Int} {n : Nat} : Zn l o n = true ↔ (0 ≤ nth o n ∧ nth o n < l.length) ∧ zN l (nth o n).toNat = true ∧ nth o n ∉ o.take n ∧ (∀ j, j < n → j < o.length → bef l (nth o n).toNat (nth o j).toNat = false) ∧ ((nth l (nth o n).toNat).k = 1 ∨ Xz l (nth l (nth o n).toNat).key (o.take n) = (nth l (nth o n).toNat).res) := by
 unfold Zn zbP zhn
 simp only [Bool.and_eq_true, Bool.or_eq_true, Bool.not_eq_true', decide_eq_true_eq, decide_eq_false_iff_not, List.any_eq_false]
 constructor
 ·rintro ⟨h1, h2, h3, h4, h5⟩
  refine ⟨h1, h2, h3, fun j hj hjl => ?_, h5⟩
  have := h4 (nth o j) (List.mem_take_iff_getElem.2 ⟨j, by omega, (zh _).symm⟩)
  simpa using this
 ·rintro ⟨h1, h2, h3, h4, h5⟩
  refine ⟨h1, h2, h3, fun x hx => ?_, h5⟩
  obtain ⟨j, hj, e⟩ := List.mem_take_iff_getElem.1 hx
  have := h4 j (by omega) (by omega)
  rw [zh (show j < o.length by omega), e] at this
  simp [this]
theorem UJ {o : List Int} : Xh l o = true ↔ zgG l o := by
 unfold Xh
 rw [Bool.and_eq_true, decide_eq_true_eq, List.all_eq_true]
 simp only [List.mem_range]
 constructor
 ·rintro ⟨h, hlen⟩
  have h := fun n hn => Xq.1 (h n hn)
  have hnd : o.Nodup := by
   unfold List.Nodup
   rw [List.pairwise_iff_getElem]
   intro i j hi hj hij e
   refine (h j hj).2.2.1 (List.mem_take_iff_getElem.2 ⟨i, by omega, ?_⟩)
   rw [zh hj, e]
  have hx : ∀ x ∈ o, (0 ≤ x ∧ x < l.length) ∧ zN l x.toNat = true := fun x hx => by
   obtain ⟨i, hi, e⟩ := VN hx
   have := h i hi
   rw [e] at this
   exact ⟨this.1, this.2.1⟩
  refine ⟨fun x h => (hx x h).1, hnd, fun x h => (hx x h).2, fun v hv hi => ?_, fun i hi => (h i hi).2.2.2.2, fun i j hi hj => (h i hi).2.2.2.1 j hj (by omega)⟩
  refine Classical.byContradiction fun hno => ?_
  have := ZB (m := yX (xI l)) (List.nodup_cons.2 ⟨hno, hnd⟩) fun y hy => by
   rcases List.mem_cons.1 hy with rfl | hy
   ·exact List.mem_map.2 ⟨v, ym.2 ⟨hv, hi⟩, rfl⟩
   ·have := hx y hy
    exact List.mem_map.2 ⟨y.toNat, ym.2 ⟨by omega, this.2⟩, by omega⟩
  rw [Zd, List.length_cons] at this
  omega
 ·intro h
  refine ⟨fun n hn => Xq.2 ⟨h.rng _ (zp hn), h.inc _ (zp hn), fun hm => ?_, fun j hj hjl => h.rt n j hn hj, h.val n hn⟩, h.len⟩
  obtain ⟨j, hj, e⟩ := List.mem_take_iff_getElem.1 hm
  rw [zh hn] at e
  have := (List.getElem_inj h.nd).1 e
  omega
theorem zjF {o o2 : List Int} {n : Nat} (hn : n < o.length) : Zn l (o ++ o2) n = Zn l o n := by
 have e1 : nth (o ++ o2) n = nth o n := by rw [zh (by simp; omega), zh hn, List.getElem_append_left hn]
 have e2 : (o ++ o2).take n = o.take n := List.take_append_of_le_length (by omega)
 unfold Zn
 rw [e1, e2]
theorem zlE.add {o : List Int} (h : zlE l o) {i : Nat} (hi : i < l.length) (hf : zbP l o (i : Int) = true) : zlE l (o ++ [(i : Int)]) := fun n hn => by
 by_cases e : n = o.length
 ·subst e
  have e1 : nth (o ++ [(i : Int)]) o.length = i := by rw [zh (by simp)]; simp
  unfold Zn
  rw [e1, List.take_left, hf, decide_eq_true (show (0 : Int) ≤ i by omega), decide_eq_true (show (i : Int) < l.length by omega)]
  rfl
 ·rw [zjF (by simp at hn; omega)]
  exact h n (by simp at hn; omega)
end
end Go.Proofs.Ytbeebjdnapkhhaa
