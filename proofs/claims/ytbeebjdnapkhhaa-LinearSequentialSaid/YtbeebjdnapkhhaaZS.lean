/-
  Some texts as one: LinSeq, LinGlob, LinChk, LinRef, LinOrder.
-/
import Derived.Test.YtbeebjdnapkhhaaZLinClus
import Derived.Test.YtbeebjdnapkhhaaZQ
import Derived.Test.YtbeebjdnapkhhaaZG
/-
 The order of a key's operations (linear.sequence), in plain Lean: the clusters of a key without violations, one after the other.
-/
namespace Go.Proofs.Ytbeebjdnapkhhaa
set_option linter.unusedVariables false

section
variable {l : List OpV}
theorem zdT {c : List Nat} : ∀ {k : Nat}, k ≤ c.length → ∀ j, j < k → ZO (nth l (US l c k)) ≤ ZO (nth l (nth c j))
 | 0, _, j, hj => by omega
 | k + 1, hk, j, hj => by
  rw [Wr (by omega)]
  unfold zjC
  by_cases hjk : j = k
  ·subst hjk
   split
   ·exact Int.le_refl _
   ·omega
  ·have := zdT (c := c) (k := k) (by omega) j (by omega)
   split
   ·omega
   ·exact this
theorem zd5 {c : List Nat} : ∀ {k : Nat}, k ≤ c.length → ∀ j, j < k → (nth l (nth c j)).call ≤ (nth l (zbf l c k)).call
 | 0, _, j, hj => by omega
 | k + 1, hk, j, hj => by
  rw [Wu (by omega)]
  unfold zjF
  by_cases hjk : j = k
  ·subst hjk
   split
   ·exact Int.le_refl _
   ·omega
  ·have := zd5 (c := c) (k := k) (by omega) j (by omega)
   split
   ·omega
   ·exact this
theorem zfJ {c : List Nat} {i : Nat} (h : i ∈ c) : WJ l c ≤ ZO (nth l i) := by
 obtain ⟨j, hj, e⟩ := List.getElem_of_mem h
 have := zdT (l := l) (Nat.le_refl c.length) j hj
 rw [VH, zi hj, e] at this
 exact this
theorem zg1 {c : List Nat} {i : Nat} (h : i ∈ c) : (nth l i).call ≤ Vi l c := by
 obtain ⟨j, hj, e⟩ := List.getElem_of_mem h
 have := zd5 (l := l) (Nat.le_refl c.length) j hj
 rw [Ub, zi hj, e] at this
 exact this
theorem zbZ {c : List Nat} (h0 : 0 < c.length) : YL l c ∈ c := by rw [← VH]; exact VI h0 (Nat.le_refl _)
theorem zcn {c : List Nat} (h0 : 0 < c.length) : Xo l c ∈ c := by rw [← Ub]; exact Uc h0 (Nat.le_refl _)
end

def zhS (l : List OpV) (x y : ClV) : Bool := x.ini || decide (WJ l x.ops < Vi l y.ops)
def zhe (l : List OpV) (C : List ClV) (i k : Nat) : Prs := ((List.range k).filter fun k => decide (i ≠ k) && zhS l (nth C i) (nth C k)).map fun k => (i, k)
def zgt (l : List OpV) (C : List ClV) (i : Nat) : Prs := (List.range i).flatMap fun i => zhe l C i C.length
def zeX (l : List OpV) (C : List ClV) : Prs := zgt l C C.length
theorem zgs (l : List OpV) (C : List ClV) (i k : Nat) : zhe l C i (k + 1) = zhe l C i k ++ if (decide (i ≠ k) && zhS l (nth C i) (nth C k)) = true then [(i, k)] else [] := by
 unfold zhe
 rw [List.range_succ, List.filter_append, List.map_append]
 congr 1
 by_cases h : (decide (i ≠ k) && zhS l (nth C i) (nth C k)) = true
 ·rw [if_pos h, List.filter_cons_of_pos (by exact h)]; rfl
 ·rw [if_neg h, List.filter_cons_of_neg (by exact h)]; rfl
theorem zct (l : List OpV) (C : List ClV) (i : Nat) : zgt l C (i + 1) = zgt l C i ++ zhe l C i C.length := by
 unfold zgt
 rw [List.range_succ, List.flatMap_append]
 simp
theorem zed (l : List OpV) (C : List ClV) (i k : Nat) : (zhe l C i k).length ≤ k := by
 unfold zhe
 rw [List.length_map]
 exact Nat.le_trans (List.length_filter_le _ _) (by simp)
theorem zbm (l : List OpV) (C : List ClV) : ∀ i, (zgt l C i).length ≤ i * C.length
 | 0 => by simp [zgt]
 | i + 1 => by
  rw [zct, List.length_append]
  have := zbm l C i
  have := zed l C i C.length
  rw [Nat.succ_mul]; omega
theorem zbl {l : List OpV} {C : List ClV} {i k : Nat} : (i, k) ∈ zeX l C ↔ i < C.length ∧ k < C.length ∧ i ≠ k ∧ zhS l (nth C i) (nth C k) = true := by
 unfold zeX zgt
 rw [List.mem_flatMap]
 constructor
 ·rintro ⟨i', h1, h2⟩
  unfold zhe at h2
  obtain ⟨k', h3, h4⟩ := List.mem_map.1 h2
  obtain ⟨h5, h6⟩ := List.mem_filter.1 h3
  simp only [Prod.mk.injEq] at h4
  obtain ⟨rfl, rfl⟩ := h4
  simp only [Bool.and_eq_true, decide_eq_true_eq] at h6
  exact ⟨List.mem_range.1 h1, List.mem_range.1 h5, h6.1, h6.2⟩
 ·rintro ⟨h1, h2, h3, h4⟩
  refine ⟨i, List.mem_range.2 h1, List.mem_map.2 ⟨k, List.mem_filter.2 ⟨List.mem_range.2 h2, ?_⟩, rfl⟩⟩
  rw [decide_eq_true h3, h4]; rfl
theorem Zk {l : List OpV} {x y : ClV} : YI l x y = [] ↔ Vi l x.ops ≤ WJ l y.ops ∨ (x.ini = false ∧ Vi l y.ops ≤ WJ l x.ops) := by
 unfold YI
 by_cases h1 : WJ l y.ops ≥ Vi l x.ops
 ·rw [if_pos h1]; exact ⟨fun _ => .inl h1, fun _ => rfl⟩
 ·rw [if_neg h1]
  by_cases h2 : x.ini = true
  ·rw [if_pos h2, h2]
   constructor
   ·intro h; cases h
   ·rintro (h | h)
    ·exact absurd h h1
    ·cases h.1
  ·rw [if_neg h2]
   by_cases h3 : WJ l x.ops < Vi l y.ops
   ·rw [if_pos h3]
    constructor
    ·intro h; cases h
    ·rintro (h | h)
     ·exact absurd h h1
     ·omega
   ·rw [if_neg h3]
    exact ⟨fun _ => .inr ⟨by simpa using h2, by omega⟩, fun _ => rfl⟩
def rkC (l : List OpV) (x : ClV) : Nat := if x.ini = true then 0 else 1 + 2 * (min (WJ l x.ops) (Vi l x.ops)).toNat + if WJ l x.ops < Vi l x.ops then 1 else 0
theorem zhU {l : List OpV} {C : List ClV} (hC : ∀ a j, a < j → j < C.length → YI l (nth C a) (nth C j) = []) (hini : ∀ j, j < C.length → (nth C j).ini = true → j = 0)
  (h0 : ∀ j, j < C.length → 0 ≤ WJ l (nth C j).ops ∧ 0 ≤ Vi l (nth C j).ops) : ∀ e ∈ zeX l C, rkC l (nth C e.1) < rkC l (nth C e.2) := by
 rintro ⟨i, k⟩ he
 obtain ⟨hi, hk, hne, hp⟩ := zbl.1 he
 dsimp only
 unfold zhS at hp
 rw [Bool.or_eq_true, decide_eq_true_eq] at hp
 have kini : (nth C k).ini = true → False := fun h => by
  have e := hini k hk h
  have := Zk.1 (hC k i (by omega) hi)
  rw [h] at this
  rcases this with h1 | h1
  ·rcases hp with h2 | h2
   ·have := hini i hi h2; omega
   ·omega
  ·cases h1.1
 have kf : (nth C k).ini = false := by
  cases h : (nth C k).ini with
  | false => rfl
  | true => exact (kini h).elim
 unfold rkC
 rw [kf, if_neg (show ¬ false = true by decide)]
 cases hii : (nth C i).ini with
 | true => rw [if_pos rfl]; omega
 | false =>
  rw [if_neg (by decide)]
  have hp : WJ l (nth C i).ops < Vi l (nth C k).ops := hp.resolve_left (by rw [hii]; decide)
  have hnc : Vi l (nth C i).ops ≤ WJ l (nth C k).ops := by
   rcases Nat.lt_or_gt_of_ne hne with h | h
   ·rcases Zk.1 (hC i k h hk) with h1 | h1
    ·exact h1
    ·omega
   ·rcases Zk.1 (hC k i h hi) with h1 | h1
    ·omega
    ·exact h1.2
  obtain ⟨i1, i2⟩ := h0 i hi
  obtain ⟨k1, k2⟩ := h0 k hk
  split <;> split <;> omega
theorem ziR.mem {R : Nat → Nat → Bool} {n : Nat} {L : List Nat} (h : ziR R n L) {b : Nat} (hb : b < n) : b ∈ L := by
 refine Classical.byContradiction fun hno => ?_
 have key : ∀ (l m : List Nat), l.Nodup → (∀ x ∈ l, x ∈ m) → l.length ≤ m.length := by
  intro l
  induction l with
  | nil => intro m _ _; exact Nat.zero_le _
  | cons x l ih =>
   intro m hn hs
   obtain ⟨h1, h2⟩ := List.nodup_cons.1 hn
   have hx := hs x (by simp)
   have hl := List.length_erase_of_mem hx
   have hpos : 0 < m.length := List.length_pos_of_mem hx
   have := ih (m.erase x) h2 fun y hy => (List.mem_erase_of_ne (fun e : y = x => h1 (by rw [← e]; exact hy))).2 (hs y (by simp [hy]))
   rw [List.length_cons]
   omega
 have hs := key L ((List.range n).erase b) h.nd fun x hx => (List.mem_erase_of_ne (fun e : x = b => hno (by rw [← e]; exact hx))).2 (List.mem_range.2 (h.rng x hx))
 rw [List.length_erase_of_mem (List.mem_range.2 hb), List.length_range, h.len] at hs
 omega
def Ys (L : List Nat) (x : Nat) : Nat := L.idxOf x
theorem xM {L : List Nat} {x : Nat} (h : x ∈ L) : Ys L x < L.length := List.idxOf_lt_length_of_mem h
theorem yb {L : List Nat} {x : Nat} (h : x ∈ L) : nth L (Ys L x) = x := by
 rw [zi (xM h)]
 exact List.getElem_idxOf _
theorem Uj {L : List Nat} (hn : L.Nodup) {i : Nat} (hi : i < L.length) : Ys L (nth L i) = i := by
 rw [zi hi]
 exact hn.idxOf_getElem i hi
theorem Yt {L : List Nat} {x y : Nat} (hx : x ∈ L) (hy : y ∈ L) (e : Ys L x = Ys L y) : x = y := by
 rw [← yb hx, e, yb hy]
theorem ziR.lt {R : Nat → Nat → Bool} {n : Nat} {L : List Nat} (h : ziR R n L) {a b : Nat} (ha : a < n) (hb : b < n) (hr : R a b = true) : Ys L a < Ys L b := by
 have ma := h.mem ha
 have mb := h.mem hb
 have := h.ord (Ys L a) (Ys L b) (by rw [← h.len]; exact xM ma) (by rw [← h.len]; exact xM mb)
 rw [yb ma, yb mb] at this
 exact this hr
structure VO (l : List OpV) (c : Int) : Prop where
 thin : ∀ i, i < l.length → (nth l i).key = c → zbC l i = false
 early : ∀ i, i < l.length → (nth l i).key = c → zam l i = false
 conf : UP l c = []
def nCl (l : List OpV) (c : Int) : Nat := (yp l c).length
noncomputable def zfI (l : List OpV) (c : Int) : List Nat := yy (yT (zeX l (yp l c))) (nCl l c) (nCl l c)
noncomputable def YC (l : List OpV) (c : Int) : List Nat := (zfI l c).flatMap fun j => (nth (yp l c) j).ops
def zc4 (l : List OpV) (c : Int) (i : Nat) : Nat := ((List.range (nCl l c)).find? fun j => decide (ZR l c j = Vc (nth l i))).getD 0
noncomputable def spL (l : List OpV) (c : Int) (i : Nat) : Nat := Ys (zfI l c) (zc4 l c i) * (l.length + 2) + if (nth l i).k = 1 then 0 else i + 1
section
variable {l : List OpV} {c : Int}
theorem zaY {j : Nat} (hj : j < (yp l c).length) : (nth (yp l c) j).ini = true → j = 0 ∧ ziz l c = true := by
 rw [Yj] at hj
 have h1 : nth (yp l c) j = _ := Xv hj
 rw [h1]
 show (nth (ZL l c l.length) j).1 = true → _
 unfold ZL at hj ⊢
 intro h
 by_cases h0 : ziz l c = true
 ·rw [if_pos h0] at h hj
  refine ⟨Classical.byContradiction fun hne => ?_, h0⟩
  obtain ⟨j, rfl⟩ : ∃ j', j = j' + 1 := ⟨j - 1, by omega⟩
  simp only [List.length_append, List.length_cons, List.length_nil] at hj
  rw [zi (by simp at hj ⊢; omega)] at h
  simp at h
 ·rw [if_neg h0] at h hj
  rw [List.nil_append] at h hj
  rw [zi hj] at h
  simp at h
theorem Vy (D : zU l) {j k : Nat} (hj : j < nCl l c) (hk : k < nCl l c) (e : ZR l c j = ZR l c k) : j = k := by
 have hn := zcM (c := c) D (Nat.le_refl l.length)
 unfold nCl at hj hk
 rw [Yj] at hj hk
 unfold ZR at e
 rw [zi hj, zi hk] at e
 refine (List.getElem_inj hn (h₀ := by simpa using hj) (h₁ := by simpa using hk)).1 ?_
 simpa using e
theorem YH (D : zU l) (V : VO l c) {i : Nat} (h1 : i < l.length) (h2 : (nth l i).key = c) (h4 : zM l i = true) : zc4 l c i < nCl l c ∧ ZR l c (zc4 l c i) = Vc (nth l i) := by
 have hex : ∃ j, j < nCl l c ∧ ZR l c j = Vc (nth l i) := by
  unfold nCl
  rw [Yj]
  unfold ZR
  rcases D.kind h1 with hk | hk
  ·obtain ⟨j, j1, j2⟩ := zcL D h1 h2 hk (xv hk h4) (V.thin i h1 h2)
   exact ⟨j, j1, by rw [j2, Yd hk]⟩
  ·have hm : (false, [i], (nth l i).arg) ∈ ZL l c l.length := Zd.2 (.inr ⟨i, h1, Zv.2 ⟨h2, hk, h4⟩, rfl⟩)
   obtain ⟨j, hj, e⟩ := List.getElem_of_mem hm
   exact ⟨j, hj, by rw [zi hj, e, Zs hk]⟩
 obtain ⟨j, j1, j2⟩ := hex
 unfold zc4
 cases hf : (List.range (nCl l c)).find? fun j => decide (ZR l c j = Vc (nth l i)) with
 | none =>
  have := List.find?_eq_none.1 hf j (List.mem_range.2 j1)
  rw [j2] at this
  simp at this
 | some z =>
  rw [List.find?_range_eq_some] at hf
  exact ⟨List.mem_range.1 hf.2.1, by simpa using hf.1⟩
theorem ziX (D : zU l) (V : VO l c) {j i : Nat} (hj : j < nCl l c) (hi : i ∈ (nth (yp l c) j).ops) : zc4 l c i = j := by
 obtain ⟨h1, h2, h3, h4⟩ := (yE D hj).1 hi
 obtain ⟨c1, c2⟩ := YH D V h1 h2 h4
 exact Vy D c1 hj (by rw [c2, h3])
theorem VC (D : zU l) (hw : ∀ i, i < l.length → 0 ≤ (nth l i).call ∧ (nth l i).call < (nth l i).ret) (V : VO l c) : (∀ e ∈ zeX l (yp l c), rkC l (nth (yp l c) e.1) < rkC l (nth (yp l c) e.2)) ∧ ziR (yT (zeX l (yp l c))) (nCl l c) (zfI l c) := by
 have h := zhU (l := l) (C := yp l c) (fun a j haj hj => zc2.1 V.conf a (by omega) (by omega) j haj hj) (fun j hj h => (zaY hj h).1) (fun j hj => by
  have h0 := Vx D hj
  have m1 := (yE D hj).1 (zbZ (l := l) h0)
  have m2 := (yE D hj).1 (zcn (l := l) h0)
  have w1 := hw _ m1.1
  have w2 := hw _ m2.1
  refine ⟨?_, w2.1⟩
  unfold WJ ZO
  split <;> omega)
 exact ⟨h, zdP (ZC (f := fun j => rkC l (nth (yp l c) j)) h)⟩
theorem xm (D : zU l) (hw : ∀ i, i < l.length → 0 ≤ (nth l i).call ∧ (nth l i).call < (nth l i).ret) (V : VO l c) {i : Nat} : i ∈ YC l c ↔ i < l.length ∧ (nth l i).key = c ∧ zM l i = true := by
 obtain ⟨_, E⟩ := VC D hw V
 unfold YC
 rw [List.mem_flatMap]
 constructor
 ·rintro ⟨j, hj, hi⟩
  obtain ⟨h1, h2, h3, h4⟩ := (yE D (E.rng j hj)).1 hi
  exact ⟨h1, h2, h4⟩
 ·rintro ⟨h1, h2, h4⟩
  obtain ⟨c1, c2⟩ := YH D V h1 h2 h4
  exact ⟨_, E.mem c1, (yE D c1).2 ⟨h1, h2, c2.symm, h4⟩⟩
theorem zej (D : zU l) (V : VO l c) {j i : Nat} (hj : j < nCl l c) (hi : i ∈ (nth (yp l c) j).ops) : spL l c i = Ys (zfI l c) j * (l.length + 2) + if (nth l i).k = 1 then 0 else i + 1 := by
 unfold spL
 rw [ziX D V hj hi]
theorem Uz {i : Nat} (h : i < l.length) : (if (nth l i).k = 1 then 0 else i + 1) < l.length + 2 := by split <;> omega
theorem zgZ {a b B x y : Nat} (h : a < b) (hx : x < B) : a * B + x < b * B + y := by
 have := Nat.mul_le_mul_right B (show a + 1 ≤ b by omega)
 rw [Nat.succ_mul] at this
 omega
theorem Uv (D : zU l) (hw : ∀ i, i < l.length → 0 ≤ (nth l i).call ∧ (nth l i).call < (nth l i).ret) (V : VO l c) : (YC l c).Pairwise fun a b => spL l c a < spL l c b := by
 obtain ⟨_, E⟩ := VC D hw V
 unfold YC
 rw [List.pairwise_flatMap]
 constructor
 ·intro j hj
  have hjn := E.rng j hj
  have hrd : ∀ v, (YA l c v l.length).Pairwise fun a b => a < b ∧ (nth l a).k = 0 ∧ (nth l b).k = 0 := fun v => by
   have h1 : (YA l c v l.length).Pairwise fun a b => a < b := List.pairwise_lt_range.sublist List.filter_sublist
   refine h1.imp_of_mem fun ha hb hab => ⟨hab, ?_, ?_⟩
   ·exact (yz.1 (YU.1 ha).2).1
   ·exact (yz.1 (YU.1 hb).2).1
  have hp : (nth (yp l c) j).ops.Pairwise fun a b => (if (nth l a).k = 1 then 0 else a + 1) < if (nth l b).k = 1 then 0 else b + 1 := by
   rcases Zj hjn with ⟨h0, h1, h2⟩ | ⟨w, w1, w2, h1, h2⟩
   ·rw [h2]
    refine (hrd 0).imp fun h => ?_
    rw [if_neg (by omega), if_neg (by omega)]; omega
   ·rw [h2]
    refine List.pairwise_cons.2 ⟨fun b hb => ?_, (hrd _).imp fun h => ?_⟩
    ·have := (yz.1 (YU.1 hb).2).1
     rw [if_pos (Zv.1 w2).2.1, if_neg (by omega)]; omega
    ·rw [if_neg (by omega), if_neg (by omega)]; omega
  refine hp.imp_of_mem fun ha hb h => ?_
  rw [zej D V hjn ha, zej D V hjn hb]
  omega
 ·rw [List.pairwise_iff_getElem]
  intro p q hp hq hpq x hx y hy
  have h1 := E.rng _ (List.getElem_mem hp)
  have h2 := E.rng _ (List.getElem_mem hq)
  rw [zej D V h1 hx, zej D V h2 hy]
  have e1 := Uj E.nd hp
  have e2 := Uj E.nd hq
  rw [zi hp] at e1
  rw [zi hq] at e2
  rw [e1, e2]
  exact zgZ hpq (Uz ((yE D h1).1 hx).1)
theorem ziD (D : zU l) (hw : ∀ i, i < l.length → 0 ≤ (nth l i).call ∧ (nth l i).call < (nth l i).ret) (V : VO l c) {i k : Nat} (hi : i < nCl l c) (hk : k < nCl l c) (hne : i ≠ k) (h : zhS l (nth (yp l c) i) (nth (yp l c) k) = true) : Ys (zfI l c) i < Ys (zfI l c) k :=
 (VC D hw V).2.lt hi hk (xN.2 (.one (zbl.2 ⟨hi, hk, hne, h⟩)))
theorem zjn (D : zU l) (hc : ∀ i j, i < l.length → j < l.length → (nth l i).call < (nth l j).call → i < j) (hw : ∀ i, i < l.length → 0 ≤ (nth l i).call ∧ (nth l i).call < (nth l i).ret) (V : VO l c) {i k : Nat} (hi : i ∈ YC l c) (hk : k ∈ YC l c) (hb : bef l i k = true) : spL l c i < spL l c k := by
 obtain ⟨i1, i2, i4⟩ := (xm D hw V).1 hi
 obtain ⟨k1, k2, k4⟩ := (xm D hw V).1 hk
 obtain ⟨ci, vi⟩ := YH D V i1 i2 i4
 obtain ⟨ck, vk⟩ := YH D V k1 k2 k4
 have mi := (yE D ci).2 ⟨i1, i2, vi.symm, i4⟩
 have mk := (yE D ck).2 ⟨k1, k2, vk.symm, k4⟩
 have hcall := zaW (fun i h => (hw i h).2) i1 hb
 have hik := hc i k i1 k1 hcall
 have hbf := hb
 unfold bef at hbf
 simp only [Bool.and_eq_true, decide_eq_true_eq] at hbf
 unfold spL
 by_cases e : zc4 l c i = zc4 l c k
 ·rw [e]
  have hv : Vc (nth l i) = Vc (nth l k) := by rw [← vi, ← vk, e]
  rcases D.kind i1 with ki | ki
  ·rcases D.kind k1 with kk | kk
   ·rw [if_neg (by omega), if_neg (by omega)]; omega
   ·exfalso
    rw [Yd ki, Zs kk] at hv
    have he := V.early i i1 i2
    have e1 := zg8 D k1 kk
    rw [k2, ← hv, ← i2] at e1
    have ha := D.arg k1 kk
    unfold zam at he
    rw [e1, decide_eq_true ki, hbf.1, decide_eq_true (show (nth l i).res ≠ 0 by omega)] at he
    have he : bef l i k = false := by simpa using he
    rw [hb] at he
    cases he
  ·rcases D.kind k1 with kk | kk
   ·rw [if_pos ki, if_neg (by omega)]; omega
   ·exfalso
    rw [Zs ki, Zs kk] at hv
    have := D.uniq i1 k1 ki kk (i2.trans k2.symm) hv
    omega
 ·refine zgZ (ziD D hw V ci ck e ?_) (Uz i1)
  unfold zhS
  rw [Bool.or_eq_true, decide_eq_true_eq]
  refine .inr ?_
  have h1 := zfJ (l := l) mi
  have h2 := zg1 (l := l) mk
  have h3 : ZO (nth l i) = (nth l i).ret := by unfold ZO; rw [hbf.1]; rfl
  omega
theorem zjm (D : zU l) (hw : ∀ i, i < l.length → 0 ≤ (nth l i).call ∧ (nth l i).call < (nth l i).ret) (V : VO l c) {r : Nat} (hr : r < l.length) (hrc : (nth l r).key = c) (h0 : (nth l r).k = 0) (hd : (nth l r).done = true) :
  ((nth l r).res = 0 ∧ ∀ w, wrI l c w → spL l c r < spL l c w) ∨ ∃ w, wrI l c w ∧ (nth l w).arg = (nth l r).res ∧ spL l c w < spL l c r ∧ ∀ w', wrI l c w' → w' ≠ w → spL l c w' < spL l c w ∨ spL l c r < spL l c w' := by
 obtain ⟨cr, vr⟩ := YH D V hr hrc (xK hd)
 rw [Yd h0] at vr
 by_cases hz : (nth l r).res = 0
 ·refine .inl ⟨hz, fun w hwi => ?_⟩
  obtain ⟨w1, w2, w3, w4⟩ := hwi
  obtain ⟨cw, vw⟩ := YH D V w1 w2 w4
  rw [Zs w3] at vw
  have ha := D.arg w1 w3
  have hne : zc4 l c r ≠ zc4 l c w := fun e => by rw [e, vw] at vr; omega
  unfold spL
  refine zgZ (ziD D hw V cr cw hne ?_) (Uz hr)
  unfold zhS
  rw [Bool.or_eq_true]
  left
  rcases Zj cr with ⟨h0, h1, h2⟩ | ⟨u, u1, u2, h1, h2⟩
  ·rw [h2]
  ·exact absurd (by rw [← h1, vr, hz]) (D.arg u1 (Zv.1 u2).2.1)
 ·have ht := V.thin r hr hrc
  unfold zbC at ht
  rw [decide_eq_true h0, hd, decide_eq_true hz] at ht
  simp only [Bool.true_and] at ht
  cases hwx : wIx l (nth l r).key (nth l r).res with
  | none => rw [hwx] at ht; cases ht
  | some w =>
   obtain ⟨w1, w2, _⟩ := Ze hwx
   rw [ZJ] at w2
   obtain ⟨w2, w3, w5⟩ := w2
   have w4 := zdy hr h0 hd w1 w2 w3 w5
   have wc : (nth l w).key = c := w3.trans hrc
   obtain ⟨cw, vw⟩ := YH D V w1 wc w4
   rw [Zs w2] at vw
   have hsame : zc4 l c w = zc4 l c r := Vy D cw cr (by rw [vw, vr, w5])
   refine .inr ⟨w, ⟨w1, wc, w2, w4⟩, w5, ?_, ?_⟩
   ·unfold spL
    rw [hsame, if_pos w2, if_neg (by omega)]; omega
   ·rintro w' ⟨x1, x2, x3, x4⟩ hne
    obtain ⟨cx, vx⟩ := YH D V x1 x2 x4
    rw [Zs x3] at vx
    have hdif : zc4 l c w' ≠ zc4 l c w := fun e => by
     rw [e, vw] at vx
     exact hne (D.uniq x1 w1 x3 w2 (x2.trans wc.symm) vx.symm)
    have E := (VC D hw V).2
    have hpd : Ys (zfI l c) (zc4 l c w') ≠ Ys (zfI l c) (zc4 l c w) := fun e => hdif (Yt (E.mem cx) (E.mem cw) e)
    rcases Nat.lt_or_gt_of_ne hpd with h | h
    ·left; unfold spL; exact zgZ h (Uz x1)
    ·right; unfold spL; rw [← hsame]; exact zgZ h (Uz hr)
end
end Go.Proofs.Ytbeebjdnapkhhaa
/-
 A linearization of a history without violations (linear.linearization), in plain Lean.
-/
namespace Go.Proofs.Ytbeebjdnapkhhaa
set_option linter.unusedVariables false

def zim (h : Nat → Nat) (L : List Nat) : Nat := L.foldr (fun x m => max (h x) m) 0
theorem zbD {h : Nat → Nat} {x : Nat} : ∀ {L : List Nat}, x ∈ L → h x ≤ zim h L
 | y :: L, hx => by
  show h x ≤ max (h y) (zim h L)
  rcases List.mem_cons.1 hx with rfl | hx
  ·omega
  ·have := zbD (h := h) hx; omega
theorem zdx {h : Nat → Nat} : ∀ (L : List Nat), zim h L = 0 ∨ ∃ x ∈ L, h x = zim h L
 | [] => .inl rfl
 | y :: L => by
  show max (h y) (zim h L) = 0 ∨ ∃ x ∈ y :: L, h x = max (h y) (zim h L)
  rcases Nat.le_total (zim h L) (h y) with hle | hle
  ·exact .inr ⟨y, by simp, by omega⟩
  ·rcases zdx (h := h) L with e | ⟨x, hx, e⟩
   ·by_cases h0 : h y = 0
    ·left; omega
    ·exact .inr ⟨y, by simp, by omega⟩
   ·exact .inr ⟨x, by simp [hx], by omega⟩
theorem Ya {α : Type} [BEq α] [LawfulBEq α] : ∀ {l m : List α}, l.Nodup → (∀ x ∈ l, x ∈ m) → l.length ≤ m.length
 | [], m, _, _ => Nat.zero_le _
 | x :: l, m, hn, hs => by
  have h1 := List.nodup_cons.1 hn
  have hx := hs x (by simp)
  have hl := List.length_erase_of_mem hx
  have hpos : 0 < m.length := List.length_pos_of_mem hx
  have := Ya (m := m.erase x) h1.2 fun y hy => (List.mem_erase_of_ne (fun e : y = x => h1.1 (by rw [← e]; exact hy))).2 (hs y (by simp [hy]))
  rw [List.length_cons]
  omega
def xP (l : List OpV) : List Nat := (List.range l.length).filter (zM l)
def zcU (l : List OpV) (i : Nat) : Nat := Ys (xP l) i
def zfn (l : List OpV) (row : List Nat) (k : Nat) : Prs := (List.range k).map fun i => (zcU l (nth row i), zcU l (nth row (i + 1)))
def zki (l : List OpV) (row : List Nat) : Prs := zfn l row (row.length - 1)
noncomputable def zdX (l : List OpV) (K : List Int) : Prs := K.flatMap fun c => zki l (YC l c)
def rtR (l : List OpV) (a k : Nat) : Prs := ((List.range k).filter fun b => bef l (nth (xP l) a) (nth (xP l) b)).map fun b => (a, b)
def rtT (l : List OpV) (a : Nat) : Prs := (List.range a).flatMap fun a => rtR l a (xP l).length
noncomputable def zgj (l : List OpV) (K : List Int) : Prs := zdX l K ++ rtT l (xP l).length
noncomputable def zhc (l : List OpV) (K : List Int) : List Nat := yy (yT (zgj l K)) (xP l).length (xP l).length
noncomputable def WZ (l : List OpV) (K : List Int) : List Nat := (zhc l K).map fun a => nth (xP l) a
theorem zgP (l : List OpV) (row : List Nat) (k : Nat) : zfn l row (k + 1) = zfn l row k ++ [(zcU l (nth row k), zcU l (nth row (k + 1)))] := by
 unfold zfn; rw [List.range_succ, List.map_append]; rfl
theorem zeg (l : List OpV) (row : List Nat) (k : Nat) : (zfn l row k).length = k := by simp [zfn]
theorem zh7 (l : List OpV) (a k : Nat) : rtR l a (k + 1) = rtR l a k ++ if bef l (nth (xP l) a) (nth (xP l) k) = true then [(a, k)] else [] := by
 unfold rtR
 rw [List.range_succ, List.filter_append, List.map_append]
 congr 1
 by_cases h : bef l (nth (xP l) a) (nth (xP l) k) = true
 ·rw [if_pos h, List.filter_cons_of_pos (by exact h)]; rfl
 ·rw [if_neg h, List.filter_cons_of_neg (by exact h)]; rfl
theorem zeh (l : List OpV) (a : Nat) : rtT l (a + 1) = rtT l a ++ rtR l a (xP l).length := by
 unfold rtT
 rw [List.range_succ, List.flatMap_append]
 simp
theorem zgT (l : List OpV) (a k : Nat) : (rtR l a k).length ≤ k := by
 unfold rtR
 rw [List.length_map]
 exact Nat.le_trans (List.length_filter_le _ _) (by simp)
theorem zgU (l : List OpV) : ∀ i, (rtT l i).length ≤ i * (xP l).length
 | 0 => by simp [rtT]
 | i + 1 => by
  rw [zeh, List.length_append]
  have := zgU l i
  have := zgT l i (xP l).length
  rw [Nat.succ_mul]; omega
theorem ya {l : List OpV} {i : Nat} : i ∈ xP l ↔ i < l.length ∧ zM l i = true := by unfold xP; rw [List.mem_filter, List.mem_range]
theorem zf8 (l : List OpV) : (xP l).Nodup := List.nodup_range.sublist List.filter_sublist
theorem zi7 (l : List OpV) : (xP l).length ≤ l.length := by unfold xP; exact Nat.le_trans (List.length_filter_le _ _) (by simp)
theorem xL {l : List OpV} {i : Nat} (h : i ∈ xP l) : zcU l i < (xP l).length := xM h
theorem Xc {l : List OpV} {i : Nat} (h : i ∈ xP l) : nth (xP l) (zcU l i) = i := yb h
theorem zdn {l : List OpV} {a : Nat} (h : a < (xP l).length) : zcU l (nth (xP l) a) = a := Uj (zf8 l) h
section
variable {l : List OpV} {K : List Int}
theorem zdt {a b : Nat} : (a, b) ∈ rtT l (xP l).length ↔ a < (xP l).length ∧ b < (xP l).length ∧ bef l (nth (xP l) a) (nth (xP l) b) = true := by
 unfold rtT
 rw [List.mem_flatMap]
 constructor
 ·rintro ⟨i', h1, h2⟩
  unfold rtR at h2
  obtain ⟨k', h3, h4⟩ := List.mem_map.1 h2
  obtain ⟨h5, h6⟩ := List.mem_filter.1 h3
  simp only [Prod.mk.injEq] at h4
  obtain ⟨rfl, rfl⟩ := h4
  exact ⟨List.mem_range.1 h1, List.mem_range.1 h5, h6⟩
 ·rintro ⟨h1, h2, h3⟩
  exact ⟨a, List.mem_range.2 h1, List.mem_map.2 ⟨b, List.mem_filter.2 ⟨List.mem_range.2 h2, h3⟩, rfl⟩⟩
theorem Vh {x : Nat × Nat} : x ∈ zdX l K ↔ ∃ c ∈ K, ∃ i, i + 1 < (YC l c).length ∧ x = (zcU l (nth (YC l c) i), zcU l (nth (YC l c) (i + 1))) := by
 unfold zdX zki zfn
 rw [List.mem_flatMap]
 constructor
 ·rintro ⟨c, hc, h⟩
  obtain ⟨i, hi, e⟩ := List.mem_map.1 h
  exact ⟨c, hc, i, by have := List.mem_range.1 hi; omega, e.symm⟩
 ·rintro ⟨c, hc, i, hi, e⟩
  exact ⟨c, hc, List.mem_map.2 ⟨i, List.mem_range.2 (by omega), e.symm⟩⟩
structure H21 (l : List OpV) : Prop where
 dom : zU l
 ord : ∀ i j, i < l.length → j < l.length → (nth l i).call < (nth l j).call → i < j
 wf : ∀ i, i < l.length → 0 ≤ (nth l i).call ∧ (nth l i).call < (nth l i).ret
theorem zei (H : H21 l) {c : Int} (V : VO l c) : (YC l c).length ≤ l.length := by
 have hn : (YC l c).Nodup := (Uv H.dom H.wf V).imp fun h e => by rw [e] at h; omega
 have := Ya (m := List.range l.length) hn fun x hx => List.mem_range.2 ((xm H.dom H.wf V).1 hx).1
 simpa using this
theorem zdY (H : H21 l) (V : ∀ c ∈ K, VO l c) : ∀ i, i ≤ K.length → (zdX l (K.take i)).length ≤ i * l.length
 | 0, _ => by simp [zdX]
 | i + 1, hi => by
  have h1 := zdY H V i (by omega)
  have h2 := zei H (V _ (zj (l := K) (i := i) (by omega)))
  rw [xR (by omega)]
  unfold zdX at h1 ⊢
  rw [List.flatMap_append, List.length_append, List.flatMap_singleton, Nat.succ_mul]
  have h3 : (zki l (YC l (nth K i))).length = (YC l (nth K i)).length - 1 := by unfold zki; rw [zeg]
  omega
theorem zgf {i : Nat} (hi : i < K.length) : zdX l (K.take (i + 1)) = zdX l (K.take i) ++ zki l (YC l (nth K i)) := by
 rw [xR hi]
 unfold zdX
 rw [List.flatMap_append, List.flatMap_singleton]
theorem ziJ (H : H21 l) {c : Int} (V : VO l c) {p q : Nat} (hq : q < (YC l c).length) (hpq : p < q) : spL l c (nth (YC l c) p) < spL l c (nth (YC l c) q) := by
 have := List.pairwise_iff_getElem.1 (Uv H.dom H.wf V) p q (by omega) hq hpq
 rw [zi hq, zi (by omega)]
 exact this
theorem zhN (H : H21 l) (V : ∀ c ∈ K, VO l c) (hK : ∀ i, i < l.length → (nth l i).key ∈ K) : ∃ f : Nat → Nat, (∀ i k, i < l.length → k < l.length → zM l i = true → zM l k = true → bef l i k = true → f i < f k) ∧
  ∀ i k, i < l.length → k < l.length → zM l i = true → zM l k = true → (nth l i).key = (nth l k).key → spL l (nth l i).key i < spL l (nth l i).key k → f i < f k := by
 obtain ⟨FK, hFK⟩ : ∃ FK : Nat → Nat, FK = fun a => spL l (nth l a).key a := ⟨_, rfl⟩
 have hkk : ∀ a b, a < l.length → b < l.length → zM l a = true → zM l b = true → (nth l a).key = (nth l b).key → bef l a b = true → FK a < FK b := fun a b ha hb ia ib e hbf => by
  rw [hFK]; dsimp only
  rw [← e]
  have V' := V _ (hK a ha)
  exact zjn H.dom H.ord H.wf V' ((xm H.dom H.wf V').2 ⟨ha, rfl, ia⟩) ((xm H.dom H.wf V').2 ⟨hb, e.symm, ib⟩) hbf
 obtain ⟨B, hB⟩ : ∃ B, B = zim FK (List.range l.length) + 1 := ⟨_, rfl⟩
 have hlt : ∀ a, a < l.length → FK a < B := fun a ha => by
  have := zbD (h := FK) (List.mem_range.2 ha)
  omega
 obtain ⟨S, hS⟩ : ∃ S : Nat → List Nat, S = fun a => (List.range l.length).filter fun b => zM l b && decide ((nth l b).key = (nth l a).key) && decide (FK b ≤ FK a) := ⟨_, rfl⟩
 have hSm : ∀ a b, b ∈ S a ↔ b < l.length ∧ zM l b = true ∧ (nth l b).key = (nth l a).key ∧ FK b ≤ FK a := fun a b => by
  rw [hS]; dsimp only
  rw [List.mem_filter, List.mem_range]
  simp only [Bool.and_eq_true, decide_eq_true_eq, and_assoc]
 obtain ⟨g, hg⟩ : ∃ g : Nat → Nat, g = fun a => zim (fun b => (nth l b).call.toNat) (S a) := ⟨_, rfl⟩
 have same : ∀ a b, a < l.length → b < l.length → (nth l a).key = (nth l b).key → FK a < FK b → g a * B + FK a < g b * B + FK b := fun a b ha hb hk h1 => by
  have h2 : g a ≤ g b := by
   rw [hg]; dsimp only
   rcases zdx (h := fun b => (nth l b).call.toNat) (S a) with e | ⟨x, hx, e⟩
   ·omega
   ·rw [← e]
    obtain ⟨x1, x2, x3, x4⟩ := (hSm a x).1 hx
    exact zbD (h := fun b => (nth l b).call.toNat) ((hSm b x).2 ⟨x1, x2, x3.trans hk, by omega⟩)
  have := Nat.mul_le_mul_right B h2
  omega
 refine ⟨fun a => g a * B + FK a, fun a b ha hb ia ib hbf => ?_, fun a b ha hb ia ib hk hs => ?_⟩
 ·dsimp only
  by_cases hk : (nth l a).key = (nth l b).key
  ·exact same a b ha hb hk (hkk a b ha hb ia ib hk hbf)
  ·have hbf' := hbf
   unfold bef at hbf
   simp only [Bool.and_eq_true, decide_eq_true_eq] at hbf
   have hwa := H.wf a ha
   have hwb := H.wf b hb
   have h1 : g a ≤ (nth l a).ret.toNat := by
    rw [hg]; dsimp only
    rcases zdx (h := fun b => (nth l b).call.toNat) (S a) with e | ⟨x, hx, e⟩
    ·omega
    ·rw [← e]
     obtain ⟨x1, x2, x3, x4⟩ := (hSm a x).1 hx
     have hwx := H.wf x x1
     by_cases hlt2 : (nth l a).ret < (nth l x).call
     ·exfalso
      have := hkk a x ha x1 ia x2 x3.symm (by unfold bef; simp [hbf.1, hlt2])
      omega
     ·omega
   have h2 : (nth l b).call.toNat ≤ g b := by
    rw [hg]; dsimp only
    exact zbD (h := fun b => (nth l b).call.toNat) ((hSm b b).2 ⟨hb, ib, rfl, Nat.le_refl _⟩)
   have h3 : g a + 1 ≤ g b := by omega
   have h4 := Nat.mul_le_mul_right B h3
   rw [Nat.succ_mul] at h4
   have := hlt a ha
   omega
 ·dsimp only
  refine same a b ha hb hk ?_
  rw [hFK]; dsimp only
  rw [← hk]; exact hs
theorem zjb (H : H21 l) (V : ∀ c ∈ K, VO l c) : ∀ e ∈ zgj l K, e.1 < (xP l).length ∧ e.2 < (xP l).length := by
 rintro ⟨a, b⟩ he
 rcases List.mem_append.1 he with he | he
 ·obtain ⟨c, hc, i, hi, e⟩ := Vh.1 he
  simp only [Prod.mk.injEq] at e
  obtain ⟨rfl, rfl⟩ := e
  have m1 := (xm H.dom H.wf (V c hc)).1 (zj (show i < (YC l c).length by omega))
  have m2 := (xm H.dom H.wf (V c hc)).1 (zj hi)
  exact ⟨xL (ya.2 ⟨m1.1, m1.2.2⟩), xL (ya.2 ⟨m2.1, m2.2.2⟩)⟩
 ·obtain ⟨h1, h2, _⟩ := zdt.1 he
  exact ⟨h1, h2⟩
theorem zck (H : H21 l) (V : ∀ c ∈ K, VO l c) (hK : ∀ i, i < l.length → (nth l i).key ∈ K) : ∃ f : Nat → Nat, ∀ e ∈ zgj l K, f e.1 < f e.2 := by
 obtain ⟨f, f1, f2⟩ := zhN H V hK
 refine ⟨fun a => f (nth (xP l) a), ?_⟩
 rintro ⟨a, b⟩ he
 dsimp only
 rcases List.mem_append.1 he with he | he
 ·obtain ⟨c, hc, i, hi, e⟩ := Vh.1 he
  simp only [Prod.mk.injEq] at e
  obtain ⟨rfl, rfl⟩ := e
  have m1 := (xm H.dom H.wf (V c hc)).1 (zj (show i < (YC l c).length by omega))
  have m2 := (xm H.dom H.wf (V c hc)).1 (zj hi)
  rw [Xc (ya.2 ⟨m1.1, m1.2.2⟩), Xc (ya.2 ⟨m2.1, m2.2.2⟩)]
  refine f2 _ _ m1.1 m2.1 m1.2.2 m2.2.2 (m1.2.1.trans m2.2.1.symm) ?_
  rw [m1.2.1]
  exact ziJ H (V c hc) hi (by omega)
 ·obtain ⟨h1, h2, h3⟩ := zdt.1 he
  have m1 := ya.1 (zj h1)
  have m2 := ya.1 (zj h2)
  exact f1 _ _ m1.1 m2.1 m1.2 m2.2 h3
theorem Yq (H : H21 l) (V : ∀ c ∈ K, VO l c) (hK : ∀ i, i < l.length → (nth l i).key ∈ K) : ziR (yT (zgj l K)) (xP l).length (zhc l K) := by
 obtain ⟨f, hf⟩ := zck H V hK
 exact zdP (ZC hf)
theorem zbd (H : H21 l) (V : ∀ c ∈ K, VO l c) (hK : ∀ i, i < l.length → (nth l i).key ∈ K) {i : Nat} : i ∈ WZ l K ↔ i < l.length ∧ zM l i = true := by
 have E := Yq H V hK
 unfold WZ
 rw [List.mem_map]
 constructor
 ·rintro ⟨a, ha, rfl⟩
  exact ya.1 (zj (E.rng a ha))
 ·intro h
  have := ya.2 h
  exact ⟨zcU l i, E.mem (xL this), Xc this⟩
theorem zd0 (H : H21 l) (V : ∀ c ∈ K, VO l c) (hK : ∀ i, i < l.length → (nth l i).key ∈ K) : (WZ l K).length = (xP l).length := by
 unfold WZ; rw [List.length_map]; exact (Yq H V hK).len
theorem zja (H : H21 l) (V : ∀ c ∈ K, VO l c) (hK : ∀ i, i < l.length → (nth l i).key ∈ K) : (WZ l K).Nodup := by
 have E := Yq H V hK
 unfold WZ List.Nodup
 rw [List.pairwise_map]
 refine E.nd.imp_of_mem fun ha hb hab e => hab ?_
 rw [← zdn (E.rng _ ha), e, zdn (E.rng _ hb)]
noncomputable def zbG (l : List OpV) (K : List Int) (i : Nat) : Nat := Ys (zhc l K) (zcU l i)
theorem zjq (H : H21 l) (V : ∀ c ∈ K, VO l c) (hK : ∀ i, i < l.length → (nth l i).key ∈ K) {p : Nat} (hp : p < (WZ l K).length) : zbG l K (nth (WZ l K) p) = p := by
 have E := Yq H V hK
 have hp' : p < (zhc l K).length := by unfold WZ at hp; simpa using hp
 have e : nth (WZ l K) p = nth (xP l) (nth (zhc l K) p) := by
  unfold WZ at hp ⊢; rw [zi hp, zi hp', List.getElem_map]
 unfold zbG
 rw [e, zdn (E.rng _ (zj hp')), Uj E.nd hp']
theorem zel (H : H21 l) (V : ∀ c ∈ K, VO l c) (hK : ∀ i, i < l.length → (nth l i).key ∈ K) {a b : Nat} (ha : a < l.length) (hb : b < l.length) (ia : zM l a = true) (ib : zM l b = true) {c : Int} (ka : (nth l a).key = c) (kb : (nth l b).key = c) (h : spL l c a < spL l c b) : zbG l K a < zbG l K b := by
 have E := Yq H V hK
 have hc : c ∈ K := by rw [← ka]; exact hK a ha
 have V' := V c hc
 have ma := (xm H.dom H.wf V').2 ⟨ha, ka, ia⟩
 have mb := (xm H.dom H.wf V').2 ⟨hb, kb, ib⟩
 have reach : ∀ d p, p + d + 1 < (YC l c).length → zhj (zgj l K) (zcU l (nth (YC l c) p)) (zcU l (nth (YC l c) (p + d + 1))) := by
  intro d
  induction d with
  | zero => intro p hp; exact .one (List.mem_append_left _ (Vh.2 ⟨c, hc, p, hp, rfl⟩))
  | succ d ih =>
   intro p hp
   refine .step (b := zcU l (nth (YC l c) (p + 1))) (List.mem_append_left _ (Vh.2 ⟨c, hc, p, by omega, rfl⟩)) ?_
   have := ih (p + 1) (by omega)
   rw [show p + 1 + d + 1 = p + (d + 1) + 1 by omega] at this
   exact this
 have hpa := xM ma
 have hpb := xM mb
 have hlt : Ys (YC l c) a < Ys (YC l c) b := by
  refine Nat.lt_of_not_le fun hle => ?_
  rcases Nat.lt_or_eq_of_le hle with h2 | h2
  ·have := ziJ H V' hpa h2
   rw [yb ma, yb mb] at this
   omega
  ·have := Yt mb ma h2
   subst this
   omega
 have h1 := reach (Ys (YC l c) b - Ys (YC l c) a - 1) (Ys (YC l c) a) (by omega)
 rw [show Ys (YC l c) a + (Ys (YC l c) b - Ys (YC l c) a - 1) + 1 = Ys (YC l c) b by omega, yb ma, yb mb] at h1
 exact E.lt (xL (ya.2 ⟨ha, ia⟩)) (xL (ya.2 ⟨hb, ib⟩)) (xN.2 h1)
theorem zd1 (H : H21 l) (V : ∀ c ∈ K, VO l c) (hK : ∀ i, i < l.length → (nth l i).key ∈ K) : zhk l (zbG l K) where
 rt i k hi hk ii ik hb := by
  have E := Yq H V hK
  have mi := ya.2 ⟨hi, ii⟩
  have mk := ya.2 ⟨hk, ik⟩
  refine E.lt (xL mi) (xL mk) (xN.2 (.one (List.mem_append_right _ (zdt.2 ⟨xL mi, xL mk, ?_⟩))))
  rw [Xc mi, Xc mk]; exact hb
 rd r hr h0 hd := by
  have V' := V _ (hK r hr)
  have ir := xK hd
  rcases zjm H.dom H.wf V' hr rfl h0 hd with ⟨e, h⟩ | ⟨w, hw, ha, hlt, ho⟩
  ·exact .inl ⟨e, fun w hw => Nat.le_of_lt (zel H V hK hr hw.1 ir hw.2.2.2 rfl hw.2.1 (h w hw))⟩
  ·refine .inr ⟨w, hw, ha, Nat.le_of_lt (zel H V hK hw.1 hr hw.2.2.2 ir hw.2.1 rfl hlt), fun w' hw' hne => ?_⟩
   rcases ho w' hw' hne with h | h
   ·exact .inl (zel H V hK hw'.1 hw.1 hw'.2.2.2 hw.2.2.2 hw'.2.1 hw.2.1 h)
   ·exact .inr (zel H V hK hr hw'.1 ir hw'.2.2.2 rfl hw'.2.1 h)
theorem zjp (H : H21 l) (V : ∀ c ∈ K, VO l c) (hK : ∀ i, i < l.length → (nth l i).key ∈ K) {i k : Nat} (hi : i < l.length) (hk : k < l.length) (ii : zM l i = true) (ik : zM l k = true) (e : zbG l K i = zbG l K k) : i = k := by
 have E := Yq H V hK
 have mi := ya.2 ⟨hi, ii⟩
 have mk := ya.2 ⟨hk, ik⟩
 have := Yt (E.mem (xL mi)) (E.mem (xL mk)) e
 exact Yt mi mk this
end
end Go.Proofs.Ytbeebjdnapkhhaa
/-
 linear.Check's verdict, in plain Lean.
-/
namespace Go.Proofs.Ytbeebjdnapkhhaa
set_option linter.unusedVariables false

theorem zak {l : List OpV} (h : xC l = 0) : l.length ≤ 300 ∧ ∀ j, j < l.length → zbF l j = 0 := by
 unfold xC at h
 split at h
 ·cases h
 ·refine ⟨by omega, fun j hj => ?_⟩
  have key : ∀ (n k : Nat), zP l k n = 0 → ∀ j, k ≤ j → j < k + n → zbF l j = 0 := by
   intro n
   induction n with
   | zero => intro k _ j h1 h2; omega
   | succ n ih =>
    intro k hk j h1 h2
    unfold zP at hk
    split at hk
    ·rename_i he
     rcases Nat.eq_or_lt_of_le h1 with e | e
     ·rw [← e]; exact he
     ·exact ih (k + 1) hk j e (by omega)
    ·rename_i he; exact absurd hk he
  exact key l.length 0 h j (Nat.zero_le _) (by omega)
theorem zaX {l : List OpV} (h : xC l = 0) {j : Nat} (hj : j < l.length) : wfB (nth l j) = true ∧ (0 < j → (nth l (j - 1)).call < (nth l j).call) := by
 have := (zak h).2 j hj
 unfold zbF at this
 by_cases hw : wfB (nth l j) = false
 ·rw [if_pos hw] at this; cases this
 ·rw [if_neg hw] at this
  refine ⟨by simpa using hw, fun h0 => ?_⟩
  by_cases hc : 0 < j ∧ (nth l j).call ≤ (nth l (j - 1)).call
  ·rw [if_pos hc] at this; cases this
  ·omega
theorem zbO {l : List OpV} (h : xC l = 0) {i : Nat} : ∀ {d : Nat}, i + d + 1 < l.length → (nth l i).call < (nth l (i + d + 1)).call
 | 0, hd => (zaX h hd).2 (by omega)
 | d + 1, hd => by
  have h1 := zbO h (i := i) (d := d) (by omega)
  have h2 := (zaX h hd).2 (by omega)
  rw [show i + (d + 1) + 1 - 1 = i + d + 1 by omega] at h2
  omega
theorem Vv {l : List OpV} (h : xC l = 0) (D : zU l) : H21 l where
 dom := D
 ord i j hi hj hc := by
  refine Nat.lt_of_not_le fun hle => ?_
  rcases Nat.lt_or_eq_of_le hle with h2 | h2
  ·have := zbO h (i := j) (d := i - j - 1) (by omega)
   rw [show j + (i - j - 1) + 1 = i by omega] at this
   omega
  ·subst h2; omega
 wf i hi := by
  have := (zaX h hi).1
  simp only [wfB, Bool.and_eq_true, decide_eq_true_eq] at this
  omega
theorem zg6 {l : List OpV} {c : Int} : (UE l c).cls = 0 ↔ VO l c := by
 unfold UE
 cases h1 : (List.range l.length).find? (zah l c) with
 | some i =>
  rw [List.find?_range_eq_some] at h1
  refine ⟨fun h => (by cases h), fun V => ?_⟩
  have := h1.1
  unfold zah at this
  rw [Bool.and_eq_true, decide_eq_true_eq] at this
  rw [V.thin i (List.mem_range.1 h1.2.1) this.1] at this
  cases this.2
 | none =>
  dsimp only
  cases h2 : (List.range l.length).find? (ZT l c) with
  | some i =>
   rw [List.find?_range_eq_some] at h2
   refine ⟨fun h => (by cases h), fun V => ?_⟩
   have := h2.1
   unfold ZT at this
   rw [Bool.and_eq_true, decide_eq_true_eq] at this
   rw [V.early i (List.mem_range.1 h2.2.1) this.1] at this
   cases this.2
  | none =>
   dsimp only
   by_cases h3 : UP l c = []
   ·rw [if_pos h3]
    refine ⟨fun _ => ⟨fun i hi hk => ?_, fun i hi hk => ?_, h3⟩, fun _ => rfl⟩
    ·have := List.find?_eq_none.1 h1 i (List.mem_range.2 hi)
     unfold zah at this
     rw [decide_eq_true hk, Bool.true_and] at this
     simpa using this
    ·have := List.find?_eq_none.1 h2 i (List.mem_range.2 hi)
     unfold ZT at this
     rw [decide_eq_true hk, Bool.true_and] at this
     simpa using this
   ·rw [if_neg h3]
    exact ⟨fun h => (by cases h), fun V => absurd V.conf h3⟩
def zff (l : List OpV) : Option Int := (yK l).find? fun c => decide ((UE l c).cls ≠ 0)
structure zkr where
 cls : Int
 arg : Int
 ord : List Nat
 ed : List (Nat × Nat)
noncomputable def zgk (l : List OpV) : zkr :=
 match zff l with
 | some c => ⟨(UE l c).cls, c, (UE l c).ord, (UE l c).ed⟩
 | none => ⟨0, 0, WZ l (yK l), []⟩
theorem UB {l : List OpV} : zff l = none ↔ ∀ c ∈ yK l, VO l c := by
 unfold zff
 rw [List.find?_eq_none]
 constructor
 ·intro h c hc
  have := h c hc
  exact zg6.1 (by simpa using this)
 ·intro h c hc
  have := zg6.2 (h c hc)
  simpa using this
theorem zjt {l : List OpV} {i : Nat} (hi : i < (yK l).length) (h : ∀ j, j < i → (UE l (nth (yK l) j)).cls = 0) (h2 : (UE l (nth (yK l) i)).cls ≠ 0) : zff l = some (nth (yK l) i) := by
 unfold zff
 rw [List.find?_eq_some_iff_getElem]
 refine ⟨by simpa using h2, i, hi, (zi hi).symm, fun j hj => ?_⟩
 have := h j hj
 rw [zi (by omega)] at this
 simpa using this
theorem zcc (l : List OpV) : ∀ i, i < l.length → (nth l i).key ∈ yK l := fun i hi => (ZV l _).2 ⟨_, zj hi, rfl⟩
theorem zeO {l : List OpV} : (zgk l).cls = 0 ↔ ∀ c ∈ yK l, VO l c := by
 unfold zgk
 rw [← UB]
 cases h : zff l with
 | none => exact ⟨fun _ => rfl, fun _ => rfl⟩
 | some c =>
  refine ⟨fun h2 => ?_, fun h2 => (by cases h2)⟩
  exfalso
  unfold zff at h
  have := List.find?_some h
  simp at this
  exact this h2
end Go.Proofs.Ytbeebjdnapkhhaa
/-
 The reference's verdict of layer 21, in plain Lean: it is the program's.
-/
namespace Go.Proofs.Ytbeebjdnapkhhaa
set_option linter.unusedVariables false

def zjU (l : List OpV) (c v w : Int) (i k : Nat) : Bool := decide ((nth l i).key = c) && (decide ((nth l k).key = c) && (decide (Vc (nth l i) = v) && (decide (Vc (nth l k) = w) && (zM l i && (zM l k && bef l i k)))))
def zfO (l : List OpV) (c v w : Int) : Bool := (List.range l.length).any fun i => (List.range l.length).any fun k => zjU l c v w i k
def zkL (l : List OpV) (c : Int) (i k : Nat) : Bool := decide ((nth l k).key = c) && (decide ((nth l k).k = 1) && (zM l k && (zfO l c (nth l i).arg (nth l k).arg && zfO l c (nth l k).arg (nth l i).arg)))
def zkM (l : List OpV) (c : Int) (i : Nat) : Bool := decide ((nth l i).key = c) && (decide ((nth l i).k = 1) && zM l i)
def zkK (l : List OpV) (c : Int) (i : Nat) : Bool := zkM l c i && (zfO l c (nth l i).arg 0 || (List.range i).any (zkL l c i))
def zha (l : List OpV) (c : Int) : Bool := (List.range l.length).any (zkK l c)
section
variable {l : List OpV} {c : Int}
theorem XQ {v w : Int} : zfO l c v w = true ↔ zjD l c v w := by
 unfold zfO zjD zhb
 rw [YT]
 simp only [YT]
 unfold zjU
 simp only [Bool.and_eq_true, decide_eq_true_eq]
 constructor
 ·rintro ⟨i, hi, k, hk, h1, h2, h3, h4, h5, h6, h7⟩
  exact ⟨i, k, ⟨hi, h1, h3, h5⟩, ⟨hk, h2, h4, h6⟩, h7⟩
 ·rintro ⟨i, k, ⟨hi, h1, h3, h5⟩, ⟨hk, h2, h4, h6⟩, h7⟩
  exact ⟨i, hi, k, hk, h1, h2, h3, h4, h5, h6, h7⟩
theorem zen {i : Nat} (hi : i < l.length) : zkM l c i = true ↔ wrI l c i := by
 unfold zkM wrI
 simp only [Bool.and_eq_true, decide_eq_true_eq]
 exact ⟨fun h => ⟨hi, h⟩, fun h => h.2⟩
theorem WG : zha l c = true ↔ zcP l c := by
 unfold zha zcP
 rw [YT]
 constructor
 ·rintro ⟨i, hi, h⟩
  unfold zkK at h
  rw [Bool.and_eq_true, zen hi, Bool.or_eq_true, XQ, YT] at h
  refine ⟨i, h.1, h.2.imp id ?_⟩
  rintro ⟨k, hk, h2⟩
  unfold zkL at h2
  simp only [Bool.and_eq_true, decide_eq_true_eq, XQ] at h2
  exact ⟨k, hk, ⟨by omega, h2.1, h2.2.1, h2.2.2.1⟩, h2.2.2.2.1, h2.2.2.2.2⟩
 ·rintro ⟨i, hi, h⟩
  refine ⟨i, hi.1, ?_⟩
  unfold zkK
  rw [Bool.and_eq_true, zen hi.1, Bool.or_eq_true, XQ, YT]
  refine ⟨hi, h.imp id ?_⟩
  rintro ⟨k, hk, hw, h1, h2⟩
  refine ⟨k, hk, ?_⟩
  unfold zkL
  simp only [Bool.and_eq_true, decide_eq_true_eq, XQ]
  exact ⟨hw.2.1, hw.2.2.1, hw.2.2.2, h1, h2⟩
theorem zfD {w : Nat} (hw : wrI l c w) : ∃ j, j < (yp l c).length ∧ ZR l c j = (nth l w).arg := by
 rw [Yj]
 have hm : (false, [w], (nth l w).arg) ∈ ZL l c l.length := Zd.2 (.inr ⟨w, hw.1, Zv.2 ⟨hw.2.1, hw.2.2.1, hw.2.2.2⟩, rfl⟩)
 obtain ⟨j, hj, e⟩ := List.getElem_of_mem hm
 exact ⟨j, hj, by unfold ZR; rw [zi hj, e]⟩
theorem ziZ (D : zU l) {b : Nat} (hb : zhb l c 0 b) : 0 < (yp l c).length ∧ ZR l c 0 = 0 ∧ (nth (yp l c) 0).ini = true := by
 have h0 : ziz l c = true := by
  obtain ⟨b1, b2, b3, b4⟩ := hb
  rcases D.kind b1 with hk | hk
  ·rw [Yd hk] at b3
   exact YE.2 ⟨b, b1, yz.2 ⟨hk, xv hk b4, b2, b3⟩⟩
  ·rw [Zs hk] at b3
   exact absurd b3 (D.arg b1 hk)
 have hm : (true, [], (0 : Int)) ∈ ZL l c l.length := Zd.2 (.inl ⟨h0, rfl⟩)
 obtain ⟨j, hj, e⟩ := List.getElem_of_mem hm
 have hj' : j < (yp l c).length := by rw [Yj]; exact hj
 have hi : (nth (yp l c) j).ini = true := by
  have h1 : nth (yp l c) j = _ := Xv hj
  rw [h1, zi hj, e]
 have := (zaY hj' hi).1
 subst this
 exact ⟨hj', by unfold ZR; rw [zi hj, e], hi⟩
theorem zfk (D : zU l) (h : zcP l c) : UP l c ≠ [] := by
 intro hc
 unfold UP at hc
 rw [zc2] at hc
 have hcf : ∀ a j, a < j → j < (yp l c).length → YI l (nth (yp l c) a) (nth (yp l c) j) = [] := fun a j haj hj => hc a (by omega) (by omega) j haj hj
 have hbf : ∀ {p q a b : Nat} {v w : Int}, p < (yp l c).length → q < (yp l c).length → ZR l c p = v → ZR l c q = w → zhb l c v a → zhb l c w b → bef l a b = true → WJ l (nth (yp l c) p).ops < Vi l (nth (yp l c) q).ops := fun {p q a b v w} hp hq vp vq ha hb hab => by
  have m1 := zfJ (l := l) ((yE D hp).2 (by rw [vp]; exact ha))
  have m2 := zg1 (l := l) ((yE D hq).2 (by rw [vq]; exact hb))
  unfold bef at hab
  simp only [Bool.and_eq_true, decide_eq_true_eq] at hab
  have : ZO (nth l a) = (nth l a).ret := by unfold ZO; rw [hab.1]; rfl
  omega
 obtain ⟨i, hwi, h⟩ := h
 obtain ⟨p, hp, vp⟩ := zfD hwi
 rcases h with ⟨a, b, ha, hb, hab⟩ | ⟨k, hki, hwk, ⟨a, b, ha, hb, hab⟩, ⟨a', b', ha', hb', hab'⟩⟩
 ·obtain ⟨q1, q2, q3⟩ := ziZ D hb
  have hlt := hbf hp q1 vp q2 ha hb hab
  have hp0 : p ≠ 0 := fun e => by
   subst e
   rw [q2] at vp
   exact D.arg hwi.1 hwi.2.2.1 vp.symm
  have := Zk.1 (hcf 0 p (by omega) hp)
  rw [q3] at this
  rcases this with h | h
  ·omega
  ·cases h.1
 ·obtain ⟨q, hq, vq⟩ := zfD hwk
  have h1 := hbf hp hq vp vq ha hb hab
  have h2 := hbf hq hp vq vp ha' hb' hab'
  have hpq : p ≠ q := fun e => by
   subst e
   rw [vp] at vq
   have := D.uniq hwi.1 hwk.1 hwi.2.2.1 hwk.2.2.1 (hwi.2.1.trans hwk.2.1.symm) vq
   omega
  rcases Nat.lt_or_gt_of_ne hpq with h | h
  ·rcases Zk.1 (hcf p q h hq) with h3 | h3 <;> omega
  ·rcases Zk.1 (hcf q p h hp) with h3 | h3 <;> omega
theorem zev (D : zU l) (hin : ∀ o ∈ l, zaT o) {a j : Nat} (haj : a < j) (hj : j < (yp l c).length) (h : YI l (nth (yp l c) a) (nth (yp l c) j) ≠ []) : zcP l c := by
 have ha : a < (yp l c).length := by omega
 have hn : ¬ (Vi l (nth (yp l c) a).ops ≤ WJ l (nth (yp l c) j).ops ∨ ((nth (yp l c) a).ini = false ∧ Vi l (nth (yp l c) j).ops ≤ WJ l (nth (yp l c) a).ops)) := fun h2 => h (Zk.2 h2)
 have hgo : ∀ {p q : Nat}, p < (yp l c).length → q < (yp l c).length → WJ l (nth (yp l c) p).ops < Vi l (nth (yp l c) q).ops → zjD l c (ZR l c p) (ZR l c q) := fun {p q} hp hq hlt => by
  have m1 := (yE D hp).1 (zbZ (l := l) (Vx D hp))
  have m2 := (yE D hq).1 (zcn (l := l) (Vx D hq))
  refine ⟨_, _, m1, m2, ?_⟩
  have o2 := hin _ (zj m2.1)
  unfold WJ Vi ZO at hlt
  unfold bef
  cases hd : (nth l (YL l (nth (yp l c) p).ops)).done with
  | true =>
   rw [hd] at hlt
   simp only [if_true] at hlt
   simpa using hlt
  | false =>
   rw [hd] at hlt
   simp only [Bool.false_eq_true, if_false] at hlt
   unfold zaT I64 at o2
   omega
 have hlt : WJ l (nth (yp l c) j).ops < Vi l (nth (yp l c) a).ops := Int.lt_of_not_ge fun h2 => hn (.inl h2)
 have g1 := hgo hj ha hlt
 have hcj := Zj hj
 rcases hcj with ⟨h0, h1, h2⟩ | ⟨w, w1, w2, h1, h2⟩
 ·exfalso
  have := (zaY hj (by rw [h2])).1
  omega
 have hww : wrI l c w := by rw [Zv] at w2; exact ⟨w1, w2⟩
 rcases Zj ha with ⟨k0, k1, k2⟩ | ⟨u, u1, u2, k1, k2⟩
 ·rw [h1, k1] at g1
  exact ⟨w, hww, .inl g1⟩
 have huu : wrI l c u := by rw [Zv] at u2; exact ⟨u1, u2⟩
 have hlt2 : WJ l (nth (yp l c) a).ops < Vi l (nth (yp l c) j).ops := Int.lt_of_not_ge fun h3 => hn (.inr ⟨by rw [k2], h3⟩)
 have g2 := hgo ha hj hlt2
 rw [h1, k1] at g1
 rw [h1, k1] at g2
 have hne : w ≠ u := fun e => by
  subst e
  have := Vy D ha hj (by rw [h1, k1])
  omega
 rcases Nat.lt_or_gt_of_ne hne with h3 | h3
 ·exact ⟨u, huu, .inr ⟨w, h3, hww, g2, g1⟩⟩
 ·exact ⟨w, hww, .inr ⟨u, h3, huu, g1, g2⟩⟩
theorem zjI (D : zU l) (hin : ∀ o ∈ l, zaT o) : UP l c = [] ↔ zha l c = false := by
 constructor
 ·intro h
  rw [Bool.eq_false_iff]
  intro h2
  exact zfk D (WG.1 h2) h
 ·intro h
  refine Classical.byContradiction fun hne => ?_
  obtain ⟨a, j, _, _, h3, h4, h5⟩ := zdI (l := l) (C := yp l c) (f := (yp l c).length) (i := 0) hne
  have := WG.2 (zev D hin h3 h4 (by rw [← h5]; exact hne))
  rw [h] at this
  cases this
end
end Go.Proofs.Ytbeebjdnapkhhaa
/-
 Linearizations as lists, in plain Lean: the reference's and the program's way to decide them; one exists where the verdict holds.
-/
namespace Go.Proofs.Ytbeebjdnapkhhaa
set_option linter.unusedVariables false

def Vg (l : List OpV) (key x : Int) : Bool := decide ((nth l x.toNat).key = key) && decide ((nth l x.toNat).k = 1)
def WR (l : List OpV) (key : Int) (o : List Int) : Int := o.foldl (fun v x => if Vg l key x = true then (nth l x.toNat).arg else v) 0
theorem UD (l : List OpV) (key : Int) (o : List Int) (x : Int) : WR l key (o ++ [x]) = if Vg l key x = true then (nth l x.toNat).arg else WR l key o := by
 unfold WR; rw [List.foldl_append]; rfl
theorem Zt (l : List OpV) (key : Int) (o : List Int) : ∀ i, i ≤ o.length → (WR l key (o.take i) = 0 ∧ ∀ j, j < i → Vg l key (nth o j) = false) ∨
  ∃ j, j < i ∧ Vg l key (nth o j) = true ∧ WR l key (o.take i) = (nth l (nth o j).toNat).arg ∧ ∀ q, j < q → q < i → Vg l key (nth o q) = false
 | 0, _ => .inl ⟨rfl, fun j hj => by omega⟩
 | i + 1, hi => by
  rw [xR (show i < o.length by omega), UD]
  by_cases h : Vg l key (nth o i) = true
  ·rw [if_pos h]
   exact .inr ⟨i, by omega, h, rfl, fun q h1 h2 => by omega⟩
  ·rw [if_neg h]
   have h' : Vg l key (nth o i) = false := by simpa using h
   rcases Zt l key o i (by omega) with ⟨h1, h2⟩ | ⟨j, h1, h2, h3, h4⟩
   ·refine .inl ⟨h1, fun j hj => ?_⟩
    by_cases e : j = i
    ·subst e; exact h'
    ·exact h2 j (by omega)
   ·refine .inr ⟨j, by omega, h2, h3, fun q q1 q2 => ?_⟩
    by_cases e : q = i
    ·subst e; exact h'
    ·exact h4 q q1 (by omega)
structure zhi (l : List OpV) (o : List Int) : Prop where
 rng : ∀ x ∈ o, 0 ≤ x ∧ x < l.length
 nd : o.Nodup
 inc : ∀ x ∈ o, zM l x.toNat = true
 all : ∀ v : Nat, v < l.length → zM l v = true → (v : Int) ∈ o
 val : ∀ i, i < o.length → (nth l (nth o i).toNat).k = 1 ∨ WR l (nth l (nth o i).toNat).key (o.take i) = (nth l (nth o i).toNat).res
 rt : ∀ i j, i < o.length → j < i → bef l (nth o i).toNat (nth o j).toNat = false
theorem zjc {o : List Int} (h : o.Nodup) {i j : Nat} (hi : i < o.length) (hj : j < o.length) (e : nth o i = nth o j) : i = j := by
 rw [zi hi, zi hj] at e
 exact (List.getElem_inj h).1 e
theorem zhO {o : List Int} {x : Int} (h : x ∈ o) : ∃ p, p < o.length ∧ nth o p = x := by
 obtain ⟨p, hp, e⟩ := List.getElem_of_mem h
 exact ⟨p, hp, by rw [zi hp, e]⟩
def zeW (o : List Int) (i : Nat) : Nat := o.idxOf (i : Int)
theorem zbk {o : List Int} {i : Nat} (h : (i : Int) ∈ o) : zeW o i < o.length := List.idxOf_lt_length_of_mem h
theorem yP {o : List Int} {i : Nat} (h : (i : Int) ∈ o) : nth o (zeW o i) = i := by rw [zi (zbk h)]; exact List.getElem_idxOf _
section
variable {l : List OpV} {o : List Int}
theorem Yo (D : zU l) {x : Nat} {c : Int} (hx : x < l.length) (hi : zM l x = true) : Vg l c (x : Int) = true ↔ wrI l c x := by
 unfold Vg wrI
 rw [Int.toNat_natCast, Bool.and_eq_true, decide_eq_true_eq, decide_eq_true_eq]
 exact ⟨fun h => ⟨hx, h.1, h.2, hi⟩, fun h => ⟨h.2.1, h.2.2.1⟩⟩
theorem zhi.tau (D : zU l) (hw : ∀ i, i < l.length → (nth l i).call < (nth l i).ret) (h : zhi l o) : zhk l (zeW o) := by
 have hm : ∀ i, i < l.length → zM l i = true → (i : Int) ∈ o := h.all
 have hcan : ∀ q, q < o.length → ∃ x : Nat, nth o q = x ∧ x < l.length ∧ zM l x = true ∧ zeW o x = q := fun q hq => by
  have hr := h.rng _ (zj hq)
  refine ⟨(nth o q).toNat, by omega, by omega, h.inc _ (zj hq), ?_⟩
  have e : (((nth o q).toNat : Nat) : Int) = nth o q := by omega
  have hmem : (((nth o q).toNat : Nat) : Int) ∈ o := by rw [e]; exact zj hq
  exact zjc h.nd (zbk hmem) hq (by rw [yP hmem, e])
 refine ⟨fun i k hi hk ii ik hb => ?_, fun r hr h0 hd => ?_⟩
 ·have mi := hm i hi ii
  have mk := hm k hk ik
  refine Nat.lt_of_not_le fun hle => ?_
  rcases Nat.lt_or_eq_of_le hle with h2 | h2
  ·have := h.rt _ _ (zbk mi) h2
   rw [yP mi, yP mk, Int.toNat_natCast, Int.toNat_natCast, hb] at this
   cases this
  ·have e : ((k : Int)) = i := by rw [← yP mk, h2, yP mi]
   have : k = i := by omega
   subst this
   have := zaW hw hk hb
   omega
 ·have ir := xK (l := l) hd
  have mr := hm r hr ir
  have hp := zbk mr
  have hv := h.val _ hp
  rw [yP mr, Int.toNat_natCast] at hv
  have hv := hv.resolve_left (by omega)
  rcases Zt l (nth l r).key o (zeW o r) (by omega) with ⟨h1, h2⟩ | ⟨j, h1, h2, h3, h4⟩
  ·refine .inl ⟨by rw [← hv, h1], fun w hw => ?_⟩
   have mw := hm w hw.1 hw.2.2.2
   refine Nat.le_of_not_lt fun hlt => ?_
   have := h2 _ hlt
   rw [yP mw, (Yo D hw.1 hw.2.2.2).2 hw] at this
   cases this
  ·obtain ⟨w, e, w1, w2, w3⟩ := hcan j (by omega)
   rw [e, Yo D w1 w2] at h2
   rw [e, Int.toNat_natCast] at h3
   refine .inr ⟨w, h2, by rw [← h3, hv], by omega, fun w' hw' hne => ?_⟩
   have mw' := hm w' hw'.1 hw'.2.2.2
   have hne2 : zeW o w' ≠ j := fun e2 => hne (by
    have e3 := yP mw'
    rw [e2, e] at e3
    omega)
   by_cases hq : zeW o w' < zeW o r
   ·left
    rw [w3]
    refine Nat.lt_of_not_le fun hle => ?_
    have := h4 _ (by omega) hq
    rw [yP mw', (Yo D hw'.1 hw'.2.2.2).2 hw'] at this
    cases this
   ·right
    have : zeW o w' ≠ zeW o r := fun e2 => by
     have e3 := yP mw'
     rw [e2, yP mr] at e3
     have : w' = r := by omega
     subst this
     have := hw'.2.2.1
     omega
    omega
theorem zhi.inj (h : zhi l o) {i k : Nat} (hi : i < l.length) (hk : k < l.length) (ii : zM l i = true) (ik : zM l k = true) (e : zeW o i = zeW o k) : i = k := by
 have e1 := yP (h.all i hi ii)
 rw [e, yP (h.all k hk ik)] at e1
 omega
theorem zhk.linO (D : zU l) {tau : Nat → Nat} (T : zhk l tau) (hrng : ∀ x ∈ o, 0 ≤ x ∧ x < l.length) (hnd : o.Nodup) (hinc : ∀ x ∈ o, zM l x.toNat = true) (hall : ∀ v : Nat, v < l.length → zM l v = true → (v : Int) ∈ o)
  (hpos : ∀ q, q < o.length → tau (nth o q).toNat = q) : zhi l o := by
 refine ⟨hrng, hnd, hinc, hall, fun i hi => ?_, fun i j hi hj => ?_⟩
 ·have hr := hrng _ (zj hi)
  have hii := hinc _ (zj hi)
  have hpi := hpos i hi
  obtain ⟨r, hre⟩ : ∃ r, (nth o i).toNat = r := ⟨_, rfl⟩
  have hrl : r < l.length := by omega
  rw [hre] at hii hpi ⊢
  rcases D.kind hrl with h0 | h1
  ·right
   have hd := xv h0 hii
   have hpw : ∀ j, j < i → Vg l (nth l r).key (nth o j) = true → ∃ w, wrI l (nth l r).key w ∧ tau w = j ∧ nth o j = w := fun j hj hs => by
    have hjr := hrng _ (zj (show j < o.length by omega))
    have hji := hinc _ (zj (show j < o.length by omega))
    refine ⟨(nth o j).toNat, ?_, hpos j (by omega), by omega⟩
    have e : nth o j = (((nth o j).toNat : Nat) : Int) := by omega
    rw [e] at hs
    exact (Yo D (by omega) hji).1 hs
   rcases T.rd r hrl h0 hd with ⟨e0, hf⟩ | ⟨w, hw, ha, hle, ho⟩
   ·rcases Zt l (nth l r).key o i (by omega) with ⟨g1, _⟩ | ⟨j, g1, g2, _, _⟩
    ·rw [g1, e0]
    ·obtain ⟨w, hw, hwj, _⟩ := hpw j g1 g2
     have := hf w hw
     omega
   ·have hwm := hall w hw.1 hw.2.2.2
    obtain ⟨q, hq, hqe⟩ := zhO hwm
    have hqp := hpos q hq
    rw [hqe, Int.toNat_natCast] at hqp
    have hwr : w ≠ r := fun e => by rw [e] at hw; have := hw.2.2.1; omega
    have hqi : q < i := by
     have : q ≠ i := fun e => by
      subst e
      rw [hqe, Int.toNat_natCast] at hre
      exact hwr hre
     omega
    have hsw : Vg l (nth l r).key (nth o q) = true := by rw [hqe]; exact (Yo D hw.1 hw.2.2.2).2 hw
    rcases Zt l (nth l r).key o i (by omega) with ⟨_, g2⟩ | ⟨j, g1, g2, g3, g4⟩
    ·rw [g2 q hqi] at hsw; cases hsw
    ·obtain ⟨w', hw', hwj, hwe⟩ := hpw j g1 g2
     by_cases e : w' = w
     ·rw [g3, hwe, Int.toNat_natCast, e, ha]
     ·exfalso
      rcases ho w' hw' e with h2 | h2
      ·have := g4 q (by omega) hqi
       rw [this] at hsw; cases hsw
      ·omega
  ·exact .inl h1
 ·cases hb : bef l (nth o i).toNat (nth o j).toNat with
  | false => rfl
  | true =>
   have hri := hrng _ (zj hi)
   have hrj := hrng _ (zj (show j < o.length by omega))
   have := T.rt _ _ (by omega) (by omega) (hinc _ (zj hi)) (hinc _ (zj (show j < o.length by omega))) hb
   rw [hpos i hi, hpos j (by omega)] at this
   omega
def yJ (L : List Nat) : List Int := L.map fun n : Nat => (n : Int)
theorem ZQ {L : List Nat} {i : Nat} (h : i < L.length) : nth (yJ L) i = ((nth L i : Nat) : Int) := by
 unfold yJ
 rw [zi (by simpa using h), zi h, List.getElem_map]
theorem YG (L : List Nat) : (yJ L).length = L.length := by simp [yJ]
theorem zj2 {K : List Int} (H : H21 l) (V : ∀ c ∈ K, VO l c) (hK : ∀ i, i < l.length → (nth l i).key ∈ K) : zhi l (yJ (WZ l K)) := by
 have hmem : ∀ x, x ∈ yJ (WZ l K) → ∃ n : Nat, x = n ∧ n ∈ WZ l K := fun x hx => by
  obtain ⟨n, hn, e⟩ := List.mem_map.1 hx
  exact ⟨n, e.symm, hn⟩
 refine (zd1 H V hK).linO H.dom (fun x hx => ?_) ?_ (fun x hx => ?_) (fun v hv hi => ?_) (fun q hq => ?_)
 ·obtain ⟨n, rfl, hn⟩ := hmem x hx
  have := ((zbd H V hK).1 hn).1
  omega
 ·unfold yJ List.Nodup
  rw [List.pairwise_map]
  exact (zja H V hK).imp fun h e => h (by omega)
 ·obtain ⟨n, rfl, hn⟩ := hmem x hx
  rw [Int.toNat_natCast]
  exact ((zbd H V hK).1 hn).2
 ·exact List.mem_map.2 ⟨v, (zbd H V hK).2 ⟨hv, hi⟩, rfl⟩
 ·rw [YG] at hq
  rw [ZQ hq, Int.toNat_natCast]
  exact zjq H V hK hq
theorem zkB (D : zU l) (hin : ∀ p ∈ l, zaT p) {c : Int} (h : zfq l c) : VO l c :=
 ⟨h.thin, h.early, (zjI D hin).2 (by rw [Bool.eq_false_iff]; exact fun hz => h.zones (WG.1 hz))⟩
theorem zcj (H : H21 l) (hin : ∀ p ∈ l, zaT p) : (zgk l).cls = 0 ↔ ∃ o, zhi l o := by
 rw [zeO]
 constructor
 ·intro V
  exact ⟨_, zj2 H V (zcc l)⟩
 ·rintro ⟨o, h⟩ c _
  exact zkB H.dom hin ((h.tau H.dom fun i hi => (H.wf i hi).2).noViol H.dom (fun i k hi hk ii ik e => h.inj hi hk ii ik e) c)
end
def zjS (l : List OpV) (o : List Int) (i : Int) : Bool := zM l i.toNat && (!zkX o i && (!(o.any fun k => bef l i.toNat k.toNat) && (decide ((nth l i.toNat).k = 1) || decide (WR l (nth l i.toNat).key o = (nth l i.toNat).res))))
def zg2 (l : List OpV) (o : List Int) (n : Nat) : Bool := (decide (0 ≤ nth o n) && decide (nth o n < l.length)) && zjS l (o.take n) (nth o n)
section
variable {l : List OpV}
theorem zhi.len {o : List Int} (h : zhi l o) : o.length = (xP l).length := by
 have e : (yJ (xP l)).length = (xP l).length := YG _
 rw [← e]
 refine Nat.le_antisymm (Ya h.nd fun x hx => ?_) (Ya ?_ fun x hx => ?_)
 ·have h1 := h.rng x hx
  exact List.mem_map.2 ⟨x.toNat, ya.2 ⟨by omega, h.inc x hx⟩, by omega⟩
 ·unfold yJ List.Nodup
  rw [List.pairwise_map]
  exact (zf8 l).imp fun h e => h (by omega)
 ·obtain ⟨n, hn, rfl⟩ := List.mem_map.1 hx
  have := ya.1 hn
  exact h.all n this.1 this.2
def zkA (l : List OpV) (o : List Int) : Prop := ∀ n, n < o.length → zg2 l o n = true
theorem zih {o o2 : List Int} {n : Nat} (hn : n < o.length) : zg2 l (o ++ o2) n = zg2 l o n := by
 have e1 : nth (o ++ o2) n = nth o n := by rw [zi (by simp; omega), zi hn, List.getElem_append_left hn]
 have e2 : (o ++ o2).take n = o.take n := List.take_append_of_le_length (by omega)
 unfold zg2
 rw [e1, e2]
theorem zkA.add {o : List Int} (h : zkA l o) {i : Nat} (hi : i < l.length) (hf : zjS l o (i : Int) = true) : zkA l (o ++ [(i : Int)]) := fun n hn => by
 by_cases e : n = o.length
 ·subst e
  have e1 : nth (o ++ [(i : Int)]) o.length = i := by rw [zi (by simp)]; simp
  unfold zg2
  rw [e1, List.take_left, hf, decide_eq_true (show (0 : Int) ≤ i by omega), decide_eq_true (show (i : Int) < l.length by omega)]
  rfl
 ·rw [zih (by simp at hn; omega)]
  exact h n (by simp at hn; omega)
end
end Go.Proofs.Ytbeebjdnapkhhaa
