/-
  Some texts as one: LinSeq, LinGlob, LinChk, LinRef.
-/
import Derived.Test.YtbeebjdnapkhhaaZLinClus
import Derived.Test.YtbeebjdnapkhhaaZQ
import Derived.Test.YtbeebjdnapkhhaaZG
/-
 The order of a key's operations (linear.sequence), in plain Lean: the clusters of a key without violations, one after the other.
-/
namespace Go.Proofs.Ytbeebjdnapkhhaa
set_option linter.unusedVariables false

section
variable {l : List OpV}
theorem zed {c : List Nat} : ∀ {k : Nat}, k ≤ c.length → ∀ j, j < k → ZT (nth l (zap l c k)) ≤ ZT (nth l (nth c j))
 | 0, _, j, hj => by omega
 | k + 1, hk, j, hj => by
  rw [WG (by omega)]
  unfold zjV
  by_cases hjk : j = k
  ·subst hjk
   split
   ·exact Int.le_refl _
   ·omega
  ·have := zed (c := c) (k := k) (by omega) j (by omega)
   split
   ·omega
   ·exact this
theorem zeq {c : List Nat} : ∀ {k : Nat}, k ≤ c.length → ∀ j, j < k → (nth l (nth c j)).call ≤ (nth l (zby l c k)).call
 | 0, _, j, hj => by omega
 | k + 1, hk, j, hj => by
  rw [WM (by omega)]
  unfold zjX
  by_cases hjk : j = k
  ·subst hjk
   split
   ·exact Int.le_refl _
   ·omega
  ·have := zeq (c := c) (k := k) (by omega) j (by omega)
   split
   ·omega
   ·exact this
theorem zgb {c : List Nat} {i : Nat} (h : i ∈ c) : Vd l c ≤ ZT (nth l i) := by
 obtain ⟨j, hj, e⟩ := List.getElem_of_mem h
 have := zed (l := l) (Nat.le_refl c.length) j hj
 rw [Ui, zg hj, e] at this
 exact this
theorem zhx {c : List Nat} {i : Nat} (h : i ∈ c) : (nth l i).call ≤ VD l c := by
 obtain ⟨j, hj, e⟩ := List.getElem_of_mem h
 have := zeq (l := l) (Nat.le_refl c.length) j hj
 rw [UB, zg hj, e] at this
 exact this
theorem Uh {c : List Nat} (h0 : 0 < c.length) : YL l c ∈ c := by rw [← Ui]; exact Uj h0 (Nat.le_refl _)
theorem zcE {c : List Nat} (h0 : 0 < c.length) : Xs l c ∈ c := by rw [← UB]; exact UC h0 (Nat.le_refl _)
end

def zio (l : List OpV) (x y : ClV) : Bool := x.ini || decide (Vd l x.ops < VD l y.ops)
def zhG (l : List OpV) (C : List ClV) (i k : Nat) : Prs := ((List.range k).filter fun k => decide (i ≠ k) && zio l (nth C i) (nth C k)).map fun k => (i, k)
def zgW (l : List OpV) (C : List ClV) (i : Nat) : Prs := (List.range i).flatMap fun i => zhG l C i C.length
def zfq (l : List OpV) (C : List ClV) : Prs := zgW l C C.length
theorem zgV (l : List OpV) (C : List ClV) (i k : Nat) : zhG l C i (k + 1) = zhG l C i k ++ if (decide (i ≠ k) && zio l (nth C i) (nth C k)) = true then [(i, k)] else [] := by
 unfold zhG
 rw [List.range_succ, List.filter_append, List.map_append]
 congr 1
 by_cases h : (decide (i ≠ k) && zio l (nth C i) (nth C k)) = true
 ·rw [if_pos h, List.filter_cons_of_pos (by exact h)]; rfl
 ·rw [if_neg h, List.filter_cons_of_neg (by exact h)]; rfl
theorem zcM (l : List OpV) (C : List ClV) (i : Nat) : zgW l C (i + 1) = zgW l C i ++ zhG l C i C.length := by
 unfold zgW
 rw [List.range_succ, List.flatMap_append]
 simp
theorem zeA (l : List OpV) (C : List ClV) (i k : Nat) : (zhG l C i k).length ≤ k := by
 unfold zhG
 rw [List.length_map]
 exact Nat.le_trans (List.length_filter_le _ _) (by simp)
theorem zbE (l : List OpV) (C : List ClV) : ∀ i, (zgW l C i).length ≤ i * C.length
 | 0 => by simp [zgW]
 | i + 1 => by
  rw [zcM, List.length_append]
  have := zbE l C i
  have := zeA l C i C.length
  rw [Nat.succ_mul]; omega
theorem zbD {l : List OpV} {C : List ClV} {i k : Nat} : (i, k) ∈ zfq l C ↔ i < C.length ∧ k < C.length ∧ i ≠ k ∧ zio l (nth C i) (nth C k) = true := by
 unfold zfq zgW
 rw [List.mem_flatMap]
 constructor
 ·rintro ⟨i', h1, h2⟩
  unfold zhG at h2
  obtain ⟨k', h3, h4⟩ := List.mem_map.1 h2
  obtain ⟨h5, h6⟩ := List.mem_filter.1 h3
  simp only [Prod.mk.injEq] at h4
  obtain ⟨rfl, rfl⟩ := h4
  simp only [Bool.and_eq_true, decide_eq_true_eq] at h6
  exact ⟨List.mem_range.1 h1, List.mem_range.1 h5, h6.1, h6.2⟩
 ·rintro ⟨h1, h2, h3, h4⟩
  refine ⟨i, List.mem_range.2 h1, List.mem_map.2 ⟨k, List.mem_filter.2 ⟨List.mem_range.2 h2, ?_⟩, rfl⟩⟩
  rw [decide_eq_true h3, h4]; rfl
theorem Zp {l : List OpV} {x y : ClV} : YI l x y = [] ↔ VD l x.ops ≤ Vd l y.ops ∨ (x.ini = false ∧ VD l y.ops ≤ Vd l x.ops) := by
 unfold YI
 by_cases h1 : Vd l y.ops ≥ VD l x.ops
 ·rw [if_pos h1]; exact ⟨fun _ => .inl h1, fun _ => rfl⟩
 ·rw [if_neg h1]
  by_cases h2 : x.ini = true
  ·rw [if_pos h2, h2]
   constructor
   ·intro h; cases h
   ·rintro (h | h)
    ·exact absurd h h1
    ·cases h.1
  ·rw [if_neg h2]
   by_cases h3 : Vd l x.ops < VD l y.ops
   ·rw [if_pos h3]
    constructor
    ·intro h; cases h
    ·rintro (h | h)
     ·exact absurd h h1
     ·omega
   ·rw [if_neg h3]
    exact ⟨fun _ => .inr ⟨by simpa using h2, by omega⟩, fun _ => rfl⟩
def rkC (l : List OpV) (x : ClV) : Nat := if x.ini = true then 0 else 1 + 2 * (min (Vd l x.ops) (VD l x.ops)).toNat + if Vd l x.ops < VD l x.ops then 1 else 0
theorem zir {l : List OpV} {C : List ClV} (hC : ∀ a j, a < j → j < C.length → YI l (nth C a) (nth C j) = []) (hini : ∀ j, j < C.length → (nth C j).ini = true → j = 0)
  (h0 : ∀ j, j < C.length → 0 ≤ Vd l (nth C j).ops ∧ 0 ≤ VD l (nth C j).ops) : ∀ e ∈ zfq l C, rkC l (nth C e.1) < rkC l (nth C e.2) := by
 rintro ⟨i, k⟩ he
 obtain ⟨hi, hk, hne, hp⟩ := zbD.1 he
 dsimp only
 unfold zio at hp
 rw [Bool.or_eq_true, decide_eq_true_eq] at hp
 have kini : (nth C k).ini = true → False := fun h => by
  have e := hini k hk h
  have := Zp.1 (hC k i (by omega) hi)
  rw [h] at this
  rcases this with h1 | h1
  ·rcases hp with h2 | h2
   ·have := hini i hi h2; omega
   ·omega
  ·cases h1.1
 have kf : (nth C k).ini = false := by
  cases h : (nth C k).ini with
  | false => rfl
  | true => exact (kini h).elim
 unfold rkC
 rw [kf, if_neg (show ¬ false = true by decide)]
 cases hii : (nth C i).ini with
 | true => rw [if_pos rfl]; omega
 | false =>
  rw [if_neg (by decide)]
  have hp : Vd l (nth C i).ops < VD l (nth C k).ops := hp.resolve_left (by rw [hii]; decide)
  have hnc : VD l (nth C i).ops ≤ Vd l (nth C k).ops := by
   rcases Nat.lt_or_gt_of_ne hne with h | h
   ·rcases Zp.1 (hC i k h hk) with h1 | h1
    ·exact h1
    ·omega
   ·rcases Zp.1 (hC k i h hi) with h1 | h1
    ·omega
    ·exact h1.2
  obtain ⟨i1, i2⟩ := h0 i hi
  obtain ⟨k1, k2⟩ := h0 k hk
  split <;> split <;> omega
theorem zjd.mem {R : Nat → Nat → Bool} {n : Nat} {L : List Nat} (h : zjd R n L) {b : Nat} (hb : b < n) : b ∈ L := by
 refine Classical.byContradiction fun hno => ?_
 have key : ∀ (l m : List Nat), l.Nodup → (∀ x ∈ l, x ∈ m) → l.length ≤ m.length := by
  intro l
  induction l with
  | nil => intro m _ _; exact Nat.zero_le _
  | cons x l ih =>
   intro m hn hs
   obtain ⟨h1, h2⟩ := List.nodup_cons.1 hn
   have hx := hs x (by simp)
   have hl := List.length_erase_of_mem hx
   have hpos : 0 < m.length := List.length_pos_of_mem hx
   have := ih (m.erase x) h2 fun y hy => (List.mem_erase_of_ne (fun e : y = x => h1 (by rw [← e]; exact hy))).2 (hs y (by simp [hy]))
   rw [List.length_cons]
   omega
 have hs := key L ((List.range n).erase b) h.nd fun x hx => (List.mem_erase_of_ne (fun e : x = b => hno (by rw [← e]; exact hx))).2 (List.mem_range.2 (h.rng x hx))
 rw [List.length_erase_of_mem (List.mem_range.2 hb), List.length_range, h.len] at hs
 omega
def XJ (L : List Nat) (x : Nat) : Nat := L.idxOf x
theorem Ys {L : List Nat} {x : Nat} (h : x ∈ L) : XJ L x < L.length := List.idxOf_lt_length_of_mem h
theorem xC {L : List Nat} {x : Nat} (h : x ∈ L) : nth L (XJ L x) = x := by
 rw [zg (Ys h)]
 exact List.getElem_idxOf _
theorem zgU {L : List Nat} (hn : L.Nodup) {i : Nat} (hi : i < L.length) : XJ L (nth L i) = i := by
 rw [zg hi]
 exact hn.idxOf_getElem i hi
theorem VB {L : List Nat} {x y : Nat} (hx : x ∈ L) (hy : y ∈ L) (e : XJ L x = XJ L y) : x = y := by
 rw [← xC hx, e, xC hy]
theorem zjd.lt {R : Nat → Nat → Bool} {n : Nat} {L : List Nat} (h : zjd R n L) {a b : Nat} (ha : a < n) (hb : b < n) (hr : R a b = true) : XJ L a < XJ L b := by
 have ma := h.mem ha
 have mb := h.mem hb
 have := h.ord (XJ L a) (XJ L b) (by rw [← h.len]; exact Ys ma) (by rw [← h.len]; exact Ys mb)
 rw [xC ma, xC mb] at this
 exact this hr
structure VO (l : List OpV) (c : Int) : Prop where
 thin : ∀ i, i < l.length → (nth l i).key = c → zc3 l i = false
 early : ∀ i, i < l.length → (nth l i).key = c → zb7 l i = false
 conf : Vl l c = []
def nCl (l : List OpV) (c : Int) : Nat := (yu l c).length
noncomputable def zga (l : List OpV) (c : Int) : List Nat := yB (yY (zfq l (yu l c))) (nCl l c) (nCl l c)
noncomputable def YE (l : List OpV) (c : Int) : List Nat := (zga l c).flatMap fun j => (nth (yu l c) j).ops
def zdk (l : List OpV) (c : Int) (i : Nat) : Nat := ((List.range (nCl l c)).find? fun j => decide (ZU l c j = Vt (nth l i))).getD 0
noncomputable def spL (l : List OpV) (c : Int) (i : Nat) : Nat := XJ (zga l c) (zdk l c i) * (l.length + 2) + if (nth l i).k = 1 then 0 else i + 1
section
variable {l : List OpV} {c : Int}
theorem zbi {j : Nat} (hj : j < (yu l c).length) : (nth (yu l c) j).ini = true → j = 0 ∧ zi1 l c = true := by
 rw [Yn] at hj
 have h1 : nth (yu l c) j = _ := XC hj
 rw [h1]
 show (nth (ZQ l c l.length) j).1 = true → _
 unfold ZQ at hj ⊢
 intro h
 by_cases h0 : zi1 l c = true
 ·rw [if_pos h0] at h hj
  refine ⟨Classical.byContradiction fun hne => ?_, h0⟩
  obtain ⟨j, rfl⟩ : ∃ j', j = j' + 1 := ⟨j - 1, by omega⟩
  simp only [List.length_append, List.length_cons, List.length_nil] at hj
  rw [zg (by simp at hj ⊢; omega)] at h
  simp at h
 ·rw [if_neg h0] at h hj
  rw [List.nil_append] at h hj
  rw [zg hj] at h
  simp at h
theorem VV (D : zX l) {j k : Nat} (hj : j < nCl l c) (hk : k < nCl l c) (e : ZU l c j = ZU l c k) : j = k := by
 have hn := zc5 (c := c) D (Nat.le_refl l.length)
 unfold nCl at hj hk
 rw [Yn] at hj hk
 unfold ZU at e
 rw [zg hj, zg hk] at e
 refine (List.getElem_inj hn (h₀ := by simpa using hj) (h₁ := by simpa using hk)).1 ?_
 simpa using e
theorem YH (D : zX l) (V : VO l c) {i : Nat} (h1 : i < l.length) (h2 : (nth l i).key = c) (h4 : zR l i = true) : zdk l c i < nCl l c ∧ ZU l c (zdk l c i) = Vt (nth l i) := by
 have hex : ∃ j, j < nCl l c ∧ ZU l c j = Vt (nth l i) := by
  unfold nCl
  rw [Yn]
  unfold ZU
  rcases D.kind h1 with hk | hk
  ·obtain ⟨j, j1, j2⟩ := zc4 D h1 h2 hk (ZZ hk h4) (V.thin i h1 h2)
   exact ⟨j, j1, by rw [j2, YB hk]⟩
  ·have hm : (false, [i], (nth l i).arg) ∈ ZQ l c l.length := Zh.2 (.inr ⟨i, h1, Zy.2 ⟨h2, hk, h4⟩, rfl⟩)
   obtain ⟨j, hj, e⟩ := List.getElem_of_mem hm
   exact ⟨j, hj, by rw [zg hj, e, ZH hk]⟩
 obtain ⟨j, j1, j2⟩ := hex
 unfold zdk
 cases hf : (List.range (nCl l c)).find? fun j => decide (ZU l c j = Vt (nth l i)) with
 | none =>
  have := List.find?_eq_none.1 hf j (List.mem_range.2 j1)
  rw [j2] at this
  simp at this
 | some z =>
  rw [List.find?_range_eq_some] at hf
  exact ⟨List.mem_range.1 hf.2.1, by simpa using hf.1⟩
theorem zjj (D : zX l) (V : VO l c) {j i : Nat} (hj : j < nCl l c) (hi : i ∈ (nth (yu l c) j).ops) : zdk l c i = j := by
 obtain ⟨h1, h2, h3, h4⟩ := (yA D hj).1 hi
 obtain ⟨c1, c2⟩ := YH D V h1 h2 h4
 exact VV D c1 hj (by rw [c2, h3])
theorem VZ (D : zX l) (hw : ∀ i, i < l.length → 0 ≤ (nth l i).call ∧ (nth l i).call < (nth l i).ret) (V : VO l c) : (∀ e ∈ zfq l (yu l c), rkC l (nth (yu l c) e.1) < rkC l (nth (yu l c) e.2)) ∧ zjd (yY (zfq l (yu l c))) (nCl l c) (zga l c) := by
 have h := zir (l := l) (C := yu l c) (fun a j haj hj => zbg.1 V.conf a (by omega) (by omega) j haj hj) (fun j hj h => (zbi hj h).1) (fun j hj => by
  have h0 := WE D hj
  have m1 := (yA D hj).1 (Uh (l := l) h0)
  have m2 := (yA D hj).1 (zcE (l := l) h0)
  have w1 := hw _ m1.1
  have w2 := hw _ m2.1
  refine ⟨?_, w2.1⟩
  unfold Vd ZT
  split <;> omega)
 exact ⟨h, zd8 (ZG (f := fun j => rkC l (nth (yu l c) j)) h)⟩
theorem xp (D : zX l) (hw : ∀ i, i < l.length → 0 ≤ (nth l i).call ∧ (nth l i).call < (nth l i).ret) (V : VO l c) {i : Nat} : i ∈ YE l c ↔ i < l.length ∧ (nth l i).key = c ∧ zR l i = true := by
 obtain ⟨_, E⟩ := VZ D hw V
 unfold YE
 rw [List.mem_flatMap]
 constructor
 ·rintro ⟨j, hj, hi⟩
  obtain ⟨h1, h2, h3, h4⟩ := (yA D (E.rng j hj)).1 hi
  exact ⟨h1, h2, h4⟩
 ·rintro ⟨h1, h2, h4⟩
  obtain ⟨c1, c2⟩ := YH D V h1 h2 h4
  exact ⟨_, E.mem c1, (yA D c1).2 ⟨h1, h2, c2.symm, h4⟩⟩
theorem zeF (D : zX l) (V : VO l c) {j i : Nat} (hj : j < nCl l c) (hi : i ∈ (nth (yu l c) j).ops) : spL l c i = XJ (zga l c) j * (l.length + 2) + if (nth l i).k = 1 then 0 else i + 1 := by
 unfold spL
 rw [zjj D V hj hi]
theorem UX {i : Nat} (h : i < l.length) : (if (nth l i).k = 1 then 0 else i + 1) < l.length + 2 := by split <;> omega
theorem zhv {a b B x y : Nat} (h : a < b) (hx : x < B) : a * B + x < b * B + y := by
 have := Nat.mul_le_mul_right B (show a + 1 ≤ b by omega)
 rw [Nat.succ_mul] at this
 omega
theorem UT (D : zX l) (hw : ∀ i, i < l.length → 0 ≤ (nth l i).call ∧ (nth l i).call < (nth l i).ret) (V : VO l c) : (YE l c).Pairwise fun a b => spL l c a < spL l c b := by
 obtain ⟨_, E⟩ := VZ D hw V
 unfold YE
 rw [List.pairwise_flatMap]
 constructor
 ·intro j hj
  have hjn := E.rng j hj
  have hrd : ∀ v, (YC l c v l.length).Pairwise fun a b => a < b ∧ (nth l a).k = 0 ∧ (nth l b).k = 0 := fun v => by
   have h1 : (YC l c v l.length).Pairwise fun a b => a < b := List.pairwise_lt_range.sublist List.filter_sublist
   refine h1.imp_of_mem fun ha hb hab => ⟨hab, ?_, ?_⟩
   ·exact (yD.1 (YU.1 ha).2).1
   ·exact (yD.1 (YU.1 hb).2).1
  have hp : (nth (yu l c) j).ops.Pairwise fun a b => (if (nth l a).k = 1 then 0 else a + 1) < if (nth l b).k = 1 then 0 else b + 1 := by
   rcases Zo hjn with ⟨h0, h1, h2⟩ | ⟨w, w1, w2, h1, h2⟩
   ·rw [h2]
    refine (hrd 0).imp fun h => ?_
    rw [if_neg (by omega), if_neg (by omega)]; omega
   ·rw [h2]
    refine List.pairwise_cons.2 ⟨fun b hb => ?_, (hrd _).imp fun h => ?_⟩
    ·have := (yD.1 (YU.1 hb).2).1
     rw [if_pos (Zy.1 w2).2.1, if_neg (by omega)]; omega
    ·rw [if_neg (by omega), if_neg (by omega)]; omega
  refine hp.imp_of_mem fun ha hb h => ?_
  rw [zeF D V hjn ha, zeF D V hjn hb]
  omega
 ·rw [List.pairwise_iff_getElem]
  intro p q hp hq hpq x hx y hy
  have h1 := E.rng _ (List.getElem_mem hp)
  have h2 := E.rng _ (List.getElem_mem hq)
  rw [zeF D V h1 hx, zeF D V h2 hy]
  have e1 := zgU E.nd hp
  have e2 := zgU E.nd hq
  rw [zg hp] at e1
  rw [zg hq] at e2
  rw [e1, e2]
  exact zhv hpq (UX ((yA D h1).1 hx).1)
theorem zi6 (D : zX l) (hw : ∀ i, i < l.length → 0 ≤ (nth l i).call ∧ (nth l i).call < (nth l i).ret) (V : VO l c) {i k : Nat} (hi : i < nCl l c) (hk : k < nCl l c) (hne : i ≠ k) (h : zio l (nth (yu l c) i) (nth (yu l c) k) = true) : XJ (zga l c) i < XJ (zga l c) k :=
 (VZ D hw V).2.lt hi hk (xO.2 (.one (zbD.2 ⟨hi, hk, hne, h⟩)))
theorem zjH (D : zX l) (hc : ∀ i j, i < l.length → j < l.length → (nth l i).call < (nth l j).call → i < j) (hw : ∀ i, i < l.length → 0 ≤ (nth l i).call ∧ (nth l i).call < (nth l i).ret) (V : VO l c) {i k : Nat} (hi : i ∈ YE l c) (hk : k ∈ YE l c) (hb : bef l i k = true) : spL l c i < spL l c k := by
 obtain ⟨i1, i2, i4⟩ := (xp D hw V).1 hi
 obtain ⟨k1, k2, k4⟩ := (xp D hw V).1 hk
 obtain ⟨ci, vi⟩ := YH D V i1 i2 i4
 obtain ⟨ck, vk⟩ := YH D V k1 k2 k4
 have mi := (yA D ci).2 ⟨i1, i2, vi.symm, i4⟩
 have mk := (yA D ck).2 ⟨k1, k2, vk.symm, k4⟩
 have hcall := zhO (fun i h => (hw i h).2) i1 hb
 have hik := hc i k i1 k1 hcall
 have hbf := hb
 unfold bef at hbf
 simp only [Bool.and_eq_true, decide_eq_true_eq] at hbf
 unfold spL
 by_cases e : zdk l c i = zdk l c k
 ·rw [e]
  have hv : Vt (nth l i) = Vt (nth l k) := by rw [← vi, ← vk, e]
  rcases D.kind i1 with ki | ki
  ·rcases D.kind k1 with kk | kk
   ·rw [if_neg (by omega), if_neg (by omega)]; omega
   ·exfalso
    rw [YB ki, ZH kk] at hv
    have he := V.early i i1 i2
    have e1 := zhC D k1 kk
    rw [k2, ← hv, ← i2] at e1
    have ha := D.arg k1 kk
    unfold zb7 at he
    rw [e1, decide_eq_true ki, hbf.1, decide_eq_true (show (nth l i).res ≠ 0 by omega)] at he
    have he : bef l i k = false := by simpa using he
    rw [hb] at he
    cases he
  ·rcases D.kind k1 with kk | kk
   ·rw [if_pos ki, if_neg (by omega)]; omega
   ·exfalso
    rw [ZH ki, ZH kk] at hv
    have := D.uniq i1 k1 ki kk (i2.trans k2.symm) hv
    omega
 ·refine zhv (zi6 D hw V ci ck e ?_) (UX i1)
  unfold zio
  rw [Bool.or_eq_true, decide_eq_true_eq]
  refine .inr ?_
  have h1 := zgb (l := l) mi
  have h2 := zhx (l := l) mk
  have h3 : ZT (nth l i) = (nth l i).ret := by unfold ZT; rw [hbf.1]; rfl
  omega
theorem zjG (D : zX l) (hw : ∀ i, i < l.length → 0 ≤ (nth l i).call ∧ (nth l i).call < (nth l i).ret) (V : VO l c) {r : Nat} (hr : r < l.length) (hrc : (nth l r).key = c) (h0 : (nth l r).k = 0) (hd : (nth l r).done = true) :
  ((nth l r).res = 0 ∧ ∀ w, wrI l c w → spL l c r < spL l c w) ∨ ∃ w, wrI l c w ∧ (nth l w).arg = (nth l r).res ∧ spL l c w < spL l c r ∧ ∀ w', wrI l c w' → w' ≠ w → spL l c w' < spL l c w ∨ spL l c r < spL l c w' := by
 obtain ⟨cr, vr⟩ := YH D V hr hrc (xN hd)
 rw [YB h0] at vr
 by_cases hz : (nth l r).res = 0
 ·refine .inl ⟨hz, fun w hwi => ?_⟩
  obtain ⟨w1, w2, w3, w4⟩ := hwi
  obtain ⟨cw, vw⟩ := YH D V w1 w2 w4
  rw [ZH w3] at vw
  have ha := D.arg w1 w3
  have hne : zdk l c r ≠ zdk l c w := fun e => by rw [e, vw] at vr; omega
  unfold spL
  refine zhv (zi6 D hw V cr cw hne ?_) (UX hr)
  unfold zio
  rw [Bool.or_eq_true]
  left
  rcases Zo cr with ⟨h0, h1, h2⟩ | ⟨u, u1, u2, h1, h2⟩
  ·rw [h2]
  ·exact absurd (by rw [← h1, vr, hz]) (D.arg u1 (Zy.1 u2).2.1)
 ·have ht := V.thin r hr hrc
  unfold zc3 at ht
  rw [decide_eq_true h0, hd, decide_eq_true hz] at ht
  simp only [Bool.true_and] at ht
  cases hwx : wIx l (nth l r).key (nth l r).res with
  | none => rw [hwx] at ht; cases ht
  | some w =>
   obtain ⟨w1, w2, _⟩ := xG hwx
   rw [Yw] at w2
   obtain ⟨w2, w3, w5⟩ := w2
   have w4 := zdQ hr h0 hd w1 w2 w3 w5
   have wc : (nth l w).key = c := w3.trans hrc
   obtain ⟨cw, vw⟩ := YH D V w1 wc w4
   rw [ZH w2] at vw
   have hsame : zdk l c w = zdk l c r := VV D cw cr (by rw [vw, vr, w5])
   refine .inr ⟨w, ⟨w1, wc, w2, w4⟩, w5, ?_, ?_⟩
   ·unfold spL
    rw [hsame, if_pos w2, if_neg (by omega)]; omega
   ·rintro w' ⟨x1, x2, x3, x4⟩ hne
    obtain ⟨cx, vx⟩ := YH D V x1 x2 x4
    rw [ZH x3] at vx
    have hdif : zdk l c w' ≠ zdk l c w := fun e => by
     rw [e, vw] at vx
     exact hne (D.uniq x1 w1 x3 w2 (x2.trans wc.symm) vx.symm)
    have E := (VZ D hw V).2
    have hpd : XJ (zga l c) (zdk l c w') ≠ XJ (zga l c) (zdk l c w) := fun e => hdif (VB (E.mem cx) (E.mem cw) e)
    rcases Nat.lt_or_gt_of_ne hpd with h | h
    ·left; unfold spL; exact zhv h (UX x1)
    ·right; unfold spL; rw [← hsame]; exact zhv h (UX hr)
end
end Go.Proofs.Ytbeebjdnapkhhaa
/-
 A linearization of a history without violations (linear.linearization), in plain Lean.
-/
namespace Go.Proofs.Ytbeebjdnapkhhaa
set_option linter.unusedVariables false

def ziP (h : Nat → Nat) (L : List Nat) : Nat := L.foldr (fun x m => max (h x) m) 0
theorem zbQ {h : Nat → Nat} {x : Nat} : ∀ {L : List Nat}, x ∈ L → h x ≤ ziP h L
 | y :: L, hx => by
  show h x ≤ max (h y) (ziP h L)
  rcases List.mem_cons.1 hx with rfl | hx
  ·omega
  ·have := zbQ (h := h) hx; omega
theorem zdP {h : Nat → Nat} : ∀ (L : List Nat), ziP h L = 0 ∨ ∃ x ∈ L, h x = ziP h L
 | [] => .inl rfl
 | y :: L => by
  show max (h y) (ziP h L) = 0 ∨ ∃ x ∈ y :: L, h x = max (h y) (ziP h L)
  rcases Nat.le_total (ziP h L) (h y) with hle | hle
  ·exact .inr ⟨y, by simp, by omega⟩
  ·rcases zdP (h := h) L with e | ⟨x, hx, e⟩
   ·by_cases h0 : h y = 0
    ·left; omega
    ·exact .inr ⟨y, by simp, by omega⟩
   ·exact .inr ⟨x, by simp [hx], by omega⟩
theorem WO {α : Type} [BEq α] [LawfulBEq α] : ∀ {l m : List α}, l.Nodup → (∀ x ∈ l, x ∈ m) → l.length ≤ m.length
 | [], m, _, _ => Nat.zero_le _
 | x :: l, m, hn, hs => by
  have h1 := List.nodup_cons.1 hn
  have hx := hs x (by simp)
  have hl := List.length_erase_of_mem hx
  have hpos : 0 < m.length := List.length_pos_of_mem hx
  have := WO (m := m.erase x) h1.2 fun y hy => (List.mem_erase_of_ne (fun e : y = x => h1.1 (by rw [← e]; exact hy))).2 (hs y (by simp [hy]))
  rw [List.length_cons]
  omega
def Zs (l : List OpV) : List Nat := (List.range l.length).filter (zR l)
def zeu (l : List OpV) (i : Nat) : Nat := XJ (Zs l) i
def zfS (l : List OpV) (row : List Nat) (k : Nat) : Prs := (List.range k).map fun i => (zeu l (nth row i), zeu l (nth row (i + 1)))
def zkv (l : List OpV) (row : List Nat) : Prs := zfS l row (row.length - 1)
noncomputable def zej (l : List OpV) (K : List Int) : Prs := K.flatMap fun c => zkv l (YE l c)
def rtR (l : List OpV) (a k : Nat) : Prs := ((List.range k).filter fun b => bef l (nth (Zs l) a) (nth (Zs l) b)).map fun b => (a, b)
def rtT (l : List OpV) (a : Nat) : Prs := (List.range a).flatMap fun a => rtR l a (Zs l).length
noncomputable def zgL (l : List OpV) (K : List Int) : Prs := zej l K ++ rtT l (Zs l).length
noncomputable def zi5 (l : List OpV) (K : List Int) : List Nat := yB (yY (zgL l K)) (Zs l).length (Zs l).length
noncomputable def zfi (l : List OpV) (K : List Int) : List Nat := (zi5 l K).map fun a => nth (Zs l) a
theorem zhl (l : List OpV) (row : List Nat) (k : Nat) : zfS l row (k + 1) = zfS l row k ++ [(zeu l (nth row k), zeu l (nth row (k + 1)))] := by
 unfold zfS; rw [List.range_succ, List.map_append]; rfl
theorem zeC (l : List OpV) (row : List Nat) (k : Nat) : (zfS l row k).length = k := by simp [zfS]
theorem ziF (l : List OpV) (a k : Nat) : rtR l a (k + 1) = rtR l a k ++ if bef l (nth (Zs l) a) (nth (Zs l) k) = true then [(a, k)] else [] := by
 unfold rtR
 rw [List.range_succ, List.filter_append, List.map_append]
 congr 1
 by_cases h : bef l (nth (Zs l) a) (nth (Zs l) k) = true
 ·rw [if_pos h, List.filter_cons_of_pos (by exact h)]; rfl
 ·rw [if_neg h, List.filter_cons_of_neg (by exact h)]; rfl
theorem zeD (l : List OpV) (a : Nat) : rtT l (a + 1) = rtT l a ++ rtR l a (Zs l).length := by
 unfold rtT
 rw [List.range_succ, List.flatMap_append]
 simp
theorem zhp (l : List OpV) (a k : Nat) : (rtR l a k).length ≤ k := by
 unfold rtR
 rw [List.length_map]
 exact Nat.le_trans (List.length_filter_le _ _) (by simp)
theorem zhq (l : List OpV) : ∀ i, (rtT l i).length ≤ i * (Zs l).length
 | 0 => by simp [rtT]
 | i + 1 => by
  rw [zeD, List.length_append]
  have := zhq l i
  have := zhp l i (Zs l).length
  rw [Nat.succ_mul]; omega
theorem yC {l : List OpV} {i : Nat} : i ∈ Zs l ↔ i < l.length ∧ zR l i = true := by unfold Zs; rw [List.mem_filter, List.mem_range]
theorem zju (l : List OpV) : (Zs l).length ≤ l.length := by unfold Zs; exact Nat.le_trans (List.length_filter_le _ _) (by simp)
theorem Zc {l : List OpV} {i : Nat} (h : i ∈ Zs l) : zeu l i < (Zs l).length := Ys h
theorem Wr {l : List OpV} {i : Nat} (h : i ∈ Zs l) : nth (Zs l) (zeu l i) = i := xC h
section
variable {l : List OpV} {K : List Int}
theorem zdM {a b : Nat} : (a, b) ∈ rtT l (Zs l).length ↔ a < (Zs l).length ∧ b < (Zs l).length ∧ bef l (nth (Zs l) a) (nth (Zs l) b) = true := by
 unfold rtT
 rw [List.mem_flatMap]
 constructor
 ·rintro ⟨i', h1, h2⟩
  unfold rtR at h2
  obtain ⟨k', h3, h4⟩ := List.mem_map.1 h2
  obtain ⟨h5, h6⟩ := List.mem_filter.1 h3
  simp only [Prod.mk.injEq] at h4
  obtain ⟨rfl, rfl⟩ := h4
  exact ⟨List.mem_range.1 h1, List.mem_range.1 h5, h6⟩
 ·rintro ⟨h1, h2, h3⟩
  exact ⟨a, List.mem_range.2 h1, List.mem_map.2 ⟨b, List.mem_filter.2 ⟨List.mem_range.2 h2, h3⟩, rfl⟩⟩
theorem Vz {x : Nat × Nat} : x ∈ zej l K ↔ ∃ c ∈ K, ∃ i, i + 1 < (YE l c).length ∧ x = (zeu l (nth (YE l c) i), zeu l (nth (YE l c) (i + 1))) := by
 unfold zej zkv zfS
 rw [List.mem_flatMap]
 constructor
 ·rintro ⟨c, hc, h⟩
  obtain ⟨i, hi, e⟩ := List.mem_map.1 h
  exact ⟨c, hc, i, by have := List.mem_range.1 hi; omega, e.symm⟩
 ·rintro ⟨c, hc, i, hi, e⟩
  exact ⟨c, hc, List.mem_map.2 ⟨i, List.mem_range.2 (by omega), e.symm⟩⟩
structure H21 (l : List OpV) : Prop where
 dom : zX l
 ord : ∀ i j, i < l.length → j < l.length → (nth l i).call < (nth l j).call → i < j
 wf : ∀ i, i < l.length → 0 ≤ (nth l i).call ∧ (nth l i).call < (nth l i).ret
theorem zeE (H : H21 l) {c : Int} (V : VO l c) : (YE l c).length ≤ l.length := by
 have hn : (YE l c).Nodup := (UT H.dom H.wf V).imp fun h e => by rw [e] at h; omega
 have := WO (m := List.range l.length) hn fun x hx => List.mem_range.2 ((xp H.dom H.wf V).1 hx).1
 simpa using this
theorem zek (H : H21 l) (V : ∀ c ∈ K, VO l c) : ∀ i, i ≤ K.length → (zej l (K.take i)).length ≤ i * l.length
 | 0, _ => by simp [zej]
 | i + 1, hi => by
  have h1 := zek H V i (by omega)
  have h2 := zeE H (V _ (zA (l := K) (i := i) (by omega)))
  rw [Zg (by omega)]
  unfold zej at h1 ⊢
  rw [List.flatMap_append, List.length_append, List.flatMap_singleton, Nat.succ_mul]
  have h3 : (zkv l (YE l (nth K i))).length = (YE l (nth K i)).length - 1 := by unfold zkv; rw [zeC]
  omega
theorem zgH {i : Nat} (hi : i < K.length) : zej l (K.take (i + 1)) = zej l (K.take i) ++ zkv l (YE l (nth K i)) := by
 rw [Zg hi]
 unfold zej
 rw [List.flatMap_append, List.flatMap_singleton]
theorem zja (H : H21 l) {c : Int} (V : VO l c) {p q : Nat} (hq : q < (YE l c).length) (hpq : p < q) : spL l c (nth (YE l c) p) < spL l c (nth (YE l c) q) := by
 have := List.pairwise_iff_getElem.1 (UT H.dom H.wf V) p q (by omega) hq hpq
 rw [zg hq, zg (by omega)]
 exact this
theorem zii (H : H21 l) (V : ∀ c ∈ K, VO l c) (hK : ∀ i, i < l.length → (nth l i).key ∈ K) : ∃ f : Nat → Nat, (∀ i k, i < l.length → k < l.length → zR l i = true → zR l k = true → bef l i k = true → f i < f k) ∧
  ∀ i k, i < l.length → k < l.length → zR l i = true → zR l k = true → (nth l i).key = (nth l k).key → spL l (nth l i).key i < spL l (nth l i).key k → f i < f k := by
 obtain ⟨FK, hFK⟩ : ∃ FK : Nat → Nat, FK = fun a => spL l (nth l a).key a := ⟨_, rfl⟩
 have hkk : ∀ a b, a < l.length → b < l.length → zR l a = true → zR l b = true → (nth l a).key = (nth l b).key → bef l a b = true → FK a < FK b := fun a b ha hb ia ib e hbf => by
  rw [hFK]; dsimp only
  rw [← e]
  have V' := V _ (hK a ha)
  exact zjH H.dom H.ord H.wf V' ((xp H.dom H.wf V').2 ⟨ha, rfl, ia⟩) ((xp H.dom H.wf V').2 ⟨hb, e.symm, ib⟩) hbf
 obtain ⟨B, hB⟩ : ∃ B, B = ziP FK (List.range l.length) + 1 := ⟨_, rfl⟩
 have hlt : ∀ a, a < l.length → FK a < B := fun a ha => by
  have := zbQ (h := FK) (List.mem_range.2 ha)
  omega
 obtain ⟨S, hS⟩ : ∃ S : Nat → List Nat, S = fun a => (List.range l.length).filter fun b => zR l b && decide ((nth l b).key = (nth l a).key) && decide (FK b ≤ FK a) := ⟨_, rfl⟩
 have hSm : ∀ a b, b ∈ S a ↔ b < l.length ∧ zR l b = true ∧ (nth l b).key = (nth l a).key ∧ FK b ≤ FK a := fun a b => by
  rw [hS]; dsimp only
  rw [List.mem_filter, List.mem_range]
  simp only [Bool.and_eq_true, decide_eq_true_eq, and_assoc]
 obtain ⟨g, hg⟩ : ∃ g : Nat → Nat, g = fun a => ziP (fun b => (nth l b).call.toNat) (S a) := ⟨_, rfl⟩
 have same : ∀ a b, a < l.length → b < l.length → (nth l a).key = (nth l b).key → FK a < FK b → g a * B + FK a < g b * B + FK b := fun a b ha hb hk h1 => by
  have h2 : g a ≤ g b := by
   rw [hg]; dsimp only
   rcases zdP (h := fun b => (nth l b).call.toNat) (S a) with e | ⟨x, hx, e⟩
   ·omega
   ·rw [← e]
    obtain ⟨x1, x2, x3, x4⟩ := (hSm a x).1 hx
    exact zbQ (h := fun b => (nth l b).call.toNat) ((hSm b x).2 ⟨x1, x2, x3.trans hk, by omega⟩)
  have := Nat.mul_le_mul_right B h2
  omega
 refine ⟨fun a => g a * B + FK a, fun a b ha hb ia ib hbf => ?_, fun a b ha hb ia ib hk hs => ?_⟩
 ·dsimp only
  by_cases hk : (nth l a).key = (nth l b).key
  ·exact same a b ha hb hk (hkk a b ha hb ia ib hk hbf)
  ·have hbf' := hbf
   unfold bef at hbf
   simp only [Bool.and_eq_true, decide_eq_true_eq] at hbf
   have hwa := H.wf a ha
   have hwb := H.wf b hb
   have h1 : g a ≤ (nth l a).ret.toNat := by
    rw [hg]; dsimp only
    rcases zdP (h := fun b => (nth l b).call.toNat) (S a) with e | ⟨x, hx, e⟩
    ·omega
    ·rw [← e]
     obtain ⟨x1, x2, x3, x4⟩ := (hSm a x).1 hx
     have hwx := H.wf x x1
     by_cases hlt2 : (nth l a).ret < (nth l x).call
     ·exfalso
      have := hkk a x ha x1 ia x2 x3.symm (by unfold bef; simp [hbf.1, hlt2])
      omega
     ·omega
   have h2 : (nth l b).call.toNat ≤ g b := by
    rw [hg]; dsimp only
    exact zbQ (h := fun b => (nth l b).call.toNat) ((hSm b b).2 ⟨hb, ib, rfl, Nat.le_refl _⟩)
   have h3 : g a + 1 ≤ g b := by omega
   have h4 := Nat.mul_le_mul_right B h3
   rw [Nat.succ_mul] at h4
   have := hlt a ha
   omega
 ·dsimp only
  refine same a b ha hb hk ?_
  rw [hFK]; dsimp only
  rw [← hk]; exact hs
theorem zjx (H : H21 l) (V : ∀ c ∈ K, VO l c) : ∀ e ∈ zgL l K, e.1 < (Zs l).length ∧ e.2 < (Zs l).length := by
 rintro ⟨a, b⟩ he
 rcases List.mem_append.1 he with he | he
 ·obtain ⟨c, hc, i, hi, e⟩ := Vz.1 he
  simp only [Prod.mk.injEq] at e
  obtain ⟨rfl, rfl⟩ := e
  have m1 := (xp H.dom H.wf (V c hc)).1 (zA (show i < (YE l c).length by omega))
  have m2 := (xp H.dom H.wf (V c hc)).1 (zA hi)
  exact ⟨Zc (yC.2 ⟨m1.1, m1.2.2⟩), Zc (yC.2 ⟨m2.1, m2.2.2⟩)⟩
 ·obtain ⟨h1, h2, _⟩ := zdM.1 he
  exact ⟨h1, h2⟩
theorem zcB (H : H21 l) (V : ∀ c ∈ K, VO l c) (hK : ∀ i, i < l.length → (nth l i).key ∈ K) : ∃ f : Nat → Nat, ∀ e ∈ zgL l K, f e.1 < f e.2 := by
 obtain ⟨f, f1, f2⟩ := zii H V hK
 refine ⟨fun a => f (nth (Zs l) a), ?_⟩
 rintro ⟨a, b⟩ he
 dsimp only
 rcases List.mem_append.1 he with he | he
 ·obtain ⟨c, hc, i, hi, e⟩ := Vz.1 he
  simp only [Prod.mk.injEq] at e
  obtain ⟨rfl, rfl⟩ := e
  have m1 := (xp H.dom H.wf (V c hc)).1 (zA (show i < (YE l c).length by omega))
  have m2 := (xp H.dom H.wf (V c hc)).1 (zA hi)
  rw [Wr (yC.2 ⟨m1.1, m1.2.2⟩), Wr (yC.2 ⟨m2.1, m2.2.2⟩)]
  refine f2 _ _ m1.1 m2.1 m1.2.2 m2.2.2 (m1.2.1.trans m2.2.1.symm) ?_
  rw [m1.2.1]
  exact zja H (V c hc) hi (by omega)
 ·obtain ⟨h1, h2, h3⟩ := zdM.1 he
  have m1 := yC.1 (zA h1)
  have m2 := yC.1 (zA h2)
  exact f1 _ _ m1.1 m2.1 m1.2 m2.2 h3
theorem WL (H : H21 l) (V : ∀ c ∈ K, VO l c) (hK : ∀ i, i < l.length → (nth l i).key ∈ K) : zjd (yY (zgL l K)) (Zs l).length (zi5 l K) := by
 obtain ⟨f, hf⟩ := zcB H V hK
 exact zd8 (ZG hf)
theorem zem (H : H21 l) (V : ∀ c ∈ K, VO l c) (hK : ∀ i, i < l.length → (nth l i).key ∈ K) : (zfi l K).length = (Zs l).length := by
 unfold zfi; rw [List.length_map]; exact (WL H V hK).len
noncomputable def zdc (l : List OpV) (K : List Int) (i : Nat) : Nat := XJ (zi5 l K) (zeu l i)
theorem zeG (H : H21 l) (V : ∀ c ∈ K, VO l c) (hK : ∀ i, i < l.length → (nth l i).key ∈ K) {a b : Nat} (ha : a < l.length) (hb : b < l.length) (ia : zR l a = true) (ib : zR l b = true) {c : Int} (ka : (nth l a).key = c) (kb : (nth l b).key = c) (h : spL l c a < spL l c b) : zdc l K a < zdc l K b := by
 have E := WL H V hK
 have hc : c ∈ K := by rw [← ka]; exact hK a ha
 have V' := V c hc
 have ma := (xp H.dom H.wf V').2 ⟨ha, ka, ia⟩
 have mb := (xp H.dom H.wf V').2 ⟨hb, kb, ib⟩
 have reach : ∀ d p, p + d + 1 < (YE l c).length → zhK (zgL l K) (zeu l (nth (YE l c) p)) (zeu l (nth (YE l c) (p + d + 1))) := by
  intro d
  induction d with
  | zero => intro p hp; exact .one (List.mem_append_left _ (Vz.2 ⟨c, hc, p, hp, rfl⟩))
  | succ d ih =>
   intro p hp
   refine .step (b := zeu l (nth (YE l c) (p + 1))) (List.mem_append_left _ (Vz.2 ⟨c, hc, p, by omega, rfl⟩)) ?_
   have := ih (p + 1) (by omega)
   rw [show p + 1 + d + 1 = p + (d + 1) + 1 by omega] at this
   exact this
 have hpa := Ys ma
 have hpb := Ys mb
 have hlt : XJ (YE l c) a < XJ (YE l c) b := by
  refine Nat.lt_of_not_le fun hle => ?_
  rcases Nat.lt_or_eq_of_le hle with h2 | h2
  ·have := zja H V' hpa h2
   rw [xC ma, xC mb] at this
   omega
  ·have := VB mb ma h2
   subst this
   omega
 have h1 := reach (XJ (YE l c) b - XJ (YE l c) a - 1) (XJ (YE l c) a) (by omega)
 rw [show XJ (YE l c) a + (XJ (YE l c) b - XJ (YE l c) a - 1) + 1 = XJ (YE l c) b by omega, xC ma, xC mb] at h1
 exact E.lt (Zc (yC.2 ⟨ha, ia⟩)) (Zc (yC.2 ⟨hb, ib⟩)) (xO.2 h1)
theorem zih (H : H21 l) (V : ∀ c ∈ K, VO l c) (hK : ∀ i, i < l.length → (nth l i).key ∈ K) : zkH l (zdc l K) where
 rt i k hi hk ii ik hb := by
  have E := WL H V hK
  have mi := yC.2 ⟨hi, ii⟩
  have mk := yC.2 ⟨hk, ik⟩
  refine E.lt (Zc mi) (Zc mk) (xO.2 (.one (List.mem_append_right _ (zdM.2 ⟨Zc mi, Zc mk, ?_⟩))))
  rw [Wr mi, Wr mk]; exact hb
 rd r hr h0 hd := by
  have V' := V _ (hK r hr)
  have ir := xN hd
  rcases zjG H.dom H.wf V' hr rfl h0 hd with ⟨e, h⟩ | ⟨w, hw, ha, hlt, ho⟩
  ·exact .inl ⟨e, fun w hw => Nat.le_of_lt (zeG H V hK hr hw.1 ir hw.2.2.2 rfl hw.2.1 (h w hw))⟩
  ·refine .inr ⟨w, hw, ha, Nat.le_of_lt (zeG H V hK hw.1 hr hw.2.2.2 ir hw.2.1 rfl hlt), fun w' hw' hne => ?_⟩
   rcases ho w' hw' hne with h | h
   ·exact .inl (zeG H V hK hw'.1 hw.1 hw'.2.2.2 hw.2.2.2 hw'.2.1 hw.2.1 h)
   ·exact .inr (zeG H V hK hr hw'.1 ir hw'.2.2.2 rfl hw'.2.1 h)
theorem zjI (H : H21 l) (V : ∀ c ∈ K, VO l c) (hK : ∀ i, i < l.length → (nth l i).key ∈ K) {i k : Nat} (hi : i < l.length) (hk : k < l.length) (ii : zR l i = true) (ik : zR l k = true) (e : zdc l K i = zdc l K k) : i = k := by
 have E := WL H V hK
 have mi := yC.2 ⟨hi, ii⟩
 have mk := yC.2 ⟨hk, ik⟩
 have := VB (E.mem (Zc mi)) (E.mem (Zc mk)) e
 exact VB mi mk this
end
end Go.Proofs.Ytbeebjdnapkhhaa
/-
 linear.Check's verdict, in plain Lean.
-/
namespace Go.Proofs.Ytbeebjdnapkhhaa
set_option linter.unusedVariables false

theorem zaF {l : List OpV} (h : xz l = 0) : l.length ≤ 300 ∧ ∀ j, j < l.length → zbS l j = 0 := by
 unfold xz at h
 split at h
 ·cases h
 ·refine ⟨by omega, fun j hj => ?_⟩
  have key : ∀ (n k : Nat), zW l k n = 0 → ∀ j, k ≤ j → j < k + n → zbS l j = 0 := by
   intro n
   induction n with
   | zero => intro k _ j h1 h2; omega
   | succ n ih =>
    intro k hk j h1 h2
    unfold zW at hk
    split at hk
    ·rename_i he
     rcases Nat.eq_or_lt_of_le h1 with e | e
     ·rw [← e]; exact he
     ·exact ih (k + 1) hk j e (by omega)
    ·rename_i he; exact absurd hk he
  exact key l.length 0 h j (Nat.zero_le _) (by omega)
theorem zbh {l : List OpV} (h : xz l = 0) {j : Nat} (hj : j < l.length) : wfB (nth l j) = true ∧ (0 < j → (nth l (j - 1)).call < (nth l j).call) := by
 have := (zaF h).2 j hj
 unfold zbS at this
 by_cases hw : wfB (nth l j) = false
 ·rw [if_pos hw] at this; cases this
 ·rw [if_neg hw] at this
  refine ⟨by simpa using hw, fun h0 => ?_⟩
  by_cases hc : 0 < j ∧ (nth l j).call ≤ (nth l (j - 1)).call
  ·rw [if_pos hc] at this; cases this
  ·omega
theorem zb3 {l : List OpV} (h : xz l = 0) {i : Nat} : ∀ {d : Nat}, i + d + 1 < l.length → (nth l i).call < (nth l (i + d + 1)).call
 | 0, hd => (zbh h hd).2 (by omega)
 | d + 1, hd => by
  have h1 := zb3 h (i := i) (d := d) (by omega)
  have h2 := (zbh h hd).2 (by omega)
  rw [show i + (d + 1) + 1 - 1 = i + d + 1 by omega] at h2
  omega
theorem zb2 {l : List OpV} (h : xz l = 0) (D : zX l) : H21 l where
 dom := D
 ord i j hi hj hc := by
  refine Nat.lt_of_not_le fun hle => ?_
  rcases Nat.lt_or_eq_of_le hle with h2 | h2
  ·have := zb3 h (i := j) (d := i - j - 1) (by omega)
   rw [show j + (i - j - 1) + 1 = i by omega] at this
   omega
  ·subst h2; omega
 wf i hi := by
  have := (zbh h hi).1
  simp only [wfB, Bool.and_eq_true, decide_eq_true_eq] at this
  omega
theorem zc6 {l : List OpV} {c : Int} : (YX l c).cls = 0 ↔ VO l c := by
 unfold YX
 cases h1 : (List.range l.length).find? (Yv l c) with
 | some i =>
  rw [List.find?_range_eq_some] at h1
  refine ⟨fun h => (by cases h), fun V => ?_⟩
  have := h1.1
  unfold Yv at this
  rw [Bool.and_eq_true, decide_eq_true_eq] at this
  rw [V.thin i (List.mem_range.1 h1.2.1) this.1] at this
  cases this.2
 | none =>
  dsimp only
  cases h2 : (List.range l.length).find? (yX l c) with
  | some i =>
   rw [List.find?_range_eq_some] at h2
   refine ⟨fun h => (by cases h), fun V => ?_⟩
   have := h2.1
   unfold yX at this
   rw [Bool.and_eq_true, decide_eq_true_eq] at this
   rw [V.early i (List.mem_range.1 h2.2.1) this.1] at this
   cases this.2
  | none =>
   dsimp only
   by_cases h3 : Vl l c = []
   ·rw [if_pos h3]
    refine ⟨fun _ => ⟨fun i hi hk => ?_, fun i hi hk => ?_, h3⟩, fun _ => rfl⟩
    ·have := List.find?_eq_none.1 h1 i (List.mem_range.2 hi)
     unfold Yv at this
     rw [decide_eq_true hk, Bool.true_and] at this
     simpa using this
    ·have := List.find?_eq_none.1 h2 i (List.mem_range.2 hi)
     unfold yX at this
     rw [decide_eq_true hk, Bool.true_and] at this
     simpa using this
   ·rw [if_neg h3]
    exact ⟨fun h => (by cases h), fun V => absurd V.conf h3⟩
def UZ (l : List OpV) : Option Int := (yQ l).find? fun c => decide ((YX l c).cls ≠ 0)
structure zkA where
 cls : Int
 arg : Int
 ord : List Nat
 ed : List (Nat × Nat)
noncomputable def zda (l : List OpV) : zkA :=
 match UZ l with
 | some c => ⟨(YX l c).cls, c, (YX l c).ord, (YX l c).ed⟩
 | none => ⟨0, 0, zfi l (yQ l), []⟩
theorem zaa {l : List OpV} : UZ l = none ↔ ∀ c ∈ yQ l, VO l c := by
 unfold UZ
 rw [List.find?_eq_none]
 constructor
 ·intro h c hc
  have := h c hc
  exact zc6.1 (by simpa using this)
 ·intro h c hc
  have := zc6.2 (h c hc)
  simpa using this
theorem zjM {l : List OpV} {i : Nat} (hi : i < (yQ l).length) (h : ∀ j, j < i → (YX l (nth (yQ l) j)).cls = 0) (h2 : (YX l (nth (yQ l) i)).cls ≠ 0) : UZ l = some (nth (yQ l) i) := by
 unfold UZ
 rw [List.find?_eq_some_iff_getElem]
 refine ⟨by simpa using h2, i, hi, (zg hi).symm, fun j hj => ?_⟩
 have := h j hj
 rw [zg (by omega)] at this
 simpa using this
theorem zct (l : List OpV) : ∀ i, i < l.length → (nth l i).key ∈ yQ l := fun i hi => (ZX l _).2 ⟨_, zA hi, rfl⟩
theorem zhL {l : List OpV} {c : Int} (D : zX l) (hc : c ∉ yQ l) : VO l c := by
 have hno : ∀ i, i < l.length → (nth l i).key ≠ c := fun i hi e => hc (e ▸ zct l i hi)
 refine ⟨fun i hi e => absurd e (hno i hi), fun i hi e => absurd e (hno i hi), ?_⟩
 unfold Vl
 refine zbg.2 fun a _ ha j haj hj => ?_
 exfalso
 have h0 := WE D hj
 obtain ⟨h1, h2, _⟩ := (yA D hj).1 (Uh (l := l) h0)
 exact hno _ h1 h2
end Go.Proofs.Ytbeebjdnapkhhaa
/-
 The reference's verdict of layer 21, in plain Lean: it is the program's.
-/
namespace Go.Proofs.Ytbeebjdnapkhhaa
set_option linter.unusedVariables false

def zj9 (l : List OpV) (c v w : Int) (i k : Nat) : Bool := decide ((nth l i).key = c) && (decide ((nth l k).key = c) && (decide (Vt (nth l i) = v) && (decide (Vt (nth l k) = w) && (zR l i && (zR l k && bef l i k)))))
def zgh (l : List OpV) (c v w : Int) : Bool := (List.range l.length).any fun i => (List.range l.length).any fun k => zj9 l c v w i k
def zkS (l : List OpV) (c : Int) (i k : Nat) : Bool := decide ((nth l k).key = c) && (decide ((nth l k).k = 1) && (zR l k && (zgh l c (nth l i).arg (nth l k).arg && zgh l c (nth l k).arg (nth l i).arg)))
def zkT (l : List OpV) (c : Int) (i : Nat) : Bool := decide ((nth l i).key = c) && (decide ((nth l i).k = 1) && zR l i)
def zkR (l : List OpV) (c : Int) (i : Nat) : Bool := zkT l c i && (zgh l c (nth l i).arg 0 || (List.range i).any (zkS l c i))
def zhE (l : List OpV) (c : Int) : Bool := (List.range l.length).any (zkR l c)
section
variable {l : List OpV} {c : Int}
theorem Wc {v w : Int} : zgh l c v w = true ↔ goes l c v w := by
 unfold zgh goes zfc
 rw [YT]
 simp only [YT]
 unfold zj9
 simp only [Bool.and_eq_true, decide_eq_true_eq]
 constructor
 ·rintro ⟨i, hi, k, hk, h1, h2, h3, h4, h5, h6, h7⟩
  exact ⟨i, k, ⟨hi, h1, h3, h5⟩, ⟨hk, h2, h4, h6⟩, h7⟩
 ·rintro ⟨i, k, ⟨hi, h1, h3, h5⟩, ⟨hk, h2, h4, h6⟩, h7⟩
  exact ⟨i, hi, k, hk, h1, h2, h3, h4, h5, h6, h7⟩
theorem zeI {i : Nat} (hi : i < l.length) : zkT l c i = true ↔ wrI l c i := by
 unfold zkT wrI
 simp only [Bool.and_eq_true, decide_eq_true_eq]
 exact ⟨fun h => ⟨hi, h⟩, fun h => h.2⟩
theorem Xn : zhE l c = true ↔ WC l c := by
 unfold zhE WC
 rw [YT]
 constructor
 ·rintro ⟨i, hi, h⟩
  unfold zkR at h
  rw [Bool.and_eq_true, zeI hi, Bool.or_eq_true, Wc, YT] at h
  refine ⟨i, h.1, h.2.imp id ?_⟩
  rintro ⟨k, hk, h2⟩
  unfold zkS at h2
  simp only [Bool.and_eq_true, decide_eq_true_eq, Wc] at h2
  exact ⟨k, hk, ⟨by omega, h2.1, h2.2.1, h2.2.2.1⟩, h2.2.2.2.1, h2.2.2.2.2⟩
 ·rintro ⟨i, hi, h⟩
  refine ⟨i, hi.1, ?_⟩
  unfold zkR
  rw [Bool.and_eq_true, zeI hi.1, Bool.or_eq_true, Wc, YT]
  refine ⟨hi, h.imp id ?_⟩
  rintro ⟨k, hk, hw, h1, h2⟩
  refine ⟨k, hk, ?_⟩
  unfold zkS
  simp only [Bool.and_eq_true, decide_eq_true_eq, Wc]
  exact ⟨hw.2.1, hw.2.2.1, hw.2.2.2, h1, h2⟩
theorem zf5 {w : Nat} (hw : wrI l c w) : ∃ j, j < (yu l c).length ∧ ZU l c j = (nth l w).arg := by
 rw [Yn]
 have hm : (false, [w], (nth l w).arg) ∈ ZQ l c l.length := Zh.2 (.inr ⟨w, hw.1, Zy.2 ⟨hw.2.1, hw.2.2.1, hw.2.2.2⟩, rfl⟩)
 obtain ⟨j, hj, e⟩ := List.getElem_of_mem hm
 exact ⟨j, hj, by unfold ZU; rw [zg hj, e]⟩
theorem zjl (D : zX l) {b : Nat} (hb : zfc l c 0 b) : 0 < (yu l c).length ∧ ZU l c 0 = 0 ∧ (nth (yu l c) 0).ini = true := by
 have h0 : zi1 l c = true := by
  obtain ⟨b1, b2, b3, b4⟩ := hb
  rcases D.kind b1 with hk | hk
  ·rw [YB hk] at b3
   exact Zm.2 ⟨b, b1, yD.2 ⟨hk, ZZ hk b4, b2, b3⟩⟩
  ·rw [ZH hk] at b3
   exact absurd b3 (D.arg b1 hk)
 have hm : (true, [], (0 : Int)) ∈ ZQ l c l.length := Zh.2 (.inl ⟨h0, rfl⟩)
 obtain ⟨j, hj, e⟩ := List.getElem_of_mem hm
 have hj' : j < (yu l c).length := by rw [Yn]; exact hj
 have hi : (nth (yu l c) j).ini = true := by
  have h1 : nth (yu l c) j = _ := XC hj
  rw [h1, zg hj, e]
 have := (zbi hj' hi).1
 subst this
 exact ⟨hj', by unfold ZU; rw [zg hj, e], hi⟩
theorem zfN (D : zX l) (h : WC l c) : Vl l c ≠ [] := by
 intro hc
 unfold Vl at hc
 rw [zbg] at hc
 have hcf : ∀ a j, a < j → j < (yu l c).length → YI l (nth (yu l c) a) (nth (yu l c) j) = [] := fun a j haj hj => hc a (by omega) (by omega) j haj hj
 have hbf : ∀ {p q a b : Nat} {v w : Int}, p < (yu l c).length → q < (yu l c).length → ZU l c p = v → ZU l c q = w → zfc l c v a → zfc l c w b → bef l a b = true → Vd l (nth (yu l c) p).ops < VD l (nth (yu l c) q).ops := fun {p q a b v w} hp hq vp vq ha hb hab => by
  have m1 := zgb (l := l) ((yA D hp).2 (by rw [vp]; exact ha))
  have m2 := zhx (l := l) ((yA D hq).2 (by rw [vq]; exact hb))
  unfold bef at hab
  simp only [Bool.and_eq_true, decide_eq_true_eq] at hab
  have : ZT (nth l a) = (nth l a).ret := by unfold ZT; rw [hab.1]; rfl
  omega
 obtain ⟨i, hwi, h⟩ := h
 obtain ⟨p, hp, vp⟩ := zf5 hwi
 rcases h with ⟨a, b, ha, hb, hab⟩ | ⟨k, hki, hwk, ⟨a, b, ha, hb, hab⟩, ⟨a', b', ha', hb', hab'⟩⟩
 ·obtain ⟨q1, q2, q3⟩ := zjl D hb
  have hlt := hbf hp q1 vp q2 ha hb hab
  have hp0 : p ≠ 0 := fun e => by
   subst e
   rw [q2] at vp
   exact D.arg hwi.1 hwi.2.2.1 vp.symm
  have := Zp.1 (hcf 0 p (by omega) hp)
  rw [q3] at this
  rcases this with h | h
  ·omega
  ·cases h.1
 ·obtain ⟨q, hq, vq⟩ := zf5 hwk
  have h1 := hbf hp hq vp vq ha hb hab
  have h2 := hbf hq hp vq vp ha' hb' hab'
  have hpq : p ≠ q := fun e => by
   subst e
   rw [vp] at vq
   have := D.uniq hwi.1 hwk.1 hwi.2.2.1 hwk.2.2.1 (hwi.2.1.trans hwk.2.1.symm) vq
   omega
  rcases Nat.lt_or_gt_of_ne hpq with h | h
  ·rcases Zp.1 (hcf p q h hq) with h3 | h3 <;> omega
  ·rcases Zp.1 (hcf q p h hp) with h3 | h3 <;> omega
theorem zeT (D : zX l) (hin : ∀ o ∈ l, zaf o) {a j : Nat} (haj : a < j) (hj : j < (yu l c).length) (h : YI l (nth (yu l c) a) (nth (yu l c) j) ≠ []) : WC l c := by
 have ha : a < (yu l c).length := by omega
 have hn : ¬ (VD l (nth (yu l c) a).ops ≤ Vd l (nth (yu l c) j).ops ∨ ((nth (yu l c) a).ini = false ∧ VD l (nth (yu l c) j).ops ≤ Vd l (nth (yu l c) a).ops)) := fun h2 => h (Zp.2 h2)
 have hgo : ∀ {p q : Nat}, p < (yu l c).length → q < (yu l c).length → Vd l (nth (yu l c) p).ops < VD l (nth (yu l c) q).ops → goes l c (ZU l c p) (ZU l c q) := fun {p q} hp hq hlt => by
  have m1 := (yA D hp).1 (Uh (l := l) (WE D hp))
  have m2 := (yA D hq).1 (zcE (l := l) (WE D hq))
  refine ⟨_, _, m1, m2, ?_⟩
  have o2 := hin _ (zA m2.1)
  unfold Vd VD ZT at hlt
  unfold bef
  cases hd : (nth l (YL l (nth (yu l c) p).ops)).done with
  | true =>
   rw [hd] at hlt
   simp only [if_true] at hlt
   simpa using hlt
  | false =>
   rw [hd] at hlt
   simp only [Bool.false_eq_true, if_false] at hlt
   unfold zaf I64 at o2
   omega
 have hlt : Vd l (nth (yu l c) j).ops < VD l (nth (yu l c) a).ops := Int.lt_of_not_ge fun h2 => hn (.inl h2)
 have g1 := hgo hj ha hlt
 have hcj := Zo hj
 rcases hcj with ⟨h0, h1, h2⟩ | ⟨w, w1, w2, h1, h2⟩
 ·exfalso
  have := (zbi hj (by rw [h2])).1
  omega
 have hww : wrI l c w := by rw [Zy] at w2; exact ⟨w1, w2⟩
 rcases Zo ha with ⟨k0, k1, k2⟩ | ⟨u, u1, u2, k1, k2⟩
 ·rw [h1, k1] at g1
  exact ⟨w, hww, .inl g1⟩
 have huu : wrI l c u := by rw [Zy] at u2; exact ⟨u1, u2⟩
 have hlt2 : Vd l (nth (yu l c) a).ops < VD l (nth (yu l c) j).ops := Int.lt_of_not_ge fun h3 => hn (.inr ⟨by rw [k2], h3⟩)
 have g2 := hgo ha hj hlt2
 rw [h1, k1] at g1
 rw [h1, k1] at g2
 have hne : w ≠ u := fun e => by
  subst e
  have := VV D ha hj (by rw [h1, k1])
  omega
 rcases Nat.lt_or_gt_of_ne hne with h3 | h3
 ·exact ⟨u, huu, .inr ⟨w, h3, hww, g2, g1⟩⟩
 ·exact ⟨w, hww, .inr ⟨u, h3, huu, g1, g2⟩⟩
theorem ziZ (D : zX l) (hin : ∀ o ∈ l, zaf o) : Vl l c = [] ↔ zhE l c = false := by
 constructor
 ·intro h
  rw [Bool.eq_false_iff]
  intro h2
  exact zfN D (Xn.1 h2) h
 ·intro h
  refine Classical.byContradiction fun hne => ?_
  obtain ⟨a, j, _, _, h3, h4, h5⟩ := zd0 (l := l) (C := yu l c) (f := (yu l c).length) (i := 0) hne
  have := Xn.2 (zeT D hin h3 h4 (by rw [← h5]; exact hne))
  rw [h] at this
  cases this
end
end Go.Proofs.Ytbeebjdnapkhhaa
