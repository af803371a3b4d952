/-
  The order of a key's operations (linear.sequence), in plain Lean: the clusters of a key without violations, one after the other.
-/
import Derived.Test.YtbeebjdnapkhhaaZLinClus
import Derived.Test.YtbeebjdnapkhhaaZNewPlain
namespace Go.Proofs.Ytbeebjdnapkhhaa
set_option linter.unusedVariables false

section
variable {l : List OpV}
theorem zeg {c : List Nat} : ∀ {k : Nat}, k ≤ c.length → ∀ j, j < k → ZW (nth l (zas l c k)) ≤ ZW (nth l (nth c j))
 | 0, _, j, hj => by omega
 | k + 1, hk, j, hj => by
  rw [WI (by omega)]
  unfold zj4
  by_cases hjk : j = k
  ·subst hjk
   split
   ·exact Int.le_refl _
   ·omega
  ·have := zeg (c := c) (k := k) (by omega) j (by omega)
   split
   ·omega
   ·exact this
theorem zeu {c : List Nat} : ∀ {k : Nat}, k ≤ c.length → ∀ j, j < k → (nth l (nth c j)).call ≤ (nth l (zbD l c k)).call
 | 0, _, j, hj => by omega
 | k + 1, hk, j, hj => by
  rw [WR (by omega)]
  unfold zj7
  by_cases hjk : j = k
  ·subst hjk
   split
   ·exact Int.le_refl _
   ·omega
  ·have := zeu (c := c) (k := k) (by omega) j (by omega)
   split
   ·omega
   ·exact this
theorem zgf {c : List Nat} {i : Nat} (h : i ∈ c) : Vi l c ≤ ZW (nth l i) := by
 obtain ⟨j, hj, e⟩ := List.getElem_of_mem h
 have := zeg (l := l) (Nat.le_refl c.length) j hj
 rw [Ul, zn hj, e] at this
 exact this
theorem zhz {c : List Nat} {i : Nat} (h : i ∈ c) : (nth l i).call ≤ VG l c := by
 obtain ⟨j, hj, e⟩ := List.getElem_of_mem h
 have := zeu (l := l) (Nat.le_refl c.length) j hj
 rw [UF, zn hj, e] at this
 exact this
theorem zch {c : List Nat} (h0 : 0 < c.length) : YO l c ∈ c := by rw [← Ul]; exact Um h0 (Nat.le_refl _)
theorem zcE {c : List Nat} (h0 : 0 < c.length) : Xy l c ∈ c := by rw [← UF]; exact UG h0 (Nat.le_refl _)
end

def zis (l : List OpV) (x y : ClV) : Bool := x.ini || decide (Vi l x.ops < VG l y.ops)
def zhM (l : List OpV) (C : List ClV) (i k : Nat) : Prs := ((List.range k).filter fun k => decide (i ≠ k) && zis l (nth C i) (nth C k)).map fun k => (i, k)
def zgX (l : List OpV) (C : List ClV) (i : Nat) : Prs := (List.range i).flatMap fun i => zhM l C i C.length
def zfr (l : List OpV) (C : List ClV) : Prs := zgX l C C.length
theorem zgW (l : List OpV) (C : List ClV) (i k : Nat) : zhM l C i (k + 1) = zhM l C i k ++ if (decide (i ≠ k) && zis l (nth C i) (nth C k)) = true then [(i, k)] else [] := by
 unfold zhM
 rw [List.range_succ, List.filter_append, List.map_append]
 congr 1
 by_cases h : (decide (i ≠ k) && zis l (nth C i) (nth C k)) = true
 ·rw [if_pos h, List.filter_cons_of_pos (by exact h)]; rfl
 ·rw [if_neg h, List.filter_cons_of_neg (by exact h)]; rfl
theorem zcM (l : List OpV) (C : List ClV) (i : Nat) : zgX l C (i + 1) = zgX l C i ++ zhM l C i C.length := by
 unfold zgX
 rw [List.range_succ, List.flatMap_append]
 simp
theorem zeD (l : List OpV) (C : List ClV) (i k : Nat) : (zhM l C i k).length ≤ k := by
 unfold zhM
 rw [List.length_map]
 exact Nat.le_trans (List.length_filter_le _ _) (by simp)
theorem zbJ (l : List OpV) (C : List ClV) : ∀ i, (zgX l C i).length ≤ i * C.length
 | 0 => by simp [zgX]
 | i + 1 => by
  rw [zcM, List.length_append]
  have := zbJ l C i
  have := zeD l C i C.length
  rw [Nat.succ_mul]; omega
theorem zbI {l : List OpV} {C : List ClV} {i k : Nat} : (i, k) ∈ zfr l C ↔ i < C.length ∧ k < C.length ∧ i ≠ k ∧ zis l (nth C i) (nth C k) = true := by
 unfold zfr zgX
 rw [List.mem_flatMap]
 constructor
 ·rintro ⟨i', h1, h2⟩
  unfold zhM at h2
  obtain ⟨k', h3, h4⟩ := List.mem_map.1 h2
  obtain ⟨h5, h6⟩ := List.mem_filter.1 h3
  simp only [Prod.mk.injEq] at h4
  obtain ⟨rfl, rfl⟩ := h4
  simp only [Bool.and_eq_true, decide_eq_true_eq] at h6
  exact ⟨List.mem_range.1 h1, List.mem_range.1 h5, h6.1, h6.2⟩
 ·rintro ⟨h1, h2, h3, h4⟩
  refine ⟨i, List.mem_range.2 h1, List.mem_map.2 ⟨k, List.mem_filter.2 ⟨List.mem_range.2 h2, ?_⟩, rfl⟩⟩
  rw [decide_eq_true h3, h4]; rfl
theorem Zs {l : List OpV} {x y : ClV} : YL l x y = [] ↔ VG l x.ops ≤ Vi l y.ops ∨ (x.ini = false ∧ VG l y.ops ≤ Vi l x.ops) := by
 unfold YL
 by_cases h1 : Vi l y.ops ≥ VG l x.ops
 ·rw [if_pos h1]; exact ⟨fun _ => .inl h1, fun _ => rfl⟩
 ·rw [if_neg h1]
  by_cases h2 : x.ini = true
  ·rw [if_pos h2, h2]
   constructor
   ·intro h; cases h
   ·rintro (h | h)
    ·exact absurd h h1
    ·cases h.1
  ·rw [if_neg h2]
   by_cases h3 : Vi l x.ops < VG l y.ops
   ·rw [if_pos h3]
    constructor
    ·intro h; cases h
    ·rintro (h | h)
     ·exact absurd h h1
     ·omega
   ·rw [if_neg h3]
    exact ⟨fun _ => .inr ⟨by simpa using h2, by omega⟩, fun _ => rfl⟩
def rkC (l : List OpV) (x : ClV) : Nat := if x.ini = true then 0 else 1 + 2 * (min (Vi l x.ops) (VG l x.ops)).toNat + if Vi l x.ops < VG l x.ops then 1 else 0
theorem ziu {l : List OpV} {C : List ClV} (hC : ∀ a j, a < j → j < C.length → YL l (nth C a) (nth C j) = []) (hini : ∀ j, j < C.length → (nth C j).ini = true → j = 0)
  (h0 : ∀ j, j < C.length → 0 ≤ Vi l (nth C j).ops ∧ 0 ≤ VG l (nth C j).ops) : ∀ e ∈ zfr l C, rkC l (nth C e.1) < rkC l (nth C e.2) := by
 rintro ⟨i, k⟩ he
 obtain ⟨hi, hk, hne, hp⟩ := zbI.1 he
 dsimp only
 unfold zis at hp
 rw [Bool.or_eq_true, decide_eq_true_eq] at hp
 have kini : (nth C k).ini = true → False := fun h => by
  have e := hini k hk h
  have := Zs.1 (hC k i (by omega) hi)
  rw [h] at this
  rcases this with h1 | h1
  ·rcases hp with h2 | h2
   ·have := hini i hi h2; omega
   ·omega
  ·cases h1.1
 have kf : (nth C k).ini = false := by
  cases h : (nth C k).ini with
  | false => rfl
  | true => exact (kini h).elim
 unfold rkC
 rw [kf, if_neg (show ¬ false = true by decide)]
 cases hii : (nth C i).ini with
 | true => rw [if_pos rfl]; omega
 | false =>
  rw [if_neg (by decide)]
  have hp : Vi l (nth C i).ops < VG l (nth C k).ops := hp.resolve_left (by rw [hii]; decide)
  have hnc : VG l (nth C i).ops ≤ Vi l (nth C k).ops := by
   rcases Nat.lt_or_gt_of_ne hne with h | h
   ·rcases Zs.1 (hC i k h hk) with h1 | h1
    ·exact h1
    ·omega
   ·rcases Zs.1 (hC k i h hi) with h1 | h1
    ·omega
    ·exact h1.2
  obtain ⟨i1, i2⟩ := h0 i hi
  obtain ⟨k1, k2⟩ := h0 k hk
  split <;> split <;> omega
theorem zjj.mem {R : Nat → Nat → Bool} {n : Nat} {L : List Nat} (h : zjj R n L) {b : Nat} (hb : b < n) : b ∈ L := by
 refine Classical.byContradiction fun hno => ?_
 have key : ∀ (l m : List Nat), l.Nodup → (∀ x ∈ l, x ∈ m) → l.length ≤ m.length := by
  intro l
  induction l with
  | nil => intro m _ _; exact Nat.zero_le _
  | cons x l ih =>
   intro m hn hs
   obtain ⟨h1, h2⟩ := List.nodup_cons.1 hn
   have hx := hs x (by simp)
   have hl := List.length_erase_of_mem hx
   have hpos : 0 < m.length := List.length_pos_of_mem hx
   have := ih (m.erase x) h2 fun y hy => (List.mem_erase_of_ne (fun e : y = x => h1 (by rw [← e]; exact hy))).2 (hs y (by simp [hy]))
   rw [List.length_cons]
   omega
 have hs := key L ((List.range n).erase b) h.nd fun x hx => (List.mem_erase_of_ne (fun e : x = b => hno (by rw [← e]; exact hx))).2 (List.mem_range.2 (h.rng x hx))
 rw [List.length_erase_of_mem (List.mem_range.2 hb), List.length_range, h.len] at hs
 omega
def XP (L : List Nat) (x : Nat) : Nat := L.idxOf x
theorem Yx {L : List Nat} {x : Nat} (h : x ∈ L) : XP L x < L.length := List.idxOf_lt_length_of_mem h
theorem xH {L : List Nat} {x : Nat} (h : x ∈ L) : nth L (XP L x) = x := by
 rw [zn (Yx h)]
 exact List.getElem_idxOf _
theorem zgV {L : List Nat} (hn : L.Nodup) {i : Nat} (hi : i < L.length) : XP L (nth L i) = i := by
 rw [zn hi]
 exact hn.idxOf_getElem i hi
theorem VE {L : List Nat} {x y : Nat} (hx : x ∈ L) (hy : y ∈ L) (e : XP L x = XP L y) : x = y := by
 rw [← xH hx, e, xH hy]
theorem zjj.lt {R : Nat → Nat → Bool} {n : Nat} {L : List Nat} (h : zjj R n L) {a b : Nat} (ha : a < n) (hb : b < n) (hr : R a b = true) : XP L a < XP L b := by
 have ma := h.mem ha
 have mb := h.mem hb
 have := h.ord (XP L a) (XP L b) (by rw [← h.len]; exact Yx ma) (by rw [← h.len]; exact Yx mb)
 rw [xH ma, xH mb] at this
 exact this hr
structure VO (l : List OpV) (c : Int) : Prop where
 thin : ∀ i, i < l.length → (nth l i).key = c → zaI l i = false
 early : ∀ i, i < l.length → (nth l i).key = c → Vh l i = false
 conf : VW l c = []
def nCl (l : List OpV) (c : Int) : Nat := (yC l c).length
noncomputable def zge (l : List OpV) (c : Int) : List Nat := yI (xb (zfr l (yC l c))) (nCl l c) (nCl l c)
noncomputable def YH (l : List OpV) (c : Int) : List Nat := (zge l c).flatMap fun j => (nth (yC l c) j).ops
def zdl (l : List OpV) (c : Int) (i : Nat) : Nat := ((List.range (nCl l c)).find? fun j => decide (ZX l c j = XV (nth l i))).getD 0
noncomputable def spL (l : List OpV) (c : Int) (i : Nat) : Nat := XP (zge l c) (zdl l c i) * (l.length + 2) + if (nth l i).k = 1 then 0 else i + 1
section
variable {l : List OpV} {c : Int}
theorem zbn {j : Nat} (hj : j < (yC l c).length) : (nth (yC l c) j).ini = true → j = 0 ∧ zi5 l c = true := by
 rw [Yr] at hj
 have h1 : nth (yC l c) j = _ := XI hj
 rw [h1]
 show (nth (ZT l c l.length) j).1 = true → _
 unfold ZT at hj ⊢
 intro h
 by_cases h0 : zi5 l c = true
 ·rw [if_pos h0] at h hj
  refine ⟨Classical.byContradiction fun hne => ?_, h0⟩
  obtain ⟨j, rfl⟩ : ∃ j', j = j' + 1 := ⟨j - 1, by omega⟩
  simp only [List.length_append, List.length_cons, List.length_nil] at hj
  rw [zn (by simp at hj ⊢; omega)] at h
  simp at h
 ·rw [if_neg h0] at h hj
  rw [List.nil_append] at h hj
  rw [zn hj] at h
  simp at h
theorem VZ (D : yn l) {j k : Nat} (hj : j < nCl l c) (hk : k < nCl l c) (e : ZX l c j = ZX l c k) : j = k := by
 have hn := zc4 (c := c) D (Nat.le_refl l.length)
 unfold nCl at hj hk
 rw [Yr] at hj hk
 unfold ZX at e
 rw [zn hj, zn hk] at e
 refine (List.getElem_inj hn (h₀ := by simpa using hj) (h₁ := by simpa using hk)).1 ?_
 simpa using e
theorem YK (D : yn l) (V : VO l c) {i : Nat} (h1 : i < l.length) (h2 : (nth l i).key = c) (h4 : yj l i = true) : zdl l c i < nCl l c ∧ ZX l c (zdl l c i) = XV (nth l i) := by
 have hex : ∃ j, j < nCl l c ∧ ZX l c j = XV (nth l i) := by
  unfold nCl
  rw [Yr]
  unfold ZX
  rcases D.kind h1 with hk | hk
  ·obtain ⟨j, j1, j2⟩ := zc3 D h1 h2 hk (Yc hk h4) (V.thin i h1 h2)
   exact ⟨j, j1, by rw [j2, YE hk]⟩
  ·have hm : (false, [i], (nth l i).arg) ∈ ZT l c l.length := Zl.2 (.inr ⟨i, h1, ZD.2 ⟨h2, hk, h4⟩, rfl⟩)
   obtain ⟨j, hj, e⟩ := List.getElem_of_mem hm
   exact ⟨j, hj, by rw [zn hj, e, ZB hk]⟩
 obtain ⟨j, j1, j2⟩ := hex
 unfold zdl
 cases hf : (List.range (nCl l c)).find? fun j => decide (ZX l c j = XV (nth l i)) with
 | none =>
  have := List.find?_eq_none.1 hf j (List.mem_range.2 j1)
  rw [j2] at this
  simp at this
 | some z =>
  rw [List.find?_range_eq_some] at hf
  exact ⟨List.mem_range.1 hf.2.1, by simpa using hf.1⟩
theorem zjp (D : yn l) (V : VO l c) {j i : Nat} (hj : j < nCl l c) (hi : i ∈ (nth (yC l c) j).ops) : zdl l c i = j := by
 obtain ⟨h1, h2, h3, h4⟩ := (yP D hj).1 hi
 obtain ⟨c1, c2⟩ := YK D V h1 h2 h4
 exact VZ D c1 hj (by rw [c2, h3])
theorem Ud (D : yn l) (hw : ∀ i, i < l.length → 0 ≤ (nth l i).call ∧ (nth l i).call < (nth l i).ret) (V : VO l c) : (∀ e ∈ zfr l (yC l c), rkC l (nth (yC l c) e.1) < rkC l (nth (yC l c) e.2)) ∧ zjj (xb (zfr l (yC l c))) (nCl l c) (zge l c) := by
 have h := ziu (l := l) (C := yC l c) (fun a j haj hj => zdj.1 V.conf a (by omega) (by omega) j haj hj) (fun j hj h => (zbn hj h).1) (fun j hj => by
  have h0 := VY D hj
  have m1 := (yP D hj).1 (zch (l := l) h0)
  have m2 := (yP D hj).1 (zcE (l := l) h0)
  have w1 := hw _ m1.1
  have w2 := hw _ m2.1
  refine ⟨?_, w2.1⟩
  unfold Vi ZW
  split <;> omega)
 exact ⟨h, zeb (ZL (f := fun j => rkC l (nth (yC l c) j)) h)⟩
theorem xt (D : yn l) (hw : ∀ i, i < l.length → 0 ≤ (nth l i).call ∧ (nth l i).call < (nth l i).ret) (V : VO l c) {i : Nat} : i ∈ YH l c ↔ i < l.length ∧ (nth l i).key = c ∧ yj l i = true := by
 obtain ⟨_, E⟩ := Ud D hw V
 unfold YH
 rw [List.mem_flatMap]
 constructor
 ·rintro ⟨j, hj, hi⟩
  obtain ⟨h1, h2, h3, h4⟩ := (yP D (E.rng j hj)).1 hi
  exact ⟨h1, h2, h4⟩
 ·rintro ⟨h1, h2, h4⟩
  obtain ⟨c1, c2⟩ := YK D V h1 h2 h4
  exact ⟨_, E.mem c1, (yP D c1).2 ⟨h1, h2, c2.symm, h4⟩⟩
theorem zeI (D : yn l) (V : VO l c) {j i : Nat} (hj : j < nCl l c) (hi : i ∈ (nth (yC l c) j).ops) : spL l c i = XP (zge l c) j * (l.length + 2) + if (nth l i).k = 1 then 0 else i + 1 := by
 unfold spL
 rw [zjp D V hj hi]
theorem zac {i : Nat} (h : i < l.length) : (if (nth l i).k = 1 then 0 else i + 1) < l.length + 2 := by split <;> omega
theorem zhx {a b B x y : Nat} (h : a < b) (hx : x < B) : a * B + x < b * B + y := by
 have := Nat.mul_le_mul_right B (show a + 1 ≤ b by omega)
 rw [Nat.succ_mul] at this
 omega
theorem UY (D : yn l) (hw : ∀ i, i < l.length → 0 ≤ (nth l i).call ∧ (nth l i).call < (nth l i).ret) (V : VO l c) : (YH l c).Pairwise fun a b => spL l c a < spL l c b := by
 obtain ⟨_, E⟩ := Ud D hw V
 unfold YH
 rw [List.pairwise_flatMap]
 constructor
 ·intro j hj
  have hjn := E.rng j hj
  have hrd : ∀ v, (YF l c v l.length).Pairwise fun a b => a < b ∧ (nth l a).k = 0 ∧ (nth l b).k = 0 := fun v => by
   have h1 : (YF l c v l.length).Pairwise fun a b => a < b := List.pairwise_lt_range.sublist List.filter_sublist
   refine h1.imp_of_mem fun ha hb hab => ⟨hab, ?_, ?_⟩
   ·exact (yS.1 (YX.1 ha).2).1
   ·exact (yS.1 (YX.1 hb).2).1
  have hp : (nth (yC l c) j).ops.Pairwise fun a b => (if (nth l a).k = 1 then 0 else a + 1) < if (nth l b).k = 1 then 0 else b + 1 := by
   rcases Zr hjn with ⟨h0, h1, h2⟩ | ⟨w, w1, w2, h1, h2⟩
   ·rw [h2]
    refine (hrd 0).imp fun h => ?_
    rw [if_neg (by omega), if_neg (by omega)]; omega
   ·rw [h2]
    refine List.pairwise_cons.2 ⟨fun b hb => ?_, (hrd _).imp fun h => ?_⟩
    ·have := (yS.1 (YX.1 hb).2).1
     rw [if_pos (ZD.1 w2).2.1, if_neg (by omega)]; omega
    ·rw [if_neg (by omega), if_neg (by omega)]; omega
  refine hp.imp_of_mem fun ha hb h => ?_
  rw [zeI D V hjn ha, zeI D V hjn hb]
  omega
 ·rw [List.pairwise_iff_getElem]
  intro p q hp hq hpq x hx y hy
  have h1 := E.rng _ (List.getElem_mem hp)
  have h2 := E.rng _ (List.getElem_mem hq)
  rw [zeI D V h1 hx, zeI D V h2 hy]
  have e1 := zgV E.nd hp
  have e2 := zgV E.nd hq
  rw [zn hp] at e1
  rw [zn hq] at e2
  rw [e1, e2]
  exact zhx hpq (zac ((yP D h1).1 hx).1)
theorem zja (D : yn l) (hw : ∀ i, i < l.length → 0 ≤ (nth l i).call ∧ (nth l i).call < (nth l i).ret) (V : VO l c) {i k : Nat} (hi : i < nCl l c) (hk : k < nCl l c) (hne : i ≠ k) (h : zis l (nth (yC l c) i) (nth (yC l c) k) = true) : XP (zge l c) i < XP (zge l c) k :=
 (Ud D hw V).2.lt hi hk (xP.2 (.one (zbI.2 ⟨hi, hk, hne, h⟩)))
theorem zjN (D : yn l) (hc : ∀ i j, i < l.length → j < l.length → (nth l i).call < (nth l j).call → i < j) (hw : ∀ i, i < l.length → 0 ≤ (nth l i).call ∧ (nth l i).call < (nth l i).ret) (V : VO l c) {i k : Nat} (hi : i ∈ YH l c) (hk : k ∈ YH l c) (hb : bef l i k = true) : spL l c i < spL l c k := by
 obtain ⟨i1, i2, i4⟩ := (xt D hw V).1 hi
 obtain ⟨k1, k2, k4⟩ := (xt D hw V).1 hk
 obtain ⟨ci, vi⟩ := YK D V i1 i2 i4
 obtain ⟨ck, vk⟩ := YK D V k1 k2 k4
 have mi := (yP D ci).2 ⟨i1, i2, vi.symm, i4⟩
 have mk := (yP D ck).2 ⟨k1, k2, vk.symm, k4⟩
 have hcall := zhT (fun i h => (hw i h).2) i1 hb
 have hik := hc i k i1 k1 hcall
 have hbf := hb
 unfold bef at hbf
 simp only [Bool.and_eq_true, decide_eq_true_eq] at hbf
 unfold spL
 by_cases e : zdl l c i = zdl l c k
 ·rw [e]
  have hv : XV (nth l i) = XV (nth l k) := by rw [← vi, ← vk, e]
  rcases D.kind i1 with ki | ki
  ·rcases D.kind k1 with kk | kk
   ·rw [if_neg (by omega), if_neg (by omega)]; omega
   ·exfalso
    rw [YE ki, ZB kk] at hv
    have he := V.early i i1 i2
    have e1 := zjh D k1 kk
    rw [k2, ← hv, ← i2] at e1
    have ha := D.arg k1 kk
    unfold Vh at he
    rw [e1, decide_eq_true ki, hbf.1, decide_eq_true (show (nth l i).res ≠ 0 by omega)] at he
    have he : bef l i k = false := by simpa using he
    rw [hb] at he
    cases he
  ·rcases D.kind k1 with kk | kk
   ·rw [if_pos ki, if_neg (by omega)]; omega
   ·exfalso
    rw [ZB ki, ZB kk] at hv
    have := D.uniq i1 k1 ki kk (i2.trans k2.symm) hv
    omega
 ·refine zhx (zja D hw V ci ck e ?_) (zac i1)
  unfold zis
  rw [Bool.or_eq_true, decide_eq_true_eq]
  refine .inr ?_
  have h1 := zgf (l := l) mi
  have h2 := zhz (l := l) mk
  have h3 : ZW (nth l i) = (nth l i).ret := by unfold ZW; rw [hbf.1]; rfl
  omega
theorem zjM (D : yn l) (hw : ∀ i, i < l.length → 0 ≤ (nth l i).call ∧ (nth l i).call < (nth l i).ret) (V : VO l c) {r : Nat} (hr : r < l.length) (hrc : (nth l r).key = c) (h0 : (nth l r).k = 0) (hd : (nth l r).done = true) :
  ((nth l r).res = 0 ∧ ∀ w, wrI l c w → spL l c r < spL l c w) ∨ ∃ w, wrI l c w ∧ (nth l w).arg = (nth l r).res ∧ spL l c w < spL l c r ∧ ∀ w', wrI l c w' → w' ≠ w → spL l c w' < spL l c w ∨ spL l c r < spL l c w' := by
 obtain ⟨cr, vr⟩ := YK D V hr hrc (Xk hd)
 rw [YE h0] at vr
 by_cases hz : (nth l r).res = 0
 ·refine .inl ⟨hz, fun w hwi => ?_⟩
  obtain ⟨w1, w2, w3, w4⟩ := hwi
  obtain ⟨cw, vw⟩ := YK D V w1 w2 w4
  rw [ZB w3] at vw
  have ha := D.arg w1 w3
  have hne : zdl l c r ≠ zdl l c w := fun e => by rw [e, vw] at vr; omega
  unfold spL
  refine zhx (zja D hw V cr cw hne ?_) (zac hr)
  unfold zis
  rw [Bool.or_eq_true]
  left
  rcases Zr cr with ⟨h0, h1, h2⟩ | ⟨u, u1, u2, h1, h2⟩
  ·rw [h2]
  ·exact absurd (by rw [← h1, vr, hz]) (D.arg u1 (ZD.1 u2).2.1)
 ·have ht := V.thin r hr hrc
  unfold zaI at ht
  rw [decide_eq_true h0, hd, decide_eq_true hz] at ht
  simp only [Bool.true_and] at ht
  cases hwx : wIx l (nth l r).key (nth l r).res with
  | none => rw [hwx] at ht; cases ht
  | some w =>
   obtain ⟨w1, w2, _⟩ := xu hwx
   rw [Xa] at w2
   obtain ⟨w2, w3, w5⟩ := w2
   have w4 := zhI hr h0 hd w1 w2 w3 w5
   have wc : (nth l w).key = c := w3.trans hrc
   obtain ⟨cw, vw⟩ := YK D V w1 wc w4
   rw [ZB w2] at vw
   have hsame : zdl l c w = zdl l c r := VZ D cw cr (by rw [vw, vr, w5])
   refine .inr ⟨w, ⟨w1, wc, w2, w4⟩, w5, ?_, ?_⟩
   ·unfold spL
    rw [hsame, if_pos w2, if_neg (by omega)]; omega
   ·rintro w' ⟨x1, x2, x3, x4⟩ hne
    obtain ⟨cx, vx⟩ := YK D V x1 x2 x4
    rw [ZB x3] at vx
    have hdif : zdl l c w' ≠ zdl l c w := fun e => by
     rw [e, vw] at vx
     exact hne (D.uniq x1 w1 x3 w2 (x2.trans wc.symm) vx.symm)
    have E := (Ud D hw V).2
    have hpd : XP (zge l c) (zdl l c w') ≠ XP (zge l c) (zdl l c w) := fun e => hdif (VE (E.mem cx) (E.mem cw) e)
    rcases Nat.lt_or_gt_of_ne hpd with h | h
    ·left; unfold spL; exact zhx h (zac x1)
    ·right; unfold spL; rw [← hsame]; exact zhx h (zac hr)
end
end Go.Proofs.Ytbeebjdnapkhhaa
