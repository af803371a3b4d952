/-
  Some texts as one: LinSeq, LinGlob, LinChk, LinRef, LinOrder.
-/
import Derived.Test.YtbeebjdnapkhhaaZLinClus
import Derived.Test.YtbeebjdnapkhhaaZQ
import Derived.Test.YtbeebjdnapkhhaaZG
/-
 The order of a key's operations (linear.sequence), in plain Lean: the clusters of a key without violations, one after the other.
-/
namespace Go.Proofs.Ytbeebjdnapkhhaa
set_option linter.unusedVariables false

section
variable {l : List OpV}
theorem zeL {c : List Nat} : ∀ {k : Nat}, k ≤ c.length → ∀ j, j < k → YR (nth l (zaA l c k)) ≤ YR (nth l (nth c j))
 | 0, _, j, hj => by omega
 | k + 1, hk, j, hj => by
  rw [WP (by omega)]
  unfold zkF
  by_cases hjk : j = k
  ·subst hjk
   split
   ·exact Int.le_refl _
   ·omega
  ·have := zeL (c := c) (k := k) (by omega) j (by omega)
   split
   ·omega
   ·exact this
theorem ze1 {c : List Nat} : ∀ {k : Nat}, k ≤ c.length → ∀ j, j < k → (nth l (nth c j)).call ≤ (nth l (zbS l c k)).call
 | 0, _, j, hj => by omega
 | k + 1, hk, j, hj => by
  rw [WV (by omega)]
  unfold zkH
  by_cases hjk : j = k
  ·subst hjk
   split
   ·exact Int.le_refl _
   ·omega
  ·have := ze1 (c := c) (k := k) (by omega) j (by omega)
   split
   ·omega
   ·exact this
theorem zj4 {c : List Nat} {i : Nat} (h : i ∈ c) : zbA l c ≤ YR (nth l i) := by
 obtain ⟨j, hj, e⟩ := List.getElem_of_mem h
 have := zeL (l := l) (Nat.le_refl c.length) j hj
 rw [Uo, zi hj, e] at this
 exact this
theorem zkq {c : List Nat} {i : Nat} (h : i ∈ c) : (nth l i).call ≤ zdx l c := by
 obtain ⟨j, hj, e⟩ := List.getElem_of_mem h
 have := ze1 (l := l) (Nat.le_refl c.length) j hj
 rw [UH, zi hj, e] at this
 exact this
theorem zgQ {c : List Nat} (h0 : 0 < c.length) : XC l c ∈ c := by rw [← Uo]; exact Up h0 (Nat.le_refl _)
theorem zhp {c : List Nat} (h0 : 0 < c.length) : XG l c ∈ c := by rw [← UH]; exact UI h0 (Nat.le_refl _)
end

def ziX (l : List OpV) (x y : ClV) : Bool := x.ini || decide (zbA l x.ops < zdx l y.ops)
def zig (l : List OpV) (C : List ClV) (i k : Nat) : Prs := ((List.range k).filter fun k => decide (i ≠ k) && ziX l (nth C i) (nth C k)).map fun k => (i, k)
def zhv (l : List OpV) (C : List ClV) (i : Nat) : Prs := (List.range i).flatMap fun i => zig l C i C.length
def zfW (l : List OpV) (C : List ClV) : Prs := zhv l C C.length
theorem zhu (l : List OpV) (C : List ClV) (i k : Nat) : zig l C i (k + 1) = zig l C i k ++ if (decide (i ≠ k) && ziX l (nth C i) (nth C k)) = true then [(i, k)] else [] := by
 unfold zig
 rw [List.range_succ, List.filter_append, List.map_append]
 congr 1
 by_cases h : (decide (i ≠ k) && ziX l (nth C i) (nth C k)) = true
 ·rw [if_pos h, List.filter_cons_of_pos (by exact h)]; rfl
 ·rw [if_neg h, List.filter_cons_of_neg (by exact h)]; rfl
theorem zdc (l : List OpV) (C : List ClV) (i : Nat) : zhv l C (i + 1) = zhv l C i ++ zig l C i C.length := by
 unfold zhv
 rw [List.range_succ, List.flatMap_append]
 simp
theorem ze9 (l : List OpV) (C : List ClV) (i k : Nat) : (zig l C i k).length ≤ k := by
 unfold zig
 rw [List.length_map]
 exact Nat.le_trans (List.length_filter_le _ _) (by simp)
theorem zbZ (l : List OpV) (C : List ClV) : ∀ i, (zhv l C i).length ≤ i * C.length
 | 0 => by simp [zhv]
 | i + 1 => by
  rw [zdc, List.length_append]
  have := zbZ l C i
  have := ze9 l C i C.length
  rw [Nat.succ_mul]; omega
theorem zbY {l : List OpV} {C : List ClV} {i k : Nat} : (i, k) ∈ zfW l C ↔ i < C.length ∧ k < C.length ∧ i ≠ k ∧ ziX l (nth C i) (nth C k) = true := by
 unfold zfW zhv
 rw [List.mem_flatMap]
 constructor
 ·rintro ⟨i', h1, h2⟩
  unfold zig at h2
  obtain ⟨k', h3, h4⟩ := List.mem_map.1 h2
  obtain ⟨h5, h6⟩ := List.mem_filter.1 h3
  simp only [Prod.mk.injEq] at h4
  obtain ⟨rfl, rfl⟩ := h4
  simp only [Bool.and_eq_true, decide_eq_true_eq] at h6
  exact ⟨List.mem_range.1 h1, List.mem_range.1 h5, h6.1, h6.2⟩
 ·rintro ⟨h1, h2, h3, h4⟩
  refine ⟨i, List.mem_range.2 h1, List.mem_map.2 ⟨k, List.mem_filter.2 ⟨List.mem_range.2 h2, ?_⟩, rfl⟩⟩
  rw [decide_eq_true h3, h4]; rfl
theorem Uc {l : List OpV} {x y : ClV} : Vt l x y = [] ↔ zdx l x.ops ≤ zbA l y.ops ∨ (x.ini = false ∧ zdx l y.ops ≤ zbA l x.ops) := by
 unfold Vt
 by_cases h1 : zbA l y.ops ≥ zdx l x.ops
 ·rw [if_pos h1]; exact ⟨fun _ => .inl h1, fun _ => rfl⟩
 ·rw [if_neg h1]
  by_cases h2 : x.ini = true
  ·rw [if_pos h2, h2]
   constructor
   ·intro h; cases h
   ·rintro (h | h)
    ·exact absurd h h1
    ·cases h.1
  ·rw [if_neg h2]
   by_cases h3 : zbA l x.ops < zdx l y.ops
   ·rw [if_pos h3]
    constructor
    ·intro h; cases h
    ·rintro (h | h)
     ·exact absurd h h1
     ·omega
   ·rw [if_neg h3]
    exact ⟨fun _ => .inr ⟨by simpa using h2, by omega⟩, fun _ => rfl⟩
def rkC (l : List OpV) (x : ClV) : Nat := if x.ini = true then 0 else 1 + 2 * (min (zbA l x.ops) (zdx l x.ops)).toNat + if zbA l x.ops < zdx l x.ops then 1 else 0
theorem ziZ {l : List OpV} {C : List ClV} (hC : ∀ a j, a < j → j < C.length → Vt l (nth C a) (nth C j) = []) (hini : ∀ j, j < C.length → (nth C j).ini = true → j = 0)
  (h0 : ∀ j, j < C.length → 0 ≤ zbA l (nth C j).ops ∧ 0 ≤ zdx l (nth C j).ops) : ∀ e ∈ zfW l C, rkC l (nth C e.1) < rkC l (nth C e.2) := by
 rintro ⟨i, k⟩ he
 obtain ⟨hi, hk, hne, hp⟩ := zbY.1 he
 dsimp only
 unfold ziX at hp
 rw [Bool.or_eq_true, decide_eq_true_eq] at hp
 have kini : (nth C k).ini = true → False := fun h => by
  have e := hini k hk h
  have := Uc.1 (hC k i (by omega) hi)
  rw [h] at this
  rcases this with h1 | h1
  ·rcases hp with h2 | h2
   ·have := hini i hi h2; omega
   ·omega
  ·cases h1.1
 have kf : (nth C k).ini = false := by
  cases h : (nth C k).ini with
  | false => rfl
  | true => exact (kini h).elim
 unfold rkC
 rw [kf, if_neg (show ¬ false = true by decide)]
 cases hii : (nth C i).ini with
 | true => rw [if_pos rfl]; omega
 | false =>
  rw [if_neg (by decide)]
  have hp : zbA l (nth C i).ops < zdx l (nth C k).ops := hp.resolve_left (by rw [hii]; decide)
  have hnc : zdx l (nth C i).ops ≤ zbA l (nth C k).ops := by
   rcases Nat.lt_or_gt_of_ne hne with h | h
   ·rcases Uc.1 (hC i k h hk) with h1 | h1
    ·exact h1
    ·omega
   ·rcases Uc.1 (hC k i h hi) with h1 | h1
    ·omega
    ·exact h1.2
  obtain ⟨i1, i2⟩ := h0 i hi
  obtain ⟨k1, k2⟩ := h0 k hk
  split <;> split <;> omega
theorem zjS.mem {R : Nat → Nat → Bool} {n : Nat} {L : List Nat} (h : zjS R n L) {b : Nat} (hb : b < n) : b ∈ L := by
 refine Classical.byContradiction fun hno => ?_
 have key : ∀ (l m : List Nat), l.Nodup → (∀ x ∈ l, x ∈ m) → l.length ≤ m.length := by
  intro l
  induction l with
  | nil => intro m _ _; exact Nat.zero_le _
  | cons x l ih =>
   intro m hn hs
   obtain ⟨h1, h2⟩ := List.nodup_cons.1 hn
   have hx := hs x (by simp)
   have hl := List.length_erase_of_mem hx
   have hpos : 0 < m.length := List.length_pos_of_mem hx
   have := ih (m.erase x) h2 fun y hy => (List.mem_erase_of_ne (fun e : y = x => h1 (by rw [← e]; exact hy))).2 (hs y (by simp [hy]))
   rw [List.length_cons]
   omega
 have hs := key L ((List.range n).erase b) h.nd fun x hx => (List.mem_erase_of_ne (fun e : x = b => hno (by rw [← e]; exact hx))).2 (List.mem_range.2 (h.rng x hx))
 rw [List.length_erase_of_mem (List.mem_range.2 hb), List.length_range, h.len] at hs
 omega
def YD (L : List Nat) (x : Nat) : Nat := L.idxOf x
theorem xU {L : List Nat} {x : Nat} (h : x ∈ L) : YD L x < L.length := List.idxOf_lt_length_of_mem h
theorem yt {L : List Nat} {x : Nat} (h : x ∈ L) : nth L (YD L x) = x := by
 rw [zi (xU h)]
 exact List.getElem_idxOf _
theorem UQ {L : List Nat} (hn : L.Nodup) {i : Nat} (hi : i < L.length) : YD L (nth L i) = i := by
 rw [zi hi]
 exact hn.idxOf_getElem i hi
theorem Xs {L : List Nat} {x y : Nat} (hx : x ∈ L) (hy : y ∈ L) (e : YD L x = YD L y) : x = y := by
 rw [← yt hx, e, yt hy]
theorem zjS.lt {R : Nat → Nat → Bool} {n : Nat} {L : List Nat} (h : zjS R n L) {a b : Nat} (ha : a < n) (hb : b < n) (hr : R a b = true) : YD L a < YD L b := by
 have ma := h.mem ha
 have mb := h.mem hb
 have := h.ord (YD L a) (YD L b) (by rw [← h.len]; exact xU ma) (by rw [← h.len]; exact xU mb)
 rw [yt ma, yt mb] at this
 exact this hr
structure VO (l : List OpV) (c : Int) : Prop where
 thin : ∀ i, i < l.length → (nth l i).key = c → zgi l i = false
 early : ∀ i, i < l.length → (nth l i).key = c → zgK l i = false
 conf : zdL l c = []
def nCl (l : List OpV) (c : Int) : Nat := (Zo l c).length
noncomputable def zgM (l : List OpV) (c : Int) : List Nat := yI (xe (zfW l (Zo l c))) (nCl l c) (nCl l c)
noncomputable def YP (l : List OpV) (c : Int) : List Nat := (zgM l c).flatMap fun j => (nth (Zo l c) j).ops
def zdN (l : List OpV) (c : Int) (i : Nat) : Nat := ((List.range (nCl l c)).find? fun j => decide (Vs l c j = zah (nth l i))).getD 0
noncomputable def spL (l : List OpV) (c : Int) (i : Nat) : Nat := YD (zgM l c) (zdN l c i) * (l.length + 2) + if (nth l i).k = 1 then 0 else i + 1
section
variable {l : List OpV} {c : Int}
theorem zit {j : Nat} (hj : j < (Zo l c).length) : (nth (Zo l c) j).ini = true → j = 0 ∧ zj9 l c = true := by
 rw [Wg] at hj
 have h1 : nth (Zo l c) j = _ := WN hj
 rw [h1]
 show (nth (Yt l c l.length) j).1 = true → _
 unfold Yt at hj ⊢
 intro h
 by_cases h0 : zj9 l c = true
 ·rw [if_pos h0] at h hj
  refine ⟨Classical.byContradiction fun hne => ?_, h0⟩
  obtain ⟨j, rfl⟩ : ∃ j', j = j' + 1 := ⟨j - 1, by omega⟩
  simp only [List.length_append, List.length_cons, List.length_nil] at hj
  rw [zi (by simp at hj ⊢; omega)] at h
  simp at h
 ·rw [if_neg h0] at h hj
  rw [List.nil_append] at h hj
  rw [zi hj] at h
  simp at h
theorem zcp (D : yj l) {j k : Nat} (hj : j < nCl l c) (hk : k < nCl l c) (e : Vs l c j = Vs l c k) : j = k := by
 have hn := zdz (c := c) D (Nat.le_refl l.length)
 unfold nCl at hj hk
 rw [Wg] at hj hk
 unfold Vs at e
 rw [zi hj, zi hk] at e
 refine (List.getElem_inj hn (h₀ := by simpa using hj) (h₁ := by simpa using hk)).1 ?_
 simpa using e
theorem YT (D : yj l) (V : VO l c) {i : Nat} (h1 : i < l.length) (h2 : (nth l i).key = c) (h4 : zR l i = true) : zdN l c i < nCl l c ∧ Vs l c (zdN l c i) = zah (nth l i) := by
 have hex : ∃ j, j < nCl l c ∧ Vs l c j = zah (nth l i) := by
  unfold nCl
  rw [Wg]
  unfold Vs
  rcases D.kind h1 with hk | hk
  ·obtain ⟨j, j1, j2⟩ := zdy D h1 h2 hk (Zu hk h4) (V.thin i h1 h2)
   exact ⟨j, j1, by rw [j2, Xi hk]⟩
  ·have hm : (false, [i], (nth l i).arg) ∈ Yt l c l.length := YH.2 (.inr ⟨i, h1, Xl.2 ⟨h2, hk, h4⟩, rfl⟩)
   obtain ⟨j, hj, e⟩ := List.getElem_of_mem hm
   exact ⟨j, hj, by rw [zi hj, e, Yo hk]⟩
 obtain ⟨j, j1, j2⟩ := hex
 unfold zdN
 cases hf : (List.range (nCl l c)).find? fun j => decide (Vs l c j = zah (nth l i)) with
 | none =>
  have := List.find?_eq_none.1 hf j (List.mem_range.2 j1)
  rw [j2] at this
  simp at this
 | some z =>
  rw [List.find?_range_eq_some] at hf
  exact ⟨List.mem_range.1 hf.2.1, by simpa using hf.1⟩
theorem zjZ (D : yj l) (V : VO l c) {j i : Nat} (hj : j < nCl l c) (hi : i ∈ (nth (Zo l c) j).ops) : zdN l c i = j := by
 obtain ⟨h1, h2, h3, h4⟩ := (xZ D hj).1 hi
 obtain ⟨c1, c2⟩ := YT D V h1 h2 h4
 exact zcp D c1 hj (by rw [c2, h3])
theorem Ug (D : yj l) (hw : ∀ i, i < l.length → 0 ≤ (nth l i).call ∧ (nth l i).call < (nth l i).ret) (V : VO l c) : (∀ e ∈ zfW l (Zo l c), rkC l (nth (Zo l c) e.1) < rkC l (nth (Zo l c) e.2)) ∧ zjS (xe (zfW l (Zo l c))) (nCl l c) (zgM l c) := by
 have h := ziZ (l := l) (C := Zo l c) (fun a j haj hj => zgE.1 V.conf a (by omega) (by omega) j haj hj) (fun j hj h => (zit hj h).1) (fun j hj => by
  have h0 := zdO D hj
  have m1 := (xZ D hj).1 (zgQ (l := l) h0)
  have m2 := (xZ D hj).1 (zhp (l := l) h0)
  have w1 := hw _ m1.1
  have w2 := hw _ m2.1
  refine ⟨?_, w2.1⟩
  unfold zbA YR
  split <;> omega)
 exact ⟨h, zeG (ZP (f := fun j => rkC l (nth (Zo l c) j)) h)⟩
theorem xy (D : yj l) (hw : ∀ i, i < l.length → 0 ≤ (nth l i).call ∧ (nth l i).call < (nth l i).ret) (V : VO l c) {i : Nat} : i ∈ YP l c ↔ i < l.length ∧ (nth l i).key = c ∧ zR l i = true := by
 obtain ⟨_, E⟩ := Ug D hw V
 unfold YP
 rw [List.mem_flatMap]
 constructor
 ·rintro ⟨j, hj, hi⟩
  obtain ⟨h1, h2, h3, h4⟩ := (xZ D (E.rng j hj)).1 hi
  exact ⟨h1, h2, h4⟩
 ·rintro ⟨h1, h2, h4⟩
  obtain ⟨c1, c2⟩ := YT D V h1 h2 h4
  exact ⟨_, E.mem c1, (xZ D c1).2 ⟨h1, h2, c2.symm, h4⟩⟩
theorem zfd (D : yj l) (V : VO l c) {j i : Nat} (hj : j < nCl l c) (hi : i ∈ (nth (Zo l c) j).ops) : spL l c i = YD (zgM l c) j * (l.length + 2) + if (nth l i).k = 1 then 0 else i + 1 := by
 unfold spL
 rw [zjZ D V hj hi]
theorem zaf {i : Nat} (h : i < l.length) : (if (nth l i).k = 1 then 0 else i + 1) < l.length + 2 := by split <;> omega
theorem zh3 {a b B x y : Nat} (h : a < b) (hx : x < B) : a * B + x < b * B + y := by
 have := Nat.mul_le_mul_right B (show a + 1 ≤ b by omega)
 rw [Nat.succ_mul] at this
 omega
theorem zab (D : yj l) (hw : ∀ i, i < l.length → 0 ≤ (nth l i).call ∧ (nth l i).call < (nth l i).ret) (V : VO l c) : (YP l c).Pairwise fun a b => spL l c a < spL l c b := by
 obtain ⟨_, E⟩ := Ug D hw V
 unfold YP
 rw [List.pairwise_flatMap]
 constructor
 ·intro j hj
  have hjn := E.rng j hj
  have hrd : ∀ v, (YL l c v l.length).Pairwise fun a b => a < b ∧ (nth l a).k = 0 ∧ (nth l b).k = 0 := fun v => by
   have h1 : (YL l c v l.length).Pairwise fun a b => a < b := List.pairwise_lt_range.sublist List.filter_sublist
   refine h1.imp_of_mem fun ha hb hab => ⟨hab, ?_, ?_⟩
   ·exact (yR.1 (Xe.1 ha).2).1
   ·exact (yR.1 (Xe.1 hb).2).1
  have hp : (nth (Zo l c) j).ops.Pairwise fun a b => (if (nth l a).k = 1 then 0 else a + 1) < if (nth l b).k = 1 then 0 else b + 1 := by
   rcases YU hjn with ⟨h0, h1, h2⟩ | ⟨w, w1, w2, h1, h2⟩
   ·rw [h2]
    refine (hrd 0).imp fun h => ?_
    rw [if_neg (by omega), if_neg (by omega)]; omega
   ·rw [h2]
    refine List.pairwise_cons.2 ⟨fun b hb => ?_, (hrd _).imp fun h => ?_⟩
    ·have := (yR.1 (Xe.1 hb).2).1
     rw [if_pos (Xl.1 w2).2.1, if_neg (by omega)]; omega
    ·rw [if_neg (by omega), if_neg (by omega)]; omega
  refine hp.imp_of_mem fun ha hb h => ?_
  rw [zfd D V hjn ha, zfd D V hjn hb]
  omega
 ·rw [List.pairwise_iff_getElem]
  intro p q hp hq hpq x hx y hy
  have h1 := E.rng _ (List.getElem_mem hp)
  have h2 := E.rng _ (List.getElem_mem hq)
  rw [zfd D V h1 hx, zfd D V h2 hy]
  have e1 := UQ E.nd hp
  have e2 := UQ E.nd hq
  rw [zi hp] at e1
  rw [zi hq] at e2
  rw [e1, e2]
  exact zh3 hpq (zaf ((xZ D h1).1 hx).1)
theorem zjJ (D : yj l) (hw : ∀ i, i < l.length → 0 ≤ (nth l i).call ∧ (nth l i).call < (nth l i).ret) (V : VO l c) {i k : Nat} (hi : i < nCl l c) (hk : k < nCl l c) (hne : i ≠ k) (h : ziX l (nth (Zo l c) i) (nth (Zo l c) k) = true) : YD (zgM l c) i < YD (zgM l c) k :=
 (Ug D hw V).2.lt hi hk (xV.2 (.one (zbY.2 ⟨hi, hk, hne, h⟩)))
theorem zkp (D : yj l) (hc : ∀ i j, i < l.length → j < l.length → (nth l i).call < (nth l j).call → i < j) (hw : ∀ i, i < l.length → 0 ≤ (nth l i).call ∧ (nth l i).call < (nth l i).ret) (V : VO l c) {i k : Nat} (hi : i ∈ YP l c) (hk : k ∈ YP l c) (hb : bef l i k = true) : spL l c i < spL l c k := by
 obtain ⟨i1, i2, i4⟩ := (xy D hw V).1 hi
 obtain ⟨k1, k2, k4⟩ := (xy D hw V).1 hk
 obtain ⟨ci, vi⟩ := YT D V i1 i2 i4
 obtain ⟨ck, vk⟩ := YT D V k1 k2 k4
 have mi := (xZ D ci).2 ⟨i1, i2, vi.symm, i4⟩
 have mk := (xZ D ck).2 ⟨k1, k2, vk.symm, k4⟩
 have hcall := zbw (fun i h => (hw i h).2) i1 hb
 have hik := hc i k i1 k1 hcall
 have hbf := hb
 unfold bef at hbf
 simp only [Bool.and_eq_true, decide_eq_true_eq] at hbf
 unfold spL
 by_cases e : zdN l c i = zdN l c k
 ·rw [e]
  have hv : zah (nth l i) = zah (nth l k) := by rw [← vi, ← vk, e]
  rcases D.kind i1 with ki | ki
  ·rcases D.kind k1 with kk | kk
   ·rw [if_neg (by omega), if_neg (by omega)]; omega
   ·exfalso
    rw [Xi ki, Yo kk] at hv
    have he := V.early i i1 i2
    have e1 := zjQ D k1 kk
    rw [k2, ← hv, ← i2] at e1
    have ha := D.arg k1 kk
    unfold zgK at he
    rw [e1, decide_eq_true ki, hbf.1, decide_eq_true (show (nth l i).res ≠ 0 by omega)] at he
    have he : bef l i k = false := by simpa using he
    rw [hb] at he
    cases he
  ·rcases D.kind k1 with kk | kk
   ·rw [if_pos ki, if_neg (by omega)]; omega
   ·exfalso
    rw [Yo ki, Yo kk] at hv
    have := D.uniq i1 k1 ki kk (i2.trans k2.symm) hv
    omega
 ·refine zh3 (zjJ D hw V ci ck e ?_) (zaf i1)
  unfold ziX
  rw [Bool.or_eq_true, decide_eq_true_eq]
  refine .inr ?_
  have h1 := zj4 (l := l) mi
  have h2 := zkq (l := l) mk
  have h3 : YR (nth l i) = (nth l i).ret := by unfold YR; rw [hbf.1]; rfl
  omega
theorem zko (D : yj l) (hw : ∀ i, i < l.length → 0 ≤ (nth l i).call ∧ (nth l i).call < (nth l i).ret) (V : VO l c) {r : Nat} (hr : r < l.length) (hrc : (nth l r).key = c) (h0 : (nth l r).k = 0) (hd : (nth l r).done = true) :
  ((nth l r).res = 0 ∧ ∀ w, wrI l c w → spL l c r < spL l c w) ∨ ∃ w, wrI l c w ∧ (nth l w).arg = (nth l r).res ∧ spL l c w < spL l c r ∧ ∀ w', wrI l c w' → w' ≠ w → spL l c w' < spL l c w ∨ spL l c r < spL l c w' := by
 obtain ⟨cr, vr⟩ := YT D V hr hrc (Yg hd)
 rw [Xi h0] at vr
 by_cases hz : (nth l r).res = 0
 ·refine .inl ⟨hz, fun w hwi => ?_⟩
  obtain ⟨w1, w2, w3, w4⟩ := hwi
  obtain ⟨cw, vw⟩ := YT D V w1 w2 w4
  rw [Yo w3] at vw
  have ha := D.arg w1 w3
  have hne : zdN l c r ≠ zdN l c w := fun e => by rw [e, vw] at vr; omega
  unfold spL
  refine zh3 (zjJ D hw V cr cw hne ?_) (zaf hr)
  unfold ziX
  rw [Bool.or_eq_true]
  left
  rcases YU cr with ⟨h0, h1, h2⟩ | ⟨u, u1, u2, h1, h2⟩
  ·rw [h2]
  ·exact absurd (by rw [← h1, vr, hz]) (D.arg u1 (Xl.1 u2).2.1)
 ·have ht := V.thin r hr hrc
  unfold zgi at ht
  rw [decide_eq_true h0, hd, decide_eq_true hz] at ht
  simp only [Bool.true_and] at ht
  cases hwx : wIx l (nth l r).key (nth l r).res with
  | none => rw [hwx] at ht; cases ht
  | some w =>
   obtain ⟨w1, w2, _⟩ := Zt hwx
   rw [Xj] at w2
   obtain ⟨w2, w3, w5⟩ := w2
   have w4 := zeo hr h0 hd w1 w2 w3 w5
   have wc : (nth l w).key = c := w3.trans hrc
   obtain ⟨cw, vw⟩ := YT D V w1 wc w4
   rw [Yo w2] at vw
   have hsame : zdN l c w = zdN l c r := zcp D cw cr (by rw [vw, vr, w5])
   refine .inr ⟨w, ⟨w1, wc, w2, w4⟩, w5, ?_, ?_⟩
   ·unfold spL
    rw [hsame, if_pos w2, if_neg (by omega)]; omega
   ·rintro w' ⟨x1, x2, x3, x4⟩ hne
    obtain ⟨cx, vx⟩ := YT D V x1 x2 x4
    rw [Yo x3] at vx
    have hdif : zdN l c w' ≠ zdN l c w := fun e => by
     rw [e, vw] at vx
     exact hne (D.uniq x1 w1 x3 w2 (x2.trans wc.symm) vx.symm)
    have E := (Ug D hw V).2
    have hpd : YD (zgM l c) (zdN l c w') ≠ YD (zgM l c) (zdN l c w) := fun e => hdif (Xs (E.mem cx) (E.mem cw) e)
    rcases Nat.lt_or_gt_of_ne hpd with h | h
    ·left; unfold spL; exact zh3 h (zaf x1)
    ·right; unfold spL; rw [← hsame]; exact zh3 h (zaf hr)
end
end Go.Proofs.Ytbeebjdnapkhhaa
/-
 A linearization of a history without violations (linear.linearization), in plain Lean.
-/
namespace Go.Proofs.Ytbeebjdnapkhhaa
set_option linter.unusedVariables false

def zjs (h : Nat → Nat) (L : List Nat) : Nat := L.foldr (fun x m => max (h x) m) 0
theorem zca {h : Nat → Nat} {x : Nat} : ∀ {L : List Nat}, x ∈ L → h x ≤ zjs h L
 | y :: L, hx => by
  show h x ≤ max (h y) (zjs h L)
  rcases List.mem_cons.1 hx with rfl | hx
  ·omega
  ·have := zca (h := h) hx; omega
theorem zen {h : Nat → Nat} : ∀ (L : List Nat), zjs h L = 0 ∨ ∃ x ∈ L, h x = zjs h L
 | [] => .inl rfl
 | y :: L => by
  show max (h y) (zjs h L) = 0 ∨ ∃ x ∈ y :: L, h x = max (h y) (zjs h L)
  rcases Nat.le_total (zjs h L) (h y) with hle | hle
  ·exact .inr ⟨y, by simp, by omega⟩
  ·rcases zen (h := h) L with e | ⟨x, hx, e⟩
   ·by_cases h0 : h y = 0
    ·left; omega
    ·exact .inr ⟨y, by simp, by omega⟩
   ·exact .inr ⟨x, by simp [hx], by omega⟩
theorem Zw {α : Type} [BEq α] [LawfulBEq α] : ∀ {l m : List α}, l.Nodup → (∀ x ∈ l, x ∈ m) → l.length ≤ m.length
 | [], m, _, _ => Nat.zero_le _
 | x :: l, m, hn, hs => by
  have h1 := List.nodup_cons.1 hn
  have hx := hs x (by simp)
  have hl := List.length_erase_of_mem hx
  have hpos : 0 < m.length := List.length_pos_of_mem hx
  have := Zw (m := m.erase x) h1.2 fun y hy => (List.mem_erase_of_ne (fun e : y = x => h1.1 (by rw [← e]; exact hy))).2 (hs y (by simp [hy]))
  rw [List.length_cons]
  omega
def xH (l : List OpV) : List Nat := (List.range l.length).filter (zR l)
def zdD (l : List OpV) (i : Nat) : Nat := YD (xH l) i
def zgs (l : List OpV) (row : List Nat) (k : Nat) : Prs := (List.range k).map fun i => (zdD l (nth row i), zdD l (nth row (i + 1)))
def zlf (l : List OpV) (row : List Nat) : Prs := zgs l row (row.length - 1)
noncomputable def zeU (l : List OpV) (K : List Int) : Prs := K.flatMap fun c => zlf l (YP l c)
def rtR (l : List OpV) (a k : Nat) : Prs := ((List.range k).filter fun b => bef l (nth (xH l) a) (nth (xH l) b)).map fun b => (a, b)
def rtT (l : List OpV) (a : Nat) : Prs := (List.range a).flatMap fun a => rtR l a (xH l).length
noncomputable def zhl (l : List OpV) (K : List Int) : Prs := zeU l K ++ rtT l (xH l).length
noncomputable def zie (l : List OpV) (K : List Int) : List Nat := yI (xe (zhl l K)) (xH l).length (xH l).length
noncomputable def Vl (l : List OpV) (K : List Int) : List Nat := (zie l K).map fun a => nth (xH l) a
theorem zhT (l : List OpV) (row : List Nat) (k : Nat) : zgs l row (k + 1) = zgs l row k ++ [(zdD l (nth row k), zdD l (nth row (k + 1)))] := by
 unfold zgs; rw [List.range_succ, List.map_append]; rfl
theorem zfa (l : List OpV) (row : List Nat) (k : Nat) : (zgs l row k).length = k := by simp [zgs]
theorem zjf (l : List OpV) (a k : Nat) : rtR l a (k + 1) = rtR l a k ++ if bef l (nth (xH l) a) (nth (xH l) k) = true then [(a, k)] else [] := by
 unfold rtR
 rw [List.range_succ, List.filter_append, List.map_append]
 congr 1
 by_cases h : bef l (nth (xH l) a) (nth (xH l) k) = true
 ·rw [if_pos h, List.filter_cons_of_pos (by exact h)]; rfl
 ·rw [if_neg h, List.filter_cons_of_neg (by exact h)]; rfl
theorem zfb (l : List OpV) (a : Nat) : rtT l (a + 1) = rtT l a ++ rtR l a (xH l).length := by
 unfold rtT
 rw [List.range_succ, List.flatMap_append]
 simp
theorem zhX (l : List OpV) (a k : Nat) : (rtR l a k).length ≤ k := by
 unfold rtR
 rw [List.length_map]
 exact Nat.le_trans (List.length_filter_le _ _) (by simp)
theorem zhY (l : List OpV) : ∀ i, (rtT l i).length ≤ i * (xH l).length
 | 0 => by simp [rtT]
 | i + 1 => by
  rw [zfb, List.length_append]
  have := zhY l i
  have := zhX l i (xH l).length
  rw [Nat.succ_mul]; omega
theorem yn {l : List OpV} {i : Nat} : i ∈ xH l ↔ i < l.length ∧ zR l i = true := by unfold xH; rw [List.mem_filter, List.mem_range]
theorem zhc (l : List OpV) : (xH l).Nodup := List.nodup_range.sublist List.filter_sublist
theorem zhb (l : List OpV) : (xH l).length ≤ l.length := by unfold xH; exact Nat.le_trans (List.length_filter_le _ _) (by simp)
theorem xT {l : List OpV} {i : Nat} (h : i ∈ xH l) : zdD l i < (xH l).length := xU h
theorem Xr {l : List OpV} {i : Nat} (h : i ∈ xH l) : nth (xH l) (zdD l i) = i := yt h
theorem zec {l : List OpV} {a : Nat} (h : a < (xH l).length) : zdD l (nth (xH l) a) = a := UQ (zhc l) h
section
variable {l : List OpV} {K : List Int}
theorem zek {a b : Nat} : (a, b) ∈ rtT l (xH l).length ↔ a < (xH l).length ∧ b < (xH l).length ∧ bef l (nth (xH l) a) (nth (xH l) b) = true := by
 unfold rtT
 rw [List.mem_flatMap]
 constructor
 ·rintro ⟨i', h1, h2⟩
  unfold rtR at h2
  obtain ⟨k', h3, h4⟩ := List.mem_map.1 h2
  obtain ⟨h5, h6⟩ := List.mem_filter.1 h3
  simp only [Prod.mk.injEq] at h4
  obtain ⟨rfl, rfl⟩ := h4
  exact ⟨List.mem_range.1 h1, List.mem_range.1 h5, h6⟩
 ·rintro ⟨h1, h2, h3⟩
  exact ⟨a, List.mem_range.2 h1, List.mem_map.2 ⟨b, List.mem_filter.2 ⟨List.mem_range.2 h2, h3⟩, rfl⟩⟩
theorem VH {x : Nat × Nat} : x ∈ zeU l K ↔ ∃ c ∈ K, ∃ i, i + 1 < (YP l c).length ∧ x = (zdD l (nth (YP l c) i), zdD l (nth (YP l c) (i + 1))) := by
 unfold zeU zlf zgs
 rw [List.mem_flatMap]
 constructor
 ·rintro ⟨c, hc, h⟩
  obtain ⟨i, hi, e⟩ := List.mem_map.1 h
  exact ⟨c, hc, i, by have := List.mem_range.1 hi; omega, e.symm⟩
 ·rintro ⟨c, hc, i, hi, e⟩
  exact ⟨c, hc, List.mem_map.2 ⟨i, List.mem_range.2 (by omega), e.symm⟩⟩
structure H21 (l : List OpV) : Prop where
 dom : yj l
 ord : ∀ i j, i < l.length → j < l.length → (nth l i).call < (nth l j).call → i < j
 wf : ∀ i, i < l.length → 0 ≤ (nth l i).call ∧ (nth l i).call < (nth l i).ret
theorem zfc (H : H21 l) {c : Int} (V : VO l c) : (YP l c).length ≤ l.length := by
 have hn : (YP l c).Nodup := (zab H.dom H.wf V).imp fun h e => by rw [e] at h; omega
 have := Zw (m := List.range l.length) hn fun x hx => List.mem_range.2 ((xy H.dom H.wf V).1 hx).1
 simpa using this
theorem zeV (H : H21 l) (V : ∀ c ∈ K, VO l c) : ∀ i, i ≤ K.length → (zeU l (K.take i)).length ≤ i * l.length
 | 0, _ => by simp [zeU]
 | i + 1, hi => by
  have h1 := zeV H V i (by omega)
  have h2 := zfc H (V _ (zp (l := K) (i := i) (by omega)))
  rw [xd (by omega)]
  unfold zeU at h1 ⊢
  rw [List.flatMap_append, List.length_append, List.flatMap_singleton, Nat.succ_mul]
  have h3 : (zlf l (YP l (nth K i))).length = (YP l (nth K i)).length - 1 := by unfold zlf; rw [zfa]
  omega
theorem zhi {i : Nat} (hi : i < K.length) : zeU l (K.take (i + 1)) = zeU l (K.take i) ++ zlf l (YP l (nth K i)) := by
 rw [xd hi]
 unfold zeU
 rw [List.flatMap_append, List.flatMap_singleton]
theorem zjO (H : H21 l) {c : Int} (V : VO l c) {p q : Nat} (hq : q < (YP l c).length) (hpq : p < q) : spL l c (nth (YP l c) p) < spL l c (nth (YP l c) q) := by
 have := List.pairwise_iff_getElem.1 (zab H.dom H.wf V) p q (by omega) hq hpq
 rw [zi hq, zi (by omega)]
 exact this
theorem ziT (H : H21 l) (V : ∀ c ∈ K, VO l c) (hK : ∀ i, i < l.length → (nth l i).key ∈ K) : ∃ f : Nat → Nat, (∀ i k, i < l.length → k < l.length → zR l i = true → zR l k = true → bef l i k = true → f i < f k) ∧
  ∀ i k, i < l.length → k < l.length → zR l i = true → zR l k = true → (nth l i).key = (nth l k).key → spL l (nth l i).key i < spL l (nth l i).key k → f i < f k := by
 obtain ⟨FK, hFK⟩ : ∃ FK : Nat → Nat, FK = fun a => spL l (nth l a).key a := ⟨_, rfl⟩
 have hkk : ∀ a b, a < l.length → b < l.length → zR l a = true → zR l b = true → (nth l a).key = (nth l b).key → bef l a b = true → FK a < FK b := fun a b ha hb ia ib e hbf => by
  rw [hFK]; dsimp only
  rw [← e]
  have V' := V _ (hK a ha)
  exact zkp H.dom H.ord H.wf V' ((xy H.dom H.wf V').2 ⟨ha, rfl, ia⟩) ((xy H.dom H.wf V').2 ⟨hb, e.symm, ib⟩) hbf
 obtain ⟨B, hB⟩ : ∃ B, B = zjs FK (List.range l.length) + 1 := ⟨_, rfl⟩
 have hlt : ∀ a, a < l.length → FK a < B := fun a ha => by
  have := zca (h := FK) (List.mem_range.2 ha)
  omega
 obtain ⟨S, hS⟩ : ∃ S : Nat → List Nat, S = fun a => (List.range l.length).filter fun b => zR l b && decide ((nth l b).key = (nth l a).key) && decide (FK b ≤ FK a) := ⟨_, rfl⟩
 have hSm : ∀ a b, b ∈ S a ↔ b < l.length ∧ zR l b = true ∧ (nth l b).key = (nth l a).key ∧ FK b ≤ FK a := fun a b => by
  rw [hS]; dsimp only
  rw [List.mem_filter, List.mem_range]
  simp only [Bool.and_eq_true, decide_eq_true_eq, and_assoc]
 obtain ⟨g, hg⟩ : ∃ g : Nat → Nat, g = fun a => zjs (fun b => (nth l b).call.toNat) (S a) := ⟨_, rfl⟩
 have same : ∀ a b, a < l.length → b < l.length → (nth l a).key = (nth l b).key → FK a < FK b → g a * B + FK a < g b * B + FK b := fun a b ha hb hk h1 => by
  have h2 : g a ≤ g b := by
   rw [hg]; dsimp only
   rcases zen (h := fun b => (nth l b).call.toNat) (S a) with e | ⟨x, hx, e⟩
   ·omega
   ·rw [← e]
    obtain ⟨x1, x2, x3, x4⟩ := (hSm a x).1 hx
    exact zca (h := fun b => (nth l b).call.toNat) ((hSm b x).2 ⟨x1, x2, x3.trans hk, by omega⟩)
  have := Nat.mul_le_mul_right B h2
  omega
 refine ⟨fun a => g a * B + FK a, fun a b ha hb ia ib hbf => ?_, fun a b ha hb ia ib hk hs => ?_⟩
 ·dsimp only
  by_cases hk : (nth l a).key = (nth l b).key
  ·exact same a b ha hb hk (hkk a b ha hb ia ib hk hbf)
  ·have hbf' := hbf
   unfold bef at hbf
   simp only [Bool.and_eq_true, decide_eq_true_eq] at hbf
   have hwa := H.wf a ha
   have hwb := H.wf b hb
   have h1 : g a ≤ (nth l a).ret.toNat := by
    rw [hg]; dsimp only
    rcases zen (h := fun b => (nth l b).call.toNat) (S a) with e | ⟨x, hx, e⟩
    ·omega
    ·rw [← e]
     obtain ⟨x1, x2, x3, x4⟩ := (hSm a x).1 hx
     have hwx := H.wf x x1
     by_cases hlt2 : (nth l a).ret < (nth l x).call
     ·exfalso
      have := hkk a x ha x1 ia x2 x3.symm (by unfold bef; simp [hbf.1, hlt2])
      omega
     ·omega
   have h2 : (nth l b).call.toNat ≤ g b := by
    rw [hg]; dsimp only
    exact zca (h := fun b => (nth l b).call.toNat) ((hSm b b).2 ⟨hb, ib, rfl, Nat.le_refl _⟩)
   have h3 : g a + 1 ≤ g b := by omega
   have h4 := Nat.mul_le_mul_right B h3
   rw [Nat.succ_mul] at h4
   have := hlt a ha
   omega
 ·dsimp only
  refine same a b ha hb hk ?_
  rw [hFK]; dsimp only
  rw [← hk]; exact hs
theorem zkd (H : H21 l) (V : ∀ c ∈ K, VO l c) : ∀ e ∈ zhl l K, e.1 < (xH l).length ∧ e.2 < (xH l).length := by
 rintro ⟨a, b⟩ he
 rcases List.mem_append.1 he with he | he
 ·obtain ⟨c, hc, i, hi, e⟩ := VH.1 he
  simp only [Prod.mk.injEq] at e
  obtain ⟨rfl, rfl⟩ := e
  have m1 := (xy H.dom H.wf (V c hc)).1 (zp (show i < (YP l c).length by omega))
  have m2 := (xy H.dom H.wf (V c hc)).1 (zp hi)
  exact ⟨xT (yn.2 ⟨m1.1, m1.2.2⟩), xT (yn.2 ⟨m2.1, m2.2.2⟩)⟩
 ·obtain ⟨h1, h2, _⟩ := zek.1 he
  exact ⟨h1, h2⟩
theorem zc2 (H : H21 l) (V : ∀ c ∈ K, VO l c) (hK : ∀ i, i < l.length → (nth l i).key ∈ K) : ∃ f : Nat → Nat, ∀ e ∈ zhl l K, f e.1 < f e.2 := by
 obtain ⟨f, f1, f2⟩ := ziT H V hK
 refine ⟨fun a => f (nth (xH l) a), ?_⟩
 rintro ⟨a, b⟩ he
 dsimp only
 rcases List.mem_append.1 he with he | he
 ·obtain ⟨c, hc, i, hi, e⟩ := VH.1 he
  simp only [Prod.mk.injEq] at e
  obtain ⟨rfl, rfl⟩ := e
  have m1 := (xy H.dom H.wf (V c hc)).1 (zp (show i < (YP l c).length by omega))
  have m2 := (xy H.dom H.wf (V c hc)).1 (zp hi)
  rw [Xr (yn.2 ⟨m1.1, m1.2.2⟩), Xr (yn.2 ⟨m2.1, m2.2.2⟩)]
  refine f2 _ _ m1.1 m2.1 m1.2.2 m2.2.2 (m1.2.1.trans m2.2.1.symm) ?_
  rw [m1.2.1]
  exact zjO H (V c hc) hi (by omega)
 ·obtain ⟨h1, h2, h3⟩ := zek.1 he
  have m1 := yn.1 (zp h1)
  have m2 := yn.1 (zp h2)
  exact f1 _ _ m1.1 m2.1 m1.2 m2.2 h3
theorem YC (H : H21 l) (V : ∀ c ∈ K, VO l c) (hK : ∀ i, i < l.length → (nth l i).key ∈ K) : zjS (xe (zhl l K)) (xH l).length (zie l K) := by
 obtain ⟨f, hf⟩ := zc2 H V hK
 exact zeG (ZP hf)
theorem zbQ (H : H21 l) (V : ∀ c ∈ K, VO l c) (hK : ∀ i, i < l.length → (nth l i).key ∈ K) {i : Nat} : i ∈ Vl l K ↔ i < l.length ∧ zR l i = true := by
 have E := YC H V hK
 unfold Vl
 rw [List.mem_map]
 constructor
 ·rintro ⟨a, ha, rfl⟩
  exact yn.1 (zp (E.rng a ha))
 ·intro h
  have := yn.2 h
  exact ⟨zdD l i, E.mem (xT this), Xr this⟩
theorem zbP (H : H21 l) (V : ∀ c ∈ K, VO l c) (hK : ∀ i, i < l.length → (nth l i).key ∈ K) : (Vl l K).length = (xH l).length := by
 unfold Vl; rw [List.length_map]; exact (YC H V hK).len
theorem zkc (H : H21 l) (V : ∀ c ∈ K, VO l c) (hK : ∀ i, i < l.length → (nth l i).key ∈ K) : (Vl l K).Nodup := by
 have E := YC H V hK
 unfold Vl List.Nodup
 rw [List.pairwise_map]
 refine E.nd.imp_of_mem fun ha hb hab e => hab ?_
 rw [← zec (E.rng _ ha), e, zec (E.rng _ hb)]
noncomputable def zcf (l : List OpV) (K : List Int) (i : Nat) : Nat := YD (zie l K) (zdD l i)
theorem zks (H : H21 l) (V : ∀ c ∈ K, VO l c) (hK : ∀ i, i < l.length → (nth l i).key ∈ K) {p : Nat} (hp : p < (Vl l K).length) : zcf l K (nth (Vl l K) p) = p := by
 have E := YC H V hK
 have hp' : p < (zie l K).length := by unfold Vl at hp; simpa using hp
 have e : nth (Vl l K) p = nth (xH l) (nth (zie l K) p) := by
  unfold Vl at hp ⊢; rw [zi hp, zi hp', List.getElem_map]
 unfold zcf
 rw [e, zec (E.rng _ (zp hp')), UQ E.nd hp']
theorem zfe (H : H21 l) (V : ∀ c ∈ K, VO l c) (hK : ∀ i, i < l.length → (nth l i).key ∈ K) {a b : Nat} (ha : a < l.length) (hb : b < l.length) (ia : zR l a = true) (ib : zR l b = true) {c : Int} (ka : (nth l a).key = c) (kb : (nth l b).key = c) (h : spL l c a < spL l c b) : zcf l K a < zcf l K b := by
 have E := YC H V hK
 have hc : c ∈ K := by rw [← ka]; exact hK a ha
 have V' := V c hc
 have ma := (xy H.dom H.wf V').2 ⟨ha, ka, ia⟩
 have mb := (xy H.dom H.wf V').2 ⟨hb, kb, ib⟩
 have reach : ∀ d p, p + d + 1 < (YP l c).length → zik (zhl l K) (zdD l (nth (YP l c) p)) (zdD l (nth (YP l c) (p + d + 1))) := by
  intro d
  induction d with
  | zero => intro p hp; exact .one (List.mem_append_left _ (VH.2 ⟨c, hc, p, hp, rfl⟩))
  | succ d ih =>
   intro p hp
   refine .step (b := zdD l (nth (YP l c) (p + 1))) (List.mem_append_left _ (VH.2 ⟨c, hc, p, by omega, rfl⟩)) ?_
   have := ih (p + 1) (by omega)
   rw [show p + 1 + d + 1 = p + (d + 1) + 1 by omega] at this
   exact this
 have hpa := xU ma
 have hpb := xU mb
 have hlt : YD (YP l c) a < YD (YP l c) b := by
  refine Nat.lt_of_not_le fun hle => ?_
  rcases Nat.lt_or_eq_of_le hle with h2 | h2
  ·have := zjO H V' hpa h2
   rw [yt ma, yt mb] at this
   omega
  ·have := Xs mb ma h2
   subst this
   omega
 have h1 := reach (YD (YP l c) b - YD (YP l c) a - 1) (YD (YP l c) a) (by omega)
 rw [show YD (YP l c) a + (YD (YP l c) b - YD (YP l c) a - 1) + 1 = YD (YP l c) b by omega, yt ma, yt mb] at h1
 exact E.lt (xT (yn.2 ⟨ha, ia⟩)) (xT (yn.2 ⟨hb, ib⟩)) (xV.2 h1)
theorem zeX (H : H21 l) (V : ∀ c ∈ K, VO l c) (hK : ∀ i, i < l.length → (nth l i).key ∈ K) : zjW l (zcf l K) where
 rt i k hi hk ii ik hb := by
  have E := YC H V hK
  have mi := yn.2 ⟨hi, ii⟩
  have mk := yn.2 ⟨hk, ik⟩
  refine E.lt (xT mi) (xT mk) (xV.2 (.one (List.mem_append_right _ (zek.2 ⟨xT mi, xT mk, ?_⟩))))
  rw [Xr mi, Xr mk]; exact hb
 rd r hr h0 hd := by
  have V' := V _ (hK r hr)
  have ir := Yg hd
  rcases zko H.dom H.wf V' hr rfl h0 hd with ⟨e, h⟩ | ⟨w, hw, ha, hlt, ho⟩
  ·exact .inl ⟨e, fun w hw => Nat.le_of_lt (zfe H V hK hr hw.1 ir hw.2.2.2 rfl hw.2.1 (h w hw))⟩
  ·refine .inr ⟨w, hw, ha, Nat.le_of_lt (zfe H V hK hw.1 hr hw.2.2.2 ir hw.2.1 rfl hlt), fun w' hw' hne => ?_⟩
   rcases ho w' hw' hne with h | h
   ·exact .inl (zfe H V hK hw'.1 hw.1 hw'.2.2.2 hw.2.2.2 hw'.2.1 hw.2.1 h)
   ·exact .inr (zfe H V hK hr hw'.1 ir hw'.2.2.2 rfl hw'.2.1 h)
theorem zkr (H : H21 l) (V : ∀ c ∈ K, VO l c) (hK : ∀ i, i < l.length → (nth l i).key ∈ K) {i k : Nat} (hi : i < l.length) (hk : k < l.length) (ii : zR l i = true) (ik : zR l k = true) (e : zcf l K i = zcf l K k) : i = k := by
 have E := YC H V hK
 have mi := yn.2 ⟨hi, ii⟩
 have mk := yn.2 ⟨hk, ik⟩
 have := Xs (E.mem (xT mi)) (E.mem (xT mk)) e
 exact Xs mi mk this
end
end Go.Proofs.Ytbeebjdnapkhhaa
/-
 linear.Check's verdict, in plain Lean.
-/
namespace Go.Proofs.Ytbeebjdnapkhhaa
set_option linter.unusedVariables false

theorem zaU {l : List OpV} (h : xI l = 0) : l.length ≤ 300 ∧ ∀ j, j < l.length → zce l j = 0 := by
 unfold xI at h
 split at h
 ·cases h
 ·refine ⟨by omega, fun j hj => ?_⟩
  have key : ∀ (n k : Nat), yd l k n = 0 → ∀ j, k ≤ j → j < k + n → zce l j = 0 := by
   intro n
   induction n with
   | zero => intro k _ j h1 h2; omega
   | succ n ih =>
    intro k hk j h1 h2
    unfold yd at hk
    split at hk
    ·rename_i he
     rcases Nat.eq_or_lt_of_le h1 with e | e
     ·rw [← e]; exact he
     ·exact ih (k + 1) hk j e (by omega)
    ·rename_i he; exact absurd hk he
  exact key l.length 0 h j (Nat.zero_le _) (by omega)
theorem zbx {l : List OpV} (h : xI l = 0) {j : Nat} (hj : j < l.length) : wfB (nth l j) = true ∧ (0 < j → (nth l (j - 1)).call < (nth l j).call) := by
 have := (zaU h).2 j hj
 unfold zce at this
 by_cases hw : wfB (nth l j) = false
 ·rw [if_pos hw] at this; cases this
 ·rw [if_neg hw] at this
  refine ⟨by simpa using hw, fun h0 => ?_⟩
  by_cases hc : 0 < j ∧ (nth l j).call ≤ (nth l (j - 1)).call
  ·rw [if_pos hc] at this; cases this
  ·omega
theorem zco {l : List OpV} (h : xI l = 0) {i : Nat} : ∀ {d : Nat}, i + d + 1 < l.length → (nth l i).call < (nth l (i + d + 1)).call
 | 0, hd => (zbx h hd).2 (by omega)
 | d + 1, hd => by
  have h1 := zco h (i := i) (d := d) (by omega)
  have h2 := (zbx h hd).2 (by omega)
  rw [show i + (d + 1) + 1 - 1 = i + d + 1 by omega] at h2
  omega
theorem Ua {l : List OpV} (h : xI l = 0) (D : yj l) : H21 l where
 dom := D
 ord i j hi hj hc := by
  refine Nat.lt_of_not_le fun hle => ?_
  rcases Nat.lt_or_eq_of_le hle with h2 | h2
  ·have := zco h (i := j) (d := i - j - 1) (by omega)
   rw [show j + (i - j - 1) + 1 = i by omega] at this
   omega
  ·subst h2; omega
 wf i hi := by
  have := (zbx h hi).1
  simp only [wfB, Bool.and_eq_true, decide_eq_true_eq] at this
  omega
theorem zh8 {l : List OpV} {c : Int} : (zaj l c).cls = 0 ↔ VO l c := by
 unfold zaj
 cases h1 : (List.range l.length).find? (zaQ l c) with
 | some i =>
  rw [List.find?_range_eq_some] at h1
  refine ⟨fun h => (by cases h), fun V => ?_⟩
  have := h1.1
  unfold zaQ at this
  rw [Bool.and_eq_true, decide_eq_true_eq] at this
  rw [V.thin i (List.mem_range.1 h1.2.1) this.1] at this
  cases this.2
 | none =>
  dsimp only
  cases h2 : (List.range l.length).find? (Yb l c) with
  | some i =>
   rw [List.find?_range_eq_some] at h2
   refine ⟨fun h => (by cases h), fun V => ?_⟩
   have := h2.1
   unfold Yb at this
   rw [Bool.and_eq_true, decide_eq_true_eq] at this
   rw [V.early i (List.mem_range.1 h2.2.1) this.1] at this
   cases this.2
  | none =>
   dsimp only
   by_cases h3 : zdL l c = []
   ·rw [if_pos h3]
    refine ⟨fun _ => ⟨fun i hi hk => ?_, fun i hi hk => ?_, h3⟩, fun _ => rfl⟩
    ·have := List.find?_eq_none.1 h1 i (List.mem_range.2 hi)
     unfold zaQ at this
     rw [decide_eq_true hk, Bool.true_and] at this
     simpa using this
    ·have := List.find?_eq_none.1 h2 i (List.mem_range.2 hi)
     unfold Yb at this
     rw [decide_eq_true hk, Bool.true_and] at this
     simpa using this
   ·rw [if_neg h3]
    exact ⟨fun h => (by cases h), fun V => absurd V.conf h3⟩
def zgk (l : List OpV) : Option Int := (yS l).find? fun c => decide ((zaj l c).cls ≠ 0)
structure zkK where
 cls : Int
 arg : Int
 ord : List Nat
 ed : List (Nat × Nat)
noncomputable def zfN (l : List OpV) : zkK :=
 match zgk l with
 | some c => ⟨(zaj l c).cls, c, (zaj l c).ord, (zaj l c).ed⟩
 | none => ⟨0, 0, Vl l (yS l), []⟩
theorem WI {l : List OpV} : zgk l = none ↔ ∀ c ∈ yS l, VO l c := by
 unfold zgk
 rw [List.find?_eq_none]
 constructor
 ·intro h c hc
  have := h c hc
  exact zh8.1 (by simpa using this)
 ·intro h c hc
  have := zh8.2 (h c hc)
  simpa using this
theorem zkv {l : List OpV} {i : Nat} (hi : i < (yS l).length) (h : ∀ j, j < i → (zaj l (nth (yS l) j)).cls = 0) (h2 : (zaj l (nth (yS l) i)).cls ≠ 0) : zgk l = some (nth (yS l) i) := by
 unfold zgk
 rw [List.find?_eq_some_iff_getElem]
 refine ⟨by simpa using h2, i, hi, (zi hi).symm, fun j hj => ?_⟩
 have := h j hj
 rw [zi (by omega)] at this
 simpa using this
theorem Uz (l : List OpV) : ∀ i, i < l.length → (nth l i).key ∈ yS l := fun i hi => (Yd l _).2 ⟨_, zp hi, rfl⟩
theorem zfO {l : List OpV} : (zfN l).cls = 0 ↔ ∀ c ∈ yS l, VO l c := by
 unfold zfN
 rw [← WI]
 cases h : zgk l with
 | none => exact ⟨fun _ => rfl, fun _ => rfl⟩
 | some c =>
  refine ⟨fun h2 => ?_, fun h2 => (by cases h2)⟩
  exfalso
  unfold zgk at h
  have := List.find?_some h
  simp at this
  exact this h2
end Go.Proofs.Ytbeebjdnapkhhaa
/-
 The reference's verdict of layer 21, in plain Lean: it is the program's.
-/
namespace Go.Proofs.Ytbeebjdnapkhhaa
set_option linter.unusedVariables false

section
variable {l : List OpV} {c : Int}
end
end Go.Proofs.Ytbeebjdnapkhhaa
/-
 Linearizations as lists, in plain Lean: the reference's and the program's way to decide them; one exists where the verdict holds.
-/
namespace Go.Proofs.Ytbeebjdnapkhhaa
set_option linter.unusedVariables false

def zao (l : List OpV) (key x : Int) : Bool := decide ((nth l x.toNat).key = key) && decide ((nth l x.toNat).k = 1)
def XN (l : List OpV) (key : Int) (o : List Int) : Int := o.foldl (fun v x => if zao l key x = true then (nth l x.toNat).arg else v) 0
theorem WJ (l : List OpV) (key : Int) (o : List Int) (x : Int) : XN l key (o ++ [x]) = if zao l key x = true then (nth l x.toNat).arg else XN l key o := by
 unfold XN; rw [List.foldl_append]; rfl
theorem Yp (l : List OpV) (key : Int) (o : List Int) : ∀ i, i ≤ o.length → (XN l key (o.take i) = 0 ∧ ∀ j, j < i → zao l key (nth o j) = false) ∨
  ∃ j, j < i ∧ zao l key (nth o j) = true ∧ XN l key (o.take i) = (nth l (nth o j).toNat).arg ∧ ∀ q, j < q → q < i → zao l key (nth o q) = false
 | 0, _ => .inl ⟨rfl, fun j hj => by omega⟩
 | i + 1, hi => by
  rw [xd (show i < o.length by omega), WJ]
  by_cases h : zao l key (nth o i) = true
  ·rw [if_pos h]
   exact .inr ⟨i, by omega, h, rfl, fun q h1 h2 => by omega⟩
  ·rw [if_neg h]
   have h' : zao l key (nth o i) = false := by simpa using h
   rcases Yp l key o i (by omega) with ⟨h1, h2⟩ | ⟨j, h1, h2, h3, h4⟩
   ·refine .inl ⟨h1, fun j hj => ?_⟩
    by_cases e : j = i
    ·subst e; exact h'
    ·exact h2 j (by omega)
   ·refine .inr ⟨j, by omega, h2, h3, fun q q1 q2 => ?_⟩
    by_cases e : q = i
    ·subst e; exact h'
    ·exact h4 q q1 (by omega)
structure zfh (l : List OpV) (o : List Int) : Prop where
 rng : ∀ x ∈ o, 0 ≤ x ∧ x < l.length
 nd : o.Nodup
 inc : ∀ x ∈ o, zR l x.toNat = true
 all : ∀ v : Nat, v < l.length → zR l v = true → (v : Int) ∈ o
 val : ∀ i, i < o.length → (nth l (nth o i).toNat).k = 1 ∨ XN l (nth l (nth o i).toNat).key (o.take i) = (nth l (nth o i).toNat).res
 rt : ∀ i j, i < o.length → j < i → bef l (nth o i).toNat (nth o j).toNat = false
theorem zke {o : List Int} (h : o.Nodup) {i j : Nat} (hi : i < o.length) (hj : j < o.length) (e : nth o i = nth o j) : i = j := by
 rw [zi hi, zi hj] at e
 exact (List.getElem_inj h).1 e
theorem VI {o : List Int} {x : Int} (h : x ∈ o) : ∃ p, p < o.length ∧ nth o p = x := by
 obtain ⟨p, hp, e⟩ := List.getElem_of_mem h
 exact ⟨p, hp, by rw [zi hp, e]⟩
def zgr (o : List Int) (i : Nat) : Nat := o.idxOf (i : Int)
theorem zbX {o : List Int} {i : Nat} (h : (i : Int) ∈ o) : zgr o i < o.length := List.idxOf_lt_length_of_mem h
theorem yZ {o : List Int} {i : Nat} (h : (i : Int) ∈ o) : nth o (zgr o i) = i := by rw [zi (zbX h)]; exact List.getElem_idxOf _
section
variable {l : List OpV} {o : List Int}
theorem XT (D : yj l) {x : Nat} {c : Int} (hx : x < l.length) (hi : zR l x = true) : zao l c (x : Int) = true ↔ wrI l c x := by
 unfold zao wrI
 rw [Int.toNat_natCast, Bool.and_eq_true, decide_eq_true_eq, decide_eq_true_eq]
 exact ⟨fun h => ⟨hx, h.1, h.2, hi⟩, fun h => ⟨h.2.1, h.2.2.1⟩⟩
theorem zfh.tau (D : yj l) (hw : ∀ i, i < l.length → (nth l i).call < (nth l i).ret) (h : zfh l o) : zjW l (zgr o) := by
 have hm : ∀ i, i < l.length → zR l i = true → (i : Int) ∈ o := h.all
 have hcan : ∀ q, q < o.length → ∃ x : Nat, nth o q = x ∧ x < l.length ∧ zR l x = true ∧ zgr o x = q := fun q hq => by
  have hr := h.rng _ (zp hq)
  refine ⟨(nth o q).toNat, by omega, by omega, h.inc _ (zp hq), ?_⟩
  have e : (((nth o q).toNat : Nat) : Int) = nth o q := by omega
  have hmem : (((nth o q).toNat : Nat) : Int) ∈ o := by rw [e]; exact zp hq
  exact zke h.nd (zbX hmem) hq (by rw [yZ hmem, e])
 refine ⟨fun i k hi hk ii ik hb => ?_, fun r hr h0 hd => ?_⟩
 ·have mi := hm i hi ii
  have mk := hm k hk ik
  refine Nat.lt_of_not_le fun hle => ?_
  rcases Nat.lt_or_eq_of_le hle with h2 | h2
  ·have := h.rt _ _ (zbX mi) h2
   rw [yZ mi, yZ mk, Int.toNat_natCast, Int.toNat_natCast, hb] at this
   cases this
  ·have e : ((k : Int)) = i := by rw [← yZ mk, h2, yZ mi]
   have : k = i := by omega
   subst this
   have := zbw hw hk hb
   omega
 ·have ir := Yg (l := l) hd
  have mr := hm r hr ir
  have hp := zbX mr
  have hv := h.val _ hp
  rw [yZ mr, Int.toNat_natCast] at hv
  have hv := hv.resolve_left (by omega)
  rcases Yp l (nth l r).key o (zgr o r) (by omega) with ⟨h1, h2⟩ | ⟨j, h1, h2, h3, h4⟩
  ·refine .inl ⟨by rw [← hv, h1], fun w hw => ?_⟩
   have mw := hm w hw.1 hw.2.2.2
   refine Nat.le_of_not_lt fun hlt => ?_
   have := h2 _ hlt
   rw [yZ mw, (XT D hw.1 hw.2.2.2).2 hw] at this
   cases this
  ·obtain ⟨w, e, w1, w2, w3⟩ := hcan j (by omega)
   rw [e, XT D w1 w2] at h2
   rw [e, Int.toNat_natCast] at h3
   refine .inr ⟨w, h2, by rw [← h3, hv], by omega, fun w' hw' hne => ?_⟩
   have mw' := hm w' hw'.1 hw'.2.2.2
   have hne2 : zgr o w' ≠ j := fun e2 => hne (by
    have e3 := yZ mw'
    rw [e2, e] at e3
    omega)
   by_cases hq : zgr o w' < zgr o r
   ·left
    rw [w3]
    refine Nat.lt_of_not_le fun hle => ?_
    have := h4 _ (by omega) hq
    rw [yZ mw', (XT D hw'.1 hw'.2.2.2).2 hw'] at this
    cases this
   ·right
    have : zgr o w' ≠ zgr o r := fun e2 => by
     have e3 := yZ mw'
     rw [e2, yZ mr] at e3
     have : w' = r := by omega
     subst this
     have := hw'.2.2.1
     omega
    omega
theorem zfh.inj (h : zfh l o) {i k : Nat} (hi : i < l.length) (hk : k < l.length) (ii : zR l i = true) (ik : zR l k = true) (e : zgr o i = zgr o k) : i = k := by
 have e1 := yZ (h.all i hi ii)
 rw [e, yZ (h.all k hk ik)] at e1
 omega
theorem zjW.linO (D : yj l) {tau : Nat → Nat} (T : zjW l tau) (hrng : ∀ x ∈ o, 0 ≤ x ∧ x < l.length) (hnd : o.Nodup) (hinc : ∀ x ∈ o, zR l x.toNat = true) (hall : ∀ v : Nat, v < l.length → zR l v = true → (v : Int) ∈ o)
  (hpos : ∀ q, q < o.length → tau (nth o q).toNat = q) : zfh l o := by
 refine ⟨hrng, hnd, hinc, hall, fun i hi => ?_, fun i j hi hj => ?_⟩
 ·have hr := hrng _ (zp hi)
  have hii := hinc _ (zp hi)
  have hpi := hpos i hi
  obtain ⟨r, hre⟩ : ∃ r, (nth o i).toNat = r := ⟨_, rfl⟩
  have hrl : r < l.length := by omega
  rw [hre] at hii hpi ⊢
  rcases D.kind hrl with h0 | h1
  ·right
   have hd := Zu h0 hii
   have hpw : ∀ j, j < i → zao l (nth l r).key (nth o j) = true → ∃ w, wrI l (nth l r).key w ∧ tau w = j ∧ nth o j = w := fun j hj hs => by
    have hjr := hrng _ (zp (show j < o.length by omega))
    have hji := hinc _ (zp (show j < o.length by omega))
    refine ⟨(nth o j).toNat, ?_, hpos j (by omega), by omega⟩
    have e : nth o j = (((nth o j).toNat : Nat) : Int) := by omega
    rw [e] at hs
    exact (XT D (by omega) hji).1 hs
   rcases T.rd r hrl h0 hd with ⟨e0, hf⟩ | ⟨w, hw, ha, hle, ho⟩
   ·rcases Yp l (nth l r).key o i (by omega) with ⟨g1, _⟩ | ⟨j, g1, g2, _, _⟩
    ·rw [g1, e0]
    ·obtain ⟨w, hw, hwj, _⟩ := hpw j g1 g2
     have := hf w hw
     omega
   ·have hwm := hall w hw.1 hw.2.2.2
    obtain ⟨q, hq, hqe⟩ := VI hwm
    have hqp := hpos q hq
    rw [hqe, Int.toNat_natCast] at hqp
    have hwr : w ≠ r := fun e => by rw [e] at hw; have := hw.2.2.1; omega
    have hqi : q < i := by
     have : q ≠ i := fun e => by
      subst e
      rw [hqe, Int.toNat_natCast] at hre
      exact hwr hre
     omega
    have hsw : zao l (nth l r).key (nth o q) = true := by rw [hqe]; exact (XT D hw.1 hw.2.2.2).2 hw
    rcases Yp l (nth l r).key o i (by omega) with ⟨_, g2⟩ | ⟨j, g1, g2, g3, g4⟩
    ·rw [g2 q hqi] at hsw; cases hsw
    ·obtain ⟨w', hw', hwj, hwe⟩ := hpw j g1 g2
     by_cases e : w' = w
     ·rw [g3, hwe, Int.toNat_natCast, e, ha]
     ·exfalso
      rcases ho w' hw' e with h2 | h2
      ·have := g4 q (by omega) hqi
       rw [this] at hsw; cases hsw
      ·omega
  ·exact .inl h1
 ·cases hb : bef l (nth o i).toNat (nth o j).toNat with
  | false => rfl
  | true =>
   have hri := hrng _ (zp hi)
   have hrj := hrng _ (zp (show j < o.length by omega))
   have := T.rt _ _ (by omega) (by omega) (hinc _ (zp hi)) (hinc _ (zp (show j < o.length by omega))) hb
   rw [hpos i hi, hpos j (by omega)] at this
   omega
def xg (L : List Nat) : List Int := L.map fun n : Nat => (n : Int)
theorem YS {L : List Nat} {i : Nat} (h : i < L.length) : nth (xg L) i = ((nth L i : Nat) : Int) := by
 unfold xg
 rw [zi (by simpa using h), zi h, List.getElem_map]
theorem ZZ (L : List Nat) : (xg L).length = L.length := by simp [xg]
theorem zk2 {K : List Int} (H : H21 l) (V : ∀ c ∈ K, VO l c) (hK : ∀ i, i < l.length → (nth l i).key ∈ K) : zfh l (xg (Vl l K)) := by
 have hmem : ∀ x, x ∈ xg (Vl l K) → ∃ n : Nat, x = n ∧ n ∈ Vl l K := fun x hx => by
  obtain ⟨n, hn, e⟩ := List.mem_map.1 hx
  exact ⟨n, e.symm, hn⟩
 refine (zeX H V hK).linO H.dom (fun x hx => ?_) ?_ (fun x hx => ?_) (fun v hv hi => ?_) (fun q hq => ?_)
 ·obtain ⟨n, rfl, hn⟩ := hmem x hx
  have := ((zbQ H V hK).1 hn).1
  omega
 ·unfold xg List.Nodup
  rw [List.pairwise_map]
  exact (zkc H V hK).imp fun h e => h (by omega)
 ·obtain ⟨n, rfl, hn⟩ := hmem x hx
  rw [Int.toNat_natCast]
  exact ((zbQ H V hK).1 hn).2
 ·exact List.mem_map.2 ⟨v, (zbQ H V hK).2 ⟨hv, hi⟩, rfl⟩
 ·rw [ZZ] at hq
  rw [YS hq, Int.toNat_natCast]
  exact zks H V hK hq
end
def zbC (l : List OpV) (o : List Int) (i : Int) : Bool := zR l i.toNat && (!zg5 o i && (!(o.any fun k => bef l i.toNat k.toNat) && (decide ((nth l i.toNat).k = 1) || decide (XN l (nth l i.toNat).key o = (nth l i.toNat).res))))
def Zl (l : List OpV) (o : List Int) (n : Nat) : Bool := (decide (0 ≤ nth o n) && decide (nth o n < l.length)) && zbC l (o.take n) (nth o n)
def ZM (l : List OpV) (o : List Int) : Bool := (List.range o.length).all (Zl l o) && decide (o.length = (xH l).length)
section
variable {l : List OpV}
theorem zfh.len {o : List Int} (h : zfh l o) : o.length = (xH l).length := by
 have e : (xg (xH l)).length = (xH l).length := ZZ _
 rw [← e]
 refine Nat.le_antisymm (Zw h.nd fun x hx => ?_) (Zw ?_ fun x hx => ?_)
 ·have h1 := h.rng x hx
  exact List.mem_map.2 ⟨x.toNat, yn.2 ⟨by omega, h.inc x hx⟩, by omega⟩
 ·unfold xg List.Nodup
  rw [List.pairwise_map]
  exact (zhc l).imp fun h e => h (by omega)
 ·obtain ⟨n, hn, rfl⟩ := List.mem_map.1 hx
  have := yn.1 hn
  exact h.all n this.1 this.2
def zlq (l : List OpV) (o : List Int) : Prop := ∀ n, n < o.length → Zl l o n = true
theorem Xh {o : List Int} {n : Nat} : Zl l o n = true ↔ (0 ≤ nth o n ∧ nth o n < l.length) ∧ zR l (nth o n).toNat = true ∧ nth o n ∉ o.take n ∧ (∀ j, j < n → j < o.length → bef l (nth o n).toNat (nth o j).toNat = false) ∧ ((nth l (nth o n).toNat).k = 1 ∨ XN l (nth l (nth o n).toNat).key (o.take n) = (nth l (nth o n).toNat).res) := by
 unfold Zl zbC zg5
 simp only [Bool.and_eq_true, Bool.or_eq_true, Bool.not_eq_true', decide_eq_true_eq, decide_eq_false_iff_not, List.any_eq_false]
 constructor
 ·rintro ⟨h1, h2, h3, h4, h5⟩
  refine ⟨h1, h2, h3, fun j hj hjl => ?_, h5⟩
  have := h4 (nth o j) (List.mem_take_iff_getElem.2 ⟨j, by omega, (zi _).symm⟩)
  simpa using this
 ·rintro ⟨h1, h2, h3, h4, h5⟩
  refine ⟨h1, h2, h3, fun x hx => ?_, h5⟩
  obtain ⟨j, hj, e⟩ := List.mem_take_iff_getElem.1 hx
  have := h4 j (by omega) (by omega)
  rw [zi (show j < o.length by omega), e] at this
  simp [this]
theorem zcX {o : List Int} : ZM l o = true ↔ zfh l o := by
 unfold ZM
 rw [Bool.and_eq_true, decide_eq_true_eq, List.all_eq_true]
 simp only [List.mem_range]
 constructor
 ·rintro ⟨h, hlen⟩
  have h := fun n hn => Xh.1 (h n hn)
  have hnd : o.Nodup := by
   unfold List.Nodup
   rw [List.pairwise_iff_getElem]
   intro i j hi hj hij e
   refine (h j hj).2.2.1 (List.mem_take_iff_getElem.2 ⟨i, by omega, ?_⟩)
   rw [zi hj, e]
  have hx : ∀ x ∈ o, (0 ≤ x ∧ x < l.length) ∧ zR l x.toNat = true := fun x hx => by
   obtain ⟨i, hi, e⟩ := VI hx
   have := h i hi
   rw [e] at this
   exact ⟨this.1, this.2.1⟩
  refine ⟨fun x h => (hx x h).1, hnd, fun x h => (hx x h).2, fun v hv hi => ?_, fun i hi => (h i hi).2.2.2.2, fun i j hi hj => (h i hi).2.2.2.1 j hj (by omega)⟩
  refine Classical.byContradiction fun hno => ?_
  have := Zw (m := xg (xH l)) (List.nodup_cons.2 ⟨hno, hnd⟩) fun y hy => by
   rcases List.mem_cons.1 hy with rfl | hy
   ·exact List.mem_map.2 ⟨v, yn.2 ⟨hv, hi⟩, rfl⟩
   ·have := hx y hy
    exact List.mem_map.2 ⟨y.toNat, yn.2 ⟨by omega, this.2⟩, by omega⟩
  rw [ZZ, List.length_cons] at this
  omega
 ·intro h
  refine ⟨fun n hn => Xh.2 ⟨h.rng _ (zp hn), h.inc _ (zp hn), fun hm => ?_, fun j hj hjl => h.rt n j hn hj, h.val n hn⟩, h.len⟩
  obtain ⟨j, hj, e⟩ := List.mem_take_iff_getElem.1 hm
  rw [zi hn] at e
  have := (List.getElem_inj h.nd).1 e
  omega
theorem zjm {o o2 : List Int} {n : Nat} (hn : n < o.length) : Zl l (o ++ o2) n = Zl l o n := by
 have e1 : nth (o ++ o2) n = nth o n := by rw [zi (by simp; omega), zi hn, List.getElem_append_left hn]
 have e2 : (o ++ o2).take n = o.take n := List.take_append_of_le_length (by omega)
 unfold Zl
 rw [e1, e2]
theorem zlq.add {o : List Int} (h : zlq l o) {i : Nat} (hi : i < l.length) (hf : zbC l o (i : Int) = true) : zlq l (o ++ [(i : Int)]) := fun n hn => by
 by_cases e : n = o.length
 ·subst e
  have e1 : nth (o ++ [(i : Int)]) o.length = i := by rw [zi (by simp)]; simp
  unfold Zl
  rw [e1, List.take_left, hf, decide_eq_true (show (0 : Int) ≤ i by omega), decide_eq_true (show (i : Int) < l.length by omega)]
  rfl
 ·rw [zjm (by simp at hn; omega)]
  exact h n (by simp at hn; omega)
end
end Go.Proofs.Ytbeebjdnapkhhaa
