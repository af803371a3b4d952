/-
  The order of a key's operations (linear.sequence), in plain Lean: the clusters of a key without violations, one after the other.
-/
import Derived.Test.YtbeebjdnapkhhaaZLinClus
import Derived.Test.YtbeebjdnapkhhaaZNewPlain
namespace Go.Proofs.Ytbeebjdnapkhhaa
set_option linter.unusedVariables false

section
variable {l : List OpV}
theorem fstTo_le {c : List Nat} : ∀ {k : Nat}, k ≤ c.length → ∀ j, j < k → backL (nth l (fstTo l c k)) ≤ backL (nth l (nth c j))
 | 0, _, j, hj => by omega
 | k + 1, hk, j, hj => by
  rw [fstTo_succ (by omega)]
  unfold fstS
  by_cases hjk : j = k
  ·subst hjk
   split
   ·exact Int.le_refl _
   ·omega
  ·have := fstTo_le (c := c) (k := k) (by omega) j (by omega)
   split
   ·omega
   ·exact this
theorem lstTo_ge {c : List Nat} : ∀ {k : Nat}, k ≤ c.length → ∀ j, j < k → (nth l (nth c j)).call ≤ (nth l (lstTo l c k)).call
 | 0, _, j, hj => by omega
 | k + 1, hk, j, hj => by
  rw [lstTo_succ (by omega)]
  unfold lstS
  by_cases hjk : j = k
  ·subst hjk
   split
   ·exact Int.le_refl _
   ·omega
  ·have := lstTo_ge (c := c) (k := k) (by omega) j (by omega)
   split
   ·omega
   ·exact this
theorem finL_le {c : List Nat} {i : Nat} (h : i ∈ c) : finL l c ≤ backL (nth l i) := by
 obtain ⟨j, hj, e⟩ := List.getElem_of_mem h
 have := fstTo_le (l := l) (Nat.le_refl c.length) j hj
 rw [fstTo_all, nth_eq hj, e] at this
 exact this
theorem staL_ge {c : List Nat} {i : Nat} (h : i ∈ c) : (nth l i).call ≤ staL l c := by
 obtain ⟨j, hj, e⟩ := List.getElem_of_mem h
 have := lstTo_ge (l := l) (Nat.le_refl c.length) j hj
 rw [lstTo_all, nth_eq hj, e] at this
 exact this
theorem fstOp_mem {c : List Nat} (h0 : 0 < c.length) : fstOp l c ∈ c := by rw [← fstTo_all]; exact fstTo_mem h0 (Nat.le_refl _)
theorem lstOp_mem {c : List Nat} (h0 : 0 < c.length) : lstOp l c ∈ c := by rw [← lstTo_all]; exact lstTo_mem h0 (Nat.le_refl _)
end

def prcB (l : List OpV) (x y : ClV) : Bool := x.ini || decide (finL l x.ops < staL l y.ops)
def prsR (l : List OpV) (C : List ClV) (i k : Nat) : Prs := ((List.range k).filter fun k => decide (i ≠ k) && prcB l (nth C i) (nth C k)).map fun k => (i, k)
def prsT (l : List OpV) (C : List ClV) (i : Nat) : Prs := (List.range i).flatMap fun i => prsR l C i C.length
def prsS (l : List OpV) (C : List ClV) : Prs := prsT l C C.length
theorem prsR_succ (l : List OpV) (C : List ClV) (i k : Nat) : prsR l C i (k + 1) = prsR l C i k ++ if (decide (i ≠ k) && prcB l (nth C i) (nth C k)) = true then [(i, k)] else [] := by
 unfold prsR
 rw [List.range_succ, List.filter_append, List.map_append]
 congr 1
 by_cases h : (decide (i ≠ k) && prcB l (nth C i) (nth C k)) = true
 ·rw [if_pos h, List.filter_cons_of_pos (by exact h)]; rfl
 ·rw [if_neg h, List.filter_cons_of_neg (by exact h)]; rfl
theorem prsT_succ (l : List OpV) (C : List ClV) (i : Nat) : prsT l C (i + 1) = prsT l C i ++ prsR l C i C.length := by
 unfold prsT
 rw [List.range_succ, List.flatMap_append]
 simp
theorem prsR_len (l : List OpV) (C : List ClV) (i k : Nat) : (prsR l C i k).length ≤ k := by
 unfold prsR
 rw [List.length_map]
 exact Nat.le_trans (List.length_filter_le _ _) (by simp)
theorem prsT_len (l : List OpV) (C : List ClV) : ∀ i, (prsT l C i).length ≤ i * C.length
 | 0 => by simp [prsT]
 | i + 1 => by
  rw [prsT_succ, List.length_append]
  have := prsT_len l C i
  have := prsR_len l C i C.length
  rw [Nat.succ_mul]; omega
theorem prsS_mem {l : List OpV} {C : List ClV} {i k : Nat} : (i, k) ∈ prsS l C ↔ i < C.length ∧ k < C.length ∧ i ≠ k ∧ prcB l (nth C i) (nth C k) = true := by
 unfold prsS prsT
 rw [List.mem_flatMap]
 constructor
 ·rintro ⟨i', h1, h2⟩
  unfold prsR at h2
  obtain ⟨k', h3, h4⟩ := List.mem_map.1 h2
  obtain ⟨h5, h6⟩ := List.mem_filter.1 h3
  simp only [Prod.mk.injEq] at h4
  obtain ⟨rfl, rfl⟩ := h4
  simp only [Bool.and_eq_true, decide_eq_true_eq] at h6
  exact ⟨List.mem_range.1 h1, List.mem_range.1 h5, h6.1, h6.2⟩
 ·rintro ⟨h1, h2, h3, h4⟩
  refine ⟨i, List.mem_range.2 h1, List.mem_map.2 ⟨k, List.mem_filter.2 ⟨List.mem_range.2 h2, ?_⟩, rfl⟩⟩
  rw [decide_eq_true h3, h4]; rfl
theorem confE_nil {l : List OpV} {x y : ClV} : confE l x y = [] ↔ staL l x.ops ≤ finL l y.ops ∨ (x.ini = false ∧ staL l y.ops ≤ finL l x.ops) := by
 unfold confE
 by_cases h1 : finL l y.ops ≥ staL l x.ops
 ·rw [if_pos h1]; exact ⟨fun _ => .inl h1, fun _ => rfl⟩
 ·rw [if_neg h1]
  by_cases h2 : x.ini = true
  ·rw [if_pos h2, h2]
   constructor
   ·intro h; cases h
   ·rintro (h | h)
    ·exact absurd h h1
    ·cases h.1
  ·rw [if_neg h2]
   by_cases h3 : finL l x.ops < staL l y.ops
   ·rw [if_pos h3]
    constructor
    ·intro h; cases h
    ·rintro (h | h)
     ·exact absurd h h1
     ·omega
   ·rw [if_neg h3]
    exact ⟨fun _ => .inr ⟨by simpa using h2, by omega⟩, fun _ => rfl⟩
def rkC (l : List OpV) (x : ClV) : Nat := if x.ini = true then 0 else 1 + 2 * (min (finL l x.ops) (staL l x.ops)).toNat + if finL l x.ops < staL l x.ops then 1 else 0
theorem prs_rank {l : List OpV} {C : List ClV} (hC : ∀ a j, a < j → j < C.length → confE l (nth C a) (nth C j) = []) (hini : ∀ j, j < C.length → (nth C j).ini = true → j = 0)
  (h0 : ∀ j, j < C.length → 0 ≤ finL l (nth C j).ops ∧ 0 ≤ staL l (nth C j).ops) : ∀ e ∈ prsS l C, rkC l (nth C e.1) < rkC l (nth C e.2) := by
 rintro ⟨i, k⟩ he
 obtain ⟨hi, hk, hne, hp⟩ := prsS_mem.1 he
 dsimp only
 unfold prcB at hp
 rw [Bool.or_eq_true, decide_eq_true_eq] at hp
 have kini : (nth C k).ini = true → False := fun h => by
  have e := hini k hk h
  have := confE_nil.1 (hC k i (by omega) hi)
  rw [h] at this
  rcases this with h1 | h1
  ·rcases hp with h2 | h2
   ·have := hini i hi h2; omega
   ·omega
  ·cases h1.1
 have kf : (nth C k).ini = false := by
  cases h : (nth C k).ini with
  | false => rfl
  | true => exact (kini h).elim
 unfold rkC
 rw [kf, if_neg (show ¬ false = true by decide)]
 cases hii : (nth C i).ini with
 | true => rw [if_pos rfl]; omega
 | false =>
  rw [if_neg (by decide)]
  have hp : finL l (nth C i).ops < staL l (nth C k).ops := hp.resolve_left (by rw [hii]; decide)
  have hnc : staL l (nth C i).ops ≤ finL l (nth C k).ops := by
   rcases Nat.lt_or_gt_of_ne hne with h | h
   ·rcases confE_nil.1 (hC i k h hk) with h1 | h1
    ·exact h1
    ·omega
   ·rcases confE_nil.1 (hC k i h hi) with h1 | h1
    ·omega
    ·exact h1.2
  obtain ⟨i1, i2⟩ := h0 i hi
  obtain ⟨k1, k2⟩ := h0 k hk
  split <;> split <;> omega
theorem LinE.mem {R : Nat → Nat → Bool} {n : Nat} {L : List Nat} (h : LinE R n L) {b : Nat} (hb : b < n) : b ∈ L := by
 refine Classical.byContradiction fun hno => ?_
 have key : ∀ (l m : List Nat), l.Nodup → (∀ x ∈ l, x ∈ m) → l.length ≤ m.length := by
  intro l
  induction l with
  | nil => intro m _ _; exact Nat.zero_le _
  | cons x l ih =>
   intro m hn hs
   obtain ⟨h1, h2⟩ := List.nodup_cons.1 hn
   have hx := hs x (by simp)
   have hl := List.length_erase_of_mem hx
   have hpos : 0 < m.length := List.length_pos_of_mem hx
   have := ih (m.erase x) h2 fun y hy => (List.mem_erase_of_ne (fun e : y = x => h1 (by rw [← e]; exact hy))).2 (hs y (by simp [hy]))
   rw [List.length_cons]
   omega
 have hs := key L ((List.range n).erase b) h.nd fun x hx => (List.mem_erase_of_ne (fun e : x = b => hno (by rw [← e]; exact hx))).2 (List.mem_range.2 (h.rng x hx))
 rw [List.length_erase_of_mem (List.mem_range.2 hb), List.length_range, h.len] at hs
 omega
def posN (L : List Nat) (x : Nat) : Nat := L.idxOf x
theorem posN_lt {L : List Nat} {x : Nat} (h : x ∈ L) : posN L x < L.length := List.idxOf_lt_length_of_mem h
theorem posN_nth {L : List Nat} {x : Nat} (h : x ∈ L) : nth L (posN L x) = x := by
 rw [nth_eq (posN_lt h)]
 exact List.getElem_idxOf _
theorem posN_at {L : List Nat} (hn : L.Nodup) {i : Nat} (hi : i < L.length) : posN L (nth L i) = i := by
 rw [nth_eq hi]
 exact hn.idxOf_getElem i hi
theorem posN_inj {L : List Nat} {x y : Nat} (hx : x ∈ L) (hy : y ∈ L) (e : posN L x = posN L y) : x = y := by
 rw [← posN_nth hx, e, posN_nth hy]
theorem LinE.lt {R : Nat → Nat → Bool} {n : Nat} {L : List Nat} (h : LinE R n L) {a b : Nat} (ha : a < n) (hb : b < n) (hr : R a b = true) : posN L a < posN L b := by
 have ma := h.mem ha
 have mb := h.mem hb
 have := h.ord (posN L a) (posN L b) (by rw [← h.len]; exact posN_lt ma) (by rw [← h.len]; exact posN_lt mb)
 rw [posN_nth ma, posN_nth mb] at this
 exact this hr
structure VO (l : List OpV) (c : Int) : Prop where
 thin : ∀ i, i < l.length → (nth l i).key = c → thinL l i = false
 early : ∀ i, i < l.length → (nth l i).key = c → earlyL l i = false
 conf : cfAll l c = []
def nCl (l : List OpV) (c : Int) : Nat := (clOf l c).length
noncomputable def extC (l : List OpV) (c : Int) : List Nat := extTo (reachB (prsS l (clOf l c))) (nCl l c) (nCl l c)
noncomputable def seqL (l : List OpV) (c : Int) : List Nat := (extC l c).flatMap fun j => (nth (clOf l c) j).ops
def clIx (l : List OpV) (c : Int) (i : Nat) : Nat := ((List.range (nCl l c)).find? fun j => decide (clVal l c j = valL (nth l i))).getD 0
noncomputable def spL (l : List OpV) (c : Int) (i : Nat) : Nat := posN (extC l c) (clIx l c i) * (l.length + 2) + if (nth l i).k = 1 then 0 else i + 1
section
variable {l : List OpV} {c : Int}
theorem clOf_ini {j : Nat} (hj : j < (clOf l c).length) : (nth (clOf l c) j).ini = true → j = 0 ∧ has0 l c = true := by
 rw [clOf_len] at hj
 have h1 : nth (clOf l c) j = _ := clT_nth hj
 rw [h1]
 show (nth (tlTo l c l.length) j).1 = true → _
 unfold tlTo at hj ⊢
 intro h
 by_cases h0 : has0 l c = true
 ·rw [if_pos h0] at h hj
  refine ⟨Classical.byContradiction fun hne => ?_, h0⟩
  obtain ⟨j, rfl⟩ : ∃ j', j = j' + 1 := ⟨j - 1, by omega⟩
  simp only [List.length_append, List.length_cons, List.length_nil] at hj
  rw [nth_eq (by simp at hj ⊢; omega)] at h
  simp at h
 ·rw [if_neg h0] at h hj
  rw [List.nil_append] at h hj
  rw [nth_eq hj] at h
  simp at h
theorem clVal_inj (D : dom21 l) {j k : Nat} (hj : j < nCl l c) (hk : k < nCl l c) (e : clVal l c j = clVal l c k) : j = k := by
 have hn := tlTo_vals (c := c) D (Nat.le_refl l.length)
 unfold nCl at hj hk
 rw [clOf_len] at hj hk
 unfold clVal at e
 rw [nth_eq hj, nth_eq hk] at e
 refine (List.getElem_inj hn (h₀ := by simpa using hj) (h₁ := by simpa using hk)).1 ?_
 simpa using e
theorem clIx_ok (D : dom21 l) (V : VO l c) {i : Nat} (h1 : i < l.length) (h2 : (nth l i).key = c) (h4 : inclR l i = true) : clIx l c i < nCl l c ∧ clVal l c (clIx l c i) = valL (nth l i) := by
 have hex : ∃ j, j < nCl l c ∧ clVal l c j = valL (nth l i) := by
  unfold nCl
  rw [clOf_len]
  unfold clVal
  rcases D.kind h1 with hk | hk
  ·obtain ⟨j, j1, j2⟩ := tlTo_read D h1 h2 hk (inclR_read hk h4) (V.thin i h1 h2)
   exact ⟨j, j1, by rw [j2, valL_r hk]⟩
  ·have hm : (false, [i], (nth l i).arg) ∈ tlTo l c l.length := tlTo_mem.2 (.inr ⟨i, h1, wrB_iff.2 ⟨h2, hk, h4⟩, rfl⟩)
   obtain ⟨j, hj, e⟩ := List.getElem_of_mem hm
   exact ⟨j, hj, by rw [nth_eq hj, e, valL_w hk]⟩
 obtain ⟨j, j1, j2⟩ := hex
 unfold clIx
 cases hf : (List.range (nCl l c)).find? fun j => decide (clVal l c j = valL (nth l i)) with
 | none =>
  have := List.find?_eq_none.1 hf j (List.mem_range.2 j1)
  rw [j2] at this
  simp at this
 | some z =>
  rw [List.find?_range_eq_some] at hf
  exact ⟨List.mem_range.1 hf.2.1, by simpa using hf.1⟩
theorem clIx_of (D : dom21 l) (V : VO l c) {j i : Nat} (hj : j < nCl l c) (hi : i ∈ (nth (clOf l c) j).ops) : clIx l c i = j := by
 obtain ⟨h1, h2, h3, h4⟩ := (clOf_ops D hj).1 hi
 obtain ⟨c1, c2⟩ := clIx_ok D V h1 h2 h4
 exact clVal_inj D c1 hj (by rw [c2, h3])
theorem extC_ok (D : dom21 l) (hw : ∀ i, i < l.length → 0 ≤ (nth l i).call ∧ (nth l i).call < (nth l i).ret) (V : VO l c) : (∀ e ∈ prsS l (clOf l c), rkC l (nth (clOf l c) e.1) < rkC l (nth (clOf l c) e.2)) ∧ LinE (reachB (prsS l (clOf l c))) (nCl l c) (extC l c) := by
 have h := prs_rank (l := l) (C := clOf l c) (fun a j haj hj => cfI_nil.1 V.conf a (by omega) (by omega) j haj hj) (fun j hj h => (clOf_ini hj h).1) (fun j hj => by
  have h0 := clOf_ne D hj
  have m1 := (clOf_ops D hj).1 (fstOp_mem (l := l) h0)
  have m2 := (clOf_ops D hj).1 (lstOp_mem (l := l) h0)
  have w1 := hw _ m1.1
  have w2 := hw _ m2.1
  refine ⟨?_, w2.1⟩
  unfold finL backL
  split <;> omega)
 exact ⟨h, ext_linE (reach_ranked (f := fun j => rkC l (nth (clOf l c) j)) h)⟩
theorem seqL_mem (D : dom21 l) (hw : ∀ i, i < l.length → 0 ≤ (nth l i).call ∧ (nth l i).call < (nth l i).ret) (V : VO l c) {i : Nat} : i ∈ seqL l c ↔ i < l.length ∧ (nth l i).key = c ∧ inclR l i = true := by
 obtain ⟨_, E⟩ := extC_ok D hw V
 unfold seqL
 rw [List.mem_flatMap]
 constructor
 ·rintro ⟨j, hj, hi⟩
  obtain ⟨h1, h2, h3, h4⟩ := (clOf_ops D (E.rng j hj)).1 hi
  exact ⟨h1, h2, h4⟩
 ·rintro ⟨h1, h2, h4⟩
  obtain ⟨c1, c2⟩ := clIx_ok D V h1 h2 h4
  exact ⟨_, E.mem c1, (clOf_ops D c1).2 ⟨h1, h2, c2.symm, h4⟩⟩
theorem spL_of (D : dom21 l) (V : VO l c) {j i : Nat} (hj : j < nCl l c) (hi : i ∈ (nth (clOf l c) j).ops) : spL l c i = posN (extC l c) j * (l.length + 2) + if (nth l i).k = 1 then 0 else i + 1 := by
 unfold spL
 rw [clIx_of D V hj hi]
theorem spL_off {i : Nat} (h : i < l.length) : (if (nth l i).k = 1 then 0 else i + 1) < l.length + 2 := by split <;> omega
theorem sp_lt {a b B x y : Nat} (h : a < b) (hx : x < B) : a * B + x < b * B + y := by
 have := Nat.mul_le_mul_right B (show a + 1 ≤ b by omega)
 rw [Nat.succ_mul] at this
 omega
theorem seqL_sorted (D : dom21 l) (hw : ∀ i, i < l.length → 0 ≤ (nth l i).call ∧ (nth l i).call < (nth l i).ret) (V : VO l c) : (seqL l c).Pairwise fun a b => spL l c a < spL l c b := by
 obtain ⟨_, E⟩ := extC_ok D hw V
 unfold seqL
 rw [List.pairwise_flatMap]
 constructor
 ·intro j hj
  have hjn := E.rng j hj
  have hrd : ∀ v, (rdsTo l c v l.length).Pairwise fun a b => a < b ∧ (nth l a).k = 0 ∧ (nth l b).k = 0 := fun v => by
   have h1 : (rdsTo l c v l.length).Pairwise fun a b => a < b := List.pairwise_lt_range.sublist List.filter_sublist
   refine h1.imp_of_mem fun ha hb hab => ⟨hab, ?_, ?_⟩
   ·exact (rdOf_iff.1 (rdsTo_mem.1 ha).2).1
   ·exact (rdOf_iff.1 (rdsTo_mem.1 hb).2).1
  have hp : (nth (clOf l c) j).ops.Pairwise fun a b => (if (nth l a).k = 1 then 0 else a + 1) < if (nth l b).k = 1 then 0 else b + 1 := by
   rcases clOf_case hjn with ⟨h0, h1, h2⟩ | ⟨w, w1, w2, h1, h2⟩
   ·rw [h2]
    refine (hrd 0).imp fun h => ?_
    rw [if_neg (by omega), if_neg (by omega)]; omega
   ·rw [h2]
    refine List.pairwise_cons.2 ⟨fun b hb => ?_, (hrd _).imp fun h => ?_⟩
    ·have := (rdOf_iff.1 (rdsTo_mem.1 hb).2).1
     rw [if_pos (wrB_iff.1 w2).2.1, if_neg (by omega)]; omega
    ·rw [if_neg (by omega), if_neg (by omega)]; omega
  refine hp.imp_of_mem fun ha hb h => ?_
  rw [spL_of D V hjn ha, spL_of D V hjn hb]
  omega
 ·rw [List.pairwise_iff_getElem]
  intro p q hp hq hpq x hx y hy
  have h1 := E.rng _ (List.getElem_mem hp)
  have h2 := E.rng _ (List.getElem_mem hq)
  rw [spL_of D V h1 hx, spL_of D V h2 hy]
  have e1 := posN_at E.nd hp
  have e2 := posN_at E.nd hq
  rw [nth_eq hp] at e1
  rw [nth_eq hq] at e2
  rw [e1, e2]
  exact sp_lt hpq (spL_off ((clOf_ops D h1).1 hx).1)
theorem prc_lt (D : dom21 l) (hw : ∀ i, i < l.length → 0 ≤ (nth l i).call ∧ (nth l i).call < (nth l i).ret) (V : VO l c) {i k : Nat} (hi : i < nCl l c) (hk : k < nCl l c) (hne : i ≠ k) (h : prcB l (nth (clOf l c) i) (nth (clOf l c) k) = true) : posN (extC l c) i < posN (extC l c) k :=
 (extC_ok D hw V).2.lt hi hk (reachB_iff.2 (.one (prsS_mem.2 ⟨hi, hk, hne, h⟩)))
theorem seqL_rt (D : dom21 l) (hc : ∀ i j, i < l.length → j < l.length → (nth l i).call < (nth l j).call → i < j) (hw : ∀ i, i < l.length → 0 ≤ (nth l i).call ∧ (nth l i).call < (nth l i).ret) (V : VO l c) {i k : Nat} (hi : i ∈ seqL l c) (hk : k ∈ seqL l c) (hb : bef l i k = true) : spL l c i < spL l c k := by
 obtain ⟨i1, i2, i4⟩ := (seqL_mem D hw V).1 hi
 obtain ⟨k1, k2, k4⟩ := (seqL_mem D hw V).1 hk
 obtain ⟨ci, vi⟩ := clIx_ok D V i1 i2 i4
 obtain ⟨ck, vk⟩ := clIx_ok D V k1 k2 k4
 have mi := (clOf_ops D ci).2 ⟨i1, i2, vi.symm, i4⟩
 have mk := (clOf_ops D ck).2 ⟨k1, k2, vk.symm, k4⟩
 have hcall := bef_call (fun i h => (hw i h).2) i1 hb
 have hik := hc i k i1 k1 hcall
 have hbf := hb
 unfold bef at hbf
 simp only [Bool.and_eq_true, decide_eq_true_eq] at hbf
 unfold spL
 by_cases e : clIx l c i = clIx l c k
 ·rw [e]
  have hv : valL (nth l i) = valL (nth l k) := by rw [← vi, ← vk, e]
  rcases D.kind i1 with ki | ki
  ·rcases D.kind k1 with kk | kk
   ·rw [if_neg (by omega), if_neg (by omega)]; omega
   ·exfalso
    rw [valL_r ki, valL_w kk] at hv
    have he := V.early i i1 i2
    have e1 := wIx_of D k1 kk
    rw [k2, ← hv, ← i2] at e1
    have ha := D.arg k1 kk
    unfold earlyL at he
    rw [e1, decide_eq_true ki, hbf.1, decide_eq_true (show (nth l i).res ≠ 0 by omega)] at he
    have he : bef l i k = false := by simpa using he
    rw [hb] at he
    cases he
  ·rcases D.kind k1 with kk | kk
   ·rw [if_pos ki, if_neg (by omega)]; omega
   ·exfalso
    rw [valL_w ki, valL_w kk] at hv
    have := D.uniq i1 k1 ki kk (i2.trans k2.symm) hv
    omega
 ·refine sp_lt (prc_lt D hw V ci ck e ?_) (spL_off i1)
  unfold prcB
  rw [Bool.or_eq_true, decide_eq_true_eq]
  refine .inr ?_
  have h1 := finL_le (l := l) mi
  have h2 := staL_ge (l := l) mk
  have h3 : backL (nth l i) = (nth l i).ret := by unfold backL; rw [hbf.1]; rfl
  omega
theorem seqL_rd (D : dom21 l) (hw : ∀ i, i < l.length → 0 ≤ (nth l i).call ∧ (nth l i).call < (nth l i).ret) (V : VO l c) {r : Nat} (hr : r < l.length) (hrc : (nth l r).key = c) (h0 : (nth l r).k = 0) (hd : (nth l r).done = true) :
  ((nth l r).res = 0 ∧ ∀ w, wrI l c w → spL l c r < spL l c w) ∨ ∃ w, wrI l c w ∧ (nth l w).arg = (nth l r).res ∧ spL l c w < spL l c r ∧ ∀ w', wrI l c w' → w' ≠ w → spL l c w' < spL l c w ∨ spL l c r < spL l c w' := by
 obtain ⟨cr, vr⟩ := clIx_ok D V hr hrc (inclR_done hd)
 rw [valL_r h0] at vr
 by_cases hz : (nth l r).res = 0
 ·refine .inl ⟨hz, fun w hwi => ?_⟩
  obtain ⟨w1, w2, w3, w4⟩ := hwi
  obtain ⟨cw, vw⟩ := clIx_ok D V w1 w2 w4
  rw [valL_w w3] at vw
  have ha := D.arg w1 w3
  have hne : clIx l c r ≠ clIx l c w := fun e => by rw [e, vw] at vr; omega
  unfold spL
  refine sp_lt (prc_lt D hw V cr cw hne ?_) (spL_off hr)
  unfold prcB
  rw [Bool.or_eq_true]
  left
  rcases clOf_case cr with ⟨h0, h1, h2⟩ | ⟨u, u1, u2, h1, h2⟩
  ·rw [h2]
  ·exact absurd (by rw [← h1, vr, hz]) (D.arg u1 (wrB_iff.1 u2).2.1)
 ·have ht := V.thin r hr hrc
  unfold thinL at ht
  rw [decide_eq_true h0, hd, decide_eq_true hz] at ht
  simp only [Bool.true_and] at ht
  cases hwx : wIx l (nth l r).key (nth l r).res with
  | none => rw [hwx] at ht; cases ht
  | some w =>
   obtain ⟨w1, w2, _⟩ := wIx_some hwx
   rw [wOf_iff] at w2
   obtain ⟨w2, w3, w5⟩ := w2
   have w4 := wr_incl hr h0 hd w1 w2 w3 w5
   have wc : (nth l w).key = c := w3.trans hrc
   obtain ⟨cw, vw⟩ := clIx_ok D V w1 wc w4
   rw [valL_w w2] at vw
   have hsame : clIx l c w = clIx l c r := clVal_inj D cw cr (by rw [vw, vr, w5])
   refine .inr ⟨w, ⟨w1, wc, w2, w4⟩, w5, ?_, ?_⟩
   ·unfold spL
    rw [hsame, if_pos w2, if_neg (by omega)]; omega
   ·rintro w' ⟨x1, x2, x3, x4⟩ hne
    obtain ⟨cx, vx⟩ := clIx_ok D V x1 x2 x4
    rw [valL_w x3] at vx
    have hdif : clIx l c w' ≠ clIx l c w := fun e => by
     rw [e, vw] at vx
     exact hne (D.uniq x1 w1 x3 w2 (x2.trans wc.symm) vx.symm)
    have E := (extC_ok D hw V).2
    have hpd : posN (extC l c) (clIx l c w') ≠ posN (extC l c) (clIx l c w) := fun e => hdif (posN_inj (E.mem cx) (E.mem cw) e)
    rcases Nat.lt_or_gt_of_ne hpd with h | h
    ·left; unfold spL; exact sp_lt h (spL_off x1)
    ·right; unfold spL; rw [← hsame]; exact sp_lt h (spL_off hr)
end
end Go.Proofs.Ytbeebjdnapkhhaa
