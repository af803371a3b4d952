/-
  A linearization of a history without violations (linear.linearization), in plain Lean.
-/
import Derived.Test.YtbeebjdnapkhhaaZLinSeq
namespace Go.Proofs.Ytbeebjdnapkhhaa
set_option linter.unusedVariables false

def topM (h : Nat → Nat) (L : List Nat) : Nat := L.foldr (fun x m => max (h x) m) 0
theorem topM_le {h : Nat → Nat} {x : Nat} : ∀ {L : List Nat}, x ∈ L → h x ≤ topM h L
 | y :: L, hx => by
  show h x ≤ max (h y) (topM h L)
  rcases List.mem_cons.1 hx with rfl | hx
  ·omega
  ·have := topM_le (h := h) hx; omega
theorem topM_at {h : Nat → Nat} : ∀ (L : List Nat), topM h L = 0 ∨ ∃ x ∈ L, h x = topM h L
 | [] => .inl rfl
 | y :: L => by
  show max (h y) (topM h L) = 0 ∨ ∃ x ∈ y :: L, h x = max (h y) (topM h L)
  rcases Nat.le_total (topM h L) (h y) with hle | hle
  ·exact .inr ⟨y, by simp, by omega⟩
  ·rcases topM_at (h := h) L with e | ⟨x, hx, e⟩
   ·by_cases h0 : h y = 0
    ·left; omega
    ·exact .inr ⟨y, by simp, by omega⟩
   ·exact .inr ⟨x, by simp [hx], by omega⟩
theorem nodup_subl {α : Type} [BEq α] [LawfulBEq α] : ∀ {l m : List α}, l.Nodup → (∀ x ∈ l, x ∈ m) → l.length ≤ m.length
 | [], m, _, _ => Nat.zero_le _
 | x :: l, m, hn, hs => by
  have h1 := List.nodup_cons.1 hn
  have hx := hs x (by simp)
  have hl := List.length_erase_of_mem hx
  have hpos : 0 < m.length := List.length_pos_of_mem hx
  have := nodup_subl (m := m.erase x) h1.2 fun y hy => (List.mem_erase_of_ne (fun e : y = x => h1.1 (by rw [← e]; exact hy))).2 (hs y (by simp [hy]))
  rw [List.length_cons]
  omega
def incL (l : List OpV) : List Nat := (List.range l.length).filter (inclR l)
def numI (l : List OpV) (i : Nat) : Nat := posN (incL l) i
def rowT (l : List OpV) (row : List Nat) (k : Nat) : Prs := (List.range k).map fun i => (numI l (nth row i), numI l (nth row (i + 1)))
def rowP (l : List OpV) (row : List Nat) : Prs := rowT l row (row.length - 1)
noncomputable def keyP (l : List OpV) (K : List Int) : Prs := K.flatMap fun c => rowP l (seqL l c)
def rtR (l : List OpV) (a k : Nat) : Prs := ((List.range k).filter fun b => bef l (nth (incL l) a) (nth (incL l) b)).map fun b => (a, b)
def rtT (l : List OpV) (a : Nat) : Prs := (List.range a).flatMap fun a => rtR l a (incL l).length
noncomputable def linP (l : List OpV) (K : List Int) : Prs := keyP l K ++ rtT l (incL l).length
noncomputable def linN (l : List OpV) (K : List Int) : List Nat := extTo (reachB (linP l K)) (incL l).length (incL l).length
noncomputable def linL (l : List OpV) (K : List Int) : List Nat := (linN l K).map fun a => nth (incL l) a
theorem rowT_succ (l : List OpV) (row : List Nat) (k : Nat) : rowT l row (k + 1) = rowT l row k ++ [(numI l (nth row k), numI l (nth row (k + 1)))] := by
 unfold rowT; rw [List.range_succ, List.map_append]; rfl
theorem rowT_len (l : List OpV) (row : List Nat) (k : Nat) : (rowT l row k).length = k := by simp [rowT]
theorem rtR_succ (l : List OpV) (a k : Nat) : rtR l a (k + 1) = rtR l a k ++ if bef l (nth (incL l) a) (nth (incL l) k) = true then [(a, k)] else [] := by
 unfold rtR
 rw [List.range_succ, List.filter_append, List.map_append]
 congr 1
 by_cases h : bef l (nth (incL l) a) (nth (incL l) k) = true
 ·rw [if_pos h, List.filter_cons_of_pos (by exact h)]; rfl
 ·rw [if_neg h, List.filter_cons_of_neg (by exact h)]; rfl
theorem rtT_succ (l : List OpV) (a : Nat) : rtT l (a + 1) = rtT l a ++ rtR l a (incL l).length := by
 unfold rtT
 rw [List.range_succ, List.flatMap_append]
 simp
theorem rtR_len (l : List OpV) (a k : Nat) : (rtR l a k).length ≤ k := by
 unfold rtR
 rw [List.length_map]
 exact Nat.le_trans (List.length_filter_le _ _) (by simp)
theorem rtT_len (l : List OpV) : ∀ i, (rtT l i).length ≤ i * (incL l).length
 | 0 => by simp [rtT]
 | i + 1 => by
  rw [rtT_succ, List.length_append]
  have := rtT_len l i
  have := rtR_len l i (incL l).length
  rw [Nat.succ_mul]; omega
theorem incL_mem {l : List OpV} {i : Nat} : i ∈ incL l ↔ i < l.length ∧ inclR l i = true := by unfold incL; rw [List.mem_filter, List.mem_range]
theorem incL_le (l : List OpV) : (incL l).length ≤ l.length := by unfold incL; exact Nat.le_trans (List.length_filter_le _ _) (by simp)
theorem numI_lt {l : List OpV} {i : Nat} (h : i ∈ incL l) : numI l i < (incL l).length := posN_lt h
theorem numI_nth {l : List OpV} {i : Nat} (h : i ∈ incL l) : nth (incL l) (numI l i) = i := posN_nth h
section
variable {l : List OpV} {K : List Int}
theorem rtT_mem {a b : Nat} : (a, b) ∈ rtT l (incL l).length ↔ a < (incL l).length ∧ b < (incL l).length ∧ bef l (nth (incL l) a) (nth (incL l) b) = true := by
 unfold rtT
 rw [List.mem_flatMap]
 constructor
 ·rintro ⟨i', h1, h2⟩
  unfold rtR at h2
  obtain ⟨k', h3, h4⟩ := List.mem_map.1 h2
  obtain ⟨h5, h6⟩ := List.mem_filter.1 h3
  simp only [Prod.mk.injEq] at h4
  obtain ⟨rfl, rfl⟩ := h4
  exact ⟨List.mem_range.1 h1, List.mem_range.1 h5, h6⟩
 ·rintro ⟨h1, h2, h3⟩
  exact ⟨a, List.mem_range.2 h1, List.mem_map.2 ⟨b, List.mem_filter.2 ⟨List.mem_range.2 h2, h3⟩, rfl⟩⟩
theorem keyP_mem {x : Nat × Nat} : x ∈ keyP l K ↔ ∃ c ∈ K, ∃ i, i + 1 < (seqL l c).length ∧ x = (numI l (nth (seqL l c) i), numI l (nth (seqL l c) (i + 1))) := by
 unfold keyP rowP rowT
 rw [List.mem_flatMap]
 constructor
 ·rintro ⟨c, hc, h⟩
  obtain ⟨i, hi, e⟩ := List.mem_map.1 h
  exact ⟨c, hc, i, by have := List.mem_range.1 hi; omega, e.symm⟩
 ·rintro ⟨c, hc, i, hi, e⟩
  exact ⟨c, hc, List.mem_map.2 ⟨i, List.mem_range.2 (by omega), e.symm⟩⟩
structure H21 (l : List OpV) : Prop where
 dom : dom21 l
 ord : ∀ i j, i < l.length → j < l.length → (nth l i).call < (nth l j).call → i < j
 wf : ∀ i, i < l.length → 0 ≤ (nth l i).call ∧ (nth l i).call < (nth l i).ret
theorem seqL_len (H : H21 l) {c : Int} (V : VO l c) : (seqL l c).length ≤ l.length := by
 have hn : (seqL l c).Nodup := (seqL_sorted H.dom H.wf V).imp fun h e => by rw [e] at h; omega
 have := nodup_subl (m := List.range l.length) hn fun x hx => List.mem_range.2 ((seqL_mem H.dom H.wf V).1 hx).1
 simpa using this
theorem keyP_len (H : H21 l) (V : ∀ c ∈ K, VO l c) : ∀ i, i ≤ K.length → (keyP l (K.take i)).length ≤ i * l.length
 | 0, _ => by simp [keyP]
 | i + 1, hi => by
  have h1 := keyP_len H V i (by omega)
  have h2 := seqL_len H (V _ (nth_mem (l := K) (i := i) (by omega)))
  rw [takeSnoc (by omega)]
  unfold keyP at h1 ⊢
  rw [List.flatMap_append, List.length_append, List.flatMap_singleton, Nat.succ_mul]
  have h3 : (rowP l (seqL l (nth K i))).length = (seqL l (nth K i)).length - 1 := by unfold rowP; rw [rowT_len]
  omega
theorem keyP_succ {i : Nat} (hi : i < K.length) : keyP l (K.take (i + 1)) = keyP l (K.take i) ++ rowP l (seqL l (nth K i)) := by
 rw [takeSnoc hi]
 unfold keyP
 rw [List.flatMap_append, List.flatMap_singleton]
theorem seq_lt (H : H21 l) {c : Int} (V : VO l c) {p q : Nat} (hq : q < (seqL l c).length) (hpq : p < q) : spL l c (nth (seqL l c) p) < spL l c (nth (seqL l c) q) := by
 have := List.pairwise_iff_getElem.1 (seqL_sorted H.dom H.wf V) p q (by omega) hq hpq
 rw [nth_eq hq, nth_eq (by omega)]
 exact this
theorem lin_rank (H : H21 l) (V : ∀ c ∈ K, VO l c) (hK : ∀ i, i < l.length → (nth l i).key ∈ K) : ∃ f : Nat → Nat, (∀ i k, i < l.length → k < l.length → inclR l i = true → inclR l k = true → bef l i k = true → f i < f k) ∧
  ∀ i k, i < l.length → k < l.length → inclR l i = true → inclR l k = true → (nth l i).key = (nth l k).key → spL l (nth l i).key i < spL l (nth l i).key k → f i < f k := by
 obtain ⟨FK, hFK⟩ : ∃ FK : Nat → Nat, FK = fun a => spL l (nth l a).key a := ⟨_, rfl⟩
 have hkk : ∀ a b, a < l.length → b < l.length → inclR l a = true → inclR l b = true → (nth l a).key = (nth l b).key → bef l a b = true → FK a < FK b := fun a b ha hb ia ib e hbf => by
  rw [hFK]; dsimp only
  rw [← e]
  have V' := V _ (hK a ha)
  exact seqL_rt H.dom H.ord H.wf V' ((seqL_mem H.dom H.wf V').2 ⟨ha, rfl, ia⟩) ((seqL_mem H.dom H.wf V').2 ⟨hb, e.symm, ib⟩) hbf
 obtain ⟨B, hB⟩ : ∃ B, B = topM FK (List.range l.length) + 1 := ⟨_, rfl⟩
 have hlt : ∀ a, a < l.length → FK a < B := fun a ha => by
  have := topM_le (h := FK) (List.mem_range.2 ha)
  omega
 obtain ⟨S, hS⟩ : ∃ S : Nat → List Nat, S = fun a => (List.range l.length).filter fun b => inclR l b && decide ((nth l b).key = (nth l a).key) && decide (FK b ≤ FK a) := ⟨_, rfl⟩
 have hSm : ∀ a b, b ∈ S a ↔ b < l.length ∧ inclR l b = true ∧ (nth l b).key = (nth l a).key ∧ FK b ≤ FK a := fun a b => by
  rw [hS]; dsimp only
  rw [List.mem_filter, List.mem_range]
  simp only [Bool.and_eq_true, decide_eq_true_eq, and_assoc]
 obtain ⟨g, hg⟩ : ∃ g : Nat → Nat, g = fun a => topM (fun b => (nth l b).call.toNat) (S a) := ⟨_, rfl⟩
 have same : ∀ a b, a < l.length → b < l.length → (nth l a).key = (nth l b).key → FK a < FK b → g a * B + FK a < g b * B + FK b := fun a b ha hb hk h1 => by
  have h2 : g a ≤ g b := by
   rw [hg]; dsimp only
   rcases topM_at (h := fun b => (nth l b).call.toNat) (S a) with e | ⟨x, hx, e⟩
   ·omega
   ·rw [← e]
    obtain ⟨x1, x2, x3, x4⟩ := (hSm a x).1 hx
    exact topM_le (h := fun b => (nth l b).call.toNat) ((hSm b x).2 ⟨x1, x2, x3.trans hk, by omega⟩)
  have := Nat.mul_le_mul_right B h2
  omega
 refine ⟨fun a => g a * B + FK a, fun a b ha hb ia ib hbf => ?_, fun a b ha hb ia ib hk hs => ?_⟩
 ·dsimp only
  by_cases hk : (nth l a).key = (nth l b).key
  ·exact same a b ha hb hk (hkk a b ha hb ia ib hk hbf)
  ·have hbf' := hbf
   unfold bef at hbf
   simp only [Bool.and_eq_true, decide_eq_true_eq] at hbf
   have hwa := H.wf a ha
   have hwb := H.wf b hb
   have h1 : g a ≤ (nth l a).ret.toNat := by
    rw [hg]; dsimp only
    rcases topM_at (h := fun b => (nth l b).call.toNat) (S a) with e | ⟨x, hx, e⟩
    ·omega
    ·rw [← e]
     obtain ⟨x1, x2, x3, x4⟩ := (hSm a x).1 hx
     have hwx := H.wf x x1
     by_cases hlt2 : (nth l a).ret < (nth l x).call
     ·exfalso
      have := hkk a x ha x1 ia x2 x3.symm (by unfold bef; simp [hbf.1, hlt2])
      omega
     ·omega
   have h2 : (nth l b).call.toNat ≤ g b := by
    rw [hg]; dsimp only
    exact topM_le (h := fun b => (nth l b).call.toNat) ((hSm b b).2 ⟨hb, ib, rfl, Nat.le_refl _⟩)
   have h3 : g a + 1 ≤ g b := by omega
   have h4 := Nat.mul_le_mul_right B h3
   rw [Nat.succ_mul] at h4
   have := hlt a ha
   omega
 ·dsimp only
  refine same a b ha hb hk ?_
  rw [hFK]; dsimp only
  rw [← hk]; exact hs
theorem linP_in (H : H21 l) (V : ∀ c ∈ K, VO l c) : ∀ e ∈ linP l K, e.1 < (incL l).length ∧ e.2 < (incL l).length := by
 rintro ⟨a, b⟩ he
 rcases List.mem_append.1 he with he | he
 ·obtain ⟨c, hc, i, hi, e⟩ := keyP_mem.1 he
  simp only [Prod.mk.injEq] at e
  obtain ⟨rfl, rfl⟩ := e
  have m1 := (seqL_mem H.dom H.wf (V c hc)).1 (nth_mem (show i < (seqL l c).length by omega))
  have m2 := (seqL_mem H.dom H.wf (V c hc)).1 (nth_mem hi)
  exact ⟨numI_lt (incL_mem.2 ⟨m1.1, m1.2.2⟩), numI_lt (incL_mem.2 ⟨m2.1, m2.2.2⟩)⟩
 ·obtain ⟨h1, h2, _⟩ := rtT_mem.1 he
  exact ⟨h1, h2⟩
theorem linP_rank (H : H21 l) (V : ∀ c ∈ K, VO l c) (hK : ∀ i, i < l.length → (nth l i).key ∈ K) : ∃ f : Nat → Nat, ∀ e ∈ linP l K, f e.1 < f e.2 := by
 obtain ⟨f, f1, f2⟩ := lin_rank H V hK
 refine ⟨fun a => f (nth (incL l) a), ?_⟩
 rintro ⟨a, b⟩ he
 dsimp only
 rcases List.mem_append.1 he with he | he
 ·obtain ⟨c, hc, i, hi, e⟩ := keyP_mem.1 he
  simp only [Prod.mk.injEq] at e
  obtain ⟨rfl, rfl⟩ := e
  have m1 := (seqL_mem H.dom H.wf (V c hc)).1 (nth_mem (show i < (seqL l c).length by omega))
  have m2 := (seqL_mem H.dom H.wf (V c hc)).1 (nth_mem hi)
  rw [numI_nth (incL_mem.2 ⟨m1.1, m1.2.2⟩), numI_nth (incL_mem.2 ⟨m2.1, m2.2.2⟩)]
  refine f2 _ _ m1.1 m2.1 m1.2.2 m2.2.2 (m1.2.1.trans m2.2.1.symm) ?_
  rw [m1.2.1]
  exact seq_lt H (V c hc) hi (by omega)
 ·obtain ⟨h1, h2, h3⟩ := rtT_mem.1 he
  have m1 := incL_mem.1 (nth_mem h1)
  have m2 := incL_mem.1 (nth_mem h2)
  exact f1 _ _ m1.1 m2.1 m1.2 m2.2 h3
theorem linN_ok (H : H21 l) (V : ∀ c ∈ K, VO l c) (hK : ∀ i, i < l.length → (nth l i).key ∈ K) : LinE (reachB (linP l K)) (incL l).length (linN l K) := by
 obtain ⟨f, hf⟩ := linP_rank H V hK
 exact ext_linE (reach_ranked hf)
theorem linL_len (H : H21 l) (V : ∀ c ∈ K, VO l c) (hK : ∀ i, i < l.length → (nth l i).key ∈ K) : (linL l K).length = (incL l).length := by
 unfold linL; rw [List.length_map]; exact (linN_ok H V hK).len
noncomputable def tauL (l : List OpV) (K : List Int) (i : Nat) : Nat := posN (linN l K) (numI l i)
theorem tau_sp (H : H21 l) (V : ∀ c ∈ K, VO l c) (hK : ∀ i, i < l.length → (nth l i).key ∈ K) {a b : Nat} (ha : a < l.length) (hb : b < l.length) (ia : inclR l a = true) (ib : inclR l b = true) {c : Int} (ka : (nth l a).key = c) (kb : (nth l b).key = c) (h : spL l c a < spL l c b) : tauL l K a < tauL l K b := by
 have E := linN_ok H V hK
 have hc : c ∈ K := by rw [← ka]; exact hK a ha
 have V' := V c hc
 have ma := (seqL_mem H.dom H.wf V').2 ⟨ha, ka, ia⟩
 have mb := (seqL_mem H.dom H.wf V').2 ⟨hb, kb, ib⟩
 have reach : ∀ d p, p + d + 1 < (seqL l c).length → RchP (linP l K) (numI l (nth (seqL l c) p)) (numI l (nth (seqL l c) (p + d + 1))) := by
  intro d
  induction d with
  | zero => intro p hp; exact .one (List.mem_append_left _ (keyP_mem.2 ⟨c, hc, p, hp, rfl⟩))
  | succ d ih =>
   intro p hp
   refine .step (b := numI l (nth (seqL l c) (p + 1))) (List.mem_append_left _ (keyP_mem.2 ⟨c, hc, p, by omega, rfl⟩)) ?_
   have := ih (p + 1) (by omega)
   rw [show p + 1 + d + 1 = p + (d + 1) + 1 by omega] at this
   exact this
 have hpa := posN_lt ma
 have hpb := posN_lt mb
 have hlt : posN (seqL l c) a < posN (seqL l c) b := by
  refine Nat.lt_of_not_le fun hle => ?_
  rcases Nat.lt_or_eq_of_le hle with h2 | h2
  ·have := seq_lt H V' hpa h2
   rw [posN_nth ma, posN_nth mb] at this
   omega
  ·have := posN_inj mb ma h2
   subst this
   omega
 have h1 := reach (posN (seqL l c) b - posN (seqL l c) a - 1) (posN (seqL l c) a) (by omega)
 rw [show posN (seqL l c) a + (posN (seqL l c) b - posN (seqL l c) a - 1) + 1 = posN (seqL l c) b by omega, posN_nth ma, posN_nth mb] at h1
 exact E.lt (numI_lt (incL_mem.2 ⟨ha, ia⟩)) (numI_lt (incL_mem.2 ⟨hb, ib⟩)) (reachB_iff.2 h1)
theorem linL_tau (H : H21 l) (V : ∀ c ∈ K, VO l c) (hK : ∀ i, i < l.length → (nth l i).key ∈ K) : TauM l (tauL l K) where
 rt i k hi hk ii ik hb := by
  have E := linN_ok H V hK
  have mi := incL_mem.2 ⟨hi, ii⟩
  have mk := incL_mem.2 ⟨hk, ik⟩
  refine E.lt (numI_lt mi) (numI_lt mk) (reachB_iff.2 (.one (List.mem_append_right _ (rtT_mem.2 ⟨numI_lt mi, numI_lt mk, ?_⟩))))
  rw [numI_nth mi, numI_nth mk]; exact hb
 rd r hr h0 hd := by
  have V' := V _ (hK r hr)
  have ir := inclR_done hd
  rcases seqL_rd H.dom H.wf V' hr rfl h0 hd with ⟨e, h⟩ | ⟨w, hw, ha, hlt, ho⟩
  ·exact .inl ⟨e, fun w hw => Nat.le_of_lt (tau_sp H V hK hr hw.1 ir hw.2.2.2 rfl hw.2.1 (h w hw))⟩
  ·refine .inr ⟨w, hw, ha, Nat.le_of_lt (tau_sp H V hK hw.1 hr hw.2.2.2 ir hw.2.1 rfl hlt), fun w' hw' hne => ?_⟩
   rcases ho w' hw' hne with h | h
   ·exact .inl (tau_sp H V hK hw'.1 hw.1 hw'.2.2.2 hw.2.2.2 hw'.2.1 hw.2.1 h)
   ·exact .inr (tau_sp H V hK hr hw'.1 ir hw'.2.2.2 rfl hw'.2.1 h)
theorem tau_inj (H : H21 l) (V : ∀ c ∈ K, VO l c) (hK : ∀ i, i < l.length → (nth l i).key ∈ K) {i k : Nat} (hi : i < l.length) (hk : k < l.length) (ii : inclR l i = true) (ik : inclR l k = true) (e : tauL l K i = tauL l K k) : i = k := by
 have E := linN_ok H V hK
 have mi := incL_mem.2 ⟨hi, ii⟩
 have mk := incL_mem.2 ⟨hk, ik⟩
 have := posN_inj (E.mem (numI_lt mi)) (E.mem (numI_lt mk)) e
 exact posN_inj mi mk this
end
end Go.Proofs.Ytbeebjdnapkhhaa
