/-
  A linearization of a history without violations (linear.linearization), in plain Lean.
-/
import Derived.Test.YtbeebjdnapkhhaaZLinSeq
namespace Go.Proofs.Ytbeebjdnapkhhaa
set_option linter.unusedVariables false

def ziS (h : Nat → Nat) (L : List Nat) : Nat := L.foldr (fun x m => max (h x) m) 0
theorem zbU {h : Nat → Nat} {x : Nat} : ∀ {L : List Nat}, x ∈ L → h x ≤ ziS h L
 | y :: L, hx => by
  show h x ≤ max (h y) (ziS h L)
  rcases List.mem_cons.1 hx with rfl | hx
  ·omega
  ·have := zbU (h := h) hx; omega
theorem zdU {h : Nat → Nat} : ∀ (L : List Nat), ziS h L = 0 ∨ ∃ x ∈ L, h x = ziS h L
 | [] => .inl rfl
 | y :: L => by
  show max (h y) (ziS h L) = 0 ∨ ∃ x ∈ y :: L, h x = max (h y) (ziS h L)
  rcases Nat.le_total (ziS h L) (h y) with hle | hle
  ·exact .inr ⟨y, by simp, by omega⟩
  ·rcases zdU (h := h) L with e | ⟨x, hx, e⟩
   ·by_cases h0 : h y = 0
    ·left; omega
    ·exact .inr ⟨y, by simp, by omega⟩
   ·exact .inr ⟨x, by simp [hx], by omega⟩
theorem WT {α : Type} [BEq α] [LawfulBEq α] : ∀ {l m : List α}, l.Nodup → (∀ x ∈ l, x ∈ m) → l.length ≤ m.length
 | [], m, _, _ => Nat.zero_le _
 | x :: l, m, hn, hs => by
  have h1 := List.nodup_cons.1 hn
  have hx := hs x (by simp)
  have hl := List.length_erase_of_mem hx
  have hpos : 0 < m.length := List.length_pos_of_mem hx
  have := WT (m := m.erase x) h1.2 fun y hy => (List.mem_erase_of_ne (fun e : y = x => h1.1 (by rw [← e]; exact hy))).2 (hs y (by simp [hy]))
  rw [List.length_cons]
  omega
def Zw (l : List OpV) : List Nat := (List.range l.length).filter (yj l)
def zey (l : List OpV) (i : Nat) : Nat := XP (Zw l) i
def zfU (l : List OpV) (row : List Nat) (k : Nat) : Prs := (List.range k).map fun i => (zey l (nth row i), zey l (nth row (i + 1)))
def zkD (l : List OpV) (row : List Nat) : Prs := zfU l row (row.length - 1)
noncomputable def zem (l : List OpV) (K : List Int) : Prs := K.flatMap fun c => zkD l (YH l c)
def rtR (l : List OpV) (a k : Nat) : Prs := ((List.range k).filter fun b => bef l (nth (Zw l) a) (nth (Zw l) b)).map fun b => (a, b)
def rtT (l : List OpV) (a : Nat) : Prs := (List.range a).flatMap fun a => rtR l a (Zw l).length
noncomputable def zgN (l : List OpV) (K : List Int) : Prs := zem l K ++ rtT l (Zw l).length
noncomputable def zi9 (l : List OpV) (K : List Int) : List Nat := yI (xb (zgN l K)) (Zw l).length (Zw l).length
noncomputable def zfj (l : List OpV) (K : List Int) : List Nat := (zi9 l K).map fun a => nth (Zw l) a
theorem zhn (l : List OpV) (row : List Nat) (k : Nat) : zfU l row (k + 1) = zfU l row k ++ [(zey l (nth row k), zey l (nth row (k + 1)))] := by
 unfold zfU; rw [List.range_succ, List.map_append]; rfl
theorem zeF (l : List OpV) (row : List Nat) (k : Nat) : (zfU l row k).length = k := by simp [zfU]
theorem ziI (l : List OpV) (a k : Nat) : rtR l a (k + 1) = rtR l a k ++ if bef l (nth (Zw l) a) (nth (Zw l) k) = true then [(a, k)] else [] := by
 unfold rtR
 rw [List.range_succ, List.filter_append, List.map_append]
 congr 1
 by_cases h : bef l (nth (Zw l) a) (nth (Zw l) k) = true
 ·rw [if_pos h, List.filter_cons_of_pos (by exact h)]; rfl
 ·rw [if_neg h, List.filter_cons_of_neg (by exact h)]; rfl
theorem zeG (l : List OpV) (a : Nat) : rtT l (a + 1) = rtT l a ++ rtR l a (Zw l).length := by
 unfold rtT
 rw [List.range_succ, List.flatMap_append]
 simp
theorem zhr (l : List OpV) (a k : Nat) : (rtR l a k).length ≤ k := by
 unfold rtR
 rw [List.length_map]
 exact Nat.le_trans (List.length_filter_le _ _) (by simp)
theorem zhs (l : List OpV) : ∀ i, (rtT l i).length ≤ i * (Zw l).length
 | 0 => by simp [rtT]
 | i + 1 => by
  rw [zeG, List.length_append]
  have := zhs l i
  have := zhr l i (Zw l).length
  rw [Nat.succ_mul]; omega
theorem yJ {l : List OpV} {i : Nat} : i ∈ Zw l ↔ i < l.length ∧ yj l i = true := by unfold Zw; rw [List.mem_filter, List.mem_range]
theorem zjA (l : List OpV) : (Zw l).length ≤ l.length := by unfold Zw; exact Nat.le_trans (List.length_filter_le _ _) (by simp)
theorem Zh {l : List OpV} {i : Nat} (h : i ∈ Zw l) : zey l i < (Zw l).length := Yx h
theorem Wv {l : List OpV} {i : Nat} (h : i ∈ Zw l) : nth (Zw l) (zey l i) = i := xH h
section
variable {l : List OpV} {K : List Int}
theorem zdR {a b : Nat} : (a, b) ∈ rtT l (Zw l).length ↔ a < (Zw l).length ∧ b < (Zw l).length ∧ bef l (nth (Zw l) a) (nth (Zw l) b) = true := by
 unfold rtT
 rw [List.mem_flatMap]
 constructor
 ·rintro ⟨i', h1, h2⟩
  unfold rtR at h2
  obtain ⟨k', h3, h4⟩ := List.mem_map.1 h2
  obtain ⟨h5, h6⟩ := List.mem_filter.1 h3
  simp only [Prod.mk.injEq] at h4
  obtain ⟨rfl, rfl⟩ := h4
  exact ⟨List.mem_range.1 h1, List.mem_range.1 h5, h6⟩
 ·rintro ⟨h1, h2, h3⟩
  exact ⟨a, List.mem_range.2 h1, List.mem_map.2 ⟨b, List.mem_filter.2 ⟨List.mem_range.2 h2, h3⟩, rfl⟩⟩
theorem VD {x : Nat × Nat} : x ∈ zem l K ↔ ∃ c ∈ K, ∃ i, i + 1 < (YH l c).length ∧ x = (zey l (nth (YH l c) i), zey l (nth (YH l c) (i + 1))) := by
 unfold zem zkD zfU
 rw [List.mem_flatMap]
 constructor
 ·rintro ⟨c, hc, h⟩
  obtain ⟨i, hi, e⟩ := List.mem_map.1 h
  exact ⟨c, hc, i, by have := List.mem_range.1 hi; omega, e.symm⟩
 ·rintro ⟨c, hc, i, hi, e⟩
  exact ⟨c, hc, List.mem_map.2 ⟨i, List.mem_range.2 (by omega), e.symm⟩⟩
structure H21 (l : List OpV) : Prop where
 dom : yn l
 ord : ∀ i j, i < l.length → j < l.length → (nth l i).call < (nth l j).call → i < j
 wf : ∀ i, i < l.length → 0 ≤ (nth l i).call ∧ (nth l i).call < (nth l i).ret
theorem zeH (H : H21 l) {c : Int} (V : VO l c) : (YH l c).length ≤ l.length := by
 have hn : (YH l c).Nodup := (UY H.dom H.wf V).imp fun h e => by rw [e] at h; omega
 have := WT (m := List.range l.length) hn fun x hx => List.mem_range.2 ((xt H.dom H.wf V).1 hx).1
 simpa using this
theorem zen (H : H21 l) (V : ∀ c ∈ K, VO l c) : ∀ i, i ≤ K.length → (zem l (K.take i)).length ≤ i * l.length
 | 0, _ => by simp [zem]
 | i + 1, hi => by
  have h1 := zen H V i (by omega)
  have h2 := zeH H (V _ (zK (l := K) (i := i) (by omega)))
  rw [Zk (by omega)]
  unfold zem at h1 ⊢
  rw [List.flatMap_append, List.length_append, List.flatMap_singleton, Nat.succ_mul]
  have h3 : (zkD l (YH l (nth K i))).length = (YH l (nth K i)).length - 1 := by unfold zkD; rw [zeF]
  omega
theorem zgJ {i : Nat} (hi : i < K.length) : zem l (K.take (i + 1)) = zem l (K.take i) ++ zkD l (YH l (nth K i)) := by
 rw [Zk hi]
 unfold zem
 rw [List.flatMap_append, List.flatMap_singleton]
theorem zjf (H : H21 l) {c : Int} (V : VO l c) {p q : Nat} (hq : q < (YH l c).length) (hpq : p < q) : spL l c (nth (YH l c) p) < spL l c (nth (YH l c) q) := by
 have := List.pairwise_iff_getElem.1 (UY H.dom H.wf V) p q (by omega) hq hpq
 rw [zn hq, zn (by omega)]
 exact this
theorem zin (H : H21 l) (V : ∀ c ∈ K, VO l c) (hK : ∀ i, i < l.length → (nth l i).key ∈ K) : ∃ f : Nat → Nat, (∀ i k, i < l.length → k < l.length → yj l i = true → yj l k = true → bef l i k = true → f i < f k) ∧
  ∀ i k, i < l.length → k < l.length → yj l i = true → yj l k = true → (nth l i).key = (nth l k).key → spL l (nth l i).key i < spL l (nth l i).key k → f i < f k := by
 obtain ⟨FK, hFK⟩ : ∃ FK : Nat → Nat, FK = fun a => spL l (nth l a).key a := ⟨_, rfl⟩
 have hkk : ∀ a b, a < l.length → b < l.length → yj l a = true → yj l b = true → (nth l a).key = (nth l b).key → bef l a b = true → FK a < FK b := fun a b ha hb ia ib e hbf => by
  rw [hFK]; dsimp only
  rw [← e]
  have V' := V _ (hK a ha)
  exact zjN H.dom H.ord H.wf V' ((xt H.dom H.wf V').2 ⟨ha, rfl, ia⟩) ((xt H.dom H.wf V').2 ⟨hb, e.symm, ib⟩) hbf
 obtain ⟨B, hB⟩ : ∃ B, B = ziS FK (List.range l.length) + 1 := ⟨_, rfl⟩
 have hlt : ∀ a, a < l.length → FK a < B := fun a ha => by
  have := zbU (h := FK) (List.mem_range.2 ha)
  omega
 obtain ⟨S, hS⟩ : ∃ S : Nat → List Nat, S = fun a => (List.range l.length).filter fun b => yj l b && decide ((nth l b).key = (nth l a).key) && decide (FK b ≤ FK a) := ⟨_, rfl⟩
 have hSm : ∀ a b, b ∈ S a ↔ b < l.length ∧ yj l b = true ∧ (nth l b).key = (nth l a).key ∧ FK b ≤ FK a := fun a b => by
  rw [hS]; dsimp only
  rw [List.mem_filter, List.mem_range]
  simp only [Bool.and_eq_true, decide_eq_true_eq, and_assoc]
 obtain ⟨g, hg⟩ : ∃ g : Nat → Nat, g = fun a => ziS (fun b => (nth l b).call.toNat) (S a) := ⟨_, rfl⟩
 have same : ∀ a b, a < l.length → b < l.length → (nth l a).key = (nth l b).key → FK a < FK b → g a * B + FK a < g b * B + FK b := fun a b ha hb hk h1 => by
  have h2 : g a ≤ g b := by
   rw [hg]; dsimp only
   rcases zdU (h := fun b => (nth l b).call.toNat) (S a) with e | ⟨x, hx, e⟩
   ·omega
   ·rw [← e]
    obtain ⟨x1, x2, x3, x4⟩ := (hSm a x).1 hx
    exact zbU (h := fun b => (nth l b).call.toNat) ((hSm b x).2 ⟨x1, x2, x3.trans hk, by omega⟩)
  have := Nat.mul_le_mul_right B h2
  omega
 refine ⟨fun a => g a * B + FK a, fun a b ha hb ia ib hbf => ?_, fun a b ha hb ia ib hk hs => ?_⟩
 ·dsimp only
  by_cases hk : (nth l a).key = (nth l b).key
  ·exact same a b ha hb hk (hkk a b ha hb ia ib hk hbf)
  ·have hbf' := hbf
   unfold bef at hbf
   simp only [Bool.and_eq_true, decide_eq_true_eq] at hbf
   have hwa := H.wf a ha
   have hwb := H.wf b hb
   have h1 : g a ≤ (nth l a).ret.toNat := by
    rw [hg]; dsimp only
    rcases zdU (h := fun b => (nth l b).call.toNat) (S a) with e | ⟨x, hx, e⟩
    ·omega
    ·rw [← e]
     obtain ⟨x1, x2, x3, x4⟩ := (hSm a x).1 hx
     have hwx := H.wf x x1
     by_cases hlt2 : (nth l a).ret < (nth l x).call
     ·exfalso
      have := hkk a x ha x1 ia x2 x3.symm (by unfold bef; simp [hbf.1, hlt2])
      omega
     ·omega
   have h2 : (nth l b).call.toNat ≤ g b := by
    rw [hg]; dsimp only
    exact zbU (h := fun b => (nth l b).call.toNat) ((hSm b b).2 ⟨hb, ib, rfl, Nat.le_refl _⟩)
   have h3 : g a + 1 ≤ g b := by omega
   have h4 := Nat.mul_le_mul_right B h3
   rw [Nat.succ_mul] at h4
   have := hlt a ha
   omega
 ·dsimp only
  refine same a b ha hb hk ?_
  rw [hFK]; dsimp only
  rw [← hk]; exact hs
theorem zjD (H : H21 l) (V : ∀ c ∈ K, VO l c) : ∀ e ∈ zgN l K, e.1 < (Zw l).length ∧ e.2 < (Zw l).length := by
 rintro ⟨a, b⟩ he
 rcases List.mem_append.1 he with he | he
 ·obtain ⟨c, hc, i, hi, e⟩ := VD.1 he
  simp only [Prod.mk.injEq] at e
  obtain ⟨rfl, rfl⟩ := e
  have m1 := (xt H.dom H.wf (V c hc)).1 (zK (show i < (YH l c).length by omega))
  have m2 := (xt H.dom H.wf (V c hc)).1 (zK hi)
  exact ⟨Zh (yJ.2 ⟨m1.1, m1.2.2⟩), Zh (yJ.2 ⟨m2.1, m2.2.2⟩)⟩
 ·obtain ⟨h1, h2, _⟩ := zdR.1 he
  exact ⟨h1, h2⟩
theorem zcB (H : H21 l) (V : ∀ c ∈ K, VO l c) (hK : ∀ i, i < l.length → (nth l i).key ∈ K) : ∃ f : Nat → Nat, ∀ e ∈ zgN l K, f e.1 < f e.2 := by
 obtain ⟨f, f1, f2⟩ := zin H V hK
 refine ⟨fun a => f (nth (Zw l) a), ?_⟩
 rintro ⟨a, b⟩ he
 dsimp only
 rcases List.mem_append.1 he with he | he
 ·obtain ⟨c, hc, i, hi, e⟩ := VD.1 he
  simp only [Prod.mk.injEq] at e
  obtain ⟨rfl, rfl⟩ := e
  have m1 := (xt H.dom H.wf (V c hc)).1 (zK (show i < (YH l c).length by omega))
  have m2 := (xt H.dom H.wf (V c hc)).1 (zK hi)
  rw [Wv (yJ.2 ⟨m1.1, m1.2.2⟩), Wv (yJ.2 ⟨m2.1, m2.2.2⟩)]
  refine f2 _ _ m1.1 m2.1 m1.2.2 m2.2.2 (m1.2.1.trans m2.2.1.symm) ?_
  rw [m1.2.1]
  exact zjf H (V c hc) hi (by omega)
 ·obtain ⟨h1, h2, h3⟩ := zdR.1 he
  have m1 := yJ.1 (zK h1)
  have m2 := yJ.1 (zK h2)
  exact f1 _ _ m1.1 m2.1 m1.2 m2.2 h3
theorem WP (H : H21 l) (V : ∀ c ∈ K, VO l c) (hK : ∀ i, i < l.length → (nth l i).key ∈ K) : zjj (xb (zgN l K)) (Zw l).length (zi9 l K) := by
 obtain ⟨f, hf⟩ := zcB H V hK
 exact zeb (ZL hf)
theorem zeq (H : H21 l) (V : ∀ c ∈ K, VO l c) (hK : ∀ i, i < l.length → (nth l i).key ∈ K) : (zfj l K).length = (Zw l).length := by
 unfold zfj; rw [List.length_map]; exact (WP H V hK).len
noncomputable def zdc (l : List OpV) (K : List Int) (i : Nat) : Nat := XP (zi9 l K) (zey l i)
theorem zeJ (H : H21 l) (V : ∀ c ∈ K, VO l c) (hK : ∀ i, i < l.length → (nth l i).key ∈ K) {a b : Nat} (ha : a < l.length) (hb : b < l.length) (ia : yj l a = true) (ib : yj l b = true) {c : Int} (ka : (nth l a).key = c) (kb : (nth l b).key = c) (h : spL l c a < spL l c b) : zdc l K a < zdc l K b := by
 have E := WP H V hK
 have hc : c ∈ K := by rw [← ka]; exact hK a ha
 have V' := V c hc
 have ma := (xt H.dom H.wf V').2 ⟨ha, ka, ia⟩
 have mb := (xt H.dom H.wf V').2 ⟨hb, kb, ib⟩
 have reach : ∀ d p, p + d + 1 < (YH l c).length → zhQ (zgN l K) (zey l (nth (YH l c) p)) (zey l (nth (YH l c) (p + d + 1))) := by
  intro d
  induction d with
  | zero => intro p hp; exact .one (List.mem_append_left _ (VD.2 ⟨c, hc, p, hp, rfl⟩))
  | succ d ih =>
   intro p hp
   refine .step (b := zey l (nth (YH l c) (p + 1))) (List.mem_append_left _ (VD.2 ⟨c, hc, p, by omega, rfl⟩)) ?_
   have := ih (p + 1) (by omega)
   rw [show p + 1 + d + 1 = p + (d + 1) + 1 by omega] at this
   exact this
 have hpa := Yx ma
 have hpb := Yx mb
 have hlt : XP (YH l c) a < XP (YH l c) b := by
  refine Nat.lt_of_not_le fun hle => ?_
  rcases Nat.lt_or_eq_of_le hle with h2 | h2
  ·have := zjf H V' hpa h2
   rw [xH ma, xH mb] at this
   omega
  ·have := VE mb ma h2
   subst this
   omega
 have h1 := reach (XP (YH l c) b - XP (YH l c) a - 1) (XP (YH l c) a) (by omega)
 rw [show XP (YH l c) a + (XP (YH l c) b - XP (YH l c) a - 1) + 1 = XP (YH l c) b by omega, xH ma, xH mb] at h1
 exact E.lt (Zh (yJ.2 ⟨ha, ia⟩)) (Zh (yJ.2 ⟨hb, ib⟩)) (xP.2 h1)
theorem zim (H : H21 l) (V : ∀ c ∈ K, VO l c) (hK : ∀ i, i < l.length → (nth l i).key ∈ K) : zkN l (zdc l K) where
 rt i k hi hk ii ik hb := by
  have E := WP H V hK
  have mi := yJ.2 ⟨hi, ii⟩
  have mk := yJ.2 ⟨hk, ik⟩
  refine E.lt (Zh mi) (Zh mk) (xP.2 (.one (List.mem_append_right _ (zdR.2 ⟨Zh mi, Zh mk, ?_⟩))))
  rw [Wv mi, Wv mk]; exact hb
 rd r hr h0 hd := by
  have V' := V _ (hK r hr)
  have ir := Xk hd
  rcases zjM H.dom H.wf V' hr rfl h0 hd with ⟨e, h⟩ | ⟨w, hw, ha, hlt, ho⟩
  ·exact .inl ⟨e, fun w hw => Nat.le_of_lt (zeJ H V hK hr hw.1 ir hw.2.2.2 rfl hw.2.1 (h w hw))⟩
  ·refine .inr ⟨w, hw, ha, Nat.le_of_lt (zeJ H V hK hw.1 hr hw.2.2.2 ir hw.2.1 rfl hlt), fun w' hw' hne => ?_⟩
   rcases ho w' hw' hne with h | h
   ·exact .inl (zeJ H V hK hw'.1 hw.1 hw'.2.2.2 hw.2.2.2 hw'.2.1 hw.2.1 h)
   ·exact .inr (zeJ H V hK hr hw'.1 ir hw'.2.2.2 rfl hw'.2.1 h)
theorem zjO (H : H21 l) (V : ∀ c ∈ K, VO l c) (hK : ∀ i, i < l.length → (nth l i).key ∈ K) {i k : Nat} (hi : i < l.length) (hk : k < l.length) (ii : yj l i = true) (ik : yj l k = true) (e : zdc l K i = zdc l K k) : i = k := by
 have E := WP H V hK
 have mi := yJ.2 ⟨hi, ii⟩
 have mk := yJ.2 ⟨hk, ik⟩
 have := VE (E.mem (Zh mi)) (E.mem (Zh mk)) e
 exact VE mi mk this
end
end Go.Proofs.Ytbeebjdnapkhhaa
