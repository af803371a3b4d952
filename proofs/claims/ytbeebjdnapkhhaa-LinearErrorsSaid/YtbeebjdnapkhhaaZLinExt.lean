/-
  The least linear extension of an order on the numbers below n, in plain Lean.
-/
import Derived.Test.YtbeebjdnapkhhaaZSetPlain
namespace Go.Proofs.Ytbeebjdnapkhhaa
set_option linter.unusedVariables false

theorem nth_snoc {α : Type} [Inhabited α] (a : List α) (x : α) : nth (a ++ [x]) a.length = x := by
 rw [nth_eq (by simp)]; simp
section
variable (R : Nat → Nat → Bool) (n : Nat)
def cntW (out : List Nat) (b : Nat) : Nat := (List.range n).countP fun a => R a b && !decide (a ∈ out)
def blkW (out : List Nat) (a : Nat) : Bool := decide (a ∈ out) || decide (0 < cntW R n out a)
def pickW (out : List Nat) : Nat := ((List.range n).find? fun a => !blkW R n out a).getD 0
def extTo : Nat → List Nat
 | 0 => []
 | k + 1 => extTo k ++ [pickW R n (extTo k)]
def Ranked : Prop := ∃ f : Nat → Nat, ∀ a b, a < n → b < n → R a b = true → f a < f b
end
section
variable {R : Nat → Nat → Bool} {n : Nat}
theorem countP_split {a : Nat} {p : Nat → Bool} : ∀ {l : List Nat}, l.Nodup → a ∈ l → l.countP p = l.countP (fun x => p x && !decide (x = a)) + if p a = true then 1 else 0
 | x :: l, hn, ha => by
  obtain ⟨h1, h2⟩ := List.nodup_cons.1 hn
  rw [List.countP_cons, List.countP_cons]
  by_cases e : x = a
  ·subst e
   have : l.countP p = l.countP fun y => p y && !decide (y = x) := List.countP_congr fun y hy => by
    have : y ≠ x := fun e => h1 (e ▸ hy)
    simp [this]
   rw [← this]
   simp
  ·have hm : a ∈ l := by
    rcases List.mem_cons.1 ha with e2 | h
    ·exact absurd e2.symm e
    ·exact h
   rw [countP_split h2 hm]
   simp only [decide_eq_false e, Bool.not_false, Bool.and_true]
   omega
theorem cntW_add {out : List Nat} {a b : Nat} (ha : a < n) (hno : a ∉ out) : cntW R n out b = cntW R n (out ++ [a]) b + if R a b = true then 1 else 0 := by
 unfold cntW
 rw [countP_split (a := a) List.nodup_range (List.mem_range.2 ha)]
 congr 1
 ·refine List.countP_congr fun x _ => ?_
  simp only [List.mem_append, List.mem_singleton, Bool.and_eq_true, Bool.not_eq_true', decide_eq_false_iff_not, not_or]
  exact ⟨fun h => ⟨h.1.1, h.1.2, h.2⟩, fun h => ⟨⟨h.1, h.2.1⟩, h.2.2⟩⟩
 ·simp [hno]
theorem cntW_le (out : List Nat) (b : Nat) : cntW R n out b ≤ n := by
 unfold cntW
 exact Nat.le_trans (List.countP_le_length) (by simp)
theorem min_rank {f : Nat → Nat} {p : Nat → Bool} {n : Nat} (h : ∃ a, a < n ∧ p a = true) : ∃ a, a < n ∧ p a = true ∧ ∀ b, b < n → p b = true → f a ≤ f b := by
 obtain ⟨a, ha, hp⟩ := h
 have key : ∀ (k : Nat) (a : Nat), f a ≤ k → a < n → p a = true → ∃ a, a < n ∧ p a = true ∧ ∀ b, b < n → p b = true → f a ≤ f b := by
  intro k
  induction k with
  | zero => intro a h0 ha hp; exact ⟨a, ha, hp, fun b _ _ => by omega⟩
  | succ k ih =>
   intro a h0 ha hp
   by_cases h : ∃ b, b < n ∧ p b = true ∧ f b < f a
   ·obtain ⟨b, hb, hpb, hlt⟩ := h
    exact ih b (by omega) hb hpb
   ·refine ⟨a, ha, hp, fun b hb hpb => ?_⟩
    rcases Nat.lt_or_ge (f b) (f a) with h2 | h2
    ·exact absurd ⟨b, hb, hpb, h2⟩ h
    ·exact h2
 exact key (f a) a (Nat.le_refl _) ha hp
theorem some_left {out : List Nat} (hlen : out.length < n) : ∃ a, a < n ∧ a ∉ out := by
 refine Classical.byContradiction fun hno => ?_
 have hall : ∀ a, a < n → a ∈ out := fun a ha => Classical.byContradiction fun h => hno ⟨a, ha, h⟩
 have key : ∀ (l m : List Nat), l.Nodup → (∀ x ∈ l, x ∈ m) → l.length ≤ m.length := by
  intro l
  induction l with
  | nil => intro m _ _; exact Nat.zero_le _
  | cons x l ih =>
   intro m hn hs
   obtain ⟨h1, h2⟩ := List.nodup_cons.1 hn
   have hx := hs x (by simp)
   have hl := List.length_erase_of_mem hx
   have hpos : 0 < m.length := List.length_pos_of_mem hx
   have := ih (m.erase x) h2 fun y hy => (List.mem_erase_of_ne (fun e : y = x => h1 (by rw [← e]; exact hy))).2 (hs y (by simp [hy]))
   rw [List.length_cons]
   omega
 have := key (List.range n) out List.nodup_range fun x hx => hall x (List.mem_range.1 hx)
 rw [List.length_range] at this
 omega
theorem pick_ok (hr : Ranked R n) {out : List Nat} (hlen : out.length < n) : pickW R n out < n ∧ blkW R n out (pickW R n out) = false ∧ ∀ a, a < pickW R n out → blkW R n out a = true := by
 obtain ⟨f, hf⟩ := hr
 obtain ⟨a0, h0, h1⟩ := some_left hlen
 obtain ⟨a, ha, hp, hmin⟩ := min_rank (f := f) (p := fun a => !decide (a ∈ out)) ⟨a0, h0, by simpa using h1⟩
 have hb : blkW R n out a = false := by
  unfold blkW
  have hp' : a ∉ out := by simpa using hp
  rw [decide_eq_false hp', Bool.false_or]
  refine decide_eq_false fun hc => ?_
  unfold cntW at hc
  obtain ⟨x, hx, hxp⟩ := List.countP_pos_iff.1 hc
  simp only [Bool.and_eq_true] at hxp
  have hxn := List.mem_range.1 hx
  have h2 := hf x a hxn ha hxp.1
  have h3 := hmin x hxn hxp.2
  omega
 unfold pickW
 cases hfd : (List.range n).find? fun a => !blkW R n out a with
 | none =>
  have := List.find?_eq_none.1 hfd a (List.mem_range.2 ha)
  rw [hb] at this
  simp at this
 | some z =>
  rw [List.find?_range_eq_some] at hfd
  obtain ⟨z1, z2, z3⟩ := hfd
  refine ⟨List.mem_range.1 z2, by simpa using z1, fun a ha => ?_⟩
  simpa using z3 a ha
theorem extTo_len : ∀ k, (extTo R n k).length = k
 | 0 => rfl
 | k + 1 => by show (extTo R n k ++ [_]).length = _; rw [List.length_append, extTo_len k]; rfl
theorem extTo_take {k m : Nat} (h : k ≤ m) : (extTo R n m).take k = extTo R n k := by
 induction m with
 | zero => obtain rfl : k = 0 := by omega
           rfl
 | succ m ih =>
  show (extTo R n m ++ [_]).take k = _
  by_cases e : k = m + 1
  ·subst e
   rw [List.take_of_length_le (by rw [List.length_append, extTo_len]; exact Nat.le_refl _)]
   rfl
  ·rw [List.take_append_of_le_length (by rw [extTo_len]; omega), ih (by omega)]
theorem extTo_ok (hr : Ranked R n) : ∀ {k}, k ≤ n → (extTo R n k).Nodup ∧ ∀ x ∈ extTo R n k, x < n
 | 0, _ => ⟨List.nodup_nil, by intro x hx; cases hx⟩
 | k + 1, hk => by
  obtain ⟨h1, h2⟩ := extTo_ok hr (show k ≤ n by omega)
  obtain ⟨p1, p2, _⟩ := pick_ok hr (out := extTo R n k) (by rw [extTo_len]; omega)
  have hno : pickW R n (extTo R n k) ∉ extTo R n k := fun h => by
   unfold blkW at p2
   rw [decide_eq_true h] at p2
   cases p2
  refine ⟨List.nodup_append.2 ⟨h1, by simp, fun a ha b hb e => ?_⟩, fun x hx => ?_⟩
  ·rw [List.mem_singleton.1 hb] at e
   exact hno (e ▸ ha)
  ·rcases List.mem_append.1 hx with hx | hx
   ·exact h2 x hx
   ·rw [List.mem_singleton.1 hx]; exact p1
structure LinE (R : Nat → Nat → Bool) (n : Nat) (L : List Nat) : Prop where
 len : L.length = n
 nd : L.Nodup
 rng : ∀ x ∈ L, x < n
 ord : ∀ i j, i < n → j < n → R (nth L i) (nth L j) = true → i < j
theorem ext_linE (hr : Ranked R n) : LinE R n (extTo R n n) where
 len := extTo_len n
 nd := (extTo_ok hr (Nat.le_refl n)).1
 rng := (extTo_ok hr (Nat.le_refl n)).2
 ord i j hi hj h := by
  have hL := extTo_len (R := R) (n := n) n
  have hnd := (extTo_ok hr (Nat.le_refl n)).1
  have hrg := (extTo_ok hr (Nat.le_refl n)).2
  refine Classical.byContradiction fun hij => ?_
  have hxi : nth (extTo R n n) i < n := hrg _ (nth_mem (by omega))
  have hj1 : nth (extTo R n n) j = pickW R n (extTo R n j) := by
   have e1 := extTo_take (R := R) (n := n) (show j + 1 ≤ n by omega)
   have : nth (extTo R n (j + 1)) j = pickW R n (extTo R n j) := by
    have h2 := nth_snoc (extTo R n j) (pickW R n (extTo R n j))
    rw [extTo_len] at h2
    exact h2
   rw [← this, ← e1, nth_eq (by omega), nth_eq (by rw [List.length_take]; omega), List.getElem_take]
  obtain ⟨p1, p2, _⟩ := pick_ok hr (out := extTo R n j) (by rw [extTo_len]; exact hj)
  rw [← hj1] at p2
  unfold blkW at p2
  rw [Bool.or_eq_false_iff] at p2
  have hc : cntW R n (extTo R n j) (nth (extTo R n n) j) = 0 := by
   have := of_decide_eq_false p2.2
   omega
  have hm : nth (extTo R n n) i ∈ extTo R n j := by
   refine Classical.byContradiction fun hno => ?_
   unfold cntW at hc
   rw [List.countP_eq_zero] at hc
   have := hc _ (List.mem_range.2 hxi)
   rw [h, decide_eq_false hno] at this
   simp at this
  rw [← extTo_take (R := R) (n := n) (show j ≤ n by omega)] at hm
  obtain ⟨k, hk, e⟩ := List.mem_take_iff_getElem.1 hm
  rw [nth_eq (show i < (extTo R n n).length by omega)] at e
  have := (List.getElem_inj hnd).1 e
  omega
end
end Go.Proofs.Ytbeebjdnapkhhaa
