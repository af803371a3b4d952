/-
  The least linear extension of an order on the numbers below n, in plain Lean.
-/
import Derived.Test.YtbeebjdnapkhhaaZSetPlain
namespace Go.Proofs.Ytbeebjdnapkhhaa
set_option linter.unusedVariables false

theorem zex {α : Type} [Inhabited α] (a : List α) (x : α) : nth (a ++ [x]) a.length = x := by
 rw [zn (by simp)]; simp
section
variable (R : Nat → Nat → Bool) (n : Nat)
def zaL (out : List Nat) (b : Nat) : Nat := (List.range n).countP fun a => R a b && !decide (a ∈ out)
def zf3 (out : List Nat) (a : Nat) : Bool := decide (a ∈ out) || decide (0 < zaL R n out a)
def UN (out : List Nat) : Nat := ((List.range n).find? fun a => !zf3 R n out a).getD 0
def yI : Nat → List Nat
 | 0 => []
 | k + 1 => yI k ++ [UN R n (yI k)]
def zb0 : Prop := ∃ f : Nat → Nat, ∀ a b, a < n → b < n → R a b = true → f a < f b
end
section
variable {R : Nat → Nat → Bool} {n : Nat}
theorem Vf {a : Nat} {p : Nat → Bool} : ∀ {l : List Nat}, l.Nodup → a ∈ l → l.countP p = l.countP (fun x => p x && !decide (x = a)) + if p a = true then 1 else 0
 | x :: l, hn, ha => by
  obtain ⟨h1, h2⟩ := List.nodup_cons.1 hn
  rw [List.countP_cons, List.countP_cons]
  by_cases e : x = a
  ·subst e
   have : l.countP p = l.countP fun y => p y && !decide (y = x) := List.countP_congr fun y hy => by
    have : y ≠ x := fun e => h1 (e ▸ hy)
    simp [this]
   rw [← this]
   simp
  ·have hm : a ∈ l := by
    rcases List.mem_cons.1 ha with e2 | h
    ·exact absurd e2.symm e
    ·exact h
   rw [Vf h2 hm]
   simp only [decide_eq_false e, Bool.not_false, Bool.and_true]
   omega
theorem zd8 {out : List Nat} {a b : Nat} (ha : a < n) (hno : a ∉ out) : zaL R n out b = zaL R n (out ++ [a]) b + if R a b = true then 1 else 0 := by
 unfold zaL
 rw [Vf (a := a) List.nodup_range (List.mem_range.2 ha)]
 congr 1
 ·refine List.countP_congr fun x _ => ?_
  simp only [List.mem_append, List.mem_singleton, Bool.and_eq_true, Bool.not_eq_true', decide_eq_false_iff_not, not_or]
  exact ⟨fun h => ⟨h.1.1, h.1.2, h.2⟩, fun h => ⟨⟨h.1, h.2.1⟩, h.2.2⟩⟩
 ·simp [hno]
theorem zga (out : List Nat) (b : Nat) : zaL R n out b ≤ n := by
 unfold zaL
 exact Nat.le_trans (List.countP_le_length) (by simp)
theorem zev {f : Nat → Nat} {p : Nat → Bool} {n : Nat} (h : ∃ a, a < n ∧ p a = true) : ∃ a, a < n ∧ p a = true ∧ ∀ b, b < n → p b = true → f a ≤ f b := by
 obtain ⟨a, ha, hp⟩ := h
 have key : ∀ (k : Nat) (a : Nat), f a ≤ k → a < n → p a = true → ∃ a, a < n ∧ p a = true ∧ ∀ b, b < n → p b = true → f a ≤ f b := by
  intro k
  induction k with
  | zero => intro a h0 ha hp; exact ⟨a, ha, hp, fun b _ _ => by omega⟩
  | succ k ih =>
   intro a h0 ha hp
   by_cases h : ∃ b, b < n ∧ p b = true ∧ f b < f a
   ·obtain ⟨b, hb, hpb, hlt⟩ := h
    exact ih b (by omega) hb hpb
   ·refine ⟨a, ha, hp, fun b hb hpb => ?_⟩
    rcases Nat.lt_or_ge (f b) (f a) with h2 | h2
    ·exact absurd ⟨b, hb, hpb, h2⟩ h
    ·exact h2
 exact key (f a) a (Nat.le_refl _) ha hp
theorem zc2 {out : List Nat} (hlen : out.length < n) : ∃ a, a < n ∧ a ∉ out := by
 refine Classical.byContradiction fun hno => ?_
 have hall : ∀ a, a < n → a ∈ out := fun a ha => Classical.byContradiction fun h => hno ⟨a, ha, h⟩
 have key : ∀ (l m : List Nat), l.Nodup → (∀ x ∈ l, x ∈ m) → l.length ≤ m.length := by
  intro l
  induction l with
  | nil => intro m _ _; exact Nat.zero_le _
  | cons x l ih =>
   intro m hn hs
   obtain ⟨h1, h2⟩ := List.nodup_cons.1 hn
   have hx := hs x (by simp)
   have hl := List.length_erase_of_mem hx
   have hpos : 0 < m.length := List.length_pos_of_mem hx
   have := ih (m.erase x) h2 fun y hy => (List.mem_erase_of_ne (fun e : y = x => h1 (by rw [← e]; exact hy))).2 (hs y (by simp [hy]))
   rw [List.length_cons]
   omega
 have := key (List.range n) out List.nodup_range fun x hx => hall x (List.mem_range.1 hx)
 rw [List.length_range] at this
 omega
theorem zdJ (hr : zb0 R n) {out : List Nat} (hlen : out.length < n) : UN R n out < n ∧ zf3 R n out (UN R n out) = false ∧ ∀ a, a < UN R n out → zf3 R n out a = true := by
 obtain ⟨f, hf⟩ := hr
 obtain ⟨a0, h0, h1⟩ := zc2 hlen
 obtain ⟨a, ha, hp, hmin⟩ := zev (f := f) (p := fun a => !decide (a ∈ out)) ⟨a0, h0, by simpa using h1⟩
 have hb : zf3 R n out a = false := by
  unfold zf3
  have hp' : a ∉ out := by simpa using hp
  rw [decide_eq_false hp', Bool.false_or]
  refine decide_eq_false fun hc => ?_
  unfold zaL at hc
  obtain ⟨x, hx, hxp⟩ := List.countP_pos_iff.1 hc
  simp only [Bool.and_eq_true] at hxp
  have hxn := List.mem_range.1 hx
  have h2 := hf x a hxn ha hxp.1
  have h3 := hmin x hxn hxp.2
  omega
 unfold UN
 cases hfd : (List.range n).find? fun a => !zf3 R n out a with
 | none =>
  have := List.find?_eq_none.1 hfd a (List.mem_range.2 ha)
  rw [hb] at this
  simp at this
 | some z =>
  rw [List.find?_range_eq_some] at hfd
  obtain ⟨z1, z2, z3⟩ := hfd
  refine ⟨List.mem_range.1 z2, by simpa using z1, fun a ha => ?_⟩
  simpa using z3 a ha
theorem xh : ∀ k, (yI R n k).length = k
 | 0 => rfl
 | k + 1 => by show (yI R n k ++ [_]).length = _; rw [List.length_append, xh k]; rfl
theorem zaQ {k m : Nat} (h : k ≤ m) : (yI R n m).take k = yI R n k := by
 induction m with
 | zero => obtain rfl : k = 0 := by omega
           rfl
 | succ m ih =>
  show (yI R n m ++ [_]).take k = _
  by_cases e : k = m + 1
  ·subst e
   rw [List.take_of_length_le (by rw [List.length_append, xh]; exact Nat.le_refl _)]
   rfl
  ·rw [List.take_append_of_le_length (by rw [xh]; omega), ih (by omega)]
theorem Wd (hr : zb0 R n) : ∀ {k}, k ≤ n → (yI R n k).Nodup ∧ ∀ x ∈ yI R n k, x < n
 | 0, _ => ⟨List.nodup_nil, by intro x hx; cases hx⟩
 | k + 1, hk => by
  obtain ⟨h1, h2⟩ := Wd hr (show k ≤ n by omega)
  obtain ⟨p1, p2, _⟩ := zdJ hr (out := yI R n k) (by rw [xh]; omega)
  have hno : UN R n (yI R n k) ∉ yI R n k := fun h => by
   unfold zf3 at p2
   rw [decide_eq_true h] at p2
   cases p2
  refine ⟨List.nodup_append.2 ⟨h1, by simp, fun a ha b hb e => ?_⟩, fun x hx => ?_⟩
  ·rw [List.mem_singleton.1 hb] at e
   exact hno (e ▸ ha)
  ·rcases List.mem_append.1 hx with hx | hx
   ·exact h2 x hx
   ·rw [List.mem_singleton.1 hx]; exact p1
structure zjj (R : Nat → Nat → Bool) (n : Nat) (L : List Nat) : Prop where
 len : L.length = n
 nd : L.Nodup
 rng : ∀ x ∈ L, x < n
 ord : ∀ i j, i < n → j < n → R (nth L i) (nth L j) = true → i < j
theorem zeb (hr : zb0 R n) : zjj R n (yI R n n) where
 len := xh n
 nd := (Wd hr (Nat.le_refl n)).1
 rng := (Wd hr (Nat.le_refl n)).2
 ord i j hi hj h := by
  have hL := xh (R := R) (n := n) n
  have hnd := (Wd hr (Nat.le_refl n)).1
  have hrg := (Wd hr (Nat.le_refl n)).2
  refine Classical.byContradiction fun hij => ?_
  have hxi : nth (yI R n n) i < n := hrg _ (zK (by omega))
  have hj1 : nth (yI R n n) j = UN R n (yI R n j) := by
   have e1 := zaQ (R := R) (n := n) (show j + 1 ≤ n by omega)
   have : nth (yI R n (j + 1)) j = UN R n (yI R n j) := by
    have h2 := zex (yI R n j) (UN R n (yI R n j))
    rw [xh] at h2
    exact h2
   rw [← this, ← e1, zn (by omega), zn (by rw [List.length_take]; omega), List.getElem_take]
  obtain ⟨p1, p2, _⟩ := zdJ hr (out := yI R n j) (by rw [xh]; exact hj)
  rw [← hj1] at p2
  unfold zf3 at p2
  rw [Bool.or_eq_false_iff] at p2
  have hc : zaL R n (yI R n j) (nth (yI R n n) j) = 0 := by
   have := of_decide_eq_false p2.2
   omega
  have hm : nth (yI R n n) i ∈ yI R n j := by
   refine Classical.byContradiction fun hno => ?_
   unfold zaL at hc
   rw [List.countP_eq_zero] at hc
   have := hc _ (List.mem_range.2 hxi)
   rw [h, decide_eq_false hno] at this
   simp at this
  rw [← zaQ (R := R) (n := n) (show j ≤ n by omega)] at hm
  obtain ⟨k, hk, e⟩ := List.mem_take_iff_getElem.1 hm
  rw [zn (show i < (yI R n n).length by omega)] at e
  have := (List.getElem_inj hnd).1 e
  omega
end
end Go.Proofs.Ytbeebjdnapkhhaa
