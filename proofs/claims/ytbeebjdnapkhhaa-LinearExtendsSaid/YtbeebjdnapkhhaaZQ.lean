/-
  Some texts as one: SetPlain, LinExt, NewPlain.
-/
import Derived.Test.YtbeebjdnapkhhaaZFmClus
/-
 Sets of small numbers as rows of words, in plain Lean.
-/
namespace Go.Proofs.Ytbeebjdnapkhhaa
set_option linter.unusedVariables false

def za8 (p : Nat → Bool) (i : Nat) : Nat → Nat
 | 0 => 0
 | j + 1 => (if p (64 * i + j) = true then 2 ^ j else 0) + za8 p i j
def Wx (p : Nat → Bool) (i : Nat) : Nat := za8 p i 64
def xm (n : Nat) : Nat := (n + 63) / 64
def xK (n : Nat) (p : Nat → Bool) : List Nat := (List.range (xm n)).map (Wx p)
def za6 (w : Nat) : List FV := [.int .u64 (w : Int)]
theorem UY (p : Nat → Bool) (i : Nat) : ∀ j, za8 p i j < 2 ^ j
 | 0 => by show 0 < 1; omega
 | j + 1 => by
  have := UY p i j
  show (if p (64 * i + j) = true then 2 ^ j else 0) + za8 p i j < 2 ^ (j + 1)
  rw [Nat.pow_succ]
  split <;> omega
theorem WU (p : Nat → Bool) (i b : Nat) : ∀ j, (za8 p i j).testBit b = (decide (b < j) && p (64 * i + b))
 | 0 => by show Nat.testBit 0 b = _; simp
 | j + 1 => by
  have ih := WU p i b j
  have hlt := UY p i j
  show ((if p (64 * i + j) = true then 2 ^ j else 0) + za8 p i j).testBit b = _
  rcases Nat.lt_trichotomy b j with h | h | h
  ·rw [decide_eq_true (show b < j + 1 by omega)]
   rw [decide_eq_true h] at ih
   split
   ·rw [Nat.testBit_two_pow_add_gt h, ih]
   ·rw [Nat.zero_add, ih]
  ·subst h
   rw [decide_eq_true (show b < b + 1 by omega), Bool.true_and]
   rw [decide_eq_false (Nat.lt_irrefl b), Bool.false_and] at ih
   split
   ·rename_i h; rw [Nat.testBit_two_pow_add_eq, ih, h]; rfl
   ·rename_i h; rw [Nat.zero_add, ih]; simpa using h
  ·rw [decide_eq_false (show ¬ b < j + 1 by omega), Bool.false_and]
   refine Nat.testBit_lt_two_pow ?_
   have h2 : 2 ^ (j + 1) ≤ 2 ^ b := Nat.pow_le_pow_right (by omega) (by omega)
   rw [Nat.pow_succ] at h2
   split <;> omega
theorem Yf (p : Nat → Bool) (i : Nat) : Wx p i < 18446744073709551616 := UY p i 64
theorem Ye (p : Nat → Bool) (i : Nat) {b : Nat} (h : b < 64) : (Wx p i).testBit b = p (64 * i + b) := by
 unfold Wx
 rw [WU, decide_eq_true h, Bool.true_and]
theorem Xl {p : Nat → Bool} {i w : Nat} (hw : w < 18446744073709551616) (h : ∀ b, b < 64 → w.testBit b = p (64 * i + b)) : w = Wx p i := by
 apply Nat.eq_of_testBit_eq
 intro b
 unfold Wx
 rw [WU]
 by_cases hb : b < 64
 ·rw [decide_eq_true hb, Bool.true_and, h b hb]
 ·rw [decide_eq_false hb, Bool.false_and]
  exact Nat.testBit_lt_two_pow (Nat.lt_of_lt_of_le (show w < 2 ^ 64 from hw) (Nat.pow_le_pow_right (by omega) (Nat.le_of_not_lt hb)))
theorem yB (n : Nat) (p : Nat → Bool) : (xK n p).length = xm n := by simp [xK]
theorem xL {n i : Nat} (p : Nat → Bool) (h : i < xm n) : nth (xK n p) i = Wx p i := by
 unfold xK
 rw [zi (by simpa using h)]
 simp
theorem Uw {n b : Nat} (h : b < n) : b / 64 < xm n := by unfold xm; omega
theorem zfU (n : Nat) : xK n (fun _ => false) = List.replicate (xm n) 0 := by
 refine zy (by simp [yB]) fun i hi => ?_
 rw [yB] at hi
 rw [xL _ hi, zi (show i < (List.replicate (xm n) 0).length by simpa using hi), List.getElem_replicate]
 exact (Xl (by omega) fun b _ => by simp).symm
theorem zhI {n b : Nat} (p : Nat → Bool) (h : b < n) : (xK n p).set (b / 64) (nth (xK n p) (b / 64) ||| 2 ^ (b % 64)) = xK n fun x => p x || decide (x = b) := by
 have hb := Uw h
 refine zy (by simp [yB]) fun i hi => ?_
 rw [List.length_set, yB] at hi
 rw [yX (by rw [yB]; exact hi), xL _ hi, xL _ hi, xL _ hb]
 have hlt := Yf p i
 split
 ·rename_i e
  subst e
  refine Xl ?_ fun j hj => ?_
  ·exact Nat.or_lt_two_pow (n := 64) hlt (Nat.pow_lt_pow_right (by omega) (Nat.mod_lt _ (by omega)))
  ·rw [Nat.testBit_or, Ye _ _ hj, Nat.testBit_two_pow]
   congr 1
   have h2 : 64 * (b / 64) + b % 64 = b := Nat.div_add_mod b 64
   exact decide_eq_decide.2 ⟨fun e => by omega, fun e => by omega⟩
 ·rename_i e
  refine Xl hlt fun j hj => ?_
  rw [Ye _ _ hj, decide_eq_false (show ¬ 64 * i + j = b from fun e2 => e (by omega)), Bool.or_false]
def Zr (A B : List Nat) (k : Nat) : List Nat := (List.range A.length).map fun i => if i < k then nth A i ||| nth B i else nth A i
theorem xz (A B : List Nat) (k : Nat) : (Zr A B k).length = A.length := by simp [Zr]
theorem Zl {A B : List Nat} {k i : Nat} (h : i < A.length) : nth (Zr A B k) i = if i < k then nth A i ||| nth B i else nth A i := by
 unfold Zr
 rw [zi (by simpa using h)]
 simp
theorem zdQ (A B : List Nat) : Zr A B 0 = A := by
 refine zy (xz A B 0) fun i hi => ?_
 rw [xz] at hi
 rw [Zl hi, if_neg (by omega)]
theorem zdP {A B : List Nat} {k : Nat} (h : k < A.length) : Zr A B (k + 1) = (Zr A B k).set k (nth (Zr A B k) k ||| nth B k) := by
 refine zy (by simp [xz]) fun i hi => ?_
 rw [xz] at hi
 rw [Zl hi, yX (by rw [xz]; exact hi), Zl hi, Zl h, if_neg (Nat.lt_irrefl k)]
 by_cases e : k = i
 ·subst e; rw [if_pos rfl, if_pos (by omega)]
 ·rw [if_neg e]
  by_cases h2 : i < k
  ·rw [if_pos h2, if_pos (by omega)]
  ·rw [if_neg h2, if_neg (by omega)]
theorem zfT (n : Nat) (p q : Nat → Bool) : Zr (xK n p) (xK n q) (xm n) = xK n fun x => p x || q x := by
 refine zy (by simp [xz, yB]) fun i hi => ?_
 rw [xz, yB] at hi
 rw [Zl (by rw [yB]; exact hi), if_pos hi, xL _ hi, xL _ hi, xL _ hi]
 refine Xl (Nat.or_lt_two_pow (n := 64) (Yf p i) (Yf q i)) fun j hj => ?_
 rw [Nat.testBit_or, Ye _ _ hj, Ye _ _ hj]
theorem zeO {n : Nat} {p : Nat → Bool} : ∀ w ∈ xK n p, w < 18446744073709551616 := fun w hw => by
 obtain ⟨i, _, rfl⟩ := List.mem_map.1 hw
 exact Yf p i
theorem zjY {z : Nat} (h : z < 18446744073709551616) : IntKind.u64.wrap (z : Int) = z := by
 show (z : Int) % (2 ^ 64 : Int) = z
 exact Int.emod_eq_of_lt (by omega) (by have : (2 : Int) ^ 64 = 18446744073709551616 := by decide
                                        omega)
theorem zkp {w k : Nat} (hw : w < 18446744073709551616) (hk : k < 64) : IntKind.u64.wrap ((BitVec.ofInt IntKind.u64.bits ((w : Int).fdiv (2 ^ (min k IntKind.u64.bits))) &&& BitVec.ofInt IntKind.u64.bits 1).toNat : Int) = ((if w.testBit k then 1 else 0 : Nat) : Int) := by
 have hm : min k IntKind.u64.bits = k := by show min k 64 = k; omega
 rw [hm, Int.fdiv_eq_ediv_of_nonneg _ (Int.pow_nonneg (by decide))]
 have e1 : (w : Int) / 2 ^ k = ((w / 2 ^ k : Nat) : Int) := by rw [Int.natCast_ediv, Int.natCast_pow]; rfl
 rw [e1, BitVec.ofInt_natCast, show (1 : Int) = ((1 : Nat) : Int) from rfl, BitVec.ofInt_natCast, BitVec.toNat_and, BitVec.toNat_ofNat, BitVec.toNat_ofNat]
 show IntKind.u64.wrap (((w / 2 ^ k % 2 ^ 64) &&& (1 % 2 ^ 64) : Nat) : Int) = _
 rw [Nat.mod_eq_of_lt (Nat.lt_of_le_of_lt (Nat.div_le_self _ _) hw), show 1 % 2 ^ 64 = 1 by decide, Nat.and_one_is_mod, zjY (Nat.lt_of_lt_of_le (Nat.mod_lt _ (by omega)) (by omega)), Nat.testBit_eq_decide_div_mod_eq]
 congr 1
 have := Nat.mod_lt (w / 2 ^ k) (show 2 > 0 by omega)
 by_cases h : w / 2 ^ k % 2 = 1
 ·simp [h]
 ·simp only [h, decide_false]
  rw [if_neg (by decide)]
  omega
theorem orU {a b : Nat} (ha : a < 18446744073709551616) (hb : b < 18446744073709551616) : IntKind.u64.wrap ((BitVec.ofInt IntKind.u64.bits (a : Int) ||| BitVec.ofInt IntKind.u64.bits (b : Int)).toNat : Int) = ((a ||| b : Nat) : Int) := by
 rw [BitVec.ofInt_natCast, BitVec.ofInt_natCast, BitVec.toNat_or, BitVec.toNat_ofNat, BitVec.toNat_ofNat]
 show IntKind.u64.wrap (((a % 2 ^ 64) ||| (b % 2 ^ 64) : Nat) : Int) = _
 rw [Nat.mod_eq_of_lt ha, Nat.mod_eq_of_lt hb, zjY (Nat.or_lt_two_pow (n := 64) ha hb)]
theorem zld {k : Nat} (hk : k < 64) : IntKind.u64.wrap (1 * 2 ^ (min k IntKind.u64.bits)) = ((2 ^ k : Nat) : Int) := by
 have hm : min k IntKind.u64.bits = k := by show min k 64 = k; omega
 rw [hm, Int.one_mul, show (2 : Int) ^ k = ((2 ^ k : Nat) : Int) by rw [Int.natCast_pow]; rfl]
 exact zjY (Nat.pow_lt_pow_right (by omega) hk)
end Go.Proofs.Ytbeebjdnapkhhaa
/-
 The least linear extension of an order on the numbers below n, in plain Lean.
-/
namespace Go.Proofs.Ytbeebjdnapkhhaa
set_option linter.unusedVariables false

theorem zeD {α : Type} [Inhabited α] (a : List α) (x : α) : nth (a ++ [x]) a.length = x := by
 rw [zi (by simp)]; simp
section
variable (R : Nat → Nat → Bool) (n : Nat)
def zaE (out : List Nat) (b : Nat) : Nat := (List.range n).countP fun a => R a b && !decide (a ∈ out)
def zf9 (out : List Nat) (a : Nat) : Bool := decide (a ∈ out) || decide (0 < zaE R n out a)
def UC (out : List Nat) : Nat := ((List.range n).find? fun a => !zf9 R n out a).getD 0
def yE : Nat → List Nat
 | 0 => []
 | k + 1 => yE k ++ [UC R n (yE k)]
def zb4 : Prop := ∃ f : Nat → Nat, ∀ a b, a < n → b < n → R a b = true → f a < f b
end
section
variable {R : Nat → Nat → Bool} {n : Nat}
theorem WW {a : Nat} {p : Nat → Bool} : ∀ {l : List Nat}, l.Nodup → a ∈ l → l.countP p = l.countP (fun x => p x && !decide (x = a)) + if p a = true then 1 else 0
 | x :: l, hn, ha => by
  obtain ⟨h1, h2⟩ := List.nodup_cons.1 hn
  rw [List.countP_cons, List.countP_cons]
  by_cases e : x = a
  ·subst e
   have : l.countP p = l.countP fun y => p y && !decide (y = x) := List.countP_congr fun y hy => by
    have : y ≠ x := fun e => h1 (e ▸ hy)
    simp [this]
   rw [← this]
   simp
  ·have hm : a ∈ l := by
    rcases List.mem_cons.1 ha with e2 | h
    ·exact absurd e2.symm e
    ·exact h
   rw [WW h2 hm]
   simp only [decide_eq_false e, Bool.not_false, Bool.and_true]
   omega
theorem zeg {out : List Nat} {a b : Nat} (ha : a < n) (hno : a ∉ out) : zaE R n out b = zaE R n (out ++ [a]) b + if R a b = true then 1 else 0 := by
 unfold zaE
 rw [WW (a := a) List.nodup_range (List.mem_range.2 ha)]
 congr 1
 ·refine List.countP_congr fun x _ => ?_
  simp only [List.mem_append, List.mem_singleton, Bool.and_eq_true, Bool.not_eq_true', decide_eq_false_iff_not, not_or]
  exact ⟨fun h => ⟨h.1.1, h.1.2, h.2⟩, fun h => ⟨⟨h.1, h.2.1⟩, h.2.2⟩⟩
 ·simp [hno]
theorem zge (out : List Nat) (b : Nat) : zaE R n out b ≤ n := by
 unfold zaE
 exact Nat.le_trans (List.countP_le_length) (by simp)
theorem zeC {f : Nat → Nat} {p : Nat → Bool} {n : Nat} (h : ∃ a, a < n ∧ p a = true) : ∃ a, a < n ∧ p a = true ∧ ∀ b, b < n → p b = true → f a ≤ f b := by
 obtain ⟨a, ha, hp⟩ := h
 have key : ∀ (k : Nat) (a : Nat), f a ≤ k → a < n → p a = true → ∃ a, a < n ∧ p a = true ∧ ∀ b, b < n → p b = true → f a ≤ f b := by
  intro k
  induction k with
  | zero => intro a h0 ha hp; exact ⟨a, ha, hp, fun b _ _ => by omega⟩
  | succ k ih =>
   intro a h0 ha hp
   by_cases h : ∃ b, b < n ∧ p b = true ∧ f b < f a
   ·obtain ⟨b, hb, hpb, hlt⟩ := h
    exact ih b (by omega) hb hpb
   ·refine ⟨a, ha, hp, fun b hb hpb => ?_⟩
    rcases Nat.lt_or_ge (f b) (f a) with h2 | h2
    ·exact absurd ⟨b, hb, hpb, h2⟩ h
    ·exact h2
 exact key (f a) a (Nat.le_refl _) ha hp
theorem zdb {out : List Nat} (hlen : out.length < n) : ∃ a, a < n ∧ a ∉ out := by
 refine Classical.byContradiction fun hno => ?_
 have hall : ∀ a, a < n → a ∈ out := fun a ha => Classical.byContradiction fun h => hno ⟨a, ha, h⟩
 have key : ∀ (l m : List Nat), l.Nodup → (∀ x ∈ l, x ∈ m) → l.length ≤ m.length := by
  intro l
  induction l with
  | nil => intro m _ _; exact Nat.zero_le _
  | cons x l ih =>
   intro m hn hs
   obtain ⟨h1, h2⟩ := List.nodup_cons.1 hn
   have hx := hs x (by simp)
   have hl := List.length_erase_of_mem hx
   have hpos : 0 < m.length := List.length_pos_of_mem hx
   have := ih (m.erase x) h2 fun y hy => (List.mem_erase_of_ne (fun e : y = x => h1 (by rw [← e]; exact hy))).2 (hs y (by simp [hy]))
   rw [List.length_cons]
   omega
 have := key (List.range n) out List.nodup_range fun x hx => hall x (List.mem_range.1 hx)
 rw [List.length_range] at this
 omega
theorem zdU (hr : zb4 R n) {out : List Nat} (hlen : out.length < n) : UC R n out < n ∧ zf9 R n out (UC R n out) = false ∧ ∀ a, a < UC R n out → zf9 R n out a = true := by
 obtain ⟨f, hf⟩ := hr
 obtain ⟨a0, h0, h1⟩ := zdb hlen
 obtain ⟨a, ha, hp, hmin⟩ := zeC (f := f) (p := fun a => !decide (a ∈ out)) ⟨a0, h0, by simpa using h1⟩
 have hb : zf9 R n out a = false := by
  unfold zf9
  have hp' : a ∉ out := by simpa using hp
  rw [decide_eq_false hp', Bool.false_or]
  refine decide_eq_false fun hc => ?_
  unfold zaE at hc
  obtain ⟨x, hx, hxp⟩ := List.countP_pos_iff.1 hc
  simp only [Bool.and_eq_true] at hxp
  have hxn := List.mem_range.1 hx
  have h2 := hf x a hxn ha hxp.1
  have h3 := hmin x hxn hxp.2
  omega
 unfold UC
 cases hfd : (List.range n).find? fun a => !zf9 R n out a with
 | none =>
  have := List.find?_eq_none.1 hfd a (List.mem_range.2 ha)
  rw [hb] at this
  simp at this
 | some z =>
  rw [List.find?_range_eq_some] at hfd
  obtain ⟨z1, z2, z3⟩ := hfd
  refine ⟨List.mem_range.1 z2, by simpa using z1, fun a ha => ?_⟩
  simpa using z3 a ha
theorem xj : ∀ k, (yE R n k).length = k
 | 0 => rfl
 | k + 1 => by show (yE R n k ++ [_]).length = _; rw [List.length_append, xj k]; rfl
theorem zaJ {k m : Nat} (h : k ≤ m) : (yE R n m).take k = yE R n k := by
 induction m with
 | zero => obtain rfl : k = 0 := by omega
           rfl
 | succ m ih =>
  show (yE R n m ++ [_]).take k = _
  by_cases e : k = m + 1
  ·subst e
   rw [List.take_of_length_le (by rw [List.length_append, xj]; exact Nat.le_refl _)]
   rfl
  ·rw [List.take_append_of_le_length (by rw [xj]; omega), ih (by omega)]
theorem XW (hr : zb4 R n) : ∀ {k}, k ≤ n → (yE R n k).Nodup ∧ ∀ x ∈ yE R n k, x < n
 | 0, _ => ⟨List.nodup_nil, by intro x hx; cases hx⟩
 | k + 1, hk => by
  obtain ⟨h1, h2⟩ := XW hr (show k ≤ n by omega)
  obtain ⟨p1, p2, _⟩ := zdU hr (out := yE R n k) (by rw [xj]; omega)
  have hno : UC R n (yE R n k) ∉ yE R n k := fun h => by
   unfold zf9 at p2
   rw [decide_eq_true h] at p2
   cases p2
  refine ⟨List.nodup_append.2 ⟨h1, by simp, fun a ha b hb e => ?_⟩, fun x hx => ?_⟩
  ·rw [List.mem_singleton.1 hb] at e
   exact hno (e ▸ ha)
  ·rcases List.mem_append.1 hx with hx | hx
   ·exact h2 x hx
   ·rw [List.mem_singleton.1 hx]; exact p1
structure zjh (R : Nat → Nat → Bool) (n : Nat) (L : List Nat) : Prop where
 len : L.length = n
 nd : L.Nodup
 rng : ∀ x ∈ L, x < n
 ord : ∀ i j, i < n → j < n → R (nth L i) (nth L j) = true → i < j
theorem zej (hr : zb4 R n) : zjh R n (yE R n n) where
 len := xj n
 nd := (XW hr (Nat.le_refl n)).1
 rng := (XW hr (Nat.le_refl n)).2
 ord i j hi hj h := by
  have hL := xj (R := R) (n := n) n
  have hnd := (XW hr (Nat.le_refl n)).1
  have hrg := (XW hr (Nat.le_refl n)).2
  refine Classical.byContradiction fun hij => ?_
  have hxi : nth (yE R n n) i < n := hrg _ (zn (by omega))
  have hj1 : nth (yE R n n) j = UC R n (yE R n j) := by
   have e1 := zaJ (R := R) (n := n) (show j + 1 ≤ n by omega)
   have : nth (yE R n (j + 1)) j = UC R n (yE R n j) := by
    have h2 := zeD (yE R n j) (UC R n (yE R n j))
    rw [xj] at h2
    exact h2
   rw [← this, ← e1, zi (by omega), zi (by rw [List.length_take]; omega), List.getElem_take]
  obtain ⟨p1, p2, _⟩ := zdU hr (out := yE R n j) (by rw [xj]; exact hj)
  rw [← hj1] at p2
  unfold zf9 at p2
  rw [Bool.or_eq_false_iff] at p2
  have hc : zaE R n (yE R n j) (nth (yE R n n) j) = 0 := by
   have := of_decide_eq_false p2.2
   omega
  have hm : nth (yE R n n) i ∈ yE R n j := by
   refine Classical.byContradiction fun hno => ?_
   unfold zaE at hc
   rw [List.countP_eq_zero] at hc
   have := hc _ (List.mem_range.2 hxi)
   rw [h, decide_eq_false hno] at this
   simp at this
  rw [← zaJ (R := R) (n := n) (show j ≤ n by omega)] at hm
  obtain ⟨k, hk, e⟩ := List.mem_take_iff_getElem.1 hm
  rw [zi (show i < (yE R n n).length by omega)] at e
  have := (List.getElem_inj hnd).1 e
  omega
end
end Go.Proofs.Ytbeebjdnapkhhaa
/-
 Kahn's way to a topological order, in plain Lean; what an order reaches.
-/
namespace Go.Proofs.Ytbeebjdnapkhhaa
set_option linter.unusedVariables false

abbrev Prs := List (Nat × Nat)
def adj (P : Prs) (v k : Nat) : List Nat := ((P.take k).filter fun e => decide (e.1 = v)).map fun e => e.2
def zae (P : Prs) (v : Nat) : List Nat := adj P v P.length
theorem zhR {P : Prs} {v k : Nat} (h : k < P.length) : adj P v (k + 1) = adj P v k ++ if v = (nth P k).1 then [(nth P k).2] else [] := by
 unfold adj
 rw [List.take_succ_eq_append_getElem h, List.filter_append, List.map_append, zi h]
 congr 1
 by_cases hv : P[k].1 = v
 ·simp [hv]
 ·have : ¬ v = P[k].1 := fun e => hv e.symm
  simp [hv, this]
theorem zdo (P : Prs) (v k : Nat) : (adj P v k).length ≤ P.length := by
 unfold adj
 rw [List.length_map]
 exact Nat.le_trans (List.length_filter_le _ _) (by rw [List.length_take]; omega)
theorem XO {P : Prs} {v b : Nat} : b ∈ zae P v ↔ (v, b) ∈ P := by
 unfold zae adj
 rw [List.take_length, List.mem_map]
 constructor
 ·rintro ⟨e, he, rfl⟩
  obtain ⟨h1, h2⟩ := List.mem_filter.1 he
  have h2 : e.1 = v := by simpa using h2
  rw [← h2]; exact h1
 ·intro h; exact ⟨(v, b), List.mem_filter.2 ⟨h, by simp⟩, rfl⟩
def inW (P : Prs) (V : List Nat) (b : Nat) : Nat := P.countP fun e => decide (e.2 = b) && !decide (e.1 ∈ V)
theorem zkr (P : Prs) (V : List Nat) (b : Nat) : inW P V b ≤ P.length := List.countP_le_length
theorem zdN {V : List Nat} {v b : Nat} (hv : v ∉ V) : ∀ P : Prs, inW P V b = inW P (V ++ [v]) b + (zae P v).count b
 | [] => rfl
 | e :: P => by
  have ih := zdN (b := b) hv P
  unfold inW zae adj at *
  rw [List.take_length] at ih ⊢
  by_cases h2 : e.1 = v
  ·have e1 : List.filter (fun e : Nat × Nat => decide (e.1 = v)) (e :: P) = e :: List.filter (fun e => decide (e.1 = v)) P := by simp [h2]
   have e2 : decide (e.1 ∈ V) = false := decide_eq_false (h2 ▸ hv)
   have e3 : decide (e.1 ∈ V ++ [v]) = true := decide_eq_true (by simp [h2])
   rw [List.countP_cons, List.countP_cons, e1, List.map_cons, List.count_cons, e2, e3, ih]
   by_cases h1 : e.2 = b
   ·simp [h1]; omega
   ·have h5 : (e.2 == b) = false := by simpa using h1
    simp [h1]
  ·have e1 : List.filter (fun e : Nat × Nat => decide (e.1 = v)) (e :: P) = List.filter (fun e => decide (e.1 = v)) P := by simp [h2]
   have e3 : decide (e.1 ∈ V ++ [v]) = decide (e.1 ∈ V) := decide_eq_decide.2 (by simp [h2])
   rw [List.countP_cons, List.countP_cons, e1, e3, ih]
   omega
theorem zes {P : Prs} {V : List Nat} {b : Nat} (h : inW P V b = 0) : ∀ e ∈ P, e.2 = b → e.1 ∈ V := fun e he hb => by
 unfold inW at h
 rw [List.countP_eq_zero] at h
 have := h e he
 rw [hb] at this
 simpa using this
structure KR (P : Prs) (n : Nat) (row : List Nat) (W : List Int) : Prop where
 len : W.length = n
 nd : row.Nodup
 rng : ∀ x ∈ row, x < n
 mem : ∀ b, b < n → (b ∈ row ↔ nth W b = 0)
 topo : ∀ i, i < row.length → ∀ e ∈ P, e.2 = nth row i → ∃ i', i' < i ∧ nth row i' = e.1
structure KI (P : Prs) (n k : Nat) (row : List Nat) (W : List Int) : Prop where
 r : KR P n row W
 le : k ≤ row.length
 wt : ∀ b, b < n → nth W b = (inW P (row.take k) b : Int)
structure KJ (P : Prs) (n k : Nat) (row0 : List Nat) (j : Nat) (row : List Nat) (W : List Int) : Prop where
 r : KR P n row W
 pre : ∃ ext, row = row0 ++ ext
 wt : ∀ b, b < n → nth W b = (inW P (row0.take k) b : Int) - (((zae P (nth row0 k)).take j).count b : Int)
section
variable {P : Prs} {n : Nat}
theorem KR.row_len {row : List Nat} {W : List Int} (h : KR P n row W) : row.length ≤ n := by
 refine Nat.le_of_not_lt fun hlt => ?_
 have key : ∀ (l m : List Nat), l.Nodup → (∀ x ∈ l, x ∈ m) → l.length ≤ m.length := by
  intro l
  induction l with
  | nil => intro m _ _; exact Nat.zero_le _
  | cons x l ih =>
   intro m hn hs
   obtain ⟨h1, h2⟩ := List.nodup_cons.1 hn
   have hx := hs x (by simp)
   have hl := List.length_erase_of_mem hx
   have hpos : 0 < m.length := List.length_pos_of_mem hx
   have := ih (m.erase x) h2 fun y hy => (List.mem_erase_of_ne (fun e : y = x => h1 (by rw [← e]; exact hy))).2 (hs y (by simp [hy]))
   rw [List.length_cons]
   omega
 have := key row (List.range n) h.nd fun x hx => List.mem_range.2 (h.rng x hx)
 rw [List.length_range] at this
 omega
theorem KI.start {k : Nat} {row : List Nat} {W : List Int} (h : KI P n k row W) : KJ P n k row 0 row W where
 r := h.r
 pre := ⟨[], by simp⟩
 wt b hb := by rw [h.wt b hb]; simp
theorem zaR {row : List Nat} (hn : row.Nodup) {k : Nat} (hk : k < row.length) : nth row k ∉ row.take k := fun h => by
 obtain ⟨i, hi, e⟩ := List.mem_take_iff_getElem.1 h
 rw [zi hk] at e
 have := (List.getElem_inj hn).1 e
 omega
theorem xu {α : Type} [Inhabited α] {l : List α} {k : Nat} (hk : k < l.length) : l.take (k + 1) = l.take k ++ [nth l k] := by rw [List.take_succ_eq_append_getElem hk, zi hk]
theorem KJ.stop {k : Nat} {row0 row : List Nat} {W : List Int} (hk : k < row0.length) (hn0 : row0.Nodup) (h : KJ P n k row0 (zae P (nth row0 k)).length row W) : KI P n (k + 1) row W where
 r := h.r
 le := by obtain ⟨ext, rfl⟩ := h.pre; simp; omega
 wt b hb := by
  obtain ⟨ext, rfl⟩ := h.pre
  rw [h.wt b hb, List.take_length, List.take_append_of_le_length (by omega), xu hk]
  have := zdN (P := P) (b := b) (zaR hn0 hk)
  omega
theorem KJ.step (hin : ∀ e ∈ P, e.1 < n ∧ e.2 < n) {k j : Nat} {row0 row : List Nat} {W : List Int} (hk : k < row0.length) (hn0 : row0.Nodup) (h : KJ P n k row0 j row W) (hj : j < (zae P (nth row0 k)).length) :
  nth (zae P (nth row0 k)) j < n ∧ 0 < nth W (nth (zae P (nth row0 k)) j) ∧ KJ P n k row0 (j + 1) (if nth W (nth (zae P (nth row0 k)) j) - 1 = 0 then row ++ [nth (zae P (nth row0 k)) j] else row) (W.set (nth (zae P (nth row0 k)) j) (nth W (nth (zae P (nth row0 k)) j) - 1)) := by
 have hm := zn hj
 have hts := xu hj
 have hadd := fun b => zdN (P := P) (V := row0.take k) (v := nth row0 k) (b := b) (zaR hn0 hk)
 have hA := fun b => @XO P (nth row0 k) b
 have hwt := h.wt
 obtain ⟨A, hAe⟩ : ∃ A, zae P (nth row0 k) = A := ⟨_, rfl⟩
 rw [hAe] at hj hm hts ⊢
 simp only [hAe] at hadd hA hwt
 obtain ⟨b, hb⟩ : ∃ b, nth A j = b := ⟨_, rfl⟩
 rw [hb] at hm hts ⊢
 have hbn := (hin _ ((hA b).1 hm)).2
 have hcnt : ∀ x, (A.take (j + 1)).count x = (A.take j).count x + if b = x then 1 else 0 := fun x => by
  rw [hts, List.count_append]
  congr 1
  by_cases e : b = x
  ·subst e; simp
  ·rw [if_neg e]; simp [List.count_cons, e]
 have hcl : ∀ x, (A.take (j + 1)).count x ≤ A.count x := fun x => List.Sublist.count_le _ (List.take_sublist _ _)
 have hpos : 0 < nth W b := by
  have h1 := hwt b hbn
  have h2 := hcnt b
  rw [if_pos rfl] at h2
  have h3 := hcl b
  have h4 := hadd b
  omega
 have hbno : b ∉ row := fun hm => by
  have := (h.r.mem b hbn).1 hm
  omega
 have hWn : ∀ x, x < n → nth (W.set b (nth W b - 1)) x = if b = x then nth W b - 1 else nth W x := fun x hx => yX (by rw [h.r.len]; exact hx)
 have hwt' : ∀ x, x < n → nth (W.set b (nth W b - 1)) x = (inW P (row0.take k) x : Int) - ((A.take (j + 1)).count x : Int) := fun x hx => by
  rw [hWn x hx, hcnt]
  have := hwt x hx
  split
  ·rename_i e; subst e; rw [this]; omega
  ·rw [this]; omega
 refine ⟨hbn, hpos, ?_⟩
 by_cases hz : nth W b - 1 = 0
 ·rw [if_pos hz]
  obtain ⟨ext, hext⟩ := h.pre
  refine ⟨⟨by rw [List.length_set]; exact h.r.len, List.nodup_append.2 ⟨h.r.nd, by simp, fun x hx y hy e => ?_⟩, fun x hx => ?_, fun x hx => ?_, fun i hi e he hie => ?_⟩, ⟨ext ++ [b], by rw [hext, List.append_assoc]⟩, fun x hx => by rw [hAe]; exact hwt' x hx⟩
  ·rw [List.mem_singleton.1 hy] at e; exact hbno (e ▸ hx)
  ·rcases List.mem_append.1 hx with hx | hx
   ·exact h.r.rng x hx
   ·rw [List.mem_singleton.1 hx]; exact hbn
  ·rw [hWn x hx, List.mem_append, List.mem_singleton]
   by_cases e : b = x
   ·subst e; rw [if_pos rfl]; exact ⟨fun _ => hz, fun _ => .inr rfl⟩
   ·rw [if_neg e, ← h.r.mem x hx]
    exact ⟨fun h => h.resolve_right (fun e2 => e e2.symm), .inl⟩
  ·rw [List.length_append] at hi
   by_cases hil : i < row.length
   ·have e1 : nth (row ++ [b]) i = nth row i := by rw [zi (by simp; omega), zi hil, List.getElem_append_left hil]
    rw [e1] at hie
    obtain ⟨i', h1, h2⟩ := h.r.topo i hil e he hie
    exact ⟨i', h1, by rw [zi (by simp; omega), List.getElem_append_left (by omega), ← zi (by omega)]; exact h2⟩
   ·have : i = row.length := by simp at hi; omega
    subst this
    rw [zeD] at hie
    have hz2 := hwt' b hbn
    rw [hWn b hbn, if_pos rfl, hz] at hz2
    have h3 := hadd b
    have h4 := hcl b
    have h5 : inW P (row0.take k ++ [nth row0 k]) b = 0 := by omega
    rw [← xu hk] at h5
    have h6 := zes h5 e he hie
    obtain ⟨i', hi', e'⟩ := List.mem_take_iff_getElem.1 h6
    refine ⟨i', by rw [hext, List.length_append]; omega, ?_⟩
    rw [← e', hext, zi (by simp; omega), List.getElem_append_left (by simp; omega), List.getElem_append_left (by omega)]
 ·rw [if_neg hz]
  refine ⟨⟨by rw [List.length_set]; exact h.r.len, h.r.nd, h.r.rng, fun x hx => ?_, h.r.topo⟩, h.pre, fun x hx => by rw [hAe]; exact hwt' x hx⟩
  rw [hWn x hx]
  by_cases e : b = x
  ·subst e
   rw [if_pos rfl]
   exact ⟨fun h => absurd h hbno, fun h => absurd h hz⟩
  ·rw [if_neg e]; exact h.r.mem x hx
theorem KI.all (hin : ∀ e ∈ P, e.1 < n ∧ e.2 < n) {f : Nat → Nat} (hf : ∀ e ∈ P, f e.1 < f e.2) {row : List Nat} {W : List Int} (h : KI P n row.length row W) : row.length = n := by
 refine Nat.le_antisymm h.r.row_len (Nat.le_of_not_lt fun hlt => ?_)
 obtain ⟨a0, h0, h1⟩ := zdb hlt
 obtain ⟨a, ha, hp, hmin⟩ := zeC (f := f) (p := fun a => !decide (a ∈ row)) ⟨a0, h0, by simpa using h1⟩
 have hno : a ∉ row := by simpa using hp
 have hw := h.wt a ha
 rw [List.take_length] at hw
 have : inW P row a = 0 := by
  unfold inW
  rw [List.countP_eq_zero]
  intro e he hc
  simp only [Bool.and_eq_true, decide_eq_true_eq] at hc
  have h2 := hmin e.1 (hin e he).1 hc.2
  have h3 := hf e he
  rw [hc.1] at h3
  omega
 exact hno ((h.r.mem a ha).2 (by omega))
def Ze (P : Prs) (n k : Nat) : List Int := (List.range n).map fun b => ((P.take k).countP fun e => decide (e.2 = b) : Nat)
theorem xV (k : Nat) : (Ze P n k).length = n := by simp [Ze]
theorem ZL {k b : Nat} (h : b < n) : nth (Ze P n k) b = ((P.take k).countP fun e => decide (e.2 = b) : Nat) := by unfold Ze; rw [zi (by simpa using h)]; simp
theorem ze2 : Ze P n 0 = List.replicate n 0 := by
 refine zy (by simp [xV]) fun i hi => ?_
 rw [xV] at hi
 rw [ZL hi, zi (show i < (List.replicate n (0 : Int)).length by simpa using hi)]
 simp
theorem ze1 {k : Nat} (h : k < P.length) : Ze P n (k + 1) = (Ze P n k).set (nth P k).2 (nth (Ze P n k) (nth P k).2 + 1) := by
 refine zy (by simp [xV]) fun i hi => ?_
 rw [xV] at hi
 rw [ZL hi, yX (by rw [xV]; exact hi), xu h, List.countP_append]
 by_cases e : (nth P k).2 = i
 ·rw [if_pos e]
  subst e
  rw [ZL hi]
  simp
 ·rw [if_neg e, ZL hi]
  simp [e]
theorem zcc {b : Nat} (h : b < n) : nth (Ze P n P.length) b = (inW P [] b : Int) := by
 rw [ZL h, List.take_length]
 unfold inW
 simp
def zdY (W : List Int) (k : Nat) : List Nat := (List.range k).filter fun b => decide (nth W b = 0)
theorem zht (W : List Int) (k : Nat) : zdY W (k + 1) = zdY W k ++ if nth W k = 0 then [k] else [] := by
 unfold zdY
 rw [List.range_succ, List.filter_append]
 congr 1
 by_cases h : nth W k = 0 <;> simp [h]
theorem ziG (W : List Int) (k : Nat) : (zdY W k).length ≤ k := by unfold zdY; exact Nat.le_trans (List.length_filter_le _ _) (by simp)
theorem ziH {W : List Int} {k x : Nat} : x ∈ zdY W k ↔ x < k ∧ nth W x = 0 := by unfold zdY; rw [List.mem_filter, List.mem_range]; simp
theorem KI.first (hin : ∀ e ∈ P, e.1 < n ∧ e.2 < n) : KI P n 0 (zdY (Ze P n P.length) n) (Ze P n P.length) where
 r := {
  len := xV _
  nd := List.nodup_range.sublist List.filter_sublist
  rng := fun x hx => List.mem_range.1 (List.mem_filter.1 hx).1
  mem := fun b hb => by
   unfold zdY
   rw [List.mem_filter, List.mem_range]
   simp [hb]
  topo := fun i hi e he hie => by
   obtain ⟨h1', h2⟩ := ziH.1 (zn hi)
   rw [zcc h1'] at h2
   have := zes (P := P) (V := []) (b := nth (zdY (Ze P n P.length) n) i) (by omega) e he hie
   cases this }
 le := Nat.zero_le _
 wt b hb := by rw [zcc hb]; rfl
end
inductive zhJ (P : Prs) : Nat → Nat → Prop where
 | one {a b : Nat} (h : (a, b) ∈ P) : zhJ P a b
 | step {a b c : Nat} (h : (a, b) ∈ P) (k : zhJ P b c) : zhJ P a c
open Classical in
noncomputable def yH (P : Prs) (a b : Nat) : Bool := decide (zhJ P a b)
open Classical in
theorem xA {P : Prs} {a b : Nat} : yH P a b = true ↔ zhJ P a b := by unfold yH; exact decide_eq_true_iff
theorem zhJ.rel {P : Prs} {R : Nat → Nat → Prop} (h1 : ∀ e ∈ P, R e.1 e.2) (ht : ∀ a b c, R a b → R b c → R a c) {a b : Nat} (h : zhJ P a b) : R a b := by
 induction h with
 | one h => exact h1 _ h
 | step h k ih => exact ht _ _ _ (h1 _ h) ih
theorem ZC {P : Prs} {n : Nat} {f : Nat → Nat} (hf : ∀ e ∈ P, f e.1 < f e.2) : zb4 (yH P) n := ⟨f, fun a b _ _ h => zhJ.rel (R := fun a b => f a < f b) hf (fun _ _ _ => Nat.lt_trans) (xA.1 h)⟩
noncomputable def ptB (P : Prs) (bs : List Nat) (x : Nat) : Bool := bs.any fun b => decide (x = b) || yH P b x
theorem zjJ (P : Prs) : ptB P [] = fun _ => false := rfl
theorem ziv (P : Prs) (bs : List Nat) (b : Nat) : ptB P (bs ++ [b]) = fun x => (ptB P bs x || decide (x = b)) || yH P b x := by
 funext x
 unfold ptB
 rw [List.any_append]
 simp [Bool.or_assoc]
theorem zjI (P : Prs) (a : Nat) : ptB P (zae P a) = yH P a := by
 funext x
 rw [Bool.eq_iff_iff, xA]
 unfold ptB
 rw [List.any_eq_true]
 constructor
 ·rintro ⟨b, hb, h⟩
  rw [XO] at hb
  rw [Bool.or_eq_true, decide_eq_true_eq] at h
  rcases h with rfl | h
  ·exact .one hb
  ·exact .step hb (xA.1 h)
 ·intro h
  cases h with
  | one h => exact ⟨x, XO.2 h, by simp⟩
  | step h k => exact ⟨_, XO.2 h, by rw [Bool.or_eq_true]; exact .inr (xA.2 k)⟩
end Go.Proofs.Ytbeebjdnapkhhaa
