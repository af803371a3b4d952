/-
  Sets of small numbers as rows of words, in plain Lean.
-/
import Derived.Test.YtbeebjdnapkhhaaZFmClus
namespace Go.Proofs.Ytbeebjdnapkhhaa
set_option linter.unusedVariables false

def wordTo (p : Nat → Bool) (i : Nat) : Nat → Nat
 | 0 => 0
 | j + 1 => (if p (64 * i + j) = true then 2 ^ j else 0) + wordTo p i j
def wordAt (p : Nat → Bool) (i : Nat) : Nat := wordTo p i 64
def nWords (n : Nat) : Nat := (n + 63) / 64
def words (n : Nat) (p : Nat → Bool) : List Nat := (List.range (nWords n)).map (wordAt p)
def u64f (w : Nat) : List FV := [.int .u64 (w : Int)]
theorem wordTo_lt (p : Nat → Bool) (i : Nat) : ∀ j, wordTo p i j < 2 ^ j
 | 0 => by show 0 < 1; omega
 | j + 1 => by
  have := wordTo_lt p i j
  show (if p (64 * i + j) = true then 2 ^ j else 0) + wordTo p i j < 2 ^ (j + 1)
  rw [Nat.pow_succ]
  split <;> omega
theorem wordTo_bit (p : Nat → Bool) (i b : Nat) : ∀ j, (wordTo p i j).testBit b = (decide (b < j) && p (64 * i + b))
 | 0 => by show Nat.testBit 0 b = _; simp
 | j + 1 => by
  have ih := wordTo_bit p i b j
  have hlt := wordTo_lt p i j
  show ((if p (64 * i + j) = true then 2 ^ j else 0) + wordTo p i j).testBit b = _
  rcases Nat.lt_trichotomy b j with h | h | h
  ·rw [decide_eq_true (show b < j + 1 by omega)]
   rw [decide_eq_true h] at ih
   split
   ·rw [Nat.testBit_two_pow_add_gt h, ih]
   ·rw [Nat.zero_add, ih]
  ·subst h
   rw [decide_eq_true (show b < b + 1 by omega), Bool.true_and]
   rw [decide_eq_false (Nat.lt_irrefl b), Bool.false_and] at ih
   split
   ·rename_i h; rw [Nat.testBit_two_pow_add_eq, ih, h]; rfl
   ·rename_i h; rw [Nat.zero_add, ih]; simpa using h
  ·rw [decide_eq_false (show ¬ b < j + 1 by omega), Bool.false_and]
   refine Nat.testBit_lt_two_pow ?_
   have h2 : 2 ^ (j + 1) ≤ 2 ^ b := Nat.pow_le_pow_right (by omega) (by omega)
   rw [Nat.pow_succ] at h2
   split <;> omega
theorem wordAt_lt (p : Nat → Bool) (i : Nat) : wordAt p i < 18446744073709551616 := wordTo_lt p i 64
theorem wordAt_bit (p : Nat → Bool) (i : Nat) {b : Nat} (h : b < 64) : (wordAt p i).testBit b = p (64 * i + b) := by
 unfold wordAt
 rw [wordTo_bit, decide_eq_true h, Bool.true_and]
theorem wordAt_ext {p : Nat → Bool} {i w : Nat} (hw : w < 18446744073709551616) (h : ∀ b, b < 64 → w.testBit b = p (64 * i + b)) : w = wordAt p i := by
 apply Nat.eq_of_testBit_eq
 intro b
 unfold wordAt
 rw [wordTo_bit]
 by_cases hb : b < 64
 ·rw [decide_eq_true hb, Bool.true_and, h b hb]
 ·rw [decide_eq_false hb, Bool.false_and]
  exact Nat.testBit_lt_two_pow (Nat.lt_of_lt_of_le (show w < 2 ^ 64 from hw) (Nat.pow_le_pow_right (by omega) (Nat.le_of_not_lt hb)))
theorem words_len (n : Nat) (p : Nat → Bool) : (words n p).length = nWords n := by simp [words]
theorem words_nth {n i : Nat} (p : Nat → Bool) (h : i < nWords n) : nth (words n p) i = wordAt p i := by
 unfold words
 rw [nth_eq (by simpa using h)]
 simp
theorem nWords_at {n b : Nat} (h : b < n) : b / 64 < nWords n := by unfold nWords; omega
theorem words_none (n : Nat) : words n (fun _ => false) = List.replicate (nWords n) 0 := by
 refine list_ext_nth (by simp [words_len]) fun i hi => ?_
 rw [words_len] at hi
 rw [words_nth _ hi, nth_eq (show i < (List.replicate (nWords n) 0).length by simpa using hi), List.getElem_replicate]
 exact (wordAt_ext (by omega) fun b _ => by simp).symm
theorem words_add {n b : Nat} (p : Nat → Bool) (h : b < n) : (words n p).set (b / 64) (nth (words n p) (b / 64) ||| 2 ^ (b % 64)) = words n fun x => p x || decide (x = b) := by
 have hb := nWords_at h
 refine list_ext_nth (by simp [words_len]) fun i hi => ?_
 rw [List.length_set, words_len] at hi
 rw [nth_setB (by rw [words_len]; exact hi), words_nth _ hi, words_nth _ hi, words_nth _ hb]
 have hlt := wordAt_lt p i
 split
 ·rename_i e
  subst e
  refine wordAt_ext ?_ fun j hj => ?_
  ·exact Nat.or_lt_two_pow (n := 64) hlt (Nat.pow_lt_pow_right (by omega) (Nat.mod_lt _ (by omega)))
  ·rw [Nat.testBit_or, wordAt_bit _ _ hj, Nat.testBit_two_pow]
   congr 1
   have h2 : 64 * (b / 64) + b % 64 = b := Nat.div_add_mod b 64
   exact decide_eq_decide.2 ⟨fun e => by omega, fun e => by omega⟩
 ·rename_i e
  refine wordAt_ext hlt fun j hj => ?_
  rw [wordAt_bit _ _ hj, decide_eq_false (show ¬ 64 * i + j = b from fun e2 => e (by omega)), Bool.or_false]
def joinTo (A B : List Nat) (k : Nat) : List Nat := (List.range A.length).map fun i => if i < k then nth A i ||| nth B i else nth A i
theorem joinTo_len (A B : List Nat) (k : Nat) : (joinTo A B k).length = A.length := by simp [joinTo]
theorem joinTo_nth {A B : List Nat} {k i : Nat} (h : i < A.length) : nth (joinTo A B k) i = if i < k then nth A i ||| nth B i else nth A i := by
 unfold joinTo
 rw [nth_eq (by simpa using h)]
 simp
theorem joinTo_zero (A B : List Nat) : joinTo A B 0 = A := by
 refine list_ext_nth (joinTo_len A B 0) fun i hi => ?_
 rw [joinTo_len] at hi
 rw [joinTo_nth hi, if_neg (by omega)]
theorem joinTo_succ {A B : List Nat} {k : Nat} (h : k < A.length) : joinTo A B (k + 1) = (joinTo A B k).set k (nth (joinTo A B k) k ||| nth B k) := by
 refine list_ext_nth (by simp [joinTo_len]) fun i hi => ?_
 rw [joinTo_len] at hi
 rw [joinTo_nth hi, nth_setB (by rw [joinTo_len]; exact hi), joinTo_nth hi, joinTo_nth h, if_neg (Nat.lt_irrefl k)]
 by_cases e : k = i
 ·subst e; rw [if_pos rfl, if_pos (by omega)]
 ·rw [if_neg e]
  by_cases h2 : i < k
  ·rw [if_pos h2, if_pos (by omega)]
  ·rw [if_neg h2, if_neg (by omega)]
theorem words_join (n : Nat) (p q : Nat → Bool) : joinTo (words n p) (words n q) (nWords n) = words n fun x => p x || q x := by
 refine list_ext_nth (by simp [joinTo_len, words_len]) fun i hi => ?_
 rw [joinTo_len, words_len] at hi
 rw [joinTo_nth (by rw [words_len]; exact hi), if_pos hi, words_nth _ hi, words_nth _ hi, words_nth _ hi]
 refine wordAt_ext (Nat.or_lt_two_pow (n := 64) (wordAt_lt p i) (wordAt_lt q i)) fun j hj => ?_
 rw [Nat.testBit_or, wordAt_bit _ _ hj, wordAt_bit _ _ hj]
theorem words_lt {n : Nat} {p : Nat → Bool} : ∀ w ∈ words n p, w < 18446744073709551616 := fun w hw => by
 obtain ⟨i, _, rfl⟩ := List.mem_map.1 hw
 exact wordAt_lt p i
theorem wrapU {z : Nat} (h : z < 18446744073709551616) : IntKind.u64.wrap (z : Int) = z := by
 show (z : Int) % (2 ^ 64 : Int) = z
 exact Int.emod_eq_of_lt (by omega) (by have : (2 : Int) ^ 64 = 18446744073709551616 := by decide
                                        omega)
theorem hasBit {w k : Nat} (hw : w < 18446744073709551616) (hk : k < 64) : IntKind.u64.wrap ((BitVec.ofInt IntKind.u64.bits ((w : Int).fdiv (2 ^ (min k IntKind.u64.bits))) &&& BitVec.ofInt IntKind.u64.bits 1).toNat : Int) = ((if w.testBit k then 1 else 0 : Nat) : Int) := by
 have hm : min k IntKind.u64.bits = k := by show min k 64 = k; omega
 rw [hm, Int.fdiv_eq_ediv_of_nonneg _ (Int.pow_nonneg (by decide))]
 have e1 : (w : Int) / 2 ^ k = ((w / 2 ^ k : Nat) : Int) := by rw [Int.natCast_ediv, Int.natCast_pow]; rfl
 rw [e1, BitVec.ofInt_natCast, show (1 : Int) = ((1 : Nat) : Int) from rfl, BitVec.ofInt_natCast, BitVec.toNat_and, BitVec.toNat_ofNat, BitVec.toNat_ofNat]
 show IntKind.u64.wrap (((w / 2 ^ k % 2 ^ 64) &&& (1 % 2 ^ 64) : Nat) : Int) = _
 rw [Nat.mod_eq_of_lt (Nat.lt_of_le_of_lt (Nat.div_le_self _ _) hw), show 1 % 2 ^ 64 = 1 by decide, Nat.and_one_is_mod, wrapU (Nat.lt_of_lt_of_le (Nat.mod_lt _ (by omega)) (by omega)), Nat.testBit_eq_decide_div_mod_eq]
 congr 1
 have := Nat.mod_lt (w / 2 ^ k) (show 2 > 0 by omega)
 by_cases h : w / 2 ^ k % 2 = 1
 ·simp [h]
 ·simp only [h, decide_false]
  rw [if_neg (by decide)]
  omega
theorem orU {a b : Nat} (ha : a < 18446744073709551616) (hb : b < 18446744073709551616) : IntKind.u64.wrap ((BitVec.ofInt IntKind.u64.bits (a : Int) ||| BitVec.ofInt IntKind.u64.bits (b : Int)).toNat : Int) = ((a ||| b : Nat) : Int) := by
 rw [BitVec.ofInt_natCast, BitVec.ofInt_natCast, BitVec.toNat_or, BitVec.toNat_ofNat, BitVec.toNat_ofNat]
 show IntKind.u64.wrap (((a % 2 ^ 64) ||| (b % 2 ^ 64) : Nat) : Int) = _
 rw [Nat.mod_eq_of_lt ha, Nat.mod_eq_of_lt hb, wrapU (Nat.or_lt_two_pow (n := 64) ha hb)]
theorem shlU {k : Nat} (hk : k < 64) : IntKind.u64.wrap (1 * 2 ^ (min k IntKind.u64.bits)) = ((2 ^ k : Nat) : Int) := by
 have hm : min k IntKind.u64.bits = k := by show min k 64 = k; omega
 rw [hm, Int.one_mul, show (2 : Int) ^ k = ((2 ^ k : Nat) : Int) by rw [Int.natCast_pow]; rfl]
 exact wrapU (Nat.pow_lt_pow_right (by omega) hk)
end Go.Proofs.Ytbeebjdnapkhhaa
