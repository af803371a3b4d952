/-
  Sets of small numbers as rows of words, in plain Lean.
-/
import Derived.Test.YtbeebjdnapkhhaaZFmClus
namespace Go.Proofs.Ytbeebjdnapkhhaa
set_option linter.unusedVariables false

def zbf (p : Nat → Bool) (i : Nat) : Nat → Nat
 | 0 => 0
 | j + 1 => (if p (64 * i + j) = true then 2 ^ j else 0) + zbf p i j
def WD (p : Nat → Bool) (i : Nat) : Nat := zbf p i 64
def xm (n : Nat) : Nat := (n + 63) / 64
def xJ (n : Nat) (p : Nat → Bool) : List Nat := (List.range (xm n)).map (WD p)
def zbe (w : Nat) : List FV := [.int .u64 (w : Int)]
theorem zaf (p : Nat → Bool) (i : Nat) : ∀ j, zbf p i j < 2 ^ j
 | 0 => by show 0 < 1; omega
 | j + 1 => by
  have := zaf p i j
  show (if p (64 * i + j) = true then 2 ^ j else 0) + zbf p i j < 2 ^ (j + 1)
  rw [Nat.pow_succ]
  split <;> omega
theorem Vd (p : Nat → Bool) (i b : Nat) : ∀ j, (zbf p i j).testBit b = (decide (b < j) && p (64 * i + b))
 | 0 => by show Nat.testBit 0 b = _; simp
 | j + 1 => by
  have ih := Vd p i b j
  have hlt := zaf p i j
  show ((if p (64 * i + j) = true then 2 ^ j else 0) + zbf p i j).testBit b = _
  rcases Nat.lt_trichotomy b j with h | h | h
  ·rw [decide_eq_true (show b < j + 1 by omega)]
   rw [decide_eq_true h] at ih
   split
   ·rw [Nat.testBit_two_pow_add_gt h, ih]
   ·rw [Nat.zero_add, ih]
  ·subst h
   rw [decide_eq_true (show b < b + 1 by omega), Bool.true_and]
   rw [decide_eq_false (Nat.lt_irrefl b), Bool.false_and] at ih
   split
   ·rename_i h; rw [Nat.testBit_two_pow_add_eq, ih, h]; rfl
   ·rename_i h; rw [Nat.zero_add, ih]; simpa using h
  ·rw [decide_eq_false (show ¬ b < j + 1 by omega), Bool.false_and]
   refine Nat.testBit_lt_two_pow ?_
   have h2 : 2 ^ (j + 1) ≤ 2 ^ b := Nat.pow_le_pow_right (by omega) (by omega)
   rw [Nat.pow_succ] at h2
   split <;> omega
theorem Ym (p : Nat → Bool) (i : Nat) : WD p i < 18446744073709551616 := zaf p i 64
theorem Yl (p : Nat → Bool) (i : Nat) {b : Nat} (h : b < 64) : (WD p i).testBit b = p (64 * i + b) := by
 unfold WD
 rw [Vd, decide_eq_true h, Bool.true_and]
theorem Xq {p : Nat → Bool} {i w : Nat} (hw : w < 18446744073709551616) (h : ∀ b, b < 64 → w.testBit b = p (64 * i + b)) : w = WD p i := by
 apply Nat.eq_of_testBit_eq
 intro b
 unfold WD
 rw [Vd]
 by_cases hb : b < 64
 ·rw [decide_eq_true hb, Bool.true_and, h b hb]
 ·rw [decide_eq_false hb, Bool.false_and]
  exact Nat.testBit_lt_two_pow (Nat.lt_of_lt_of_le (show w < 2 ^ 64 from hw) (Nat.pow_le_pow_right (by omega) (Nat.le_of_not_lt hb)))
theorem yF (n : Nat) (p : Nat → Bool) : (xJ n p).length = xm n := by simp [xJ]
theorem xK {n i : Nat} (p : Nat → Bool) (h : i < xm n) : nth (xJ n p) i = WD p i := by
 unfold xJ
 rw [zn (by simpa using h)]
 simp
theorem UJ {n b : Nat} (h : b < n) : b / 64 < xm n := by unfold xm; omega
theorem zfO (n : Nat) : xJ n (fun _ => false) = List.replicate (xm n) 0 := by
 refine zG (by simp [yF]) fun i hi => ?_
 rw [yF] at hi
 rw [xK _ hi, zn (show i < (List.replicate (xm n) 0).length by simpa using hi), List.getElem_replicate]
 exact (Xq (by omega) fun b _ => by simp).symm
theorem zhH {n b : Nat} (p : Nat → Bool) (h : b < n) : (xJ n p).set (b / 64) (nth (xJ n p) (b / 64) ||| 2 ^ (b % 64)) = xJ n fun x => p x || decide (x = b) := by
 have hb := UJ h
 refine zG (by simp [yF]) fun i hi => ?_
 rw [List.length_set, yF] at hi
 rw [yY (by rw [yF]; exact hi), xK _ hi, xK _ hi, xK _ hb]
 have hlt := Ym p i
 split
 ·rename_i e
  subst e
  refine Xq ?_ fun j hj => ?_
  ·exact Nat.or_lt_two_pow (n := 64) hlt (Nat.pow_lt_pow_right (by omega) (Nat.mod_lt _ (by omega)))
  ·rw [Nat.testBit_or, Yl _ _ hj, Nat.testBit_two_pow]
   congr 1
   have h2 : 64 * (b / 64) + b % 64 = b := Nat.div_add_mod b 64
   exact decide_eq_decide.2 ⟨fun e => by omega, fun e => by omega⟩
 ·rename_i e
  refine Xq hlt fun j hj => ?_
  rw [Yl _ _ hj, decide_eq_false (show ¬ 64 * i + j = b from fun e2 => e (by omega)), Bool.or_false]
def Zx (A B : List Nat) (k : Nat) : List Nat := (List.range A.length).map fun i => if i < k then nth A i ||| nth B i else nth A i
theorem xA (A B : List Nat) (k : Nat) : (Zx A B k).length = A.length := by simp [Zx]
theorem Zn {A B : List Nat} {k i : Nat} (h : i < A.length) : nth (Zx A B k) i = if i < k then nth A i ||| nth B i else nth A i := by
 unfold Zx
 rw [zn (by simpa using h)]
 simp
theorem zdF (A B : List Nat) : Zx A B 0 = A := by
 refine zG (xA A B 0) fun i hi => ?_
 rw [xA] at hi
 rw [Zn hi, if_neg (by omega)]
theorem zdE {A B : List Nat} {k : Nat} (h : k < A.length) : Zx A B (k + 1) = (Zx A B k).set k (nth (Zx A B k) k ||| nth B k) := by
 refine zG (by simp [xA]) fun i hi => ?_
 rw [xA] at hi
 rw [Zn hi, yY (by rw [xA]; exact hi), Zn hi, Zn h, if_neg (Nat.lt_irrefl k)]
 by_cases e : k = i
 ·subst e; rw [if_pos rfl, if_pos (by omega)]
 ·rw [if_neg e]
  by_cases h2 : i < k
  ·rw [if_pos h2, if_pos (by omega)]
  ·rw [if_neg h2, if_neg (by omega)]
theorem zfN (n : Nat) (p q : Nat → Bool) : Zx (xJ n p) (xJ n q) (xm n) = xJ n fun x => p x || q x := by
 refine zG (by simp [xA, yF]) fun i hi => ?_
 rw [xA, yF] at hi
 rw [Zn (by rw [yF]; exact hi), if_pos hi, xK _ hi, xK _ hi, xK _ hi]
 refine Xq (Nat.or_lt_two_pow (n := 64) (Ym p i) (Ym q i)) fun j hj => ?_
 rw [Nat.testBit_or, Yl _ _ hj, Yl _ _ hj]
theorem zeK {n : Nat} {p : Nat → Bool} : ∀ w ∈ xJ n p, w < 18446744073709551616 := fun w hw => by
 obtain ⟨i, _, rfl⟩ := List.mem_map.1 hw
 exact Ym p i
theorem zjV {z : Nat} (h : z < 18446744073709551616) : IntKind.u64.wrap (z : Int) = z := by
 show (z : Int) % (2 ^ 64 : Int) = z
 exact Int.emod_eq_of_lt (by omega) (by have : (2 : Int) ^ 64 = 18446744073709551616 := by decide
                                        omega)
theorem zkm {w k : Nat} (hw : w < 18446744073709551616) (hk : k < 64) : IntKind.u64.wrap ((BitVec.ofInt IntKind.u64.bits ((w : Int).fdiv (2 ^ (min k IntKind.u64.bits))) &&& BitVec.ofInt IntKind.u64.bits 1).toNat : Int) = ((if w.testBit k then 1 else 0 : Nat) : Int) := by
 have hm : min k IntKind.u64.bits = k := by show min k 64 = k; omega
 rw [hm, Int.fdiv_eq_ediv_of_nonneg _ (Int.pow_nonneg (by decide))]
 have e1 : (w : Int) / 2 ^ k = ((w / 2 ^ k : Nat) : Int) := by rw [Int.natCast_ediv, Int.natCast_pow]; rfl
 rw [e1, BitVec.ofInt_natCast, show (1 : Int) = ((1 : Nat) : Int) from rfl, BitVec.ofInt_natCast, BitVec.toNat_and, BitVec.toNat_ofNat, BitVec.toNat_ofNat]
 show IntKind.u64.wrap (((w / 2 ^ k % 2 ^ 64) &&& (1 % 2 ^ 64) : Nat) : Int) = _
 rw [Nat.mod_eq_of_lt (Nat.lt_of_le_of_lt (Nat.div_le_self _ _) hw), show 1 % 2 ^ 64 = 1 by decide, Nat.and_one_is_mod, zjV (Nat.lt_of_lt_of_le (Nat.mod_lt _ (by omega)) (by omega)), Nat.testBit_eq_decide_div_mod_eq]
 congr 1
 have := Nat.mod_lt (w / 2 ^ k) (show 2 > 0 by omega)
 by_cases h : w / 2 ^ k % 2 = 1
 ·simp [h]
 ·simp only [h, decide_false]
  rw [if_neg (by decide)]
  omega
theorem orU {a b : Nat} (ha : a < 18446744073709551616) (hb : b < 18446744073709551616) : IntKind.u64.wrap ((BitVec.ofInt IntKind.u64.bits (a : Int) ||| BitVec.ofInt IntKind.u64.bits (b : Int)).toNat : Int) = ((a ||| b : Nat) : Int) := by
 rw [BitVec.ofInt_natCast, BitVec.ofInt_natCast, BitVec.toNat_or, BitVec.toNat_ofNat, BitVec.toNat_ofNat]
 show IntKind.u64.wrap (((a % 2 ^ 64) ||| (b % 2 ^ 64) : Nat) : Int) = _
 rw [Nat.mod_eq_of_lt ha, Nat.mod_eq_of_lt hb, zjV (Nat.or_lt_two_pow (n := 64) ha hb)]
theorem zk7 {k : Nat} (hk : k < 64) : IntKind.u64.wrap (1 * 2 ^ (min k IntKind.u64.bits)) = ((2 ^ k : Nat) : Int) := by
 have hm : min k IntKind.u64.bits = k := by show min k 64 = k; omega
 rw [hm, Int.one_mul, show (2 : Int) ^ k = ((2 ^ k : Nat) : Int) by rw [Int.natCast_pow]; rfl]
 exact zjV (Nat.pow_lt_pow_right (by omega) hk)
end Go.Proofs.Ytbeebjdnapkhhaa
