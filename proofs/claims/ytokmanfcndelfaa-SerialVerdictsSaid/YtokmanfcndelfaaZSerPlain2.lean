/-
  Serializability: the verdict, in plain Lean.
-/
import Derived.Test.YtokmanfcndelfaaZSerPlain
import Derived.Test.YtokmanfcndelfaaZAcyPlain
namespace Go.Proofs.Ytokmanfcndelfaa
set_option linter.unusedVariables false

theorem zee (l : List OpV) (strict : Bool) : InN l.length (prs (yj l strict)) := fun e he => by
 have := zgQ.1 (show (e.1, e.2) ∈ _ from he)
 exact ⟨this.1, this.2.1⟩
section
variable {l : List OpV} {strict : Bool}
end

structure zcM where
 check : Int
 cls : Int
 arg : Int
 ord : List Int
 ed : List EdV
 deriving DecidableEq
def Yb (l : List OpV) (key v : Int) : Bool := l.any fun o => decide (o.k = 2) && decide (o.key = key) && decide (o.arg = v)
def zaf (l : List OpV) (v : Nat) : Bool := zV (nth l v) && decide ((nth l v).res ≠ 0) && !Yb l (nth l v).key (nth l v).res
def Yl (p : Nat → Bool) : Nat → Nat → Option Nat
 | 0, _ => none
 | k + 1, i => if p i = true then some i else Yl p k (i + 1)
theorem VC {p : Nat → Bool} : ∀ {k i v : Nat}, Yl p k i = some v → i ≤ v ∧ v < i + k ∧ p v = true
 | 0, _, _, h => by cases h
 | k + 1, i, v, h => by
  unfold Yl at h
  split at h
  ·rename_i hp
   injection h with h
   subst h
   exact ⟨Nat.le_refl _, by omega, hp⟩
  ·obtain ⟨h1, h2, h3⟩ := VC h
   exact ⟨by omega, by omega, h3⟩
theorem VB {p : Nat → Bool} : ∀ {k i : Nat}, Yl p k i = none → ∀ v, i ≤ v → v < i + k → p v = false
 | 0, _, _, v, _, _ => by omega
 | k + 1, i, h, v, h1, h2 => by
  unfold Yl at h
  split at h
  ·cases h
  ·rename_i hp
   by_cases e : v = i
   ·subst e; simpa using hp
   ·exact VB h v (by omega) (by omega)
theorem UI {l : List OpV} {key v : Int} : Yb l key v = true ↔ ∃ w, w < l.length ∧ (nth l w).k = 2 ∧ (nth l w).key = key ∧ (nth l w).arg = v := by
 unfold Yb
 rw [List.any_eq_true]
 constructor
 ·rintro ⟨o, ho, h⟩
  obtain ⟨w, hw, rfl⟩ := List.getElem_of_mem ho
  simp only [Bool.and_eq_true, decide_eq_true_eq] at h
  exact ⟨w, hw, by rw [nth_eq hw]; exact h.1.1, by rw [nth_eq hw]; exact h.1.2, by rw [nth_eq hw]; exact h.2⟩
 ·rintro ⟨w, hw, h1, h2, h3⟩
  exact ⟨_, zI hw, by simp [h1, h2, h3]⟩
def YA (l : List OpV) : Option Nat := Yl (zaf l) l.length 0
def hd0 (l : List Int) : Int := nth l 0
def WD (l : List OpV) (strict : Bool) (c : List Int) (k : Nat) : List EdV := (List.range k).map fun i => ((nth c i).toNat, (nth c ((i + 1) % c.length)).toNat, hd0 (xK l strict (nth c i).toNat (nth c ((i + 1) % c.length)).toNat))
def cOf (strict : Bool) : Int := if strict = true then 4 else 3
def yH (l : List OpV) (strict : Bool) : List Int := xm (prs (yj l strict)) l.length
def Ub (l : List OpV) (strict : Bool) : List Int := (yB l.length (prs (yj l strict))).filter fun x => zV (nth l x.toNat)
def zfC (l : List OpV) (strict : Bool) : zcM :=
 match YA l with
 | some v => ⟨cOf strict, 2, (nth l v).key, [(v : Int)], []⟩
 | none => if yH l strict = [] then ⟨cOf strict, 0, 0, Ub l strict, []⟩ else ⟨cOf strict, 5, (nth l (nth (yH l strict) 0).toNat).key, [], WD l strict (yH l strict) (yH l strict).length⟩
end Go.Proofs.Ytokmanfcndelfaa
