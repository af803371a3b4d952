/-
  Other keys and other elements: the verdict changes in its argument alone.
-/
import Derived.Test.YthijndjgchbeoaaFmOnce11
import Derived.Test.YthijndjgchbeoaaBentH
namespace Go.Proofs.Ythijndjgchbeoaa
set_option linter.unusedVariables false

theorem pushIx_eq {l l' : List OpV} {a b a' b' : Int} (hl : l'.length = l.length) (h : ∀ j, j < l.length → isPushOf a' b' (nth l' j) = isPushOf a b (nth l j)) : pushIx l' a' b' = pushIx l a b := by
  rcases pushIx_or l a b with ⟨h1, h2⟩ | ⟨k, h1, h2, h3, h4⟩
  · rw [h1]; exact pushIx_none fun j hj => by rw [h j (by omega)]; exact h2 j (by omega)
  · rw [h1]; exact pushIx_at (by omega) (by rw [h k h2]; exact h3) fun j hj => by rw [h j (by omega)]; exact h4 j hj
theorem firstIx_eq {l l' : List OpV} {i : Nat} (hl : l'.length = l.length) (hi : i < l.length) (h : ∀ j, j < i → isDelOf (nth l' i) (nth l' j) = isDelOf (nth l i) (nth l j)) : firstIx l' i = firstIx l i := by
  rcases firstIx_or hi with ⟨h1, h2⟩ | ⟨h1, h2, h3⟩
  · rw [h1]; exact firstIx_none (by omega) fun j hj => by rw [h j hj]; exact h2 j hj
  · exact firstIx_at (by omega) h1 (by rw [h _ h1]; exact h2) fun j hj => by rw [h j (by omega)]; exact h3 j hj

section
variable {key b : Int}
theorem ren_val {x : Int} (hb : 0 ≤ b) (hx : 0 ≤ x) : (if x ≠ 0 then b + 3 * x else x) = 0 ↔ x = 0 := by
  by_cases h : x = 0
  · simp [h]
  · rw [if_pos h]; omega
theorem ren_inj {x y : Int} (hb : 0 ≤ b) (hx : 0 ≤ x) (hy : 0 < y) : ((if x ≠ 0 then b + 3 * x else x) = (if y ≠ 0 then b + 3 * y else y)) ↔ x = y := by
  rw [if_pos (show y ≠ 0 by omega)]
  by_cases h : x = 0
  · rw [if_neg (by simp [h])]; omega
  · rw [if_pos h]; omega
theorem ren_isDel {o : OpV} (hb : 0 ≤ b) (ho : 0 ≤ o.res) : isDel (renOp key b o) = isDel o := by
  unfold isDel renOp
  dsimp only
  congr 1
  rw [decide_eq_decide]
  exact not_congr (ren_val hb ho)
theorem ren_push {o p : OpV} {v : Int} (hb : 0 ≤ b) (hp : 0 ≤ p.arg) (hv : 0 < v) : isPushOf (renOp key b o).key (if v ≠ 0 then b + 3 * v else v) (renOp key b p) = isPushOf o.key v p := by
  unfold isPushOf renOp
  dsimp only
  congr 2
  · rw [decide_eq_decide]; omega
  · rw [decide_eq_decide]; exact ren_inj hb hp hv
theorem ren_delOf {o p : OpV} (hb : 0 ≤ b) (hp : 0 ≤ p.res) (ho : 0 < o.res) : isDelOf (renOp key b o) (renOp key b p) = isDelOf o p := by
  unfold isDelOf
  rw [ren_isDel hb hp]
  congr 1
  congr 1
  · rw [decide_eq_decide]; show key - 2 * p.key = key - 2 * o.key ↔ _; omega
  · rw [decide_eq_decide]; exact ren_inj hb hp ho
theorem ren_miss {o p : OpV} (hb : 0 ≤ b) (hp : 0 ≤ p.res) (ho : 0 < o.arg) : delOf (renOp key b o) (renOp key b p) = delOf o p := by
  unfold delOf
  rw [ren_isDel hb hp]
  congr 1
  congr 1
  · rw [decide_eq_decide]; show key - 2 * p.key = key - 2 * o.key ↔ _; omega
  · rw [decide_eq_decide]; exact ren_inj hb hp ho
theorem nth_ren {l : List OpV} {j : Nat} (hj : j < l.length) : nth (l.map (renOp key b)) j = renOp key b (nth l j) := by
  rw [nth_eq (by simpa using hj), nth_eq hj]; simp

def renV (key : Int) (v : VerV) : VerV := if v.cls = 0 then v else { v with arg := key - 2 * v.arg }
variable {l : List OpV}
theorem ren_verAt (hb : 0 ≤ b) (hs : ∀ o ∈ l, 0 ≤ o.arg ∧ 0 ≤ o.res) {i : Nat} (hi : i < l.length) : verAt (l.map (renOp key b)) i = (verAt l i).map (renV key) := by
  have hlen : (l.map (renOp key b)).length = l.length := by simp
  have so := hs _ (nth_mem hi)
  have e1 : isDel (nth (l.map (renOp key b)) i) = isDel (nth l i) := by rw [nth_ren hi, ren_isDel hb so.2]
  unfold verAt
  rw [e1]
  by_cases hd : isDel (nth l i) = false
  · rw [if_pos hd, if_pos hd]; rfl
  · have hd' : isDel (nth l i) = true := by simpa using hd
    have hres : 0 < (nth l i).res := by
      simp only [isDel, Bool.and_eq_true, decide_eq_true_eq] at hd'
      have := hd'.2
      omega
    have e2 : pushIx (l.map (renOp key b)) (nth (l.map (renOp key b)) i).key (nth (l.map (renOp key b)) i).res = pushIx l (nth l i).key (nth l i).res := by
      refine pushIx_eq hlen fun j hj => ?_
      rw [nth_ren hi, nth_ren hj]
      exact ren_push hb (hs _ (nth_mem hj)).1 hres
    have e3 : firstIx (l.map (renOp key b)) i = firstIx l i := by
      refine firstIx_eq hlen hi fun j hj => ?_
      rw [nth_ren hi, nth_ren (by omega)]
      exact ren_delOf hb (hs _ (nth_mem (show j < l.length by omega))).2 hres
    rw [if_neg hd, if_neg hd, e2, e3, nth_ren hi]
    rcases pushIx_or l (nth l i).key (nth l i).res with ⟨p1, _⟩ | ⟨k, p1, p2, _, _⟩
    · rw [p1, if_pos (show (-1 : Int) < 0 by decide), if_pos (show (-1 : Int) < 0 by decide)]; rfl
    · rw [p1, if_neg (show ¬ ((k : Int) < 0) by omega), if_neg (show ¬ ((k : Int) < 0) by omega), Int.toNat_natCast]
      have e4 : bef (l.map (renOp key b)) i k = bef l i k := by unfold bef; rw [nth_ren hi, nth_ren p2]; rfl
      rw [e4]
      by_cases hbf : bef l i k = true
      · rw [if_pos hbf, if_pos hbf]; rfl
      · rw [if_neg hbf, if_neg hbf]
        by_cases hf : firstIx l i < i
        · rw [if_pos hf, if_pos hf]; rfl
        · rw [if_neg hf, if_neg hf]; rfl
theorem ren_from (hb : 0 ≤ b) (hs : ∀ o ∈ l, 0 ≤ o.arg ∧ 0 ≤ o.res) : ∀ (n i : Nat), i + n ≤ l.length → verFrom (l.map (renOp key b)) i n = renV key (verFrom l i n)
  | 0, _, _ => rfl
  | n + 1, i, h => by
    rw [verFrom, verFrom, ren_verAt hb hs (show i < l.length by omega), ren_from hb hs n (i + 1) (by omega)]
    cases verAt l i <;> rfl
theorem ren_once (hb : 0 ≤ b) (hs : ∀ o ∈ l, 0 ≤ o.arg ∧ 0 ≤ o.res) : onceV (l.map (renOp key b)) = renV key (onceV l) := by
  unfold onceV
  rw [List.length_map]
  exact ren_from hb hs _ 0 (by omega)
theorem ren_dom (hb : 0 ≤ b) (hs : ∀ o ∈ l, 0 ≤ o.arg ∧ 0 ≤ o.res) (hd : dom24 l) : dom24 (l.map (renOp key b)) := by
  intro i hi
  have hi' : i < l.length := by simpa using hi
  unfold okAt
  rw [nth_ren hi']
  rcases hd i hi' with h1 | ⟨h1, h2, h3⟩
  · exact .inl h1
  · have ha := (hs _ (nth_mem hi')).1
    refine .inr ⟨h1, fun h => h2 ((ren_val hb ha).1 h), fun j hj => ?_⟩
    rw [nth_ren (by omega)]
    have := ren_push (key := key) (b := b) (o := nth l i) (p := nth l j) (v := (nth l i).arg) hb (hs _ (nth_mem (show j < l.length by omega))).1 (by omega)
    exact this.trans (h3 j hj)
theorem ren_missing (hb : 0 ≤ b) (hs : ∀ o ∈ l, 0 ≤ o.arg ∧ 0 ≤ o.res) (hd : dom24 l) : missTo (l.map (renOp key b)) (l.map (renOp key b)).length = missTo l l.length := by
  unfold missTo
  rw [List.length_map]
  congr 1
  refine List.filter_congr fun i hi => ?_
  have hi' : i < l.length := by simpa using hi
  unfold isMiss
  rw [nth_ren hi', List.length_map]
  show (decide ((nth l i).k = 3) && ((nth l i).done && !anyDel (l.map (renOp key b)) (renOp key b (nth l i)) l.length)) = _
  by_cases h3 : (nth l i).k = 3
  · have ha := (hs _ (nth_mem hi')).1
    have hne : (nth l i).arg ≠ 0 := by
      rcases hd i hi' with h0 | ⟨_, h0, _⟩
      · omega
      · exact h0
    congr 3
    unfold anyDel
    rw [Bool.eq_iff_iff, range_any, range_any]
    constructor
    · rintro ⟨j, hj, h⟩
      rw [nth_ren hj, ren_miss hb (hs _ (nth_mem hj)).2 (by omega)] at h
      exact ⟨j, hj, h⟩
    · rintro ⟨j, hj, h⟩
      refine ⟨j, hj, ?_⟩
      rw [nth_ren hj, ren_miss hb (hs _ (nth_mem hj)).2 (by omega)]
      exact h
  · simp [h3]
end
end Go.Proofs.Ythijndjgchbeoaa
