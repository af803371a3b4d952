/-
  The maps of layer 24 and what is looked up there, at plain values.
-/
import Derived.Test.YthijndjgchbeoaaOnceKey
import Derived.Test.YthijndjgchbeoaaHistQ2
namespace Go.Proofs.Ythijndjgchbeoaa
set_option linter.unusedVariables false
open Go.RowKit

/-- the pushes before index i, by their elements -/
def pushRows (l : List OpV) (i : Nat) : List (List FV) := ((List.range i).filter fun j => decide ((nth l j).k = 3)).map fun j => [kfOf (nth l j).key (nth l j).arg, .int .i64 (j : Int)]
/-- the deliveries before index i, by their elements -/
def delRows (l : List OpV) (i : Nat) : List (List FV) := ((List.range i).filter fun j => isDel (nth l j)).map fun j => [kfOf (nth l j).key (nth l j).res, .int .i64 (j : Int)]
theorem pushRows_zero (l : List OpV) : pushRows l 0 = [] := rfl
theorem delRows_zero (l : List OpV) : delRows l 0 = [] := rfl
theorem pushRows_succ (l : List OpV) (i : Nat) : pushRows l (i + 1) = pushRows l i ++ if (nth l i).k = 3 then [[kfOf (nth l i).key (nth l i).arg, .int .i64 (i : Int)]] else [] := by
  unfold pushRows
  rw [List.range_succ, List.filter_append, List.map_append]
  congr 1
  by_cases h : (nth l i).k = 3 <;> simp [h]
theorem delRows_succ (l : List OpV) (i : Nat) : delRows l (i + 1) = delRows l i ++ if isDel (nth l i) = true then [[kfOf (nth l i).key (nth l i).res, .int .i64 (i : Int)]] else [] := by
  unfold delRows
  rw [List.range_succ, List.filter_append, List.map_append]
  congr 1
  by_cases h : isDel (nth l i) = true <;> simp [h]
theorem kfOf_inj {a b c d : Int} (h : kfOf a b = kfOf c d) : a = c ∧ b = d := by
  unfold kfOf at h
  injection h with h
  injection h with h1 h2
  injection h2 with h2 _
  injection h1 with _ h1
  injection h2 with _ h2
  exact ⟨h1, h2⟩
theorem pushRows_key {l : List OpV} {i : Nat} (hi : i ≤ l.length) (hin : ∀ o ∈ l, OpIn o) : ∀ row ∈ pushRows l i, ∀ kf, row.head? = some kf → KeyF Try.prog 80 kf := fun row hr kf hk => by
  obtain ⟨j, hj, rfl⟩ := List.mem_map.1 hr
  have hj' : j < i := by simpa using (List.mem_filter.1 hj).1
  have ho := hin _ (nth_mem (show j < l.length by omega))
  injection hk with hk
  subst hk
  exact keyFE ho.2.2.1 ho.2.2.2.1
theorem delRows_key {l : List OpV} {i : Nat} (hi : i ≤ l.length) (hin : ∀ o ∈ l, OpIn o) : ∀ row ∈ delRows l i, ∀ kf, row.head? = some kf → KeyF Try.prog 80 kf := fun row hr kf hk => by
  obtain ⟨j, hj, rfl⟩ := List.mem_map.1 hr
  have hj' : j < i := by simpa using (List.mem_filter.1 hj).1
  have ho := hin _ (nth_mem (show j < l.length by omega))
  injection hk with hk
  subst hk
  exact keyFE ho.2.2.1 ho.2.2.2.2.1
/-- a push of the element before index i -/
theorem pushRows_mem {l : List OpV} {i j : Nat} {a b : Int} (hj : j < i) (h : isPushOf a b (nth l j) = true) : [kfOf a b, .int .i64 (j : Int)] ∈ pushRows l i := by
  rw [isPushOf_iff] at h
  exact List.mem_map.2 ⟨j, List.mem_filter.2 ⟨by simpa using hj, by simpa using h.1⟩, by rw [h.2.1, h.2.2]⟩
theorem pushRows_none {l : List OpV} {i : Nat} {a b : Int} (h : ∀ j, j < i → isPushOf a b (nth l j) = false) : ∀ row ∈ pushRows l i, row.head? ≠ some (kfOf a b) := fun row hr he => by
  obtain ⟨j, hj, rfl⟩ := List.mem_map.1 hr
  obtain ⟨h1, h2⟩ := List.mem_filter.1 hj
  injection he with he
  obtain ⟨e1, e2⟩ := kfOf_inj he
  have := h j (by simpa using h1)
  rw [show isPushOf a b (nth l j) = true from isPushOf_iff.2 ⟨by simpa using h2, e1, e2⟩] at this
  cases this
theorem delRows_mem {l : List OpV} {i j : Nat} {o : OpV} (hj : j < i) (h : isDelOf o (nth l j) = true) : [kfOf o.key o.res, .int .i64 (j : Int)] ∈ delRows l i := by
  simp only [isDelOf, Bool.and_eq_true, decide_eq_true_eq] at h
  exact List.mem_map.2 ⟨j, List.mem_filter.2 ⟨by simpa using hj, h.1⟩, by rw [h.2.1, h.2.2]⟩
theorem delRows_none {l : List OpV} {i : Nat} {o : OpV} (h : ∀ j, j < i → isDelOf o (nth l j) = false) : ∀ row ∈ delRows l i, row.head? ≠ some (kfOf o.key o.res) := fun row hr he => by
  obtain ⟨j, hj, rfl⟩ := List.mem_map.1 hr
  obtain ⟨h1, h2⟩ := List.mem_filter.1 hj
  injection he with he
  obtain ⟨e1, e2⟩ := kfOf_inj he
  have := h j (by simpa using h1)
  rw [show isDelOf o (nth l j) = true by simp [isDelOf, h2, e1, e2]] at this
  cases this
/-- what is found of an element among all pushes -/
def pushFound (l : List OpV) (a b : Int) : Int := if 0 ≤ pushIx l a b then pushIx l a b else 0
theorem look_push (l : List OpV) (a b : Int) : MLook (pushRows l l.length) (kfOf a b) (.int .i64 0) (.int .i64 (pushFound l a b)) (decide (0 ≤ pushIx l a b)) := by
  unfold pushFound
  rcases pushIx_or l a b with ⟨h1, h2⟩ | ⟨k, h1, h2, h3, _⟩
  · rw [h1]
    exact .inr ⟨rfl, rfl, pushRows_none h2⟩
  · rw [h1]
    refine .inl ⟨by simp, ?_⟩
    rw [if_pos (by omega)]
    exact pushRows_mem h2 h3
def delFound (l : List OpV) (i : Nat) : Int := if firstIx l i < i then (firstIx l i : Int) else 0
theorem look_del {l : List OpV} {i : Nat} (hi : i < l.length) : MLook (delRows l i) (kfOf (nth l i).key (nth l i).res) (.int .i64 0) (.int .i64 (delFound l i)) (decide (firstIx l i < i)) := by
  unfold delFound
  rcases firstIx_or hi with ⟨h1, h2⟩ | ⟨h1, h2, _⟩
  · rw [if_neg (by omega), decide_eq_false (by omega)]
    exact .inr ⟨rfl, rfl, delRows_none h2⟩
  · rw [if_pos h1, decide_eq_true h1]
    exact .inl ⟨rfl, delRows_mem h1 h2⟩
/-- the elements that were delivered before index i -/
def gotRows (l : List OpV) : Nat → List (List FV)
  | 0 => []
  | i + 1 => if isDel (nth l i) = true ∧ ¬ firstIx l i < i then gotRows l i ++ [[kfOf (nth l i).key (nth l i).res, .bool true]] else gotRows l i
theorem gotRows_mem {l : List OpV} : ∀ {i j : Nat}, i ≤ l.length → j < i → isDel (nth l j) = true → [kfOf (nth l j).key (nth l j).res, FV.bool true] ∈ gotRows l i
  | 0, _, _, hj, _ => absurd hj (Nat.not_lt_zero _)
  | i + 1, j, hi, hj, hd => by
    rw [gotRows]
    rcases Nat.lt_or_ge j i with h1 | h1
    · have ih := gotRows_mem (l := l) (i := i) (by omega) h1 hd
      split
      · exact List.mem_append_left _ ih
      · exact ih
    · have : j = i := by omega
      subst this
      by_cases hf : firstIx l j < j
      · rw [if_neg (fun h => h.2 hf)]
        rcases firstIx_or (show j < l.length by omega) with ⟨h2, _⟩ | ⟨_, h2, _⟩
        · omega
        · simp only [isDelOf, Bool.and_eq_true, decide_eq_true_eq] at h2
          have := gotRows_mem (l := l) (i := j) (by omega) hf h2.1
          rwa [h2.2.1, h2.2.2] at this
      · rw [if_pos ⟨hd, hf⟩]
        exact List.mem_append_right _ List.mem_cons_self
theorem gotRows_row {l : List OpV} : ∀ {i : Nat}, ∀ row ∈ gotRows l i, ∃ j, j < i ∧ isDel (nth l j) = true ∧ row = [kfOf (nth l j).key (nth l j).res, FV.bool true]
  | 0, row, h => absurd h (by simp [gotRows])
  | i + 1, row, h => by
    rw [gotRows] at h
    split at h
    · rename_i hc
      rcases List.mem_append.1 h with h | h
      · obtain ⟨j, h1, h2⟩ := gotRows_row row h
        exact ⟨j, by omega, h2⟩
      · rw [List.mem_singleton] at h
        exact ⟨i, by omega, hc.1, h⟩
    · obtain ⟨j, h1, h2⟩ := gotRows_row row h
      exact ⟨j, by omega, h2⟩
theorem gotRows_key {l : List OpV} {i : Nat} (hi : i ≤ l.length) (hin : ∀ o ∈ l, OpIn o) : ∀ row ∈ gotRows l i, ∀ kf, row.head? = some kf → KeyF Try.prog 80 kf := fun row hr kf hk => by
  obtain ⟨j, hj, _, rfl⟩ := gotRows_row row hr
  have ho := hin _ (nth_mem (show j < l.length by omega))
  injection hk with hk
  subst hk
  exact keyFE ho.2.2.1 ho.2.2.2.2.1
theorem gotRows_set {l : List OpV} {i : Nat} (hi : i < l.length) (hd : isDel (nth l i) = true) : MSet (gotRows l i) (kfOf (nth l i).key (nth l i).res) (.bool true) (gotRows l (i + 1)) := by
  by_cases hf : firstIx l i < i
  · left
    rcases firstIx_or hi with ⟨h2, _⟩ | ⟨_, h2, _⟩
    · omega
    · simp only [isDelOf, Bool.and_eq_true, decide_eq_true_eq] at h2
      have := gotRows_mem (l := l) (i := i) (by omega) hf h2.1
      rw [h2.2.1, h2.2.2] at this
      obtain ⟨j, hj, e⟩ := List.getElem_of_mem this
      refine ⟨j, .bool true, by rw [List.getElem?_eq_getElem hj, e], ?_⟩
      rw [gotRows, if_neg (fun h => h.2 hf), ← e, List.set_getElem_self]
  · right
    rcases firstIx_or hi with ⟨_, h2⟩ | ⟨h2, _⟩
    · refine ⟨fun row hr he => ?_, by rw [gotRows, if_pos ⟨hd, hf⟩]⟩
      obtain ⟨j, hj, hdj, rfl⟩ := gotRows_row row hr
      injection he with he
      obtain ⟨e1, e2⟩ := kfOf_inj he
      have := h2 j hj
      rw [show isDelOf (nth l i) (nth l j) = true by simp [isDelOf, hdj, e1, e2]] at this
      cases this
    · exact absurd h2 hf
theorem gotRows_skip {l : List OpV} {i : Nat} (hd : isDel (nth l i) = false) : gotRows l (i + 1) = gotRows l i := by
  rw [gotRows, if_neg (fun h => by rw [h.1] at hd; cases hd)]
theorem look_got (l : List OpV) (o : OpV) : MLook (gotRows l l.length) (kfOf o.key o.arg) (.bool false) (.bool (anyDel l o l.length)) (anyDel l o l.length) := by
  cases h : anyDel l o l.length with
  | true =>
    unfold anyDel at h
    rw [range_any] at h
    obtain ⟨j, hj, h1⟩ := h
    simp only [delOf, Bool.and_eq_true, decide_eq_true_eq] at h1
    have := gotRows_mem (l := l) (i := l.length) (Nat.le_refl _) hj h1.1
    rw [h1.2.1, h1.2.2] at this
    exact .inl ⟨rfl, this⟩
  | false =>
    refine .inr ⟨rfl, rfl, fun row hr he => ?_⟩
    obtain ⟨j, hj, hdj, rfl⟩ := gotRows_row row hr
    injection he with he
    obtain ⟨e1, e2⟩ := kfOf_inj he
    have : anyDel l o l.length = true := by
      unfold anyDel
      rw [range_any]
      exact ⟨j, hj, by simp [delOf, hdj, e1, e2]⟩
    rw [this] at h; cases h
end Go.Proofs.Ythijndjgchbeoaa
