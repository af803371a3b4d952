/-
  Lists of operations that are histories, told by pairs; what keeps them so.
-/
import Derived.Test.YthijndjgchbeoaaCheckBase
import Derived.Test.YthijndjgchbeoaaAround
namespace Go.Proofs.Ythijndjgchbeoaa
set_option linter.unusedVariables false

/-- two operations of a history, the first ahead of the second in the list -/
def hRel (a b : OpV) : Prop := a.call < b.call ∧ (a.done = true → a.ret ≠ b.call ∧ (b.done = true → b.ret ≠ a.ret)) ∧ (a.p = b.p → a.done = true ∧ a.ret ≤ b.call)
structure WFH (l : List OpV) : Prop where
  len : l.length ≤ 300
  wf : ∀ o ∈ l, wfB o = true
  rel : l.Pairwise hRel

theorem WFH.pair {l : List OpV} (h : WFH l) {i j : Nat} (hij : i < j) (hj : j < l.length) : hRel (nth l i) (nth l j) := by
  rw [nth_eq hj, nth_eq (show i < l.length by omega)]
  exact List.pairwise_iff_getElem.1 h.rel i j (by omega) hj hij
theorem WFH.at {l : List OpV} (h : WFH l) {i : Nat} (hi : i < l.length) : wfB (nth l i) = true := h.wf _ (nth_mem hi)
theorem wfB_call {o : OpV} (h : wfB o = true) : o.call < o.ret := by
  simp only [wfB, Bool.and_eq_true, decide_eq_true_eq] at h
  omega
theorem WFH.err {l : List OpV} (h : WFH l) {k : Nat} (hk : k < l.length) : errK l k = 0 := by
  unfold errK
  rw [if_neg (by rw [h.at hk]; decide)]
  rw [if_neg (fun e => by have := (h.pair (show k - 1 < k by omega) hk).1; omega)]
  rw [if_neg (fun e => ?_), if_neg (fun e => ?_)]
  · obtain ⟨e1, e2⟩ := e
    obtain ⟨q, hq⟩ := Option.isSome_iff_exists.1 e1
    rw [hq] at e2
    simp only [Option.getD_some] at e2
    obtain ⟨m, hm, hmq, hmp⟩ := lastOf_some hq
    subst hmq
    obtain ⟨h1, h2⟩ := (h.pair hm hk).2.2 hmp
    rcases e2 with e2 | e2
    · rw [h1] at e2; cases e2
    · omega
  · have ret : ∀ x, retB l k x = true → ∃ m, m < k ∧ (nth l m).done = true ∧ (nth l m).ret = x := fun x hx => by
      unfold retB at hx
      obtain ⟨m, h1, _, h3⟩ := any_take hx
      simp only [Bool.and_eq_true, beq_iff_eq] at h3
      exact ⟨m, h1, h3⟩
    simp only [Bool.or_eq_true, Bool.and_eq_true] at e
    rcases e with e | ⟨hd, e | e⟩
    · obtain ⟨m, h1, h2, h3⟩ := ret _ e
      exact ((h.pair h1 hk).2.1 h2).1 h3
    · obtain ⟨m, h1, h2, h3⟩ := ret _ e
      exact ((h.pair h1 hk).2.1 h2).2 hd h3.symm
    · unfold callB at e
      obtain ⟨j, _, hj, h3⟩ := any_take e
      simp only [beq_iff_eq] at h3
      have hc := wfB_call (h.at hk)
      rcases Nat.lt_trichotomy j k with h4 | h4 | h4
      · have := (h.pair h4 hk).1; omega
      · subst h4; omega
      · exact ((h.pair h4 hj).2.1 hd).1 h3.symm
theorem WFH.check {l : List OpV} (h : WFH l) : hCheck l = 0 := by
  unfold hCheck
  rw [if_neg (by have := h.len; omega)]
  exact hCheckFrom_zero _ _ fun j _ hj => h.err (by omega)

/-- a part of a history is a history -/
theorem WFH.sub {l l' : List OpV} (h : WFH l) (hs : l'.Sublist l) : WFH l' := ⟨Nat.le_trans hs.length_le h.len, fun o ho => h.wf o (hs.subset ho), h.rel.sublist hs⟩
theorem WFH.filter {l : List OpV} (h : WFH l) (f : OpV → Bool) : WFH (l.filter f) := h.sub List.filter_sublist
/-- the key, the argument and a given result do not matter -/
theorem WFH.map {l : List OpV} (h : WFH l) (f : OpV → OpV) (hf : ∀ o, (f o).p = o.p ∧ (f o).k = o.k ∧ (f o).call = o.call ∧ (f o).ret = o.ret ∧ (f o).done = o.done ∧ (o.res = 0 → (f o).res = 0)) : WFH (l.map f) := by
  refine ⟨by rw [List.length_map]; exact h.len, fun o ho => ?_, ?_⟩
  · obtain ⟨x, hx, rfl⟩ := List.mem_map.1 ho
    have hw := h.wf x hx
    obtain ⟨h1, h2, h3, h4, h5, h6⟩ := hf x
    simp only [wfB, Bool.and_eq_true, Bool.or_eq_true, decide_eq_true_eq] at hw ⊢
    rw [h1, h2, h3, h4, h5]
    exact ⟨hw.1, hw.2.imp id h6⟩
  · rw [List.pairwise_map]
    refine h.rel.imp fun {a b} hab => ?_
    obtain ⟨a1, _, a3, a4, a5, _⟩ := hf a
    obtain ⟨b1, _, b3, b4, b5, _⟩ := hf b
    unfold hRel at hab ⊢
    rw [a1, a3, a4, a5, b1, b3, b4, b5]
    exact hab
theorem WFH.set {l : List OpV} (h : WFH l) {i : Nat} (hi : i < l.length) {o : OpV} (hf : o.p = (nth l i).p ∧ o.k = (nth l i).k ∧ o.call = (nth l i).call ∧ o.ret = (nth l i).ret ∧ o.done = (nth l i).done ∧ ((nth l i).done = false → o.res = (nth l i).res)) : WFH (l.set i o) := by
  obtain ⟨h1, h2, h3, h4, h5, h6⟩ := hf
  have hw := h.at hi
  refine ⟨by simpa using h.len, fun x hx => ?_, ?_⟩
  · rcases List.mem_or_eq_of_mem_set hx with hx | rfl
    · exact h.wf x hx
    · simp only [wfB, Bool.and_eq_true, Bool.or_eq_true, decide_eq_true_eq] at hw ⊢
      rw [h1, h2, h3, h4, h5]
      refine ⟨hw.1, ?_⟩
      cases hd : (nth l i).done with
      | true => exact .inl rfl
      | false => right; rw [h6 hd]; rw [hd] at hw; simpa using hw.2
  · have key : ∀ j, j < l.length → (nth (l.set i o) j).p = (nth l j).p ∧ (nth (l.set i o) j).call = (nth l j).call ∧ (nth (l.set i o) j).ret = (nth l j).ret ∧ (nth (l.set i o) j).done = (nth l j).done := fun j hj => by
      by_cases e : i = j
      · subst e; rw [nth_set_same hi]; exact ⟨h1, h3, h4, h5⟩
      · rw [nth_set_other e]; exact ⟨rfl, rfl, rfl, rfl⟩
    rw [List.pairwise_iff_getElem]
    intro a b ha hb hab
    have ha' : a < l.length := by simpa using ha
    have hb' : b < l.length := by simpa using hb
    have hp := h.pair hab hb'
    rw [← nth_eq ha, ← nth_eq hb]
    obtain ⟨a1, a2, a3, a4⟩ := key a ha'
    obtain ⟨b1, b2, b3, b4⟩ := key b hb'
    unfold hRel at hp ⊢
    rw [a1, a2, a3, a4, b1, b2, b3, b4]
    exact hp
end Go.Proofs.Ythijndjgchbeoaa
