/-
  The plain law of histories: what history.Of computes is what the reference computes, for observations of sequential processes.
-/
import Derived.Test.YthijndjgchbeoaaHistOf
import Derived.Test.YthijndjgchbeoaaObserved
namespace Go.Proofs.Ythijndjgchbeoaa
set_option linter.unusedVariables false

/-- the invocations among the first k observations -/
def callsOf (obs : List ObsV) (k : Nat) : List Nat := (List.range k).filter fun i => !(nth obs i).reply
theorem callsOf_reply {obs : List ObsV} {k : Nat} (h : (nth obs k).reply = true) : callsOf obs (k + 1) = callsOf obs k := by simp [callsOf, List.range_succ, h]
theorem callsOf_call {obs : List ObsV} {k : Nat} (h : (nth obs k).reply = false) : callsOf obs (k + 1) = callsOf obs k ++ [k] := by simp [callsOf, List.range_succ, h]
theorem callsOf_len (obs : List ObsV) (k : Nat) : (callsOf obs k).length = invs obs k := by
  induction k with
  | zero => rfl
  | succ k ih =>
    cases h : (nth obs k).reply with
    | true => rw [callsOf_reply h, ih]; simp [invs, h]
    | false => rw [callsOf_call h]; simp [invs, h, ih]
theorem callsOf_at (obs : List ObsV) : ∀ (k j : Nat) (hj : j < (callsOf obs k).length), invs obs (callsOf obs k)[j] = j ∧ (callsOf obs k)[j] < k ∧ (nth obs (callsOf obs k)[j]).reply = false := by
  intro k
  induction k with
  | zero => intro j hj; simp [callsOf] at hj
  | succ k ih =>
    intro j hj
    cases h : (nth obs k).reply with
    | true =>
      simp only [callsOf_reply h] at hj ⊢
      obtain ⟨h1, h2, h3⟩ := ih j hj
      exact ⟨h1, by omega, h3⟩
    | false =>
      simp only [callsOf_call h] at hj ⊢
      by_cases hlt : j < (callsOf obs k).length
      · rw [List.getElem_append_left hlt]
        obtain ⟨h1, h2, h3⟩ := ih j hlt
        exact ⟨h1, by omega, h3⟩
      · have e : j = (callsOf obs k).length := by simp at hj; omega
        subst e
        simp only [List.getElem_concat_length]
        exact ⟨(callsOf_len obs k).symm, by omega, h⟩

theorem hOfTo_eq (obs : List ObsV) (reqs : List ReqV) (hs : ObsSeq obs) : ∀ k, k ≤ obs.length → hOfTo obs reqs k = (callsOf obs k).map fun i => loopFT (opStep obs i) (opBase obs reqs i) (i + 1) k := by
  intro k
  induction k with
  | zero => intro _; rfl
  | succ k ih =>
    intro hk
    have ih := ih (by omega)
    have e : hOfTo obs reqs (k + 1) = hStep obs reqs k (hOfTo obs reqs k) := rfl
    have hq := hs k (by omega)
    cases h : (nth obs k).reply with
    | false =>
      rw [e, hStep_call h, callsOf_call h, List.map_append, ih]
      congr 1
      · refine List.map_congr_left fun i hi => ?_
        have hik : i < k := by simpa using (List.mem_filter.1 hi).1
        rw [loopFT_step _ _ (by omega), opStep_no (by simp [h])]
      · simp [loopFT_lo]
    | true =>
      rw [if_pos h] at hq
      obtain ⟨q, hq2⟩ : ∃ q : Nat, (nth obs k).req = q := ⟨(nth obs k).req.toNat, by omega⟩
      have hlen : (callsOf obs k).length = invs obs k := callsOf_len obs k
      have hql : q < (callsOf obs k).length := by omega
      rw [e, hStep_reply h hq2, callsOf_reply h]
      apply List.ext_getElem
      · simp [ih]
      · intro j h1 h2
        have hj : j < (callsOf obs k).length := by simpa using h2
        obtain ⟨c1, c2, c3⟩ := callsOf_at obs k j hj
        have hr := hs _ (show (callsOf obs k)[j] < obs.length by omega)
        rw [if_neg (by rw [c3]; simp), c1] at hr
        rw [List.getElem_set, List.getElem_map, loopFT_step _ _ (by omega)]
        by_cases hjq : q = j
        · subst hjq
          rw [if_pos rfl, opStep_yes h (by rw [hq2, hr]), ih, nth_eq (by simpa using hql), List.getElem_map]
        · rw [if_neg hjq, opStep_no (by rintro ⟨_, hh⟩; rw [hq2, hr] at hh; exact hjq (by omega))]
          simp only [ih, List.getElem_map]

theorem refOf_eq (obs : List ObsV) (reqs : List ReqV) : ∀ k, refOfTo obs reqs k = (callsOf obs k).map (opOf obs reqs) := by
  intro k
  induction k with
  | zero => rfl
  | succ k ih =>
    cases h : (nth obs k).reply with
    | true => rw [refOfTo_skip h, callsOf_reply h, ih]
    | false => rw [refOfTo_more h, callsOf_call h, ih, List.map_append]; rfl

theorem hOf_refOf (obs : List ObsV) (reqs : List ReqV) (hs : ObsSeq obs) : hOf obs reqs = refOf obs reqs := by
  rw [hOf, refOf, refOf_eq, hOfTo_eq obs reqs hs _ (Nat.le_refl _)]
  rfl

/-! ### the observations made from numbers are of sequential processes -/
structure ObGood (k : Nat) (s : ObSt) : Prop where
  ok : ObOk k s
  seq : ObsSeq s.obs
  cnt : invs s.obs s.obs.length = s.reqs.length
  all : ∀ o ∈ s.obs, 0 ≤ o.req ∧ o.req < s.reqs.length ∧ 0 ≤ o.node ∧ o.node ≤ 1 ∧ 0 ≤ o.epoch ∧ o.epoch ≤ k

theorem invs_append (l m : List ObsV) (k : Nat) (h : k ≤ l.length) : invs (l ++ m) k = invs l k := by
  induction k with
  | zero => rfl
  | succ k ih => simp only [invs]; rw [ih (by omega), nth_append_left (by omega)]
theorem obsSeq_snoc {l : List ObsV} {o : ObsV} (h : ObsSeq l) (ho : if o.reply then 0 ≤ o.req ∧ o.req < invs l l.length else o.req = invs l l.length) : ObsSeq (l ++ [o]) := by
  intro i hi
  by_cases hlt : i < l.length
  · rw [nth_append_left hlt, invs_append _ _ _ (by omega)]; exact h i hlt
  · have e : i = l.length := by simp at hi; omega
    subst e
    rw [nth_append_len, invs_append _ _ _ (Nat.le_refl _)]
    exact ho
theorem invs_snoc (l : List ObsV) (o : ObsV) : invs (l ++ [o]) (l ++ [o]).length = invs l l.length + if o.reply then 0 else 1 := by
  rw [List.length_append, List.length_singleton, invs, invs_append _ _ _ (Nat.le_refl _), nth_append_len]

theorem obTo_good (l : List Int) (k : Nat) : ObGood k (obTo l k) := by
  induction k with
  | zero => exact ⟨obTo_ok l 0, by intro i hi; simp [obTo, loopN, obInit] at hi, rfl, by simp [obTo, loopN, obInit]⟩
  | succ k ih =>
    have hok := obTo_ok l (k + 1)
    have hs : obTo l (k + 1) = obStep l k (obTo l k) := rfl
    rw [hs] at hok ⊢
    generalize obTo l k = s at ih hok
    obtain ⟨⟨h1, h2, h3, h4, h5, h6⟩, hq, hc, ha⟩ := ih
    revert hok
    unfold obStep
    generalize around (nth l k) 1000000 = n
    have hp : (n % 2).toNat < 2 := by omega
    generalize (n % 2).toNat = p at hp
    intro hok
    have hep := h5 _ (nth_mem (l := s.ep) (i := p) (by omega))
    have hwt := h6 _ (nth_mem (l := s.wt) (i := p) (by omega))
    by_cases hcr : n / 2 % 9 = 8
    · rw [obNum_crash hcr] at hok ⊢
      exact ⟨hok, hq, hc, fun o ho => by have := ha o ho; dsimp only; omega⟩
    · by_cases hw : nth s.wt p < 0
      · rw [obNum_call hcr hw] at hok ⊢
        refine ⟨hok, obsSeq_snoc hq (by simp [hc]), ?_, fun o ho => ?_⟩
        · dsimp only; rw [invs_snoc, hc]; simp
        · simp only [List.mem_append, List.mem_singleton] at ho
          rcases ho with ho | rfl
          · have := ha o ho; simp only [List.length_append, List.length_singleton]; omega
          · simp only [List.length_append, List.length_singleton]; omega
      · rw [obNum_reply hcr hw] at hok ⊢
        refine ⟨hok, obsSeq_snoc hq (by simp [hc]; omega), ?_, fun o ho => ?_⟩
        · dsimp only; rw [invs_snoc, hc]; simp
        · simp only [List.mem_append, List.mem_singleton] at ho
          rcases ho with ho | rfl
          · have := ha o ho; dsimp only; omega
          · dsimp only; omega

theorem observed_seq (l : List Int) : ObsSeq (observed l).obs := (obTo_good l _).seq
theorem observed_ok (l : List Int) : ObsOk (observed l).obs (observed l).reqs := by
  have h := obTo_good l (min l.length 30)
  have h1 := h.ok.lo
  have h2 := h.ok.lr
  refine ⟨?_, ?_, fun o ho => ?_⟩
  · show (obTo l (min l.length 30)).obs.length ≤ _; omega
  · show (obTo l (min l.length 30)).reqs.length ≤ _; omega
  · have := h.all o ho
    show 0 ≤ o.req ∧ o.req < (obTo l (min l.length 30)).reqs.length ∧ _
    omega
theorem observed_same (l : List Int) : hOf (observed l).obs (observed l).reqs = refOf (observed l).obs (observed l).reqs := hOf_refOf _ _ (observed_seq l)
end Go.Proofs.Ythijndjgchbeoaa
