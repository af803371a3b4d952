/-
  slices.DeleteFunc of ints, at plain values.
-/
import Derived.Test.YtfegkbmnclhljaaZK
import Derived.Test.YtfegkbmnclhljaaZD
import Derived.Test.YtfegkbmnclhljaaZFmW
namespace Go.Proofs.Ytfegkbmnclhljaa
set_option linter.unusedVariables false
open Go.RowKit

theorem findAt_cases (p : Int → Bool) (r : List Int) : ∀ k i : Nat, (findAt p r k i = -1 ∧ ∀ q, i ≤ q → q < i + k → p (nth r q) = false) ∨ ∃ j : Nat, i ≤ j ∧ j < i + k ∧ findAt p r k i = j ∧ p (nth r j) = true ∧ ∀ q, i ≤ q → q < j → p (nth r q) = false
  | 0, i => .inl ⟨rfl, fun q h1 h2 => by omega⟩
  | k + 1, i => by
    unfold findAt
    by_cases h : p (nth r i) = true
    · rw [if_pos h]
      exact .inr ⟨i, Nat.le_refl _, by omega, rfl, h, fun q h1 h2 => by omega⟩
    · rw [if_neg h]
      have h' : p (nth r i) = false := by simpa using h
      rcases findAt_cases p r k (i + 1) with ⟨h1, h2⟩ | ⟨j, h1, h2, h3, h4, h5⟩
      · refine .inl ⟨h1, fun q q1 q2 => ?_⟩
        by_cases e : q = i
        · subst e; exact h'
        · exact h2 q (by omega) (by omega)
      · refine .inr ⟨j, by omega, by omega, h3, h4, fun q q1 q2 => ?_⟩
        by_cases e : q = i
        · subst e; exact h'
        · exact h5 q (by omega) q2
def keepL (p : Int → Bool) (r : List Int) : List Int := r.filter fun x => !p x
theorem keepL_none {p : Int → Bool} {r : List Int} (h : ∀ q, q < r.length → p (nth r q) = false) : keepL p r = r := by
  unfold keepL
  rw [List.filter_eq_self]
  intro x hx
  obtain ⟨q, hq, rfl⟩ := List.getElem_of_mem hx
  have := h q hq
  rw [nth_eq hq] at this
  rw [this]; rfl
theorem keepL_take {p : Int → Bool} {r : List Int} {j : Nat} (hj : j < r.length) : keepL p (r.take (j + 1)) = keepL p (r.take j) ++ if p (nth r j) = true then [] else [nth r j] := by
  unfold keepL
  rw [List.take_succ_eq_append_getElem hj, List.filter_append, ← nth_eq hj]
  congr 1
  by_cases h : p (nth r j) = true
  · simp [h]
  · simp [h]
theorem keepL_len (p : Int → Bool) (r : List Int) (j : Nat) : (keepL p (r.take j)).length ≤ j := by
  unfold keepL
  have h1 : ((r.take j).filter fun x => !p x).length ≤ (r.take j).length := List.length_filter_le _ _
  have h2 : (r.take j).length ≤ j := by rw [List.length_take]; omega
  omega
def delAt (p : Int → Bool) (r : List Int) (j : Nat) : List Int := keepL p (r.take j) ++ r.drop (keepL p (r.take j)).length
theorem delAt_len {p : Int → Bool} {r : List Int} {j : Nat} (hj : j ≤ r.length) : (delAt p r j).length = r.length := by
  have := keepL_len p r j
  unfold delAt
  rw [List.length_append, List.length_drop]
  omega
theorem delAt_nth {p : Int → Bool} {r : List Int} {j : Nat} (hj : j < r.length) : nth (delAt p r j) j = nth r j := by
  have h := keepL_len p r j
  have hl := delAt_len (p := p) (r := r) (j := j) (by omega)
  rw [nth_eq (by omega), nth_eq hj]
  simp only [delAt]
  rw [List.getElem_append_right h, List.getElem_drop]
  congr 1
  omega
theorem delAt_keep {p : Int → Bool} {r : List Int} {j : Nat} (hj : j < r.length) (hp : p (nth r j) = false) : (delAt p r j).set (keepL p (r.take j)).length (nth r j) = delAt p r (j + 1) := by
  have h := keepL_len p r j
  unfold delAt
  rw [keepL_take hj, if_neg (by rw [hp]; decide), List.set_append_right _ _ (Nat.le_refl _), Nat.sub_self, List.append_assoc]
  congr 1
  rw [List.length_append, List.length_singleton, List.drop_eq_getElem_cons (show (keepL p (r.take j)).length < r.length by omega)]
  rfl
theorem delAt_skip {p : Int → Bool} {r : List Int} {j : Nat} (hj : j < r.length) (hp : p (nth r j) = true) : delAt p r (j + 1) = delAt p r j := by
  unfold delAt
  rw [keepL_take hj, if_pos hp, List.append_nil]
theorem delAt_start {p : Int → Bool} {r : List Int} {j : Nat} (hj : j < r.length) (hp : p (nth r j) = true) (h0 : ∀ q, q < j → p (nth r q) = false) : keepL p (r.take (j + 1)) = r.take j ∧ delAt p r (j + 1) = r := by
  have e : keepL p (r.take j) = r.take j := keepL_none fun q hq => by
    rw [List.length_take] at hq
    have : nth (r.take j) q = nth r q := by rw [nth_eq (by rw [List.length_take]; exact hq), nth_eq (by omega), List.getElem_take]
    rw [this]; exact h0 q (by omega)
  have e2 : keepL p (r.take (j + 1)) = r.take j := by rw [keepL_take hj, if_pos hp, List.append_nil, e]
  refine ⟨e2, ?_⟩
  unfold delAt
  rw [e2, List.length_take, Nat.min_eq_left (by omega), List.take_append_drop]
set_option maxHeartbeats 4000000 in
theorem deleteFunc_specL (v : Nat) (r : List Int) (cf : Nat) (caps : List FV) (p : Int → Bool) (hr : r.length ≤ 1000000) (hp : ∀ x ∈ r, Spec Try.prog cf ([.int .i64 x] ++ caps) .fr (.bool (p x))) :
    SpecL Try.prog 36 [.own 5000 v 0 r.length, .fn cf caps] [(5000, ⟨v, .own, 3, 1, r.map intf⟩)] [] (fun res o => res = .own 5000 v 0 (keepL p r).length ∧ o 5000 = ⟨v, .own, 3, 1, (keepL p r ++ List.replicate (r.length - (keepL p r).length) 0).map intf⟩) := by
  refine SpecL.of_body (c := (cxOf Try.prog tyAt_ok mixed_ok 42)) ⟨Try.func36, rfl, Try.ntmps36, by kernel_rfl⟩ (by exact Nat.le_of_ble_eq_true rfl) ?_ ?_
  · rintro res o ⟨rfl, h⟩; exact lendPost1 (v := v) rfl (by rw [h]) (by rw [h]) rfl
  change FW _ _ _ ⟨[(0, .own 5000 v 0 r.length), (1, .fn cf caps)], [(5000, ⟨v, .own, 3, 1, r.map intf⟩)]⟩
  (repeat (first | refine FW.seq ?_ | refine FW.region ?_ | refine RunN.nil ?_ | refine rn_assign rfl rfl rfl ?_ | refine rn_move rfl rfl rfl ?_))
  refine rn_call (indexFunc_spec r cf caps p hr hp) (by repeat (first | exact ArgsR.nil | refine ArgsR.cons (by first | exact ArgR.plain rfl rfl | exact ArgR.own rfl rfl (by decide) (by first | exact (fun _ => rfl) | (intro h; cases h)) (by first | rfl | (simp; done) | (congr 1; omega) | (simp; omega) | (simp [List.take_of_length_le]; done) | (refine congrArg (FV.int .i64) ?_; omega))) ?_)) rfl rfl ?_
  rcases findAt_cases p r r.length 0 with ⟨h1, h2⟩ | ⟨j0, _, h2, h3, h4, h5⟩
  · have hk := keepL_none (p := p) (r := r) fun q hq => h2 q (Nat.zero_le _) (by omega)
    rw [hk, Nat.sub_self, show findIx p r = -1 from h1, show r ++ List.replicate 0 0 = r by simp]
    (repeat (first | refine FW.seq ?_ | refine FW.region ?_ | refine FW.condT rfl ?_ | refine RunN.nil ?_ | refine rn_assign rfl rfl rfl ?_ | refine rn_move rfl rfl rfl ?_ | refine rn_eql rfl rfl rfl rfl ?_))
    exact FW.ret ⟨.inl rfl, _, .tmp rfl rfl, rfl, rfl⟩
  · have hj0 : j0 < r.length := by omega
    obtain ⟨s1, s2⟩ := delAt_start hj0 h4 fun q hq => h5 q (Nat.zero_le _) hq
    rw [show findIx p r = (j0 : Int) from h3]
    obtain ⟨n, hn⟩ : ∃ n, r.length = n := ⟨_, rfl⟩
    rw [hn] at hr hj0 ⊢
    (repeat (first | refine FW.seq ?_ | refine FW.region ?_ | refine FW.block ?_ | refine FW.skip ?_ | refine FW.condF rfl ?_ | refine RunN.nil ?_ | refine rn_assign rfl rfl rfl ?_ | refine rn_move rfl rfl rfl ?_ | refine rn_eql rfl rfl rfl rfl ?_ | refine rn_add rfl rfl (by omega) rfl rfl ?_))
    refine FW.loop (fun j : Nat => ⟨[(0, .own 5000 v 0 n), (1, .fn cf caps), (5, .int .i64 (keepL p (r.take j)).length), (6, .int .i64 j)], [(5000, ⟨v, .own, 3, 1, (delAt p r j).map intf⟩)]⟩) (fun j => j ≤ n ∧ (keepL p (r.take j)).length < j) (fun j => n - j) (j0 + 1) ⟨by omega, by rw [s1, List.length_take]; omega⟩ ?_ ?_
    · rw [s1, s2, List.length_take, Nat.min_eq_left (by omega)]
      exact (FLe.conv [⟨5000, some 5000, v, ⟨v, .own, 3, 1, r.map intf⟩⟩] (by simp) (by simp) rfl (by repeat (first | exact GhOk.nil | refine GhOk.low rfl ?_ | refine GhOk.same rfl ?_ | refine GhOk.bump (Nat.lt_succ_self _) ?_)) (by repeat (first | exact EntsOk.nil | refine EntsOk.old rfl (by decide) rfl ?_)) (by repeat (first | exact SlC.nil | refine SlC.cons (.plain rfl rfl rfl) ?_ | refine SlC.cons (.own rfl (.head _) rfl rfl) ?_)))
    rintro j ⟨hj, hkj⟩
    have hdl := delAt_len (p := p) (r := r) (j := j) (by omega)
    have hdn := fun h : j < r.length => delAt_nth (p := p) h
    have hks := fun h : j < r.length => keepL_take (p := p) h
    have hdk := fun (h : j < r.length) (hp : p (nth r j) = false) => delAt_keep h hp
    have hds := fun (h : j < r.length) (hp : p (nth r j) = true) => delAt_skip h hp
    have hlast : j = n → keepL p (r.take j) = keepL p r ∧ delAt p r j = keepL p r ++ r.drop (keepL p r).length := fun e => by
      have e1 : keepL p (r.take j) = keepL p r := by rw [e, ← hn, List.take_length]
      exact ⟨e1, by unfold delAt; rw [e1]⟩
    generalize delAt p r j = D at hdl hdn hdk hds hlast
    generalize keepL p (r.take j) = K at hkj hks hdk hlast
    (repeat (first | refine FW.seq ?_ | refine FW.region ?_ | refine RunN.nil ?_ | refine rn_move rfl rfl rfl ?_ | refine rn_lenOwn rfl rfl rfl (by decide) rfl rfl ?_ | refine rn_lss rfl rfl rfl rfl ?_))
    refine FW.cond rfl (fun hc => ?_) (fun hc => ?_)
    · have hlt : j < n := by simpa using hc
      have hlr : j < r.length := by omega
      clear hc hlast
      have hdn := hdn hlr
      have hks := hks hlr
      have hpj := hp (nth r j) (nth_mem hlr)
      have hjD : j < D.length := by omega
      (repeat (first | refine FW.seq ?_ | refine FW.region ?_ | refine FW.block ?_ | refine FW.skip ?_ | refine RunN.nil ?_ | refine rn_assign rfl rfl rfl ?_ | refine rn_move rfl rfl rfl ?_ | refine rn_indexO rfl rfl rfl rfl rfl rfl (by decide) rfl (by first | omega | (simp; omega)) rfl rfl ?_ | refine rn_loadP rfl rfl rfl rfl rfl (by first | omega | (simp; omega)) (by first | exact getD_map (by omega) | rfl) rfl rfl rfl rfl ?_))
      rw [hdn]
      skip
      refine rn_callV rfl hpj (by repeat (first | exact ArgsR.nil | refine ArgsR.cons (by exact ArgR.plain rfl rfl) ?_)) rfl rfl ?_
      (repeat (first | refine RunN.nil ?_ | refine rn_not rfl rfl rfl ?_))
      cases hb : p (nth r j) with
      | true =>
        rw [if_pos hb, List.append_nil] at hks
        have hds := hds hlr hb
        (repeat (first | refine FW.region ?_ | refine FW.skip ?_ | refine FW.condF rfl ?_ | refine RunN.nil ?_ | refine rn_assign rfl rfl rfl ?_ | refine rn_move rfl rfl rfl ?_ | refine rn_add rfl rfl (by omega) rfl rfl ?_))
        refine ⟨j + 1, ⟨by omega, by rw [hks]; omega⟩, by omega, ?_⟩
        rw [hks, hds]
        exact (FLe.conv [⟨5000, some 5000, v, ⟨v, .own, 3, 1, D.map intf⟩⟩] (by simp) (by simp) rfl (by repeat (first | exact GhOk.nil | refine GhOk.low rfl ?_ | refine GhOk.same rfl ?_ | refine GhOk.bump (Nat.lt_succ_self _) ?_)) (by repeat (first | exact EntsOk.nil | refine EntsOk.old rfl (by decide) rfl ?_)) (by repeat (first | exact SlC.nil | refine SlC.cons (.plain rfl rfl rfl) ?_ | refine SlC.cons (.own rfl (.head _) rfl rfl) ?_)))
      | false =>
        rw [if_neg (by rw [hb]; decide)] at hks
        have hdk := hdk hlr hb
        have hKD : K.length < D.length := by omega
        (repeat (first | refine FW.seq ?_ | refine FW.region ?_ | refine FW.condT rfl ?_ | refine RunN.nil ?_ | refine rn_assign rfl rfl rfl ?_ | refine rn_move rfl rfl rfl ?_ | refine rn_add rfl rfl (by omega) rfl rfl ?_ | refine rn_indexO rfl rfl rfl rfl rfl rfl (by decide) rfl (by first | omega | (simp; omega)) rfl rfl ?_ | refine rn_storeR rfl rfl rfl rfl rfl rfl (by first | omega | (simp; omega)) (by first | exact getD_map (by omega) | rfl) rfl rfl rfl ?_))
        rw [show (intf (nth D K.length)).set 0 (.int .i64 (nth r j)) = intf (nth r j) from rfl, ← List.map_set, hdk]
        refine ⟨j + 1, ⟨by omega, by rw [hks]; simp; omega⟩, by omega, ?_⟩
        rw [hks, List.length_append, List.length_singleton]
        generalize delAt p r (j + 1) = D2
        exact (FLe.conv [⟨5000, some 5000, v, ⟨v, .own, 3, 1, D2.map intf⟩⟩] (by simp) (by simp) rfl (by repeat (first | exact GhOk.nil | refine GhOk.low rfl ?_ | refine GhOk.same rfl ?_ | refine GhOk.bump (Nat.lt_succ_self _) ?_)) (by repeat (first | exact EntsOk.nil | refine EntsOk.old rfl (by decide) rfl ?_)) (by repeat (first | exact SlC.nil | refine SlC.cons (.plain rfl rfl rfl) ?_ | refine SlC.cons (.own rfl (.head _) rfl rfl) ?_)))
    · obtain rfl : j = n := by simp at hc; omega
      obtain ⟨e1, e2⟩ := hlast rfl
      subst e1
      have hsp : splice (D.map intf) (0 + (keepL p r).length) (List.replicate (j - (keepL p r).length) [FV.int .i64 0]) = (keepL p r ++ List.replicate (j - (keepL p r).length) 0).map intf := by
        rw [e2]
        unfold splice
        rw [Nat.zero_add, List.map_append, List.take_left' (List.length_map _), List.drop_of_length_le (by simp; omega), List.append_nil, List.map_append, List.map_replicate]
        rfl
      (repeat (first | refine FW.seq ?_ | refine FW.region ?_ | refine FW.exit ?_ | refine rn_move rfl rfl rfl ?_ | refine rn_sliceO rfl rfl rfl rfl (by decide) rfl (by exact LoR.some rfl) (by exact HiR.none) (by omega) (by omega) rfl rfl ?_))
      refine rn_clear rfl rfl rfl rfl rfl rfl (by omega) rfl ?_
      rw [hsp]
      (repeat (first | refine FW.seq ?_ | refine FW.region ?_ | refine RunN.nil ?_ | refine rn_assign rfl rfl rfl ?_ | refine rn_move rfl rfl rfl ?_ | refine rn_sliceO rfl rfl rfl rfl (by decide) rfl (by exact LoR.none) (by exact HiR.some rfl) (by omega) (by omega) rfl rfl ?_))
      exact FW.ret ⟨.inl rfl, _, .tmp rfl rfl, rfl, rfl⟩
end Go.Proofs.Ytfegkbmnclhljaa
