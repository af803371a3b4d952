/-
  The reference's search: simproofref22.extend, Exists.
-/
import Derived.Test.YtfegkbmnclhljaaZFmSerL
namespace Go.Proofs.Ytfegkbmnclhljaa
set_option linter.unusedVariables false
open Go.RowKit

def stepB (l : List OpV) (s : Bool) (k : Nat) (o : List Int) (i : Nat) : Bool := !hasB o (i : Int) && incl22 (nth l i) && decide ((nth l i).res = valTo l (nth l i).key o) && extB l s k (o ++ [(i : Int)])
set_option maxHeartbeats 4000000 in
theorem extend_spec (l : List OpV) (s : Bool) (N : Nat) (hl : l.length ≤ 1000) (hN : N ≤ 1000) : ∀ (k : Nat) (o : List Int), o.length + k = N → (∀ x ∈ o, 0 ≤ x ∧ x < l.length) → Spec Try.prog 39 [.list 8 (l.map OpV.fv), .list 1 (o.map intf), .bool s, .int .i64 N] .fr (.bool (extB l s k o))
  | 0, o, hk, hr => by
    have hle := rLegal_spec l s o hl (by omega)
    rw [show extB l s 0 o = legalB l s o from rfl]
    obtain ⟨R, hR⟩ : ∃ R, legalB l s o = R := ⟨_, rfl⟩
    rw [hR] at hle ⊢
    refine Spec.of_body (c := (cxOf Try.prog tyAt_ok mixed_ok 95)) ⟨Try.func39, rfl, Try.ntmps39, by kernel_rfl⟩ (by simp [FV.hand]) (by exact Nat.le_of_ble_eq_true rfl) rfl ?_
    change FW _ _ _ ⟨[(0, .list 8 (l.map OpV.fv)), (1, .list 1 (o.map intf)), (2, .bool s), (3, .int .i64 N)], []⟩
    (repeat (first | refine FW.seq ?_ | refine FW.region ?_ | refine RunN.nil ?_ | refine rn_assign rfl rfl rfl ?_ | refine rn_move rfl rfl rfl ?_ | refine rn_lenList rfl rfl (by exact List.length_map _) rfl rfl ?_ | refine rn_eql rfl rfl rfl rfl ?_))
    refine FW.cond rfl (fun _ => ?_) (fun h => absurd h (by rw [decide_eq_true (show (o.length : Int) = N by omega)]; decide))
    (repeat (first | refine FW.seq ?_ | refine FW.region ?_ | refine rn_move rfl rfl rfl ?_))
    refine rn_call hle (by repeat (first | exact ArgsR.nil | refine ArgsR.cons (by exact ArgR.plain rfl rfl) ?_)) rfl rfl ?_
    (repeat (first | refine RunN.nil ?_ | refine rn_assign rfl rfl rfl ?_))
    exact FW.ret ⟨.inl rfl, ret_flat rfl rfl rfl rfl⟩
  | k + 1, o, hk, hr => by
    have ih := fun i (hi : i < l.length) => extend_spec l s N hl hN k (o ++ [(i : Int)]) (by simp; omega) (fun x hx => by
      rcases List.mem_append.1 hx with h | h
      · exact hr x h
      · obtain rfl := List.mem_singleton.1 h; omega)
    have hex : extB l s (k + 1) o = (List.range l.length).any (stepB l s k o) := rfl
    rw [hex]
    obtain ⟨R, hR⟩ : ∃ R, (List.range l.length).any (stepB l s k o) = R := ⟨_, rfl⟩
    rw [hR]
    have hno : o.length < N := by omega
    refine Spec.of_body (c := (cxOf Try.prog tyAt_ok mixed_ok 95)) ⟨Try.func39, rfl, Try.ntmps39, by kernel_rfl⟩ (by simp [FV.hand]) (by exact Nat.le_of_ble_eq_true rfl) rfl ?_
    change FW _ _ _ ⟨[(0, .list 8 (l.map OpV.fv)), (1, .list 1 (o.map intf)), (2, .bool s), (3, .int .i64 N)], []⟩
    (repeat (first | refine FW.seq ?_ | refine FW.region ?_ | refine RunN.nil ?_ | refine rn_assign rfl rfl rfl ?_ | refine rn_move rfl rfl rfl ?_ | refine rn_lenList rfl rfl (by exact List.length_map _) rfl rfl ?_ | refine rn_eql rfl rfl rfl rfl ?_))
    refine FW.cond rfl (fun h => absurd h (by simp; omega)) (fun _ => ?_)
    (repeat (first | refine FW.seq ?_ | refine FW.region ?_ | refine FW.block ?_ | refine FW.skip ?_ | refine RunN.nil ?_ | refine rn_assign rfl rfl rfl ?_))
    refine FW.loop (fun i : Nat => ⟨[(0, .list 8 (l.map OpV.fv)), (1, .list 1 (o.map intf)), (2, .bool s), (3, .int .i64 N), (9, .int .i64 i)], []⟩) (fun i => i ≤ l.length ∧ (List.range i).any (stepB l s k o) = false) (fun i => l.length - i) 0 ⟨Nat.zero_le _, rfl⟩ ?_ ?_
    · show FLe _ ⟨[(0, .list 8 (l.map OpV.fv)), (1, .list 1 (o.map intf)), (2, .bool s), (3, .int .i64 N), (9, .int .i64 0)], []⟩
      exact (FLe.conv [] (by simp) (by simp) rfl (by repeat (first | exact GhOk.nil | refine GhOk.low rfl ?_ | refine GhOk.same rfl ?_ | refine GhOk.bump (Nat.lt_succ_self _) ?_)) (by repeat (first | exact EntsOk.nil)) (by repeat (first | exact SlC.nil | refine SlC.cons (.plain rfl rfl rfl) ?_)))
    rintro i ⟨hi, hany⟩
    have hsu : (List.range (i + 1)).any (stepB l s k o) = stepB l s k o i := by rw [List.range_succ, List.any_append, hany]; simp
    have hst : stepB l s k o i = (!hasB o (i : Int) && incl22 (nth l i) && decide ((nth l i).res = valTo l (nth l i).key o) && extB l s k (o ++ [(i : Int)])) := rfl
    (repeat (first | refine FW.seq ?_ | refine FW.region ?_ | refine RunN.nil ?_ | refine rn_move rfl rfl rfl ?_ | refine rn_lenList rfl rfl (by exact List.length_map _) rfl rfl ?_ | refine rn_lss rfl rfl rfl rfl ?_))
    refine FW.cond rfl (fun hc => ?_) (fun hc => ?_)
    · have hlt : i < l.length := by simpa using hc
      have ih := ih i hlt
      (repeat (first | refine FW.seq ?_ | refine FW.region ?_ | refine FW.block ?_ | refine FW.skip ?_ | refine rn_move rfl rfl rfl ?_))
      refine rn_call (has_spec o i (by omega)) (by repeat (first | exact ArgsR.nil | refine ArgsR.cons (by exact ArgR.plain rfl rfl) ?_)) rfl rfl ?_
      cases hB : hasB o (i : Int) with
      | true =>
        rw [hB, Bool.not_true, Bool.false_and, Bool.false_and, Bool.false_and] at hst
        rw [hst] at hsu
        (repeat (first | refine FW.region ?_ | refine FW.exit ?_ | refine FW.condT rfl ?_ | refine RunN.nil ?_ | refine rn_assign rfl rfl rfl ?_ | refine rn_move rfl rfl rfl ?_ | refine rn_pickT rfl rfl rfl rfl ?_ | refine rn_add rfl rfl (by omega) rfl rfl ?_ | refine rn_skip rfl rfl ⟨_, _, rfl, rfl, rfl⟩ ?_))
        refine ⟨i + 1, ⟨by omega, hsu⟩, by omega, ?_⟩
        exact (FLe.conv [] (by simp) (by simp) rfl (by repeat (first | exact GhOk.nil | refine GhOk.low rfl ?_ | refine GhOk.same rfl ?_ | refine GhOk.bump (Nat.lt_succ_self _) ?_)) (by repeat (first | exact EntsOk.nil)) (by repeat (first | exact SlC.nil | refine SlC.cons (.plain rfl rfl rfl) ?_)))
      | false =>
      rw [hB, Bool.not_false, Bool.true_and] at hst
      (repeat (first | refine rn_move rfl rfl rfl ?_ | refine rn_move rfl rfl ⟨_, _, rfl, rfl, rfl⟩ ?_ | refine rn_indexL rfl rfl rfl rfl rfl rfl (by simp; omega) rfl ⟨_, _, rfl, rfl, rfl⟩ ?_ | refine rn_loadEA rfl rfl rfl (by decide) (by simp; omega) (by first | exact getD_map (by omega) | rfl) rfl rfl ⟨_, _, rfl, rfl, rfl⟩ ?_))
      obtain ⟨a, ha⟩ : ∃ a, nth l i = a := ⟨_, rfl⟩
      rw [ha] at hst ⊢
      refine rn_call (rIncl_spec a) (by repeat (first | exact ArgsR.nil | refine ArgsR.cons (by exact ArgR.plain rfl rfl) ?_)) rfl ⟨_, _, rfl, rfl, rfl⟩ ?_
      cases hA : incl22 a with
      | false =>
        rw [hA, Bool.false_and, Bool.false_and] at hst
        rw [hst] at hsu
        (repeat (first | refine FW.region ?_ | refine FW.exit ?_ | refine FW.condT rfl ?_ | refine RunN.nil ?_ | refine rn_assign rfl rfl rfl ?_ | refine rn_move rfl rfl rfl ?_ | refine rn_pickF rfl rfl rfl rfl ?_ | refine rn_add rfl rfl (by omega) rfl rfl ?_ | refine rn_not rfl rfl ⟨_, _, rfl, rfl, rfl⟩ ?_))
        refine ⟨i + 1, ⟨by omega, hsu⟩, by omega, ?_⟩
        exact (FLe.conv [] (by simp) (by simp) rfl (by repeat (first | exact GhOk.nil | refine GhOk.low rfl ?_ | refine GhOk.same rfl ?_ | refine GhOk.bump (Nat.lt_succ_self _) ?_)) (by repeat (first | exact EntsOk.nil)) (by repeat (first | exact SlC.nil | refine SlC.cons (.plain rfl rfl rfl) ?_)))
      | true =>
      rw [hA, Bool.true_and] at hst
      (repeat (first | refine FW.seq ?_ | refine FW.region ?_ | refine FW.block ?_ | refine FW.skip ?_ | refine FW.condF rfl ?_ | refine RunN.nil ?_ | refine rn_assign rfl rfl rfl ?_ | refine rn_pickF rfl rfl rfl rfl ?_ | refine rn_not rfl rfl ⟨_, _, rfl, rfl, rfl⟩ ?_))
      refine FW.loop (fun j : Nat => ⟨[(0, .list 8 (l.map OpV.fv)), (1, .list 1 (o.map intf)), (2, .bool s), (3, .int .i64 N), (9, .int .i64 i), (10, .int .i64 (valTo l a.key (o.take j))), (11, .int .i64 j)], []⟩) (fun j => j ≤ o.length) (fun j => o.length - j) 0 (Nat.zero_le _) ?_ ?_
      · show FLe _ ⟨[(0, .list 8 (l.map OpV.fv)), (1, .list 1 (o.map intf)), (2, .bool s), (3, .int .i64 N), (9, .int .i64 i), (10, .int .i64 0), (11, .int .i64 0)], []⟩
        exact (FLe.conv [] (by simp) (by simp) rfl (by repeat (first | exact GhOk.nil | refine GhOk.low rfl ?_ | refine GhOk.same rfl ?_ | refine GhOk.bump (Nat.lt_succ_self _) ?_)) (by repeat (first | exact EntsOk.nil)) (by repeat (first | exact SlC.nil | refine SlC.cons (.plain rfl rfl rfl) ?_)))
      intro j hj
      (repeat (first | refine FW.seq ?_ | refine FW.region ?_ | refine RunN.nil ?_ | refine rn_move rfl rfl rfl ?_ | refine rn_lenList rfl rfl (by exact List.length_map _) rfl rfl ?_ | refine rn_lss rfl rfl rfl rfl ?_))
      refine FW.cond rfl (fun hc3 => ?_) (fun hc3 => ?_)
      · have hjo : j < o.length := by simpa using hc3
        obtain ⟨w, hw⟩ : ∃ w : Nat, nth o j = w := ⟨(nth o j).toNat, by have := hr _ (nth_mem hjo); omega⟩
        have hwl : w < l.length := by have := hr _ (nth_mem hjo); omega
        have hvs := valTo_snoc l a.key (o.take j) (nth o j)
        rw [← take_snoc hjo, hw] at hvs
        obtain ⟨val, hval⟩ : ∃ q, valTo l a.key (o.take j) = q := ⟨_, rfl⟩
        rw [hval] at hvs ⊢
        unfold iswB at hvs
        rw [Int.toNat_natCast] at hvs
        (repeat (first | refine FW.seq ?_ | refine FW.block ?_ | refine FW.skip ?_ | refine FW.draw ?_ | refine rd_move rfl rfl rfl ?_ | refine rd_eql rfl rfl rfl rfl ?_ | refine rd_indexL rfl rfl (by first | rfl | exact (Int.toNat_of_nonneg (by omega)).symm) rfl rfl rfl (by simp; omega) rfl rfl ?_ | refine rd_loadE rfl rfl rfl (by simp; omega) (by first | exact getD_map (by omega) | rfl) rfl rfl rfl rfl ?_ | refine rd_fieldE rfl rfl rfl rfl rfl rfl rfl ?_))
        rw [hw]
        simp only [Int.toNat_natCast]
        refine rd_case (fun h5 => ?_) (fun h5 => ?_)
        · (repeat (first | refine RunD.nil ?_ | refine rd_pickT rfl rfl rfl rfl ?_ | refine rd_move rfl rfl ⟨_, _, rfl, rfl, rfl⟩ ?_ | refine rd_indexL rfl rfl (by first | rfl | exact (Int.toNat_of_nonneg (by omega)).symm) rfl rfl rfl (by simp; omega) rfl ⟨_, _, rfl, rfl, rfl⟩ ?_ | refine rd_loadE rfl rfl rfl (by simp; omega) (by first | exact getD_map (by omega) | rfl) rfl rfl rfl ⟨_, _, rfl, rfl, rfl⟩ ?_ | refine rd_fieldE rfl rfl rfl rfl rfl rfl ⟨_, _, rfl, rfl, rfl⟩ ?_ | refine rd_eql rfl rfl rfl ⟨_, _, rfl, rfl, rfl⟩ ?_))
          rw [hw]
          simp only [Int.toNat_natCast]
          refine ⟨by kernel_rfl, ?_⟩
          refine FW.cond rfl (fun h6 => ?_) (fun h6 => ?_)
          · have h6 : decide ((nth l w).key = a.key) = true := by rw [← ha]; exact h6
            rw [h5, h6, if_pos (by decide)] at hvs
            (repeat (first | refine FW.region ?_ | refine RunN.nil ?_ | refine rn_assign rfl rfl rfl ?_ | refine rn_move rfl rfl rfl ?_ | refine rn_indexL rfl rfl (by first | rfl | exact (Int.toNat_of_nonneg (by omega)).symm) rfl rfl rfl (by simp; omega) rfl rfl ?_ | refine rn_loadE rfl rfl rfl (by simp; omega) (by first | exact getD_map (by omega) | rfl) rfl rfl rfl rfl ?_ | refine rn_fieldE rfl rfl rfl rfl rfl rfl rfl ?_ | refine rn_add rfl rfl (by omega) rfl rfl ?_))
            rw [hw]
            simp only [Int.toNat_natCast]
            skip
            refine ⟨j + 1, by omega, by omega, ?_⟩
            rw [hvs]
            exact (FLe.conv [] (by simp) (by simp) rfl (by repeat (first | exact GhOk.nil | refine GhOk.low rfl ?_ | refine GhOk.same rfl ?_ | refine GhOk.bump (Nat.lt_succ_self _) ?_)) (by repeat (first | exact EntsOk.nil)) (by repeat (first | exact SlC.nil | refine SlC.cons (.plain rfl rfl rfl) ?_)))
          · have h6 : decide ((nth l w).key = a.key) = false := by rw [← ha]; exact h6
            rw [h5, h6, if_neg (by decide)] at hvs
            (repeat (first | refine FW.region ?_ | refine FW.skip ?_ | refine RunN.nil ?_ | refine rn_assign rfl rfl rfl ?_ | refine rn_move rfl rfl rfl ?_ | refine rn_add rfl rfl (by omega) rfl rfl ?_))
            refine ⟨j + 1, by omega, by omega, ?_⟩
            rw [hvs]
            exact (FLe.conv [] (by simp) (by simp) rfl (by repeat (first | exact GhOk.nil | refine GhOk.low rfl ?_ | refine GhOk.same rfl ?_ | refine GhOk.bump (Nat.lt_succ_self _) ?_)) (by repeat (first | exact EntsOk.nil)) (by repeat (first | exact SlC.nil | refine SlC.cons (.plain rfl rfl rfl) ?_)))
        · rw [h5, Bool.false_and, if_neg (by decide)] at hvs
          (repeat (first | refine RunD.nil ?_ | refine rd_pickF rfl rfl rfl rfl ?_ | refine rd_skip rfl rfl ⟨_, _, rfl, rfl, rfl⟩ ?_))
          refine ⟨by kernel_rfl, ?_⟩
          (repeat (first | refine FW.region ?_ | refine FW.skip ?_ | refine FW.condF rfl ?_ | refine RunN.nil ?_ | refine rn_assign rfl rfl rfl ?_ | refine rn_move rfl rfl rfl ?_ | refine rn_add rfl rfl (by omega) rfl rfl ?_))
          refine ⟨j + 1, by omega, by omega, ?_⟩
          rw [hvs]
          exact (FLe.conv [] (by simp) (by simp) rfl (by repeat (first | exact GhOk.nil | refine GhOk.low rfl ?_ | refine GhOk.same rfl ?_ | refine GhOk.bump (Nat.lt_succ_self _) ?_)) (by repeat (first | exact EntsOk.nil)) (by repeat (first | exact SlC.nil | refine SlC.cons (.plain rfl rfl rfl) ?_)))
      · obtain rfl : j = o.length := by simp at hc3; omega
        rw [List.take_length]
        (repeat (first | refine FW.seq ?_ | refine FW.region ?_ | refine FW.exit ?_ | refine rn_move rfl rfl rfl ?_ | refine rn_eql rfl rfl rfl rfl ?_ | refine rn_indexL rfl rfl rfl rfl rfl rfl (by simp; omega) rfl rfl ?_ | refine rn_loadE rfl rfl rfl (by simp; omega) (by first | exact getD_map (by omega) | rfl) rfl rfl rfl rfl ?_ | refine rn_fieldE rfl rfl rfl rfl rfl rfl rfl ?_))
        rw [ha]
        skip
        refine rn_case (fun h7 => ?_) (fun h7 => ?_)
        · rw [h7, Bool.true_and] at hst
          (repeat (first | refine rn_move rfl rfl ⟨_, _, rfl, rfl, rfl⟩ ?_ | refine rn_buildS0 rfl rfl rfl rfl rfl ⟨_, _, rfl, rfl, rfl⟩ ?_ | refine rn_buildS1 rfl rfl rfl rfl rfl rfl rfl ⟨_, _, rfl, rfl, rfl⟩ ?_ | refine rn_appO rfl rfl (by first | rfl | (simp; done) | (simp; omega)) rfl rfl rfl (by decide) (by first | exact SrcR.own rfl rfl (by decide) (by first | exact List.length_map _ | exact (List.length_map _).symm | exact List.length_replicate | rfl | (simp; done) | omega | (simp; omega)) | exact SrcR.list rfl) (by first | (simp; omega) | (simp; done)) (by first | (simp; omega) | (simp; done)) rfl rfl ⟨_, _, rfl, rfl, rfl⟩ ?_))
          have hap : [] ++ o.map intf ++ [[FV.int .i64 (i : Int)]] = (o ++ [(i : Int)]).map intf := by rw [List.nil_append, List.map_append]; rfl
          rw [hap]
          refine rn_call ih (by repeat (first | exact ArgsR.nil | refine ArgsR.cons (by first | exact ArgR.plain rfl rfl | exact ArgR.own rfl rfl (by decide) (by first | exact (fun _ => rfl) | (intro h; cases h)) (by first | rfl | (simp; done) | (congr 1; omega) | (simp; omega) | (simp [List.take_of_length_le]; done) | (refine congrArg (FV.int .i64) ?_; omega))) ?_)) rfl ⟨_, _, rfl, rfl, rfl⟩ ?_
          cases hX : extB l s k (o ++ [(i : Int)]) with
          | true =>
            rw [hX] at hst
            have : R = true := by rw [← hR]; exact List.any_eq_true.2 ⟨i, List.mem_range.2 hlt, hst⟩
            subst this
            (repeat (first | refine FW.seq ?_ | refine FW.region ?_ | refine FW.condT rfl ?_ | refine RunN.nil ?_ | refine rn_assign rfl rfl rfl ?_ | refine rn_pickT rfl rfl rfl rfl ?_))
            exact FW.ret ⟨.inl rfl, ret_flat rfl rfl rfl rfl⟩
          | false =>
            rw [hX] at hst
            rw [hst] at hsu
            (repeat (first | refine FW.region ?_ | refine FW.skip ?_ | refine FW.condF rfl ?_ | refine RunN.nil ?_ | refine rn_assign rfl rfl rfl ?_ | refine rn_move rfl rfl rfl ?_ | refine rn_pickT rfl rfl rfl rfl ?_ | refine rn_add rfl rfl (by omega) rfl rfl ?_))
            refine ⟨i + 1, ⟨by omega, hsu⟩, by omega, ?_⟩
            exact (FLe.conv [] (by simp) (by simp) rfl (by repeat (first | exact GhOk.nil | refine GhOk.low rfl ?_ | refine GhOk.same rfl ?_ | refine GhOk.bump (Nat.lt_succ_self _) ?_)) (by repeat (first | exact EntsOk.nil)) (by repeat (first | exact SlC.nil | refine SlC.cons (.plain rfl rfl rfl) ?_)))
        · rw [h7, Bool.false_and] at hst
          rw [hst] at hsu
          (repeat (first | refine FW.region ?_ | refine FW.skip ?_ | refine FW.condF rfl ?_ | refine RunN.nil ?_ | refine rn_assign rfl rfl rfl ?_ | refine rn_move rfl rfl rfl ?_ | refine rn_pickF rfl rfl rfl rfl ?_ | refine rn_add rfl rfl (by omega) rfl rfl ?_ | refine rn_skip rfl rfl ⟨_, _, rfl, rfl, rfl⟩ ?_))
          refine ⟨i + 1, ⟨by omega, hsu⟩, by omega, ?_⟩
          exact (FLe.conv [] (by simp) (by simp) rfl (by repeat (first | exact GhOk.nil | refine GhOk.low rfl ?_ | refine GhOk.same rfl ?_ | refine GhOk.bump (Nat.lt_succ_self _) ?_)) (by repeat (first | exact EntsOk.nil)) (by repeat (first | exact SlC.nil | refine SlC.cons (.plain rfl rfl rfl) ?_)))
    · obtain rfl : i = l.length := by simp at hc; omega
      rw [hany] at hR
      subst hR
      (repeat (first | refine FW.seq ?_ | refine FW.region ?_ | refine FW.exit ?_ | refine RunN.nil ?_ | refine rn_assign rfl rfl rfl ?_))
      exact FW.ret ⟨.inl rfl, ret_flat rfl rfl rfl rfl⟩
set_option maxHeartbeats 4000000 in
theorem exists_spec (l : List OpV) (s : Bool) (hl : l.length ≤ 1000) : Spec Try.prog 19 [.list 8 (l.map OpV.fv), .bool s] .fr (.bool (extB l s (cntI l) [])) := by
  have hNl : cntI l ≤ 1000 := by rw [← inclTo_all]; exact Nat.le_trans (inclTo_le l _) hl
  have hx := extend_spec l s (cntI l) hl hNl (cntI l) [] (by simp) (by simp)
  obtain ⟨R, hR⟩ : ∃ R, extB l s (cntI l) [] = R := ⟨_, rfl⟩
  rw [hR] at hx ⊢
  refine Spec.of_body (c := (cxOf Try.prog tyAt_ok mixed_ok 24)) ⟨Try.func19, rfl, Try.ntmps19, by kernel_rfl⟩ (by simp [FV.hand]) (by exact Nat.le_of_ble_eq_true rfl) rfl ?_
  change FW _ _ _ ⟨[(0, .list 8 (l.map OpV.fv)), (1, .bool s)], []⟩
  (repeat (first | refine FW.seq ?_ | refine FW.region ?_ | refine FW.block ?_ | refine RunN.nil ?_ | refine rn_assign rfl rfl rfl ?_))
  refine FW.loop (fun i : Nat => ⟨[(0, .list 8 (l.map OpV.fv)), (1, .bool s), (5, .int .i64 (inclTo l i)), (6, .int .i64 i)], []⟩) (fun i => i ≤ l.length) (fun i => l.length - i) 0 (Nat.zero_le _) ?_ ?_
  · show FLe _ ⟨[(0, .list 8 (l.map OpV.fv)), (1, .bool s), (5, .int .i64 0), (6, .int .i64 0)], []⟩
    exact (FLe.conv [] (by simp) (by simp) rfl (by repeat (first | exact GhOk.nil | refine GhOk.low rfl ?_ | refine GhOk.same rfl ?_ | refine GhOk.bump (Nat.lt_succ_self _) ?_)) (by repeat (first | exact EntsOk.nil)) (by repeat (first | exact SlC.nil | refine SlC.cons (.plain rfl rfl rfl) ?_)))
  intro i hi
  (repeat (first | refine FW.seq ?_ | refine FW.region ?_ | refine RunN.nil ?_ | refine rn_move rfl rfl rfl ?_ | refine rn_lenList rfl rfl (by exact List.length_map _) rfl rfl ?_ | refine rn_lss rfl rfl rfl rfl ?_))
  refine FW.cond rfl (fun hc => ?_) (fun hc => ?_)
  · have hlt : i < l.length := by simpa using hc
    have hst := inclTo_succ hlt
    have hle := inclTo_le l i
    (repeat (first | refine FW.seq ?_ | refine FW.region ?_ | refine FW.block ?_ | refine FW.skip ?_ | refine rn_move rfl rfl rfl ?_ | refine rn_indexL rfl rfl rfl rfl rfl rfl (by simp; omega) rfl rfl ?_ | refine rn_loadEA rfl rfl rfl (by decide) (by simp; omega) (by first | exact getD_map (by omega) | rfl) rfl rfl rfl ?_))
    refine rn_call (rIncl_spec (nth l i)) (by repeat (first | exact ArgsR.nil | refine ArgsR.cons (by exact ArgR.plain rfl rfl) ?_)) rfl rfl ?_
    cases hd : incl22 (nth l i) with
    | true =>
      rw [hd, if_pos rfl] at hst
      (repeat (first | refine FW.region ?_ | refine FW.condT rfl ?_ | refine RunN.nil ?_ | refine rn_assign rfl rfl rfl ?_ | refine rn_move rfl rfl rfl ?_ | refine rn_add rfl rfl (by omega) rfl rfl ?_))
      refine ⟨i + 1, by omega, by omega, ?_⟩
      rw [hst]
      exact (FLe.conv [] (by simp) (by simp) rfl (by repeat (first | exact GhOk.nil | refine GhOk.low rfl ?_ | refine GhOk.same rfl ?_ | refine GhOk.bump (Nat.lt_succ_self _) ?_)) (by repeat (first | exact EntsOk.nil)) (by repeat (first | exact SlC.nil | refine SlC.cons (.plain rfl rfl rfl) ?_)))
    | false =>
      rw [hd, if_neg (by decide)] at hst
      (repeat (first | refine FW.region ?_ | refine FW.skip ?_ | refine FW.condF rfl ?_ | refine RunN.nil ?_ | refine rn_assign rfl rfl rfl ?_ | refine rn_move rfl rfl rfl ?_ | refine rn_add rfl rfl (by omega) rfl rfl ?_))
      refine ⟨i + 1, by omega, by omega, ?_⟩
      rw [hst]
      exact (FLe.conv [] (by simp) (by simp) rfl (by repeat (first | exact GhOk.nil | refine GhOk.low rfl ?_ | refine GhOk.same rfl ?_ | refine GhOk.bump (Nat.lt_succ_self _) ?_)) (by repeat (first | exact EntsOk.nil)) (by repeat (first | exact SlC.nil | refine SlC.cons (.plain rfl rfl rfl) ?_)))
  · obtain rfl : i = l.length := by simp at hc; omega
    rw [inclTo_all]
    (repeat (first | refine FW.seq ?_ | refine FW.region ?_ | refine FW.exit ?_ | refine rn_move rfl rfl rfl ?_))
    refine rn_call hx (by repeat (first | exact ArgsR.nil | refine ArgsR.cons (by first | exact ArgR.plain rfl rfl | exact ArgR.nil rfl) ?_)) rfl rfl ?_
    (repeat (first | refine RunN.nil ?_ | refine rn_assign rfl rfl rfl ?_))
    exact FW.ret ⟨.inl rfl, ret_flat rfl rfl rfl rfl⟩
end Go.Proofs.Ytfegkbmnclhljaa
