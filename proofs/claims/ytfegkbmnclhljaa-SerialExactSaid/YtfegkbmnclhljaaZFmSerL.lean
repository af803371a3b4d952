/-
  The reference's Legal.
-/
import Derived.Test.YtfegkbmnclhljaaZFmSer8
import Derived.Test.YtfegkbmnclhljaaZG
namespace Go.Proofs.Ytfegkbmnclhljaa
set_option linter.unusedVariables false
open Go.RowKit

def inclTo (l : List OpV) (i : Nat) : Nat := ((l.take i).filter incl22).length
theorem inclTo_succ {l : List OpV} {i : Nat} (hi : i < l.length) : inclTo l (i + 1) = inclTo l i + if incl22 (nth l i) = true then 1 else 0 := filter_step incl22 hi
theorem inclTo_all (l : List OpV) : inclTo l l.length = cntI l := by unfold inclTo cntI; rw [List.take_length, List.countP_eq_length_filter]
theorem inclTo_le (l : List OpV) (i : Nat) : inclTo l i ≤ l.length := by
  unfold inclTo
  have := List.length_filter_le incl22 (l.take i)
  rw [List.length_take] at this
  omega
theorem legalB_no {l : List OpV} {s : Bool} {o : List Int} {i : Nat} (hi : i < o.length) (h : legalAt l s o i = false) : legalB l s o = false := by
  unfold legalB
  rw [Bool.and_eq_false_iff]
  refine .inl ?_
  rw [List.all_eq_false]
  exact ⟨i, List.mem_range.2 hi, by rw [h]; decide⟩
theorem legalB_yes {l : List OpV} {s : Bool} {o : List Int} (h : ∀ j, j < o.length → legalAt l s o j = true) : legalB l s o = decide (o.length = cntI l) := by
  unfold legalB
  rw [show (List.range o.length).all (legalAt l s o) = true from List.all_eq_true.2 fun j hj => h j (List.mem_range.1 hj), Bool.true_and]
theorem legalAt_in {l : List OpV} {s : Bool} {o : List Int} {j : Nat} (h : legalAt l s o j = true) : ∃ w : Nat, nth o j = w ∧ w < l.length := by
  unfold legalAt at h
  simp only [Bool.and_eq_true, decide_eq_true_eq, and_assoc] at h
  exact ⟨(nth o j).toNat, by omega, by omega⟩
set_option maxHeartbeats 4000000 in
theorem rLegal_spec (l : List OpV) (s : Bool) (o : List Int) (hl : l.length ≤ 1000) (ho : o.length ≤ 1000) : Spec Try.prog 20 [.list 8 (l.map OpV.fv), .list 1 (o.map intf), .bool s] .fr (.bool (legalB l s o)) := by
  obtain ⟨R, hR⟩ : ∃ R, legalB l s o = R := ⟨_, rfl⟩
  rw [hR]
  refine Spec.of_body (c := (cxOf Try.prog tyAt_ok mixed_ok 106)) ⟨Try.func20, rfl, Try.ntmps20, by kernel_rfl⟩ (by simp [FV.hand]) (by exact Nat.le_of_ble_eq_true rfl) rfl ?_
  change FW _ _ _ ⟨[(0, .list 8 (l.map OpV.fv)), (1, .list 1 (o.map intf)), (2, .bool s)], []⟩
  (repeat (first | refine FW.seq ?_ | refine FW.region ?_ | refine FW.block ?_ | refine RunN.nil ?_ | refine rn_assign rfl rfl rfl ?_))
  refine FW.loop (fun i : Nat => ⟨[(0, .list 8 (l.map OpV.fv)), (1, .list 1 (o.map intf)), (2, .bool s), (7, .int .i64 (inclTo l i)), (8, .int .i64 i)], []⟩) (fun i => i ≤ l.length) (fun i => l.length - i) 0 (Nat.zero_le _) ?_ ?_
  · show FLe _ ⟨[(0, .list 8 (l.map OpV.fv)), (1, .list 1 (o.map intf)), (2, .bool s), (7, .int .i64 0), (8, .int .i64 0)], []⟩
    exact (FLe.conv [] (by simp) (by simp) rfl (by repeat (first | exact GhOk.nil | refine GhOk.low rfl ?_ | refine GhOk.same rfl ?_ | refine GhOk.bump (Nat.lt_succ_self _) ?_)) (by repeat (first | exact EntsOk.nil)) (by repeat (first | exact SlC.nil | refine SlC.cons (.plain rfl rfl rfl) ?_)))
  intro i hi
  (repeat (first | refine FW.seq ?_ | refine FW.region ?_ | refine RunN.nil ?_ | refine rn_move rfl rfl rfl ?_ | refine rn_lenList rfl rfl (by exact List.length_map _) rfl rfl ?_ | refine rn_lss rfl rfl rfl rfl ?_))
  refine FW.cond rfl (fun hc => ?_) (fun hc => ?_)
  · have hlt : i < l.length := by simpa using hc
    have hst := inclTo_succ hlt
    have hle := inclTo_le l i
    (repeat (first | refine FW.seq ?_ | refine FW.region ?_ | refine FW.block ?_ | refine FW.skip ?_ | refine rn_move rfl rfl rfl ?_ | refine rn_indexL rfl rfl rfl rfl rfl rfl (by simp; omega) rfl rfl ?_ | refine rn_loadEA rfl rfl rfl (by decide) (by simp; omega) (by first | exact getD_map (by omega) | rfl) rfl rfl rfl ?_))
    refine rn_call (rIncl_spec (nth l i)) (by repeat (first | exact ArgsR.nil | refine ArgsR.cons (by exact ArgR.plain rfl rfl) ?_)) rfl rfl ?_
    cases hd : incl22 (nth l i) with
    | true =>
      rw [hd, if_pos rfl] at hst
      (repeat (first | refine FW.region ?_ | refine FW.condT rfl ?_ | refine RunN.nil ?_ | refine rn_assign rfl rfl rfl ?_ | refine rn_move rfl rfl rfl ?_ | refine rn_add rfl rfl (by omega) rfl rfl ?_))
      refine ⟨i + 1, by omega, by omega, ?_⟩
      rw [hst]
      exact (FLe.conv [] (by simp) (by simp) rfl (by repeat (first | exact GhOk.nil | refine GhOk.low rfl ?_ | refine GhOk.same rfl ?_ | refine GhOk.bump (Nat.lt_succ_self _) ?_)) (by repeat (first | exact EntsOk.nil)) (by repeat (first | exact SlC.nil | refine SlC.cons (.plain rfl rfl rfl) ?_)))
    | false =>
      rw [hd, if_neg (by decide)] at hst
      (repeat (first | refine FW.region ?_ | refine FW.skip ?_ | refine FW.condF rfl ?_ | refine RunN.nil ?_ | refine rn_assign rfl rfl rfl ?_ | refine rn_move rfl rfl rfl ?_ | refine rn_add rfl rfl (by omega) rfl rfl ?_))
      refine ⟨i + 1, by omega, by omega, ?_⟩
      rw [hst]
      exact (FLe.conv [] (by simp) (by simp) rfl (by repeat (first | exact GhOk.nil | refine GhOk.low rfl ?_ | refine GhOk.same rfl ?_ | refine GhOk.bump (Nat.lt_succ_self _) ?_)) (by repeat (first | exact EntsOk.nil)) (by repeat (first | exact SlC.nil | refine SlC.cons (.plain rfl rfl rfl) ?_)))
  · obtain rfl : i = l.length := by simp at hc; omega
    rw [inclTo_all]
    clear hi hc
    (repeat (first | refine FW.seq ?_ | refine FW.region ?_ | refine FW.block ?_ | refine FW.exit ?_ | refine RunN.nil ?_ | refine rn_assign rfl rfl rfl ?_))
    refine FW.loop (fun i : Nat => ⟨[(0, .list 8 (l.map OpV.fv)), (1, .list 1 (o.map intf)), (2, .bool s), (7, .int .i64 (cntI l)), (9, .int .i64 i)], []⟩) (fun i => i ≤ o.length ∧ ∀ j, j < i → legalAt l s o j = true) (fun i => o.length - i) 0 ⟨Nat.zero_le _, fun j hj => absurd hj (Nat.not_lt_zero _)⟩ ?_ ?_
    · show FLe _ ⟨[(0, .list 8 (l.map OpV.fv)), (1, .list 1 (o.map intf)), (2, .bool s), (7, .int .i64 (cntI l)), (9, .int .i64 0)], []⟩
      exact (FLe.conv [] (by simp) (by simp) rfl (by repeat (first | exact GhOk.nil | refine GhOk.low rfl ?_ | refine GhOk.same rfl ?_ | refine GhOk.bump (Nat.lt_succ_self _) ?_)) (by repeat (first | exact EntsOk.nil)) (by repeat (first | exact SlC.nil | refine SlC.cons (.plain rfl rfl rfl) ?_)))
    rintro i ⟨hi, hok⟩
    (repeat (first | refine FW.seq ?_ | refine FW.region ?_ | refine RunN.nil ?_ | refine rn_move rfl rfl rfl ?_ | refine rn_lenList rfl rfl (by exact List.length_map _) rfl rfl ?_ | refine rn_lss rfl rfl rfl rfl ?_))
    refine FW.cond rfl (fun hc => ?_) (fun hc => ?_)
    · have hlt : i < o.length := by simpa using hc
      have hno := legalB_no (l := l) (s := s) hlt
      have hat : legalAt l s o i = (decide (0 ≤ nth o i) && decide (nth o i < l.length) && !hasB (o.take i) (nth o i) && incl22 (nth l (nth o i).toNat) && !(s && (o.take i).any fun j => bef l (nth o i).toNat j.toNat) && decide ((nth l (nth o i).toNat).res = valTo l (nth l (nth o i).toNat).key (o.take i))) := rfl
      have hh := has_spec (o.take i) (nth o i) (by simp; omega)
      (repeat (first | refine FW.seq ?_ | refine FW.region ?_ | refine FW.block ?_ | refine FW.skip ?_ | refine RunN.nil ?_ | refine rn_assign rfl rfl rfl ?_ | refine rn_move rfl rfl rfl ?_ | refine rn_lss rfl rfl rfl rfl ?_ | refine rn_indexL rfl rfl rfl rfl rfl rfl (by simp; omega) rfl rfl ?_ | refine rn_loadE rfl rfl rfl (by simp; omega) (by first | exact getD_map (by omega) | rfl) rfl rfl rfl rfl ?_))
      refine rn_case (fun h1 => ?_) (fun h1 => ?_)
      · have h1 : nth o i < 0 := by simpa using h1
        have : R = false := by rw [← hR]; exact hno (by rw [hat, decide_eq_false (by omega : ¬ 0 ≤ nth o i)]; simp)
        subst this
        (repeat (first | refine FW.seq ?_ | refine FW.region ?_ | refine FW.condT rfl ?_ | refine RunN.nil ?_ | refine rn_assign rfl rfl rfl ?_ | refine rn_move rfl rfl rfl ?_ | refine rn_pickT rfl rfl rfl rfl ?_ | refine rn_skip rfl rfl ⟨_, _, rfl, rfl, rfl⟩ ?_))
        exact FW.ret ⟨.inl rfl, ret_flat rfl rfl rfl rfl⟩
      have h1 : ¬ nth o i < 0 := by simp at h1; omega
      obtain ⟨v, hv⟩ : ∃ v : Nat, nth o i = v := ⟨(nth o i).toNat, by omega⟩
      rw [hv, Int.toNat_natCast, decide_eq_true (by omega : (0 : Int) ≤ v), Bool.true_and] at hat
      rw [hv] at hh ⊢
      (repeat (first | refine rn_move rfl rfl rfl ?_ | refine rn_pickF rfl rfl rfl rfl ?_ | refine rn_move rfl rfl ⟨_, _, rfl, rfl, rfl⟩ ?_ | refine rn_lenList rfl rfl (by exact List.length_map _) rfl ⟨_, _, rfl, rfl, rfl⟩ ?_ | refine rn_geq rfl rfl rfl ⟨_, _, rfl, rfl, rfl⟩ ?_))
      refine rn_case (fun h2 => ?_) (fun h2 => ?_)
      · have h2 : l.length ≤ v := by simp at h2; omega
        have : R = false := by rw [← hR]; exact hno (by rw [hat, decide_eq_false (by omega : ¬ (v : Int) < l.length)]; simp)
        subst this
        (repeat (first | refine FW.seq ?_ | refine FW.region ?_ | refine FW.condT rfl ?_ | refine RunN.nil ?_ | refine rn_assign rfl rfl rfl ?_ | refine rn_pickT rfl rfl rfl rfl ?_ | refine rn_skip rfl rfl ⟨_, _, rfl, rfl, rfl⟩ ?_))
        exact FW.ret ⟨.inl rfl, ret_flat rfl rfl rfl rfl⟩
      have h2 : v < l.length := by simp at h2; omega
      rw [decide_eq_true (by omega : (v : Int) < l.length), Bool.true_and] at hat
      (repeat (first | refine rn_move rfl rfl ⟨_, _, rfl, rfl, rfl⟩ ?_ | refine rn_sliceL rfl rfl rfl rfl (by exact LoR.none) (by exact HiR.some rfl) (by first | omega | (simp; omega)) (by first | omega | (simp; omega)) rfl ⟨_, _, rfl, rfl, rfl⟩ ?_))
      rw [Nat.sub_zero, List.drop_zero, ← List.map_take]
      refine rn_call hh (by repeat (first | exact ArgsR.nil | refine ArgsR.cons (by exact ArgR.plain rfl rfl) ?_)) rfl ⟨_, _, rfl, rfl, rfl⟩ ?_
      cases hB : hasB (o.take i) v with
      | true =>
        have : R = false := by rw [← hR]; exact hno (by rw [hat, hB]; simp)
        subst this
        (repeat (first | refine FW.seq ?_ | refine FW.region ?_ | refine FW.condT rfl ?_ | refine RunN.nil ?_ | refine rn_assign rfl rfl rfl ?_ | refine rn_pickF rfl rfl rfl rfl ?_))
        exact FW.ret ⟨.inl rfl, ret_flat rfl rfl rfl rfl⟩
      | false =>
      rw [hB, Bool.not_false, Bool.true_and] at hat
      obtain ⟨a, ha⟩ : ∃ a, nth l v = a := ⟨_, rfl⟩
      rw [ha] at hat
      (repeat (first | refine FW.seq ?_ | refine FW.region ?_ | refine FW.skip ?_ | refine FW.condF rfl ?_ | refine RunN.nil ?_ | refine rn_move rfl rfl rfl ?_ | refine rn_indexL rfl rfl rfl rfl rfl rfl (by simp; omega) rfl rfl ?_ | refine rn_loadEA rfl rfl rfl (by decide) (by simp; omega) (by first | exact getD_map (by omega) | rfl) rfl rfl rfl ?_ | refine rn_pickF rfl rfl rfl rfl ?_))
      rw [ha]
      skip
      refine rn_call (rIncl_spec a) (by repeat (first | exact ArgsR.nil | refine ArgsR.cons (by exact ArgR.plain rfl rfl) ?_)) rfl rfl ?_
      cases hA : incl22 a with
      | false =>
        have : R = false := by rw [← hR]; exact hno (by rw [hat, hA]; simp)
        subst this
        (repeat (first | refine FW.seq ?_ | refine FW.region ?_ | refine FW.condT rfl ?_ | refine RunN.nil ?_ | refine rn_assign rfl rfl rfl ?_ | refine rn_not rfl rfl rfl ?_))
        exact FW.ret ⟨.inl rfl, ret_flat rfl rfl rfl rfl⟩
      | true =>
      rw [hA, Bool.true_and] at hat
      (repeat (first | refine FW.seq ?_ | refine FW.region ?_ | refine FW.block ?_ | refine FW.skip ?_ | refine FW.condF rfl ?_ | refine RunN.nil ?_ | refine rn_assign rfl rfl rfl ?_ | refine rn_not rfl rfl rfl ?_))
      refine FW.loop (fun j : Nat => ⟨[(0, .list 8 (l.map OpV.fv)), (1, .list 1 (o.map intf)), (2, .bool s), (7, .int .i64 (cntI l)), (9, .int .i64 i), (10, .int .i64 v), (11, .int .i64 (valTo l a.key (o.take j))), (12, .int .i64 j)], []⟩) (fun j => j ≤ i ∧ (s && (o.take j).any fun q => bef l v q.toNat) = false) (fun j => i - j) 0 ⟨Nat.zero_le _, by simp⟩ ?_ ?_
      · show FLe _ ⟨[(0, .list 8 (l.map OpV.fv)), (1, .list 1 (o.map intf)), (2, .bool s), (7, .int .i64 (cntI l)), (9, .int .i64 i), (10, .int .i64 v), (11, .int .i64 0), (12, .int .i64 0)], []⟩
        exact (FLe.conv [] (by simp) (by simp) rfl (by repeat (first | exact GhOk.nil | refine GhOk.low rfl ?_ | refine GhOk.same rfl ?_ | refine GhOk.bump (Nat.lt_succ_self _) ?_)) (by repeat (first | exact EntsOk.nil)) (by repeat (first | exact SlC.nil | refine SlC.cons (.plain rfl rfl rfl) ?_)))
      rintro j ⟨hj, hbj⟩
      (repeat (first | refine FW.seq ?_ | refine FW.region ?_ | refine RunN.nil ?_ | refine rn_move rfl rfl rfl ?_ | refine rn_lss rfl rfl rfl rfl ?_))
      refine FW.cond rfl (fun hc3 => ?_) (fun hc3 => ?_)
      · have hji : j < i := by simpa using hc3
        obtain ⟨w, hw, hwl⟩ := legalAt_in (hok j hji)
        have hjo : j < o.length := by omega
        have hvs := valTo_snoc l a.key (o.take j) (nth o j)
        rw [← take_snoc hjo, hw] at hvs
        have hbs := take_snoc hjo
        obtain ⟨b, hb⟩ : ∃ b, nth l w = b := ⟨_, rfl⟩
        have hbe := rBefore20_spec l v w (by omega)
        rw [befI_in h2 hwl] at hbe
        have hany : (o.take (j + 1)).any (fun q => bef l v q.toNat) = ((o.take j).any (fun q => bef l v q.toNat) || bef l v w) := by
          rw [hbs, List.any_append]; simp [hw]
        obtain ⟨val, hval⟩ : ∃ q, valTo l a.key (o.take j) = q := ⟨_, rfl⟩
        rw [hval] at hvs ⊢
        unfold iswB at hvs
        rw [Int.toNat_natCast, hb] at hvs
        (repeat (first | refine FW.seq ?_ | refine FW.region ?_ | refine FW.block ?_ | refine FW.skip ?_ | refine rn_move rfl rfl rfl ?_ | refine rn_indexL rfl rfl (by first | rfl | exact (Int.toNat_of_nonneg (by omega)).symm) rfl rfl rfl (by simp; omega) rfl rfl ?_ | refine rn_loadE rfl rfl rfl (by simp; omega) (by first | exact getD_map (by omega) | rfl) rfl rfl rfl rfl ?_ | refine rn_loadEA rfl rfl rfl (by decide) (by simp; omega) (by first | exact getD_map (by omega) | rfl) rfl rfl rfl ?_))
        rw [hw]
        simp only [Int.toNat_natCast]
        rw [hb]
        (repeat (first | refine RunN.nil ?_ | refine rn_alloc rfl rfl rfl rfl rfl rfl rfl ?_ | refine rn_storeVA rfl rfl rfl rfl rfl rfl rfl rfl rfl ?_))
        refine FW.seq ?_
        refine FW.join (fun q : Int => ⟨[(0, .list 8 (l.map OpV.fv)), (1, .list 1 (o.map intf)), (2, .bool s), (7, .int .i64 (cntI l)), (9, .int .i64 i), (10, .int .i64 v), (11, .int .i64 q), (12, .int .i64 j)], []⟩) (fun q => q = valTo l a.key (o.take (j + 1))) ?_ ?_
        · (repeat (first | refine FW.seq ?_ | refine FW.draw ?_ | refine rd_move rfl rfl rfl ?_ | refine rd_loadP rfl rfl rfl rfl rfl (by simp; done) rfl rfl rfl rfl rfl ?_ | refine rd_fieldP rfl rfl rfl rfl rfl rfl (by decide) rfl rfl ?_ | refine rd_eql rfl rfl rfl rfl ?_))
          refine rd_case (fun h5 => ?_) (fun h5 => ?_)
          · (repeat (first | refine RunD.nil ?_ | refine rd_pickT rfl rfl rfl rfl ?_ | refine rd_move rfl rfl ⟨_, _, rfl, rfl, rfl⟩ ?_ | refine rd_fieldE rfl rfl rfl rfl rfl rfl ⟨_, _, rfl, rfl, rfl⟩ ?_ | refine rd_fieldP rfl rfl rfl rfl rfl rfl (by decide) rfl ⟨_, _, rfl, rfl, rfl⟩ ?_ | refine rd_loadE rfl rfl rfl (by first | (simp; omega) | (simp; done)) (by first | exact getD_map (by omega) | rfl) rfl rfl rfl ⟨_, _, rfl, rfl, rfl⟩ ?_ | refine rd_loadP rfl rfl rfl rfl rfl (by first | (simp; omega) | (simp; done)) (by first | exact getD_map (by omega) | rfl) rfl rfl rfl ⟨_, _, rfl, rfl, rfl⟩ ?_ | refine rd_indexL rfl rfl rfl rfl rfl rfl (by first | (simp; omega) | (simp; done)) rfl ⟨_, _, rfl, rfl, rfl⟩ ?_ | refine rd_eql rfl rfl rfl ⟨_, _, rfl, rfl, rfl⟩ ?_))
            rw [ha]
            skip
            refine ⟨by kernel_rfl, ?_⟩
            refine FW.cond rfl (fun h6 => ?_) (fun h6 => ?_)
            · have h6 : decide (b.key = a.key) = true := h6
              rw [h5, h6, if_pos (by decide)] at hvs
              (repeat (first | refine FW.region ?_ | refine RunN.nil ?_ | refine rn_assign rfl rfl rfl ?_ | refine rn_loadP rfl rfl rfl rfl rfl (by simp; done) rfl rfl rfl rfl rfl ?_ | refine rn_fieldP rfl rfl rfl rfl rfl rfl (by decide) rfl rfl ?_))
              refine ⟨rfl, b.arg, hvs.symm, ?_⟩
              exact (FLe.conv [] (by simp) (by simp) rfl (by repeat (first | exact GhOk.nil | refine GhOk.low rfl ?_ | refine GhOk.same rfl ?_ | refine GhOk.bump (Nat.lt_succ_self _) ?_)) (by repeat (first | exact EntsOk.nil)) (by repeat (first | exact SlC.nil | refine SlC.cons (.plain rfl rfl rfl) ?_)))
            · have h6 : decide (b.key = a.key) = false := h6
              rw [h5, h6, if_neg (by decide)] at hvs
              (repeat (first | refine FW.skip ?_))
              refine ⟨rfl, val, hvs.symm, ?_⟩
              exact (FLe.conv [] (by simp) (by simp) rfl (by repeat (first | exact GhOk.nil | refine GhOk.low rfl ?_ | refine GhOk.same rfl ?_ | refine GhOk.bump (Nat.lt_succ_self _) ?_)) (by repeat (first | exact EntsOk.nil)) (by repeat (first | exact SlC.nil | refine SlC.cons (.plain rfl rfl rfl) ?_)))
          · rw [h5, Bool.false_and, if_neg (by decide)] at hvs
            (repeat (first | refine RunD.nil ?_ | refine rd_pickF rfl rfl rfl rfl ?_ | refine rd_skip rfl rfl ⟨_, _, rfl, rfl, rfl⟩ ?_))
            refine ⟨by kernel_rfl, ?_⟩
            (repeat (first | refine FW.skip ?_ | refine FW.condF rfl ?_))
            refine ⟨rfl, val, hvs.symm, ?_⟩
            exact (FLe.conv [] (by simp) (by simp) rfl (by repeat (first | exact GhOk.nil | refine GhOk.low rfl ?_ | refine GhOk.same rfl ?_ | refine GhOk.bump (Nat.lt_succ_self _) ?_)) (by repeat (first | exact EntsOk.nil)) (by repeat (first | exact SlC.nil | refine SlC.cons (.plain rfl rfl rfl) ?_)))
        · rintro q rfl
          clear hvs hval
          obtain ⟨nv, hnv⟩ : ∃ q, valTo l a.key (o.take (j + 1)) = q := ⟨_, rfl⟩
          rw [hnv]
          cases s with
          | false =>
            (repeat (first | refine FW.seq ?_ | refine FW.region ?_ | refine FW.skip ?_ | refine FW.condF rfl ?_ | refine RunN.nil ?_ | refine rn_assign rfl rfl rfl ?_ | refine rn_move rfl rfl rfl ?_ | refine rn_add rfl rfl (by omega) rfl rfl ?_ | refine rn_pickF rfl rfl rfl rfl ?_ | refine rn_skip rfl rfl ⟨_, _, rfl, rfl, rfl⟩ ?_))
            refine ⟨j + 1, ⟨by omega, by rw [Bool.false_and]⟩, by omega, ?_⟩
            rw [hnv]
            exact (FLe.conv [] (by simp) (by simp) rfl (by repeat (first | exact GhOk.nil | refine GhOk.low rfl ?_ | refine GhOk.same rfl ?_ | refine GhOk.bump (Nat.lt_succ_self _) ?_)) (by repeat (first | exact EntsOk.nil)) (by repeat (first | exact SlC.nil | refine SlC.cons (.plain rfl rfl rfl) ?_)))
          | true =>
            (repeat (first | refine FW.seq ?_ | refine FW.region ?_ | refine rn_move rfl rfl rfl ?_ | refine rn_move rfl rfl ⟨_, _, rfl, rfl, rfl⟩ ?_ | refine rn_loadE rfl rfl rfl (by simp; omega) (by first | exact getD_map (by omega) | rfl) rfl rfl rfl ⟨_, _, rfl, rfl, rfl⟩ ?_ | refine rn_indexL rfl rfl rfl rfl rfl rfl (by simp; omega) rfl ⟨_, _, rfl, rfl, rfl⟩ ?_))
            rw [hw]
            refine rn_call hbe (by repeat (first | exact ArgsR.nil | refine ArgsR.cons (by exact ArgR.plain rfl rfl) ?_)) rfl ⟨_, _, rfl, rfl, rfl⟩ ?_
            cases hbq : bef l v w with
            | true =>
              have hyes : (o.take i).any (fun q => bef l v q.toNat) = true := by
                rw [List.any_eq_true]
                refine ⟨nth o j, List.mem_take_iff_getElem.2 ⟨j, by omega, by rw [nth_eq hjo]⟩, ?_⟩
                rw [hw, Int.toNat_natCast]; exact hbq
              have : R = false := by rw [← hR]; exact hno (by rw [hat, hyes]; rfl)
              subst this
              (repeat (first | refine FW.seq ?_ | refine FW.region ?_ | refine FW.condT rfl ?_ | refine RunN.nil ?_ | refine rn_assign rfl rfl rfl ?_ | refine rn_pickT rfl rfl rfl rfl ?_))
              exact FW.ret ⟨.inl rfl, ret_flat rfl rfl rfl rfl⟩
            | false =>
              (repeat (first | refine FW.region ?_ | refine FW.skip ?_ | refine FW.condF rfl ?_ | refine RunN.nil ?_ | refine rn_assign rfl rfl rfl ?_ | refine rn_move rfl rfl rfl ?_ | refine rn_add rfl rfl (by omega) rfl rfl ?_ | refine rn_pickT rfl rfl rfl rfl ?_))
              refine ⟨j + 1, ⟨by omega, ?_⟩, by omega, ?_⟩
              · rw [Bool.true_and] at hbj ⊢
                rw [hany, hbj, hbq]; rfl
              · rw [hnv]
                exact (FLe.conv [] (by simp) (by simp) rfl (by repeat (first | exact GhOk.nil | refine GhOk.low rfl ?_ | refine GhOk.same rfl ?_ | refine GhOk.bump (Nat.lt_succ_self _) ?_)) (by repeat (first | exact EntsOk.nil)) (by repeat (first | exact SlC.nil | refine SlC.cons (.plain rfl rfl rfl) ?_)))
      · obtain rfl : j = i := by simp at hc3; omega
        (repeat (first | refine FW.seq ?_ | refine FW.region ?_ | refine FW.exit ?_ | refine RunN.nil ?_ | refine rn_move rfl rfl rfl ?_ | refine rn_indexL rfl rfl rfl rfl rfl rfl (by simp; omega) rfl rfl ?_ | refine rn_loadE rfl rfl rfl (by simp; omega) (by first | exact getD_map (by omega) | rfl) rfl rfl rfl rfl ?_ | refine rn_fieldE rfl rfl rfl rfl rfl rfl rfl ?_ | refine rn_neq rfl rfl rfl rfl ?_))
        rw [ha]
        skip
        refine FW.cond rfl (fun h4 => ?_) (fun h4 => ?_)
        · have h4 : a.res ≠ valTo l a.key (o.take j) := by simpa using h4
          have : R = false := by rw [← hR]; exact hno (by rw [hat, decide_eq_false h4]; simp)
          subst this
          (repeat (first | refine FW.seq ?_ | refine FW.region ?_ | refine RunN.nil ?_ | refine rn_assign rfl rfl rfl ?_))
          exact FW.ret ⟨.inl rfl, ret_flat rfl rfl rfl rfl⟩
        · have h4 : a.res = valTo l a.key (o.take j) := by simpa using h4
          rw [hbj, decide_eq_true h4] at hat
          (repeat (first | refine FW.region ?_ | refine FW.skip ?_ | refine RunN.nil ?_ | refine rn_assign rfl rfl rfl ?_ | refine rn_move rfl rfl rfl ?_ | refine rn_add rfl rfl (by omega) rfl rfl ?_))
          refine ⟨j + 1, ⟨by omega, fun q hq => ?_⟩, by omega, ?_⟩
          · rcases Nat.lt_succ_iff_lt_or_eq.1 hq with h' | rfl
            · exact hok q h'
            · rw [hat]; rfl
          · exact (FLe.conv [] (by simp) (by simp) rfl (by repeat (first | exact GhOk.nil | refine GhOk.low rfl ?_ | refine GhOk.same rfl ?_ | refine GhOk.bump (Nat.lt_succ_self _) ?_)) (by repeat (first | exact EntsOk.nil)) (by repeat (first | exact SlC.nil | refine SlC.cons (.plain rfl rfl rfl) ?_)))
    · obtain rfl : i = o.length := by simp at hc; omega
      rw [legalB_yes hok] at hR
      subst hR
      (repeat (first | refine FW.seq ?_ | refine FW.region ?_ | refine FW.exit ?_ | refine RunN.nil ?_ | refine rn_assign rfl rfl rfl ?_ | refine rn_move rfl rfl rfl ?_ | refine rn_lenList rfl rfl (by exact List.length_map _) rfl rfl ?_ | refine rn_eql rfl rfl rfl rfl ?_))
      refine FW.ret ⟨.inl rfl, ret_flat rfl rfl ?_ rfl⟩
      show FV.bool (decide ((o.length : Int) = (cntI l : Int))) = _
      exact congrArg FV.bool (decide_eq_decide.2 (by omega))
end Go.Proofs.Ytfegkbmnclhljaa
