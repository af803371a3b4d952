/-
  The domain of layer 24, at plain values.
-/
import Derived.Test.YthijndjgchbeoaaFmOnce2
namespace Go.Proofs.Ythijndjgchbeoaa
set_option linter.unusedVariables false
open Go.RowKit

/-- an operation fits the domain -/
def okAt (l : List OpV) (i : Nat) : Prop := ((nth l i).k = 4 ∨ ((nth l i).k = 3 ∧ (nth l i).arg ≠ 0 ∧ ∀ j, j < i → isPushOf (nth l i).key (nth l i).arg (nth l j) = false))
def dom24 (l : List OpV) : Prop := ∀ i, i < l.length → okAt l i
instance (l : List OpV) (i : Nat) : Decidable (okAt l i) := by unfold okAt; infer_instance
instance (l : List OpV) : Decidable (dom24 l) := by unfold dom24; infer_instance

set_option maxHeartbeats 2000000 in
theorem domain_spec (l : List OpV) (hl : l.length ≤ 1000000000) : Spec Try.prog 27 [.list 8 (l.map OpV.fv)] .fr (.bool (decide (dom24 l))) := by
  refine Spec.of_body (c := (cxOf Try.prog tyAt_ok mixed_ok 74)) ⟨Try.func27, rfl, Try.ntmps27, by kernel_rfl⟩ (by simp [FV.hand]) (by exact Nat.le_of_ble_eq_true rfl) rfl ?_
  change FW _ _ _ ⟨[(0, .list 8 (l.map OpV.fv))], []⟩
  (repeat (first | refine FW.seq ?_ | refine FW.region ?_ | refine FW.block ?_ | refine RunN.nil ?_ | refine rn_assign rfl rfl rfl ?_))
  refine FW.loop (fun i : Nat => ⟨[(0, .list 8 (l.map OpV.fv)), (3, .int .i64 i)], []⟩) (fun i => i ≤ l.length ∧ ∀ j, j < i → okAt l j) (fun i => l.length - i) 0 (by simp) (FLe.conv [] (by simp) (by simp) (by repeat (first | exact EntsOk.nil)) (by repeat (first | exact SlC.nil | refine SlC.cons (.plain rfl rfl (by first | rfl | (simp; done) | (congr 1; omega) | (simp; omega))) ?_))) ?_
  rintro i ⟨hi, hok⟩
  (repeat (first | refine FW.seq ?_ | refine FW.region ?_ | refine RunN.nil ?_ | refine rn_move rfl rfl rfl ?_ | refine rn_lenList rfl rfl (by first | exact List.length_map _ | exact (List.length_map _).symm | exact List.length_replicate | rfl | (simp; done) | omega | (simp; omega)) rfl rfl ?_ | refine rn_lss rfl rfl rfl rfl ?_))
  refine FW.cond rfl (fun h => ?_) (fun h => ?_)
  · have hlt : i < l.length := by simpa using h
    clear h
    have step : okAt l i → ∀ j, j < i + 1 → okAt l j := fun h0 j hj => by
      rcases Nat.lt_or_ge j i with h1 | h1
      · exact hok j h1
      · have : j = i := by omega
        subst this; exact h0
    have bad : ¬ okAt l i → decide (dom24 l) = false := fun h0 => decide_eq_false fun hd => h0 (hd i hlt)
    (repeat (first | refine FW.seq ?_ | refine FW.region ?_ | refine FW.block ?_ | refine FW.skip ?_ | refine rn_move rfl rfl rfl ?_ | refine rn_indexL rfl rfl (by first | rfl | exact (Int.toNat_of_nonneg (by omega)).symm) rfl rfl rfl (by first | omega | (simp; omega) | (simp; done)) rfl rfl ?_ | refine rn_fieldE rfl rfl rfl rfl rfl rfl rfl ?_ | refine rn_loadE rfl rfl rfl (by first | omega | (simp; omega) | (simp; done)) (by first | exact getD_map (by omega) | rfl) rfl rfl rfl rfl ?_ | refine rn_neq rfl rfl rfl rfl ?_))
    by_cases h4 : (nth l i).k = 4
    · refine rn_case (fun h1 => ?_) (fun h1 => ?_)
      · (repeat (first | refine RunN.nil ?_ | refine rn_pickT rfl rfl rfl rfl ?_ | refine rn_move rfl rfl ⟨_, _, rfl, rfl, rfl⟩ ?_ | refine rn_indexL rfl rfl (by first | rfl | exact (Int.toNat_of_nonneg (by omega)).symm) rfl rfl rfl (by first | omega | (simp; omega) | (simp; done)) rfl ⟨_, _, rfl, rfl, rfl⟩ ?_ | refine rn_fieldE rfl rfl rfl rfl rfl rfl ⟨_, _, rfl, rfl, rfl⟩ ?_ | refine rn_loadE rfl rfl rfl (by first | omega | (simp; omega) | (simp; done)) (by first | exact getD_map (by omega) | rfl) rfl rfl rfl ⟨_, _, rfl, rfl, rfl⟩ ?_ | refine rn_neq rfl rfl rfl ⟨_, _, rfl, rfl, rfl⟩ ?_))
        refine FW.cond rfl (fun h2 => by simp [h4] at h2) (fun h2 => ?_)
        (repeat (first | refine FW.seq ?_ | refine FW.region ?_ | refine FW.skip ?_ | refine RunN.nil ?_ | refine rn_move rfl rfl rfl ?_ | refine rn_indexL rfl rfl (by first | rfl | exact (Int.toNat_of_nonneg (by omega)).symm) rfl rfl rfl (by first | omega | (simp; omega) | (simp; done)) rfl rfl ?_ | refine rn_fieldE rfl rfl rfl rfl rfl rfl rfl ?_ | refine rn_loadE rfl rfl rfl (by first | omega | (simp; omega) | (simp; done)) (by first | exact getD_map (by omega) | rfl) rfl rfl rfl rfl ?_ | refine rn_eql rfl rfl rfl rfl ?_))
        refine FW.cond rfl (fun h3 => ?_) (fun h3 => by simp [h4] at h3)
        (repeat (first | refine FW.region ?_ | refine FW.exit ?_ | refine RunN.nil ?_ | refine rn_assign rfl rfl rfl ?_ | refine rn_move rfl rfl rfl ?_ | refine rn_add rfl rfl (by omega) rfl rfl ?_))
        exact ⟨i + 1, ⟨by omega, step (.inl h4)⟩, by omega, (FLe.conv [] (by simp) (by simp) (by repeat (first | exact EntsOk.nil)) (by repeat (first | exact SlC.nil | refine SlC.cons (.plain rfl rfl (by first | rfl | (simp; done) | (congr 1; omega) | (simp; omega))) ?_)))⟩
      · simp [h4] at h1
    · refine rn_case (fun h1 => ?_) (fun h1 => ?_)
      · (repeat (first | refine RunN.nil ?_ | refine rn_pickT rfl rfl rfl rfl ?_ | refine rn_move rfl rfl ⟨_, _, rfl, rfl, rfl⟩ ?_ | refine rn_indexL rfl rfl (by first | rfl | exact (Int.toNat_of_nonneg (by omega)).symm) rfl rfl rfl (by first | omega | (simp; omega) | (simp; done)) rfl ⟨_, _, rfl, rfl, rfl⟩ ?_ | refine rn_fieldE rfl rfl rfl rfl rfl rfl ⟨_, _, rfl, rfl, rfl⟩ ?_ | refine rn_loadE rfl rfl rfl (by first | omega | (simp; omega) | (simp; done)) (by first | exact getD_map (by omega) | rfl) rfl rfl rfl ⟨_, _, rfl, rfl, rfl⟩ ?_ | refine rn_neq rfl rfl rfl ⟨_, _, rfl, rfl, rfl⟩ ?_))
        refine FW.cond rfl (fun h2 => ?_) (fun h2 => by simp [h4] at h2)
        (repeat (first | refine FW.seq ?_ | refine FW.region ?_ | refine RunN.nil ?_ | refine rn_assign rfl rfl rfl ?_))
        refine FW.ret ⟨.inl rfl, ret_flat rfl rfl ?_ rfl⟩
        rw [bad (by simp at h1; simp [okAt, h1, h4])]
        rfl
      · have h3 : (nth l i).k = 3 := by simpa using h1
        (repeat (first | refine FW.seq ?_ | refine FW.region ?_ | refine FW.skip ?_ | refine FW.condF rfl ?_ | refine RunN.nil ?_ | refine rn_move rfl rfl rfl ?_ | refine rn_indexL rfl rfl (by first | rfl | exact (Int.toNat_of_nonneg (by omega)).symm) rfl rfl rfl (by first | omega | (simp; omega) | (simp; done)) rfl rfl ?_ | refine rn_fieldE rfl rfl rfl rfl rfl rfl rfl ?_ | refine rn_loadE rfl rfl rfl (by first | omega | (simp; omega) | (simp; done)) (by first | exact getD_map (by omega) | rfl) rfl rfl rfl rfl ?_ | refine rn_pickF rfl rfl rfl rfl ?_ | refine rn_eql rfl rfl rfl rfl ?_ | refine rn_skip rfl rfl ⟨_, _, rfl, rfl, rfl⟩ ?_))
        refine FW.cond rfl (fun h2 => by simp [h3] at h2) (fun h2 => ?_)
        (repeat (first | refine FW.seq ?_ | refine FW.region ?_ | refine FW.skip ?_ | refine RunN.nil ?_ | refine rn_move rfl rfl rfl ?_ | refine rn_indexL rfl rfl (by first | rfl | exact (Int.toNat_of_nonneg (by omega)).symm) rfl rfl rfl (by first | omega | (simp; omega) | (simp; done)) rfl rfl ?_ | refine rn_fieldE rfl rfl rfl rfl rfl rfl rfl ?_ | refine rn_loadE rfl rfl rfl (by first | omega | (simp; omega) | (simp; done)) (by first | exact getD_map (by omega) | rfl) rfl rfl rfl rfl ?_ | refine rn_eql rfl rfl rfl rfl ?_))
        refine FW.cond rfl (fun h5 => ?_) (fun h5 => ?_)
        · (repeat (first | refine FW.seq ?_ | refine FW.region ?_ | refine RunN.nil ?_ | refine rn_assign rfl rfl rfl ?_))
          refine FW.ret ⟨.inl rfl, ret_flat rfl rfl ?_ rfl⟩
          rw [bad (by simp at h5; simp [okAt, h5, h4])]
          rfl
        · have ha : (nth l i).arg ≠ 0 := by simpa using h5
          (repeat (first | refine FW.seq ?_ | refine FW.region ?_ | refine FW.block ?_ | refine FW.skip ?_ | refine RunN.nil ?_ | refine rn_assign rfl rfl rfl ?_))
          refine FW.loop (fun k : Nat => ⟨[(0, .list 8 (l.map OpV.fv)), (3, .int .i64 i), (4, .int .i64 k)], []⟩) (fun k => k ≤ i ∧ ∀ j, j < k → isPushOf (nth l i).key (nth l i).arg (nth l j) = false) (fun k => i - k) 0 (by simp) (FLe.conv [] (by simp) (by simp) (by repeat (first | exact EntsOk.nil)) (by repeat (first | exact SlC.nil | refine SlC.cons (.plain rfl rfl (by first | rfl | (simp; done) | (congr 1; omega) | (simp; omega))) ?_))) ?_
          rintro k ⟨hk, hn⟩
          (repeat (first | refine FW.seq ?_ | refine FW.region ?_ | refine RunN.nil ?_ | refine rn_move rfl rfl rfl ?_ | refine rn_lss rfl rfl rfl rfl ?_))
          refine FW.cond rfl (fun h => ?_) (fun h => ?_)
          · have hki : k < i := by simpa using h
            have hkl : k < l.length := by omega
            clear h
            have stepk : isPushOf (nth l i).key (nth l i).arg (nth l k) = false → ∀ j, j < k + 1 → isPushOf (nth l i).key (nth l i).arg (nth l j) = false := fun h0 j hj => by
              rcases Nat.lt_or_ge j k with h1 | h1
              · exact hn j h1
              · have : j = k := by omega
                subst this; exact h0
            (repeat (first | refine FW.seq ?_ | refine FW.block ?_ | refine FW.skip ?_ | refine FW.draw ?_ | refine rd_move rfl rfl rfl ?_ | refine rd_indexL rfl rfl (by first | rfl | exact (Int.toNat_of_nonneg (by omega)).symm) rfl rfl rfl (by first | omega | (simp; omega) | (simp; done)) rfl rfl ?_ | refine rd_fieldE rfl rfl rfl rfl rfl rfl rfl ?_ | refine rd_loadE rfl rfl rfl (by first | omega | (simp; omega) | (simp; done)) (by first | exact getD_map (by omega) | rfl) rfl rfl rfl rfl ?_ | refine rd_eql rfl rfl rfl rfl ?_))
            refine rd_case (fun q1 => ?_) (fun q1 => ?_)
            · (repeat (first | refine rd_move rfl rfl rfl ?_ | refine rd_pickT rfl rfl rfl rfl ?_ | refine rd_move rfl rfl ⟨_, _, rfl, rfl, rfl⟩ ?_ | refine rd_indexL rfl rfl (by first | rfl | exact (Int.toNat_of_nonneg (by omega)).symm) rfl rfl rfl (by first | omega | (simp; omega) | (simp; done)) rfl ⟨_, _, rfl, rfl, rfl⟩ ?_ | refine rd_fieldE rfl rfl rfl rfl rfl rfl ⟨_, _, rfl, rfl, rfl⟩ ?_ | refine rd_loadE rfl rfl rfl (by first | omega | (simp; omega) | (simp; done)) (by first | exact getD_map (by omega) | rfl) rfl rfl rfl ⟨_, _, rfl, rfl, rfl⟩ ?_ | refine rd_eql rfl rfl rfl ⟨_, _, rfl, rfl, rfl⟩ ?_))
              refine rd_case (fun q2 => ?_) (fun q2 => ?_)
              · (repeat (first | refine RunD.nil ?_ | refine rd_pickT rfl rfl rfl rfl ?_ | refine rd_move rfl rfl ⟨_, _, rfl, rfl, rfl⟩ ?_ | refine rd_indexL rfl rfl (by first | rfl | exact (Int.toNat_of_nonneg (by omega)).symm) rfl rfl rfl (by first | omega | (simp; omega) | (simp; done)) rfl ⟨_, _, rfl, rfl, rfl⟩ ?_ | refine rd_fieldE rfl rfl rfl rfl rfl rfl ⟨_, _, rfl, rfl, rfl⟩ ?_ | refine rd_loadE rfl rfl rfl (by first | omega | (simp; omega) | (simp; done)) (by first | exact getD_map (by omega) | rfl) rfl rfl rfl ⟨_, _, rfl, rfl, rfl⟩ ?_ | refine rd_eql rfl rfl rfl ⟨_, _, rfl, rfl, rfl⟩ ?_))
                refine ⟨by kernel_rfl, ?_⟩
                refine FW.cond rfl (fun q3 => ?_) (fun q3 => ?_)
                · (repeat (first | refine FW.seq ?_ | refine FW.region ?_ | refine RunN.nil ?_ | refine rn_assign rfl rfl rfl ?_))
                  refine FW.ret ⟨.inl rfl, ret_flat rfl rfl ?_ rfl⟩
                  rw [bad (fun h0 => by
                    rcases h0 with h0 | ⟨_, _, h0⟩
                    · exact h4 h0
                    · have := h0 k hki
                      simp at q1 q2 q3
                      simp [isPushOf, q1, q2, q3] at this)]
                  rfl
                · (repeat (first | refine FW.region ?_ | refine FW.skip ?_ | refine RunN.nil ?_ | refine rn_assign rfl rfl rfl ?_ | refine rn_move rfl rfl rfl ?_ | refine rn_add rfl rfl (by omega) rfl rfl ?_))
                  exact ⟨k + 1, ⟨by omega, stepk (by simp at q1 q2 q3; simp [isPushOf, q1, q2, q3])⟩, by omega, (FLe.conv [] (by simp) (by simp) (by repeat (first | exact EntsOk.nil)) (by repeat (first | exact SlC.nil | refine SlC.cons (.plain rfl rfl (by first | rfl | (simp; done) | (congr 1; omega) | (simp; omega))) ?_)))⟩
              · (repeat (first | refine RunD.nil ?_ | refine rd_pickF rfl rfl rfl rfl ?_ | refine rd_skip rfl rfl ⟨_, _, rfl, rfl, rfl⟩ ?_))
                refine ⟨by kernel_rfl, ?_⟩
                (repeat (first | refine FW.region ?_ | refine FW.skip ?_ | refine FW.condF rfl ?_ | refine RunN.nil ?_ | refine rn_assign rfl rfl rfl ?_ | refine rn_move rfl rfl rfl ?_ | refine rn_add rfl rfl (by omega) rfl rfl ?_))
                exact ⟨k + 1, ⟨by omega, stepk (by simp at q1 q2; simp [isPushOf, q1, q2])⟩, by omega, (FLe.conv [] (by simp) (by simp) (by repeat (first | exact EntsOk.nil)) (by repeat (first | exact SlC.nil | refine SlC.cons (.plain rfl rfl (by first | rfl | (simp; done) | (congr 1; omega) | (simp; omega))) ?_)))⟩
            · (repeat (first | refine RunD.nil ?_ | refine rd_move rfl rfl rfl ?_ | refine rd_pickF rfl rfl rfl rfl ?_ | refine rd_skip rfl rfl ⟨_, _, rfl, rfl, rfl⟩ ?_))
              refine ⟨by kernel_rfl, ?_⟩
              (repeat (first | refine FW.region ?_ | refine FW.skip ?_ | refine FW.condF rfl ?_ | refine RunN.nil ?_ | refine rn_assign rfl rfl rfl ?_ | refine rn_move rfl rfl rfl ?_ | refine rn_add rfl rfl (by omega) rfl rfl ?_))
              exact ⟨k + 1, ⟨by omega, stepk (by simp at q1; simp [isPushOf, q1])⟩, by omega, (FLe.conv [] (by simp) (by simp) (by repeat (first | exact EntsOk.nil)) (by repeat (first | exact SlC.nil | refine SlC.cons (.plain rfl rfl (by first | rfl | (simp; done) | (congr 1; omega) | (simp; omega))) ?_)))⟩
          · have : k = i := by simp at h; omega
            subst this
            (repeat (first | refine FW.region ?_ | refine FW.exit ?_ | refine RunN.nil ?_ | refine rn_assign rfl rfl rfl ?_ | refine rn_move rfl rfl rfl ?_ | refine rn_add rfl rfl (by omega) rfl rfl ?_))
            exact ⟨k + 1, ⟨by omega, step (.inr ⟨h3, ha, hn⟩)⟩, by omega, (FLe.conv [] (by simp) (by simp) (by repeat (first | exact EntsOk.nil)) (by repeat (first | exact SlC.nil | refine SlC.cons (.plain rfl rfl (by first | rfl | (simp; done) | (congr 1; omega) | (simp; omega))) ?_)))⟩
  · have : i = l.length := by simp at h; omega
    subst this
    (repeat (first | refine FW.seq ?_ | refine FW.region ?_ | refine FW.exit ?_ | refine RunN.nil ?_ | refine rn_assign rfl rfl rfl ?_))
    refine FW.ret ⟨.inl rfl, ret_flat rfl rfl ?_ rfl⟩
    rw [decide_eq_true (show dom24 l from hok)]
    rfl
end Go.Proofs.Ythijndjgchbeoaa
