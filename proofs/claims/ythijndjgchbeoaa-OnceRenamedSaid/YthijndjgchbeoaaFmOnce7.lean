/-
  Functions of layer 24, at plain values: pushes.
-/
import Derived.Test.YthijndjgchbeoaaFmOnce5
namespace Go.Proofs.Ythijndjgchbeoaa
set_option linter.unusedVariables false
open Go.RowKit

set_option maxHeartbeats 4000000 in
theorem pushes_spec (l : List OpV) (hl : l.length ≤ 1000000000) (hin : ∀ o ∈ l, OpIn o) : Spec Try.prog 44 [.list 8 (l.map OpV.fv)] .sh (.tup [if dom24 l then .smap (pushRows l l.length) else .undef, .bool (decide (dom24 l))]) := by
  refine Spec.of_body (c := (cxOf Try.prog tyAt_ok mixed_ok 46)) ⟨Try.func44, rfl, Try.ntmps44, by kernel_rfl⟩ (by simp [FV.hand]) (by exact Nat.le_of_ble_eq_true rfl) rfl ?_
  change FW _ _ _ ⟨[(0, .list 8 (l.map OpV.fv))], []⟩
  (repeat (first | refine FW.seq ?_ | refine FW.region ?_ | refine FW.block ?_ | refine RunN.nil ?_ | refine rn_assign rfl rfl rfl ?_ | refine rn_makeMap rfl rfl rfl ?_ | refine rn_move rfl rfl rfl ?_ | refine rn_lenList rfl rfl (by first | exact List.length_map _ | exact (List.length_map _).symm | exact List.length_replicate | rfl | (simp; done) | omega | (simp; omega)) rfl rfl ?_))
  refine FW.loop (fun i : Nat => ⟨[(0, .list 8 (l.map OpV.fv)), (4, .omap 100 0), (11, .list 8 (l.map OpV.fv)), (12, .int .i64 l.length), (13, .int .i64 i)], [(100, ⟨0, .mapo, 76, 0, pushRows l i⟩)]⟩) (fun i => i ≤ l.length ∧ ∀ j, j < i → okAt l j) (fun i => l.length - i) 0 (by simp)
    (FLe.conv [⟨100, some 10, 1, ⟨0, .mapo, 76, 0, []⟩⟩] (by simp) (by simp) (by repeat (first | exact EntsOk.nil | refine EntsOk.old rfl (by decide) (by first | rfl | (simp; done) | (congr 1; omega) | (simp; omega)) ?_)) (by repeat (first | exact SlC.nil | refine SlC.cons (.plain rfl rfl (by first | rfl | (simp; done) | (congr 1; omega) | (simp; omega))) ?_ | refine SlC.cons (.omap rfl (.head _) rfl) ?_))) ?_
  rintro i ⟨hi, hok⟩
  (repeat (first | refine FW.seq ?_ | refine FW.region ?_ | refine RunN.nil ?_ | refine rn_lss rfl rfl rfl rfl ?_))
  refine FW.cond rfl (fun h => ?_) (fun h => ?_)
  · have hlt : i < l.length := by simpa using h
    clear h
    have step : okAt l i → ∀ j, j < i + 1 → okAt l j := fun h0 j hj => by
      rcases Nat.lt_or_ge j i with h1 | h1
      · exact hok j h1
      · have : j = i := by omega
        subst this; exact h0
    have bad : ¬ okAt l i → ¬ dom24 l := fun h0 hd => h0 (hd i hlt)
    have ho := hin _ (nth_mem hlt)
    (repeat (first | refine FW.seq ?_ | refine FW.region ?_ | refine FW.block ?_ | refine FW.skip ?_ | refine RunN.nil ?_ | refine rn_assign rfl rfl rfl ?_ | refine rn_move rfl rfl rfl ?_ | refine rn_indexL rfl rfl (by first | rfl | exact (Int.toNat_of_nonneg (by omega)).symm) rfl rfl rfl (by first | omega | (simp; omega) | (simp; done)) rfl rfl ?_ | refine rn_loadP rfl rfl rfl rfl rfl (by first | omega | (simp; omega) | (simp; done)) (by first | exact getD_map (by omega) | rfl) rfl rfl rfl rfl ?_ | refine rn_loadEA rfl rfl rfl (by decide) (by first | omega | (simp; omega) | (simp; done)) (by first | exact getD_map (by omega) | rfl) rfl rfl rfl ?_ | refine rn_alloc rfl rfl rfl rfl rfl rfl rfl ?_ | refine rn_storeVA rfl rfl rfl rfl rfl rfl rfl rfl rfl ?_ | refine rn_fieldP rfl rfl rfl rfl rfl rfl (by decide) rfl rfl ?_ | refine rn_eql rfl rfl rfl rfl ?_))
    refine FW.cond rfl (fun h3 => ?_) (fun h3 => ?_)
    · have h3 : (nth l i).k = 3 := by simpa using h3
      (repeat (first | refine FW.seq ?_ | refine FW.region ?_ | refine RunN.nil ?_ | refine rn_move rfl rfl rfl ?_ | refine rn_loadP rfl rfl rfl rfl rfl (by first | omega | (simp; omega) | (simp; done)) (by first | exact getD_map (by omega) | rfl) rfl rfl rfl rfl ?_ | refine rn_loadPA rfl rfl rfl (by decide) rfl rfl (by first | omega | (simp; omega) | (simp; done)) (by first | exact getD_map (by omega) | rfl) rfl rfl rfl ?_ | refine rn_alloc rfl rfl rfl rfl rfl rfl rfl ?_ | refine rn_storeVA rfl rfl rfl rfl rfl rfl rfl rfl rfl ?_ | refine rn_fieldP rfl rfl rfl rfl rfl rfl (by decide) rfl rfl ?_ | refine rn_buildK rfl rfl rfl rfl ?_ | refine FillK.nil ?_ | refine FillK.one rfl rfl rfl rfl rfl ?_))
      by_cases hkn : ∀ j, j < i → isPushOf (nth l i).key (nth l i).arg (nth l j) = false
      · refine rn_lookM2 keyedE (pushRows_key hi hin) (keyFE ho.2.2.1 ho.2.2.2.1) (.inr ⟨rfl, rfl, pushRows_none hkn⟩) rfl rfl (by decide) rfl rfl rfl rfl rfl rfl ?_
        (repeat (first | refine FW.seq ?_ | refine FW.region ?_ | refine RunN.nil ?_ | refine rn_assign rfl rfl rfl ?_ | refine rn_move rfl rfl rfl ?_ | refine rn_extract rfl rfl rfl rfl rfl ?_ | refine rn_pickF rfl rfl rfl rfl ?_ | refine rn_fieldP rfl rfl rfl rfl rfl rfl (by decide) rfl ⟨_, _, rfl, rfl, rfl⟩ ?_ | refine rn_loadP rfl rfl rfl rfl rfl (by first | omega | (simp; omega) | (simp; done)) (by first | exact getD_map (by omega) | rfl) rfl rfl rfl ⟨_, _, rfl, rfl, rfl⟩ ?_ | refine rn_eql rfl rfl rfl ⟨_, _, rfl, rfl, rfl⟩ ?_))
        refine FW.cond rfl (fun h4 => ?_) (fun h4 => ?_)
        · (repeat (first | refine FW.seq ?_ | refine FW.region ?_ | refine RunN.nil ?_ | refine rn_assign rfl rfl rfl ?_))
          have hd : ¬ dom24 l := bad (by simp at h4; simp [okAt, h3, h4])
          rw [if_neg hd, decide_eq_false hd]
          exact FW.ret ⟨.inl rfl, .sh (.cons (.tmp 2 rfl rfl) (.cons (.tmp 3 rfl rfl) .nil)) rfl rfl⟩
        · (repeat (first | refine FW.region ?_ | refine FW.skip ?_ | refine rn_move rfl rfl rfl ?_ | refine rn_loadPA rfl rfl rfl (by decide) rfl rfl (by first | omega | (simp; omega) | (simp; done)) (by first | exact getD_map (by omega) | rfl) rfl rfl rfl ?_))
          refine rn_update keyedE (pushRows_key hi hin) (keyFE ho.2.2.1 ho.2.2.2.1) (.inr ⟨pushRows_none hkn, rfl⟩) rfl rfl rfl rfl rfl rfl rfl ?_
          (repeat (first | refine FW.region ?_ | refine RunN.nil ?_ | refine rn_move rfl rfl rfl ?_ | refine rn_add rfl rfl (by omega) rfl rfl ?_))
          refine ⟨i + 1, ⟨by omega, step (.inr ⟨h3, by simpa using h4, hkn⟩)⟩, by omega, ?_⟩
          rw [pushRows_succ, if_pos h3]
          exact (FLe.conv [⟨100, some 100, 0, ⟨0, .mapo, 76, 0, pushRows l i ++ [[kfOf (nth l i).key (nth l i).arg, .int .i64 (i : Int)]]⟩⟩] (by simp) (by simp) (by repeat (first | exact EntsOk.nil | refine EntsOk.old rfl (by decide) (by first | rfl | (simp; done) | (congr 1; omega) | (simp; omega)) ?_)) (by repeat (first | exact SlC.nil | refine SlC.cons (.plain rfl rfl (by first | rfl | (simp; done) | (congr 1; omega) | (simp; omega))) ?_ | refine SlC.cons (.omap rfl (.head _) rfl) ?_)))
      · have : ∃ j, j < i ∧ isPushOf (nth l i).key (nth l i).arg (nth l j) = true := by
          simpa using hkn
        obtain ⟨j, hj, hp⟩ := this
        refine rn_lookM2 keyedE (pushRows_key hi hin) (keyFE ho.2.2.1 ho.2.2.2.1) (.inl ⟨rfl, pushRows_mem hj hp⟩) rfl rfl (by decide) rfl rfl rfl rfl rfl rfl ?_
        (repeat (first | refine FW.seq ?_ | refine FW.region ?_ | refine FW.condT rfl ?_ | refine RunN.nil ?_ | refine rn_assign rfl rfl rfl ?_ | refine rn_move rfl rfl rfl ?_ | refine rn_extract rfl rfl rfl rfl rfl ?_ | refine rn_pickT rfl rfl rfl rfl ?_ | refine rn_skip rfl rfl ⟨_, _, rfl, rfl, rfl⟩ ?_))
        have hd : ¬ dom24 l := bad (fun h0 => by
          rcases h0 with h0 | ⟨_, _, h0⟩
          · omega
          · exact hkn h0)
        rw [if_neg hd, decide_eq_false hd]
        exact FW.ret ⟨.inl rfl, .sh (.cons (.tmp 2 rfl rfl) (.cons (.tmp 3 rfl rfl) .nil)) rfl rfl⟩
    · have h3 : (nth l i).k ≠ 3 := by simpa using h3
      (repeat (first | refine FW.seq ?_ | refine FW.region ?_ | refine RunN.nil ?_ | refine rn_assign rfl rfl rfl ?_ | refine rn_eql rfl rfl rfl rfl ?_))
      refine FW.cond rfl (fun h4 => ?_) (fun h4 => ?_)
      · (repeat (first | refine FW.region ?_ | refine FW.skip ?_ | refine RunN.nil ?_ | refine rn_move rfl rfl rfl ?_ | refine rn_add rfl rfl (by omega) rfl rfl ?_))
        refine ⟨i + 1, ⟨by omega, step (.inl (by simpa using h4))⟩, by omega, ?_⟩
        rw [pushRows_succ, if_neg h3, List.append_nil]
        exact (FLe.conv [⟨100, some 100, 0, ⟨0, .mapo, 76, 0, pushRows l i⟩⟩] (by simp) (by simp) (by repeat (first | exact EntsOk.nil | refine EntsOk.old rfl (by decide) (by first | rfl | (simp; done) | (congr 1; omega) | (simp; omega)) ?_)) (by repeat (first | exact SlC.nil | refine SlC.cons (.plain rfl rfl (by first | rfl | (simp; done) | (congr 1; omega) | (simp; omega))) ?_ | refine SlC.cons (.omap rfl (.head _) rfl) ?_)))
      · (repeat (first | refine FW.seq ?_ | refine FW.region ?_ | refine RunN.nil ?_ | refine rn_assign rfl rfl rfl ?_))
        have hd : ¬ dom24 l := bad (by simp at h4; simp [okAt, h3, h4])
        rw [if_neg hd, decide_eq_false hd]
        exact FW.ret ⟨.inl rfl, .sh (.cons (.tmp 2 rfl rfl) (.cons (.tmp 3 rfl rfl) .nil)) rfl rfl⟩
  · have : i = l.length := by simp at h; omega
    subst this
    (repeat (first | refine FW.seq ?_ | refine FW.region ?_ | refine FW.exit ?_ | refine RunN.nil ?_ | refine rn_assign rfl rfl rfl ?_ | refine rn_move rfl rfl rfl ?_))
    refine FW.le ?_ (FLe.shareMap 2 rfl rfl)
    have hd : dom24 l := hok
    rw [if_pos hd, decide_eq_true hd]
    exact FW.ret ⟨.inl rfl, .sh (.cons (.tmp 2 rfl rfl) (.cons (.tmp 3 rfl rfl) .nil)) rfl rfl⟩
end Go.Proofs.Ythijndjgchbeoaa
