/-
  The dependencies of package serial, at plain values.
-/
import Derived.Test.YtfegkbmnclhljaaZG
import Derived.Test.YtfegkbmnclhljaaZSerCyc
namespace Go.Proofs.Ytfegkbmnclhljaa
set_option linter.unusedVariables false
open Go.RowKit

def EdV.fv (e : EdV) : List FV := [.int .i64 e.1, .int .i64 e.2.1, .int .i64 e.2.2]
theorem EdV.flatsM (l : List EdV) : ∀ e ∈ l.map EdV.fv, FV.flat.flats e = true := fun e he => by
  obtain ⟨x, _, rfl⟩ := List.mem_map.1 he; rfl
set_option maxHeartbeats 1000000 in
theorem sIncl_spec (o : OpV) : Spec Try.prog 30 [.agg o.fv] .fr (.bool (incl22 o)) := by
  refine Spec.of_body (c := (cxOf Try.prog tyAt_ok mixed_ok 15)) ⟨Try.func30, rfl, Try.ntmps30, by kernel_rfl⟩ (by simp [FV.hand]) (by exact Nat.le_of_ble_eq_true rfl) rfl ?_
  change FW _ _ _ ⟨[(0, .agg o.fv)], []⟩
  (repeat (first | refine FW.seq ?_ | refine FW.region ?_ | refine RunN.nil ?_ | refine rn_boxA rfl rfl rfl rfl rfl rfl rfl ?_ | refine rn_assign rfl rfl rfl ?_ | refine rn_fieldP rfl rfl rfl rfl rfl rfl (by decide) rfl rfl ?_ | refine rn_loadP rfl rfl rfl rfl rfl (by simp; done) rfl rfl rfl rfl rfl ?_ | refine rn_move rfl rfl rfl ?_))
  refine rn_case (fun h1 => ?_) (fun h1 => ?_)
  · (repeat (first | refine rn_fieldP rfl rfl rfl rfl rfl rfl (by decide) rfl ⟨_, _, rfl, rfl, rfl⟩ ?_ | refine rn_loadP rfl rfl rfl rfl rfl (by simp; done) rfl rfl rfl rfl ⟨_, _, rfl, rfl, rfl⟩ ?_ | refine rn_eql rfl rfl rfl ⟨_, _, rfl, rfl, rfl⟩ ?_ | refine rn_move rfl rfl ⟨_, _, rfl, rfl, rfl⟩ ?_))
    refine rn_case (fun h2 => ?_) (fun h2 => ?_)
    · (repeat (first | refine RunN.nil ?_ | refine rn_assign rfl rfl rfl ?_ | refine rn_pickT rfl rfl rfl rfl ?_ | refine rn_pickT rfl rfl rfl ⟨_, _, rfl, rfl, rfl⟩ ?_ | refine rn_skip rfl rfl ⟨_, _, rfl, rfl, rfl⟩ ?_))
      refine FW.ret ⟨.inl rfl, ret_flat rfl rfl ?_ rfl⟩
      simp at h1 h2
      simp [incl22, h1, h2]; rfl
    · (repeat (first | refine RunN.nil ?_ | refine rn_assign rfl rfl rfl ?_ | refine rn_pickT rfl rfl rfl rfl ?_ | refine rn_fieldP rfl rfl rfl rfl rfl rfl (by decide) rfl ⟨_, _, rfl, rfl, rfl⟩ ?_ | refine rn_loadP rfl rfl rfl rfl rfl (by simp; done) rfl rfl rfl rfl ⟨_, _, rfl, rfl, rfl⟩ ?_ | refine rn_eql rfl rfl rfl ⟨_, _, rfl, rfl, rfl⟩ ?_ | refine rn_pickF rfl rfl rfl ⟨_, _, rfl, rfl, rfl⟩ ?_))
      refine FW.ret ⟨.inl rfl, ret_flat rfl rfl ?_ rfl⟩
      simp at h1 h2
      simp [incl22, h1, h2]; rfl
  · (repeat (first | refine RunN.nil ?_ | refine rn_assign rfl rfl rfl ?_ | refine rn_pickF rfl rfl rfl rfl ?_ | refine rn_skip rfl rfl ⟨_, _, rfl, rfl, rfl⟩ ?_))
    refine FW.ret ⟨.inl rfl, ret_flat rfl rfl ?_ rfl⟩
    simp [incl22, h1]; rfl
abbrev capL (l : List OpV) : FV := .eptr 1 [[.list 8 (l.map OpV.fv)]] 0 0
set_option maxHeartbeats 2000000 in
theorem rules1_spec (l : List OpV) (i k : Nat) (kd : Int) (hi : i < l.length) (hk : k < l.length) : Spec Try.prog 54 ([.int .i64 i, .int .i64 k, .int .i64 kd] ++ [capL l]) .fr (.bool (wroteB (nth l i) (nth l k) kd)) := by
  obtain ⟨a, ha⟩ : ∃ a, nth l i = a := ⟨_, rfl⟩
  obtain ⟨b, hb⟩ : ∃ b, nth l k = b := ⟨_, rfl⟩
  rw [ha, hb]
  refine Spec.of_body (c := (cxOf Try.prog tyAt_ok mixed_ok 41)) ⟨Try.func54, rfl, Try.ntmps54, by kernel_rfl⟩ (by simp [FV.hand]) (by exact Nat.le_of_ble_eq_true rfl) rfl ?_
  change FW _ _ _ ⟨[(0, .int .i64 i), (1, .int .i64 k), (2, .int .i64 kd), (3, .eptr 1 [[.list 8 (l.map OpV.fv)]] 0 0)], []⟩
  (repeat (first | refine FW.seq ?_ | refine FW.region ?_ | refine RunN.nil ?_ | refine rn_assign rfl rfl rfl ?_ | refine FW.draw ?_ | refine RunD.nil ?_ | refine rd_loadE rfl rfl rfl (by first | (simp; omega) | (simp; done)) (by first | exact getD_map (by omega) | rfl) rfl rfl rfl rfl ?_ | refine rd_loadEA rfl rfl rfl (by decide) (by first | (simp; omega) | (simp; done)) (by first | exact getD_map (by omega) | rfl) rfl rfl rfl ?_ | refine rd_move rfl rfl rfl ?_ | refine rd_indexL rfl rfl rfl rfl rfl rfl (by first | (simp; omega) | (simp; done)) rfl rfl ?_ | refine rd_alloc rfl rfl rfl rfl rfl rfl rfl ?_ | refine rd_storeVA rfl rfl rfl rfl rfl rfl rfl rfl rfl ?_))
  refine ⟨by kernel_rfl, ?_⟩
  rw [ha, hb]
  (repeat (first | refine FW.seq ?_ | refine FW.region ?_ | refine rn_loadP rfl rfl rfl rfl rfl (by simp; done) rfl rfl rfl rfl rfl ?_ | refine rn_move rfl rfl rfl ?_ | refine rn_fieldP rfl rfl rfl rfl rfl rfl (by decide) rfl rfl ?_ | refine rn_eql rfl rfl rfl rfl ?_))
  refine rn_case (fun h1 => ?_) (fun h1 => ?_)
  · (repeat (first | refine rn_move rfl rfl rfl ?_ | refine rn_pickT rfl rfl rfl rfl ?_ | refine rn_fieldP rfl rfl rfl rfl rfl rfl (by decide) rfl ⟨_, _, rfl, rfl, rfl⟩ ?_ | refine rn_loadP rfl rfl rfl rfl rfl (by simp; done) rfl rfl rfl rfl ⟨_, _, rfl, rfl, rfl⟩ ?_ | refine rn_eql rfl rfl rfl ⟨_, _, rfl, rfl, rfl⟩ ?_))
    refine rn_case (fun h2 => ?_) (fun h2 => ?_)
    · (repeat (first | refine rn_move rfl rfl rfl ?_ | refine rn_pickT rfl rfl rfl rfl ?_ | refine rn_fieldP rfl rfl rfl rfl rfl rfl (by decide) rfl ⟨_, _, rfl, rfl, rfl⟩ ?_ | refine rn_loadP rfl rfl rfl rfl rfl (by simp; done) rfl rfl rfl rfl ⟨_, _, rfl, rfl, rfl⟩ ?_ | refine rn_eql rfl rfl rfl ⟨_, _, rfl, rfl, rfl⟩ ?_))
      refine rn_case (fun h3 => ?_) (fun h3 => ?_)
      · (repeat (first | refine RunN.nil ?_ | refine rn_assign rfl rfl rfl ?_ | refine rn_pickT rfl rfl rfl rfl ?_ | refine rn_fieldP rfl rfl rfl rfl rfl rfl (by decide) rfl ⟨_, _, rfl, rfl, rfl⟩ ?_ | refine rn_loadP rfl rfl rfl rfl rfl (by simp; done) rfl rfl rfl rfl ⟨_, _, rfl, rfl, rfl⟩ ?_ | refine rn_eql rfl rfl rfl ⟨_, _, rfl, rfl, rfl⟩ ?_ | refine rn_move rfl rfl ⟨_, _, rfl, rfl, rfl⟩ ?_))
        refine FW.ret ⟨.inl rfl, ret_flat rfl rfl ?_ rfl⟩
        simp at h1 h2 h3
        simp [wroteB, h1, h2, h3]; rfl
      · (repeat (first | refine RunN.nil ?_ | refine rn_assign rfl rfl rfl ?_ | refine rn_pickF rfl rfl rfl rfl ?_ | refine rn_skip rfl rfl ⟨_, _, rfl, rfl, rfl⟩ ?_))
        refine FW.ret ⟨.inl rfl, ret_flat rfl rfl ?_ rfl⟩
        simp at h1 h2 h3
        simp [wroteB, h1, h2, h3]; rfl
    · (repeat (first | refine RunN.nil ?_ | refine rn_assign rfl rfl rfl ?_ | refine rn_move rfl rfl rfl ?_ | refine rn_pickF rfl rfl rfl rfl ?_ | refine rn_skip rfl rfl ⟨_, _, rfl, rfl, rfl⟩ ?_))
      refine FW.ret ⟨.inl rfl, ret_flat rfl rfl ?_ rfl⟩
      simp at h1 h2
      simp [wroteB, h1, h2]; rfl
  · (repeat (first | refine RunN.nil ?_ | refine rn_assign rfl rfl rfl ?_ | refine rn_move rfl rfl rfl ?_ | refine rn_pickF rfl rfl rfl rfl ?_ | refine rn_skip rfl rfl ⟨_, _, rfl, rfl, rfl⟩ ?_))
    refine FW.ret ⟨.inl rfl, ret_flat rfl rfl ?_ rfl⟩
    simp at h1
    simp [wroteB, h1]; rfl
abbrev capW (l : List OpV) : FV := .eptr 1 [[.fn 54 [capL l]]] 0 0
set_option maxHeartbeats 1000000 in
theorem rules2_spec (l : List OpV) (i k : Nat) (hi : i < l.length) (hk : k < l.length) : Spec Try.prog 55 ([.int .i64 i, .int .i64 k] ++ [capW l]) .fr (.bool (wroteB (nth l i) (nth l k) 0)) := by
  refine Spec.of_body (c := (cxOf Try.prog tyAt_ok mixed_ok 10)) ⟨Try.func55, rfl, Try.ntmps55, by kernel_rfl⟩ (by simp [FV.hand]) (by exact Nat.le_of_ble_eq_true rfl) rfl ?_
  change FW _ _ _ ⟨[(0, .int .i64 i), (1, .int .i64 k), (2, .eptr 1 [[.fn 54 [capL l]]] 0 0)], []⟩
  (repeat (first | refine FW.seq ?_ | refine FW.region ?_ | refine RunN.nil ?_ | refine rn_assign rfl rfl rfl ?_ | refine rn_loadE rfl rfl rfl (by simp; done) rfl rfl rfl rfl rfl ?_ | refine rn_move rfl rfl rfl ?_))
  refine rn_callV rfl (rules1_spec l i k 0 hi hk) (by repeat (first | exact ArgsR.nil | refine ArgsR.cons (by exact ArgR.plain rfl rfl) ?_)) rfl rfl ?_
  (repeat (first | refine RunN.nil ?_ | refine rn_assign rfl rfl rfl ?_))
  exact FW.ret ⟨.inl rfl, ret_flat rfl rfl rfl rfl⟩
set_option maxHeartbeats 1000000 in
theorem rules3_spec (l : List OpV) (i k : Nat) (hi : i < l.length) (hk : k < l.length) : Spec Try.prog 56 ([.int .i64 i, .int .i64 k] ++ [capW l]) .fr (.bool (wroteB (nth l i) (nth l k) 2)) := by
  refine Spec.of_body (c := (cxOf Try.prog tyAt_ok mixed_ok 10)) ⟨Try.func56, rfl, Try.ntmps56, by kernel_rfl⟩ (by simp [FV.hand]) (by exact Nat.le_of_ble_eq_true rfl) rfl ?_
  change FW _ _ _ ⟨[(0, .int .i64 i), (1, .int .i64 k), (2, .eptr 1 [[.fn 54 [capL l]]] 0 0)], []⟩
  (repeat (first | refine FW.seq ?_ | refine FW.region ?_ | refine RunN.nil ?_ | refine rn_assign rfl rfl rfl ?_ | refine rn_loadE rfl rfl rfl (by simp; done) rfl rfl rfl rfl rfl ?_ | refine rn_move rfl rfl rfl ?_))
  refine rn_callV rfl (rules1_spec l i k 2 hi hk) (by repeat (first | exact ArgsR.nil | refine ArgsR.cons (by exact ArgR.plain rfl rfl) ?_)) rfl rfl ?_
  (repeat (first | refine RunN.nil ?_ | refine rn_assign rfl rfl rfl ?_))
  exact FW.ret ⟨.inl rfl, ret_flat rfl rfl rfl rfl⟩
set_option maxHeartbeats 4000000 in
theorem rules4_spec (l : List OpV) (i k : Nat) (hi : i < l.length) (hk : k < l.length) : Spec Try.prog 57 ([.int .i64 i, .int .i64 k] ++ [capL l]) .fr (.bool (precB i k (nth l i) (nth l k))) := by
  obtain ⟨a, ha⟩ : ∃ a, nth l i = a := ⟨_, rfl⟩
  obtain ⟨b, hb⟩ : ∃ b, nth l k = b := ⟨_, rfl⟩
  rw [ha, hb]
  refine Spec.of_body (c := (cxOf Try.prog tyAt_ok mixed_ok 43)) ⟨Try.func57, rfl, Try.ntmps57, by kernel_rfl⟩ (by simp [FV.hand]) (by exact Nat.le_of_ble_eq_true rfl) rfl ?_
  change FW _ _ _ ⟨[(0, .int .i64 i), (1, .int .i64 k), (2, .eptr 1 [[.list 8 (l.map OpV.fv)]] 0 0)], []⟩
  (repeat (first | refine FW.seq ?_ | refine FW.region ?_ | refine RunN.nil ?_ | refine rn_assign rfl rfl rfl ?_ | refine FW.draw ?_ | refine rd_move rfl rfl rfl ?_ | refine rd_neq rfl rfl rfl rfl ?_))
  refine rd_case (fun h1 => ?_) (fun h1 => ?_)
  · (repeat (first | refine rd_move rfl rfl rfl ?_ | refine rd_pickT rfl rfl rfl rfl ?_ | refine rd_loadE rfl rfl rfl (by first | (simp; omega) | (simp; done)) (by first | exact getD_map (by omega) | rfl) rfl rfl rfl ⟨_, _, rfl, rfl, rfl⟩ ?_ | refine rd_move rfl rfl ⟨_, _, rfl, rfl, rfl⟩ ?_ | refine rd_indexL rfl rfl rfl rfl rfl rfl (by first | (simp; omega) | (simp; done)) rfl ⟨_, _, rfl, rfl, rfl⟩ ?_ | refine rd_fieldE rfl rfl rfl rfl rfl rfl ⟨_, _, rfl, rfl, rfl⟩ ?_ | refine rd_eql rfl rfl rfl ⟨_, _, rfl, rfl, rfl⟩ ?_))
    rw [ha, hb]
    refine rd_case (fun h2 => ?_) (fun h2 => ?_)
    · (repeat (first | refine rd_move rfl rfl rfl ?_ | refine rd_pickT rfl rfl rfl rfl ?_ | refine rd_loadE rfl rfl rfl (by first | (simp; omega) | (simp; done)) (by first | exact getD_map (by omega) | rfl) rfl rfl rfl ⟨_, _, rfl, rfl, rfl⟩ ?_ | refine rd_move rfl rfl ⟨_, _, rfl, rfl, rfl⟩ ?_ | refine rd_indexL rfl rfl rfl rfl rfl rfl (by first | (simp; omega) | (simp; done)) rfl ⟨_, _, rfl, rfl, rfl⟩ ?_ | refine rd_fieldE rfl rfl rfl rfl rfl rfl ⟨_, _, rfl, rfl, rfl⟩ ?_ | refine rd_eql rfl rfl rfl ⟨_, _, rfl, rfl, rfl⟩ ?_))
      rw [ha, hb]
      refine rd_case (fun h3 => ?_) (fun h3 => ?_)
      · (repeat (first | refine RunD.nil ?_ | refine rd_assign rfl rfl rfl ?_ | refine rd_pickT rfl rfl rfl rfl ?_ | refine rd_loadE rfl rfl rfl (by first | (simp; omega) | (simp; done)) (by first | exact getD_map (by omega) | rfl) rfl rfl rfl ⟨_, _, rfl, rfl, rfl⟩ ?_ | refine rd_move rfl rfl ⟨_, _, rfl, rfl, rfl⟩ ?_ | refine rd_indexL rfl rfl rfl rfl rfl rfl (by first | (simp; omega) | (simp; done)) rfl ⟨_, _, rfl, rfl, rfl⟩ ?_ | refine rd_fieldE rfl rfl rfl rfl rfl rfl ⟨_, _, rfl, rfl, rfl⟩ ?_ | refine rd_eql rfl rfl rfl ⟨_, _, rfl, rfl, rfl⟩ ?_))
        rw [hb]
        refine ⟨by kernel_rfl, ?_⟩
        skip
        refine FW.ret ⟨.inl rfl, ret_flat rfl rfl ?_ rfl⟩
        simp at h1 h2 h3
        have h1 : i ≠ k := by omega
        simp [precB, h1, h2, h3]; rfl
      · (repeat (first | refine RunD.nil ?_ | refine rd_assign rfl rfl rfl ?_ | refine rd_pickF rfl rfl rfl rfl ?_ | refine rd_skip rfl rfl ⟨_, _, rfl, rfl, rfl⟩ ?_))
        refine ⟨by kernel_rfl, ?_⟩
        skip
        refine FW.ret ⟨.inl rfl, ret_flat rfl rfl ?_ rfl⟩
        simp at h1 h2 h3
        have h1 : i ≠ k := by omega
        simp [precB, h1, h2, h3]; rfl
    · (repeat (first | refine RunD.nil ?_ | refine rd_assign rfl rfl rfl ?_ | refine rd_move rfl rfl rfl ?_ | refine rd_pickF rfl rfl rfl rfl ?_ | refine rd_skip rfl rfl ⟨_, _, rfl, rfl, rfl⟩ ?_))
      refine ⟨by kernel_rfl, ?_⟩
      skip
      refine FW.ret ⟨.inl rfl, ret_flat rfl rfl ?_ rfl⟩
      simp at h1 h2
      have h1 : i ≠ k := by omega
      simp [precB, h1, h2]; rfl
  · (repeat (first | refine RunD.nil ?_ | refine rd_assign rfl rfl rfl ?_ | refine rd_move rfl rfl rfl ?_ | refine rd_pickF rfl rfl rfl rfl ?_ | refine rd_skip rfl rfl ⟨_, _, rfl, rfl, rfl⟩ ?_))
    refine ⟨by kernel_rfl, ?_⟩
    skip
    refine FW.ret ⟨.inl rfl, ret_flat rfl rfl ?_ rfl⟩
    simp at h1
    have h1 : i = k := by omega
    simp [precB, h1]; rfl
set_option maxHeartbeats 1000000 in
theorem rules5_spec (l : List OpV) (i k : Nat) (hi : i < l.length) (hk : k < l.length) : Spec Try.prog 58 ([.int .i64 i, .int .i64 k] ++ [capL l]) .fr (.bool (bef l i k)) := by
  refine Spec.of_body (c := (cxOf Try.prog tyAt_ok mixed_ok 10)) ⟨Try.func58, rfl, Try.ntmps58, by kernel_rfl⟩ (by simp [FV.hand]) (by exact Nat.le_of_ble_eq_true rfl) rfl ?_
  change FW _ _ _ ⟨[(0, .int .i64 i), (1, .int .i64 k), (2, .eptr 1 [[.list 8 (l.map OpV.fv)]] 0 0)], []⟩
  (repeat (first | refine FW.seq ?_ | refine FW.region ?_ | refine RunN.nil ?_ | refine rn_assign rfl rfl rfl ?_ | refine rn_loadE rfl rfl rfl (by simp; done) rfl rfl rfl rfl rfl ?_ | refine rn_move rfl rfl rfl ?_))
  refine rn_call (hBefore_spec l i k hi hk) (by repeat (first | exact ArgsR.nil | refine ArgsR.cons (by exact ArgR.plain rfl rfl) ?_)) rfl rfl ?_
  (repeat (first | refine RunN.nil ?_ | refine rn_assign rfl rfl rfl ?_))
  exact FW.ret ⟨.inl rfl, ret_flat rfl rfl rfl rfl⟩
def rulesR (l : List OpV) (s : Bool) : List (List FV) :=
  [[.int .i64 2, .fn 55 [capW l]], [.int .i64 3, .fn 56 [capW l]], [.int .i64 4, .fn 57 [capL l]]] ++ if s = true then [[.int .i64 5, .fn 58 [capL l]]] else []
set_option maxHeartbeats 4000000 in
theorem rules_spec (l : List OpV) (s : Bool) : Spec Try.prog 29 [.list 8 (l.map OpV.fv), .bool s] .sh (.list 2 (rulesR l s)) := by
  refine Spec.of_body (c := (cxOf Try.prog tyAt_ok mixed_ok 22)) ⟨Try.func29, rfl, Try.ntmps29, by kernel_rfl⟩ (by simp [FV.hand]) (by exact Nat.le_of_ble_eq_true rfl) rfl ?_
  change FW _ _ _ ⟨[(0, .list 8 (l.map OpV.fv)), (1, .bool s)], []⟩
  (repeat (first | refine FW.seq ?_ | refine FW.region ?_ | refine RunN.nil ?_ | refine rn_box1 rfl rfl rfl rfl rfl ?_ | refine rn_assign rfl rfl rfl ?_))
  refine RunN.le ?_ (FLe.shareP 2 rfl rfl)
  (repeat (first | refine rn_makeFn1 rfl rfl rfl rfl ?_))
  refine rn_allocH rfl rfl rfl rfl rfl ?_
  (repeat (first | refine FW.seq ?_ | refine FW.region ?_ | refine RunN.nil ?_ | refine rn_storeHV rfl rfl rfl rfl rfl rfl (by simp; done) rfl ?_))
  refine RunN.le ?_ (FLe.ofH 5 rfl rfl)
  refine RunN.le ?_ (FLe.shareP 5 rfl rfl)
  (repeat (first | refine rn_makeFn1 rfl rfl rfl rfl ?_ | refine rn_buildK rfl rfl rfl rfl ?_ | refine FillK.nil ?_ | refine FillK.one rfl rfl rfl rfl rfl ?_))
  refine rn_buildS (es := [[.int .i64 2, .fn 55 [capW l]], [.int .i64 3, .fn 56 [capW l]], [.int .i64 4, .fn 57 [capL l]]]) rfl rfl rfl (by refine PtsS.agg rfl rfl rfl ?_; refine PtsS.agg rfl rfl rfl ?_; refine PtsS.agg rfl rfl rfl ?_; exact PtsS.nil) rfl rfl rfl rfl rfl rfl ?_
  (repeat (first | refine FW.seq ?_ | refine FW.region ?_ | refine RunN.nil ?_ | refine rn_assign rfl rfl rfl ?_ | refine rn_move rfl rfl rfl ?_))
  refine FW.cond rfl (fun h => ?_) (fun h => ?_)
  · subst h
    (repeat (first | refine FW.seq ?_ | refine FW.region ?_ | refine RunN.nil ?_ | refine rn_assign rfl rfl rfl ?_ | refine rn_makeFn1 rfl rfl rfl rfl ?_ | refine rn_buildK rfl rfl rfl rfl ?_ | refine rn_buildS1A rfl rfl rfl rfl rfl rfl rfl rfl rfl rfl ?_ | refine rn_move rfl rfl rfl ?_ | refine rn_appO rfl rfl (by first | rfl | (simp; done)) rfl rfl rfl (by decide) (by exact SrcR.own rfl rfl (by decide) (by first | exact List.length_map _ | exact (List.length_map _).symm | exact List.length_replicate | rfl | (simp; done) | omega | (simp; omega))) (by simp; done) (by simp; done) rfl rfl rfl ?_ | refine FillK.nil ?_ | refine FillK.one rfl rfl rfl rfl rfl ?_))
    refine FW.le ?_ (FLe.share 4 rfl rfl rfl)
    exact FW.ret ⟨.inl rfl, .sh (.cons (.tmp 4 rfl rfl) .nil) rfl rfl⟩
  · subst h
    (repeat (first | refine FW.seq ?_ | refine FW.region ?_ | refine FW.skip ?_ | refine RunN.nil ?_ | refine rn_assign rfl rfl rfl ?_ | refine rn_move rfl rfl rfl ?_))
    refine FW.le ?_ (FLe.share 4 rfl rfl rfl)
    exact FW.ret ⟨.inl rfl, .sh (.cons (.tmp 4 rfl rfl) .nil) rfl rfl⟩
def ruleB (l : List OpV) (i k : Nat) : Nat → Bool
  | 0 => wroteB (nth l i) (nth l k) 0
  | 1 => wroteB (nth l i) (nth l k) 2
  | 2 => precB i k (nth l i) (nth l k)
  | _ => bef l i k
def rulesN (s : Bool) : Nat := if s = true then 4 else 3
theorem rulesR_len (l : List OpV) (s : Bool) : (rulesR l s).length = rulesN s := by cases s <;> rfl
theorem rulesR_nth (l : List OpV) (s : Bool) {j : Nat} (hj : j < rulesN s) : ∃ f caps, nth (rulesR l s) j = [.int .i64 ((j : Int) + 2), .fn f caps] ∧ ∀ i k : Nat, i < l.length → k < l.length → Spec Try.prog f ([.int .i64 i, .int .i64 k] ++ caps) .fr (.bool (ruleB l i k j)) := by
  have h4 : j = 0 ∨ j = 1 ∨ j = 2 ∨ (j = 3 ∧ s = true) := by
    unfold rulesN at hj
    cases s with
    | true => rw [if_pos rfl] at hj; simp; omega
    | false => rw [if_neg (by decide)] at hj; simp; omega
  rcases h4 with rfl | rfl | rfl | ⟨rfl, rfl⟩
  · exact ⟨_, _, by cases s <;> rfl, fun i k hi hk => rules2_spec l i k hi hk⟩
  · exact ⟨_, _, by cases s <;> rfl, fun i k hi hk => rules3_spec l i k hi hk⟩
  · exact ⟨_, _, by cases s <;> rfl, fun i k hi hk => rules4_spec l i k hi hk⟩
  · exact ⟨_, _, rfl, fun i k hi hk => rules5_spec l i k hi hk⟩
def ruleTo (l : List OpV) (i k : Nat) : Nat → List Int
  | 0 => []
  | j + 1 => ruleTo l i k j ++ optB (ruleB l i k j) ((j : Int) + 2)
theorem ruleTo_all (l : List OpV) (s : Bool) (i k : Nat) : ruleTo l i k (rulesN s) = whys l s i k := by
  unfold whys
  cases s with
  | true => simp [rulesN, ruleTo, ruleB]
  | false => simp [rulesN, ruleTo, ruleB, optB]
theorem ruleTo_len (l : List OpV) (i k : Nat) : ∀ j, (ruleTo l i k j).length ≤ j
  | 0 => Nat.zero_le _
  | j + 1 => by
    have := ruleTo_len l i k j
    have := optB_len (ruleB l i k j) ((j : Int) + 2)
    rw [ruleTo, List.length_append]
    omega
end Go.Proofs.Ytfegkbmnclhljaa
