/-
  The small functions of layers 01, 21 and 24, at plain values.
-/
import Derived.Test.YthijndjgchbeoaaFmHist0
namespace Go.Proofs.Ythijndjgchbeoaa
set_option linter.unusedVariables false
open Go.RowKit

theorem ints_spec (l : List Int) (hl : l.length ≤ 1000000000) : Spec Try.prog 55 [.list 1 (l.map intf), .int .i64 l.length] (.ow 3 1) (.list 1 (l.map intf)) := by
  refine Spec.of_body (c := (cxOf Try.prog tyAt_ok mixed_ok 14)) ⟨Try.func55, rfl, Try.ntmps55, by kernel_rfl⟩ (by simp [FV.hand]) (by exact Nat.le_of_ble_eq_true rfl) rfl ?_
  change FW _ _ _ ⟨[(0, .list 1 (l.map intf)), (1, .int .i64 l.length)], []⟩
  (repeat (first | refine FW.seq ?_ | refine FW.region ?_ | refine RunN.nil ?_ | refine rn_assign rfl rfl rfl ?_ | refine rn_move rfl rfl rfl ?_ | refine rn_lenList rfl rfl (by first | exact List.length_map _ | exact (List.length_map _).symm | exact List.length_replicate | rfl | (simp; done) | omega | (simp; omega)) rfl rfl ?_ | refine rn_min rfl rfl rfl rfl ?_ | refine rn_sliceL rfl rfl rfl rfl (by first | exact LoR.none | exact LoR.some rfl | exact LoR.lit rfl (by first | rfl | exact (Int.toNat_of_nonneg (by omega)).symm)) (by first | exact HiR.none | exact HiR.some rfl | exact HiR.lit rfl (by first | rfl | exact (Int.toNat_of_nonneg (by omega)).symm)) (by first | omega | (simp; omega) | (simp; done)) (by first | omega | (simp; omega) | (simp; done)) rfl rfl ?_ | refine rn_appN rfl rfl rfl rfl (by decide) (by first | exact SrcR.own rfl rfl (by decide) (by first | exact List.length_map _ | exact (List.length_map _).symm | exact List.length_replicate | rfl | (simp; done) | omega | (simp; omega)) | exact SrcR.list rfl | exact SrcR.nil rfl | exact SrcR.part rfl rfl (by decide)) (by first | omega | (simp; omega) | (simp; done)) (by first | omega | (simp; omega) | (simp; done)) rfl rfl rfl ?_))
  exact FW.ret ⟨.inl rfl, ret_ow rfl rfl rfl rfl (by decide) (by simp [← List.map_take]) (intT.flatsM l)⟩

theorem put_spec (l : List Int) (i : Nat) (v : Int) (hl : l.length ≤ 1000000000) (hi : i < l.length) : Spec Try.prog 50 [.list 1 (l.map intf), .int .i64 i, .int .i64 v] (.ow 3 1) (.list 1 ((l.set i v).map intf)) := by
  refine Spec.of_body (c := (cxOf Try.prog tyAt_ok mixed_ok 17)) ⟨Try.func50, rfl, Try.ntmps50, by kernel_rfl⟩ (by simp [FV.hand]) (by exact Nat.le_of_ble_eq_true rfl) rfl ?_
  change FW _ _ _ ⟨[(0, .list 1 (l.map intf)), (1, .int .i64 i), (2, .int .i64 v)], []⟩
  (repeat (first | refine FW.seq ?_ | refine FW.region ?_ | refine RunN.nil ?_ | refine rn_assign rfl rfl rfl ?_ | refine rn_move rfl rfl rfl ?_ | refine rn_lenList rfl rfl (by first | exact List.length_map _ | exact (List.length_map _).symm | exact List.length_replicate | rfl | (simp; done) | omega | (simp; omega)) rfl rfl ?_))
  refine rn_callO (ints_spec l hl) (by repeat (first | exact ArgsR.nil | refine ArgsR.cons (by first | exact ArgR.plain rfl rfl) ?_)) (List.length_map _) rfl rfl rfl ?_
  (repeat (first | refine FW.seq ?_ | refine FW.region ?_ | refine RunN.nil ?_ | refine rn_assign rfl rfl rfl ?_ | refine rn_move rfl rfl rfl ?_ | refine rn_indexO rfl rfl (by first | rfl | exact (Int.toNat_of_nonneg (by omega)).symm) rfl rfl rfl (by decide) rfl (by first | omega | (simp; omega) | (simp; done)) rfl rfl ?_ | refine rn_storeR rfl rfl rfl rfl rfl rfl (by first | omega | (simp; omega) | (simp; done)) (by first | exact getD_map (by omega) | rfl) rfl rfl rfl ?_))
  exact FW.ret ⟨.inl rfl, ret_ow rfl rfl rfl (by simp) (by decide) (by rw [List.map_set]; rfl) (intT.flatsM _)⟩

theorem sameInts_spec (a b : List Int) (ha : a.length ≤ 1000000000) (hb : b.length ≤ 1000000000) : Spec Try.prog 32 [.list 1 (a.map intf), .list 1 (b.map intf)] .fr (.bool (decide (a = b))) := by
  refine Spec.of_body (c := (cxOf Try.prog tyAt_ok mixed_ok 26)) ⟨Try.func32, rfl, Try.ntmps32, by kernel_rfl⟩ (by simp [FV.hand]) (by exact Nat.le_of_ble_eq_true rfl) rfl ?_
  change FW _ _ _ ⟨[(0, .list 1 (a.map intf)), (1, .list 1 (b.map intf))], []⟩
  (repeat (first | refine FW.seq ?_ | refine FW.region ?_ | refine RunN.nil ?_ | refine rn_assign rfl rfl rfl ?_ | refine rn_move rfl rfl rfl ?_ | refine rn_lenList rfl rfl (by first | exact List.length_map _ | exact (List.length_map _).symm | exact List.length_replicate | rfl | (simp; done) | omega | (simp; omega)) rfl rfl ?_ | refine rn_neq rfl rfl rfl rfl ?_))
  refine FW.cond rfl (fun h => ?_) (fun h => ?_)
  · (repeat (first | refine FW.seq ?_ | refine FW.region ?_ | refine RunN.nil ?_ | refine rn_assign rfl rfl rfl ?_))
    refine FW.ret ⟨.inl rfl, ret_flat rfl rfl ?_ rfl⟩
    have : a ≠ b := by rintro rfl; simp at h
    simp [this]; rfl
  · have hlen : a.length = b.length := by simp at h; omega
    (repeat (first | refine FW.seq ?_ | refine FW.region ?_ | refine FW.block ?_ | refine FW.skip ?_ | refine RunN.nil ?_ | refine rn_assign rfl rfl rfl ?_))
    refine FW.loop (fun k : Nat => ⟨[(0, .list 1 (a.map intf)), (1, .list 1 (b.map intf)), (5, .int .i64 k)], []⟩) (fun k => k ≤ a.length ∧ a.take k = b.take k) (fun k => a.length - k) 0 (by simp) (FLe.conv [] (by simp) (by simp) (by repeat (first | exact EntsOk.nil)) (by repeat (first | exact SlC.nil | refine SlC.cons (.plain rfl rfl (by first | rfl | (simp; done) | (congr 1; omega) | (simp; omega))) ?_))) ?_
    rintro k ⟨hk, hab⟩
    (repeat (first | refine FW.seq ?_ | refine FW.region ?_ | refine RunN.nil ?_ | refine rn_move rfl rfl rfl ?_ | refine rn_lenList rfl rfl (by first | exact List.length_map _ | exact (List.length_map _).symm | exact List.length_replicate | rfl | (simp; done) | omega | (simp; omega)) rfl rfl ?_ | refine rn_lss rfl rfl rfl rfl ?_))
    refine FW.cond rfl (fun h => ?_) (fun h => ?_)
    · have hlt : k < a.length := by simpa using h
      clear h
      (repeat (first | refine FW.seq ?_ | refine FW.block ?_ | refine FW.skip ?_ | refine FW.draw ?_ | refine RunD.nil ?_ | refine rd_move rfl rfl rfl ?_ | refine rd_neq rfl rfl rfl rfl ?_ | refine rd_indexL rfl rfl (by first | rfl | exact (Int.toNat_of_nonneg (by omega)).symm) rfl rfl rfl (by first | omega | (simp; omega) | (simp; done)) rfl rfl ?_ | refine rd_loadE rfl rfl rfl (by first | omega | (simp; omega) | (simp; done)) (by first | exact getD_map (by omega) | rfl) rfl rfl rfl rfl ?_))
      refine ⟨by kernel_rfl, ?_⟩
      refine FW.cond rfl (fun h => ?_) (fun h => ?_)
      · (repeat (first | refine FW.seq ?_ | refine FW.region ?_ | refine RunN.nil ?_ | refine rn_assign rfl rfl rfl ?_))
        refine FW.ret ⟨.inl rfl, ret_flat rfl rfl ?_ rfl⟩
        have : a ≠ b := by rintro rfl; simp at h
        simp [this]; rfl
      · (repeat (first | refine FW.region ?_ | refine FW.skip ?_ | refine RunN.nil ?_ | refine rn_assign rfl rfl rfl ?_ | refine rn_move rfl rfl rfl ?_ | refine rn_add rfl rfl (by omega) rfl rfl ?_))
        refine ⟨k + 1, ⟨by omega, ?_⟩, by omega, (FLe.conv [] (by simp) (by simp) (by repeat (first | exact EntsOk.nil)) (by repeat (first | exact SlC.nil | refine SlC.cons (.plain rfl rfl (by first | rfl | (simp; done) | (congr 1; omega) | (simp; omega))) ?_)))⟩
        have h1 : nth a k = nth b k := by simpa using h
        rw [List.take_succ_eq_append_getElem hlt, List.take_succ_eq_append_getElem (by omega), hab, ← nth_eq hlt, ← nth_eq (by omega), h1]
    · (repeat (first | refine FW.seq ?_ | refine FW.region ?_ | refine FW.exit ?_ | refine RunN.nil ?_ | refine rn_assign rfl rfl rfl ?_))
      refine FW.ret ⟨.inl rfl, ret_flat rfl rfl ?_ rfl⟩
      have : k = a.length := by simp at h; omega
      subst this
      have : a = b := by rw [List.take_of_length_le (Nat.le_refl _), List.take_of_length_le (by omega)] at hab; exact hab
      simp [this]; rfl

/-- operation i returned before operation k was called -/
def bef (l : List OpV) (i k : Nat) : Bool := (nth l i).done && decide ((nth l i).ret < (nth l k).call)
set_option maxHeartbeats 1000000 in
theorem rBefore_spec (l : List OpV) (i k : Nat) (hi : i < l.length) (hk : k < l.length) : Spec Try.prog 48 [.list 8 (l.map OpV.fv), .int .i64 i, .int .i64 k] .fr (.bool (bef l i k)) := by
  refine Spec.of_body (c := (cxOf Try.prog tyAt_ok mixed_ok 25)) ⟨Try.func48, rfl, Try.ntmps48, by kernel_rfl⟩ (by simp [FV.hand]) (by exact Nat.le_of_ble_eq_true rfl) rfl ?_
  change FW _ _ _ ⟨[(0, .list 8 (l.map OpV.fv)), (1, .int .i64 i), (2, .int .i64 k)], []⟩
  (repeat (first | refine FW.seq ?_ | refine FW.region ?_ | refine RunN.nil ?_ | refine rn_assign rfl rfl rfl ?_ | refine FW.draw ?_ | refine rd_move rfl rfl rfl ?_ | refine rd_indexL rfl rfl (by first | rfl | exact (Int.toNat_of_nonneg (by omega)).symm) rfl rfl rfl (by first | omega | (simp; omega) | (simp; done)) rfl rfl ?_ | refine rd_fieldE rfl rfl rfl rfl rfl rfl rfl ?_ | refine rd_loadE rfl rfl rfl (by first | omega | (simp; omega) | (simp; done)) (by first | exact getD_map (by omega) | rfl) rfl rfl rfl rfl ?_))
  refine rd_case (fun h => ?_) (fun h => ?_)
  · (repeat (first | refine RunD.nil ?_ | refine rd_assign rfl rfl rfl ?_ | refine rd_pickT rfl rfl rfl rfl ?_ | refine rd_move rfl rfl ⟨_, _, rfl, rfl, rfl⟩ ?_ | refine rd_indexL rfl rfl (by first | rfl | exact (Int.toNat_of_nonneg (by omega)).symm) rfl rfl rfl (by first | omega | (simp; omega) | (simp; done)) rfl ⟨_, _, rfl, rfl, rfl⟩ ?_ | refine rd_fieldE rfl rfl rfl rfl rfl rfl ⟨_, _, rfl, rfl, rfl⟩ ?_ | refine rd_loadE rfl rfl rfl (by first | omega | (simp; omega) | (simp; done)) (by first | exact getD_map (by omega) | rfl) rfl rfl rfl ⟨_, _, rfl, rfl, rfl⟩ ?_ | refine rd_lss rfl rfl rfl ⟨_, _, rfl, rfl, rfl⟩ ?_))
    refine ⟨by kernel_rfl, ?_⟩
    skip
    refine FW.ret ⟨.inl rfl, ret_flat rfl rfl ?_ rfl⟩
    simp [bef, h]; rfl
  · (repeat (first | refine RunD.nil ?_ | refine rd_assign rfl rfl rfl ?_ | refine rd_pickF rfl rfl rfl rfl ?_ | refine rd_skip rfl rfl ⟨_, _, rfl, rfl, rfl⟩ ?_))
    refine ⟨by kernel_rfl, ?_⟩
    skip
    refine FW.ret ⟨.inl rfl, ret_flat rfl rfl ?_ rfl⟩
    simp [bef, h]; rfl
set_option maxHeartbeats 1000000 in
theorem hBefore_spec (l : List OpV) (i k : Nat) (hi : i < l.length) (hk : k < l.length) : Spec Try.prog 46 [.list 8 (l.map OpV.fv), .int .i64 i, .int .i64 k] .fr (.bool (bef l i k)) := by
  refine Spec.of_body (c := (cxOf Try.prog tyAt_ok mixed_ok 37)) ⟨Try.func46, rfl, Try.ntmps46, by kernel_rfl⟩ (by simp [FV.hand]) (by exact Nat.le_of_ble_eq_true rfl) rfl ?_
  change FW _ _ _ ⟨[(0, .list 8 (l.map OpV.fv)), (1, .int .i64 i), (2, .int .i64 k)], []⟩
  (repeat (first | refine FW.seq ?_ | refine FW.region ?_ | refine RunN.nil ?_ | refine rn_assign rfl rfl rfl ?_ | refine rn_move rfl rfl rfl ?_ | refine rn_min rfl rfl rfl rfl ?_ | refine rn_lss rfl rfl rfl rfl ?_))
  refine rn_case (fun h => ?_) (fun h => ?_)
  · exfalso; simp at h; omega
  · (repeat (first | refine RunN.nil ?_ | refine rn_pickF rfl rfl rfl rfl ?_ | refine rn_move rfl rfl ⟨_, _, rfl, rfl, rfl⟩ ?_ | refine rn_max rfl rfl rfl ⟨_, _, rfl, rfl, rfl⟩ ?_ | refine rn_lenList rfl rfl (by first | exact List.length_map _ | exact (List.length_map _).symm | exact List.length_replicate | rfl | (simp; done) | omega | (simp; omega)) rfl ⟨_, _, rfl, rfl, rfl⟩ ?_ | refine rn_geq rfl rfl rfl ⟨_, _, rfl, rfl, rfl⟩ ?_))
    refine FW.cond rfl (fun h => ?_) (fun h => ?_)
    · exfalso; simp at h; omega
    (repeat (first | refine FW.seq ?_ | refine FW.skip ?_ | refine FW.draw ?_ | refine rd_move rfl rfl rfl ?_ | refine rd_indexL rfl rfl (by first | rfl | exact (Int.toNat_of_nonneg (by omega)).symm) rfl rfl rfl (by first | omega | (simp; omega) | (simp; done)) rfl rfl ?_ | refine rd_fieldE rfl rfl rfl rfl rfl rfl rfl ?_ | refine rd_loadE rfl rfl rfl (by first | omega | (simp; omega) | (simp; done)) (by first | exact getD_map (by omega) | rfl) rfl rfl rfl rfl ?_))
    refine rd_case (fun h => ?_) (fun h => ?_)
    · (repeat (first | refine RunD.nil ?_ | refine rd_assign rfl rfl rfl ?_ | refine rd_pickT rfl rfl rfl rfl ?_ | refine rd_move rfl rfl ⟨_, _, rfl, rfl, rfl⟩ ?_ | refine rd_indexL rfl rfl (by first | rfl | exact (Int.toNat_of_nonneg (by omega)).symm) rfl rfl rfl (by first | omega | (simp; omega) | (simp; done)) rfl ⟨_, _, rfl, rfl, rfl⟩ ?_ | refine rd_fieldE rfl rfl rfl rfl rfl rfl ⟨_, _, rfl, rfl, rfl⟩ ?_ | refine rd_loadE rfl rfl rfl (by first | omega | (simp; omega) | (simp; done)) (by first | exact getD_map (by omega) | rfl) rfl rfl rfl ⟨_, _, rfl, rfl, rfl⟩ ?_ | refine rd_lss rfl rfl rfl ⟨_, _, rfl, rfl, rfl⟩ ?_))
      refine ⟨by kernel_rfl, ?_⟩
      skip
      refine FW.ret ⟨.inl rfl, ret_flat rfl rfl ?_ rfl⟩
      simp [bef, h]; rfl
    · (repeat (first | refine RunD.nil ?_ | refine rd_assign rfl rfl rfl ?_ | refine rd_pickF rfl rfl rfl rfl ?_ | refine rd_skip rfl rfl ⟨_, _, rfl, rfl, rfl⟩ ?_))
      refine ⟨by kernel_rfl, ?_⟩
      skip
      refine FW.ret ⟨.inl rfl, ret_flat rfl rfl ?_ rfl⟩
      simp [bef, h]; rfl

/-- a delivery -/
def isDel (o : OpV) : Bool := decide (o.k = 4) && o.done && decide (o.res ≠ 0)
set_option maxHeartbeats 1000000 in
theorem delivers24_spec (l : List OpV) (i : Nat) (hi : i < l.length) : Spec Try.prog 36 [.list 8 (l.map OpV.fv), .int .i64 i] .fr (.bool (isDel (nth l i))) := by
  refine Spec.of_body (c := (cxOf Try.prog tyAt_ok mixed_ok 26)) ⟨Try.func36, rfl, Try.ntmps36, by kernel_rfl⟩ (by simp [FV.hand]) (by exact Nat.le_of_ble_eq_true rfl) rfl ?_
  change FW _ _ _ ⟨[(0, .list 8 (l.map OpV.fv)), (1, .int .i64 i)], []⟩
  (repeat (first | refine FW.seq ?_ | refine FW.region ?_ | refine RunN.nil ?_ | refine rn_assign rfl rfl rfl ?_ | refine rn_move rfl rfl rfl ?_ | refine rn_indexL rfl rfl (by first | rfl | exact (Int.toNat_of_nonneg (by omega)).symm) rfl rfl rfl (by first | omega | (simp; omega) | (simp; done)) rfl rfl ?_ | refine rn_fieldE rfl rfl rfl rfl rfl rfl rfl ?_ | refine rn_loadE rfl rfl rfl (by first | omega | (simp; omega) | (simp; done)) (by first | exact getD_map (by omega) | rfl) rfl rfl rfl rfl ?_ | refine rn_eql rfl rfl rfl rfl ?_))
  refine rn_case (fun h1 => ?_) (fun h1 => ?_)
  · (repeat (first | refine rn_move rfl rfl rfl ?_ | refine rn_pickT rfl rfl rfl rfl ?_ | refine rn_move rfl rfl ⟨_, _, rfl, rfl, rfl⟩ ?_ | refine rn_indexL rfl rfl (by first | rfl | exact (Int.toNat_of_nonneg (by omega)).symm) rfl rfl rfl (by first | omega | (simp; omega) | (simp; done)) rfl ⟨_, _, rfl, rfl, rfl⟩ ?_ | refine rn_fieldE rfl rfl rfl rfl rfl rfl ⟨_, _, rfl, rfl, rfl⟩ ?_ | refine rn_loadE rfl rfl rfl (by first | omega | (simp; omega) | (simp; done)) (by first | exact getD_map (by omega) | rfl) rfl rfl rfl ⟨_, _, rfl, rfl, rfl⟩ ?_))
    refine rn_case (fun h2 => ?_) (fun h2 => ?_)
    · (repeat (first | refine RunN.nil ?_ | refine rn_assign rfl rfl rfl ?_ | refine rn_pickT rfl rfl rfl rfl ?_ | refine rn_move rfl rfl ⟨_, _, rfl, rfl, rfl⟩ ?_ | refine rn_indexL rfl rfl (by first | rfl | exact (Int.toNat_of_nonneg (by omega)).symm) rfl rfl rfl (by first | omega | (simp; omega) | (simp; done)) rfl ⟨_, _, rfl, rfl, rfl⟩ ?_ | refine rn_fieldE rfl rfl rfl rfl rfl rfl ⟨_, _, rfl, rfl, rfl⟩ ?_ | refine rn_loadE rfl rfl rfl (by first | omega | (simp; omega) | (simp; done)) (by first | exact getD_map (by omega) | rfl) rfl rfl rfl ⟨_, _, rfl, rfl, rfl⟩ ?_ | refine rn_neq rfl rfl rfl ⟨_, _, rfl, rfl, rfl⟩ ?_))
      refine FW.ret ⟨.inl rfl, ret_flat rfl rfl ?_ rfl⟩
      simp at h1 h2
      simp [isDel, h1, h2]; rfl
    · (repeat (first | refine RunN.nil ?_ | refine rn_assign rfl rfl rfl ?_ | refine rn_pickF rfl rfl rfl rfl ?_ | refine rn_skip rfl rfl ⟨_, _, rfl, rfl, rfl⟩ ?_))
      refine FW.ret ⟨.inl rfl, ret_flat rfl rfl ?_ rfl⟩
      simp at h1 h2
      simp [isDel, h1, h2]; rfl
  · (repeat (first | refine RunN.nil ?_ | refine rn_assign rfl rfl rfl ?_ | refine rn_move rfl rfl rfl ?_ | refine rn_pickF rfl rfl rfl rfl ?_ | refine rn_skip rfl rfl ⟨_, _, rfl, rfl, rfl⟩ ?_))
    refine FW.ret ⟨.inl rfl, ret_flat rfl rfl ?_ rfl⟩
    simp at h1
    simp [isDel, h1]; rfl
set_option maxHeartbeats 1000000 in
theorem delivers_spec (o : OpV) : Spec Try.prog 45 [.agg o.fv] .fr (.tup [.agg [.int .i64 o.key, .int .i64 o.res], .bool (isDel o)]) := by
  refine Spec.of_body (c := (cxOf Try.prog tyAt_ok mixed_ok 21)) ⟨Try.func45, rfl, Try.ntmps45, by kernel_rfl⟩ (by simp [FV.hand]) (by exact Nat.le_of_ble_eq_true rfl) rfl ?_
  change FW _ _ _ ⟨[(0, .agg o.fv)], []⟩
  (repeat (first | refine FW.seq ?_ | refine FW.region ?_ | refine RunN.nil ?_ | refine rn_boxA rfl rfl rfl rfl rfl rfl rfl ?_ | refine rn_alloc rfl rfl rfl rfl rfl rfl rfl ?_ | refine rn_assign rfl rfl rfl ?_ | refine FillK.nil ?_ | refine FillK.one rfl rfl rfl rfl rfl ?_ | refine FW.draw ?_ | refine rd_fieldP rfl rfl rfl rfl rfl rfl (by decide) rfl rfl ?_ | refine rd_loadP rfl rfl rfl rfl rfl (by first | omega | (simp; omega) | (simp; done)) (by first | exact getD_map (by omega) | rfl) rfl rfl rfl rfl ?_ | refine rd_buildK rfl rfl rfl rfl ?_ | refine rd_eql rfl rfl rfl rfl ?_ | refine rd_move rfl rfl rfl ?_ | refine FillK.nil ?_ | refine FillK.one rfl rfl rfl rfl rfl ?_))
  refine rd_case (fun h1 => ?_) (fun h1 => ?_)
  · (repeat (first | refine rd_move rfl rfl rfl ?_ | refine rd_pickT rfl rfl rfl rfl ?_ | refine rd_fieldP rfl rfl rfl rfl rfl rfl (by decide) rfl ⟨_, _, rfl, rfl, rfl⟩ ?_ | refine rd_loadP rfl rfl rfl rfl rfl (by first | omega | (simp; omega) | (simp; done)) (by first | exact getD_map (by omega) | rfl) rfl rfl rfl ⟨_, _, rfl, rfl, rfl⟩ ?_))
    refine rd_case (fun h2 => ?_) (fun h2 => ?_)
    · (repeat (first | refine RunD.nil ?_ | refine rd_assign rfl rfl rfl ?_ | refine rd_pickT rfl rfl rfl rfl ?_ | refine rd_storeVA rfl rfl rfl rfl rfl rfl rfl rfl rfl ?_ | refine rd_fieldP rfl rfl rfl rfl rfl rfl (by decide) rfl ⟨_, _, rfl, rfl, rfl⟩ ?_ | refine rd_loadP rfl rfl rfl rfl rfl (by first | omega | (simp; omega) | (simp; done)) (by first | exact getD_map (by omega) | rfl) rfl rfl rfl ⟨_, _, rfl, rfl, rfl⟩ ?_ | refine rd_neq rfl rfl rfl ⟨_, _, rfl, rfl, rfl⟩ ?_))
      refine ⟨by kernel_rfl, ?_⟩
      skip
      refine FW.ret ⟨.inl rfl, .flat (.cons (resv_cell rfl rfl rfl rfl rfl rfl (by decide)) (.cons (.tmp 3 rfl rfl) .nil)) ?_ rfl⟩
      simp at h1 h2
      simp [isDel, h1, h2, resOf]; rfl
    · (repeat (first | refine RunD.nil ?_ | refine rd_assign rfl rfl rfl ?_ | refine rd_pickF rfl rfl rfl rfl ?_ | refine rd_storeVA rfl rfl rfl rfl rfl rfl rfl rfl rfl ?_ | refine rd_skip rfl rfl ⟨_, _, rfl, rfl, rfl⟩ ?_))
      refine ⟨by kernel_rfl, ?_⟩
      skip
      refine FW.ret ⟨.inl rfl, .flat (.cons (resv_cell rfl rfl rfl rfl rfl rfl (by decide)) (.cons (.tmp 3 rfl rfl) .nil)) ?_ rfl⟩
      simp at h1 h2
      simp [isDel, h1, h2, resOf]; rfl
  · (repeat (first | refine RunD.nil ?_ | refine rd_assign rfl rfl rfl ?_ | refine rd_move rfl rfl rfl ?_ | refine rd_pickF rfl rfl rfl rfl ?_ | refine rd_storeVA rfl rfl rfl rfl rfl rfl rfl rfl rfl ?_ | refine rd_skip rfl rfl ⟨_, _, rfl, rfl, rfl⟩ ?_))
    refine ⟨by kernel_rfl, ?_⟩
    skip
    refine FW.ret ⟨.inl rfl, .flat (.cons (resv_cell rfl rfl rfl rfl rfl rfl (by decide)) (.cons (.tmp 3 rfl rfl) .nil)) ?_ rfl⟩
    simp at h1
    simp [isDel, h1, resOf]; rfl
end Go.Proofs.Ythijndjgchbeoaa
