/-
  Some texts as one: FmOnce, FmHas, FmKeys, KeysPlain, FmWhere, FmRef20, FmBefI.
-/
import Derived.Test.YtflkbehbenlhaaaZD
import Derived.Test.YtflkbehbenlhaaaZSortPlain
/-
  The small functions of layers 01, 21 and 24, at plain values.
-/
namespace Go.Proofs.Ytflkbehbenlhaaa
set_option linter.unusedVariables false
open Go.RowKit

theorem sameInts_spec (a b : List Int) (ha : a.length ≤ 1000000000) (hb : b.length ≤ 1000000000) : Spec Try.prog 16 [.list 1 (a.map intf), .list 1 (b.map intf)] .fr (.bool (decide (a = b))) := by
  refine Spec.of_body (c := (cxOf Try.prog tyAt_ok mixed_ok 26)) ⟨Try.func16, rfl, Try.ntmps16, by kernel_rfl⟩ (by simp [FV.hand]) (by exact Nat.le_of_ble_eq_true rfl) rfl ?_
  change FW _ _ _ ⟨[(0, .list 1 (a.map intf)), (1, .list 1 (b.map intf))], []⟩
  (repeat (first | refine FW.seq ?_ | refine FW.region ?_ | refine RunN.nil ?_ | refine rn_assign rfl rfl rfl ?_ | refine rn_move rfl rfl rfl ?_ | refine rn_lenList rfl rfl (by first | exact List.length_map _ | exact (List.length_map _).symm | exact List.length_replicate | rfl | (simp; done) | omega | (simp; omega)) rfl rfl ?_ | refine rn_neq rfl rfl rfl rfl ?_))
  refine FW.cond rfl (fun h => ?_) (fun h => ?_)
  · (repeat (first | refine FW.seq ?_ | refine FW.region ?_ | refine RunN.nil ?_ | refine rn_assign rfl rfl rfl ?_))
    refine FW.ret ⟨.inl rfl, ret_flat rfl rfl ?_ rfl⟩
    have : a ≠ b := by rintro rfl; simp at h
    simp [this]; rfl
  · have hlen : a.length = b.length := by simp at h; omega
    (repeat (first | refine FW.seq ?_ | refine FW.region ?_ | refine FW.block ?_ | refine FW.skip ?_ | refine RunN.nil ?_ | refine rn_assign rfl rfl rfl ?_))
    refine FW.loop (fun k : Nat => ⟨[(0, .list 1 (a.map intf)), (1, .list 1 (b.map intf)), (5, .int .i64 k)], []⟩) (fun k => k ≤ a.length ∧ a.take k = b.take k) (fun k => a.length - k) 0 (by simp) (FLe.conv [] (by simp) (by simp) rfl (by repeat (first | exact GhOk.nil | refine GhOk.low rfl ?_ | refine GhOk.same rfl ?_ | refine GhOk.bump (Nat.lt_succ_self _) ?_)) (by repeat (first | exact EntsOk.nil)) (by repeat (first | exact SlC.nil | refine SlC.cons (.plain rfl rfl (by first | rfl | (simp; done) | (congr 1; omega) | (simp; omega) | (simp [List.take_of_length_le]; done) | (refine congrArg (FV.int .i64) ?_; omega))) ?_))) ?_
    rintro k ⟨hk, hab⟩
    (repeat (first | refine FW.seq ?_ | refine FW.region ?_ | refine RunN.nil ?_ | refine rn_move rfl rfl rfl ?_ | refine rn_lenList rfl rfl (by first | exact List.length_map _ | exact (List.length_map _).symm | exact List.length_replicate | rfl | (simp; done) | omega | (simp; omega)) rfl rfl ?_ | refine rn_lss rfl rfl rfl rfl ?_))
    refine FW.cond rfl (fun h => ?_) (fun h => ?_)
    · have hlt : k < a.length := by simpa using h
      clear h
      (repeat (first | refine FW.seq ?_ | refine FW.block ?_ | refine FW.skip ?_ | refine FW.draw ?_ | refine RunD.nil ?_ | refine rd_move rfl rfl rfl ?_ | refine rd_neq rfl rfl rfl rfl ?_ | refine rd_indexL rfl rfl (by first | rfl | exact (Int.toNat_of_nonneg (by omega)).symm) rfl rfl rfl (by first | omega | (simp; omega) | (simp; done)) rfl rfl ?_ | refine rd_loadE rfl rfl rfl (by first | omega | (simp; omega) | (simp; done)) (by first | exact getD_map (by omega) | rfl) rfl rfl rfl rfl ?_))
      refine ⟨by kernel_rfl, ?_⟩
      refine FW.cond rfl (fun h => ?_) (fun h => ?_)
      · (repeat (first | refine FW.seq ?_ | refine FW.region ?_ | refine RunN.nil ?_ | refine rn_assign rfl rfl rfl ?_))
        refine FW.ret ⟨.inl rfl, ret_flat rfl rfl ?_ rfl⟩
        have : a ≠ b := by rintro rfl; simp at h
        simp [this]; rfl
      · (repeat (first | refine FW.region ?_ | refine FW.skip ?_ | refine RunN.nil ?_ | refine rn_assign rfl rfl rfl ?_ | refine rn_move rfl rfl rfl ?_ | refine rn_add rfl rfl (by omega) rfl rfl ?_))
        refine ⟨k + 1, ⟨by omega, ?_⟩, by omega, (FLe.conv [] (by simp) (by simp) rfl (by repeat (first | exact GhOk.nil | refine GhOk.low rfl ?_ | refine GhOk.same rfl ?_ | refine GhOk.bump (Nat.lt_succ_self _) ?_)) (by repeat (first | exact EntsOk.nil)) (by repeat (first | exact SlC.nil | refine SlC.cons (.plain rfl rfl (by first | rfl | (simp; done) | (congr 1; omega) | (simp; omega) | (simp [List.take_of_length_le]; done) | (refine congrArg (FV.int .i64) ?_; omega))) ?_)))⟩
        have h1 : nth a k = nth b k := by simpa using h
        rw [List.take_succ_eq_append_getElem hlt, List.take_succ_eq_append_getElem (by omega), hab, ← nth_eq hlt, ← nth_eq (by omega), h1]
    · (repeat (first | refine FW.seq ?_ | refine FW.region ?_ | refine FW.exit ?_ | refine RunN.nil ?_ | refine rn_assign rfl rfl rfl ?_))
      refine FW.ret ⟨.inl rfl, ret_flat rfl rfl ?_ rfl⟩
      have : k = a.length := by simp at h; omega
      subst this
      have : a = b := by rw [List.take_of_length_le (Nat.le_refl _), List.take_of_length_le (by omega)] at hab; exact hab
      simp [this]; rfl

def bef (l : List OpV) (i k : Nat) : Bool := (nth l i).done && decide ((nth l i).ret < (nth l k).call)
set_option maxHeartbeats 1000000 in
theorem hBefore_spec (l : List OpV) (i k : Nat) (hi : i < l.length) (hk : k < l.length) : Spec Try.prog 19 [.list 8 (l.map OpV.fv), .int .i64 i, .int .i64 k] .fr (.bool (bef l i k)) := by
  refine Spec.of_body (c := (cxOf Try.prog tyAt_ok mixed_ok 37)) ⟨Try.func19, rfl, Try.ntmps19, by kernel_rfl⟩ (by simp [FV.hand]) (by exact Nat.le_of_ble_eq_true rfl) rfl ?_
  change FW _ _ _ ⟨[(0, .list 8 (l.map OpV.fv)), (1, .int .i64 i), (2, .int .i64 k)], []⟩
  (repeat (first | refine FW.seq ?_ | refine FW.region ?_ | refine RunN.nil ?_ | refine rn_assign rfl rfl rfl ?_ | refine rn_move rfl rfl rfl ?_ | refine rn_min rfl rfl rfl rfl ?_ | refine rn_lss rfl rfl rfl rfl ?_))
  refine rn_case (fun h => ?_) (fun h => ?_)
  · exfalso; simp at h; omega
  · (repeat (first | refine RunN.nil ?_ | refine rn_pickF rfl rfl rfl rfl ?_ | refine rn_move rfl rfl ⟨_, _, rfl, rfl, rfl⟩ ?_ | refine rn_max rfl rfl rfl ⟨_, _, rfl, rfl, rfl⟩ ?_ | refine rn_lenList rfl rfl (by first | exact List.length_map _ | exact (List.length_map _).symm | exact List.length_replicate | rfl | (simp; done) | omega | (simp; omega)) rfl ⟨_, _, rfl, rfl, rfl⟩ ?_ | refine rn_geq rfl rfl rfl ⟨_, _, rfl, rfl, rfl⟩ ?_))
    refine FW.cond rfl (fun h => ?_) (fun h => ?_)
    · exfalso; simp at h; omega
    (repeat (first | refine FW.seq ?_ | refine FW.skip ?_ | refine FW.draw ?_ | refine rd_move rfl rfl rfl ?_ | refine rd_indexL rfl rfl (by first | rfl | exact (Int.toNat_of_nonneg (by omega)).symm) rfl rfl rfl (by first | omega | (simp; omega) | (simp; done)) rfl rfl ?_ | refine rd_fieldE rfl rfl rfl rfl rfl rfl rfl ?_ | refine rd_loadE rfl rfl rfl (by first | omega | (simp; omega) | (simp; done)) (by first | exact getD_map (by omega) | rfl) rfl rfl rfl rfl ?_))
    refine rd_case (fun h => ?_) (fun h => ?_)
    · (repeat (first | refine RunD.nil ?_ | refine rd_assign rfl rfl rfl ?_ | refine rd_pickT rfl rfl rfl rfl ?_ | refine rd_move rfl rfl ⟨_, _, rfl, rfl, rfl⟩ ?_ | refine rd_indexL rfl rfl (by first | rfl | exact (Int.toNat_of_nonneg (by omega)).symm) rfl rfl rfl (by first | omega | (simp; omega) | (simp; done)) rfl ⟨_, _, rfl, rfl, rfl⟩ ?_ | refine rd_fieldE rfl rfl rfl rfl rfl rfl ⟨_, _, rfl, rfl, rfl⟩ ?_ | refine rd_loadE rfl rfl rfl (by first | omega | (simp; omega) | (simp; done)) (by first | exact getD_map (by omega) | rfl) rfl rfl rfl ⟨_, _, rfl, rfl, rfl⟩ ?_ | refine rd_lss rfl rfl rfl ⟨_, _, rfl, rfl, rfl⟩ ?_))
      refine ⟨by kernel_rfl, ?_⟩
      skip
      refine FW.ret ⟨.inl rfl, ret_flat rfl rfl ?_ rfl⟩
      simp [bef, h]; rfl
    · (repeat (first | refine RunD.nil ?_ | refine rd_assign rfl rfl rfl ?_ | refine rd_pickF rfl rfl rfl rfl ?_ | refine rd_skip rfl rfl ⟨_, _, rfl, rfl, rfl⟩ ?_))
      refine ⟨by kernel_rfl, ?_⟩
      skip
      refine FW.ret ⟨.inl rfl, ret_flat rfl rfl ?_ rfl⟩
      simp [bef, h]; rfl

end Go.Proofs.Ytflkbehbenlhaaa
/-
  simproofref01.Has, at plain values.
-/
namespace Go.Proofs.Ytflkbehbenlhaaa
set_option linter.unusedVariables false
open Go.RowKit
def hasB (l : List Int) (n : Int) : Bool := decide (n ∈ l)
set_option maxHeartbeats 1000000 in
theorem has_spec (l : List Int) (n : Int) (hl : l.length ≤ 1000000000) : Spec Try.prog 44 [.list 1 (l.map intf), .int .i64 n] .fr (.bool (hasB l n)) := by
  refine Spec.of_body (c := (cxOf Try.prog tyAt_ok mixed_ok 18)) ⟨Try.func44, rfl, Try.ntmps44, by kernel_rfl⟩ (by simp [FV.hand]) (by exact Nat.le_of_ble_eq_true rfl) rfl ?_
  change FW _ _ _ ⟨[(0, .list 1 (l.map intf)), (1, .int .i64 n)], []⟩
  (repeat (first | refine FW.seq ?_ | refine FW.region ?_ | refine FW.block ?_ | refine RunN.nil ?_ | refine rn_assign rfl rfl rfl ?_))
  refine FW.loop (fun k : Nat => ⟨[(0, .list 1 (l.map intf)), (1, .int .i64 n), (5, .int .i64 k)], []⟩) (fun k => k ≤ l.length ∧ n ∉ l.take k) (fun k => l.length - k) 0 (by simp) (FLe.conv [] (by simp) (by simp) rfl (by repeat (first | exact GhOk.nil | refine GhOk.low rfl ?_ | refine GhOk.same rfl ?_ | refine GhOk.bump (Nat.lt_succ_self _) ?_)) (by repeat (first | exact EntsOk.nil)) (by repeat (first | exact SlC.nil | refine SlC.cons (.plain rfl rfl (by first | rfl | (simp; done) | (congr 1; omega) | (simp; omega) | (simp [List.take_of_length_le]; done) | (refine congrArg (FV.int .i64) ?_; omega))) ?_))) ?_
  rintro k ⟨hk, hn⟩
  (repeat (first | refine FW.seq ?_ | refine FW.region ?_ | refine RunN.nil ?_ | refine rn_move rfl rfl rfl ?_ | refine rn_lenList rfl rfl (by first | exact List.length_map _ | exact (List.length_map _).symm | exact List.length_replicate | rfl | (simp; done) | omega | (simp; omega)) rfl rfl ?_ | refine rn_lss rfl rfl rfl rfl ?_))
  refine FW.cond rfl (fun h => ?_) (fun h => ?_)
  · have hlt : k < l.length := by simpa using h
    (repeat (first | refine FW.seq ?_ | refine FW.region ?_ | refine FW.block ?_ | refine FW.skip ?_ | refine RunN.nil ?_ | refine rn_move rfl rfl rfl ?_ | refine rn_indexL rfl rfl (by first | rfl | exact (Int.toNat_of_nonneg (by omega)).symm) rfl rfl rfl (by first | omega | (simp; omega) | (simp; done)) rfl rfl ?_ | refine rn_loadE rfl rfl rfl (by first | omega | (simp; omega) | (simp; done)) (by first | exact getD_map (by omega) | rfl) rfl rfl rfl rfl ?_ | refine rn_eql rfl rfl rfl rfl ?_))
    refine FW.cond rfl (fun h => ?_) (fun h => ?_)
    · (repeat (first | refine FW.seq ?_ | refine FW.region ?_ | refine RunN.nil ?_ | refine rn_assign rfl rfl rfl ?_))
      refine FW.ret ⟨.inl rfl, ?_⟩
      have e : hasB l n = true := by
        have : nth l k = n := by simpa using h
        simp only [hasB, decide_eq_true_eq, ← this]
        exact nth_mem hlt
      rw [e]
      exact .flat (.cons (.tmp 4 rfl rfl) .nil) rfl rfl
    · (repeat (first | refine FW.region ?_ | refine FW.skip ?_ | refine RunN.nil ?_ | refine rn_assign rfl rfl rfl ?_ | refine rn_move rfl rfl rfl ?_ | refine rn_add rfl rfl (by omega) rfl rfl ?_))
      refine ⟨k + 1, ⟨by omega, ?_⟩, by omega, (FLe.conv [] (by simp) (by simp) rfl (by repeat (first | exact GhOk.nil | refine GhOk.low rfl ?_ | refine GhOk.same rfl ?_ | refine GhOk.bump (Nat.lt_succ_self _) ?_)) (by repeat (first | exact EntsOk.nil)) (by repeat (first | exact SlC.nil | refine SlC.cons (.plain rfl rfl (by first | rfl | (simp; done) | (congr 1; omega) | (simp; omega) | (simp [List.take_of_length_le]; done) | (refine congrArg (FV.int .i64) ?_; omega))) ?_)))⟩
      have : nth l k ≠ n := by simpa using h
      rw [List.take_succ_eq_append_getElem hlt, List.mem_append]
      rintro (h1 | h1)
      · exact hn h1
      · rw [nth_eq hlt] at this
        simp at h1; exact this h1.symm
  · (repeat (first | refine FW.seq ?_ | refine FW.region ?_ | refine FW.exit ?_ | refine RunN.nil ?_ | refine rn_assign rfl rfl rfl ?_))
    refine FW.ret ⟨.inl rfl, ?_⟩
    have e : hasB l n = false := by
      have : k = l.length := by simp at h; omega
      subst this
      simpa [hasB] using hn
    rw [e]
    exact .flat (.cons (.tmp 4 rfl rfl) .nil) rfl rfl
end Go.Proofs.Ytflkbehbenlhaaa
/-
  The keys of a history: the function's and the reference's, at plain values.
-/
namespace Go.Proofs.Ytflkbehbenlhaaa
set_option linter.unusedVariables false
open Go.RowKit

def keysTo (l : List OpV) (i : Nat) : List Int := (l.take i).map OpV.key
def hKeys (l : List OpV) : List Int := Lib.compact ((l.map OpV.key).mergeSort fun x y => decide (x ≤ y))
theorem keysTo_succ (l : List OpV) (i : Nat) (hi : i < l.length) : keysTo l (i + 1) = keysTo l i ++ [(nth l i).key] := by
  unfold keysTo
  rw [List.take_succ_eq_append_getElem hi, List.map_append, nth_eq hi]
  rfl
theorem keysTo_len (l : List OpV) (i : Nat) : (keysTo l i).length ≤ l.length := by unfold keysTo; rw [List.length_map, List.length_take]; omega
set_option maxHeartbeats 4000000 in
theorem hKeys_spec (l : List OpV) (hl : l.length ≤ 1000000000) : Spec Try.prog 17 [.list 8 (l.map OpV.fv)] (.ow 3 1) (.list 1 ((hKeys l).map intf)) := by
  refine Spec.of_body (c := (cxOf Try.prog tyAt_ok mixed_ok 22)) ⟨Try.func17, rfl, Try.ntmps17, by kernel_rfl⟩ (by simp [FV.hand]) (by exact Nat.le_of_ble_eq_true rfl) rfl ?_
  change FW _ _ _ ⟨[(0, .list 8 (l.map OpV.fv))], []⟩
  (repeat (first | refine FW.seq ?_ | refine FW.region ?_ | refine FW.block ?_ | refine RunN.nil ?_ | refine rn_assign rfl rfl rfl ?_ | refine rn_move rfl rfl rfl ?_ | refine rn_lenList rfl rfl (by first | exact List.length_map _ | exact (List.length_map _).symm | exact List.length_replicate | rfl | (simp; done) | omega | (simp; omega)) rfl rfl ?_))
  refine FW.loop (fun i : Nat => ⟨[(3, .own 100 0 0 (keysTo l i).length), (6, .list 8 (l.map OpV.fv)), (7, .int .i64 l.length), (8, .int .i64 i)], [(100, ⟨0, .own, 3, 1, (keysTo l i).map intf⟩)]⟩) (fun i => i ≤ l.length) (fun i => l.length - i) 0 (Nat.zero_le _)
    (FLe.conv [⟨100, none, 0, ⟨0, .own, 3, 1, []⟩⟩] (by simp) (by simp) rfl (by repeat (first | exact GhOk.nil | refine GhOk.low rfl ?_ | refine GhOk.same rfl ?_ | refine GhOk.bump (Nat.lt_succ_self _) ?_)) (by repeat (first | exact EntsOk.nil | refine EntsOk.new ?_)) (by repeat (first | exact SlC.nil | refine SlC.cons (.plain rfl rfl (by first | rfl | (simp; done) | (congr 1; omega) | (simp; omega) | (simp [List.take_of_length_le]; done) | (refine congrArg (FV.int .i64) ?_; omega))) ?_ | refine SlC.cons (.nil rfl (.head _) rfl) ?_))) ?_
  intro i hi
  have hkl := keysTo_len l i
  (repeat (first | refine FW.seq ?_ | refine FW.region ?_ | refine RunN.nil ?_ | refine rn_lss rfl rfl rfl rfl ?_))
  refine FW.cond rfl (fun h => ?_) (fun h => ?_)
  · have hlt : i < l.length := by simpa using h
    clear h
    (repeat (first | refine FW.seq ?_ | refine FW.region ?_ | refine FW.block ?_ | refine FW.skip ?_ | refine RunN.nil ?_ | refine rn_assign rfl rfl rfl ?_ | refine rn_move rfl rfl rfl ?_ | refine rn_indexL rfl rfl (by first | rfl | exact (Int.toNat_of_nonneg (by omega)).symm) rfl rfl rfl (by first | omega | (simp; omega) | (simp; done)) rfl rfl ?_ | refine rn_loadP rfl rfl rfl rfl rfl (by first | omega | (simp; omega) | (simp; done)) (by first | exact getD_map (by omega) | rfl) rfl rfl rfl rfl ?_ | refine rn_loadEA rfl rfl rfl (by decide) (by first | omega | (simp; omega) | (simp; done)) (by first | exact getD_map (by omega) | rfl) rfl rfl rfl ?_ | refine rn_alloc rfl rfl rfl rfl rfl rfl rfl ?_ | refine rn_storeVA rfl rfl rfl rfl rfl rfl rfl rfl rfl ?_ | refine rn_fieldP rfl rfl rfl rfl rfl rfl (by decide) rfl rfl ?_ | refine rn_buildS1 rfl rfl rfl rfl rfl rfl rfl rfl ?_ | refine rn_appO rfl rfl (by first | exact List.length_map _ | exact (List.length_map _).symm | exact List.length_replicate | rfl | (simp; done) | omega | (simp; omega)) rfl rfl rfl (by decide) (by first | exact SrcR.own rfl rfl (by decide) (by first | exact List.length_map _ | exact (List.length_map _).symm | exact List.length_replicate | rfl | (simp; done) | omega | (simp; omega)) | exact SrcR.list rfl | exact SrcR.nil rfl | exact SrcR.part rfl rfl (by decide)) (by first | omega | (simp; omega) | (simp; done)) (by first | omega | (simp; omega) | (simp; done)) rfl rfl rfl ?_ | refine rn_add rfl rfl (by omega) rfl rfl ?_))
    refine ⟨i + 1, by omega, by omega, ?_⟩
    rw [keysTo_succ l i hlt, List.map_append]
    exact (FLe.conv [⟨100, some 16, 1, ⟨0, .own, 3, 1, (keysTo l i).map intf ++ [(nth l i).key].map intf⟩⟩] (by simp) (by simp) rfl (by repeat (first | exact GhOk.nil | refine GhOk.low rfl ?_ | refine GhOk.same rfl ?_ | refine GhOk.bump (Nat.lt_succ_self _) ?_)) (by repeat (first | exact EntsOk.nil | refine EntsOk.old rfl (by decide) (by first | rfl | (simp; done) | (congr 1; omega) | (simp; omega) | (simp [List.take_of_length_le]; done) | (refine congrArg (FV.int .i64) ?_; omega)) ?_)) (by repeat (first | exact SlC.nil | refine SlC.cons (.plain rfl rfl (by first | rfl | (simp; done) | (congr 1; omega) | (simp; omega) | (simp [List.take_of_length_le]; done) | (refine congrArg (FV.int .i64) ?_; omega))) ?_ | refine SlC.cons (.own rfl (.head _) rfl (by first | rfl | (simp; done) | (congr 1; omega) | (simp; omega) | (simp [List.take_of_length_le]; done) | (refine congrArg (FV.int .i64) ?_; omega))) ?_)))
  · have : i = l.length := by simp at h; omega
    subst this
    have hk : keysTo l l.length = l.map OpV.key := by unfold keysTo; rw [List.take_length]
    rw [hk]
    have hlen : ((l.map OpV.key).mergeSort fun x y => decide (x ≤ y)).length = (l.map OpV.key).length := List.length_mergeSort _
    (repeat (first | refine FW.seq ?_ | refine FW.region ?_ | refine FW.exit ?_ | refine rn_move rfl rfl rfl ?_))
    refine rn_callL (sort_specL 0 (l.map OpV.key) (by simp; omega)) [(5000, 100)] rfl (LendOk.cons rfl rfl rfl LendOk.nil) rfl rfl rfl rfl rfl rfl ?_
    rintro _ _ ⟨rfl, h1⟩
    refine After.one [(100, ⟨0, .own, 3, 1, ((l.map OpV.key).mergeSort fun x y => decide (x ≤ y)).map intf⟩)] (.tup []) rfl (congrArg (fun b => [(100, FObj.ren (gOf [(5000, 100)]) b)]) h1) ?_
    (repeat (first | refine FW.seq ?_ | refine FW.region ?_ | refine RunN.nil ?_ | refine rn_move rfl rfl rfl ?_))
    refine rn_callL (compact_specL 0 ((l.map OpV.key).mergeSort fun x y => decide (x ≤ y)) (by rw [hlen]; simp; omega)) [(5000, 100)] ?_ (LendOk.cons rfl rfl rfl LendOk.nil) rfl rfl rfl rfl rfl rfl ?_
    · rw [hlen]; rfl
    rintro _ _ ⟨rfl, h1⟩
    refine After.one [(100, ⟨1, .own, 3, 1, (hKeys l).map intf⟩)] (.own 100 1 0 (hKeys l).length) rfl (congrArg (fun b => [(100, FObj.ren (gOf [(5000, 100)]) b)]) h1) ?_
    (repeat (first | refine RunN.nil ?_ | refine rn_assign rfl rfl rfl ?_))
    exact FW.ret ⟨.inl rfl, ret_ow rfl rfl rfl (by simp) (by decide) rfl (intT.flatsM _)⟩

def lead (l : List Int) (x : Int) : Nat := (l.takeWhile fun y => decide (y < x)).length
theorem lead_len (l : List Int) (x : Int) : lead l x ≤ l.length := by
  unfold lead
  exact (List.takeWhile_prefix _).length_le
theorem lead_lt : ∀ (l : List Int) (x : Int) (k : Nat), k ≤ lead l x → ((k < l.length ∧ nth l k < x) ↔ k < lead l x)
  | [], x, k, h => by simp [lead] at h ⊢
  | y :: l, x, k, h => by
    unfold lead at h ⊢
    rw [List.takeWhile_cons] at h ⊢
    by_cases hy : y < x
    · rw [if_pos (by simpa using hy)] at h ⊢
      cases k with
      | zero => simp [nth, hy]
      | succ k =>
        have := lead_lt l x k (by simpa [lead] using h)
        simpa [lead, nth] using this
    · rw [if_neg (by simpa using hy)] at h ⊢
      have h0 : k = 0 := by simpa using h
      subst h0
      simp [nth, hy]
theorem ins_fv (R : List Int) (k : Nat) (x : Int) : (R.take k ++ [x] ++ R.drop k).map intf = List.take (k - 0) (List.drop (0 + 0) (R.map intf)) ++ [[FV.int .i64 x]] ++ List.take (R.length - k) (List.drop (0 + k) (R.map intf)) := by
  have e : List.take (R.length - k) (List.drop (0 + k) (R.map intf)) = List.drop k (R.map intf) := by
    rw [Nat.zero_add]
    exact List.take_of_length_le (by simp)
  rw [e]
  simp [intf, List.map_take, List.map_drop]
def insK (l : List Int) (x : Int) : List Int := if x ∈ l then l else l.take (lead l x) ++ [x] ++ l.drop (lead l x)
def rKeysTo (l : List OpV) : Nat → List Int
  | 0 => []
  | i + 1 => insK (rKeysTo l i) (nth l i).key
theorem rKeysTo_len (l : List OpV) : ∀ i, (rKeysTo l i).length ≤ i
  | 0 => Nat.le_refl _
  | i + 1 => by
    have := rKeysTo_len l i
    unfold rKeysTo insK
    split
    · omega
    · have := lead_len (rKeysTo l i) (nth l i).key
      simp; omega
set_option maxHeartbeats 4000000 in
theorem rKeys_spec (l : List OpV) (hl : l.length ≤ 1000000000) : Spec Try.prog 18 [.list 8 (l.map OpV.fv)] (.ow 3 1) (.list 1 ((rKeysTo l l.length).map intf)) := by
  refine Spec.of_body (c := (cxOf Try.prog tyAt_ok mixed_ok 57)) ⟨Try.func18, rfl, Try.ntmps18, by kernel_rfl⟩ (by simp [FV.hand]) (by exact Nat.le_of_ble_eq_true rfl) rfl ?_
  change FW _ _ _ ⟨[(0, .list 8 (l.map OpV.fv))], []⟩
  (repeat (first | refine FW.seq ?_ | refine FW.region ?_ | refine FW.block ?_ | refine RunN.nil ?_ | refine rn_assign rfl rfl rfl ?_))
  refine FW.loop (fun i : Nat => ⟨[(0, .list 8 (l.map OpV.fv)), (3, .own 100 0 0 (rKeysTo l i).length), (4, .int .i64 i)], [(100, ⟨0, .own, 3, 1, (rKeysTo l i).map intf⟩)]⟩) (fun i => i ≤ l.length) (fun i => l.length - i) 0 (Nat.zero_le _)
    (FLe.conv [⟨100, none, 0, ⟨0, .own, 3, 1, []⟩⟩] (by simp) (by simp) rfl (by repeat (first | exact GhOk.nil | refine GhOk.low rfl ?_ | refine GhOk.same rfl ?_ | refine GhOk.bump (Nat.lt_succ_self _) ?_)) (by repeat (first | exact EntsOk.nil | refine EntsOk.new ?_)) (by repeat (first | exact SlC.nil | refine SlC.cons (.plain rfl rfl (by first | rfl | (simp; done) | (congr 1; omega) | (simp; omega) | (simp [List.take_of_length_le]; done) | (refine congrArg (FV.int .i64) ?_; omega))) ?_ | refine SlC.cons (.nil rfl (.head _) rfl) ?_))) ?_
  intro i hi
  have hrl := rKeysTo_len l i
  (repeat (first | refine FW.seq ?_ | refine FW.region ?_ | refine RunN.nil ?_ | refine rn_move rfl rfl rfl ?_ | refine rn_lenList rfl rfl (by first | exact List.length_map _ | exact (List.length_map _).symm | exact List.length_replicate | rfl | (simp; done) | omega | (simp; omega)) rfl rfl ?_ | refine rn_lss rfl rfl rfl rfl ?_))
  refine FW.cond rfl (fun h => ?_) (fun h => ?_)
  · have hlt : i < l.length := by simpa using h
    clear h
    have hle := lead_len (rKeysTo l i) (nth l i).key
    (repeat (first | refine FW.seq ?_ | refine FW.region ?_ | refine FW.block ?_ | refine FW.skip ?_ | refine RunN.nil ?_ | refine rn_assign rfl rfl rfl ?_))
    refine FW.loop (fun k : Nat => ⟨[(0, .list 8 (l.map OpV.fv)), (3, .own 100 0 0 (rKeysTo l i).length), (4, .int .i64 i), (5, .int .i64 k)], [(100, ⟨0, .own, 3, 1, (rKeysTo l i).map intf⟩)]⟩) (fun k => k ≤ lead (rKeysTo l i) (nth l i).key) (fun k => lead (rKeysTo l i) (nth l i).key - k) 0 (Nat.zero_le _)
      (FLe.conv [⟨100, some 100, 0, ⟨0, .own, 3, 1, (rKeysTo l i).map intf⟩⟩] (by simp) (by simp) rfl (by repeat (first | exact GhOk.nil | refine GhOk.low rfl ?_ | refine GhOk.same rfl ?_ | refine GhOk.bump (Nat.lt_succ_self _) ?_)) (by repeat (first | exact EntsOk.nil | refine EntsOk.old rfl (by decide) (by first | rfl | (simp; done) | (congr 1; omega) | (simp; omega) | (simp [List.take_of_length_le]; done) | (refine congrArg (FV.int .i64) ?_; omega)) ?_)) (by repeat (first | exact SlC.nil | refine SlC.cons (.plain rfl rfl (by first | rfl | (simp; done) | (congr 1; omega) | (simp; omega) | (simp [List.take_of_length_le]; done) | (refine congrArg (FV.int .i64) ?_; omega))) ?_ | refine SlC.cons (.own rfl (.head _) rfl (by first | rfl | (simp; done) | (congr 1; omega) | (simp; omega) | (simp [List.take_of_length_le]; done) | (refine congrArg (FV.int .i64) ?_; omega))) ?_))) ?_
    intro k hk
    have hll := lead_lt (rKeysTo l i) (nth l i).key k hk
    (repeat (first | refine FW.seq ?_ | refine FW.draw ?_ | refine rd_move rfl rfl rfl ?_ | refine rd_lenOwn rfl rfl rfl (by decide) rfl rfl ?_ | refine rd_lss rfl rfl rfl rfl ?_))
    refine rd_case (fun h => ?_) (fun h => ?_)
    · have hkl : k < (rKeysTo l i).length := by simpa using h
      (repeat (first | refine RunD.nil ?_ | refine rd_pickT rfl rfl rfl rfl ?_ | refine rd_move rfl rfl ⟨_, _, rfl, rfl, rfl⟩ ?_ | refine rd_indexL rfl rfl (by first | rfl | exact (Int.toNat_of_nonneg (by omega)).symm) rfl rfl rfl (by first | omega | (simp; omega) | (simp; done)) rfl ⟨_, _, rfl, rfl, rfl⟩ ?_ | refine rd_indexO rfl rfl (by first | rfl | exact (Int.toNat_of_nonneg (by omega)).symm) rfl rfl rfl (by decide) rfl (by first | omega | (simp; omega) | (simp; done)) rfl ⟨_, _, rfl, rfl, rfl⟩ ?_ | refine rd_loadE rfl rfl rfl (by first | omega | (simp; omega) | (simp; done)) (by first | exact getD_map (by omega) | rfl) rfl rfl rfl ⟨_, _, rfl, rfl, rfl⟩ ?_ | refine rd_loadP rfl rfl rfl rfl rfl (by first | omega | (simp; omega) | (simp; done)) (by first | exact getD_map (by omega) | rfl) rfl rfl rfl ⟨_, _, rfl, rfl, rfl⟩ ?_ | refine rd_fieldE rfl rfl rfl rfl rfl rfl ⟨_, _, rfl, rfl, rfl⟩ ?_ | refine rd_lss rfl rfl rfl ⟨_, _, rfl, rfl, rfl⟩ ?_))
      refine ⟨by kernel_rfl, ?_⟩
      skip
      refine FW.cond rfl (fun h2 => ?_) (fun h2 => ?_)
      · have h2' : nth (rKeysTo l i) k < (nth l i).key := by simpa using h2
        (repeat (first | refine FW.region ?_ | refine FW.block ?_ | refine FW.skip ?_ | refine RunN.nil ?_ | refine rn_assign rfl rfl rfl ?_ | refine rn_move rfl rfl rfl ?_ | refine rn_add rfl rfl (by omega) rfl rfl ?_))
        exact ⟨k + 1, hll.1 ⟨hkl, h2'⟩, by have := hll.1 ⟨hkl, h2'⟩; omega, (FLe.conv [⟨100, some 100, 0, ⟨0, .own, 3, 1, (rKeysTo l i).map intf⟩⟩] (by simp) (by simp) rfl (by repeat (first | exact GhOk.nil | refine GhOk.low rfl ?_ | refine GhOk.same rfl ?_ | refine GhOk.bump (Nat.lt_succ_self _) ?_)) (by repeat (first | exact EntsOk.nil | refine EntsOk.old rfl (by decide) (by first | rfl | (simp; done) | (congr 1; omega) | (simp; omega) | (simp [List.take_of_length_le]; done) | (refine congrArg (FV.int .i64) ?_; omega)) ?_)) (by repeat (first | exact SlC.nil | refine SlC.cons (.plain rfl rfl (by first | rfl | (simp; done) | (congr 1; omega) | (simp; omega) | (simp [List.take_of_length_le]; done) | (refine congrArg (FV.int .i64) ?_; omega))) ?_ | refine SlC.cons (.own rfl (.head _) rfl (by first | rfl | (simp; done) | (congr 1; omega) | (simp; omega) | (simp [List.take_of_length_le]; done) | (refine congrArg (FV.int .i64) ?_; omega))) ?_)))⟩
      · have hkk : k = lead (rKeysTo l i) (nth l i).key := by
          have : ¬ k < lead (rKeysTo l i) (nth l i).key := fun h3 => by have := (hll.2 h3).2; simp at h2; omega
          omega
        subst hkk
        (repeat (first | refine FW.seq ?_ | refine FW.region ?_ | refine FW.exit ?_ | refine rn_move rfl rfl rfl ?_ | refine rn_indexL rfl rfl (by first | rfl | exact (Int.toNat_of_nonneg (by omega)).symm) rfl rfl rfl (by first | omega | (simp; omega) | (simp; done)) rfl rfl ?_ | refine rn_loadE rfl rfl rfl (by first | omega | (simp; omega) | (simp; done)) (by first | exact getD_map (by omega) | rfl) rfl rfl rfl rfl ?_ | refine rn_fieldE rfl rfl rfl rfl rfl rfl rfl ?_))
        refine rn_call (has_spec (rKeysTo l i) (nth l i).key (by omega)) (by repeat (first | exact ArgsR.nil | refine ArgsR.cons (by first | exact ArgR.plain rfl rfl | exact ArgR.own rfl rfl (by decide) (by first | exact (fun _ => rfl) | (intro h; cases h)) (by first | rfl | (simp; done) | (congr 1; omega) | (simp; omega) | (simp [List.take_of_length_le]; done) | (refine congrArg (FV.int .i64) ?_; omega))) ?_)) rfl rfl ?_
        (repeat (first | refine RunN.nil ?_))
        refine FW.cond rfl (fun h3 => ?_) (fun h3 => ?_)
        · (repeat (first | refine FW.region ?_ | refine FW.exit ?_ | refine RunN.nil ?_ | refine rn_assign rfl rfl rfl ?_ | refine rn_move rfl rfl rfl ?_ | refine rn_add rfl rfl (by omega) rfl rfl ?_))
          refine ⟨i + 1, by omega, by omega, ?_⟩
          rw [show rKeysTo l (i + 1) = rKeysTo l i by rw [rKeysTo, insK, if_pos (of_decide_eq_true h3)]]
          exact (FLe.conv [⟨100, some 100, 0, ⟨0, .own, 3, 1, (rKeysTo l i).map intf⟩⟩] (by simp) (by simp) rfl (by repeat (first | exact GhOk.nil | refine GhOk.low rfl ?_ | refine GhOk.same rfl ?_ | refine GhOk.bump (Nat.lt_succ_self _) ?_)) (by repeat (first | exact EntsOk.nil | refine EntsOk.old rfl (by decide) (by first | rfl | (simp; done) | (congr 1; omega) | (simp; omega) | (simp [List.take_of_length_le]; done) | (refine congrArg (FV.int .i64) ?_; omega)) ?_)) (by repeat (first | exact SlC.nil | refine SlC.cons (.plain rfl rfl (by first | rfl | (simp; done) | (congr 1; omega) | (simp; omega) | (simp [List.take_of_length_le]; done) | (refine congrArg (FV.int .i64) ?_; omega))) ?_ | refine SlC.cons (.own rfl (.head _) rfl (by first | rfl | (simp; done) | (congr 1; omega) | (simp; omega) | (simp [List.take_of_length_le]; done) | (refine congrArg (FV.int .i64) ?_; omega))) ?_)))
        · (repeat (first | refine FW.seq ?_ | refine FW.region ?_ | refine FW.skip ?_ | refine RunN.nil ?_ | refine rn_assign rfl rfl rfl ?_ | refine rn_move rfl rfl rfl ?_ | refine rn_indexL rfl rfl (by first | rfl | exact (Int.toNat_of_nonneg (by omega)).symm) rfl rfl rfl (by first | omega | (simp; omega) | (simp; done)) rfl rfl ?_ | refine rn_loadE rfl rfl rfl (by first | omega | (simp; omega) | (simp; done)) (by first | exact getD_map (by omega) | rfl) rfl rfl rfl rfl ?_ | refine rn_fieldE rfl rfl rfl rfl rfl rfl rfl ?_ | refine rn_add rfl rfl (by omega) rfl rfl ?_ | refine rn_sliceO rfl rfl rfl rfl (by decide) rfl (by first | exact LoR.none | exact LoR.some rfl | exact LoR.lit rfl (by first | rfl | exact (Int.toNat_of_nonneg (by omega)).symm)) (by first | exact HiR.none | exact HiR.some rfl | exact HiR.lit rfl (by first | rfl | exact (Int.toNat_of_nonneg (by omega)).symm)) (by first | omega | (simp; omega) | (simp; done)) (by first | omega | (simp; omega) | (simp; done)) rfl rfl ?_ | refine rn_appN rfl rfl rfl rfl (by decide) (by first | exact SrcR.own rfl rfl (by decide) (by first | exact List.length_map _ | exact (List.length_map _).symm | exact List.length_replicate | rfl | (simp; done) | omega | (simp; omega)) | exact SrcR.list rfl | exact SrcR.nil rfl | exact SrcR.part rfl rfl (by decide)) (by first | omega | (simp; omega) | (simp; done)) (by first | omega | (simp; omega) | (simp; done)) rfl rfl rfl ?_ | refine rn_appO rfl rfl (by first | exact List.length_map _ | exact (List.length_map _).symm | exact List.length_replicate | rfl | (simp; done) | omega | (simp; omega)) rfl rfl rfl (by decide) (by first | exact SrcR.own rfl rfl (by decide) (by first | exact List.length_map _ | exact (List.length_map _).symm | exact List.length_replicate | rfl | (simp; done) | omega | (simp; omega)) | exact SrcR.list rfl | exact SrcR.nil rfl | exact SrcR.part rfl rfl (by decide)) (by first | omega | (simp; omega) | (simp; done)) (by first | omega | (simp; omega) | (simp; done)) rfl rfl rfl ?_ | refine rn_buildS1 rfl rfl rfl rfl rfl rfl rfl rfl ?_))
          refine ⟨i + 1, by omega, by omega, ?_⟩
          rw [show rKeysTo l (i + 1) = (rKeysTo l i).take (lead (rKeysTo l i) (nth l i).key) ++ [(nth l i).key] ++ (rKeysTo l i).drop (lead (rKeysTo l i) (nth l i).key) by rw [rKeysTo, insK, if_neg (of_decide_eq_false h3)]]
          rw [ins_fv]
          exact (FLe.conv [⟨100, some 55, 1, ⟨0, .own, 3, 1, List.take ((lead (rKeysTo l i) (nth l i).key) - 0) (List.drop (0 + 0) ((rKeysTo l i).map intf)) ++ [[FV.int .i64 (nth l i).key]] ++ List.take ((rKeysTo l i).length - (lead (rKeysTo l i) (nth l i).key)) (List.drop (0 + (lead (rKeysTo l i) (nth l i).key)) ((rKeysTo l i).map intf))⟩⟩] (by simp) (by simp) rfl (by repeat (first | exact GhOk.nil | refine GhOk.low rfl ?_ | refine GhOk.same rfl ?_ | refine GhOk.bump (Nat.lt_succ_self _) ?_)) (by repeat (first | exact EntsOk.nil | refine EntsOk.old rfl (by decide) (by first | rfl | (simp; done) | (congr 1; omega) | (simp; omega) | (simp [List.take_of_length_le]; done) | (refine congrArg (FV.int .i64) ?_; omega)) ?_)) (by repeat (first | exact SlC.nil | refine SlC.cons (.plain rfl rfl (by first | rfl | (simp; done) | (congr 1; omega) | (simp; omega) | (simp [List.take_of_length_le]; done) | (refine congrArg (FV.int .i64) ?_; omega))) ?_ | refine SlC.cons (.own rfl (.head _) rfl (by first | rfl | (simp; done) | (congr 1; omega) | (simp; omega) | (simp [List.take_of_length_le]; done) | (refine congrArg (FV.int .i64) ?_; omega))) ?_)))
    · have hkl : ¬ k < (rKeysTo l i).length := by simpa using h
      (repeat (first | refine RunD.nil ?_ | refine rd_pickF rfl rfl rfl rfl ?_ | refine rd_skip rfl rfl ⟨_, _, rfl, rfl, rfl⟩ ?_))
      refine ⟨by kernel_rfl, ?_⟩
      have hkk : k = lead (rKeysTo l i) (nth l i).key := by
        have : ¬ k < lead (rKeysTo l i) (nth l i).key := fun h3 => hkl (hll.2 h3).1
        omega
      subst hkk
      (repeat (first | refine FW.seq ?_ | refine FW.region ?_ | refine FW.exit ?_ | refine FW.condF rfl ?_ | refine rn_move rfl rfl rfl ?_ | refine rn_indexL rfl rfl (by first | rfl | exact (Int.toNat_of_nonneg (by omega)).symm) rfl rfl rfl (by first | omega | (simp; omega) | (simp; done)) rfl rfl ?_ | refine rn_loadE rfl rfl rfl (by first | omega | (simp; omega) | (simp; done)) (by first | exact getD_map (by omega) | rfl) rfl rfl rfl rfl ?_ | refine rn_fieldE rfl rfl rfl rfl rfl rfl rfl ?_))
      refine rn_call (has_spec (rKeysTo l i) (nth l i).key (by omega)) (by repeat (first | exact ArgsR.nil | refine ArgsR.cons (by first | exact ArgR.plain rfl rfl | exact ArgR.own rfl rfl (by decide) (by first | exact (fun _ => rfl) | (intro h; cases h)) (by first | rfl | (simp; done) | (congr 1; omega) | (simp; omega) | (simp [List.take_of_length_le]; done) | (refine congrArg (FV.int .i64) ?_; omega))) ?_)) rfl rfl ?_
      (repeat (first | refine RunN.nil ?_))
      refine FW.cond rfl (fun h3 => ?_) (fun h3 => ?_)
      · (repeat (first | refine FW.region ?_ | refine FW.exit ?_ | refine RunN.nil ?_ | refine rn_assign rfl rfl rfl ?_ | refine rn_move rfl rfl rfl ?_ | refine rn_add rfl rfl (by omega) rfl rfl ?_))
        refine ⟨i + 1, by omega, by omega, ?_⟩
        rw [show rKeysTo l (i + 1) = rKeysTo l i by rw [rKeysTo, insK, if_pos (of_decide_eq_true h3)]]
        exact (FLe.conv [⟨100, some 100, 0, ⟨0, .own, 3, 1, (rKeysTo l i).map intf⟩⟩] (by simp) (by simp) rfl (by repeat (first | exact GhOk.nil | refine GhOk.low rfl ?_ | refine GhOk.same rfl ?_ | refine GhOk.bump (Nat.lt_succ_self _) ?_)) (by repeat (first | exact EntsOk.nil | refine EntsOk.old rfl (by decide) (by first | rfl | (simp; done) | (congr 1; omega) | (simp; omega) | (simp [List.take_of_length_le]; done) | (refine congrArg (FV.int .i64) ?_; omega)) ?_)) (by repeat (first | exact SlC.nil | refine SlC.cons (.plain rfl rfl (by first | rfl | (simp; done) | (congr 1; omega) | (simp; omega) | (simp [List.take_of_length_le]; done) | (refine congrArg (FV.int .i64) ?_; omega))) ?_ | refine SlC.cons (.own rfl (.head _) rfl (by first | rfl | (simp; done) | (congr 1; omega) | (simp; omega) | (simp [List.take_of_length_le]; done) | (refine congrArg (FV.int .i64) ?_; omega))) ?_)))
      · (repeat (first | refine FW.seq ?_ | refine FW.region ?_ | refine FW.skip ?_ | refine RunN.nil ?_ | refine rn_assign rfl rfl rfl ?_ | refine rn_move rfl rfl rfl ?_ | refine rn_indexL rfl rfl (by first | rfl | exact (Int.toNat_of_nonneg (by omega)).symm) rfl rfl rfl (by first | omega | (simp; omega) | (simp; done)) rfl rfl ?_ | refine rn_loadE rfl rfl rfl (by first | omega | (simp; omega) | (simp; done)) (by first | exact getD_map (by omega) | rfl) rfl rfl rfl rfl ?_ | refine rn_fieldE rfl rfl rfl rfl rfl rfl rfl ?_ | refine rn_add rfl rfl (by omega) rfl rfl ?_ | refine rn_sliceO rfl rfl rfl rfl (by decide) rfl (by first | exact LoR.none | exact LoR.some rfl | exact LoR.lit rfl (by first | rfl | exact (Int.toNat_of_nonneg (by omega)).symm)) (by first | exact HiR.none | exact HiR.some rfl | exact HiR.lit rfl (by first | rfl | exact (Int.toNat_of_nonneg (by omega)).symm)) (by first | omega | (simp; omega) | (simp; done)) (by first | omega | (simp; omega) | (simp; done)) rfl rfl ?_ | refine rn_appN rfl rfl rfl rfl (by decide) (by first | exact SrcR.own rfl rfl (by decide) (by first | exact List.length_map _ | exact (List.length_map _).symm | exact List.length_replicate | rfl | (simp; done) | omega | (simp; omega)) | exact SrcR.list rfl | exact SrcR.nil rfl | exact SrcR.part rfl rfl (by decide)) (by first | omega | (simp; omega) | (simp; done)) (by first | omega | (simp; omega) | (simp; done)) rfl rfl rfl ?_ | refine rn_appO rfl rfl (by first | exact List.length_map _ | exact (List.length_map _).symm | exact List.length_replicate | rfl | (simp; done) | omega | (simp; omega)) rfl rfl rfl (by decide) (by first | exact SrcR.own rfl rfl (by decide) (by first | exact List.length_map _ | exact (List.length_map _).symm | exact List.length_replicate | rfl | (simp; done) | omega | (simp; omega)) | exact SrcR.list rfl | exact SrcR.nil rfl | exact SrcR.part rfl rfl (by decide)) (by first | omega | (simp; omega) | (simp; done)) (by first | omega | (simp; omega) | (simp; done)) rfl rfl rfl ?_ | refine rn_buildS1 rfl rfl rfl rfl rfl rfl rfl rfl ?_))
        refine ⟨i + 1, by omega, by omega, ?_⟩
        rw [show rKeysTo l (i + 1) = (rKeysTo l i).take (lead (rKeysTo l i) (nth l i).key) ++ [(nth l i).key] ++ (rKeysTo l i).drop (lead (rKeysTo l i) (nth l i).key) by rw [rKeysTo, insK, if_neg (of_decide_eq_false h3)]]
        have eL : (rKeysTo l i).map intf = List.take (lead (rKeysTo l i) (nth l i).key - 0) (List.drop (0 + 0) ((rKeysTo l i).map intf)) := by
          rw [List.take_of_length_le (by simp; omega)]; rfl
        rw [ins_fv, ← eL]
        exact (FLe.conv [⟨100, some 55, 1, ⟨0, .own, 3, 1, (rKeysTo l i).map intf ++ [[FV.int .i64 (nth l i).key]] ++ List.take ((rKeysTo l i).length - (lead (rKeysTo l i) (nth l i).key)) (List.drop (0 + (lead (rKeysTo l i) (nth l i).key)) ((rKeysTo l i).map intf))⟩⟩] (by simp) (by simp) rfl (by repeat (first | exact GhOk.nil | refine GhOk.low rfl ?_ | refine GhOk.same rfl ?_ | refine GhOk.bump (Nat.lt_succ_self _) ?_)) (by repeat (first | exact EntsOk.nil | refine EntsOk.old rfl (by decide) (by first | rfl | (simp; done) | (congr 1; omega) | (simp; omega) | (simp [List.take_of_length_le]; done) | (refine congrArg (FV.int .i64) ?_; omega)) ?_)) (by repeat (first | exact SlC.nil | refine SlC.cons (.plain rfl rfl (by first | rfl | (simp; done) | (congr 1; omega) | (simp; omega) | (simp [List.take_of_length_le]; done) | (refine congrArg (FV.int .i64) ?_; omega))) ?_ | refine SlC.cons (.own rfl (.head _) rfl (by first | rfl | (simp; done) | (congr 1; omega) | (simp; omega) | (simp [List.take_of_length_le]; done) | (refine congrArg (FV.int .i64) ?_; omega))) ?_)))
  · have : i = l.length := by simp at h; omega
    subst this
    (repeat (first | refine FW.seq ?_ | refine FW.region ?_ | refine FW.exit ?_ | refine RunN.nil ?_ | refine rn_assign rfl rfl rfl ?_ | refine rn_move rfl rfl rfl ?_))
    exact FW.ret ⟨.inl rfl, ret_ow rfl rfl rfl (by simp) (by decide) rfl (intT.flatsM _)⟩
end Go.Proofs.Ytflkbehbenlhaaa
/-
  The two lists of a history's keys are equal: both ascend and have the same members.
-/
namespace Go.Proofs.Ytflkbehbenlhaaa
set_option linter.unusedVariables false
open Go.RowKit

theorem lead_split : ∀ (l : List Int) (x : Int), l.Pairwise (· < ·) → (∀ y ∈ l.take (lead l x), y < x) ∧ ∀ y ∈ l.drop (lead l x), x ≤ y
  | [], x, _ => by simp
  | z :: l, x, h => by
    rw [List.pairwise_cons] at h
    unfold lead
    rw [List.takeWhile_cons]
    by_cases hz : z < x
    · rw [if_pos (by simpa using hz)]
      have ih := lead_split l x h.2
      unfold lead at ih
      rw [List.length_cons, List.take_succ_cons, List.drop_succ_cons]
      refine ⟨fun y hy => ?_, ih.2⟩
      rcases List.mem_cons.1 hy with rfl | hy
      · exact hz
      · exact ih.1 y hy
    · rw [if_neg (by simpa using hz)]
      refine ⟨by simp, fun y hy => ?_⟩
      rcases List.mem_cons.1 (by simpa using hy) with rfl | hy
      · omega
      · have := h.1 y hy; omega
theorem insK_asc {l : List Int} {x : Int} (h : l.Pairwise (· < ·)) : (insK l x).Pairwise (· < ·) := by
  unfold insK
  split
  · exact h
  · rename_i hx
    obtain ⟨h1, h2⟩ := lead_split l x h
    have hd : ∀ y ∈ l.drop (lead l x), x < y := fun y hy => by
      have := h2 y hy
      have hne : x ≠ y := fun e => hx (by rw [e]; exact List.mem_of_mem_drop hy)
      omega
    have ht := h.take (i := lead l x)
    have hdr := h.drop (i := lead l x)
    refine List.pairwise_append.2 ⟨List.pairwise_append.2 ⟨ht, by simp, fun a ha b hb => ?_⟩, hdr, fun a ha b hb => ?_⟩
    · rw [List.mem_singleton] at hb; subst hb; exact h1 a ha
    · rcases List.mem_append.1 ha with ha | ha
      · have := h1 a ha; have := hd b hb; omega
      · rw [List.mem_singleton] at ha; subst ha; exact hd b hb
theorem insK_mem {l : List Int} {x y : Int} : y ∈ insK l x ↔ y ∈ l ∨ y = x := by
  unfold insK
  split
  · rename_i h
    constructor
    · exact fun h => .inl h
    · rintro (h' | rfl)
      · exact h'
      · exact h
  · have e : l = l.take (lead l x) ++ l.drop (lead l x) := (List.take_append_drop _ _).symm
    conv => rhs; rw [e]
    simp only [List.mem_append, List.mem_singleton]
    constructor
    · rintro ((h | h) | h)
      · exact .inl (.inl h)
      · exact .inr h
      · exact .inl (.inr h)
    · rintro ((h | h) | h)
      · exact .inl (.inl h)
      · exact .inr h
      · exact .inl (.inr h)
theorem rKeysTo_asc (l : List OpV) : ∀ i, (rKeysTo l i).Pairwise (· < ·)
  | 0 => List.Pairwise.nil
  | i + 1 => insK_asc (rKeysTo_asc l i)
theorem rKeysTo_mem (l : List OpV) (y : Int) : ∀ i, i ≤ l.length → (y ∈ rKeysTo l i ↔ y ∈ keysTo l i)
  | 0, _ => by simp [rKeysTo, keysTo]
  | i + 1, h => by
    rw [rKeysTo, insK_mem, rKeysTo_mem l y i (by omega), keysTo_succ l i (by omega)]
    simp

theorem hKeys_asc (l : List OpV) : (hKeys l).Pairwise (· < ·) := compact_asc (sorted_ms _)
theorem hKeys_mem (l : List OpV) (y : Int) : y ∈ hKeys l ↔ ∃ o ∈ l, o.key = y := by
  unfold hKeys
  rw [compact_mem, List.mem_mergeSort, List.mem_map]
theorem hKeys_eq (l : List OpV) : hKeys l = rKeysTo l l.length := by
  refine asc_eq (hKeys_asc l) (rKeysTo_asc l _) fun x => ?_
  rw [rKeysTo_mem l x l.length (Nat.le_refl _), hKeys_mem]
  unfold keysTo
  rw [List.take_length, List.mem_map]
end Go.Proofs.Ytflkbehbenlhaaa
/-
  The parts of a history: where, OfKey, OfProcess, and the reference's, at plain values.
-/
namespace Go.Proofs.Ytflkbehbenlhaaa
set_option linter.unusedVariables false
open Go.RowKit

def whereTo (p : OpV → Bool) (l : List OpV) (i : Nat) : List Int := ((List.range i).filter fun j => p (nth l j)).map fun (j : Nat) => (j : Int)
theorem whereTo_succ (p : OpV → Bool) (l : List OpV) (i : Nat) : whereTo p l (i + 1) = whereTo p l i ++ (if p (nth l i) = true then [(i : Int)] else []) := by
  unfold whereTo
  rw [List.range_succ, List.filter_append, List.map_append]
  congr 1
  by_cases h : p (nth l i) = true <;> simp [h]
theorem whereTo_len (p : OpV → Bool) (l : List OpV) (i : Nat) : (whereTo p l i).length ≤ i := by
  unfold whereTo
  rw [List.length_map]
  exact Nat.le_trans (List.length_filter_le _ _) (by simp)
def byKey (key : Int) (o : OpV) : Bool := decide (o.key = key)
def byProc (p : Int) (o : OpV) : Bool := decide (o.p = p)

theorem ofKey1_spec (key : Int) (o : OpV) : Spec Try.prog 55 ([.agg o.fv] ++ [.eptr 1 [[.int .i64 key]] 0 0]) .fr (.bool (byKey key o)) := by
  refine Spec.of_body (c := (cxOf Try.prog tyAt_ok mixed_ok 8)) ⟨Try.func55, rfl, Try.ntmps55, by kernel_rfl⟩ (by simp [FV.hand]) (by exact Nat.le_of_ble_eq_true rfl) rfl ?_
  change FW _ _ _ ⟨[(0, .agg o.fv), (1, .eptr 1 [[.int .i64 key]] 0 0)], []⟩
  (repeat (first | refine FW.seq ?_ | refine FW.region ?_ | refine RunN.nil ?_ | refine rn_boxA rfl rfl rfl rfl rfl rfl rfl ?_ | refine rn_assign rfl rfl rfl ?_ | refine rn_fieldP rfl rfl rfl rfl rfl rfl (by decide) rfl rfl ?_ | refine rn_loadE rfl rfl rfl (by first | omega | (simp; omega) | (simp; done)) (by first | exact getD_map (by omega) | rfl) rfl rfl rfl rfl ?_ | refine rn_loadP rfl rfl rfl rfl rfl (by first | omega | (simp; omega) | (simp; done)) (by first | exact getD_map (by omega) | rfl) rfl rfl rfl rfl ?_ | refine rn_eql rfl rfl rfl rfl ?_))
  exact FW.ret ⟨.inl rfl, ret_flat rfl rfl rfl rfl⟩
theorem ofProcess1_spec (p : Int) (o : OpV) : Spec Try.prog 56 ([.agg o.fv] ++ [.eptr 1 [[.int .i64 p]] 0 0]) .fr (.bool (byProc p o)) := by
  refine Spec.of_body (c := (cxOf Try.prog tyAt_ok mixed_ok 8)) ⟨Try.func56, rfl, Try.ntmps56, by kernel_rfl⟩ (by simp [FV.hand]) (by exact Nat.le_of_ble_eq_true rfl) rfl ?_
  change FW _ _ _ ⟨[(0, .agg o.fv), (1, .eptr 1 [[.int .i64 p]] 0 0)], []⟩
  (repeat (first | refine FW.seq ?_ | refine FW.region ?_ | refine RunN.nil ?_ | refine rn_boxA rfl rfl rfl rfl rfl rfl rfl ?_ | refine rn_assign rfl rfl rfl ?_ | refine rn_fieldP rfl rfl rfl rfl rfl rfl (by decide) rfl rfl ?_ | refine rn_loadE rfl rfl rfl (by first | omega | (simp; omega) | (simp; done)) (by first | exact getD_map (by omega) | rfl) rfl rfl rfl rfl ?_ | refine rn_loadP rfl rfl rfl rfl rfl (by first | omega | (simp; omega) | (simp; done)) (by first | exact getD_map (by omega) | rfl) rfl rfl rfl rfl ?_ | refine rn_eql rfl rfl rfl rfl ?_))
  exact FW.ret ⟨.inl rfl, ret_flat rfl rfl rfl rfl⟩

set_option maxHeartbeats 4000000 in
theorem where_spec (l : List OpV) (cf : Nat) (caps : List FV) (p : OpV → Bool) (hl : l.length ≤ 1000000000) (hp : ∀ o : OpV, Spec (Try.prog) cf ([.agg o.fv] ++ caps) .fr (.bool (p o))) :
    Spec Try.prog 54 [.list 8 (l.map OpV.fv), .fn cf caps] (.ow 3 1) (.list 1 ((whereTo p l l.length).map intf)) := by
  refine Spec.of_body (c := (cxOf Try.prog tyAt_ok mixed_ok 24)) ⟨Try.func54, rfl, Try.ntmps54, by kernel_rfl⟩ (by simp [FV.hand]) (by exact Nat.le_of_ble_eq_true rfl) rfl ?_
  change FW _ _ _ ⟨[(0, .list 8 (l.map OpV.fv)), (1, .fn cf caps)], []⟩
  (repeat (first | refine FW.seq ?_ | refine FW.region ?_ | refine FW.block ?_ | refine RunN.nil ?_ | refine rn_assign rfl rfl rfl ?_ | refine rn_move rfl rfl rfl ?_ | refine rn_lenList rfl rfl (by first | exact List.length_map _ | exact (List.length_map _).symm | exact List.length_replicate | rfl | (simp; done) | omega | (simp; omega)) rfl rfl ?_))
  refine FW.loop (fun i : Nat => ⟨[(1, .fn cf caps), (5, .own 100 0 0 (whereTo p l i).length), (8, .list 8 (l.map OpV.fv)), (9, .int .i64 l.length), (10, .int .i64 i)], [(100, ⟨0, .own, 3, 1, (whereTo p l i).map intf⟩)]⟩) (fun i => i ≤ l.length) (fun i => l.length - i) 0 (Nat.zero_le _)
    (FLe.conv [⟨100, none, 0, ⟨0, .own, 3, 1, []⟩⟩] (by simp) (by simp) rfl (by repeat (first | exact GhOk.nil | refine GhOk.low rfl ?_ | refine GhOk.same rfl ?_ | refine GhOk.bump (Nat.lt_succ_self _) ?_)) (by repeat (first | exact EntsOk.nil | refine EntsOk.new ?_)) (by repeat (first | exact SlC.nil | refine SlC.cons (.plain rfl rfl (by first | rfl | (simp; done) | (congr 1; omega) | (simp; omega) | (simp [List.take_of_length_le]; done) | (refine congrArg (FV.int .i64) ?_; omega))) ?_ | refine SlC.cons (.nil rfl (.head _) rfl) ?_))) ?_
  intro i hi
  have hwl := whereTo_len p l i
  (repeat (first | refine FW.seq ?_ | refine FW.region ?_ | refine RunN.nil ?_ | refine rn_lss rfl rfl rfl rfl ?_))
  refine FW.cond rfl (fun h => ?_) (fun h => ?_)
  · have hlt : i < l.length := by simpa using h
    clear h
    (repeat (first | refine FW.seq ?_ | refine FW.region ?_ | refine FW.block ?_ | refine FW.skip ?_ | refine RunN.nil ?_ | refine rn_assign rfl rfl rfl ?_ | refine rn_move rfl rfl rfl ?_ | refine rn_indexL rfl rfl (by first | rfl | exact (Int.toNat_of_nonneg (by omega)).symm) rfl rfl rfl (by first | omega | (simp; omega) | (simp; done)) rfl rfl ?_ | refine rn_loadEA rfl rfl rfl (by decide) (by first | omega | (simp; omega) | (simp; done)) (by first | exact getD_map (by omega) | rfl) rfl rfl rfl ?_ | refine rn_loadPA rfl rfl rfl (by decide) rfl rfl (by first | omega | (simp; omega) | (simp; done)) (by first | exact getD_map (by omega) | rfl) rfl rfl rfl ?_ | refine rn_alloc rfl rfl rfl rfl rfl rfl rfl ?_ | refine rn_storeVA rfl rfl rfl rfl rfl rfl rfl rfl rfl ?_))
    refine rn_callV rfl (hp (nth l i)) (by repeat (first | exact ArgsR.nil | refine ArgsR.cons (by first | exact ArgR.plain rfl rfl) ?_)) rfl rfl ?_
    (repeat (first | refine RunN.nil ?_))
    refine FW.cond rfl (fun h => ?_) (fun h => ?_)
    · (repeat (first | refine FW.region ?_ | refine RunN.nil ?_ | refine rn_assign rfl rfl rfl ?_ | refine rn_move rfl rfl rfl ?_ | refine rn_buildS1 rfl rfl rfl rfl rfl rfl rfl rfl ?_ | refine rn_appO rfl rfl (by first | exact List.length_map _ | exact (List.length_map _).symm | exact List.length_replicate | rfl | (simp; done) | omega | (simp; omega)) rfl rfl rfl (by decide) (by first | exact SrcR.own rfl rfl (by decide) (by first | exact List.length_map _ | exact (List.length_map _).symm | exact List.length_replicate | rfl | (simp; done) | omega | (simp; omega)) | exact SrcR.list rfl | exact SrcR.nil rfl | exact SrcR.part rfl rfl (by decide)) (by first | omega | (simp; omega) | (simp; done)) (by first | omega | (simp; omega) | (simp; done)) rfl rfl rfl ?_ | refine rn_add rfl rfl (by omega) rfl rfl ?_))
      refine ⟨i + 1, by omega, by omega, ?_⟩
      rw [whereTo_succ, if_pos h, List.map_append]
      exact (FLe.conv [⟨100, some 21, 1, ⟨0, .own, 3, 1, (whereTo p l i).map intf ++ [(i : Int)].map intf⟩⟩] (by simp) (by simp) rfl (by repeat (first | exact GhOk.nil | refine GhOk.low rfl ?_ | refine GhOk.same rfl ?_ | refine GhOk.bump (Nat.lt_succ_self _) ?_)) (by repeat (first | exact EntsOk.nil | refine EntsOk.old rfl (by decide) (by first | rfl | (simp; done) | (congr 1; omega) | (simp; omega) | (simp [List.take_of_length_le]; done) | (refine congrArg (FV.int .i64) ?_; omega)) ?_)) (by repeat (first | exact SlC.nil | refine SlC.cons (.plain rfl rfl (by first | rfl | (simp; done) | (congr 1; omega) | (simp; omega) | (simp [List.take_of_length_le]; done) | (refine congrArg (FV.int .i64) ?_; omega))) ?_ | refine SlC.cons (.own rfl (.head _) rfl (by first | rfl | (simp; done) | (congr 1; omega) | (simp; omega) | (simp [List.take_of_length_le]; done) | (refine congrArg (FV.int .i64) ?_; omega))) ?_)))
    · (repeat (first | refine FW.region ?_ | refine FW.skip ?_ | refine RunN.nil ?_ | refine rn_move rfl rfl rfl ?_ | refine rn_add rfl rfl (by omega) rfl rfl ?_))
      refine ⟨i + 1, by omega, by omega, ?_⟩
      rw [whereTo_succ, if_neg (by rw [h]; decide), List.append_nil]
      exact (FLe.conv [⟨100, some 100, 0, ⟨0, .own, 3, 1, (whereTo p l i).map intf⟩⟩] (by simp) (by simp) rfl (by repeat (first | exact GhOk.nil | refine GhOk.low rfl ?_ | refine GhOk.same rfl ?_ | refine GhOk.bump (Nat.lt_succ_self _) ?_)) (by repeat (first | exact EntsOk.nil | refine EntsOk.old rfl (by decide) (by first | rfl | (simp; done) | (congr 1; omega) | (simp; omega) | (simp [List.take_of_length_le]; done) | (refine congrArg (FV.int .i64) ?_; omega)) ?_)) (by repeat (first | exact SlC.nil | refine SlC.cons (.plain rfl rfl (by first | rfl | (simp; done) | (congr 1; omega) | (simp; omega) | (simp [List.take_of_length_le]; done) | (refine congrArg (FV.int .i64) ?_; omega))) ?_ | refine SlC.cons (.own rfl (.head _) rfl (by first | rfl | (simp; done) | (congr 1; omega) | (simp; omega) | (simp [List.take_of_length_le]; done) | (refine congrArg (FV.int .i64) ?_; omega))) ?_)))
  · have : i = l.length := by simp at h; omega
    subst this
    (repeat (first | refine FW.seq ?_ | refine FW.region ?_ | refine FW.exit ?_ | refine RunN.nil ?_ | refine rn_assign rfl rfl rfl ?_ | refine rn_move rfl rfl rfl ?_))
    exact FW.ret ⟨.inl rfl, ret_ow rfl rfl rfl (by simp) (by decide) rfl (intT.flatsM _)⟩
theorem ofKey_spec (l : List OpV) (key : Int) (hl : l.length ≤ 1000000000) : Spec Try.prog 21 [.list 8 (l.map OpV.fv), .int .i64 key] (.ow 3 1) (.list 1 ((whereTo (byKey key) l l.length).map intf)) := by
  refine Spec.of_body (c := (cxOf Try.prog tyAt_ok mixed_ok 8)) ⟨Try.func21, rfl, Try.ntmps21, by kernel_rfl⟩ (by simp [FV.hand]) (by exact Nat.le_of_ble_eq_true rfl) rfl ?_
  change FW _ _ _ ⟨[(0, .list 8 (l.map OpV.fv)), (1, .int .i64 key)], []⟩
  (repeat (first | refine FW.seq ?_ | refine FW.region ?_ | refine RunN.nil ?_ | refine rn_box1 rfl rfl rfl rfl rfl ?_ | refine rn_assign rfl rfl rfl ?_ | refine rn_move rfl rfl rfl ?_))
  refine RunN.le ?_ (FLe.shareP 3 rfl rfl)
  (repeat (first | refine rn_makeFn1 rfl rfl rfl rfl ?_))
  refine rn_callO (where_spec l 55 [.eptr 1 [[.int .i64 key]] 0 0] (byKey key) hl (ofKey1_spec key)) (by repeat (first | exact ArgsR.nil | refine ArgsR.cons (by first | exact ArgR.plain rfl rfl) ?_)) (List.length_map _) rfl rfl rfl ?_
  (repeat (first | refine RunN.nil ?_ | refine rn_assign rfl rfl rfl ?_))
  exact FW.ret ⟨.inl rfl, ret_ow rfl rfl rfl (by simp) (by decide) rfl (intT.flatsM _)⟩
theorem ofProcess_spec (l : List OpV) (p : Int) (hl : l.length ≤ 1000000000) : Spec Try.prog 23 [.list 8 (l.map OpV.fv), .int .i64 p] (.ow 3 1) (.list 1 ((whereTo (byProc p) l l.length).map intf)) := by
  refine Spec.of_body (c := (cxOf Try.prog tyAt_ok mixed_ok 8)) ⟨Try.func23, rfl, Try.ntmps23, by kernel_rfl⟩ (by simp [FV.hand]) (by exact Nat.le_of_ble_eq_true rfl) rfl ?_
  change FW _ _ _ ⟨[(0, .list 8 (l.map OpV.fv)), (1, .int .i64 p)], []⟩
  (repeat (first | refine FW.seq ?_ | refine FW.region ?_ | refine RunN.nil ?_ | refine rn_box1 rfl rfl rfl rfl rfl ?_ | refine rn_assign rfl rfl rfl ?_ | refine rn_move rfl rfl rfl ?_))
  refine RunN.le ?_ (FLe.shareP 3 rfl rfl)
  (repeat (first | refine rn_makeFn1 rfl rfl rfl rfl ?_))
  refine rn_callO (where_spec l 56 [.eptr 1 [[.int .i64 p]] 0 0] (byProc p) hl (ofProcess1_spec p)) (by repeat (first | exact ArgsR.nil | refine ArgsR.cons (by first | exact ArgR.plain rfl rfl) ?_)) (List.length_map _) rfl rfl rfl ?_
  (repeat (first | refine RunN.nil ?_ | refine rn_assign rfl rfl rfl ?_))
  exact FW.ret ⟨.inl rfl, ret_ow rfl rfl rfl (by simp) (by decide) rfl (intT.flatsM _)⟩
end Go.Proofs.Ytflkbehbenlhaaa
/-
  The reference's parts of a history, at plain values.
-/
namespace Go.Proofs.Ytflkbehbenlhaaa
set_option linter.unusedVariables false
open Go.RowKit

set_option maxHeartbeats 4000000 in
theorem refOfKey_spec (l : List OpV) (key : Int) (hl : l.length ≤ 1000000000) : Spec Try.prog 22 [.list 8 (l.map OpV.fv), .int .i64 key] (.ow 3 1) (.list 1 ((whereTo (byKey key) l l.length).map intf)) := by
  refine Spec.of_body (c := (cxOf Try.prog tyAt_ok mixed_ok 25)) ⟨Try.func22, rfl, Try.ntmps22, by kernel_rfl⟩ (by simp [FV.hand]) (by exact Nat.le_of_ble_eq_true rfl) rfl ?_
  change FW _ _ _ ⟨[(0, .list 8 (l.map OpV.fv)), (1, .int .i64 key)], []⟩
  (repeat (first | refine FW.seq ?_ | refine FW.region ?_ | refine FW.block ?_ | refine RunN.nil ?_ | refine rn_assign rfl rfl rfl ?_))
  refine FW.loop (fun i : Nat => ⟨[(0, .list 8 (l.map OpV.fv)), (1, .int .i64 key), (5, .own 100 0 0 (whereTo (byKey key) l i).length), (6, .int .i64 i)], [(100, ⟨0, .own, 3, 1, (whereTo (byKey key) l i).map intf⟩)]⟩) (fun i => i ≤ l.length) (fun i => l.length - i) 0 (Nat.zero_le _)
    (FLe.conv [⟨100, none, 0, ⟨0, .own, 3, 1, []⟩⟩] (by simp) (by simp) rfl (by repeat (first | exact GhOk.nil | refine GhOk.low rfl ?_ | refine GhOk.same rfl ?_ | refine GhOk.bump (Nat.lt_succ_self _) ?_)) (by repeat (first | exact EntsOk.nil | refine EntsOk.new ?_)) (by repeat (first | exact SlC.nil | refine SlC.cons (.plain rfl rfl (by first | rfl | (simp; done) | (congr 1; omega) | (simp; omega) | (simp [List.take_of_length_le]; done) | (refine congrArg (FV.int .i64) ?_; omega))) ?_ | refine SlC.cons (.nil rfl (.head _) rfl) ?_))) ?_
  intro i hi
  have hwl := whereTo_len (byKey key) l i
  (repeat (first | refine FW.seq ?_ | refine FW.region ?_ | refine RunN.nil ?_ | refine rn_move rfl rfl rfl ?_ | refine rn_lenList rfl rfl (by first | exact List.length_map _ | exact (List.length_map _).symm | exact List.length_replicate | rfl | (simp; done) | omega | (simp; omega)) rfl rfl ?_ | refine rn_lss rfl rfl rfl rfl ?_))
  refine FW.cond rfl (fun h => ?_) (fun h => ?_)
  · have hlt : i < l.length := by simpa using h
    clear h
    (repeat (first | refine FW.seq ?_ | refine FW.region ?_ | refine FW.block ?_ | refine FW.skip ?_ | refine RunN.nil ?_ | refine rn_move rfl rfl rfl ?_ | refine rn_indexL rfl rfl (by first | rfl | exact (Int.toNat_of_nonneg (by omega)).symm) rfl rfl rfl (by first | omega | (simp; omega) | (simp; done)) rfl rfl ?_ | refine rn_fieldE rfl rfl rfl rfl rfl rfl rfl ?_ | refine rn_loadE rfl rfl rfl (by first | omega | (simp; omega) | (simp; done)) (by first | exact getD_map (by omega) | rfl) rfl rfl rfl rfl ?_ | refine rn_eql rfl rfl rfl rfl ?_))
    refine FW.cond rfl (fun h => ?_) (fun h => ?_)
    · (repeat (first | refine FW.region ?_ | refine RunN.nil ?_ | refine rn_assign rfl rfl rfl ?_ | refine rn_move rfl rfl rfl ?_ | refine rn_buildS1 rfl rfl rfl rfl rfl rfl rfl rfl ?_ | refine rn_appO rfl rfl (by first | exact List.length_map _ | exact (List.length_map _).symm | exact List.length_replicate | rfl | (simp; done) | omega | (simp; omega)) rfl rfl rfl (by decide) (by first | exact SrcR.own rfl rfl (by decide) (by first | exact List.length_map _ | exact (List.length_map _).symm | exact List.length_replicate | rfl | (simp; done) | omega | (simp; omega)) | exact SrcR.list rfl | exact SrcR.nil rfl | exact SrcR.part rfl rfl (by decide)) (by first | omega | (simp; omega) | (simp; done)) (by first | omega | (simp; omega) | (simp; done)) rfl rfl rfl ?_ | refine rn_add rfl rfl (by omega) rfl rfl ?_))
      refine ⟨i + 1, by omega, by omega, ?_⟩
      rw [whereTo_succ, if_pos (show byKey key (nth l i) = true from h), List.map_append]
      exact (FLe.conv [⟨100, some 23, 1, ⟨0, .own, 3, 1, (whereTo (byKey key) l i).map intf ++ [(i : Int)].map intf⟩⟩] (by simp) (by simp) rfl (by repeat (first | exact GhOk.nil | refine GhOk.low rfl ?_ | refine GhOk.same rfl ?_ | refine GhOk.bump (Nat.lt_succ_self _) ?_)) (by repeat (first | exact EntsOk.nil | refine EntsOk.old rfl (by decide) (by first | rfl | (simp; done) | (congr 1; omega) | (simp; omega) | (simp [List.take_of_length_le]; done) | (refine congrArg (FV.int .i64) ?_; omega)) ?_)) (by repeat (first | exact SlC.nil | refine SlC.cons (.plain rfl rfl (by first | rfl | (simp; done) | (congr 1; omega) | (simp; omega) | (simp [List.take_of_length_le]; done) | (refine congrArg (FV.int .i64) ?_; omega))) ?_ | refine SlC.cons (.own rfl (.head _) rfl (by first | rfl | (simp; done) | (congr 1; omega) | (simp; omega) | (simp [List.take_of_length_le]; done) | (refine congrArg (FV.int .i64) ?_; omega))) ?_)))
    · (repeat (first | refine FW.region ?_ | refine FW.skip ?_ | refine RunN.nil ?_ | refine rn_assign rfl rfl rfl ?_ | refine rn_move rfl rfl rfl ?_ | refine rn_add rfl rfl (by omega) rfl rfl ?_))
      refine ⟨i + 1, by omega, by omega, ?_⟩
      rw [whereTo_succ, if_neg (by rw [show byKey key (nth l i) = false from h]; decide), List.append_nil]
      exact (FLe.conv [⟨100, some 100, 0, ⟨0, .own, 3, 1, (whereTo (byKey key) l i).map intf⟩⟩] (by simp) (by simp) rfl (by repeat (first | exact GhOk.nil | refine GhOk.low rfl ?_ | refine GhOk.same rfl ?_ | refine GhOk.bump (Nat.lt_succ_self _) ?_)) (by repeat (first | exact EntsOk.nil | refine EntsOk.old rfl (by decide) (by first | rfl | (simp; done) | (congr 1; omega) | (simp; omega) | (simp [List.take_of_length_le]; done) | (refine congrArg (FV.int .i64) ?_; omega)) ?_)) (by repeat (first | exact SlC.nil | refine SlC.cons (.plain rfl rfl (by first | rfl | (simp; done) | (congr 1; omega) | (simp; omega) | (simp [List.take_of_length_le]; done) | (refine congrArg (FV.int .i64) ?_; omega))) ?_ | refine SlC.cons (.own rfl (.head _) rfl (by first | rfl | (simp; done) | (congr 1; omega) | (simp; omega) | (simp [List.take_of_length_le]; done) | (refine congrArg (FV.int .i64) ?_; omega))) ?_)))
  · have : i = l.length := by simp at h; omega
    subst this
    (repeat (first | refine FW.seq ?_ | refine FW.region ?_ | refine FW.exit ?_ | refine RunN.nil ?_ | refine rn_assign rfl rfl rfl ?_ | refine rn_move rfl rfl rfl ?_))
    exact FW.ret ⟨.inl rfl, ret_ow rfl rfl rfl (by simp) (by decide) rfl (intT.flatsM _)⟩
set_option maxHeartbeats 4000000 in
theorem refOfProcess_spec (l : List OpV) (key : Int) (hl : l.length ≤ 1000000000) : Spec Try.prog 24 [.list 8 (l.map OpV.fv), .int .i64 key] (.ow 3 1) (.list 1 ((whereTo (byProc key) l l.length).map intf)) := by
  refine Spec.of_body (c := (cxOf Try.prog tyAt_ok mixed_ok 25)) ⟨Try.func24, rfl, Try.ntmps24, by kernel_rfl⟩ (by simp [FV.hand]) (by exact Nat.le_of_ble_eq_true rfl) rfl ?_
  change FW _ _ _ ⟨[(0, .list 8 (l.map OpV.fv)), (1, .int .i64 key)], []⟩
  (repeat (first | refine FW.seq ?_ | refine FW.region ?_ | refine FW.block ?_ | refine RunN.nil ?_ | refine rn_assign rfl rfl rfl ?_))
  refine FW.loop (fun i : Nat => ⟨[(0, .list 8 (l.map OpV.fv)), (1, .int .i64 key), (5, .own 100 0 0 (whereTo (byProc key) l i).length), (6, .int .i64 i)], [(100, ⟨0, .own, 3, 1, (whereTo (byProc key) l i).map intf⟩)]⟩) (fun i => i ≤ l.length) (fun i => l.length - i) 0 (Nat.zero_le _)
    (FLe.conv [⟨100, none, 0, ⟨0, .own, 3, 1, []⟩⟩] (by simp) (by simp) rfl (by repeat (first | exact GhOk.nil | refine GhOk.low rfl ?_ | refine GhOk.same rfl ?_ | refine GhOk.bump (Nat.lt_succ_self _) ?_)) (by repeat (first | exact EntsOk.nil | refine EntsOk.new ?_)) (by repeat (first | exact SlC.nil | refine SlC.cons (.plain rfl rfl (by first | rfl | (simp; done) | (congr 1; omega) | (simp; omega) | (simp [List.take_of_length_le]; done) | (refine congrArg (FV.int .i64) ?_; omega))) ?_ | refine SlC.cons (.nil rfl (.head _) rfl) ?_))) ?_
  intro i hi
  have hwl := whereTo_len (byProc key) l i
  (repeat (first | refine FW.seq ?_ | refine FW.region ?_ | refine RunN.nil ?_ | refine rn_move rfl rfl rfl ?_ | refine rn_lenList rfl rfl (by first | exact List.length_map _ | exact (List.length_map _).symm | exact List.length_replicate | rfl | (simp; done) | omega | (simp; omega)) rfl rfl ?_ | refine rn_lss rfl rfl rfl rfl ?_))
  refine FW.cond rfl (fun h => ?_) (fun h => ?_)
  · have hlt : i < l.length := by simpa using h
    clear h
    (repeat (first | refine FW.seq ?_ | refine FW.region ?_ | refine FW.block ?_ | refine FW.skip ?_ | refine RunN.nil ?_ | refine rn_move rfl rfl rfl ?_ | refine rn_indexL rfl rfl (by first | rfl | exact (Int.toNat_of_nonneg (by omega)).symm) rfl rfl rfl (by first | omega | (simp; omega) | (simp; done)) rfl rfl ?_ | refine rn_fieldE rfl rfl rfl rfl rfl rfl rfl ?_ | refine rn_loadE rfl rfl rfl (by first | omega | (simp; omega) | (simp; done)) (by first | exact getD_map (by omega) | rfl) rfl rfl rfl rfl ?_ | refine rn_eql rfl rfl rfl rfl ?_))
    refine FW.cond rfl (fun h => ?_) (fun h => ?_)
    · (repeat (first | refine FW.region ?_ | refine RunN.nil ?_ | refine rn_assign rfl rfl rfl ?_ | refine rn_move rfl rfl rfl ?_ | refine rn_buildS1 rfl rfl rfl rfl rfl rfl rfl rfl ?_ | refine rn_appO rfl rfl (by first | exact List.length_map _ | exact (List.length_map _).symm | exact List.length_replicate | rfl | (simp; done) | omega | (simp; omega)) rfl rfl rfl (by decide) (by first | exact SrcR.own rfl rfl (by decide) (by first | exact List.length_map _ | exact (List.length_map _).symm | exact List.length_replicate | rfl | (simp; done) | omega | (simp; omega)) | exact SrcR.list rfl | exact SrcR.nil rfl | exact SrcR.part rfl rfl (by decide)) (by first | omega | (simp; omega) | (simp; done)) (by first | omega | (simp; omega) | (simp; done)) rfl rfl rfl ?_ | refine rn_add rfl rfl (by omega) rfl rfl ?_))
      refine ⟨i + 1, by omega, by omega, ?_⟩
      rw [whereTo_succ, if_pos (show byProc key (nth l i) = true from h), List.map_append]
      exact (FLe.conv [⟨100, some 23, 1, ⟨0, .own, 3, 1, (whereTo (byProc key) l i).map intf ++ [(i : Int)].map intf⟩⟩] (by simp) (by simp) rfl (by repeat (first | exact GhOk.nil | refine GhOk.low rfl ?_ | refine GhOk.same rfl ?_ | refine GhOk.bump (Nat.lt_succ_self _) ?_)) (by repeat (first | exact EntsOk.nil | refine EntsOk.old rfl (by decide) (by first | rfl | (simp; done) | (congr 1; omega) | (simp; omega) | (simp [List.take_of_length_le]; done) | (refine congrArg (FV.int .i64) ?_; omega)) ?_)) (by repeat (first | exact SlC.nil | refine SlC.cons (.plain rfl rfl (by first | rfl | (simp; done) | (congr 1; omega) | (simp; omega) | (simp [List.take_of_length_le]; done) | (refine congrArg (FV.int .i64) ?_; omega))) ?_ | refine SlC.cons (.own rfl (.head _) rfl (by first | rfl | (simp; done) | (congr 1; omega) | (simp; omega) | (simp [List.take_of_length_le]; done) | (refine congrArg (FV.int .i64) ?_; omega))) ?_)))
    · (repeat (first | refine FW.region ?_ | refine FW.skip ?_ | refine RunN.nil ?_ | refine rn_assign rfl rfl rfl ?_ | refine rn_move rfl rfl rfl ?_ | refine rn_add rfl rfl (by omega) rfl rfl ?_))
      refine ⟨i + 1, by omega, by omega, ?_⟩
      rw [whereTo_succ, if_neg (by rw [show byProc key (nth l i) = false from h]; decide), List.append_nil]
      exact (FLe.conv [⟨100, some 100, 0, ⟨0, .own, 3, 1, (whereTo (byProc key) l i).map intf⟩⟩] (by simp) (by simp) rfl (by repeat (first | exact GhOk.nil | refine GhOk.low rfl ?_ | refine GhOk.same rfl ?_ | refine GhOk.bump (Nat.lt_succ_self _) ?_)) (by repeat (first | exact EntsOk.nil | refine EntsOk.old rfl (by decide) (by first | rfl | (simp; done) | (congr 1; omega) | (simp; omega) | (simp [List.take_of_length_le]; done) | (refine congrArg (FV.int .i64) ?_; omega)) ?_)) (by repeat (first | exact SlC.nil | refine SlC.cons (.plain rfl rfl (by first | rfl | (simp; done) | (congr 1; omega) | (simp; omega) | (simp [List.take_of_length_le]; done) | (refine congrArg (FV.int .i64) ?_; omega))) ?_ | refine SlC.cons (.own rfl (.head _) rfl (by first | rfl | (simp; done) | (congr 1; omega) | (simp; omega) | (simp [List.take_of_length_le]; done) | (refine congrArg (FV.int .i64) ?_; omega))) ?_)))
  · have : i = l.length := by simp at h; omega
    subst this
    (repeat (first | refine FW.seq ?_ | refine FW.region ?_ | refine FW.exit ?_ | refine RunN.nil ?_ | refine rn_assign rfl rfl rfl ?_ | refine rn_move rfl rfl rfl ?_))
    exact FW.ret ⟨.inl rfl, ret_ow rfl rfl rfl (by simp) (by decide) rfl (intT.flatsM _)⟩
end Go.Proofs.Ytflkbehbenlhaaa
/-
  Before, of whatever numbers, at plain values.
-/
namespace Go.Proofs.Ytflkbehbenlhaaa
set_option linter.unusedVariables false
open Go.RowKit

def befI (l : List OpV) (i k : Int) : Bool := if 0 ≤ i ∧ 0 ≤ k ∧ i < l.length ∧ k < l.length then bef l i.toNat k.toNat else false
theorem befI_out {l : List OpV} {i k : Int} (h : ¬ (0 ≤ i ∧ 0 ≤ k ∧ i < l.length ∧ k < l.length)) : befI l i k = false := by unfold befI; rw [if_neg h]
theorem befI_in {l : List OpV} {i k : Nat} (hi : i < l.length) (hk : k < l.length) : befI l i k = bef l i k := by
  unfold befI
  rw [if_pos (by omega)]
  rfl
set_option maxHeartbeats 2000000 in
theorem hBeforeI_spec (l : List OpV) (i k : Int) (hl : l.length ≤ 1000000000) : Spec Try.prog 19 [.list 8 (l.map OpV.fv), .int .i64 i, .int .i64 k] .fr (.bool (befI l i k)) := by
  by_cases hin : 0 ≤ i ∧ 0 ≤ k ∧ i < l.length ∧ k < l.length
  · obtain ⟨a, ha⟩ : ∃ a : Nat, i = a := ⟨i.toNat, by omega⟩
    obtain ⟨b, hb⟩ : ∃ b : Nat, k = b := ⟨k.toNat, by omega⟩
    subst ha; subst hb
    rw [befI_in (by omega) (by omega)]
    exact hBefore_spec l a b (by omega) (by omega)
  · rw [befI_out hin]
    refine Spec.of_body (c := (cxOf Try.prog tyAt_ok mixed_ok 37)) ⟨Try.func19, rfl, Try.ntmps19, by kernel_rfl⟩ (by simp [FV.hand]) (by exact Nat.le_of_ble_eq_true rfl) rfl ?_
    change FW _ _ _ ⟨[(0, .list 8 (l.map OpV.fv)), (1, .int .i64 i), (2, .int .i64 k)], []⟩
    (repeat (first | refine FW.seq ?_ | refine FW.region ?_ | refine RunN.nil ?_ | refine rn_assign rfl rfl rfl ?_ | refine rn_move rfl rfl rfl ?_ | refine rn_min rfl rfl rfl rfl ?_ | refine rn_lss rfl rfl rfl rfl ?_))
    refine rn_case (fun h => ?_) (fun h => ?_)
    · (repeat (first | refine FW.seq ?_ | refine FW.region ?_ | refine FW.condT rfl ?_ | refine RunN.nil ?_ | refine rn_assign rfl rfl rfl ?_ | refine rn_pickT rfl rfl rfl rfl ?_ | refine rn_skip rfl rfl ⟨_, _, rfl, rfl, rfl⟩ ?_))
      exact FW.ret ⟨.inl rfl, ret_flat rfl rfl rfl rfl⟩
    · (repeat (first | refine RunN.nil ?_ | refine rn_pickF rfl rfl rfl rfl ?_ | refine rn_move rfl rfl ⟨_, _, rfl, rfl, rfl⟩ ?_ | refine rn_max rfl rfl rfl ⟨_, _, rfl, rfl, rfl⟩ ?_ | refine rn_lenList rfl rfl (by first | exact List.length_map _ | exact (List.length_map _).symm | exact List.length_replicate | rfl | (simp; done) | omega | (simp; omega)) rfl ⟨_, _, rfl, rfl, rfl⟩ ?_ | refine rn_geq rfl rfl rfl ⟨_, _, rfl, rfl, rfl⟩ ?_))
      refine FW.cond rfl (fun h2 => ?_) (fun h2 => ?_)
      · (repeat (first | refine FW.seq ?_ | refine FW.region ?_ | refine RunN.nil ?_ | refine rn_assign rfl rfl rfl ?_))
        exact FW.ret ⟨.inl rfl, ret_flat rfl rfl rfl rfl⟩
      · exfalso
        simp at h h2
        exact hin (by omega)
set_option maxHeartbeats 2000000 in
theorem rBefore20_spec (l : List OpV) (i k : Int) (hl : l.length ≤ 1000000000) : Spec Try.prog 20 [.list 8 (l.map OpV.fv), .int .i64 i, .int .i64 k] .fr (.bool (befI l i k)) := by
  by_cases hin : 0 ≤ i ∧ 0 ≤ k ∧ i < l.length ∧ k < l.length
  · obtain ⟨a, ha⟩ : ∃ a : Nat, i = a := ⟨i.toNat, by omega⟩
    obtain ⟨b, hb⟩ : ∃ b : Nat, k = b := ⟨k.toNat, by omega⟩
    subst ha; subst hb
    rw [befI_in (by omega) (by omega)]
    have hal : a < l.length := by omega
    have hbl : b < l.length := by omega
    refine Spec.of_body (c := (cxOf Try.prog tyAt_ok mixed_ok 43)) ⟨Try.func20, rfl, Try.ntmps20, by kernel_rfl⟩ (by simp [FV.hand]) (by exact Nat.le_of_ble_eq_true rfl) rfl ?_
    change FW _ _ _ ⟨[(0, .list 8 (l.map OpV.fv)), (1, .int .i64 a), (2, .int .i64 b)], []⟩
    (repeat (first | refine FW.seq ?_ | refine FW.region ?_ | refine RunN.nil ?_ | refine rn_assign rfl rfl rfl ?_ | refine rn_move rfl rfl rfl ?_ | refine rn_lss rfl rfl rfl rfl ?_ | refine rn_pickF rfl rfl rfl rfl ?_ | refine rn_move rfl rfl ⟨_, _, rfl, rfl, rfl⟩ ?_ | refine rn_lss rfl rfl rfl ⟨_, _, rfl, rfl, rfl⟩ ?_ | refine rn_lenList rfl rfl (by first | exact List.length_map _ | exact (List.length_map _).symm | exact List.length_replicate | rfl | (simp; done) | omega | (simp; omega)) rfl ⟨_, _, rfl, rfl, rfl⟩ ?_ | refine rn_geq rfl rfl rfl ⟨_, _, rfl, rfl, rfl⟩ ?_))
    refine rn_case (fun h => absurd h (by simp; omega)) (fun _ => ?_)
    (repeat (first | refine RunN.nil ?_ | refine rn_pickF rfl rfl rfl rfl ?_ | refine rn_move rfl rfl ⟨_, _, rfl, rfl, rfl⟩ ?_ | refine rn_lenList rfl rfl (by first | exact List.length_map _ | exact (List.length_map _).symm | exact List.length_replicate | rfl | (simp; done) | omega | (simp; omega)) rfl ⟨_, _, rfl, rfl, rfl⟩ ?_ | refine rn_geq rfl rfl rfl ⟨_, _, rfl, rfl, rfl⟩ ?_))
    refine FW.cond rfl (fun h => absurd h (by simp; omega)) (fun _ => ?_)
    (repeat (first | refine FW.seq ?_ | refine FW.skip ?_ | refine FW.draw ?_ | refine rd_move rfl rfl rfl ?_ | refine rd_indexL rfl rfl (by first | rfl | exact (Int.toNat_of_nonneg (by omega)).symm) rfl rfl rfl (by first | omega | (simp; omega) | (simp; done)) rfl rfl ?_ | refine rd_fieldE rfl rfl rfl rfl rfl rfl rfl ?_ | refine rd_loadE rfl rfl rfl (by first | omega | (simp; omega) | (simp; done)) (by first | exact getD_map (by omega) | rfl) rfl rfl rfl rfl ?_))
    refine rd_case (fun h => ?_) (fun h => ?_)
    · (repeat (first | refine RunD.nil ?_ | refine rd_assign rfl rfl rfl ?_ | refine rd_pickT rfl rfl rfl rfl ?_ | refine rd_move rfl rfl ⟨_, _, rfl, rfl, rfl⟩ ?_ | refine rd_lss rfl rfl rfl ⟨_, _, rfl, rfl, rfl⟩ ?_ | refine rd_indexL rfl rfl (by first | rfl | exact (Int.toNat_of_nonneg (by omega)).symm) rfl rfl rfl (by first | omega | (simp; omega) | (simp; done)) rfl ⟨_, _, rfl, rfl, rfl⟩ ?_ | refine rd_fieldE rfl rfl rfl rfl rfl rfl ⟨_, _, rfl, rfl, rfl⟩ ?_ | refine rd_loadE rfl rfl rfl (by first | omega | (simp; omega) | (simp; done)) (by first | exact getD_map (by omega) | rfl) rfl rfl rfl ⟨_, _, rfl, rfl, rfl⟩ ?_))
      refine ⟨by kernel_rfl, ?_⟩
      skip
      refine FW.ret ⟨.inl rfl, ret_flat rfl rfl ?_ rfl⟩
      simp [bef, h]; rfl
    · (repeat (first | refine RunD.nil ?_ | refine rd_assign rfl rfl rfl ?_ | refine rd_pickF rfl rfl rfl rfl ?_ | refine rd_skip rfl rfl ⟨_, _, rfl, rfl, rfl⟩ ?_))
      refine ⟨by kernel_rfl, ?_⟩
      skip
      refine FW.ret ⟨.inl rfl, ret_flat rfl rfl ?_ rfl⟩
      simp [bef, h]; rfl
  · rw [befI_out hin]
    refine Spec.of_body (c := (cxOf Try.prog tyAt_ok mixed_ok 43)) ⟨Try.func20, rfl, Try.ntmps20, by kernel_rfl⟩ (by simp [FV.hand]) (by exact Nat.le_of_ble_eq_true rfl) rfl ?_
    change FW _ _ _ ⟨[(0, .list 8 (l.map OpV.fv)), (1, .int .i64 i), (2, .int .i64 k)], []⟩
    (repeat (first | refine FW.seq ?_ | refine FW.region ?_ | refine RunN.nil ?_ | refine rn_assign rfl rfl rfl ?_ | refine rn_move rfl rfl rfl ?_ | refine rn_lss rfl rfl rfl rfl ?_))
    refine rn_case (fun h => ?_) (fun h1 => ?_)
    · (repeat (first | refine FW.seq ?_ | refine FW.region ?_ | refine FW.condT rfl ?_ | refine RunN.nil ?_ | refine rn_assign rfl rfl rfl ?_ | refine rn_move rfl rfl rfl ?_ | refine rn_pickT rfl rfl rfl rfl ?_ | refine rn_skip rfl rfl ⟨_, _, rfl, rfl, rfl⟩ ?_))
      exact FW.ret ⟨.inl rfl, ret_flat rfl rfl rfl rfl⟩
    · (repeat (first | refine rn_move rfl rfl rfl ?_ | refine rn_pickF rfl rfl rfl rfl ?_ | refine rn_move rfl rfl ⟨_, _, rfl, rfl, rfl⟩ ?_ | refine rn_lss rfl rfl rfl ⟨_, _, rfl, rfl, rfl⟩ ?_))
      refine rn_case (fun h => ?_) (fun h2 => ?_)
      · (repeat (first | refine FW.seq ?_ | refine FW.region ?_ | refine FW.condT rfl ?_ | refine RunN.nil ?_ | refine rn_assign rfl rfl rfl ?_ | refine rn_move rfl rfl rfl ?_ | refine rn_pickT rfl rfl rfl rfl ?_ | refine rn_skip rfl rfl ⟨_, _, rfl, rfl, rfl⟩ ?_))
        exact FW.ret ⟨.inl rfl, ret_flat rfl rfl rfl rfl⟩
      · (repeat (first | refine rn_move rfl rfl rfl ?_ | refine rn_pickF rfl rfl rfl rfl ?_ | refine rn_move rfl rfl ⟨_, _, rfl, rfl, rfl⟩ ?_ | refine rn_lenList rfl rfl (by first | exact List.length_map _ | exact (List.length_map _).symm | exact List.length_replicate | rfl | (simp; done) | omega | (simp; omega)) rfl ⟨_, _, rfl, rfl, rfl⟩ ?_ | refine rn_geq rfl rfl rfl ⟨_, _, rfl, rfl, rfl⟩ ?_))
        refine rn_case (fun h => ?_) (fun h3 => ?_)
        · (repeat (first | refine FW.seq ?_ | refine FW.region ?_ | refine FW.condT rfl ?_ | refine RunN.nil ?_ | refine rn_assign rfl rfl rfl ?_ | refine rn_pickT rfl rfl rfl rfl ?_ | refine rn_skip rfl rfl ⟨_, _, rfl, rfl, rfl⟩ ?_))
          exact FW.ret ⟨.inl rfl, ret_flat rfl rfl rfl rfl⟩
        · (repeat (first | refine RunN.nil ?_ | refine rn_pickF rfl rfl rfl rfl ?_ | refine rn_move rfl rfl ⟨_, _, rfl, rfl, rfl⟩ ?_ | refine rn_lenList rfl rfl (by first | exact List.length_map _ | exact (List.length_map _).symm | exact List.length_replicate | rfl | (simp; done) | omega | (simp; omega)) rfl ⟨_, _, rfl, rfl, rfl⟩ ?_ | refine rn_geq rfl rfl rfl ⟨_, _, rfl, rfl, rfl⟩ ?_))
          refine FW.cond rfl (fun h => ?_) (fun h4 => ?_)
          · (repeat (first | refine FW.seq ?_ | refine FW.region ?_ | refine RunN.nil ?_ | refine rn_assign rfl rfl rfl ?_))
            exact FW.ret ⟨.inl rfl, ret_flat rfl rfl rfl rfl⟩
          · exfalso
            simp at h1 h2 h3 h4
            exact hin (by omega)
end Go.Proofs.Ytflkbehbenlhaaa
