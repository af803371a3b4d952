/-
  bent and lives of layer 24, at plain values.
-/
import Derived.Test.YthijndjgchbeoaaFmHistQ
import Derived.Test.YthijndjgchbeoaaBentH
import Derived.Test.YthijndjgchbeoaaFmOnce6
import Derived.Test.YthijndjgchbeoaaFmOnce8
import Derived.Test.YthijndjgchbeoaaFmOnce10
namespace Go.Proofs.Ythijndjgchbeoaa
set_option linter.unusedVariables false
open Go.RowKit

theorem onceR_fine {q : Bool} {l : List OpV} (h : Fine q l) : onceR l = if dom24 l then (onceV l, 0) else (verZ, 22) := by
  unfold onceR
  rw [if_neg (by simp [h.wf.check])]

theorem onceV_len (l : List OpV) : (onceV l).order.length ≤ 2 := by
  rcases onceV_or l with ⟨_, h⟩ | ⟨k, _, h, _⟩
  · rw [h]; decide
  · unfold verAt at h
    split at h
    · cases h
    · split at h
      · injection h with h; rw [← h]; simp
      · split at h
        · injection h with h; rw [← h]; simp
        · split at h
          · injection h with h; rw [← h]; simp
          · cases h
set_option maxHeartbeats 4000000 in
theorem bent_spec (l : List Int) (a0 a1 a2 b0 b1 b2 : Int) (hl : ∀ x ∈ l, I64 x) (hlen : l.length ≤ 9223372036854775807) (i0 : I64 a0) (i1 : I64 a1) (i2 : I64 a2) (j0 : I64 b0) (j1 : I64 b1) (j2 : I64 b2) :
    Spec Try.prog 25 [.list 1 (l.map intf), .agg [.int .i64 a0, .int .i64 a1, .int .i64 a2], .agg [.int .i64 b0, .int .i64 b1, .int .i64 b2]] (.ow 33 8) (.list 8 ((bentH l a0 a1 a2 b0 b1 b2).map OpV.fv)) := by
  have hh := histQ_fine true l
  have hB := bent21_spec (histQ true l) a0 a1 a2 (by have := hh.len; omega) i0 i1 i2
  have hh1 := hh.bent a0 a1 a2
  have hC := bent21_spec (bent21 (histQ true l) a0 a1 a2) b0 b1 b2 (by have := hh1.len; omega) j0 j1 j2
  refine Spec.of_body (c := (cxOf Try.prog tyAt_ok mixed_ok 34)) ⟨Try.func25, rfl, Try.ntmps25, by kernel_rfl⟩ (by simp [FV.hand]) (by exact Nat.le_of_ble_eq_true rfl) rfl ?_
  change FW _ _ _ ⟨[(0, .list 1 (l.map intf)), (1, .agg [.int .i64 a0, .int .i64 a1, .int .i64 a2]), (2, .agg [.int .i64 b0, .int .i64 b1, .int .i64 b2])], []⟩
  (repeat (first | refine FW.seq ?_ | refine FW.region ?_ | refine RunN.nil ?_ | refine rn_boxA rfl rfl rfl rfl rfl rfl rfl ?_ | refine rn_assign rfl rfl rfl ?_ | refine rn_move rfl rfl rfl ?_))
  refine rn_callO (histQ_spec true l hl hlen) (by repeat (first | exact ArgsR.nil | refine ArgsR.cons (by first | exact ArgR.plain rfl rfl) ?_)) (List.length_map _) rfl rfl rfl ?_
  (repeat (first | refine FW.seq ?_ | refine FW.region ?_ | refine RunN.nil ?_ | refine rn_assign rfl rfl rfl ?_ | refine rn_indexAP rfl rfl (by first | rfl | exact (Int.toNat_of_nonneg (by omega)).symm) rfl rfl rfl rfl (by decide) (by first | omega | (simp; omega) | (simp; done)) rfl rfl ?_ | refine rn_loadP rfl rfl rfl rfl rfl (by first | omega | (simp; omega) | (simp; done)) (by first | exact getD_map (by omega) | rfl) rfl rfl rfl rfl ?_ | refine rn_lss rfl rfl rfl rfl ?_))
  refine FW.cond rfl (fun h => ?_) (fun h => ?_)
  · have h : a0 < 0 := by simpa using h
    (repeat (first | refine FW.seq ?_ | refine FW.region ?_ | refine RunN.nil ?_ | refine rn_assign rfl rfl rfl ?_ | refine rn_move rfl rfl rfl ?_))
    exact FW.ret ⟨.inl rfl, ret_ow rfl rfl rfl (by simp) (by decide) (by rw [bentH, if_pos h]) (opT.flatsM _)⟩
  · have h : ¬ a0 < 0 := by simpa using h
    (repeat (first | refine FW.seq ?_ | refine FW.region ?_ | refine FW.skip ?_ | refine rn_move rfl rfl rfl ?_ | refine rn_indexAP rfl rfl (by first | rfl | exact (Int.toNat_of_nonneg (by omega)).symm) rfl rfl rfl rfl (by decide) (by first | omega | (simp; omega) | (simp; done)) rfl rfl ?_ | refine rn_loadP rfl rfl rfl rfl rfl (by first | omega | (simp; omega) | (simp; done)) (by first | exact getD_map (by omega) | rfl) rfl rfl rfl rfl ?_))
    refine rn_callO hB (by repeat (first | exact ArgsR.nil | refine ArgsR.cons (by first | exact ArgR.plain rfl rfl | exact ArgR.own rfl rfl (by decide) (by first | exact (fun _ => rfl) | (intro h; cases h)) (by first | rfl | (simp; done) | (congr 1; omega) | (simp; omega))) ?_)) (List.length_map _) rfl rfl rfl ?_
    (repeat (first | refine FW.seq ?_ | refine FW.region ?_ | refine RunN.nil ?_ | refine rn_assign rfl rfl rfl ?_ | refine rn_indexAP rfl rfl (by first | rfl | exact (Int.toNat_of_nonneg (by omega)).symm) rfl rfl rfl rfl (by decide) (by first | omega | (simp; omega) | (simp; done)) rfl rfl ?_ | refine rn_loadP rfl rfl rfl rfl rfl (by first | omega | (simp; omega) | (simp; done)) (by first | exact getD_map (by omega) | rfl) rfl rfl rfl rfl ?_ | refine rn_lss rfl rfl rfl rfl ?_))
    refine FW.cond rfl (fun h2 => ?_) (fun h2 => ?_)
    · have h2 : b0 < 0 := by simpa using h2
      (repeat (first | refine FW.seq ?_ | refine FW.region ?_ | refine RunN.nil ?_ | refine rn_assign rfl rfl rfl ?_ | refine rn_move rfl rfl rfl ?_))
      exact FW.ret ⟨.inl rfl, ret_ow rfl rfl rfl (by simp) (by decide) (by rw [bentH, if_neg h, if_pos h2]) (opT.flatsM _)⟩
    · have h2 : ¬ b0 < 0 := by simpa using h2
      (repeat (first | refine FW.seq ?_ | refine FW.region ?_ | refine FW.skip ?_ | refine rn_move rfl rfl rfl ?_ | refine rn_indexAP rfl rfl (by first | rfl | exact (Int.toNat_of_nonneg (by omega)).symm) rfl rfl rfl rfl (by decide) (by first | omega | (simp; omega) | (simp; done)) rfl rfl ?_ | refine rn_loadP rfl rfl rfl rfl rfl (by first | omega | (simp; omega) | (simp; done)) (by first | exact getD_map (by omega) | rfl) rfl rfl rfl rfl ?_))
      refine rn_callO hC (by repeat (first | exact ArgsR.nil | refine ArgsR.cons (by first | exact ArgR.plain rfl rfl | exact ArgR.own rfl rfl (by decide) (by first | exact (fun _ => rfl) | (intro h; cases h)) (by first | rfl | (simp; done) | (congr 1; omega) | (simp; omega))) ?_)) (List.length_map _) rfl rfl rfl ?_
      (repeat (first | refine RunN.nil ?_ | refine rn_assign rfl rfl rfl ?_))
      exact FW.ret ⟨.inl rfl, ret_ow rfl rfl rfl (by simp) (by decide) (by rw [bentH, if_neg h, if_neg h2]) (opT.flatsM _)⟩

def livesL : List OpV := [⟨0, 3, 1, 5, 0, 0, 1, true⟩, ⟨0, 4, 1, 0, 5, 2, 3, true⟩, ⟨0, 4, 1, 0, 5, 4, 5, true⟩]
def livesP : List OpV := [⟨0, 4, 0, 0, 7, 0, 1, true⟩]
theorem livesL_R : onceR livesL = (⟨7, 11, 1, [1, 2]⟩, 0) := by decide +kernel
theorem livesP_R : onceR livesP = (⟨7, 12, 0, [0]⟩, 0) := by decide +kernel
theorem livesL_in : ∀ o ∈ livesL, OpIn o := by unfold livesL OpIn I64; simp
theorem livesP_in : ∀ o ∈ livesP, OpIn o := by unfold livesP OpIn I64; simp
theorem livesM_in : ∀ o ∈ livesL.take 1, OpIn o := fun o ho => livesL_in o (List.mem_of_mem_take ho)
theorem livesM : missTo (livesL.take 1) (livesL.take 1).length = [0] := by decide +kernel
set_option maxHeartbeats 4000000 in
theorem lives_spec : Spec Try.prog 29 [] .fr (.bool true) := by
  have c1 := onceCheck_spec livesL (by decide) livesL_in
  have c2 := onceCheck_spec livesP (by decide) livesP_in
  have c3 := missing_spec (livesL.take 1) (by decide) livesM_in
  rw [livesL_R] at c1
  rw [livesP_R] at c2
  rw [livesM] at c3
  have c3 : Spec (Try.prog) 31 [.list 8 (((livesL.map OpV.fv).drop 0).take 1)] (.ow 3 1) (.list 1 ([0].map intf)) := c3
  have s1 := sameInts_spec [1, 2] [1, 2] (by decide) (by decide)
  have s2 := sameInts_spec [0] [0] (by decide) (by decide)
  rw [decide_eq_true rfl] at s1 s2
  refine Spec.of_body (c := (cxOf Try.prog tyAt_ok mixed_ok 63)) ⟨Try.func29, rfl, Try.ntmps29, by kernel_rfl⟩ (by simp [FV.hand]) (by exact Nat.le_of_ble_eq_true rfl) rfl ?_
  change FW _ _ _ ⟨[], []⟩
  (repeat (first | refine FW.seq ?_ | refine FW.region ?_ | refine RunN.nil ?_ | refine rn_assign rfl rfl rfl ?_ | refine rn_buildK rfl rfl rfl rfl ?_ | refine FillK.nil ?_ | refine FillK.one rfl rfl rfl rfl rfl ?_))
  refine rn_buildSK rfl rfl rfl rfl rfl rfl rfl rfl rfl ?_
  (repeat (first | refine FW.seq ?_ | refine FW.region ?_ | refine RunN.nil ?_ | refine rn_assign rfl rfl rfl ?_ | refine rn_move rfl rfl rfl ?_ | refine PtsK.nil ?_ | refine PtsK.agg rfl rfl rfl ?_))
  refine RunN.le ?_ (FLe.share 11 rfl rfl rfl)
  refine rn_callS c1 (by repeat (first | exact ArgsR.nil | refine ArgsR.cons (by first | exact ArgR.plain rfl rfl) ?_)) rfl rfl ?_
  (repeat (first | refine FW.seq ?_ | refine FW.region ?_ | refine RunN.nil ?_ | refine rn_assign rfl rfl rfl ?_ | refine rn_buildK rfl rfl rfl rfl ?_ | refine rn_buildS1A rfl rfl rfl rfl rfl rfl rfl rfl rfl rfl ?_ | refine rn_move rfl rfl rfl ?_ | refine rn_extract rfl rfl rfl rfl rfl ?_ | refine rn_alloc rfl rfl rfl rfl rfl rfl rfl ?_ | refine rn_storeVA rfl rfl rfl rfl rfl rfl rfl rfl rfl ?_ | refine FillK.nil ?_ | refine FillK.one rfl rfl rfl rfl rfl ?_))
  refine RunN.le ?_ (FLe.share 17 rfl rfl rfl)
  refine rn_callS c2 (by repeat (first | exact ArgsR.nil | refine ArgsR.cons (by first | exact ArgR.plain rfl rfl) ?_)) rfl rfl ?_
  (repeat (first | refine FW.seq ?_ | refine FW.region ?_ | refine RunN.nil ?_ | refine rn_assign rfl rfl rfl ?_ | refine rn_move rfl rfl rfl ?_ | refine rn_extract rfl rfl rfl rfl rfl ?_ | refine rn_alloc rfl rfl rfl rfl rfl rfl rfl ?_ | refine rn_storeVA rfl rfl rfl rfl rfl rfl rfl rfl rfl ?_ | refine rn_eql rfl rfl rfl rfl ?_ | refine rn_pickT rfl rfl rfl rfl ?_ | refine rn_fieldP rfl rfl rfl rfl rfl rfl (by decide) rfl ⟨_, _, rfl, rfl, rfl⟩ ?_ | refine rn_loadP rfl rfl rfl rfl rfl (by first | omega | (simp; omega) | (simp; done)) (by first | exact getD_map (by omega) | rfl) rfl rfl rfl ⟨_, _, rfl, rfl, rfl⟩ ?_ | refine rn_eql rfl rfl rfl ⟨_, _, rfl, rfl, rfl⟩ ?_))
  refine rn_buildSK rfl rfl rfl rfl rfl rfl rfl rfl ⟨_, _, rfl, rfl, rfl⟩ ?_
  (repeat (first | refine PtsK.nil ?_ | refine PtsK.one rfl rfl rfl ?_))
  refine rn_call s1 (by repeat (first | exact ArgsR.nil | refine ArgsR.cons (by first | exact ArgR.plain rfl rfl | exact ArgR.own rfl rfl (by decide) (by first | exact (fun _ => rfl) | (intro h; cases h)) (by first | rfl | (simp; done) | (congr 1; omega) | (simp; omega))) ?_)) rfl ⟨_, _, rfl, rfl, rfl⟩ ?_
  (repeat (first | refine rn_move rfl rfl rfl ?_ | refine rn_pickT rfl rfl rfl rfl ?_ | refine rn_fieldP rfl rfl rfl rfl rfl rfl (by decide) rfl ⟨_, _, rfl, rfl, rfl⟩ ?_ | refine rn_loadP rfl rfl rfl rfl rfl (by first | omega | (simp; omega) | (simp; done)) (by first | exact getD_map (by omega) | rfl) rfl rfl rfl ⟨_, _, rfl, rfl, rfl⟩ ?_ | refine rn_eql rfl rfl rfl ⟨_, _, rfl, rfl, rfl⟩ ?_ | refine rn_buildS1 rfl rfl rfl rfl rfl rfl rfl ⟨_, _, rfl, rfl, rfl⟩ ?_ | refine rn_move rfl rfl ⟨_, _, rfl, rfl, rfl⟩ ?_))
  refine rn_call s2 (by repeat (first | exact ArgsR.nil | refine ArgsR.cons (by first | exact ArgR.plain rfl rfl | exact ArgR.own rfl rfl (by decide) (by first | exact (fun _ => rfl) | (intro h; cases h)) (by first | rfl | (simp; done) | (congr 1; omega) | (simp; omega))) ?_)) rfl ⟨_, _, rfl, rfl, rfl⟩ ?_
  (repeat (first | refine rn_move rfl rfl rfl ?_ | refine rn_pickT rfl rfl rfl rfl ?_ | refine rn_move rfl rfl ⟨_, _, rfl, rfl, rfl⟩ ?_ | refine rn_sliceO rfl rfl rfl rfl (by decide) rfl (by first | exact LoR.none | exact LoR.some rfl | exact LoR.lit rfl (by first | rfl | exact (Int.toNat_of_nonneg (by omega)).symm)) (by first | exact HiR.none | exact HiR.some rfl | exact HiR.lit rfl (by first | rfl | exact (Int.toNat_of_nonneg (by omega)).symm)) (by first | omega | (simp; omega) | (simp; done)) (by first | omega | (simp; omega) | (simp; done)) rfl ⟨_, _, rfl, rfl, rfl⟩ ?_))
  refine rn_callO c3 (by repeat (first | exact ArgsR.nil | refine ArgsR.cons (by first | exact ArgR.part rfl rfl (by decide) (by first | exact (fun _ => rfl) | (intro h; cases h))) ?_)) rfl rfl rfl ⟨_, _, rfl, rfl, rfl⟩ ?_
  (repeat (first | refine rn_buildS1 rfl rfl rfl rfl rfl rfl rfl ⟨_, _, rfl, rfl, rfl⟩ ?_))
  refine rn_call s2 (by repeat (first | exact ArgsR.nil | refine ArgsR.cons (by first | exact ArgR.own rfl rfl (by decide) (by first | exact (fun _ => rfl) | (intro h; cases h)) (by first | rfl | (simp; done) | (congr 1; omega) | (simp; omega))) ?_)) rfl ⟨_, _, rfl, rfl, rfl⟩ ?_
  (repeat (first | refine RunN.nil ?_ | refine rn_assign rfl rfl rfl ?_ | refine rn_pickT rfl rfl rfl rfl ?_))
  exact FW.ret ⟨.inl rfl, ret_flat rfl rfl rfl rfl⟩
end Go.Proofs.Ythijndjgchbeoaa
