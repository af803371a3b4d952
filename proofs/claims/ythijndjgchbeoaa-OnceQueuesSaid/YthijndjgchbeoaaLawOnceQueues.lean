/-
  simprooflaw24.OnceQueues answers true for every input (walked on plain values).
-/
import Derived.Test.YthijndjgchbeoaaFmOnce13
namespace Go.Proofs.Ythijndjgchbeoaa
set_option linter.unusedVariables false
open Go.RowKit

set_option maxHeartbeats 8000000 in
theorem onceQueues_spec (l : List Int) (hl : ∀ x ∈ l, I64 x) (hlen : l.length ≤ 9223372036854775807) : Spec Try.prog 10 [.list 1 (l.map intf)] .fr (.bool true) := by
  have hf := histQ_fine true l
  have hB := histQ_spec true l hl hlen
  have hdom := histQ_dom l
  have honce := histQ_once l
  have hcnt : ∀ c : Nat, c < 2 → cntTo (delB c) (histQ true l) (histQ true l).length ≤ cntTo (pushB c) (histQ true l) (histQ true l).length := fun c hc => histQ_count l hc
  obtain ⟨h, hh⟩ : ∃ h, histQ true l = h := ⟨_, rfl⟩
  rw [hh] at hf hB hdom honce hcnt
  have hlen60 := hf.len
  have hin := hf.inn
  have hC := onceCheck_spec h (by omega) hin
  have hR := onceR_fine hf
  rw [if_pos hdom, honce] at hR
  rw [hR] at hC
  refine Spec.of_body (c := (cxOf Try.prog tyAt_ok mixed_ok 81)) ⟨Try.func10, rfl, Try.ntmps10, by kernel_rfl⟩ (by simp [FV.hand]) (by exact Nat.le_of_ble_eq_true rfl) rfl ?_
  change FW _ _ _ ⟨[(0, .list 1 (l.map intf))], []⟩
  (repeat (first | refine FW.seq ?_ | refine FW.region ?_ | refine RunN.nil ?_ | refine rn_assign rfl rfl rfl ?_ | refine rn_move rfl rfl rfl ?_))
  refine rn_callO hB (by repeat (first | exact ArgsR.nil | refine ArgsR.cons (by first | exact ArgR.plain rfl rfl) ?_)) (List.length_map _) rfl rfl rfl ?_
  refine RunN.le ?_ (FLe.share 11 rfl rfl (List.length_map _).symm)
  (repeat (first | refine FW.seq ?_ | refine FW.region ?_ | refine RunN.nil ?_ | refine rn_assign rfl rfl rfl ?_ | refine rn_move rfl rfl rfl ?_))
  refine rn_callS hC (by repeat (first | exact ArgsR.nil | refine ArgsR.cons (by first | exact ArgR.plain rfl rfl) ?_)) rfl rfl ?_
  (repeat (first | refine FW.seq ?_ | refine FW.region ?_ | refine FW.block ?_ | refine FW.skip ?_ | refine FW.condF rfl ?_ | refine RunN.nil ?_ | refine rn_assign rfl rfl rfl ?_ | refine rn_move rfl rfl rfl ?_ | refine rn_extract rfl rfl rfl rfl rfl ?_ | refine rn_alloc rfl rfl rfl rfl rfl rfl rfl ?_ | refine rn_storeVA rfl rfl rfl rfl rfl rfl rfl rfl rfl ?_ | refine rn_neq rfl rfl rfl rfl ?_ | refine rn_pickF rfl rfl rfl rfl ?_ | refine rn_fieldP rfl rfl rfl rfl rfl rfl (by decide) rfl ⟨_, _, rfl, rfl, rfl⟩ ?_ | refine rn_loadP rfl rfl rfl rfl rfl (by first | omega | (simp; omega) | (simp; done)) (by first | exact getD_map (by omega) | rfl) rfl rfl rfl ⟨_, _, rfl, rfl, rfl⟩ ?_ | refine rn_neq rfl rfl rfl ⟨_, _, rfl, rfl, rfl⟩ ?_ | refine rn_lenList rfl rfl (by first | exact List.length_map _ | exact (List.length_map _).symm | exact List.length_replicate | rfl | (simp; done) | omega | (simp; omega)) rfl ⟨_, _, rfl, rfl, rfl⟩ ?_ | refine rn_gtr rfl rfl rfl ⟨_, _, rfl, rfl, rfl⟩ ?_))
  refine FW.loop (fun c : Nat => ⟨[(3, .list 8 (h.map OpV.fv)), (6, .int .i64 c)], []⟩) (fun c => c ≤ 2) (fun c => 2 - c) 0 (Nat.zero_le _) (FLe.conv [] (by simp) (by simp) (by repeat (first | exact EntsOk.nil)) (by repeat (first | exact SlC.nil | refine SlC.cons (.plain rfl rfl (by first | rfl | (simp; done) | (congr 1; omega) | (simp; omega))) ?_))) ?_
  intro c hc
  (repeat (first | refine FW.seq ?_ | refine FW.region ?_ | refine RunN.nil ?_ | refine rn_move rfl rfl rfl ?_ | refine rn_lss rfl rfl rfl rfl ?_))
  refine FW.cond rfl (fun h1 => ?_) (fun h1 => ?_)
  · have hc2 : c < 2 := by simp at h1; omega
    clear h1
    (repeat (first | refine FW.seq ?_ | refine FW.region ?_ | refine FW.block ?_ | refine FW.skip ?_ | refine RunN.nil ?_ | refine rn_assign rfl rfl rfl ?_))
    refine FW.loop (fun i : Nat => ⟨[(3, .list 8 (h.map OpV.fv)), (6, .int .i64 c), (7, .int .i64 ((cntTo (pushB c) h i : Int) - (cntTo (delB c) h i : Int))), (8, .int .i64 i)], []⟩) (fun i => i ≤ h.length) (fun i => h.length - i) 0 (Nat.zero_le _) (FLe.conv [] (by simp) (by simp) (by repeat (first | exact EntsOk.nil)) (by repeat (first | exact SlC.nil | refine SlC.cons (.plain rfl rfl (by first | rfl | (simp; done) | (congr 1; omega) | (simp; omega))) ?_))) ?_
    intro i hi
    have hp1 := cntTo_le (pushB c) h i
    have hd1 := cntTo_le (delB c) h i
    (repeat (first | refine FW.seq ?_ | refine FW.region ?_ | refine RunN.nil ?_ | refine rn_move rfl rfl rfl ?_ | refine rn_lenList rfl rfl (by first | exact List.length_map _ | exact (List.length_map _).symm | exact List.length_replicate | rfl | (simp; done) | omega | (simp; omega)) rfl rfl ?_ | refine rn_lss rfl rfl rfl rfl ?_))
    refine FW.cond rfl (fun h2 => ?_) (fun h2 => ?_)
    · have hlt : i < h.length := by simpa using h2
      clear h2
      (repeat (first | refine FW.seq ?_ | refine FW.region ?_ | refine FW.block ?_ | refine FW.skip ?_ | refine rn_move rfl rfl rfl ?_ | refine rn_fieldE rfl rfl rfl rfl rfl rfl rfl ?_ | refine rn_loadE rfl rfl rfl (by first | omega | (simp; omega) | (simp; done)) (by first | exact getD_map (by omega) | rfl) rfl rfl rfl rfl ?_ | refine rn_indexL rfl rfl (by first | rfl | exact (Int.toNat_of_nonneg (by omega)).symm) rfl rfl rfl (by first | omega | (simp; omega) | (simp; done)) rfl rfl ?_ | refine rn_eql rfl rfl rfl rfl ?_))
      refine rn_case (fun q1 => ?_) (fun q1 => ?_)
      · (repeat (first | refine RunN.nil ?_ | refine rn_pickT rfl rfl rfl rfl ?_ | refine rn_fieldE rfl rfl rfl rfl rfl rfl ⟨_, _, rfl, rfl, rfl⟩ ?_ | refine rn_loadE rfl rfl rfl (by first | omega | (simp; omega) | (simp; done)) (by first | exact getD_map (by omega) | rfl) rfl rfl rfl ⟨_, _, rfl, rfl, rfl⟩ ?_ | refine rn_move rfl rfl ⟨_, _, rfl, rfl, rfl⟩ ?_ | refine rn_indexL rfl rfl (by first | rfl | exact (Int.toNat_of_nonneg (by omega)).symm) rfl rfl rfl (by first | omega | (simp; omega) | (simp; done)) rfl ⟨_, _, rfl, rfl, rfl⟩ ?_ | refine rn_eql rfl rfl rfl ⟨_, _, rfl, rfl, rfl⟩ ?_))
        refine FW.cond rfl (fun q2 => ?_) (fun q2 => ?_)
        · (repeat (first | refine FW.seq ?_ | refine FW.region ?_ | refine RunN.nil ?_ | refine rn_assign rfl rfl rfl ?_ | refine rn_move rfl rfl rfl ?_ | refine rn_add rfl rfl (by omega) rfl rfl ?_))
          refine rn_call (delivers24_spec h i hlt) (by repeat (first | exact ArgsR.nil | refine ArgsR.cons (by first | exact ArgR.plain rfl rfl) ?_)) rfl rfl ?_
          (repeat (first | refine FW.seq ?_ | refine FW.region ?_ | refine RunN.nil ?_ | refine rn_assign rfl rfl rfl ?_ | refine rn_move rfl rfl rfl ?_ | refine rn_fieldE rfl rfl rfl rfl rfl rfl rfl ?_ | refine rn_loadE rfl rfl rfl (by first | omega | (simp; omega) | (simp; done)) (by first | exact getD_map (by omega) | rfl) rfl rfl rfl rfl ?_ | refine rn_indexL rfl rfl (by first | rfl | exact (Int.toNat_of_nonneg (by omega)).symm) rfl rfl rfl (by first | omega | (simp; omega) | (simp; done)) rfl rfl ?_ | refine rn_eql rfl rfl rfl rfl ?_))
          refine rn_case (fun q3 => ?_) (fun q3 => absurd q1 (by rw [q3]; decide))
          (repeat (first | refine RunN.nil ?_ | refine rn_pickT rfl rfl rfl rfl ?_ | refine rn_move rfl rfl ⟨_, _, rfl, rfl, rfl⟩ ?_))
          refine FW.cond rfl (fun q4 => ?_) (fun q4 => ?_)
          · (repeat (first | refine FW.region ?_ | refine RunN.nil ?_ | refine rn_assign rfl rfl rfl ?_ | refine rn_move rfl rfl rfl ?_ | refine rn_add rfl rfl (by omega) rfl rfl ?_ | refine rn_sub rfl rfl (by omega) rfl rfl ?_))
            refine ⟨i + 1, by omega, by omega, ?_⟩
            rw [cntTo_succ, cntTo_succ, if_pos (by simp at q1 q2; simp [pushB, q1, q2]), if_pos (by simp at q1; simp [delB, q1, q4]), show ((cntTo (pushB c) h i + 1 : Nat) : Int) - ((cntTo (delB c) h i + 1 : Nat) : Int) = (cntTo (pushB c) h i : Int) - (cntTo (delB c) h i : Int) + 1 - 1 by omega]
            exact (FLe.conv [] (by simp) (by simp) (by repeat (first | exact EntsOk.nil)) (by repeat (first | exact SlC.nil | refine SlC.cons (.plain rfl rfl (by first | rfl | (simp; done) | (congr 1; omega) | (simp; omega))) ?_)))
          · (repeat (first | refine FW.region ?_ | refine FW.skip ?_ | refine RunN.nil ?_ | refine rn_assign rfl rfl rfl ?_ | refine rn_move rfl rfl rfl ?_ | refine rn_add rfl rfl (by omega) rfl rfl ?_))
            refine ⟨i + 1, by omega, by omega, ?_⟩
            rw [cntTo_succ, cntTo_succ, if_pos (by simp at q1 q2; simp [pushB, q1, q2]), if_neg (by simp [delB, q4]), show ((cntTo (pushB c) h i + 1 : Nat) : Int) - ((cntTo (delB c) h i + 0 : Nat) : Int) = (cntTo (pushB c) h i : Int) - (cntTo (delB c) h i : Int) + 1 by omega]
            exact (FLe.conv [] (by simp) (by simp) (by repeat (first | exact EntsOk.nil)) (by repeat (first | exact SlC.nil | refine SlC.cons (.plain rfl rfl (by first | rfl | (simp; done) | (congr 1; omega) | (simp; omega))) ?_)))
        · (repeat (first | refine FW.seq ?_ | refine FW.region ?_ | refine FW.skip ?_ | refine rn_move rfl rfl rfl ?_))
          refine rn_call (delivers24_spec h i hlt) (by repeat (first | exact ArgsR.nil | refine ArgsR.cons (by first | exact ArgR.plain rfl rfl) ?_)) rfl rfl ?_
          (repeat (first | refine FW.seq ?_ | refine FW.region ?_ | refine RunN.nil ?_ | refine rn_assign rfl rfl rfl ?_ | refine rn_move rfl rfl rfl ?_ | refine rn_fieldE rfl rfl rfl rfl rfl rfl rfl ?_ | refine rn_loadE rfl rfl rfl (by first | omega | (simp; omega) | (simp; done)) (by first | exact getD_map (by omega) | rfl) rfl rfl rfl rfl ?_ | refine rn_indexL rfl rfl (by first | rfl | exact (Int.toNat_of_nonneg (by omega)).symm) rfl rfl rfl (by first | omega | (simp; omega) | (simp; done)) rfl rfl ?_ | refine rn_eql rfl rfl rfl rfl ?_))
          refine rn_case (fun q3 => ?_) (fun q3 => absurd q1 (by rw [q3]; decide))
          (repeat (first | refine RunN.nil ?_ | refine rn_pickT rfl rfl rfl rfl ?_ | refine rn_move rfl rfl ⟨_, _, rfl, rfl, rfl⟩ ?_))
          refine FW.cond rfl (fun q4 => ?_) (fun q4 => ?_)
          · (repeat (first | refine FW.region ?_ | refine RunN.nil ?_ | refine rn_assign rfl rfl rfl ?_ | refine rn_move rfl rfl rfl ?_ | refine rn_add rfl rfl (by omega) rfl rfl ?_ | refine rn_sub rfl rfl (by omega) rfl rfl ?_))
            refine ⟨i + 1, by omega, by omega, ?_⟩
            rw [cntTo_succ, cntTo_succ, if_neg (by simp at q2; simp [pushB, q2]), if_pos (by simp at q1; simp [delB, q1, q4]), show ((cntTo (pushB c) h i + 0 : Nat) : Int) - ((cntTo (delB c) h i + 1 : Nat) : Int) = (cntTo (pushB c) h i : Int) - (cntTo (delB c) h i : Int) - 1 by omega]
            exact (FLe.conv [] (by simp) (by simp) (by repeat (first | exact EntsOk.nil)) (by repeat (first | exact SlC.nil | refine SlC.cons (.plain rfl rfl (by first | rfl | (simp; done) | (congr 1; omega) | (simp; omega))) ?_)))
          · (repeat (first | refine FW.region ?_ | refine FW.skip ?_ | refine RunN.nil ?_ | refine rn_assign rfl rfl rfl ?_ | refine rn_move rfl rfl rfl ?_ | refine rn_add rfl rfl (by omega) rfl rfl ?_))
            refine ⟨i + 1, by omega, by omega, ?_⟩
            rw [cntTo_succ, cntTo_succ, if_neg (by simp at q2; simp [pushB, q2]), if_neg (by simp [delB, q4]), show ((cntTo (pushB c) h i + 0 : Nat) : Int) - ((cntTo (delB c) h i + 0 : Nat) : Int) = (cntTo (pushB c) h i : Int) - (cntTo (delB c) h i : Int) by omega]
            exact (FLe.conv [] (by simp) (by simp) (by repeat (first | exact EntsOk.nil)) (by repeat (first | exact SlC.nil | refine SlC.cons (.plain rfl rfl (by first | rfl | (simp; done) | (congr 1; omega) | (simp; omega))) ?_)))
      · (repeat (first | refine FW.seq ?_ | refine FW.region ?_ | refine FW.skip ?_ | refine FW.condF rfl ?_ | refine RunN.nil ?_ | refine rn_move rfl rfl rfl ?_ | refine rn_pickF rfl rfl rfl rfl ?_ | refine rn_skip rfl rfl ⟨_, _, rfl, rfl, rfl⟩ ?_))
        refine rn_call (delivers24_spec h i hlt) (by repeat (first | exact ArgsR.nil | refine ArgsR.cons (by first | exact ArgR.plain rfl rfl) ?_)) rfl rfl ?_
        (repeat (first | refine FW.seq ?_ | refine FW.region ?_ | refine RunN.nil ?_ | refine rn_assign rfl rfl rfl ?_ | refine rn_move rfl rfl rfl ?_ | refine rn_fieldE rfl rfl rfl rfl rfl rfl rfl ?_ | refine rn_loadE rfl rfl rfl (by first | omega | (simp; omega) | (simp; done)) (by first | exact getD_map (by omega) | rfl) rfl rfl rfl rfl ?_ | refine rn_indexL rfl rfl (by first | rfl | exact (Int.toNat_of_nonneg (by omega)).symm) rfl rfl rfl (by first | omega | (simp; omega) | (simp; done)) rfl rfl ?_ | refine rn_eql rfl rfl rfl rfl ?_))
        refine rn_case (fun q3 => absurd q1 (by rw [q3]; decide)) (fun q3 => ?_)
        (repeat (first | refine FW.region ?_ | refine FW.skip ?_ | refine FW.condF rfl ?_ | refine RunN.nil ?_ | refine rn_assign rfl rfl rfl ?_ | refine rn_move rfl rfl rfl ?_ | refine rn_pickF rfl rfl rfl rfl ?_ | refine rn_add rfl rfl (by omega) rfl rfl ?_ | refine rn_skip rfl rfl ⟨_, _, rfl, rfl, rfl⟩ ?_))
        refine ⟨i + 1, by omega, by omega, ?_⟩
        rw [cntTo_succ, cntTo_succ, if_neg (by simp at q1; simp [pushB, q1]), if_neg (by simp at q1; simp [delB, q1]), show ((cntTo (pushB c) h i + 0 : Nat) : Int) - ((cntTo (delB c) h i + 0 : Nat) : Int) = (cntTo (pushB c) h i : Int) - (cntTo (delB c) h i : Int) by omega]
        exact (FLe.conv [] (by simp) (by simp) (by repeat (first | exact EntsOk.nil)) (by repeat (first | exact SlC.nil | refine SlC.cons (.plain rfl rfl (by first | rfl | (simp; done) | (congr 1; omega) | (simp; omega))) ?_)))
    · have : i = h.length := by simp at h2; omega
      subst this
      have hcc := hcnt c hc2
      (repeat (first | refine FW.seq ?_ | refine FW.region ?_ | refine FW.exit ?_ | refine RunN.nil ?_ | refine rn_move rfl rfl rfl ?_ | refine rn_lss rfl rfl rfl rfl ?_))
      refine FW.cond rfl (fun h4 => ?_) (fun h4 => ?_)
      · exfalso; simp at h4; omega
      · (repeat (first | refine FW.region ?_ | refine FW.skip ?_ | refine RunN.nil ?_ | refine rn_assign rfl rfl rfl ?_ | refine rn_move rfl rfl rfl ?_ | refine rn_add rfl rfl (by omega) rfl rfl ?_))
        exact ⟨c + 1, by omega, by omega, (FLe.conv [] (by simp) (by simp) (by repeat (first | exact EntsOk.nil)) (by repeat (first | exact SlC.nil | refine SlC.cons (.plain rfl rfl (by first | rfl | (simp; done) | (congr 1; omega) | (simp; omega))) ?_)))⟩
  · (repeat (first | refine FW.seq ?_ | refine FW.region ?_ | refine FW.exit ?_))
    refine rn_call lives_spec (by repeat (first | exact ArgsR.nil)) rfl rfl ?_
    (repeat (first | refine RunN.nil ?_ | refine rn_assign rfl rfl rfl ?_))
    refine FW.ret ⟨.inl rfl, ret_flat rfl rfl rfl rfl⟩
end Go.Proofs.Ythijndjgchbeoaa
