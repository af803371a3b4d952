/-
  The examples of layer 22; edges compared.
-/
import Derived.Test.YtfegkbmnclhljaaZFmSer5
import Derived.Test.YtfegkbmnclhljaaZG
import Derived.Test.YtfegkbmnclhljaaZFmX
namespace Go.Proofs.Ytfegkbmnclhljaa
set_option linter.unusedVariables false
open Go.RowKit

theorem eqAgg_ed (x y : EdV) : EqAgg Try.prog 43 x.fv y.fv (decide (x = y)) := by
  refine ⟨by kernel_rfl, fun w => ?_⟩
  obtain ⟨a1, a2, a3⟩ := x
  obtain ⟨b1, b2, b3⟩ := y
  show (Op.equalIn 10000 43 (.agg #[.int .i64 a1, .int .i64 a2, .int .i64 a3]) (.agg #[.int .i64 b1, .int .i64 b2, .int .i64 b3])).run Try.prog w = _
  have hS : Try.prog.underlying 43 = some (.struct (Try.prog.fieldsOf 43)) := by kernel_rfl
  have hp : Try.prog.stoodInHeld 43 = false := by kernel_rfl
  rw [show (10000 : Nat) = 9999 + 1 from rfl, run_equalIn_agg w 9999 43 _ _ hS hp]
  simp only [Program.fieldsOf, Try.underlying43]
  simp [go_sem]
  by_cases h1 : a1 = b1
  · by_cases h2 : a2 = b2
    · by_cases h3 : a3 = b3 <;> simp [h1, h2, h3]
    · simp [h1, h2]; omega
  · simp [h1]; omega
def lv22 (r : Int) : List OpV := [⟨0, 2, 0, 1, 0, 0, 1, true⟩, ⟨0, 2, 0, 2, r, 2, 3, true⟩]
theorem ex22a : resV (lv22 0) false = ⟨3, 5, 0, [], [(0, 1, 4), (1, 0, 4)]⟩ := by decide +kernel
theorem ex22p : prs (edges22 (lv22 1) true) = [(0, 1), (0, 1)] := by decide +kernel
theorem ex22t : topoEnd 2 [(0, 1), (0, 1)] = [0, 1] := by
  have h := topo_eq (n := 2) (E := [(0, 1), (0, 1)]) (inN_of rfl)
  rw [show rtK [(0, 1), (0, 1)] 2 2 [] = some [0, 1] by decide +kernel] at h
  split at h
  · cases h
  · injection h with h; exact h.symm
theorem ex22b : resV (lv22 1) true = ⟨4, 0, 0, [0, 1], []⟩ := by
  have ho : ord22 (lv22 1) true = [0, 1] := by
    unfold ord22
    rw [ex22p, show (lv22 1).length = 2 from rfl, ex22t]
    decide +kernel
  unfold resV serV
  rw [if_pos (by decide +kernel), show thin22 (lv22 1) = none by decide +kernel, ho]
  rw [show cyc22 (lv22 1) true = [] by decide +kernel]
  rfl
theorem ex22c : resE (lv22 0) = 0 := by decide +kernel
theorem ex22d : resE (lv22 1) = 0 := by decide +kernel
set_option maxHeartbeats 4000000 in
theorem lives22_spec : Spec Try.prog 16 [] .fr (.bool true) := by
  have hA := sCheck_spec (lv22 0) false (by decide) (fun o ho => by simp only [lv22, List.mem_cons, List.not_mem_nil, or_false] at ho; rcases ho with rfl | rfl <;> (unfold OpIn I64; decide))
  have hB := sCheck_spec (lv22 1) true (by decide) (fun o ho => by simp only [lv22, List.mem_cons, List.not_mem_nil, or_false] at ho; rcases ho with rfl | rfl <;> (unfold OpIn I64; decide))
  rw [ex22a, ex22c] at hA
  rw [ex22b, ex22d] at hB
  change Spec _ _ [.list 8 [OpV.fv ⟨0, 2, 0, 1, 0, 0, 1, true⟩, OpV.fv ⟨0, 2, 0, 2, 0, 2, 3, true⟩], _] _ _ at hA
  refine Spec.of_body (c := (cxOf Try.prog tyAt_ok mixed_ok 64)) ⟨Try.func16, rfl, Try.ntmps16, by kernel_rfl⟩ (by simp [FV.hand]) (by exact Nat.le_of_ble_eq_true rfl) rfl ?_
  change FW _ _ _ ⟨[], []⟩
  (repeat (first | refine FW.seq ?_ | refine FW.region ?_ | refine RunN.nil ?_ | refine rn_assign rfl rfl rfl ?_ | refine rn_buildK rfl rfl rfl rfl ?_ | refine FillK.nil ?_ | refine FillK.one rfl rfl rfl rfl rfl ?_))
  refine rn_buildSF (es := [OpV.fv ⟨0, 2, 0, 1, 0, 0, 1, true⟩, OpV.fv ⟨0, 2, 0, 2, 0, 2, 3, true⟩]) rfl rfl rfl (by refine PtsS.agg rfl rfl rfl ?_; refine PtsS.agg rfl rfl rfl ?_; exact PtsS.nil) rfl rfl rfl rfl rfl rfl ?_
  (repeat (first | refine FW.seq ?_ | refine FW.region ?_ | refine RunN.nil ?_ | refine rn_assign rfl rfl rfl ?_ | refine rn_move rfl rfl rfl ?_))
  refine rn_callSA hA rfl rfl rfl rfl (by decide +kernel) (by decide +kernel) rfl rfl ?_
  (repeat (first | refine FW.seq ?_ | refine FW.region ?_ | refine RunN.nil ?_ | refine rn_assign rfl rfl rfl ?_ | refine rn_move rfl rfl rfl ?_ | refine rn_extract rfl rfl rfl rfl rfl ?_ | refine rn_alloc rfl rfl rfl rfl rfl rfl rfl ?_ | refine rn_storeVA rfl rfl rfl rfl rfl rfl rfl rfl rfl ?_ | refine rn_storeR rfl rfl rfl rfl rfl rfl (by first | omega | (simp; omega) | (simp; done)) (by first | exact getD_map (by omega) | rfl) rfl rfl rfl ?_ | refine rn_indexO rfl rfl (by first | rfl | exact (Int.toNat_of_nonneg (by omega)).symm) rfl rfl rfl (by decide) rfl (by first | omega | (simp; omega) | (simp; done)) rfl rfl ?_ | refine rn_fieldP rfl rfl rfl rfl rfl rfl (by decide) rfl rfl ?_))
  refine RunN.le ?_ (FLe.share 8 rfl rfl (by rfl))
  refine rn_callS hB (by repeat (first | exact ArgsR.nil | refine ArgsR.cons (by first | exact ArgR.plain rfl rfl | exact ArgR.own rfl rfl (by decide) (by first | exact (fun _ => rfl) | (intro h; cases h)) (by first | rfl | (simp; done) | (congr 1; omega) | (simp; omega) | (simp [List.take_of_length_le]; done) | (refine congrArg (FV.int .i64) ?_; omega))) ?_)) rfl rfl ?_
  (repeat (first | refine FW.seq ?_ | refine FW.region ?_ | refine FW.skip ?_ | refine FW.condF rfl ?_ | refine RunN.nil ?_ | refine rn_assign rfl rfl rfl ?_ | refine rn_move rfl rfl rfl ?_ | refine rn_extract rfl rfl rfl rfl rfl ?_ | refine rn_alloc rfl rfl rfl rfl rfl rfl rfl ?_ | refine rn_storeVA rfl rfl rfl rfl rfl rfl rfl rfl rfl ?_ | refine rn_fieldP rfl rfl rfl rfl rfl rfl (by decide) rfl rfl ?_ | refine rn_loadP rfl rfl rfl rfl rfl (by first | omega | (simp; omega) | (simp; done)) (by first | exact getD_map (by omega) | rfl) rfl rfl rfl rfl ?_ | refine rn_lenList rfl rfl (by first | exact List.length_map _ | exact (List.length_map _).symm | exact List.length_replicate | rfl | (simp; done) | omega | (simp; omega)) rfl rfl ?_ | refine rn_neq rfl rfl rfl rfl ?_ | refine rn_eql rfl rfl rfl rfl ?_ | refine rn_pickT rfl rfl rfl rfl ?_ | refine rn_fieldP rfl rfl rfl rfl rfl rfl (by decide) rfl ⟨_, _, rfl, rfl, rfl⟩ ?_ | refine rn_loadP rfl rfl rfl rfl rfl (by first | omega | (simp; omega) | (simp; done)) (by first | exact getD_map (by omega) | rfl) rfl rfl rfl ⟨_, _, rfl, rfl, rfl⟩ ?_ | refine rn_loadEA rfl rfl rfl (by decide) (by first | omega | (simp; omega) | (simp; done)) (by first | exact getD_map (by omega) | rfl) rfl rfl ⟨_, _, rfl, rfl, rfl⟩ ?_ | refine rn_eql rfl rfl rfl ⟨_, _, rfl, rfl, rfl⟩ ?_ | refine rn_indexL rfl rfl (by first | rfl | exact (Int.toNat_of_nonneg (by omega)).symm) rfl rfl rfl (by first | omega | (simp; omega) | (simp; done)) rfl ⟨_, _, rfl, rfl, rfl⟩ ?_ | refine rn_buildK rfl rfl rfl ⟨_, _, rfl, rfl, rfl⟩ ?_ | refine FillK.nil ?_ | refine FillK.one rfl rfl rfl rfl rfl ?_))
  refine rn_eqA rfl rfl rfl rfl (eqAgg_ed (0, 1, 4) (0, 1, 4)) rfl ⟨_, _, rfl, rfl, rfl⟩ ?_
  (repeat (first | refine rn_move rfl rfl rfl ?_ | refine rn_pickT rfl rfl rfl rfl ?_ | refine rn_fieldP rfl rfl rfl rfl rfl rfl (by decide) rfl ⟨_, _, rfl, rfl, rfl⟩ ?_ | refine rn_loadP rfl rfl rfl rfl rfl (by first | omega | (simp; omega) | (simp; done)) (by first | exact getD_map (by omega) | rfl) rfl rfl rfl ⟨_, _, rfl, rfl, rfl⟩ ?_ | refine rn_eql rfl rfl rfl ⟨_, _, rfl, rfl, rfl⟩ ?_ | refine rn_move rfl rfl ⟨_, _, rfl, rfl, rfl⟩ ?_))
  refine rn_buildS (es := [0, 1].map intf) rfl rfl rfl (by refine PtsS.int rfl rfl ?_; refine PtsS.int rfl rfl ?_; exact PtsS.nil) rfl rfl rfl rfl rfl ⟨_, _, rfl, rfl, rfl⟩ ?_
  refine rn_call (sameInts_spec [0, 1] [0, 1] (by decide) (by decide)) (by repeat (first | exact ArgsR.nil | refine ArgsR.cons (by first | exact ArgR.plain rfl rfl | exact ArgR.own rfl rfl (by decide) (by first | exact (fun _ => rfl) | (intro h; cases h)) (by first | rfl | (simp; done) | (congr 1; omega) | (simp; omega) | (simp [List.take_of_length_le]; done) | (refine congrArg (FV.int .i64) ?_; omega))) ?_)) rfl ⟨_, _, rfl, rfl, rfl⟩ ?_
  (repeat (first | refine RunN.nil ?_ | refine rn_assign rfl rfl rfl ?_ | refine rn_pickT rfl rfl rfl rfl ?_))
  exact FW.ret ⟨.inl rfl, ret_flat rfl rfl rfl rfl⟩
end Go.Proofs.Ytfegkbmnclhljaa
