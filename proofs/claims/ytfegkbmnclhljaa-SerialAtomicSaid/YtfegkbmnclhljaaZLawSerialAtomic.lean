/-
  simprooflaw22.SerialAtomic answers true for every input (walked on plain values).
-/
import Derived.Test.YtfegkbmnclhljaaZFmSer7
namespace Go.Proofs.Ytfegkbmnclhljaa
set_option linter.unusedVariables false
open Go.RowKit

def doneTo (H : List OpV) (i : Nat) : Nat := ((H.take i).filter (·.done)).length
set_option maxHeartbeats 4000000 in
theorem serialAtomic_spec (l : List Int) (hl : ∀ x ∈ l, I64 x) (hlen : l.length ≤ 9223372036854775807) : Spec Try.prog 8 [.list 1 (l.map intf)] .fr (.bool true) := by
  have hH := histS_spec 12 false l (by decide) hl hlen
  have hin := histS_in (f := false) (l := l) (by decide : 12 ≤ 12)
  have hHl := histS_len (f := false) (l := l) (by decide : 12 ≤ 12)
  have hnf := (histS_nf (l := l) (by decide : 12 ≤ 12)).1
  have hok := histS_holds (l := l) (by decide : 12 ≤ 12)
  refine Spec.of_body (c := (cxOf Try.prog tyAt_ok mixed_ok 56)) ⟨Try.func8, rfl, Try.ntmps8, by kernel_rfl⟩ (by simp [FV.hand]) (by exact Nat.le_of_ble_eq_true rfl) rfl ?_
  change FW _ _ _ ⟨[(0, .list 1 (l.map intf))], []⟩
  (repeat (first | refine FW.seq ?_ | refine FW.region ?_ | refine RunN.nil ?_ | refine rn_assign rfl rfl rfl ?_ | refine rn_move rfl rfl rfl ?_))
  refine rn_callO hH (by repeat (first | exact ArgsR.nil | refine ArgsR.cons (by first | exact ArgR.plain rfl rfl) ?_)) (List.length_map _) rfl rfl rfl ?_
  refine RunN.le ?_ (FLe.share 10 rfl rfl (by rw [List.length_map]))
  generalize histS 12 false l = H at hH hin hHl hnf hok
  have hdone := cntI_done hnf
  have hall : doneTo H H.length = cntI H := by unfold doneTo; rw [hdone, List.take_length, List.countP_eq_length_filter]
  (repeat (first | refine FW.seq ?_ | refine FW.region ?_ | refine FW.block ?_ | refine RunN.nil ?_ | refine rn_assign rfl rfl rfl ?_))
  refine FW.loop (fun i : Nat => ⟨[(3, .list 8 (H.map OpV.fv)), (4, .int .i64 (doneTo H i)), (5, .int .i64 i)], []⟩) (fun i => i ≤ H.length) (fun i => H.length - i) 0 (Nat.zero_le _) ?_ ?_
  · show FLe _ ⟨[(3, .list 8 (H.map OpV.fv)), (4, .int .i64 0), (5, .int .i64 0)], []⟩
    exact (FLe.conv [] (by simp) (by simp) rfl (by repeat (first | exact GhOk.nil | refine GhOk.low rfl ?_ | refine GhOk.same rfl ?_ | refine GhOk.bump (Nat.lt_succ_self _) ?_)) (by repeat (first | exact EntsOk.nil)) (by repeat (first | exact SlC.nil | refine SlC.cons (.plain rfl rfl (by first | rfl | (simp; done) | (congr 1; omega) | (simp; omega) | (simp [List.take_of_length_le]; done) | (refine congrArg (FV.int .i64) ?_; omega))) ?_)))
  intro i hi
  (repeat (first | refine FW.seq ?_ | refine FW.region ?_ | refine RunN.nil ?_ | refine rn_move rfl rfl rfl ?_ | refine rn_lenList rfl rfl (by first | exact List.length_map _ | exact (List.length_map _).symm | exact List.length_replicate | rfl | (simp; done) | omega | (simp; omega)) rfl rfl ?_ | refine rn_lss rfl rfl rfl rfl ?_))
  refine FW.cond rfl (fun hc => ?_) (fun hc => ?_)
  · have hlt : i < H.length := by simpa using hc
    have hst := filter_step (fun o : OpV => o.done) hlt
    have hle : doneTo H i ≤ H.length := by unfold doneTo; exact Nat.le_trans (List.length_filter_le _ _) (by simp; omega)
    change doneTo H (i + 1) = doneTo H i + _ at hst
    (repeat (first | refine FW.seq ?_ | refine FW.region ?_ | refine FW.block ?_ | refine FW.skip ?_ | refine RunN.nil ?_ | refine rn_move rfl rfl rfl ?_ | refine rn_indexL rfl rfl (by first | rfl | exact (Int.toNat_of_nonneg (by omega)).symm) rfl rfl rfl (by first | omega | (simp; omega) | (simp; done)) rfl rfl ?_ | refine rn_fieldE rfl rfl rfl rfl rfl rfl rfl ?_ | refine rn_loadE rfl rfl rfl (by first | omega | (simp; omega) | (simp; done)) (by first | exact getD_map (by omega) | rfl) rfl rfl rfl rfl ?_))
    cases hd : (nth H i).done with
    | true =>
      rw [hd, if_pos rfl] at hst
      (repeat (first | refine FW.region ?_ | refine FW.condT rfl ?_ | refine RunN.nil ?_ | refine rn_assign rfl rfl rfl ?_ | refine rn_move rfl rfl rfl ?_ | refine rn_add rfl rfl (by omega) rfl rfl ?_))
      refine ⟨i + 1, by omega, by omega, ?_⟩
      rw [hst]
      exact (FLe.conv [] (by simp) (by simp) rfl (by repeat (first | exact GhOk.nil | refine GhOk.low rfl ?_ | refine GhOk.same rfl ?_ | refine GhOk.bump (Nat.lt_succ_self _) ?_)) (by repeat (first | exact EntsOk.nil)) (by repeat (first | exact SlC.nil | refine SlC.cons (.plain rfl rfl (by first | rfl | (simp; done) | (congr 1; omega) | (simp; omega) | (simp [List.take_of_length_le]; done) | (refine congrArg (FV.int .i64) ?_; omega))) ?_)))
    | false =>
      rw [hd, if_neg (by decide)] at hst
      (repeat (first | refine FW.region ?_ | refine FW.skip ?_ | refine FW.condF rfl ?_ | refine RunN.nil ?_ | refine rn_assign rfl rfl rfl ?_ | refine rn_move rfl rfl rfl ?_ | refine rn_add rfl rfl (by omega) rfl rfl ?_))
      refine ⟨i + 1, by omega, by omega, ?_⟩
      rw [hst]
      exact (FLe.conv [] (by simp) (by simp) rfl (by repeat (first | exact GhOk.nil | refine GhOk.low rfl ?_ | refine GhOk.same rfl ?_ | refine GhOk.bump (Nat.lt_succ_self _) ?_)) (by repeat (first | exact EntsOk.nil)) (by repeat (first | exact SlC.nil | refine SlC.cons (.plain rfl rfl (by first | rfl | (simp; done) | (congr 1; omega) | (simp; omega) | (simp [List.take_of_length_le]; done) | (refine congrArg (FV.int .i64) ?_; omega))) ?_)))
  · obtain rfl : i = H.length := by simp at hc; omega
    rw [hall]
    obtain ⟨N, hN⟩ : ∃ N, cntI H = N := ⟨_, rfl⟩
    (repeat (first | refine FW.seq ?_ | refine FW.region ?_ | refine FW.block ?_ | refine FW.exit ?_ | refine RunN.nil ?_ | refine rn_assign rfl rfl rfl ?_))
    rw [hN]
    refine FW.loop (fun j : Nat => ⟨[(3, .list 8 (H.map OpV.fv)), (4, .int .i64 N), (6, .int .i64 j)], []⟩) (fun j => j ≤ 2) (fun j => 2 - j) 0 (Nat.zero_le _) ?_ ?_
    · show FLe _ ⟨[(3, .list 8 (H.map OpV.fv)), (4, .int .i64 N), (6, .int .i64 0)], []⟩
      exact (FLe.conv [] (by simp) (by simp) rfl (by repeat (first | exact GhOk.nil | refine GhOk.low rfl ?_ | refine GhOk.same rfl ?_ | refine GhOk.bump (Nat.lt_succ_self _) ?_)) (by repeat (first | exact EntsOk.nil)) (by repeat (first | exact SlC.nil | refine SlC.cons (.plain rfl rfl (by first | rfl | (simp; done) | (congr 1; omega) | (simp; omega) | (simp [List.take_of_length_le]; done) | (refine congrArg (FV.int .i64) ?_; omega))) ?_)))
    intro j hj
    have hsc := fun s => sCheck_dom s (by omega) hin hnf
    (repeat (first | refine FW.seq ?_ | refine FW.region ?_ | refine RunN.nil ?_ | refine rn_move rfl rfl rfl ?_ | refine rn_lss rfl rfl rfl rfl ?_))
    refine FW.cond rfl (fun hc => ?_) (fun hc => ?_)
    · have hlt : j < 2 := by simp at hc; omega
      obtain ⟨s, hs⟩ : ∃ s, decide ((j : Int) = 1) = s := ⟨_, rfl⟩
      have hsc := hsc s
      have hlen := serV_len hnf (hok s)
      rw [serV_ok (hok s)] at hsc
      rw [hN] at hlen
      (repeat (first | refine FW.seq ?_ | refine FW.region ?_ | refine FW.block ?_ | refine FW.skip ?_ | refine rn_move rfl rfl rfl ?_ | refine rn_eql rfl rfl rfl rfl ?_))
      rw [hs]
      refine rn_callS hsc (by repeat (first | exact ArgsR.nil | refine ArgsR.cons (by first | exact ArgR.plain rfl rfl) ?_)) rfl rfl ?_
      generalize ord22 H s = R at hlen hsc
      (repeat (first | refine FW.seq ?_ | refine FW.region ?_ | refine RunN.nil ?_ | refine rn_assign rfl rfl rfl ?_ | refine rn_move rfl rfl rfl ?_ | refine rn_extract rfl rfl rfl rfl rfl ?_ | refine rn_alloc rfl rfl rfl rfl rfl rfl rfl ?_ | refine rn_storeVA rfl rfl rfl rfl rfl rfl rfl rfl rfl ?_ | refine rn_neq rfl rfl rfl rfl ?_ | refine rn_pickF rfl rfl rfl rfl ?_ | refine rn_fieldP rfl rfl rfl rfl rfl rfl (by decide) rfl ⟨_, _, rfl, rfl, rfl⟩ ?_ | refine rn_loadP rfl rfl rfl rfl rfl (by first | omega | (simp; omega) | (simp; done)) (by first | exact getD_map (by omega) | rfl) rfl rfl rfl ⟨_, _, rfl, rfl, rfl⟩ ?_ | refine rn_neq rfl rfl rfl ⟨_, _, rfl, rfl, rfl⟩ ?_ | refine rn_lenList rfl rfl (by first | exact List.length_map _ | exact (List.length_map _).symm | exact List.length_replicate | rfl | (simp; done) | omega | (simp; omega)) rfl ⟨_, _, rfl, rfl, rfl⟩ ?_ | refine rn_move rfl rfl ⟨_, _, rfl, rfl, rfl⟩ ?_))
      refine FW.cond rfl (fun hq => absurd hq (by simp; omega)) (fun _ => ?_)
      (repeat (first | refine FW.region ?_ | refine FW.skip ?_ | refine RunN.nil ?_ | refine rn_assign rfl rfl rfl ?_ | refine rn_move rfl rfl rfl ?_ | refine rn_add rfl rfl (by omega) rfl rfl ?_))
      refine ⟨j + 1, by omega, by omega, ?_⟩
      exact (FLe.conv [] (by simp) (by simp) rfl (by repeat (first | exact GhOk.nil | refine GhOk.low rfl ?_ | refine GhOk.same rfl ?_ | refine GhOk.bump (Nat.lt_succ_self _) ?_)) (by repeat (first | exact EntsOk.nil)) (by repeat (first | exact SlC.nil | refine SlC.cons (.plain rfl rfl (by first | rfl | (simp; done) | (congr 1; omega) | (simp; omega) | (simp [List.take_of_length_le]; done) | (refine congrArg (FV.int .i64) ?_; omega))) ?_)))
    · (repeat (first | refine FW.seq ?_ | refine FW.region ?_ | refine FW.exit ?_))
      refine rn_call lives22_spec (by repeat (first | exact ArgsR.nil)) rfl rfl ?_
      (repeat (first | refine RunN.nil ?_ | refine rn_assign rfl rfl rfl ?_))
      exact FW.ret ⟨.inl rfl, ret_flat rfl rfl rfl rfl⟩
end Go.Proofs.Ytfegkbmnclhljaa
