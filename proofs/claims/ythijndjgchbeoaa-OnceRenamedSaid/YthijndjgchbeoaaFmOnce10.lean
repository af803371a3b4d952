/-
  Functions of layer 24, at plain values: simproofref24.Check.
-/
import Derived.Test.YthijndjgchbeoaaFmOnce9
namespace Go.Proofs.Ythijndjgchbeoaa
set_option linter.unusedVariables false
open Go.RowKit

set_option maxHeartbeats 8000000 in
theorem refCheck_fx (l : List OpV) (hl : l.length ≤ 1000000000) : Spec Try.prog 30 [.list 8 (l.map OpV.fv)] .sh (.agg (onceV l).fx) := by
  refine Spec.of_body (c := (cxOf Try.prog tyAt_ok mixed_ok 71)) ⟨Try.func30, rfl, Try.ntmps30, by kernel_rfl⟩ (by simp [FV.hand]) (by exact Nat.le_of_ble_eq_true rfl) rfl ?_
  change FW _ _ _ ⟨[(0, .list 8 (l.map OpV.fv))], []⟩
  (repeat (first | refine FW.seq ?_ | refine FW.region ?_ | refine FW.block ?_ | refine RunN.nil ?_ | refine rn_alloc rfl rfl rfl rfl rfl rfl rfl ?_ | refine rn_buildK rfl rfl rfl rfl ?_ | refine rn_storeVA rfl rfl rfl rfl rfl rfl rfl rfl rfl ?_ | refine rn_assign rfl rfl rfl ?_ | refine FillK.nil ?_ | refine FillK.one rfl rfl rfl rfl rfl ?_))
  refine FW.loop (fun q : Nat × Int => ⟨[(0, .list 8 (l.map OpV.fv)), (2, .ptr 100 0 0 0), (3, .ptr 101 0 0 0), (4, .int .i64 q.1)], [(100, ⟨0, .own, 52, 5, [[.int .i64 0, .int .i64 0, .int .i64 0, .nil, .nil]]⟩), (101, ⟨0, .own, 52, 5, [[.int .i64 7, .int .i64 0, .int .i64 q.2, .nil, .nil]]⟩)]⟩) (fun q => q.1 ≤ l.length ∧ verFrom l q.1 (l.length - q.1) = onceV l) (fun q => l.length - q.1) (0, 0) ⟨Nat.zero_le _, rfl⟩
    (FLe.conv [⟨100, some 2, 1, ⟨0, .own, 52, 5, [[.int .i64 0, .int .i64 0, .int .i64 0, .nil, .nil]]⟩⟩, ⟨101, some 3, 1, ⟨0, .own, 52, 5, [[.int .i64 7, .int .i64 0, .int .i64 0, .nil, .nil]]⟩⟩] (by simp) (by simp) (by repeat (first | exact EntsOk.nil | refine EntsOk.old rfl (by decide) (by first | rfl | (simp; done) | (congr 1; omega) | (simp; omega)) ?_)) (by repeat (first | exact SlC.nil | refine SlC.cons (.plain rfl rfl (by first | rfl | (simp; done) | (congr 1; omega) | (simp; omega))) ?_ | refine SlC.cons (.ptr rfl (.head _) rfl) ?_ | refine SlC.cons (.ptr rfl (.tail _ (.head _)) rfl) ?_))) ?_
  rintro ⟨i, x⟩ ⟨hi, hv⟩
  dsimp only at hi hv ⊢
  (repeat (first | refine FW.seq ?_ | refine FW.region ?_ | refine RunN.nil ?_ | refine rn_move rfl rfl rfl ?_ | refine rn_lenList rfl rfl (by first | exact List.length_map _ | exact (List.length_map _).symm | exact List.length_replicate | rfl | (simp; done) | omega | (simp; omega)) rfl rfl ?_ | refine rn_lss rfl rfl rfl rfl ?_))
  refine FW.cond rfl (fun h => ?_) (fun h => ?_)
  · have hlt : i < l.length := by simpa using h
    clear h
    (repeat (first | refine FW.seq ?_ | refine FW.region ?_ | refine FW.block ?_ | refine FW.skip ?_ | refine rn_move rfl rfl rfl ?_))
    refine rn_call (delivers24_spec l i hlt) (by repeat (first | exact ArgsR.nil | refine ArgsR.cons (by first | exact ArgR.plain rfl rfl) ?_)) rfl rfl ?_
    (repeat (first | refine FW.seq ?_ | refine FW.region ?_ | refine RunN.nil ?_ | refine rn_assign rfl rfl rfl ?_ | refine rn_move rfl rfl rfl ?_ | refine rn_not rfl rfl rfl ?_))
    refine FW.cond rfl (fun hdl => ?_) (fun hdl => ?_)
    · have hdl : isDel (nth l i) = false := by simpa using hdl
      (repeat (first | refine FW.region ?_ | refine FW.exit ?_ | refine RunN.nil ?_ | refine rn_assign rfl rfl rfl ?_ | refine rn_move rfl rfl rfl ?_ | refine rn_add rfl rfl (by omega) rfl rfl ?_))
      refine ⟨(i + 1, x), ⟨by show i + 1 ≤ _; omega, by rw [← hv]; exact (verFrom_none hlt (by rw [verAt, if_pos hdl])).symm⟩, by show l.length - (i + 1) < l.length - i; omega, ?_⟩
      exact (FLe.conv [⟨100, some 100, 0, ⟨0, .own, 52, 5, [[.int .i64 0, .int .i64 0, .int .i64 0, .nil, .nil]]⟩⟩, ⟨101, some 101, 0, ⟨0, .own, 52, 5, [[.int .i64 7, .int .i64 0, .int .i64 x, .nil, .nil]]⟩⟩] (by simp) (by simp) (by repeat (first | exact EntsOk.nil | refine EntsOk.old rfl (by decide) (by first | rfl | (simp; done) | (congr 1; omega) | (simp; omega)) ?_)) (by repeat (first | exact SlC.nil | refine SlC.cons (.plain rfl rfl (by first | rfl | (simp; done) | (congr 1; omega) | (simp; omega))) ?_ | refine SlC.cons (.ptr rfl (.head _) rfl) ?_ | refine SlC.cons (.ptr rfl (.tail _ (.head _)) rfl) ?_)))
    · have hdl : isDel (nth l i) = true := by simpa using hdl
      have hndl : ¬ isDel (nth l i) = false := by rw [hdl]; decide
      (repeat (first | refine FW.seq ?_ | refine FW.region ?_ | refine FW.skip ?_ | refine RunN.nil ?_ | refine rn_storeV rfl rfl rfl rfl rfl rfl rfl rfl rfl ?_ | refine rn_move rfl rfl rfl ?_ | refine rn_indexL rfl rfl (by first | rfl | exact (Int.toNat_of_nonneg (by omega)).symm) rfl rfl rfl (by first | omega | (simp; omega) | (simp; done)) rfl rfl ?_ | refine rn_fieldE rfl rfl rfl rfl rfl rfl rfl ?_ | refine rn_fieldP rfl rfl rfl rfl rfl rfl (by decide) rfl rfl ?_ | refine rn_loadE rfl rfl rfl (by first | omega | (simp; omega) | (simp; done)) (by first | exact getD_map (by omega) | rfl) rfl rfl rfl rfl ?_ | refine FW.draw ?_ | refine rd_move rfl rfl rfl ?_ | refine rd_indexL rfl rfl (by first | rfl | exact (Int.toNat_of_nonneg (by omega)).symm) rfl rfl rfl (by first | omega | (simp; omega) | (simp; done)) rfl rfl ?_ | refine rd_fieldE rfl rfl rfl rfl rfl rfl rfl ?_ | refine rd_loadE rfl rfl rfl (by first | omega | (simp; omega) | (simp; done)) (by first | exact getD_map (by omega) | rfl) rfl rfl rfl rfl ?_))
      refine rd_call (push_spec l (nth l i).key (nth l i).res hl) (by repeat (first | exact ArgsR.nil | refine ArgsR.cons (by first | exact ArgR.plain rfl rfl) ?_)) rfl rfl ?_
      (repeat (first | refine RunD.nil ?_ | refine rd_assign rfl rfl rfl ?_))
      refine ⟨by kernel_rfl, ?_⟩
      (repeat (first | refine FW.seq ?_ | refine FW.region ?_ | refine RunN.nil ?_ | refine rn_move rfl rfl rfl ?_ | refine rn_lss rfl rfl rfl rfl ?_))
      refine FW.cond rfl (fun hp => ?_) (fun hp => ?_)
      · have hp : pushIx l (nth l i).key (nth l i).res < 0 := by simpa using hp
        (repeat (first | refine FW.seq ?_ | refine FW.region ?_ | refine RunN.nil ?_ | refine rn_storeV rfl rfl rfl rfl rfl rfl rfl rfl rfl ?_ | refine rn_move rfl rfl rfl ?_ | refine rn_fieldP rfl rfl rfl rfl rfl rfl (by decide) rfl rfl ?_ | refine rn_buildS1 rfl rfl rfl rfl rfl rfl rfl rfl ?_))
        refine RunN.le ?_ (FLe.share 41 rfl rfl rfl)
        (repeat (first | refine FW.seq ?_ | refine FW.region ?_ | refine RunN.nil ?_ | refine rn_storeV rfl rfl rfl rfl rfl rfl rfl rfl rfl ?_ | refine rn_storeVA rfl rfl rfl rfl rfl rfl rfl rfl rfl ?_ | refine rn_loadPA rfl rfl rfl (by decide) rfl rfl (by first | omega | (simp; omega) | (simp; done)) (by first | exact getD_map (by omega) | rfl) rfl rfl rfl ?_))
        refine FW.ret ⟨.inl rfl, .sh (.cons (resv_cell rfl rfl rfl rfl rfl rfl (by decide)) .nil) ?_ rfl⟩
        rw [← hv, verFrom_some hlt (v := ⟨7, 12, (nth l i).key, [(i : Int)]⟩) (by rw [verAt, if_neg hndl, if_pos hp])]
        rfl
      · have hp : ¬ pushIx l (nth l i).key (nth l i).res < 0 := by simpa using hp
        rcases pushIx_or l (nth l i).key (nth l i).res with ⟨p1, p2⟩ | ⟨k, p1, p2, p3, p4⟩
        · omega
        rw [p1]
        (repeat (first | refine FW.seq ?_ | refine FW.region ?_ | refine FW.skip ?_ | refine rn_move rfl rfl rfl ?_))
        refine rn_call (rBefore_spec l i k hlt p2) (by repeat (first | exact ArgsR.nil | refine ArgsR.cons (by first | exact ArgR.plain rfl rfl) ?_)) rfl rfl ?_
        (repeat (first | refine RunN.nil ?_))
        refine FW.cond rfl (fun hb => ?_) (fun hb => ?_)
        · (repeat (first | refine FW.seq ?_ | refine FW.region ?_ | refine RunN.nil ?_ | refine rn_storeV rfl rfl rfl rfl rfl rfl rfl rfl rfl ?_ | refine rn_move rfl rfl rfl ?_ | refine rn_fieldP rfl rfl rfl rfl rfl rfl (by decide) rfl rfl ?_))
          refine rn_buildSK rfl rfl rfl rfl rfl rfl rfl rfl rfl ?_
          (repeat (first | refine rn_fieldP rfl rfl rfl rfl rfl rfl (by decide) rfl rfl ?_ | refine PtsK.nil ?_ | refine PtsK.one rfl rfl rfl ?_))
          refine RunN.le ?_ (FLe.share 52 rfl rfl rfl)
          (repeat (first | refine FW.seq ?_ | refine FW.region ?_ | refine RunN.nil ?_ | refine rn_storeV rfl rfl rfl rfl rfl rfl rfl rfl rfl ?_ | refine rn_storeVA rfl rfl rfl rfl rfl rfl rfl rfl rfl ?_ | refine rn_loadPA rfl rfl rfl (by decide) rfl rfl (by first | omega | (simp; omega) | (simp; done)) (by first | exact getD_map (by omega) | rfl) rfl rfl rfl ?_))
          refine FW.ret ⟨.inl rfl, .sh (.cons (resv_cell rfl rfl rfl rfl rfl rfl (by decide)) .nil) ?_ rfl⟩
          rw [← hv, verFrom_some hlt (v := ⟨7, 12, (nth l i).key, [(i : Int), (k : Int)]⟩) (by rw [verAt, if_neg hndl, p1, if_neg (by omega), Int.toNat_natCast, if_pos hb])]
          rfl
        · (repeat (first | refine FW.seq ?_ | refine FW.region ?_ | refine FW.skip ?_ | refine rn_move rfl rfl rfl ?_))
          refine rn_call (first_spec l i hlt hl) (by repeat (first | exact ArgsR.nil | refine ArgsR.cons (by first | exact ArgR.plain rfl rfl) ?_)) rfl rfl ?_
          (repeat (first | refine RunN.nil ?_ | refine rn_move rfl rfl rfl ?_ | refine rn_lss rfl rfl rfl rfl ?_))
          refine FW.cond rfl (fun hf => ?_) (fun hf => ?_)
          · have hf : firstIx l i < i := by simpa using hf
            (repeat (first | refine FW.seq ?_ | refine FW.region ?_ | refine RunN.nil ?_ | refine rn_storeV rfl rfl rfl rfl rfl rfl rfl rfl rfl ?_ | refine rn_move rfl rfl rfl ?_ | refine rn_fieldP rfl rfl rfl rfl rfl rfl (by decide) rfl rfl ?_))
            refine rn_call (first_spec l i hlt hl) (by repeat (first | exact ArgsR.nil | refine ArgsR.cons (by first | exact ArgR.plain rfl rfl) ?_)) rfl rfl ?_
            (repeat (first | refine rn_move rfl rfl rfl ?_))
            refine rn_buildSK rfl rfl rfl rfl rfl rfl rfl rfl rfl ?_
            (repeat (first | refine rn_fieldP rfl rfl rfl rfl rfl rfl (by decide) rfl rfl ?_ | refine PtsK.nil ?_ | refine PtsK.one rfl rfl rfl ?_))
            refine RunN.le ?_ (FLe.share 66 rfl rfl rfl)
            (repeat (first | refine FW.seq ?_ | refine FW.region ?_ | refine RunN.nil ?_ | refine rn_storeV rfl rfl rfl rfl rfl rfl rfl rfl rfl ?_ | refine rn_storeVA rfl rfl rfl rfl rfl rfl rfl rfl rfl ?_ | refine rn_loadPA rfl rfl rfl (by decide) rfl rfl (by first | omega | (simp; omega) | (simp; done)) (by first | exact getD_map (by omega) | rfl) rfl rfl rfl ?_))
            refine FW.ret ⟨.inl rfl, .sh (.cons (resv_cell rfl rfl rfl rfl rfl rfl (by decide)) .nil) ?_ rfl⟩
            rw [← hv, verFrom_some hlt (v := ⟨7, 11, (nth l i).key, [(firstIx l i : Int), (i : Int)]⟩) (by rw [verAt, if_neg hndl, p1, if_neg (by omega), Int.toNat_natCast, if_neg (by simp [hb]), if_pos hf])]
            rfl
          · have hf : ¬ firstIx l i < i := by simpa using hf
            (repeat (first | refine FW.region ?_ | refine FW.skip ?_ | refine RunN.nil ?_ | refine rn_assign rfl rfl rfl ?_ | refine rn_move rfl rfl rfl ?_ | refine rn_add rfl rfl (by omega) rfl rfl ?_))
            refine ⟨(i + 1, (nth l i).key), ⟨by show i + 1 ≤ _; omega, by rw [← hv]; exact (verFrom_none hlt (by rw [verAt, if_neg hndl, p1, if_neg (by omega), Int.toNat_natCast, if_neg (by simp [hb]), if_neg hf])).symm⟩, by show l.length - (i + 1) < l.length - i; omega, ?_⟩
            exact (FLe.conv [⟨100, some 100, 0, ⟨0, .own, 52, 5, [[.int .i64 0, .int .i64 0, .int .i64 0, .nil, .nil]]⟩⟩, ⟨101, some 101, 0, ⟨0, .own, 52, 5, [[.int .i64 7, .int .i64 0, .int .i64 (nth l i).key, .nil, .nil]]⟩⟩] (by simp) (by simp) (by repeat (first | exact EntsOk.nil | refine EntsOk.old rfl (by decide) (by first | rfl | (simp; done) | (congr 1; omega) | (simp; omega)) ?_)) (by repeat (first | exact SlC.nil | refine SlC.cons (.plain rfl rfl (by first | rfl | (simp; done) | (congr 1; omega) | (simp; omega))) ?_ | refine SlC.cons (.ptr rfl (.head _) rfl) ?_ | refine SlC.cons (.ptr rfl (.tail _ (.head _)) rfl) ?_)))
  · have : i = l.length := by simp at h; omega
    subst this
    (repeat (first | refine FW.seq ?_ | refine FW.region ?_ | refine FW.exit ?_ | refine RunN.nil ?_ | refine rn_buildK rfl rfl rfl rfl ?_ | refine rn_storeVA rfl rfl rfl rfl rfl rfl rfl rfl rfl ?_ | refine FillK.nil ?_ | refine FillK.one rfl rfl rfl rfl rfl ?_))
    refine FW.ret ⟨.inl rfl, .sh (.cons (resv_cell rfl rfl rfl rfl rfl rfl (by decide)) .nil) ?_ rfl⟩
    rw [← hv, Nat.sub_self]
    rfl
theorem refCheck_spec (l : List OpV) (hl : l.length ≤ 1000000000) : Spec Try.prog 30 [.list 8 (l.map OpV.fv)] .sh (.agg (onceV l).fv) :=
  (refCheck_fx l hl).weaken (.inr rfl) (.agg (VerV.fx_le _)) rfl
end Go.Proofs.Ythijndjgchbeoaa
