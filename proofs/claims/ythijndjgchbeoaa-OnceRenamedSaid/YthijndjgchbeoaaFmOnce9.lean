/-
  Functions of layer 24, at plain values: once.Check.
-/
import Derived.Test.YthijndjgchbeoaaFmOnce7
namespace Go.Proofs.Ythijndjgchbeoaa
set_option linter.unusedVariables false
open Go.RowKit

/-- the answer of once.Check -/
def onceR (l : List OpV) : VerV × Int := if hCheck l ≠ 0 then (verZ, hCheck l) else if dom24 l then (onceV l, 0) else (verZ, 22)
def ordF (o : List Int) : FV := if o = [] then .nil else .list 1 (o.map intf)
def VerV.fx (v : VerV) : List FV := [.int .i64 v.chk, .int .i64 v.cls, .int .i64 v.arg, ordF v.order, .nil]
theorem ordF_le (o : List Int) : FV.le (ordF o) (.list 1 (o.map intf)) := by
  unfold ordF
  split
  · rename_i h; rw [h]; exact FV.le.nil _
  · exact FV.le.refl _
theorem VerV.fx_le (v : VerV) : LeL v.fx v.fv :=
  .cons (.refl _) (.cons (.refl _) (.cons (.refl _) (.cons (ordF_le _) (.cons (.refl _) .nil))))

set_option maxHeartbeats 8000000 in
theorem onceCheck_fx (l : List OpV) (hl : l.length ≤ 1000000000) (hin : ∀ o ∈ l, OpIn o) : Spec Try.prog 26 [.list 8 (l.map OpV.fv)] .sh (.tup [.agg (onceR l).1.fx, .int .i64 (onceR l).2]) := by
  refine Spec.of_body (c := (cxOf Try.prog tyAt_ok mixed_ok 95)) ⟨Try.func26, rfl, Try.ntmps26, by kernel_rfl⟩ (by simp [FV.hand]) (by exact Nat.le_of_ble_eq_true rfl) rfl ?_
  change FW _ _ _ ⟨[(0, .list 8 (l.map OpV.fv))], []⟩
  (repeat (first | refine FW.seq ?_ | refine FW.region ?_ | refine RunN.nil ?_ | refine rn_alloc rfl rfl rfl rfl rfl rfl rfl ?_ | refine rn_assign rfl rfl rfl ?_ | refine rn_move rfl rfl rfl ?_))
  refine rn_call (hCheck_spec l hin hl) (by repeat (first | exact ArgsR.nil | refine ArgsR.cons (by first | exact ArgR.plain rfl rfl) ?_)) rfl rfl ?_
  (repeat (first | refine FW.seq ?_ | refine FW.region ?_ | refine RunN.nil ?_ | refine rn_assign rfl rfl rfl ?_ | refine rn_move rfl rfl rfl ?_ | refine rn_neq rfl rfl rfl rfl ?_))
  refine FW.cond rfl (fun h => ?_) (fun h => ?_)
  · (repeat (first | refine FW.seq ?_ | refine FW.region ?_ | refine RunN.nil ?_ | refine rn_assign rfl rfl rfl ?_ | refine rn_move rfl rfl rfl ?_ | refine rn_buildK rfl rfl rfl rfl ?_ | refine rn_storeVA rfl rfl rfl rfl rfl rfl rfl rfl rfl ?_ | refine FillK.nil ?_))
    have h0 : hCheck l ≠ 0 := by simpa using h
    refine FW.ret ⟨.inl rfl, .sh (.cons (resv_cell rfl rfl rfl rfl rfl rfl (by decide)) (.cons (.tmp 3 rfl rfl) .nil)) ?_ rfl⟩
    rw [onceR, if_pos h0]; rfl
  · have h0 : hCheck l = 0 := by simpa using h
    (repeat (first | refine FW.seq ?_ | refine FW.region ?_ | refine FW.skip ?_ | refine rn_move rfl rfl rfl ?_))
    refine rn_callS (pushes_spec l hl hin) (by repeat (first | exact ArgsR.nil | refine ArgsR.cons (by first | exact ArgR.plain rfl rfl) ?_)) rfl rfl ?_
    by_cases hd : dom24 l
    · rw [if_pos hd, decide_eq_true hd]
      have hR : onceR l = (onceV l, 0) := by rw [onceR, if_neg (by simp [h0]), if_pos hd]
      rw [hR]
      (repeat (first | refine FW.seq ?_ | refine FW.region ?_ | refine FW.block ?_ | refine FW.skip ?_ | refine FW.condF rfl ?_ | refine RunN.nil ?_ | refine rn_alloc rfl rfl rfl rfl rfl rfl rfl ?_ | refine rn_assign rfl rfl rfl ?_ | refine rn_move rfl rfl rfl ?_ | refine rn_buildK rfl rfl rfl rfl ?_ | refine rn_storeVA rfl rfl rfl rfl rfl rfl rfl rfl rfl ?_ | refine rn_extract rfl rfl rfl rfl rfl ?_ | refine rn_not rfl rfl rfl ?_ | refine rn_makeMap rfl rfl rfl ?_ | refine rn_lenList rfl rfl (by first | exact List.length_map _ | exact (List.length_map _).symm | exact List.length_replicate | rfl | (simp; done) | omega | (simp; omega)) rfl rfl ?_ | refine FillK.nil ?_ | refine FillK.one rfl rfl rfl rfl rfl ?_))
      refine FW.loop (fun i : Nat => ⟨[(0, .list 8 (l.map OpV.fv)), (2, .ptr 100 0 0 0), (5, .smap (pushRows l l.length)), (7, .ptr 101 0 0 0), (8, .omap 102 0), (33, .list 8 (l.map OpV.fv)), (34, .int .i64 l.length), (35, .int .i64 i)], [(100, ⟨0, .own, 52, 5, [[.int .i64 0, .int .i64 0, .int .i64 0, .nil, .nil]]⟩), (101, ⟨0, .own, 52, 5, [[.int .i64 7, .int .i64 0, .int .i64 0, .nil, .nil]]⟩), (102, ⟨0, .mapo, 76, 0, delRows l i⟩)]⟩) (fun i => i ≤ l.length ∧ verFrom l i (l.length - i) = onceV l) (fun i => l.length - i) 0 ⟨Nat.zero_le _, rfl⟩
        (FLe.conv [⟨100, some 2, 1, ⟨0, .own, 52, 5, [[.int .i64 0, .int .i64 0, .int .i64 0, .nil, .nil]]⟩⟩, ⟨101, some 7, 1, ⟨0, .own, 52, 5, [[.int .i64 7, .int .i64 0, .int .i64 0, .nil, .nil]]⟩⟩, ⟨102, some 32, 1, ⟨0, .mapo, 76, 0, []⟩⟩] (by simp) (by simp) (by repeat (first | exact EntsOk.nil | refine EntsOk.old rfl (by decide) (by first | rfl | (simp; done) | (congr 1; omega) | (simp; omega)) ?_)) (by repeat (first | exact SlC.nil | refine SlC.cons (.plain rfl rfl (by first | rfl | (simp; done) | (congr 1; omega) | (simp; omega))) ?_ | refine SlC.cons (.ptr rfl (.head _) rfl) ?_ | refine SlC.cons (.ptr rfl (.tail _ (.head _)) rfl) ?_ | refine SlC.cons (.omap rfl (.tail _ (.tail _ (.head _))) rfl) ?_))) ?_
      rintro i ⟨hi, hv⟩
      (repeat (first | refine FW.seq ?_ | refine FW.region ?_ | refine RunN.nil ?_ | refine rn_lss rfl rfl rfl rfl ?_))
      refine FW.cond rfl (fun h => ?_) (fun h => ?_)
      · have hlt : i < l.length := by simpa using h
        clear h
        have ho := hin _ (nth_mem hlt)
        (repeat (first | refine FW.seq ?_ | refine FW.region ?_ | refine FW.block ?_ | refine FW.skip ?_ | refine RunN.nil ?_ | refine rn_alloc rfl rfl rfl rfl rfl rfl rfl ?_ | refine rn_assign rfl rfl rfl ?_ | refine rn_move rfl rfl rfl ?_ | refine rn_storeVA rfl rfl rfl rfl rfl rfl rfl rfl rfl ?_ | refine rn_indexL rfl rfl (by first | rfl | exact (Int.toNat_of_nonneg (by omega)).symm) rfl rfl rfl (by first | omega | (simp; omega) | (simp; done)) rfl rfl ?_ | refine rn_loadEA rfl rfl rfl (by decide) (by first | omega | (simp; omega) | (simp; done)) (by first | exact getD_map (by omega) | rfl) rfl rfl rfl ?_ | refine rn_loadPA rfl rfl rfl (by decide) rfl rfl (by first | omega | (simp; omega) | (simp; done)) (by first | exact getD_map (by omega) | rfl) rfl rfl rfl ?_))
        refine rn_call (delivers_spec (nth l i)) (by repeat (first | exact ArgsR.nil | refine ArgsR.cons (by first | exact ArgR.plain rfl rfl) ?_)) rfl rfl ?_
        (repeat (first | refine FW.seq ?_ | refine FW.region ?_ | refine RunN.nil ?_ | refine rn_alloc rfl rfl rfl rfl rfl rfl rfl ?_ | refine rn_assign rfl rfl rfl ?_ | refine rn_move rfl rfl rfl ?_ | refine rn_storeVA rfl rfl rfl rfl rfl rfl rfl rfl rfl ?_ | refine rn_extract rfl rfl rfl rfl rfl ?_ | refine rn_not rfl rfl rfl ?_))
        refine FW.cond rfl (fun hdl => ?_) (fun hdl => ?_)
        · have hdl : isDel (nth l i) = false := by simpa using hdl
          (repeat (first | refine FW.region ?_ | refine FW.exit ?_ | refine RunN.nil ?_ | refine rn_move rfl rfl rfl ?_ | refine rn_add rfl rfl (by omega) rfl rfl ?_))
          refine ⟨i + 1, ⟨by omega, by rw [← hv, verFrom_none hlt (by rw [verAt, if_pos hdl])]⟩, by omega, ?_⟩
          rw [delRows_succ, if_neg (by rw [hdl]; decide), List.append_nil]
          exact (FLe.conv [⟨100, some 100, 0, ⟨0, .own, 52, 5, [[.int .i64 0, .int .i64 0, .int .i64 0, .nil, .nil]]⟩⟩, ⟨101, some 101, 0, ⟨0, .own, 52, 5, [[.int .i64 7, .int .i64 0, .int .i64 0, .nil, .nil]]⟩⟩, ⟨102, some 102, 0, ⟨0, .mapo, 76, 0, delRows l i⟩⟩] (by simp) (by simp) (by repeat (first | exact EntsOk.nil | refine EntsOk.old rfl (by decide) (by first | rfl | (simp; done) | (congr 1; omega) | (simp; omega)) ?_)) (by repeat (first | exact SlC.nil | refine SlC.cons (.plain rfl rfl (by first | rfl | (simp; done) | (congr 1; omega) | (simp; omega))) ?_ | refine SlC.cons (.ptr rfl (.head _) rfl) ?_ | refine SlC.cons (.ptr rfl (.tail _ (.head _)) rfl) ?_ | refine SlC.cons (.omap rfl (.tail _ (.tail _ (.head _))) rfl) ?_)))
        · have hdl : isDel (nth l i) = true := by simpa using hdl
          have hndl : ¬ isDel (nth l i) = false := by rw [hdl]; decide
          (repeat (first | refine FW.seq ?_ | refine FW.region ?_ | refine FW.skip ?_ | refine rn_move rfl rfl rfl ?_ | refine rn_loadPA rfl rfl rfl (by decide) rfl rfl (by first | omega | (simp; omega) | (simp; done)) (by first | exact getD_map (by omega) | rfl) rfl rfl rfl ?_))
          rcases pushIx_or l (nth l i).key (nth l i).res with ⟨p1, p2⟩ | ⟨k, p1, p2, p3, p4⟩
          · refine rn_lookK2 keyedE (pushRows_key (Nat.le_refl _) hin) (keyFE ho.2.2.1 ho.2.2.2.2.1) (.inr ⟨rfl, rfl, pushRows_none p2⟩) rfl rfl rfl rfl rfl rfl rfl ?_
            (repeat (first | refine FW.seq ?_ | refine FW.region ?_ | refine RunN.nil ?_ | refine rn_assign rfl rfl rfl ?_ | refine rn_move rfl rfl rfl ?_ | refine rn_extract rfl rfl rfl rfl rfl ?_ | refine rn_loadPA rfl rfl rfl (by decide) rfl rfl (by first | omega | (simp; omega) | (simp; done)) (by first | exact getD_map (by omega) | rfl) rfl rfl rfl ?_))
            refine rn_lookM2 (e := 3) keyedE (delRows_key hi hin) (keyFE ho.2.2.1 ho.2.2.2.2.1) (look_del hlt) rfl rfl (by decide) rfl rfl rfl rfl rfl rfl ?_
            (repeat (first | refine FW.seq ?_ | refine FW.region ?_ | refine FW.block ?_ | refine FW.condT rfl ?_ | refine RunN.nil ?_ | refine rn_assign rfl rfl rfl ?_ | refine rn_move rfl rfl rfl ?_ | refine rn_storeV rfl rfl rfl rfl rfl rfl rfl rfl rfl ?_ | refine rn_extract rfl rfl rfl rfl rfl ?_ | refine rn_not rfl rfl rfl ?_ | refine rn_buildS1 rfl rfl rfl rfl rfl rfl rfl rfl ?_ | refine rn_fieldP rfl rfl rfl rfl rfl rfl (by decide) rfl rfl ?_))
            refine RunN.le ?_ (FLe.share 66 rfl rfl rfl)
            (repeat (first | refine FW.seq ?_ | refine FW.region ?_ | refine RunN.nil ?_ | refine rn_assign rfl rfl rfl ?_ | refine rn_storeV rfl rfl rfl rfl rfl rfl rfl rfl rfl ?_ | refine rn_storeVA rfl rfl rfl rfl rfl rfl rfl rfl rfl ?_ | refine rn_loadP rfl rfl rfl rfl rfl (by first | omega | (simp; omega) | (simp; done)) (by first | exact getD_map (by omega) | rfl) rfl rfl rfl rfl ?_ | refine rn_loadPA rfl rfl rfl (by decide) rfl rfl (by first | omega | (simp; omega) | (simp; done)) (by first | exact getD_map (by omega) | rfl) rfl rfl rfl ?_ | refine rn_fieldP rfl rfl rfl rfl rfl rfl (by decide) rfl rfl ?_))
            refine FW.ret ⟨.inl rfl, .sh (.cons (resv_cell rfl rfl rfl rfl rfl rfl (by decide)) (.cons (.tmp 3 rfl rfl) .nil)) ?_ rfl⟩
            rw [← hv, verFrom_some hlt (v := ⟨7, 12, (nth l i).key, [(i : Int)]⟩) (by rw [verAt, if_neg hndl, if_pos (by omega)])]
            rfl
          · refine rn_lookK2 keyedE (pushRows_key (Nat.le_refl _) hin) (keyFE ho.2.2.1 ho.2.2.2.2.1) (.inl ⟨rfl, pushRows_mem p2 p3⟩) rfl rfl rfl rfl rfl rfl rfl ?_
            (repeat (first | refine FW.seq ?_ | refine FW.region ?_ | refine RunN.nil ?_ | refine rn_assign rfl rfl rfl ?_ | refine rn_move rfl rfl rfl ?_ | refine rn_extract rfl rfl rfl rfl rfl ?_ | refine rn_loadPA rfl rfl rfl (by decide) rfl rfl (by first | omega | (simp; omega) | (simp; done)) (by first | exact getD_map (by omega) | rfl) rfl rfl rfl ?_))
            rcases firstIx_or hlt with ⟨f1, f2⟩ | ⟨f1, f2, f3⟩
            · refine rn_lookM2 keyedE (delRows_key hi hin) (keyFE ho.2.2.1 ho.2.2.2.2.1) (.inr ⟨rfl, rfl, delRows_none f2⟩) rfl rfl (by decide) rfl rfl rfl rfl rfl rfl ?_
              (repeat (first | refine FW.seq ?_ | refine FW.region ?_ | refine FW.block ?_ | refine FW.condF rfl ?_ | refine RunN.nil ?_ | refine rn_assign rfl rfl rfl ?_ | refine rn_move rfl rfl rfl ?_ | refine rn_extract rfl rfl rfl rfl rfl ?_ | refine rn_not rfl rfl rfl ?_))
              refine rn_call (hBefore_spec l i k hlt p2) (by repeat (first | exact ArgsR.nil | refine ArgsR.cons (by first | exact ArgR.plain rfl rfl) ?_)) rfl rfl ?_
              (repeat (first | refine RunN.nil ?_ | refine rn_assign rfl rfl rfl ?_))
              refine FW.cond rfl (fun hb => ?_) (fun hb => ?_)
              · (repeat (first | refine FW.region ?_ | refine rn_move rfl rfl rfl ?_))
                refine rn_buildSK rfl rfl rfl rfl rfl rfl rfl rfl rfl ?_
                (repeat (first | refine rn_storeV rfl rfl rfl rfl rfl rfl rfl rfl rfl ?_ | refine rn_fieldP rfl rfl rfl rfl rfl rfl (by decide) rfl rfl ?_ | refine PtsK.nil ?_ | refine PtsK.one rfl rfl rfl ?_))
                refine RunN.le ?_ (FLe.share 77 rfl rfl rfl)
                (repeat (first | refine FW.seq ?_ | refine FW.region ?_ | refine RunN.nil ?_ | refine rn_assign rfl rfl rfl ?_ | refine rn_storeV rfl rfl rfl rfl rfl rfl rfl rfl rfl ?_ | refine rn_storeVA rfl rfl rfl rfl rfl rfl rfl rfl rfl ?_ | refine rn_loadP rfl rfl rfl rfl rfl (by first | omega | (simp; omega) | (simp; done)) (by first | exact getD_map (by omega) | rfl) rfl rfl rfl rfl ?_ | refine rn_loadPA rfl rfl rfl (by decide) rfl rfl (by first | omega | (simp; omega) | (simp; done)) (by first | exact getD_map (by omega) | rfl) rfl rfl rfl ?_ | refine rn_fieldP rfl rfl rfl rfl rfl rfl (by decide) rfl rfl ?_))
                refine FW.ret ⟨.inl rfl, .sh (.cons (resv_cell rfl rfl rfl rfl rfl rfl (by decide)) (.cons (.tmp 3 rfl rfl) .nil)) ?_ rfl⟩
                rw [← hv, verFrom_some hlt (v := ⟨7, 12, (nth l i).key, [(i : Int), (k : Int)]⟩) (by rw [verAt, if_neg hndl, p1, if_neg (by omega), Int.toNat_natCast, if_pos hb])]
                rfl
              · (repeat (first | refine FW.seq ?_ | refine FW.region ?_ | refine FW.condF rfl ?_ | refine RunN.nil ?_ | refine rn_assign rfl rfl rfl ?_ | refine rn_move rfl rfl rfl ?_ | refine rn_loadPA rfl rfl rfl (by decide) rfl rfl (by first | omega | (simp; omega) | (simp; done)) (by first | exact getD_map (by omega) | rfl) rfl rfl rfl ?_))
                refine rn_update keyedE (delRows_key hi hin) (keyFE ho.2.2.1 ho.2.2.2.2.1) (.inr ⟨delRows_none f2, rfl⟩) rfl rfl rfl rfl rfl rfl rfl ?_
                (repeat (first | refine FW.region ?_ | refine FW.exit ?_ | refine RunN.nil ?_ | refine rn_move rfl rfl rfl ?_ | refine rn_add rfl rfl (by omega) rfl rfl ?_))
                refine ⟨i + 1, ⟨by omega, by rw [← hv, verFrom_none hlt (by rw [verAt, if_neg hndl, p1, if_neg (by omega), Int.toNat_natCast, if_neg (by simp [hb]), if_neg (by omega)])]⟩, by omega, ?_⟩
                rw [delRows_succ, if_pos hdl]
                exact (FLe.conv [⟨100, some 100, 0, ⟨0, .own, 52, 5, [[.int .i64 0, .int .i64 0, .int .i64 0, .nil, .nil]]⟩⟩, ⟨101, some 101, 0, ⟨0, .own, 52, 5, [[.int .i64 7, .int .i64 0, .int .i64 0, .nil, .nil]]⟩⟩, ⟨102, some 102, 0, ⟨0, .mapo, 76, 0, delRows l i ++ [[kfOf (nth l i).key (nth l i).res, .int .i64 (i : Int)]]⟩⟩] (by simp) (by simp) (by repeat (first | exact EntsOk.nil | refine EntsOk.old rfl (by decide) (by first | rfl | (simp; done) | (congr 1; omega) | (simp; omega)) ?_)) (by repeat (first | exact SlC.nil | refine SlC.cons (.plain rfl rfl (by first | rfl | (simp; done) | (congr 1; omega) | (simp; omega))) ?_ | refine SlC.cons (.ptr rfl (.head _) rfl) ?_ | refine SlC.cons (.ptr rfl (.tail _ (.head _)) rfl) ?_ | refine SlC.cons (.omap rfl (.tail _ (.tail _ (.head _))) rfl) ?_)))
            · refine rn_lookM2 keyedE (delRows_key hi hin) (keyFE ho.2.2.1 ho.2.2.2.2.1) (.inl ⟨rfl, delRows_mem f1 f2⟩) rfl rfl (by decide) rfl rfl rfl rfl rfl rfl ?_
              (repeat (first | refine FW.seq ?_ | refine FW.region ?_ | refine FW.block ?_ | refine FW.condF rfl ?_ | refine RunN.nil ?_ | refine rn_assign rfl rfl rfl ?_ | refine rn_move rfl rfl rfl ?_ | refine rn_extract rfl rfl rfl rfl rfl ?_ | refine rn_not rfl rfl rfl ?_))
              refine rn_call (hBefore_spec l i k hlt p2) (by repeat (first | exact ArgsR.nil | refine ArgsR.cons (by first | exact ArgR.plain rfl rfl) ?_)) rfl rfl ?_
              (repeat (first | refine RunN.nil ?_ | refine rn_assign rfl rfl rfl ?_))
              refine FW.cond rfl (fun hb => ?_) (fun hb => ?_)
              · (repeat (first | refine FW.region ?_ | refine rn_move rfl rfl rfl ?_))
                refine rn_buildSK rfl rfl rfl rfl rfl rfl rfl rfl rfl ?_
                (repeat (first | refine rn_storeV rfl rfl rfl rfl rfl rfl rfl rfl rfl ?_ | refine rn_fieldP rfl rfl rfl rfl rfl rfl (by decide) rfl rfl ?_ | refine PtsK.nil ?_ | refine PtsK.one rfl rfl rfl ?_))
                refine RunN.le ?_ (FLe.share 77 rfl rfl rfl)
                (repeat (first | refine FW.seq ?_ | refine FW.region ?_ | refine RunN.nil ?_ | refine rn_assign rfl rfl rfl ?_ | refine rn_storeV rfl rfl rfl rfl rfl rfl rfl rfl rfl ?_ | refine rn_storeVA rfl rfl rfl rfl rfl rfl rfl rfl rfl ?_ | refine rn_loadP rfl rfl rfl rfl rfl (by first | omega | (simp; omega) | (simp; done)) (by first | exact getD_map (by omega) | rfl) rfl rfl rfl rfl ?_ | refine rn_loadPA rfl rfl rfl (by decide) rfl rfl (by first | omega | (simp; omega) | (simp; done)) (by first | exact getD_map (by omega) | rfl) rfl rfl rfl ?_ | refine rn_fieldP rfl rfl rfl rfl rfl rfl (by decide) rfl rfl ?_))
                refine FW.ret ⟨.inl rfl, .sh (.cons (resv_cell rfl rfl rfl rfl rfl rfl (by decide)) (.cons (.tmp 3 rfl rfl) .nil)) ?_ rfl⟩
                rw [← hv, verFrom_some hlt (v := ⟨7, 12, (nth l i).key, [(i : Int), (k : Int)]⟩) (by rw [verAt, if_neg hndl, p1, if_neg (by omega), Int.toNat_natCast, if_pos hb])]
                rfl
              · (repeat (first | refine FW.seq ?_ | refine FW.region ?_ | refine FW.condT rfl ?_ | refine RunN.nil ?_ | refine rn_assign rfl rfl rfl ?_ | refine rn_move rfl rfl rfl ?_))
                refine rn_buildSK rfl rfl rfl rfl rfl rfl rfl rfl rfl ?_
                (repeat (first | refine rn_storeV rfl rfl rfl rfl rfl rfl rfl rfl rfl ?_ | refine rn_fieldP rfl rfl rfl rfl rfl rfl (by decide) rfl rfl ?_ | refine PtsK.nil ?_ | refine PtsK.one rfl rfl rfl ?_))
                refine RunN.le ?_ (FLe.share 85 rfl rfl rfl)
                (repeat (first | refine FW.seq ?_ | refine FW.region ?_ | refine RunN.nil ?_ | refine rn_assign rfl rfl rfl ?_ | refine rn_storeV rfl rfl rfl rfl rfl rfl rfl rfl rfl ?_ | refine rn_storeVA rfl rfl rfl rfl rfl rfl rfl rfl rfl ?_ | refine rn_loadP rfl rfl rfl rfl rfl (by first | omega | (simp; omega) | (simp; done)) (by first | exact getD_map (by omega) | rfl) rfl rfl rfl rfl ?_ | refine rn_loadPA rfl rfl rfl (by decide) rfl rfl (by first | omega | (simp; omega) | (simp; done)) (by first | exact getD_map (by omega) | rfl) rfl rfl rfl ?_ | refine rn_fieldP rfl rfl rfl rfl rfl rfl (by decide) rfl rfl ?_))
                refine FW.ret ⟨.inl rfl, .sh (.cons (resv_cell rfl rfl rfl rfl rfl rfl (by decide)) (.cons (.tmp 3 rfl rfl) .nil)) ?_ rfl⟩
                rw [← hv, verFrom_some hlt (v := ⟨7, 11, (nth l i).key, [(firstIx l i : Int), (i : Int)]⟩) (by rw [verAt, if_neg hndl, p1, if_neg (by omega), Int.toNat_natCast, if_neg (by simp [hb]), if_pos f1])]
                rfl
      · have : i = l.length := by simp at h; omega
        subst this
        (repeat (first | refine FW.seq ?_ | refine FW.region ?_ | refine FW.exit ?_ | refine RunN.nil ?_ | refine rn_assign rfl rfl rfl ?_ | refine rn_storeVA rfl rfl rfl rfl rfl rfl rfl rfl rfl ?_ | refine rn_loadPA rfl rfl rfl (by decide) rfl rfl (by first | omega | (simp; omega) | (simp; done)) (by first | exact getD_map (by omega) | rfl) rfl rfl rfl ?_))
        refine FW.ret ⟨.inl rfl, .sh (.cons (resv_cell rfl rfl rfl rfl rfl rfl (by decide)) (.cons (.tmp 3 rfl rfl) .nil)) ?_ rfl⟩
        rw [← hv, Nat.sub_self]
        rfl
    · rw [if_neg hd, decide_eq_false hd]
      (repeat (first | refine FW.seq ?_ | refine FW.region ?_ | refine FW.condT rfl ?_ | refine RunN.nil ?_ | refine rn_assign rfl rfl rfl ?_ | refine rn_move rfl rfl rfl ?_ | refine rn_buildK rfl rfl rfl rfl ?_ | refine rn_storeVA rfl rfl rfl rfl rfl rfl rfl rfl rfl ?_ | refine rn_extract rfl rfl rfl rfl rfl ?_ | refine rn_not rfl rfl rfl ?_ | refine FillK.nil ?_))
      refine FW.ret ⟨.inl rfl, .sh (.cons (resv_cell rfl rfl rfl rfl rfl rfl (by decide)) (.cons (.tmp 3 rfl rfl) .nil)) ?_ rfl⟩
      rw [onceR, if_neg (by simp [h0]), if_neg hd]; rfl
theorem onceCheck_spec (l : List OpV) (hl : l.length ≤ 1000000000) (hin : ∀ o ∈ l, OpIn o) : Spec Try.prog 26 [.list 8 (l.map OpV.fv)] .sh (.tup [.agg (onceR l).1.fv, .int .i64 (onceR l).2]) :=
  (onceCheck_fx l hl hin).weaken (.inr rfl) (.tup (.cons (.agg (VerV.fx_le _)) (.cons (.refl _) .nil))) rfl
end Go.Proofs.Ythijndjgchbeoaa
