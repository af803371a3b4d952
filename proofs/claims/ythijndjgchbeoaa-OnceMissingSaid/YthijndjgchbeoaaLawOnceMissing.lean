/-
  simprooflaw24.OnceMissing answers true for every input (walked on plain values).
-/
import Derived.Test.YthijndjgchbeoaaFmOnce13
import Derived.Test.YthijndjgchbeoaaFmHas
namespace Go.Proofs.Ythijndjgchbeoaa
set_option linter.unusedVariables false
open Go.RowKit

set_option maxHeartbeats 8000000 in
theorem onceMissing_spec (l : List Int) (a0 a1 a2 b0 b1 b2 : Int) (hl : ∀ x ∈ l, I64 x) (hlen : l.length ≤ 9223372036854775807) (i0 : I64 a0) (i1 : I64 a1) (i2 : I64 a2) (j0 : I64 b0) (j1 : I64 b1) (j2 : I64 b2) : Spec Try.prog 9 [.list 1 (l.map intf), .agg [.int .i64 a0, .int .i64 a1, .int .i64 a2], .agg [.int .i64 b0, .int .i64 b1, .int .i64 b2]] .fr (.bool true) := by
  obtain ⟨h, hh⟩ : ∃ h, bentH l a0 a1 a2 b0 b1 b2 = h := ⟨_, rfl⟩
  have hf := bentH_fine l a0 a1 a2 b0 b1 b2
  have hB := bent_spec l a0 a1 a2 b0 b1 b2 hl hlen i0 i1 i2 j0 j1 j2
  rw [hh] at hf hB
  have hlen60 := hf.len
  have hin := hf.inn
  have hC := onceCheck_spec h (by omega) hin
  have hR := onceR_fine hf
  have hord := onceV_len h
  have hM := missing_spec h (by omega) hin
  have hM2 := missing24_spec h (by omega)
  have hMl := missTo_len h h.length
  obtain ⟨M, hM0⟩ : ∃ M, missTo h h.length = M := ⟨_, rfl⟩
  rw [hM0] at hM hM2 hMl
  have hS : Spec (Try.prog) 32 [.list 1 (M.map intf), .list 1 (M.map intf)] .fr (.bool true) := by
    have := sameInts_spec M M (by omega) (by omega)
    rwa [decide_eq_true rfl] at this
  refine Spec.of_body (c := (cxOf Try.prog tyAt_ok mixed_ok 116)) ⟨Try.func9, rfl, Try.ntmps9, by kernel_rfl⟩ (by simp [FV.hand]) (by exact Nat.le_of_ble_eq_true rfl) rfl ?_
  change FW _ _ _ ⟨[(0, .list 1 (l.map intf)), (1, .agg [.int .i64 a0, .int .i64 a1, .int .i64 a2]), (2, .agg [.int .i64 b0, .int .i64 b1, .int .i64 b2])], []⟩
  by_cases hd : dom24 h
  · rw [if_pos hd] at hR
    rw [hR] at hC
    (repeat (first | refine FW.seq ?_ | refine FW.region ?_ | refine RunN.nil ?_ | refine rn_boxA rfl rfl rfl rfl rfl rfl rfl ?_ | refine rn_assign rfl rfl rfl ?_ | refine rn_move rfl rfl rfl ?_ | refine rn_loadPA rfl rfl rfl (by decide) rfl rfl (by first | omega | (simp; omega) | (simp; done)) (by first | exact getD_map (by omega) | rfl) rfl rfl rfl ?_))
    refine rn_callO hB (by repeat (first | exact ArgsR.nil | refine ArgsR.cons (by first | exact ArgR.plain rfl rfl) ?_)) (List.length_map _) rfl rfl rfl ?_
    refine RunN.le ?_ (FLe.share 17 rfl rfl (List.length_map _).symm)
    (repeat (first | refine FW.seq ?_ | refine FW.region ?_ | refine RunN.nil ?_ | refine rn_assign rfl rfl rfl ?_ | refine rn_move rfl rfl rfl ?_))
    refine rn_callS hC (by repeat (first | exact ArgsR.nil | refine ArgsR.cons (by first | exact ArgR.plain rfl rfl) ?_)) rfl rfl ?_
    (repeat (first | refine FW.seq ?_ | refine FW.region ?_ | refine FW.skip ?_ | refine FW.condF rfl ?_ | refine RunN.nil ?_ | refine rn_assign rfl rfl rfl ?_ | refine rn_move rfl rfl rfl ?_ | refine rn_extract rfl rfl rfl rfl rfl ?_ | refine rn_alloc rfl rfl rfl rfl rfl rfl rfl ?_ | refine rn_storeVA rfl rfl rfl rfl rfl rfl rfl rfl rfl ?_ | refine rn_neq rfl rfl rfl rfl ?_))
    refine rn_callO hM (by repeat (first | exact ArgsR.nil | refine ArgsR.cons (by first | exact ArgR.plain rfl rfl) ?_)) (List.length_map _) rfl rfl rfl ?_
    (repeat (first | refine FW.seq ?_ | refine FW.region ?_ | refine RunN.nil ?_ | refine rn_assign rfl rfl rfl ?_ | refine rn_move rfl rfl rfl ?_))
    refine rn_callO hM2 (by repeat (first | exact ArgsR.nil | refine ArgsR.cons (by first | exact ArgR.plain rfl rfl) ?_)) (List.length_map _) rfl rfl rfl ?_
    skip
    refine rn_call hS (by repeat (first | exact ArgsR.nil | refine ArgsR.cons (by first | exact ArgR.own rfl rfl (by decide) (by first | exact (fun _ => rfl) | (intro h; cases h)) (by first | rfl | (simp; done) | (congr 1; omega) | (simp; omega))) ?_)) rfl rfl ?_
    (repeat (first | refine FW.seq ?_ | refine FW.region ?_ | refine FW.block ?_ | refine FW.skip ?_ | refine FW.condF rfl ?_ | refine RunN.nil ?_ | refine rn_assign rfl rfl rfl ?_ | refine rn_not rfl rfl rfl ?_))
    refine FW.loop (fun i : Nat => ⟨[(7, .list 8 (h.map OpV.fv)), (8, .ptr 100 0 0 0), (10, .own 101 0 0 M.length), (11, .int .i64 i)], [(100, ⟨0, .own, 52, 5, [(onceV h).fv]⟩), (101, ⟨0, .own, 3, 1, M.map intf⟩)]⟩) (fun i => i ≤ h.length) (fun i => h.length - i) 0 (Nat.zero_le _)
      (FLe.conv [⟨100, some 8, 1, ⟨0, .own, 52, 5, [(onceV h).fv]⟩⟩, ⟨101, some 27, 1, ⟨0, .own, 3, 1, M.map intf⟩⟩] (by simp) (by simp) (by repeat (first | exact EntsOk.nil | refine EntsOk.old rfl (by decide) (by first | rfl | (simp; done) | (congr 1; omega) | (simp; omega)) ?_)) (by repeat (first | exact SlC.nil | refine SlC.cons (.plain rfl rfl (by first | rfl | (simp; done) | (congr 1; omega) | (simp; omega))) ?_ | refine SlC.cons (.ptr rfl (.head _) rfl) ?_ | refine SlC.cons (.own rfl (.tail _ (.head _)) rfl (by first | rfl | (simp; done) | (congr 1; omega) | (simp; omega))) ?_))) ?_
    intro i hi
    (repeat (first | refine FW.seq ?_ | refine FW.region ?_ | refine rn_move rfl rfl rfl ?_ | refine rn_lenList rfl rfl (by first | exact List.length_map _ | exact (List.length_map _).symm | exact List.length_replicate | rfl | (simp; done) | omega | (simp; omega)) rfl rfl ?_ | refine rn_lss rfl rfl rfl rfl ?_))
    refine rn_case (fun h1 => ?_) (fun h1 => ?_)
    · (repeat (first | refine RunN.nil ?_ | refine rn_pickT rfl rfl rfl rfl ?_ | refine rn_fieldP rfl rfl rfl rfl rfl rfl (by decide) rfl ⟨_, _, rfl, rfl, rfl⟩ ?_ | refine rn_loadP rfl rfl rfl rfl rfl (by first | omega | (simp; omega) | (simp; done)) (by first | exact getD_map (by omega) | rfl) rfl rfl rfl ⟨_, _, rfl, rfl, rfl⟩ ?_ | refine rn_eql rfl rfl rfl ⟨_, _, rfl, rfl, rfl⟩ ?_))
      refine FW.cond rfl (fun hcls => ?_) (fun hcls => ?_)
      · have hcls : (onceV h).cls = 0 := by simpa using hcls
        have hlt : i < h.length := by simpa using h1
        clear h1
        (repeat (first | refine FW.seq ?_ | refine FW.region ?_ | refine FW.block ?_ | refine FW.skip ?_ | refine rn_move rfl rfl rfl ?_ | refine rn_loadE rfl rfl rfl (by first | omega | (simp; omega) | (simp; done)) (by first | exact getD_map (by omega) | rfl) rfl rfl rfl rfl ?_ | refine rn_neq rfl rfl rfl rfl ?_ | refine rn_fieldE rfl rfl rfl rfl rfl rfl rfl ?_ | refine rn_indexL rfl rfl (by first | rfl | exact (Int.toNat_of_nonneg (by omega)).symm) rfl rfl rfl (by first | omega | (simp; omega) | (simp; done)) rfl rfl ?_))
        refine rn_case (fun h3 => ?_) (fun h3 => ?_)
        · (repeat (first | refine FW.region ?_ | refine FW.exit ?_ | refine FW.condT rfl ?_ | refine RunN.nil ?_ | refine rn_assign rfl rfl rfl ?_ | refine rn_move rfl rfl rfl ?_ | refine rn_pickT rfl rfl rfl rfl ?_ | refine rn_add rfl rfl (by omega) rfl rfl ?_ | refine rn_skip rfl rfl ⟨_, _, rfl, rfl, rfl⟩ ?_))
          exact ⟨i + 1, by omega, by omega, (FLe.conv [⟨100, some 100, 0, ⟨0, .own, 52, 5, [(onceV h).fv]⟩⟩, ⟨101, some 101, 0, ⟨0, .own, 3, 1, M.map intf⟩⟩] (by simp) (by simp) (by repeat (first | exact EntsOk.nil | refine EntsOk.old rfl (by decide) (by first | rfl | (simp; done) | (congr 1; omega) | (simp; omega)) ?_)) (by repeat (first | exact SlC.nil | refine SlC.cons (.plain rfl rfl (by first | rfl | (simp; done) | (congr 1; omega) | (simp; omega))) ?_ | refine SlC.cons (.ptr rfl (.head _) rfl) ?_ | refine SlC.cons (.own rfl (.tail _ (.head _)) rfl (by first | rfl | (simp; done) | (congr 1; omega) | (simp; omega))) ?_)))⟩
        · have h3 : (nth h i).k = 3 := by simpa using h3
          have harg : (nth h i).arg ≠ 0 := by
            rcases hd i hlt with h0 | ⟨_, h0, _⟩
            · omega
            · exact h0
          (repeat (first | refine RunN.nil ?_ | refine rn_pickF rfl rfl rfl rfl ?_ | refine rn_fieldE rfl rfl rfl rfl rfl rfl ⟨_, _, rfl, rfl, rfl⟩ ?_ | refine rn_loadE rfl rfl rfl (by first | omega | (simp; omega) | (simp; done)) (by first | exact getD_map (by omega) | rfl) rfl rfl rfl ⟨_, _, rfl, rfl, rfl⟩ ?_ | refine rn_move rfl rfl ⟨_, _, rfl, rfl, rfl⟩ ?_ | refine rn_indexL rfl rfl (by first | rfl | exact (Int.toNat_of_nonneg (by omega)).symm) rfl rfl rfl (by first | omega | (simp; omega) | (simp; done)) rfl ⟨_, _, rfl, rfl, rfl⟩ ?_ | refine rn_not rfl rfl ⟨_, _, rfl, rfl, rfl⟩ ?_))
          refine FW.cond rfl (fun hdn => ?_) (fun hdn => ?_)
          · (repeat (first | refine FW.region ?_ | refine FW.exit ?_ | refine RunN.nil ?_ | refine rn_assign rfl rfl rfl ?_ | refine rn_move rfl rfl rfl ?_ | refine rn_add rfl rfl (by omega) rfl rfl ?_))
            exact ⟨i + 1, by omega, by omega, (FLe.conv [⟨100, some 100, 0, ⟨0, .own, 52, 5, [(onceV h).fv]⟩⟩, ⟨101, some 101, 0, ⟨0, .own, 3, 1, M.map intf⟩⟩] (by simp) (by simp) (by repeat (first | exact EntsOk.nil | refine EntsOk.old rfl (by decide) (by first | rfl | (simp; done) | (congr 1; omega) | (simp; omega)) ?_)) (by repeat (first | exact SlC.nil | refine SlC.cons (.plain rfl rfl (by first | rfl | (simp; done) | (congr 1; omega) | (simp; omega))) ?_ | refine SlC.cons (.ptr rfl (.head _) rfl) ?_ | refine SlC.cons (.own rfl (.tail _ (.head _)) rfl (by first | rfl | (simp; done) | (congr 1; omega) | (simp; omega))) ?_)))⟩
          · have hdn : (nth h i).done = true := by simpa using hdn
            (repeat (first | refine FW.seq ?_ | refine FW.region ?_ | refine FW.block ?_ | refine FW.skip ?_ | refine RunN.nil ?_ | refine rn_assign rfl rfl rfl ?_))
            refine FW.loop (fun k : Nat => ⟨[(7, .list 8 (h.map OpV.fv)), (8, .ptr 100 0 0 0), (10, .own 101 0 0 M.length), (11, .int .i64 i), (12, .int .i64 (cntDel h (nth h i) k)), (13, .int .i64 k)], [(100, ⟨0, .own, 52, 5, [(onceV h).fv]⟩), (101, ⟨0, .own, 3, 1, M.map intf⟩)]⟩) (fun k => k ≤ h.length) (fun k => h.length - k) 0 (Nat.zero_le _)
              (FLe.conv [⟨100, some 100, 0, ⟨0, .own, 52, 5, [(onceV h).fv]⟩⟩, ⟨101, some 101, 0, ⟨0, .own, 3, 1, M.map intf⟩⟩] (by simp) (by simp) (by repeat (first | exact EntsOk.nil | refine EntsOk.old rfl (by decide) (by first | rfl | (simp; done) | (congr 1; omega) | (simp; omega)) ?_)) (by repeat (first | exact SlC.nil | refine SlC.cons (.plain rfl rfl (by first | rfl | (simp; done) | (congr 1; omega) | (simp; omega))) ?_ | refine SlC.cons (.ptr rfl (.head _) rfl) ?_ | refine SlC.cons (.own rfl (.tail _ (.head _)) rfl (by first | rfl | (simp; done) | (congr 1; omega) | (simp; omega))) ?_))) ?_
            intro k hk
            have hck := cntDel_le h (nth h i) k
            (repeat (first | refine FW.seq ?_ | refine FW.region ?_ | refine RunN.nil ?_ | refine rn_move rfl rfl rfl ?_ | refine rn_lenList rfl rfl (by first | exact List.length_map _ | exact (List.length_map _).symm | exact List.length_replicate | rfl | (simp; done) | omega | (simp; omega)) rfl rfl ?_ | refine rn_lss rfl rfl rfl rfl ?_))
            refine FW.cond rfl (fun h5 => ?_) (fun h5 => ?_)
            · have hkl : k < h.length := by simpa using h5
              clear h5
              (repeat (first | refine FW.seq ?_ | refine FW.block ?_ | refine FW.skip ?_ | refine FW.draw ?_ | refine rd_move rfl rfl rfl ?_ | refine rd_loadE rfl rfl rfl (by first | omega | (simp; omega) | (simp; done)) (by first | exact getD_map (by omega) | rfl) rfl rfl rfl rfl ?_ | refine rd_fieldE rfl rfl rfl rfl rfl rfl rfl ?_ | refine rd_eql rfl rfl rfl rfl ?_ | refine rd_indexL rfl rfl (by first | rfl | exact (Int.toNat_of_nonneg (by omega)).symm) rfl rfl rfl (by first | omega | (simp; omega) | (simp; done)) rfl rfl ?_))
              refine rd_case (fun q1 => ?_) (fun q1 => ?_)
              · (repeat (first | refine rd_move rfl rfl rfl ?_ | refine rd_pickT rfl rfl rfl rfl ?_ | refine rd_fieldE rfl rfl rfl rfl rfl rfl ⟨_, _, rfl, rfl, rfl⟩ ?_ | refine rd_loadE rfl rfl rfl (by first | omega | (simp; omega) | (simp; done)) (by first | exact getD_map (by omega) | rfl) rfl rfl rfl ⟨_, _, rfl, rfl, rfl⟩ ?_ | refine rd_move rfl rfl ⟨_, _, rfl, rfl, rfl⟩ ?_ | refine rd_indexL rfl rfl (by first | rfl | exact (Int.toNat_of_nonneg (by omega)).symm) rfl rfl rfl (by first | omega | (simp; omega) | (simp; done)) rfl ⟨_, _, rfl, rfl, rfl⟩ ?_))
                refine rd_case (fun q2 => ?_) (fun q2 => ?_)
                · (repeat (first | refine rd_move rfl rfl rfl ?_ | refine rd_pickT rfl rfl rfl rfl ?_ | refine rd_fieldE rfl rfl rfl rfl rfl rfl ⟨_, _, rfl, rfl, rfl⟩ ?_ | refine rd_loadE rfl rfl rfl (by first | omega | (simp; omega) | (simp; done)) (by first | exact getD_map (by omega) | rfl) rfl rfl rfl ⟨_, _, rfl, rfl, rfl⟩ ?_ | refine rd_eql rfl rfl rfl ⟨_, _, rfl, rfl, rfl⟩ ?_ | refine rd_move rfl rfl ⟨_, _, rfl, rfl, rfl⟩ ?_ | refine rd_indexL rfl rfl (by first | rfl | exact (Int.toNat_of_nonneg (by omega)).symm) rfl rfl rfl (by first | omega | (simp; omega) | (simp; done)) rfl ⟨_, _, rfl, rfl, rfl⟩ ?_))
                  refine rd_case (fun q3 => ?_) (fun q3 => ?_)
                  · (repeat (first | refine RunD.nil ?_ | refine rd_pickT rfl rfl rfl rfl ?_ | refine rd_fieldE rfl rfl rfl rfl rfl rfl ⟨_, _, rfl, rfl, rfl⟩ ?_ | refine rd_loadE rfl rfl rfl (by first | omega | (simp; omega) | (simp; done)) (by first | exact getD_map (by omega) | rfl) rfl rfl rfl ⟨_, _, rfl, rfl, rfl⟩ ?_ | refine rd_eql rfl rfl rfl ⟨_, _, rfl, rfl, rfl⟩ ?_ | refine rd_move rfl rfl ⟨_, _, rfl, rfl, rfl⟩ ?_ | refine rd_indexL rfl rfl (by first | rfl | exact (Int.toNat_of_nonneg (by omega)).symm) rfl rfl rfl (by first | omega | (simp; omega) | (simp; done)) rfl ⟨_, _, rfl, rfl, rfl⟩ ?_))
                    refine ⟨by kernel_rfl, ?_⟩
                    refine FW.cond rfl (fun q4 => ?_) (fun q4 => ?_)
                    · (repeat (first | refine FW.region ?_ | refine RunN.nil ?_ | refine rn_assign rfl rfl rfl ?_ | refine rn_move rfl rfl rfl ?_ | refine rn_add rfl rfl (by omega) rfl rfl ?_))
                      refine ⟨k + 1, by omega, by omega, ?_⟩
                      rw [cntDel_succ, if_pos (by simp at q1 q2 q3 q4; simp [delOf, isDel, q1, q2, q3, q4, harg])]
                      exact (FLe.conv [⟨100, some 100, 0, ⟨0, .own, 52, 5, [(onceV h).fv]⟩⟩, ⟨101, some 101, 0, ⟨0, .own, 3, 1, M.map intf⟩⟩] (by simp) (by simp) (by repeat (first | exact EntsOk.nil | refine EntsOk.old rfl (by decide) (by first | rfl | (simp; done) | (congr 1; omega) | (simp; omega)) ?_)) (by repeat (first | exact SlC.nil | refine SlC.cons (.plain rfl rfl (by first | rfl | (simp; done) | (congr 1; omega) | (simp; omega))) ?_ | refine SlC.cons (.ptr rfl (.head _) rfl) ?_ | refine SlC.cons (.own rfl (.tail _ (.head _)) rfl (by first | rfl | (simp; done) | (congr 1; omega) | (simp; omega))) ?_)))
                    · (repeat (first | refine FW.region ?_ | refine FW.skip ?_ | refine RunN.nil ?_ | refine rn_assign rfl rfl rfl ?_ | refine rn_move rfl rfl rfl ?_ | refine rn_add rfl rfl (by omega) rfl rfl ?_))
                      refine ⟨k + 1, by omega, by omega, ?_⟩
                      rw [cntDel_succ, if_neg (by simp at q4; simp [delOf, q4]), Nat.add_zero]
                      exact (FLe.conv [⟨100, some 100, 0, ⟨0, .own, 52, 5, [(onceV h).fv]⟩⟩, ⟨101, some 101, 0, ⟨0, .own, 3, 1, M.map intf⟩⟩] (by simp) (by simp) (by repeat (first | exact EntsOk.nil | refine EntsOk.old rfl (by decide) (by first | rfl | (simp; done) | (congr 1; omega) | (simp; omega)) ?_)) (by repeat (first | exact SlC.nil | refine SlC.cons (.plain rfl rfl (by first | rfl | (simp; done) | (congr 1; omega) | (simp; omega))) ?_ | refine SlC.cons (.ptr rfl (.head _) rfl) ?_ | refine SlC.cons (.own rfl (.tail _ (.head _)) rfl (by first | rfl | (simp; done) | (congr 1; omega) | (simp; omega))) ?_)))
                  · (repeat (first | refine RunD.nil ?_ | refine rd_pickF rfl rfl rfl rfl ?_ | refine rd_skip rfl rfl ⟨_, _, rfl, rfl, rfl⟩ ?_))
                    refine ⟨by kernel_rfl, ?_⟩
                    (repeat (first | refine FW.region ?_ | refine FW.skip ?_ | refine FW.condF rfl ?_ | refine RunN.nil ?_ | refine rn_assign rfl rfl rfl ?_ | refine rn_move rfl rfl rfl ?_ | refine rn_add rfl rfl (by omega) rfl rfl ?_))
                    refine ⟨k + 1, by omega, by omega, ?_⟩
                    rw [cntDel_succ, if_neg (by simp at q3; simp [delOf, q3]), Nat.add_zero]
                    exact (FLe.conv [⟨100, some 100, 0, ⟨0, .own, 52, 5, [(onceV h).fv]⟩⟩, ⟨101, some 101, 0, ⟨0, .own, 3, 1, M.map intf⟩⟩] (by simp) (by simp) (by repeat (first | exact EntsOk.nil | refine EntsOk.old rfl (by decide) (by first | rfl | (simp; done) | (congr 1; omega) | (simp; omega)) ?_)) (by repeat (first | exact SlC.nil | refine SlC.cons (.plain rfl rfl (by first | rfl | (simp; done) | (congr 1; omega) | (simp; omega))) ?_ | refine SlC.cons (.ptr rfl (.head _) rfl) ?_ | refine SlC.cons (.own rfl (.tail _ (.head _)) rfl (by first | rfl | (simp; done) | (congr 1; omega) | (simp; omega))) ?_)))
                · (repeat (first | refine RunD.nil ?_ | refine rd_move rfl rfl rfl ?_ | refine rd_pickF rfl rfl rfl rfl ?_ | refine rd_skip rfl rfl ⟨_, _, rfl, rfl, rfl⟩ ?_))
                  refine ⟨by kernel_rfl, ?_⟩
                  (repeat (first | refine FW.region ?_ | refine FW.skip ?_ | refine FW.condF rfl ?_ | refine RunN.nil ?_ | refine rn_assign rfl rfl rfl ?_ | refine rn_move rfl rfl rfl ?_ | refine rn_add rfl rfl (by omega) rfl rfl ?_))
                  refine ⟨k + 1, by omega, by omega, ?_⟩
                  rw [cntDel_succ, if_neg (by simp [delOf, isDel, q2]), Nat.add_zero]
                  exact (FLe.conv [⟨100, some 100, 0, ⟨0, .own, 52, 5, [(onceV h).fv]⟩⟩, ⟨101, some 101, 0, ⟨0, .own, 3, 1, M.map intf⟩⟩] (by simp) (by simp) (by repeat (first | exact EntsOk.nil | refine EntsOk.old rfl (by decide) (by first | rfl | (simp; done) | (congr 1; omega) | (simp; omega)) ?_)) (by repeat (first | exact SlC.nil | refine SlC.cons (.plain rfl rfl (by first | rfl | (simp; done) | (congr 1; omega) | (simp; omega))) ?_ | refine SlC.cons (.ptr rfl (.head _) rfl) ?_ | refine SlC.cons (.own rfl (.tail _ (.head _)) rfl (by first | rfl | (simp; done) | (congr 1; omega) | (simp; omega))) ?_)))
              · (repeat (first | refine RunD.nil ?_ | refine rd_move rfl rfl rfl ?_ | refine rd_pickF rfl rfl rfl rfl ?_ | refine rd_skip rfl rfl ⟨_, _, rfl, rfl, rfl⟩ ?_))
                refine ⟨by kernel_rfl, ?_⟩
                (repeat (first | refine FW.region ?_ | refine FW.skip ?_ | refine FW.condF rfl ?_ | refine RunN.nil ?_ | refine rn_assign rfl rfl rfl ?_ | refine rn_move rfl rfl rfl ?_ | refine rn_add rfl rfl (by omega) rfl rfl ?_))
                refine ⟨k + 1, by omega, by omega, ?_⟩
                rw [cntDel_succ, if_neg (by simp at q1; simp [delOf, isDel, q1]), Nat.add_zero]
                exact (FLe.conv [⟨100, some 100, 0, ⟨0, .own, 52, 5, [(onceV h).fv]⟩⟩, ⟨101, some 101, 0, ⟨0, .own, 3, 1, M.map intf⟩⟩] (by simp) (by simp) (by repeat (first | exact EntsOk.nil | refine EntsOk.old rfl (by decide) (by first | rfl | (simp; done) | (congr 1; omega) | (simp; omega)) ?_)) (by repeat (first | exact SlC.nil | refine SlC.cons (.plain rfl rfl (by first | rfl | (simp; done) | (congr 1; omega) | (simp; omega))) ?_ | refine SlC.cons (.ptr rfl (.head _) rfl) ?_ | refine SlC.cons (.own rfl (.tail _ (.head _)) rfl (by first | rfl | (simp; done) | (congr 1; omega) | (simp; omega))) ?_)))
            · have : k = h.length := by simp at h5; omega
              subst this
              have hone := cntDel_one hcls (nth h i) h.length (Nat.le_refl _)
              have hmiss := once_miss hlt h3 hdn
              rw [hM0] at hmiss
              (repeat (first | refine FW.seq ?_ | refine FW.region ?_ | refine FW.exit ?_ | refine rn_move rfl rfl rfl ?_ | refine rn_gtr rfl rfl rfl rfl ?_))
              refine rn_case (fun h6 => ?_) (fun h6 => ?_)
              · exfalso; simp at h6; omega
              · (repeat (first | refine rn_eql rfl rfl rfl ⟨_, _, rfl, rfl, rfl⟩ ?_ | refine rn_move rfl rfl ⟨_, _, rfl, rfl, rfl⟩ ?_))
                refine rn_call (has_spec M i (by omega)) (by repeat (first | exact ArgsR.nil | refine ArgsR.cons (by first | exact ArgR.plain rfl rfl | exact ArgR.own rfl rfl (by decide) (by first | exact (fun _ => rfl) | (intro h; cases h)) (by first | rfl | (simp; done) | (congr 1; omega) | (simp; omega))) ?_)) rfl ⟨_, _, rfl, rfl, rfl⟩ ?_
                (repeat (first | refine RunN.nil ?_ | refine rn_pickF rfl rfl rfl rfl ?_ | refine rn_neqB rfl rfl rfl rfl ⟨_, _, rfl, rfl, rfl⟩ ?_))
                refine FW.cond rfl (fun h7 => ?_) (fun h7 => ?_)
                · exfalso
                  simp [hasB] at h7
                  simp at hmiss
                  rw [hmiss] at h7
                  simp at h7
                · (repeat (first | refine FW.region ?_ | refine FW.skip ?_ | refine RunN.nil ?_ | refine rn_assign rfl rfl rfl ?_ | refine rn_move rfl rfl rfl ?_ | refine rn_add rfl rfl (by omega) rfl rfl ?_))
                  exact ⟨i + 1, by omega, by omega, (FLe.conv [⟨100, some 100, 0, ⟨0, .own, 52, 5, [(onceV h).fv]⟩⟩, ⟨101, some 101, 0, ⟨0, .own, 3, 1, M.map intf⟩⟩] (by simp) (by simp) (by repeat (first | exact EntsOk.nil | refine EntsOk.old rfl (by decide) (by first | rfl | (simp; done) | (congr 1; omega) | (simp; omega)) ?_)) (by repeat (first | exact SlC.nil | refine SlC.cons (.plain rfl rfl (by first | rfl | (simp; done) | (congr 1; omega) | (simp; omega))) ?_ | refine SlC.cons (.ptr rfl (.head _) rfl) ?_ | refine SlC.cons (.own rfl (.tail _ (.head _)) rfl (by first | rfl | (simp; done) | (congr 1; omega) | (simp; omega))) ?_)))⟩
      · (repeat (first | refine FW.seq ?_ | refine FW.region ?_ | refine FW.exit ?_))
        refine rn_call lives_spec (by repeat (first | exact ArgsR.nil)) rfl rfl ?_
        (repeat (first | refine RunN.nil ?_ | refine rn_assign rfl rfl rfl ?_))
        refine FW.ret ⟨.inl rfl, ret_flat rfl rfl rfl rfl⟩
    · (repeat (first | refine FW.seq ?_ | refine FW.region ?_ | refine FW.exit ?_ | refine FW.condF rfl ?_ | refine RunN.nil ?_ | refine rn_pickF rfl rfl rfl rfl ?_ | refine rn_skip rfl rfl ⟨_, _, rfl, rfl, rfl⟩ ?_))
      refine rn_call lives_spec (by repeat (first | exact ArgsR.nil)) rfl rfl ?_
      (repeat (first | refine RunN.nil ?_ | refine rn_assign rfl rfl rfl ?_))
      refine FW.ret ⟨.inl rfl, ret_flat rfl rfl rfl rfl⟩
  · rw [if_neg hd] at hR
    rw [hR] at hC
    (repeat (first | refine FW.seq ?_ | refine FW.region ?_ | refine RunN.nil ?_ | refine rn_boxA rfl rfl rfl rfl rfl rfl rfl ?_ | refine rn_assign rfl rfl rfl ?_ | refine rn_move rfl rfl rfl ?_ | refine rn_loadPA rfl rfl rfl (by decide) rfl rfl (by first | omega | (simp; omega) | (simp; done)) (by first | exact getD_map (by omega) | rfl) rfl rfl rfl ?_))
    refine rn_callO hB (by repeat (first | exact ArgsR.nil | refine ArgsR.cons (by first | exact ArgR.plain rfl rfl) ?_)) (List.length_map _) rfl rfl rfl ?_
    refine RunN.le ?_ (FLe.share 17 rfl rfl (List.length_map _).symm)
    (repeat (first | refine FW.seq ?_ | refine FW.region ?_ | refine RunN.nil ?_ | refine rn_assign rfl rfl rfl ?_ | refine rn_move rfl rfl rfl ?_))
    refine rn_callS hC (by repeat (first | exact ArgsR.nil | refine ArgsR.cons (by first | exact ArgR.plain rfl rfl) ?_)) rfl rfl ?_
    (repeat (first | refine FW.seq ?_ | refine FW.region ?_ | refine FW.condT rfl ?_ | refine RunN.nil ?_ | refine rn_assign rfl rfl rfl ?_ | refine rn_move rfl rfl rfl ?_ | refine rn_extract rfl rfl rfl rfl rfl ?_ | refine rn_alloc rfl rfl rfl rfl rfl rfl rfl ?_ | refine rn_storeVA rfl rfl rfl rfl rfl rfl rfl rfl rfl ?_ | refine rn_neq rfl rfl rfl rfl ?_))
    refine rn_call lives_spec (by repeat (first | exact ArgsR.nil)) rfl rfl ?_
    (repeat (first | refine RunN.nil ?_ | refine rn_assign rfl rfl rfl ?_))
    refine FW.ret ⟨.inl rfl, ret_flat rfl rfl rfl rfl⟩
end Go.Proofs.Ythijndjgchbeoaa
