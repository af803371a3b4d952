/-
  simprooflaw22.SerialStrict answers true for every input (walked on plain values).
-/
import Derived.Test.YtfegkbmnclhljaaZFmSer7
import Derived.Test.YtfegkbmnclhljaaZG
namespace Go.Proofs.Ytfegkbmnclhljaa
set_option linter.unusedVariables false
open Go.RowKit

def plTo (R : List EdV) (i : Nat) : Nat := ((R.take i).filter notRt).length
set_option maxHeartbeats 4000000 in
theorem serialStrict_spec (l : List Int) (f : Bool) (hl : ∀ x ∈ l, I64 x) (hlen : l.length ≤ 9223372036854775807) : Spec Try.prog 7 [.list 1 (l.map intf), .bool f] .fr (.bool true) := by
  have hH := histS_spec 12 f l (by decide) hl hlen
  have hin := histS_in (f := f) (l := l) (by decide : 12 ≤ 12)
  have hHl := histS_len (f := f) (l := l) (by decide : 12 ≤ 12)
  have hcr := histS_cr (f := f) (l := l) (by decide : 12 ≤ 12)
  refine Spec.of_body (c := (cxOf Try.prog tyAt_ok mixed_ok 97)) ⟨Try.func7, rfl, Try.ntmps7, by kernel_rfl⟩ (by simp [FV.hand]) (by exact Nat.le_of_ble_eq_true rfl) rfl ?_
  change FW _ _ _ ⟨[(0, .list 1 (l.map intf)), (1, .bool f)], []⟩
  (repeat (first | refine FW.seq ?_ | refine FW.region ?_ | refine RunN.nil ?_ | refine rn_assign rfl rfl rfl ?_ | refine rn_move rfl rfl rfl ?_))
  refine rn_callO hH (by repeat (first | exact ArgsR.nil | refine ArgsR.cons (by first | exact ArgR.plain rfl rfl) ?_)) (List.length_map _) rfl rfl rfl ?_
  refine RunN.le ?_ (FLe.share 16 rfl rfl (by rw [List.length_map]))
  generalize histS 12 f l = H at hH hin hHl hcr
  have hsT := sCheck_spec H true hHl hin
  have hsF := sCheck_spec H false hHl hin
  have heT := edges_spec H true (by omega)
  have heF := edges_spec H false (by omega)
  have hfil := edges_plain (l := H)
  have hrt := fun e he h5 => edge_rt (l := H) (s := true) (e := e) he h5
  have hlT := edTo_len H true H.length
  obtain ⟨R, hR⟩ : ∃ R, edges22 H true = R := ⟨_, rfl⟩
  obtain ⟨E, hE⟩ : ∃ E, resE H = E := ⟨_, rfl⟩
  obtain ⟨VT, hVT⟩ : ∃ V, resV H true = V := ⟨_, rfl⟩
  obtain ⟨VF, hVF⟩ : ∃ V, resV H false = V := ⟨_, rfl⟩
  have hlT : R.length ≤ 576 := by
    rw [← hR]
    refine Nat.le_trans hlT ?_
    exact Nat.le_trans (Nat.mul_le_mul (Nat.mul_le_mul (Nat.le_refl 4) hHl) hHl) (by decide)
  rw [hR] at heT hfil hrt
  rw [← hfil] at heF
  rw [hVT, hE] at hsT
  rw [hVF, hE] at hsF
  (repeat (first | refine FW.seq ?_ | refine FW.region ?_ | refine RunN.nil ?_ | refine rn_assign rfl rfl rfl ?_ | refine rn_move rfl rfl rfl ?_))
  refine rn_callS hsT (by repeat (first | exact ArgsR.nil | refine ArgsR.cons (by first | exact ArgR.plain rfl rfl) ?_)) rfl rfl ?_
  (repeat (first | refine FW.seq ?_ | refine FW.region ?_ | refine RunN.nil ?_ | refine rn_assign rfl rfl rfl ?_ | refine rn_move rfl rfl rfl ?_ | refine rn_extract rfl rfl rfl rfl rfl ?_ | refine rn_alloc rfl rfl rfl rfl rfl rfl rfl ?_ | refine rn_storeVA rfl rfl rfl rfl rfl rfl rfl rfl rfl ?_))
  refine rn_callS hsF (by repeat (first | exact ArgsR.nil | refine ArgsR.cons (by first | exact ArgR.plain rfl rfl) ?_)) rfl rfl ?_
  (repeat (first | refine FW.seq ?_ | refine FW.region ?_ | refine RunN.nil ?_ | refine rn_assign rfl rfl rfl ?_ | refine rn_move rfl rfl rfl ?_ | refine rn_extract rfl rfl rfl rfl rfl ?_ | refine rn_alloc rfl rfl rfl rfl rfl rfl rfl ?_ | refine rn_storeVA rfl rfl rfl rfl rfl rfl rfl rfl rfl ?_))
  refine rn_callO heF (by repeat (first | exact ArgsR.nil | refine ArgsR.cons (by first | exact ArgR.plain rfl rfl) ?_)) (List.length_map _) rfl rfl rfl ?_
  refine RunN.le ?_ (FLe.share 28 rfl rfl (by rw [List.length_map]))
  (repeat (first | refine FW.seq ?_ | refine FW.region ?_ | refine RunN.nil ?_ | refine rn_assign rfl rfl rfl ?_ | refine rn_move rfl rfl rfl ?_))
  refine rn_callO heT (by repeat (first | exact ArgsR.nil | refine ArgsR.cons (by first | exact ArgR.plain rfl rfl) ?_)) (List.length_map _) rfl rfl rfl ?_
  refine RunN.le ?_ (FLe.share 30 rfl rfl (by rw [List.length_map]))
  (repeat (first | refine FW.seq ?_ | refine FW.region ?_ | refine FW.block ?_ | refine RunN.nil ?_ | refine rn_assign rfl rfl rfl ?_))
  refine FW.loop (fun i : Nat => ⟨[(5, .list 8 (H.map OpV.fv)), (6, .ptr 106 0 0 0), (7, .int .i64 E), (8, .ptr 108 0 0 0), (9, .int .i64 E), (10, .list 3 ((R.filter notRt).map EdV.fv)), (11, .list 3 (R.map EdV.fv)), (12, .int .i64 (plTo R i)), (13, .int .i64 i)], [(106, ⟨0, .own, 33, 5, [VT.fv]⟩), (108, ⟨0, .own, 33, 5, [VF.fv]⟩)]⟩) (fun i => i ≤ R.length) (fun i => R.length - i) 0 (Nat.zero_le _) ?_ ?_
  · show FLe _ ⟨[(5, .list 8 (H.map OpV.fv)), (6, .ptr 106 0 0 0), (7, .int .i64 E), (8, .ptr 108 0 0 0), (9, .int .i64 E), (10, .list 3 ((R.filter notRt).map EdV.fv)), (11, .list 3 (R.map EdV.fv)), (12, .int .i64 0), (13, .int .i64 0)], [(106, ⟨0, .own, 33, 5, [VT.fv]⟩), (108, ⟨0, .own, 33, 5, [VF.fv]⟩)]⟩
    exact (FLe.conv [⟨106, some 6, 0 + 1, ⟨0, .own, 33, 5, [VT.fv]⟩⟩, ⟨108, some 8, 0 + 1, ⟨0, .own, 33, 5, [VF.fv]⟩⟩] (by simp) (by simp) rfl (by repeat (first | exact GhOk.nil | refine GhOk.low rfl ?_ | refine GhOk.same rfl ?_ | refine GhOk.bump (Nat.lt_succ_self _) ?_)) (by repeat (first | exact EntsOk.nil | refine EntsOk.old rfl (by decide) (by first | rfl | (simp; done) | (congr 1; omega) | (simp; omega) | (simp [List.take_of_length_le]; done) | (refine congrArg (FV.int .i64) ?_; omega)) ?_)) (by repeat (first | exact SlC.nil | refine SlC.cons (.plain rfl rfl (by first | rfl | (simp; done) | (congr 1; omega) | (simp; omega) | (simp [List.take_of_length_le]; done) | (refine congrArg (FV.int .i64) ?_; omega))) ?_ | refine SlC.cons (.ptr rfl (.head _) rfl) ?_ | refine SlC.cons (.ptr rfl (.tail _ (.head _)) rfl) ?_)))
  intro i hi
  (repeat (first | refine FW.seq ?_ | refine FW.region ?_ | refine RunN.nil ?_ | refine rn_move rfl rfl rfl ?_ | refine rn_lenList rfl rfl (by first | exact List.length_map _ | exact (List.length_map _).symm | exact List.length_replicate | rfl | (simp; done) | omega | (simp; omega)) rfl rfl ?_ | refine rn_lss rfl rfl rfl rfl ?_))
  refine FW.cond rfl (fun hc => ?_) (fun hc => ?_)
  · have hlt : i < R.length := by simpa using hc
    have hst := filter_step notRt hlt
    change plTo R (i + 1) = plTo R i + _ at hst
    have hle : plTo R i ≤ R.length := by unfold plTo; exact Nat.le_trans (List.length_filter_le _ _) (by simp; omega)
    (repeat (first | refine FW.seq ?_ | refine FW.region ?_ | refine FW.block ?_ | refine FW.skip ?_ | refine RunN.nil ?_ | refine rn_move rfl rfl rfl ?_ | refine rn_indexL rfl rfl (by first | rfl | exact (Int.toNat_of_nonneg (by omega)).symm) rfl rfl rfl (by first | omega | (simp; omega) | (simp; done)) rfl rfl ?_ | refine rn_fieldE rfl rfl rfl rfl rfl rfl rfl ?_ | refine rn_loadE rfl rfl rfl (by first | omega | (simp; omega) | (simp; done)) (by first | exact getD_map (by omega) | rfl) rfl rfl rfl rfl ?_ | refine rn_eql rfl rfl rfl rfl ?_))
    refine FW.cond rfl (fun h5 => ?_) (fun h5 => ?_)
    · have h5 : (nth R i).2.2 = 5 := by simpa using h5
      obtain ⟨ha, hb, hbf⟩ := hrt _ (nth_mem hlt) h5
      have hbs := hBeforeI_spec H (nth R i).1 (nth R i).2.1 (by omega)
      rw [befI_in ha hb, hbf] at hbs
      rw [if_neg (by unfold notRt; simp [h5])] at hst
      (repeat (first | refine FW.seq ?_ | refine FW.draw ?_ | refine rd_move rfl rfl rfl ?_ | refine rd_indexL rfl rfl (by first | rfl | exact (Int.toNat_of_nonneg (by omega)).symm) rfl rfl rfl (by first | omega | (simp; omega) | (simp; done)) rfl rfl ?_ | refine rd_fieldE rfl rfl rfl rfl rfl rfl rfl ?_ | refine rd_loadE rfl rfl rfl (by first | omega | (simp; omega) | (simp; done)) (by first | exact getD_map (by omega) | rfl) rfl rfl rfl rfl ?_))
      refine rd_call hbs (by repeat (first | exact ArgsR.nil | refine ArgsR.cons (by first | exact ArgR.plain rfl rfl) ?_)) rfl rfl ?_
      (repeat (first | refine RunD.nil ?_ | refine rd_not rfl rfl rfl ?_))
      refine ⟨by kernel_rfl, ?_⟩
      (repeat (first | refine FW.region ?_ | refine FW.skip ?_ | refine FW.exit ?_ | refine FW.condF rfl ?_ | refine RunN.nil ?_ | refine rn_assign rfl rfl rfl ?_ | refine rn_move rfl rfl rfl ?_ | refine rn_add rfl rfl (by omega) rfl rfl ?_))
      refine ⟨i + 1, by omega, by omega, ?_⟩
      rw [hst]
      exact (FLe.conv [⟨106, some 106, 0, ⟨0, .own, 33, 5, [VT.fv]⟩⟩, ⟨108, some 108, 0, ⟨0, .own, 33, 5, [VF.fv]⟩⟩] (by simp) (by simp) rfl (by repeat (first | exact GhOk.nil | refine GhOk.low rfl ?_ | refine GhOk.same rfl ?_ | refine GhOk.bump (Nat.lt_succ_self _) ?_)) (by repeat (first | exact EntsOk.nil | refine EntsOk.old rfl (by decide) (by first | rfl | (simp; done) | (congr 1; omega) | (simp; omega) | (simp [List.take_of_length_le]; done) | (refine congrArg (FV.int .i64) ?_; omega)) ?_)) (by repeat (first | exact SlC.nil | refine SlC.cons (.plain rfl rfl (by first | rfl | (simp; done) | (congr 1; omega) | (simp; omega) | (simp [List.take_of_length_le]; done) | (refine congrArg (FV.int .i64) ?_; omega))) ?_ | refine SlC.cons (.ptr rfl (.head _) rfl) ?_ | refine SlC.cons (.ptr rfl (.tail _ (.head _)) rfl) ?_)))
    · have h5 : (nth R i).2.2 ≠ 5 := by simpa using h5
      have hp : notRt (nth R i) = true := by unfold notRt; simpa using h5
      obtain ⟨hat, hnth⟩ := filter_at notRt hlt hp
      change plTo R i < _ at hat
      change nth _ (plTo R i) = _ at hnth
      rw [if_pos hp] at hst
      (repeat (first | refine FW.seq ?_ | refine FW.region ?_ | refine FW.skip ?_ | refine RunN.nil ?_ | refine rn_move rfl rfl rfl ?_ | refine rn_lenList rfl rfl (by first | exact List.length_map _ | exact (List.length_map _).symm | exact List.length_replicate | rfl | (simp; done) | omega | (simp; omega)) rfl rfl ?_ | refine rn_geq rfl rfl rfl rfl ?_))
      refine FW.cond rfl (fun hq => absurd hq (by simp; omega)) (fun _ => ?_)
      (repeat (first | refine FW.seq ?_ | refine FW.skip ?_ | refine FW.draw ?_ | refine rd_move rfl rfl rfl ?_ | refine rd_indexL rfl rfl (by first | rfl | exact (Int.toNat_of_nonneg (by omega)).symm) rfl rfl rfl (by first | omega | (simp; omega) | (simp; done)) rfl rfl ?_ | refine rd_loadEA rfl rfl rfl (by decide) (by first | omega | (simp; omega) | (simp; done)) (by first | exact getD_map (by omega) | rfl) rfl rfl rfl ?_))
      rw [hnth]
      refine rd_neA rfl rfl rfl rfl (eqAgg_ed (nth R i) (nth R i)) rfl rfl ?_
      (repeat (first | refine RunD.nil ?_))
      refine ⟨by kernel_rfl, ?_⟩
      skip
      refine FW.cond rfl (fun hq => absurd hq (by simp)) (fun _ => ?_)
      (repeat (first | refine FW.region ?_ | refine FW.skip ?_ | refine RunN.nil ?_ | refine rn_assign rfl rfl rfl ?_ | refine rn_move rfl rfl rfl ?_ | refine rn_add rfl rfl (by omega) rfl rfl ?_))
      refine ⟨i + 1, by omega, by omega, ?_⟩
      rw [hst]
      exact (FLe.conv [⟨106, some 106, 0, ⟨0, .own, 33, 5, [VT.fv]⟩⟩, ⟨108, some 108, 0, ⟨0, .own, 33, 5, [VF.fv]⟩⟩] (by simp) (by simp) rfl (by repeat (first | exact GhOk.nil | refine GhOk.low rfl ?_ | refine GhOk.same rfl ?_ | refine GhOk.bump (Nat.lt_succ_self _) ?_)) (by repeat (first | exact EntsOk.nil | refine EntsOk.old rfl (by decide) (by first | rfl | (simp; done) | (congr 1; omega) | (simp; omega) | (simp [List.take_of_length_le]; done) | (refine congrArg (FV.int .i64) ?_; omega)) ?_)) (by repeat (first | exact SlC.nil | refine SlC.cons (.plain rfl rfl (by first | rfl | (simp; done) | (congr 1; omega) | (simp; omega) | (simp [List.take_of_length_le]; done) | (refine congrArg (FV.int .i64) ?_; omega))) ?_ | refine SlC.cons (.ptr rfl (.head _) rfl) ?_ | refine SlC.cons (.ptr rfl (.tail _ (.head _)) rfl) ?_)))
  · obtain rfl : i = R.length := by simp at hc; omega
    have hpl : plTo R R.length = (R.filter notRt).length := by unfold plTo; rw [List.take_length]
    rw [hpl]
    obtain ⟨P, hP⟩ : ∃ P, R.filter notRt = P := ⟨_, rfl⟩
    rw [hP]
    clear heT heF
    (repeat (first | refine FW.seq ?_ | refine FW.region ?_ | refine FW.exit ?_ | refine rn_move rfl rfl rfl ?_ | refine rn_eql rfl rfl rfl rfl ?_))
    refine rn_case (fun _ => ?_) (fun h => absurd h (by simp))
    (repeat (first | refine rn_move rfl rfl rfl ?_ | refine rn_pickT rfl rfl rfl rfl ?_ | refine rn_move rfl rfl ⟨_, _, rfl, rfl, rfl⟩ ?_ | refine rn_lenList rfl rfl (by first | exact List.length_map _ | exact (List.length_map _).symm | exact List.length_replicate | rfl | (simp; done) | omega | (simp; omega)) rfl ⟨_, _, rfl, rfl, rfl⟩ ?_ | refine rn_eql rfl rfl rfl ⟨_, _, rfl, rfl, rfl⟩ ?_))
    refine rn_case (fun _ => ?_) (fun h => absurd h (by simp))
    (repeat (first | refine rn_move rfl rfl ⟨_, _, rfl, rfl, rfl⟩ ?_ | refine rn_neq rfl rfl rfl ⟨_, _, rfl, rfl, rfl⟩ ?_))
    have hv : E = 0 → VT.cls = 0 → VF.cls = 0 := by
      intro hE0 hc0
      have hd : dom22 H = true := by
        cases hd : dom22 H with
        | true => rfl
        | false => rw [← hE] at hE0; unfold resE at hE0; rw [if_neg (by rw [hd]; decide)] at hE0; cases hE0
      rw [← hVF]
      rw [← hVT] at hc0
      unfold resV at hc0 ⊢
      rw [if_pos hd] at hc0 ⊢
      exact holds_mono (dom22_iff.1 hd) (fun i hi => (hcr i hi).2) hc0
    refine rn_case (fun h1 => ?_) (fun h1 => ?_)
    · (repeat (first | refine rn_move rfl rfl rfl ?_ | refine rn_pickT rfl rfl rfl rfl ?_ | refine rn_move rfl rfl ⟨_, _, rfl, rfl, rfl⟩ ?_ | refine rn_pickT rfl rfl rfl ⟨_, _, rfl, rfl, rfl⟩ ?_ | refine rn_skip rfl rfl ⟨_, _, rfl, rfl, rfl⟩ ?_))
      refine rn_call lives22_spec (by repeat (first | exact ArgsR.nil)) rfl ⟨_, _, rfl, rfl, rfl⟩ ?_
      (repeat (first | refine RunN.nil ?_ | refine rn_assign rfl rfl rfl ?_ | refine rn_pickT rfl rfl rfl rfl ?_))
      exact FW.ret ⟨.inl rfl, ret_flat rfl rfl rfl rfl⟩
    · have h1 : E = 0 := by simpa using h1
      (repeat (first | refine rn_move rfl rfl ⟨_, _, rfl, rfl, rfl⟩ ?_ | refine rn_neq rfl rfl rfl ⟨_, _, rfl, rfl, rfl⟩ ?_ | refine rn_fieldP rfl rfl rfl rfl rfl rfl (by decide) rfl ⟨_, _, rfl, rfl, rfl⟩ ?_ | refine rn_loadP rfl rfl rfl rfl rfl (by first | omega | (simp; omega) | (simp; done)) (by first | exact getD_map (by omega) | rfl) rfl rfl rfl ⟨_, _, rfl, rfl, rfl⟩ ?_ | refine rn_pickF rfl rfl rfl ⟨_, _, rfl, rfl, rfl⟩ ?_))
      refine rn_case (fun h2 => ?_) (fun h2 => ?_)
      · (repeat (first | refine rn_move rfl rfl rfl ?_ | refine rn_pickT rfl rfl rfl rfl ?_ | refine rn_pickT rfl rfl rfl ⟨_, _, rfl, rfl, rfl⟩ ?_ | refine rn_skip rfl rfl ⟨_, _, rfl, rfl, rfl⟩ ?_))
        refine rn_call lives22_spec (by repeat (first | exact ArgsR.nil)) rfl ⟨_, _, rfl, rfl, rfl⟩ ?_
        (repeat (first | refine RunN.nil ?_ | refine rn_assign rfl rfl rfl ?_ | refine rn_pickT rfl rfl rfl rfl ?_))
        exact FW.ret ⟨.inl rfl, ret_flat rfl rfl rfl rfl⟩
      · have h2 : VT.cls = 0 := by simpa using h2
        have h3 := hv h1 h2
        (repeat (first | refine rn_move rfl rfl rfl ?_ | refine rn_pickT rfl rfl rfl rfl ?_ | refine rn_eql rfl rfl rfl ⟨_, _, rfl, rfl, rfl⟩ ?_ | refine rn_fieldP rfl rfl rfl rfl rfl rfl (by decide) rfl ⟨_, _, rfl, rfl, rfl⟩ ?_ | refine rn_loadP rfl rfl rfl rfl rfl (by first | omega | (simp; omega) | (simp; done)) (by first | exact getD_map (by omega) | rfl) rfl rfl rfl ⟨_, _, rfl, rfl, rfl⟩ ?_ | refine rn_pickF rfl rfl rfl ⟨_, _, rfl, rfl, rfl⟩ ?_))
        refine rn_case (fun _ => ?_) (fun h => absurd h (by simp [h3]))
        skip
        refine rn_call lives22_spec (by repeat (first | exact ArgsR.nil)) rfl ⟨_, _, rfl, rfl, rfl⟩ ?_
        (repeat (first | refine RunN.nil ?_ | refine rn_assign rfl rfl rfl ?_ | refine rn_pickT rfl rfl rfl rfl ?_))
        exact FW.ret ⟨.inl rfl, ret_flat rfl rfl rfl rfl⟩
end Go.Proofs.Ytfegkbmnclhljaa
