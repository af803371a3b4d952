/-
  The reference's dependencies: simproofref22.Included, why, Edges, SameEdges.
-/
import Derived.Test.YtfegkbmnclhljaaZFmSer6
import Derived.Test.YtfegkbmnclhljaaZG
namespace Go.Proofs.Ytfegkbmnclhljaa
set_option linter.unusedVariables false
open Go.RowKit

set_option maxHeartbeats 1000000 in
theorem rIncl_spec (o : OpV) : Spec Try.prog 38 [.agg o.fv] .fr (.bool (incl22 o)) := by
  refine Spec.of_body (c := (cxOf Try.prog tyAt_ok mixed_ok 15)) ⟨Try.func38, rfl, Try.ntmps38, by kernel_rfl⟩ (by simp [FV.hand]) (by exact Nat.le_of_ble_eq_true rfl) rfl ?_
  change FW _ _ _ ⟨[(0, .agg o.fv)], []⟩
  (repeat (first | refine FW.seq ?_ | refine FW.region ?_ | refine RunN.nil ?_ | refine rn_boxA rfl rfl rfl rfl rfl rfl rfl ?_ | refine rn_assign rfl rfl rfl ?_ | refine rn_fieldP rfl rfl rfl rfl rfl rfl (by decide) rfl rfl ?_ | refine rn_loadP rfl rfl rfl rfl rfl (by first | omega | (simp; omega) | (simp; done)) (by first | exact getD_map (by omega) | rfl) rfl rfl rfl rfl ?_ | refine rn_move rfl rfl rfl ?_))
  refine rn_case (fun h1 => ?_) (fun h1 => ?_)
  · (repeat (first | refine rn_fieldP rfl rfl rfl rfl rfl rfl (by decide) rfl ⟨_, _, rfl, rfl, rfl⟩ ?_ | refine rn_loadP rfl rfl rfl rfl rfl (by first | omega | (simp; omega) | (simp; done)) (by first | exact getD_map (by omega) | rfl) rfl rfl rfl ⟨_, _, rfl, rfl, rfl⟩ ?_ | refine rn_eql rfl rfl rfl ⟨_, _, rfl, rfl, rfl⟩ ?_ | refine rn_move rfl rfl ⟨_, _, rfl, rfl, rfl⟩ ?_))
    refine rn_case (fun h2 => ?_) (fun h2 => ?_)
    · (repeat (first | refine RunN.nil ?_ | refine rn_assign rfl rfl rfl ?_ | refine rn_pickT rfl rfl rfl rfl ?_ | refine rn_pickT rfl rfl rfl ⟨_, _, rfl, rfl, rfl⟩ ?_ | refine rn_skip rfl rfl ⟨_, _, rfl, rfl, rfl⟩ ?_))
      refine FW.ret ⟨.inl rfl, ret_flat rfl rfl ?_ rfl⟩
      simp at h1 h2
      simp [incl22, h1, h2]; rfl
    · (repeat (first | refine RunN.nil ?_ | refine rn_assign rfl rfl rfl ?_ | refine rn_pickT rfl rfl rfl rfl ?_ | refine rn_fieldP rfl rfl rfl rfl rfl rfl (by decide) rfl ⟨_, _, rfl, rfl, rfl⟩ ?_ | refine rn_loadP rfl rfl rfl rfl rfl (by first | omega | (simp; omega) | (simp; done)) (by first | exact getD_map (by omega) | rfl) rfl rfl rfl ⟨_, _, rfl, rfl, rfl⟩ ?_ | refine rn_eql rfl rfl rfl ⟨_, _, rfl, rfl, rfl⟩ ?_ | refine rn_pickF rfl rfl rfl ⟨_, _, rfl, rfl, rfl⟩ ?_))
      refine FW.ret ⟨.inl rfl, ret_flat rfl rfl ?_ rfl⟩
      simp at h1 h2
      simp [incl22, h1, h2]; rfl
  · (repeat (first | refine RunN.nil ?_ | refine rn_assign rfl rfl rfl ?_ | refine rn_pickF rfl rfl rfl rfl ?_ | refine rn_skip rfl rfl ⟨_, _, rfl, rfl, rfl⟩ ?_))
    refine FW.ret ⟨.inl rfl, ret_flat rfl rfl ?_ rfl⟩
    simp [incl22, h1]; rfl
def sameTo (X Y : List EdV) (j : Nat) : Prop := ∀ i, i < j → nth X i = nth Y i
set_option maxHeartbeats 2000000 in
theorem sameEdges_spec (X Y : List EdV) (hX : X.length ≤ 1000000000) (hY : Y.length ≤ 1000000000) : Spec Try.prog 13 [.list 3 (X.map EdV.fv), .list 3 (Y.map EdV.fv)] .fr (.bool (decide (X = Y))) := by
  refine Spec.of_body (c := (cxOf Try.prog tyAt_ok mixed_ok 26)) ⟨Try.func13, rfl, Try.ntmps13, by kernel_rfl⟩ (by simp [FV.hand]) (by exact Nat.le_of_ble_eq_true rfl) rfl ?_
  change FW _ _ _ ⟨[(0, .list 3 (X.map EdV.fv)), (1, .list 3 (Y.map EdV.fv))], []⟩
  (repeat (first | refine FW.seq ?_ | refine FW.region ?_ | refine RunN.nil ?_ | refine rn_assign rfl rfl rfl ?_ | refine rn_move rfl rfl rfl ?_ | refine rn_lenList rfl rfl (by first | exact List.length_map _ | exact (List.length_map _).symm | exact List.length_replicate | rfl | (simp; done) | omega | (simp; omega)) rfl rfl ?_ | refine rn_neq rfl rfl rfl rfl ?_))
  refine FW.cond rfl (fun h => ?_) (fun h => ?_)
  · (repeat (first | refine FW.seq ?_ | refine FW.region ?_ | refine RunN.nil ?_ | refine rn_assign rfl rfl rfl ?_))
    refine FW.ret ⟨.inl rfl, ret_flat rfl rfl ?_ rfl⟩
    have : X ≠ Y := by rintro rfl; simp at h
    rw [decide_eq_false this]; rfl
  · have hl : X.length = Y.length := by simp at h; omega
    clear h
    (repeat (first | refine FW.seq ?_ | refine FW.region ?_ | refine FW.block ?_ | refine FW.skip ?_ | refine RunN.nil ?_ | refine rn_assign rfl rfl rfl ?_))
    refine FW.loop (fun j : Nat => ⟨[(0, .list 3 (X.map EdV.fv)), (1, .list 3 (Y.map EdV.fv)), (5, .int .i64 j)], []⟩) (fun j => j ≤ X.length ∧ sameTo X Y j) (fun j => X.length - j) 0 ⟨Nat.zero_le _, fun i hi => absurd hi (Nat.not_lt_zero _)⟩ ?_ ?_
    · show FLe _ ⟨[(0, .list 3 (X.map EdV.fv)), (1, .list 3 (Y.map EdV.fv)), (5, .int .i64 0)], []⟩
      exact (FLe.conv [] (by simp) (by simp) rfl (by repeat (first | exact GhOk.nil | refine GhOk.low rfl ?_ | refine GhOk.same rfl ?_ | refine GhOk.bump (Nat.lt_succ_self _) ?_)) (by repeat (first | exact EntsOk.nil)) (by repeat (first | exact SlC.nil | refine SlC.cons (.plain rfl rfl (by first | rfl | (simp; done) | (congr 1; omega) | (simp; omega) | (simp [List.take_of_length_le]; done) | (refine congrArg (FV.int .i64) ?_; omega))) ?_)))
    rintro j ⟨hj, hs⟩
    (repeat (first | refine FW.seq ?_ | refine FW.region ?_ | refine RunN.nil ?_ | refine rn_move rfl rfl rfl ?_ | refine rn_lenList rfl rfl (by first | exact List.length_map _ | exact (List.length_map _).symm | exact List.length_replicate | rfl | (simp; done) | omega | (simp; omega)) rfl rfl ?_ | refine rn_lss rfl rfl rfl rfl ?_))
    refine FW.cond rfl (fun hc => ?_) (fun hc => ?_)
    · have hlt : j < X.length := by simpa using hc
      (repeat (first | refine FW.seq ?_ | refine FW.block ?_ | refine FW.skip ?_ | refine FW.draw ?_ | refine rd_move rfl rfl rfl ?_ | refine rd_indexL rfl rfl (by first | rfl | exact (Int.toNat_of_nonneg (by omega)).symm) rfl rfl rfl (by first | omega | (simp; omega) | (simp; done)) rfl rfl ?_ | refine rd_loadEA rfl rfl rfl (by decide) (by first | omega | (simp; omega) | (simp; done)) (by first | exact getD_map (by omega) | rfl) rfl rfl rfl ?_))
      refine rd_neA rfl rfl rfl rfl (eqAgg_ed (nth X j) (nth Y j)) rfl rfl ?_
      (repeat (first | refine RunD.nil ?_))
      refine ⟨by kernel_rfl, ?_⟩
      skip
      refine FW.cond rfl (fun h => ?_) (fun h => ?_)
      · (repeat (first | refine FW.seq ?_ | refine FW.region ?_ | refine RunN.nil ?_ | refine rn_assign rfl rfl rfl ?_))
        refine FW.ret ⟨.inl rfl, ret_flat rfl rfl ?_ rfl⟩
        have : X ≠ Y := by rintro rfl; simp at h
        rw [decide_eq_false this]; rfl
      · have h : nth X j = nth Y j := by simpa using h
        (repeat (first | refine FW.region ?_ | refine FW.skip ?_ | refine RunN.nil ?_ | refine rn_assign rfl rfl rfl ?_ | refine rn_move rfl rfl rfl ?_ | refine rn_add rfl rfl (by omega) rfl rfl ?_))
        refine ⟨j + 1, ⟨by omega, fun i hi => ?_⟩, by omega, ?_⟩
        · rcases Nat.lt_succ_iff_lt_or_eq.1 hi with h' | rfl
          · exact hs i h'
          · exact h
        · exact (FLe.conv [] (by simp) (by simp) rfl (by repeat (first | exact GhOk.nil | refine GhOk.low rfl ?_ | refine GhOk.same rfl ?_ | refine GhOk.bump (Nat.lt_succ_self _) ?_)) (by repeat (first | exact EntsOk.nil)) (by repeat (first | exact SlC.nil | refine SlC.cons (.plain rfl rfl (by first | rfl | (simp; done) | (congr 1; omega) | (simp; omega) | (simp [List.take_of_length_le]; done) | (refine congrArg (FV.int .i64) ?_; omega))) ?_)))
    · have e : j = X.length := by simp at hc; omega
      subst e
      (repeat (first | refine FW.seq ?_ | refine FW.region ?_ | refine FW.exit ?_ | refine RunN.nil ?_ | refine rn_assign rfl rfl rfl ?_))
      refine FW.ret ⟨.inl rfl, ret_flat rfl rfl ?_ rfl⟩
      have : X = Y := List.ext_getElem hl fun i h1 h2 => by have := hs i h1; rwa [nth_eq h1, nth_eq h2] at this
      rw [decide_eq_true this]; rfl
set_option maxHeartbeats 4000000 in
theorem rWhy_spec (l : List OpV) (s : Bool) (i k : Nat) (hi : i < l.length) (hk : k < l.length) (hl : l.length ≤ 1000000000) : Spec Try.prog 31 [.list 8 (l.map OpV.fv), .int .i64 i, .int .i64 k, .bool s] (.ow 3 1) (.list 1 ((why22 l s i k).map intf)) := by
  obtain ⟨a, ha⟩ : ∃ a, nth l i = a := ⟨_, rfl⟩
  obtain ⟨b, hb⟩ : ∃ b, nth l k = b := ⟨_, rfl⟩
  have hbs := rBefore20_spec l i k hl
  rw [befI_in hi hk] at hbs
  have hIa := rIncl_spec a
  have hIb := rIncl_spec b
  have hw : why22 l s i k = if (incl22 a && incl22 b) = true then optB (wroteB a b 0) 2 ++ (optB (wroteB a b 2) 3 ++ (optB (precB i k a b) 4 ++ optB (s && bef l i k) 5)) else [] := by unfold why22 whys; rw [ha, hb]
  rw [hw]
  clear hw
  obtain ⟨bf, hbf⟩ : ∃ q, bef l i k = q := ⟨_, rfl⟩
  rw [hbf] at hbs ⊢
  refine Spec.of_body (c := (cxOf Try.prog tyAt_ok mixed_ok 100)) ⟨Try.func31, rfl, Try.ntmps31, by kernel_rfl⟩ (by simp [FV.hand]) (by exact Nat.le_of_ble_eq_true rfl) rfl ?_
  change FW _ _ _ ⟨[(0, .list 8 (l.map OpV.fv)), (1, .int .i64 i), (2, .int .i64 k), (3, .bool s)], []⟩
  (repeat (first | refine FW.seq ?_ | refine FW.region ?_ | refine RunN.nil ?_ | refine rn_assign rfl rfl rfl ?_ | refine rn_move rfl rfl rfl ?_ | refine rn_indexL rfl rfl (by first | rfl | exact (Int.toNat_of_nonneg (by omega)).symm) rfl rfl rfl (by first | omega | (simp; omega) | (simp; done)) rfl rfl ?_ | refine rn_loadEA rfl rfl rfl (by decide) (by first | omega | (simp; omega) | (simp; done)) (by first | exact getD_map (by omega) | rfl) rfl rfl rfl ?_ | refine rn_loadPA rfl rfl rfl (by decide) rfl rfl (by first | omega | (simp; omega) | (simp; done)) (by first | exact getD_map (by omega) | rfl) rfl rfl rfl ?_ | refine rn_alloc rfl rfl rfl rfl rfl rfl rfl ?_ | refine rn_storeVA rfl rfl rfl rfl rfl rfl rfl rfl rfl ?_))
  rw [ha]
  skip
  rw [hb]
  skip
  refine rn_call hIa (by repeat (first | exact ArgsR.nil | refine ArgsR.cons (by first | exact ArgR.plain rfl rfl) ?_)) rfl rfl ?_
  cases hA : incl22 a with
  | false =>
    rw [Bool.false_and, if_neg (by decide)]
    (repeat (first | refine FW.seq ?_ | refine FW.region ?_ | refine FW.condT rfl ?_ | refine RunN.nil ?_ | refine rn_assign rfl rfl rfl ?_ | refine rn_move rfl rfl rfl ?_ | refine rn_not rfl rfl rfl ?_ | refine rn_pickT rfl rfl rfl rfl ?_ | refine rn_skip rfl rfl ⟨_, _, rfl, rfl, rfl⟩ ?_))
    exact FW.ret ⟨.inl rfl, .owNil _ _ rfl rfl⟩
  | true =>
  (repeat (first | refine rn_move rfl rfl rfl ?_ | refine rn_not rfl rfl rfl ?_ | refine rn_loadPA rfl rfl rfl (by decide) rfl rfl (by first | omega | (simp; omega) | (simp; done)) (by first | exact getD_map (by omega) | rfl) rfl rfl ⟨_, _, rfl, rfl, rfl⟩ ?_))
  refine rn_call hIb (by repeat (first | exact ArgsR.nil | refine ArgsR.cons (by first | exact ArgR.plain rfl rfl) ?_)) rfl ⟨_, _, rfl, rfl, rfl⟩ ?_
  cases hB : incl22 b with
  | false =>
    rw [Bool.true_and, if_neg (by decide)]
    (repeat (first | refine FW.seq ?_ | refine FW.region ?_ | refine FW.condT rfl ?_ | refine RunN.nil ?_ | refine rn_assign rfl rfl rfl ?_ | refine rn_pickF rfl rfl rfl rfl ?_ | refine rn_not rfl rfl ⟨_, _, rfl, rfl, rfl⟩ ?_))
    exact FW.ret ⟨.inl rfl, .owNil _ _ rfl rfl⟩
  | true =>
  rw [Bool.true_and, if_pos rfl]
  (repeat (first | refine RunN.nil ?_ | refine rn_pickF rfl rfl rfl rfl ?_ | refine rn_not rfl rfl ⟨_, _, rfl, rfl, rfl⟩ ?_))
  refine FW.condF rfl ?_
  refine FW.skip ?_
  refine FW.seq ?_
  obtain ⟨W, hW⟩ : ∃ W, (decide (a.k = 2) && decide (a.key = b.key) && decide (a.arg = b.res)) = W := ⟨_, rfl⟩
  have hw0 : wroteB a b 0 = (W && decide (b.k = 0)) := by unfold wroteB; rw [hW]
  have hw2 : wroteB a b 2 = (W && decide (b.k = 2)) := by unfold wroteB; rw [hW]
  rw [hw0, hw2]
  clear hw0 hw2
  refine FW.join (fun _ : Unit => ⟨[(0, .list 8 (l.map OpV.fv)), (1, .int .i64 i), (2, .int .i64 k), (3, .bool s), (9, .ptr 109 0 0 0), (10, .ptr 110 0 0 0), (11, .own 100 0 0 ([] : List Int).length), (12, .bool W)], [(100, ⟨0, .own, 3, 1, ([] : List Int).map intf⟩), (109, ⟨0, .own, 48, 8, [a.fv]⟩), (110, ⟨0, .own, 48, 8, [b.fv]⟩)]⟩) (fun _ => True) ?_ ?_
  · (repeat (first | refine FW.region ?_ | refine rn_move rfl rfl rfl ?_ | refine rn_loadP rfl rfl rfl rfl rfl (by first | omega | (simp; omega) | (simp; done)) (by first | exact getD_map (by omega) | rfl) rfl rfl rfl rfl ?_ | refine rn_fieldP rfl rfl rfl rfl rfl rfl (by decide) rfl rfl ?_ | refine rn_eql rfl rfl rfl rfl ?_))
    refine rn_case (fun h1 => ?_) (fun h1 => ?_)
    · (repeat (first | refine rn_move rfl rfl rfl ?_ | refine rn_pickT rfl rfl rfl rfl ?_ | refine rn_loadP rfl rfl rfl rfl rfl (by first | omega | (simp; omega) | (simp; done)) (by first | exact getD_map (by omega) | rfl) rfl rfl rfl ⟨_, _, rfl, rfl, rfl⟩ ?_ | refine rn_fieldP rfl rfl rfl rfl rfl rfl (by decide) rfl ⟨_, _, rfl, rfl, rfl⟩ ?_ | refine rn_eql rfl rfl rfl ⟨_, _, rfl, rfl, rfl⟩ ?_))
      refine rn_case (fun h2 => ?_) (fun h2 => ?_)
      · (repeat (first | refine RunN.nil ?_ | refine rn_assign rfl rfl rfl ?_ | refine rn_pickT rfl rfl rfl rfl ?_ | refine rn_loadP rfl rfl rfl rfl rfl (by first | omega | (simp; omega) | (simp; done)) (by first | exact getD_map (by omega) | rfl) rfl rfl rfl ⟨_, _, rfl, rfl, rfl⟩ ?_ | refine rn_fieldP rfl rfl rfl rfl rfl rfl (by decide) rfl ⟨_, _, rfl, rfl, rfl⟩ ?_ | refine rn_eql rfl rfl rfl ⟨_, _, rfl, rfl, rfl⟩ ?_))
        rw [h1, h2, Bool.true_and, Bool.true_and] at hW
        rw [hW]
        refine ⟨rfl, (), trivial, ?_⟩
        exact (FLe.conv [⟨100, none, 0, ⟨0, .own, 3, 1, []⟩⟩, ⟨109, some 9, 0 + 1, ⟨0, .own, 48, 8, [a.fv]⟩⟩, ⟨110, some 10, 0 + 1, ⟨0, .own, 48, 8, [b.fv]⟩⟩] (by simp) (by simp) rfl (by repeat (first | exact GhOk.nil | refine GhOk.low rfl ?_ | refine GhOk.same rfl ?_ | refine GhOk.bump (Nat.lt_succ_self _) ?_)) (by repeat (first | exact EntsOk.nil | refine EntsOk.old rfl (by decide) (by first | rfl | (simp; done) | (congr 1; omega) | (simp; omega) | (simp [List.take_of_length_le]; done) | (refine congrArg (FV.int .i64) ?_; omega)) ?_ | refine EntsOk.new ?_)) (by repeat (first | exact SlC.nil | refine SlC.cons (.plain rfl rfl (by first | rfl | (simp; done) | (congr 1; omega) | (simp; omega) | (simp [List.take_of_length_le]; done) | (refine congrArg (FV.int .i64) ?_; omega))) ?_ | refine SlC.cons (.nil rfl (.head _) rfl) ?_ | refine SlC.cons (.ptr rfl (.tail _ (.head _)) rfl) ?_ | refine SlC.cons (.ptr rfl (.tail _ (.tail _ (.head _))) rfl) ?_)))
      · (repeat (first | refine RunN.nil ?_ | refine rn_assign rfl rfl rfl ?_ | refine rn_pickF rfl rfl rfl rfl ?_ | refine rn_skip rfl rfl ⟨_, _, rfl, rfl, rfl⟩ ?_))
        rw [h1, h2, Bool.true_and, Bool.false_and] at hW
        subst hW
        refine ⟨rfl, (), trivial, ?_⟩
        exact (FLe.conv [⟨100, none, 0, ⟨0, .own, 3, 1, []⟩⟩, ⟨109, some 9, 0 + 1, ⟨0, .own, 48, 8, [a.fv]⟩⟩, ⟨110, some 10, 0 + 1, ⟨0, .own, 48, 8, [b.fv]⟩⟩] (by simp) (by simp) rfl (by repeat (first | exact GhOk.nil | refine GhOk.low rfl ?_ | refine GhOk.same rfl ?_ | refine GhOk.bump (Nat.lt_succ_self _) ?_)) (by repeat (first | exact EntsOk.nil | refine EntsOk.old rfl (by decide) (by first | rfl | (simp; done) | (congr 1; omega) | (simp; omega) | (simp [List.take_of_length_le]; done) | (refine congrArg (FV.int .i64) ?_; omega)) ?_ | refine EntsOk.new ?_)) (by repeat (first | exact SlC.nil | refine SlC.cons (.plain rfl rfl (by first | rfl | (simp; done) | (congr 1; omega) | (simp; omega) | (simp [List.take_of_length_le]; done) | (refine congrArg (FV.int .i64) ?_; omega))) ?_ | refine SlC.cons (.nil rfl (.head _) rfl) ?_ | refine SlC.cons (.ptr rfl (.tail _ (.head _)) rfl) ?_ | refine SlC.cons (.ptr rfl (.tail _ (.tail _ (.head _))) rfl) ?_)))
    · (repeat (first | refine RunN.nil ?_ | refine rn_assign rfl rfl rfl ?_ | refine rn_move rfl rfl rfl ?_ | refine rn_pickF rfl rfl rfl rfl ?_ | refine rn_skip rfl rfl ⟨_, _, rfl, rfl, rfl⟩ ?_))
      rw [h1, Bool.false_and, Bool.false_and] at hW
      subst hW
      refine ⟨rfl, (), trivial, ?_⟩
      exact (FLe.conv [⟨100, none, 0, ⟨0, .own, 3, 1, []⟩⟩, ⟨109, some 9, 0 + 1, ⟨0, .own, 48, 8, [a.fv]⟩⟩, ⟨110, some 10, 0 + 1, ⟨0, .own, 48, 8, [b.fv]⟩⟩] (by simp) (by simp) rfl (by repeat (first | exact GhOk.nil | refine GhOk.low rfl ?_ | refine GhOk.same rfl ?_ | refine GhOk.bump (Nat.lt_succ_self _) ?_)) (by repeat (first | exact EntsOk.nil | refine EntsOk.old rfl (by decide) (by first | rfl | (simp; done) | (congr 1; omega) | (simp; omega) | (simp [List.take_of_length_le]; done) | (refine congrArg (FV.int .i64) ?_; omega)) ?_ | refine EntsOk.new ?_)) (by repeat (first | exact SlC.nil | refine SlC.cons (.plain rfl rfl (by first | rfl | (simp; done) | (congr 1; omega) | (simp; omega) | (simp [List.take_of_length_le]; done) | (refine congrArg (FV.int .i64) ?_; omega))) ?_ | refine SlC.cons (.nil rfl (.head _) rfl) ?_ | refine SlC.cons (.ptr rfl (.tail _ (.head _)) rfl) ?_ | refine SlC.cons (.ptr rfl (.tail _ (.tail _ (.head _))) rfl) ?_)))
  rintro _ _
  obtain ⟨r0, hr0⟩ : ∃ r : List Int, r = [] := ⟨_, rfl⟩
  have hl0 : r0.length = 0 := by rw [hr0]; rfl
  rw [← hr0]
  refine FW.seq ?_
  refine FW.join (fun _ : Unit => ⟨[(0, .list 8 (l.map OpV.fv)), (1, .int .i64 i), (2, .int .i64 k), (3, .bool s), (9, .ptr 109 0 0 0), (10, .ptr 110 0 0 0), (11, .own 100 0 0 (r0 ++ optB (W && decide (b.k = 0)) 2).length), (12, .bool W)], [(100, ⟨0, .own, 3, 1, (r0 ++ optB (W && decide (b.k = 0)) 2).map intf⟩), (109, ⟨0, .own, 48, 8, [a.fv]⟩), (110, ⟨0, .own, 48, 8, [b.fv]⟩)]⟩) (fun _ => True) ?_ ?_
  · clear hW
    cases W with
    | false =>
      (repeat (first | refine FW.seq ?_ | refine FW.region ?_ | refine FW.skip ?_ | refine FW.condF rfl ?_ | refine RunN.nil ?_ | refine rn_move rfl rfl rfl ?_ | refine rn_pickF rfl rfl rfl rfl ?_ | refine rn_skip rfl rfl ⟨_, _, rfl, rfl, rfl⟩ ?_))
      refine ⟨rfl, (), trivial, ?_⟩
      rw [Bool.false_and, show optB false 2 = [] from rfl, List.append_nil]
      exact (FLe.conv [⟨100, some 100, 0, ⟨0, .own, 3, 1, r0.map intf⟩⟩, ⟨109, some 109, 0, ⟨0, .own, 48, 8, [a.fv]⟩⟩, ⟨110, some 110, 0, ⟨0, .own, 48, 8, [b.fv]⟩⟩] (by simp) (by simp) rfl (by repeat (first | exact GhOk.nil | refine GhOk.low rfl ?_ | refine GhOk.same rfl ?_ | refine GhOk.bump (Nat.lt_succ_self _) ?_)) (by repeat (first | exact EntsOk.nil | refine EntsOk.old rfl (by decide) (by first | rfl | (simp; done) | (congr 1; omega) | (simp; omega) | (simp [List.take_of_length_le]; done) | (refine congrArg (FV.int .i64) ?_; omega)) ?_)) (by repeat (first | exact SlC.nil | refine SlC.cons (.plain rfl rfl (by first | rfl | (simp; done) | (congr 1; omega) | (simp; omega) | (simp [List.take_of_length_le]; done) | (refine congrArg (FV.int .i64) ?_; omega))) ?_ | refine SlC.cons (.own rfl (.head _) rfl (by first | rfl | (simp; done) | (congr 1; omega) | (simp; omega) | (simp [List.take_of_length_le]; done) | (refine congrArg (FV.int .i64) ?_; omega))) ?_ | refine SlC.cons (.ptr rfl (.tail _ (.head _)) rfl) ?_ | refine SlC.cons (.ptr rfl (.tail _ (.tail _ (.head _))) rfl) ?_)))
    | true =>
      (repeat (first | refine FW.seq ?_ | refine FW.region ?_ | refine RunN.nil ?_ | refine rn_move rfl rfl rfl ?_ | refine rn_pickT rfl rfl rfl rfl ?_ | refine rn_loadP rfl rfl rfl rfl rfl (by first | omega | (simp; omega) | (simp; done)) (by first | exact getD_map (by omega) | rfl) rfl rfl rfl ⟨_, _, rfl, rfl, rfl⟩ ?_ | refine rn_fieldP rfl rfl rfl rfl rfl rfl (by decide) rfl ⟨_, _, rfl, rfl, rfl⟩ ?_ | refine rn_eql rfl rfl rfl ⟨_, _, rfl, rfl, rfl⟩ ?_))
      refine FW.cond rfl (fun h => ?_) (fun h => ?_)
      · have h : decide (b.k = 0) = true := h
        (repeat (first | refine FW.region ?_ | refine RunN.nil ?_ | refine rn_assign rfl rfl rfl ?_ | refine rn_move rfl rfl rfl ?_ | refine rn_buildS1 rfl rfl rfl rfl rfl rfl rfl rfl ?_ | refine rn_appO rfl rfl (by first | exact List.length_map _ | exact (List.length_map _).symm | exact List.length_replicate | rfl | (simp; done) | omega | (simp; omega)) rfl rfl rfl (by decide) (by first | exact SrcR.own rfl rfl (by decide) (by first | exact List.length_map _ | exact (List.length_map _).symm | exact List.length_replicate | rfl | (simp; done) | omega | (simp; omega)) | exact SrcR.list rfl | exact SrcR.nil rfl | exact SrcR.part rfl rfl (by decide)) (by first | omega | (simp; omega) | (simp; done)) (by first | omega | (simp; omega) | (simp; done)) rfl rfl rfl ?_))
        refine ⟨rfl, (), trivial, ?_⟩
        rw [Bool.true_and, h, show optB true 2 = [2] from rfl, List.length_append, List.map_append]
        exact (FLe.conv [⟨100, some 54, 0 + 1, ⟨0, .own, 3, 1, r0.map intf ++ [2].map intf⟩⟩, ⟨109, some 109, 0, ⟨0, .own, 48, 8, [a.fv]⟩⟩, ⟨110, some 110, 0, ⟨0, .own, 48, 8, [b.fv]⟩⟩] (by simp) (by simp) rfl (by repeat (first | exact GhOk.nil | refine GhOk.low rfl ?_ | refine GhOk.same rfl ?_ | refine GhOk.bump (Nat.lt_succ_self _) ?_)) (by repeat (first | exact EntsOk.nil | refine EntsOk.old rfl (by decide) (by first | rfl | (simp; done) | (congr 1; omega) | (simp; omega) | (simp [List.take_of_length_le]; done) | (refine congrArg (FV.int .i64) ?_; omega)) ?_)) (by repeat (first | exact SlC.nil | refine SlC.cons (.plain rfl rfl (by first | rfl | (simp; done) | (congr 1; omega) | (simp; omega) | (simp [List.take_of_length_le]; done) | (refine congrArg (FV.int .i64) ?_; omega))) ?_ | refine SlC.cons (.own rfl (.head _) rfl (by first | rfl | (simp; done) | (congr 1; omega) | (simp; omega) | (simp [List.take_of_length_le]; done) | (refine congrArg (FV.int .i64) ?_; omega))) ?_ | refine SlC.cons (.ptr rfl (.tail _ (.head _)) rfl) ?_ | refine SlC.cons (.ptr rfl (.tail _ (.tail _ (.head _))) rfl) ?_)))
      · have h : decide (b.k = 0) = false := h
        (repeat (first | refine FW.skip ?_))
        refine ⟨rfl, (), trivial, ?_⟩
        rw [Bool.true_and, h, show optB false 2 = [] from rfl, List.append_nil]
        exact (FLe.conv [⟨100, some 100, 0, ⟨0, .own, 3, 1, r0.map intf⟩⟩, ⟨109, some 109, 0, ⟨0, .own, 48, 8, [a.fv]⟩⟩, ⟨110, some 110, 0, ⟨0, .own, 48, 8, [b.fv]⟩⟩] (by simp) (by simp) rfl (by repeat (first | exact GhOk.nil | refine GhOk.low rfl ?_ | refine GhOk.same rfl ?_ | refine GhOk.bump (Nat.lt_succ_self _) ?_)) (by repeat (first | exact EntsOk.nil | refine EntsOk.old rfl (by decide) (by first | rfl | (simp; done) | (congr 1; omega) | (simp; omega) | (simp [List.take_of_length_le]; done) | (refine congrArg (FV.int .i64) ?_; omega)) ?_)) (by repeat (first | exact SlC.nil | refine SlC.cons (.plain rfl rfl (by first | rfl | (simp; done) | (congr 1; omega) | (simp; omega) | (simp [List.take_of_length_le]; done) | (refine congrArg (FV.int .i64) ?_; omega))) ?_ | refine SlC.cons (.own rfl (.head _) rfl (by first | rfl | (simp; done) | (congr 1; omega) | (simp; omega) | (simp [List.take_of_length_le]; done) | (refine congrArg (FV.int .i64) ?_; omega))) ?_ | refine SlC.cons (.ptr rfl (.tail _ (.head _)) rfl) ?_ | refine SlC.cons (.ptr rfl (.tail _ (.tail _ (.head _))) rfl) ?_)))
  rintro _ _
  have hb1 := optB_len (W && decide (b.k = 0)) 2
  obtain ⟨r1, hr1⟩ : ∃ r, (r0 ++ optB (W && decide (b.k = 0)) 2) = r := ⟨_, rfl⟩
  have hl1 : r1.length ≤ 1 := by rw [← hr1, List.length_append]; omega
  rw [hr1]
  refine FW.seq ?_
  refine FW.join (fun _ : Unit => ⟨[(0, .list 8 (l.map OpV.fv)), (1, .int .i64 i), (2, .int .i64 k), (3, .bool s), (9, .ptr 109 0 0 0), (10, .ptr 110 0 0 0), (11, .own 100 0 0 (r1 ++ optB (W && decide (b.k = 2)) 3).length), (12, .bool W)], [(100, ⟨0, .own, 3, 1, (r1 ++ optB (W && decide (b.k = 2)) 3).map intf⟩), (109, ⟨0, .own, 48, 8, [a.fv]⟩), (110, ⟨0, .own, 48, 8, [b.fv]⟩)]⟩) (fun _ => True) ?_ ?_
  · clear hW
    cases W with
    | false =>
      (repeat (first | refine FW.seq ?_ | refine FW.region ?_ | refine FW.skip ?_ | refine FW.condF rfl ?_ | refine RunN.nil ?_ | refine rn_move rfl rfl rfl ?_ | refine rn_pickF rfl rfl rfl rfl ?_ | refine rn_skip rfl rfl ⟨_, _, rfl, rfl, rfl⟩ ?_))
      refine ⟨rfl, (), trivial, ?_⟩
      rw [Bool.false_and, show optB false 3 = [] from rfl, List.append_nil]
      exact (FLe.conv [⟨100, some 100, 0, ⟨0, .own, 3, 1, r1.map intf⟩⟩, ⟨109, some 109, 0, ⟨0, .own, 48, 8, [a.fv]⟩⟩, ⟨110, some 110, 0, ⟨0, .own, 48, 8, [b.fv]⟩⟩] (by simp) (by simp) rfl (by repeat (first | exact GhOk.nil | refine GhOk.low rfl ?_ | refine GhOk.same rfl ?_ | refine GhOk.bump (Nat.lt_succ_self _) ?_)) (by repeat (first | exact EntsOk.nil | refine EntsOk.old rfl (by decide) (by first | rfl | (simp; done) | (congr 1; omega) | (simp; omega) | (simp [List.take_of_length_le]; done) | (refine congrArg (FV.int .i64) ?_; omega)) ?_)) (by repeat (first | exact SlC.nil | refine SlC.cons (.plain rfl rfl (by first | rfl | (simp; done) | (congr 1; omega) | (simp; omega) | (simp [List.take_of_length_le]; done) | (refine congrArg (FV.int .i64) ?_; omega))) ?_ | refine SlC.cons (.own rfl (.head _) rfl (by first | rfl | (simp; done) | (congr 1; omega) | (simp; omega) | (simp [List.take_of_length_le]; done) | (refine congrArg (FV.int .i64) ?_; omega))) ?_ | refine SlC.cons (.ptr rfl (.tail _ (.head _)) rfl) ?_ | refine SlC.cons (.ptr rfl (.tail _ (.tail _ (.head _))) rfl) ?_)))
    | true =>
      (repeat (first | refine FW.seq ?_ | refine FW.region ?_ | refine RunN.nil ?_ | refine rn_move rfl rfl rfl ?_ | refine rn_pickT rfl rfl rfl rfl ?_ | refine rn_loadP rfl rfl rfl rfl rfl (by first | omega | (simp; omega) | (simp; done)) (by first | exact getD_map (by omega) | rfl) rfl rfl rfl ⟨_, _, rfl, rfl, rfl⟩ ?_ | refine rn_fieldP rfl rfl rfl rfl rfl rfl (by decide) rfl ⟨_, _, rfl, rfl, rfl⟩ ?_ | refine rn_eql rfl rfl rfl ⟨_, _, rfl, rfl, rfl⟩ ?_))
      refine FW.cond rfl (fun h => ?_) (fun h => ?_)
      · have h : decide (b.k = 2) = true := h
        (repeat (first | refine FW.region ?_ | refine RunN.nil ?_ | refine rn_assign rfl rfl rfl ?_ | refine rn_move rfl rfl rfl ?_ | refine rn_buildS1 rfl rfl rfl rfl rfl rfl rfl rfl ?_ | refine rn_appO rfl rfl (by first | exact List.length_map _ | exact (List.length_map _).symm | exact List.length_replicate | rfl | (simp; done) | omega | (simp; omega)) rfl rfl rfl (by decide) (by first | exact SrcR.own rfl rfl (by decide) (by first | exact List.length_map _ | exact (List.length_map _).symm | exact List.length_replicate | rfl | (simp; done) | omega | (simp; omega)) | exact SrcR.list rfl | exact SrcR.nil rfl | exact SrcR.part rfl rfl (by decide)) (by first | omega | (simp; omega) | (simp; done)) (by first | omega | (simp; omega) | (simp; done)) rfl rfl rfl ?_))
        refine ⟨rfl, (), trivial, ?_⟩
        rw [Bool.true_and, h, show optB true 3 = [3] from rfl, List.length_append, List.map_append]
        exact (FLe.conv [⟨100, some 63, 0 + 1, ⟨0, .own, 3, 1, r1.map intf ++ [3].map intf⟩⟩, ⟨109, some 109, 0, ⟨0, .own, 48, 8, [a.fv]⟩⟩, ⟨110, some 110, 0, ⟨0, .own, 48, 8, [b.fv]⟩⟩] (by simp) (by simp) rfl (by repeat (first | exact GhOk.nil | refine GhOk.low rfl ?_ | refine GhOk.same rfl ?_ | refine GhOk.bump (Nat.lt_succ_self _) ?_)) (by repeat (first | exact EntsOk.nil | refine EntsOk.old rfl (by decide) (by first | rfl | (simp; done) | (congr 1; omega) | (simp; omega) | (simp [List.take_of_length_le]; done) | (refine congrArg (FV.int .i64) ?_; omega)) ?_)) (by repeat (first | exact SlC.nil | refine SlC.cons (.plain rfl rfl (by first | rfl | (simp; done) | (congr 1; omega) | (simp; omega) | (simp [List.take_of_length_le]; done) | (refine congrArg (FV.int .i64) ?_; omega))) ?_ | refine SlC.cons (.own rfl (.head _) rfl (by first | rfl | (simp; done) | (congr 1; omega) | (simp; omega) | (simp [List.take_of_length_le]; done) | (refine congrArg (FV.int .i64) ?_; omega))) ?_ | refine SlC.cons (.ptr rfl (.tail _ (.head _)) rfl) ?_ | refine SlC.cons (.ptr rfl (.tail _ (.tail _ (.head _))) rfl) ?_)))
      · have h : decide (b.k = 2) = false := h
        (repeat (first | refine FW.skip ?_))
        refine ⟨rfl, (), trivial, ?_⟩
        rw [Bool.true_and, h, show optB false 3 = [] from rfl, List.append_nil]
        exact (FLe.conv [⟨100, some 100, 0, ⟨0, .own, 3, 1, r1.map intf⟩⟩, ⟨109, some 109, 0, ⟨0, .own, 48, 8, [a.fv]⟩⟩, ⟨110, some 110, 0, ⟨0, .own, 48, 8, [b.fv]⟩⟩] (by simp) (by simp) rfl (by repeat (first | exact GhOk.nil | refine GhOk.low rfl ?_ | refine GhOk.same rfl ?_ | refine GhOk.bump (Nat.lt_succ_self _) ?_)) (by repeat (first | exact EntsOk.nil | refine EntsOk.old rfl (by decide) (by first | rfl | (simp; done) | (congr 1; omega) | (simp; omega) | (simp [List.take_of_length_le]; done) | (refine congrArg (FV.int .i64) ?_; omega)) ?_)) (by repeat (first | exact SlC.nil | refine SlC.cons (.plain rfl rfl (by first | rfl | (simp; done) | (congr 1; omega) | (simp; omega) | (simp [List.take_of_length_le]; done) | (refine congrArg (FV.int .i64) ?_; omega))) ?_ | refine SlC.cons (.own rfl (.head _) rfl (by first | rfl | (simp; done) | (congr 1; omega) | (simp; omega) | (simp [List.take_of_length_le]; done) | (refine congrArg (FV.int .i64) ?_; omega))) ?_ | refine SlC.cons (.ptr rfl (.tail _ (.head _)) rfl) ?_ | refine SlC.cons (.ptr rfl (.tail _ (.tail _ (.head _))) rfl) ?_)))
  rintro _ _
  have hb2 := optB_len (W && decide (b.k = 2)) 3
  obtain ⟨r2, hr2⟩ : ∃ r, (r1 ++ optB (W && decide (b.k = 2)) 3) = r := ⟨_, rfl⟩
  have hl2 : r2.length ≤ 2 := by rw [← hr2, List.length_append]; omega
  rw [hr2]
  refine FW.seq ?_
  refine FW.join (fun _ : Unit => ⟨[(0, .list 8 (l.map OpV.fv)), (1, .int .i64 i), (2, .int .i64 k), (3, .bool s), (9, .ptr 109 0 0 0), (10, .ptr 110 0 0 0), (11, .own 100 0 0 (r2 ++ optB (precB i k a b) 4).length), (12, .bool W)], [(100, ⟨0, .own, 3, 1, (r2 ++ optB (precB i k a b) 4).map intf⟩), (109, ⟨0, .own, 48, 8, [a.fv]⟩), (110, ⟨0, .own, 48, 8, [b.fv]⟩)]⟩) (fun _ => True) ?_ ?_
  · have hp : precB i k a b = (decide (i ≠ k) && decide (a.key = b.key) && decide (a.res = b.res) && decide (b.k = 2)) := rfl
    (repeat (first | refine FW.seq ?_ | refine FW.region ?_ | refine rn_move rfl rfl rfl ?_ | refine rn_neq rfl rfl rfl rfl ?_))
    refine rn_case (fun h1 => ?_) (fun h1 => ?_)
    · have h1 : decide (i ≠ k) = true := by simp at h1 ⊢; omega
      (repeat (first | refine rn_move rfl rfl rfl ?_ | refine rn_pickT rfl rfl rfl rfl ?_ | refine rn_loadP rfl rfl rfl rfl rfl (by first | omega | (simp; omega) | (simp; done)) (by first | exact getD_map (by omega) | rfl) rfl rfl rfl ⟨_, _, rfl, rfl, rfl⟩ ?_ | refine rn_fieldP rfl rfl rfl rfl rfl rfl (by decide) rfl ⟨_, _, rfl, rfl, rfl⟩ ?_ | refine rn_eql rfl rfl rfl ⟨_, _, rfl, rfl, rfl⟩ ?_))
      refine rn_case (fun h2 => ?_) (fun h2 => ?_)
      · (repeat (first | refine rn_move rfl rfl rfl ?_ | refine rn_pickT rfl rfl rfl rfl ?_ | refine rn_loadP rfl rfl rfl rfl rfl (by first | omega | (simp; omega) | (simp; done)) (by first | exact getD_map (by omega) | rfl) rfl rfl rfl ⟨_, _, rfl, rfl, rfl⟩ ?_ | refine rn_fieldP rfl rfl rfl rfl rfl rfl (by decide) rfl ⟨_, _, rfl, rfl, rfl⟩ ?_ | refine rn_eql rfl rfl rfl ⟨_, _, rfl, rfl, rfl⟩ ?_))
        refine rn_case (fun h3 => ?_) (fun h3 => ?_)
        · rw [h1, h2, h3, Bool.true_and, Bool.true_and, Bool.true_and] at hp
          (repeat (first | refine RunN.nil ?_ | refine rn_pickT rfl rfl rfl rfl ?_ | refine rn_loadP rfl rfl rfl rfl rfl (by first | omega | (simp; omega) | (simp; done)) (by first | exact getD_map (by omega) | rfl) rfl rfl rfl ⟨_, _, rfl, rfl, rfl⟩ ?_ | refine rn_fieldP rfl rfl rfl rfl rfl rfl (by decide) rfl ⟨_, _, rfl, rfl, rfl⟩ ?_ | refine rn_eql rfl rfl rfl ⟨_, _, rfl, rfl, rfl⟩ ?_))
          refine FW.cond rfl (fun h => ?_) (fun h => ?_)
          · have h : decide (b.k = 2) = true := h
            (repeat (first | refine FW.region ?_ | refine RunN.nil ?_ | refine rn_assign rfl rfl rfl ?_ | refine rn_move rfl rfl rfl ?_ | refine rn_buildS1 rfl rfl rfl rfl rfl rfl rfl rfl ?_ | refine rn_appO rfl rfl (by first | exact List.length_map _ | exact (List.length_map _).symm | exact List.length_replicate | rfl | (simp; done) | omega | (simp; omega)) rfl rfl rfl (by decide) (by first | exact SrcR.own rfl rfl (by decide) (by first | exact List.length_map _ | exact (List.length_map _).symm | exact List.length_replicate | rfl | (simp; done) | omega | (simp; omega)) | exact SrcR.list rfl | exact SrcR.nil rfl | exact SrcR.part rfl rfl (by decide)) (by first | omega | (simp; omega) | (simp; done)) (by first | omega | (simp; omega) | (simp; done)) rfl rfl rfl ?_))
            refine ⟨rfl, (), trivial, ?_⟩
            rw [hp, h, show optB true 4 = [4] from rfl, List.length_append, List.map_append]
            exact (FLe.conv [⟨100, some 88, 0 + 1, ⟨0, .own, 3, 1, r2.map intf ++ [4].map intf⟩⟩, ⟨109, some 109, 0, ⟨0, .own, 48, 8, [a.fv]⟩⟩, ⟨110, some 110, 0, ⟨0, .own, 48, 8, [b.fv]⟩⟩] (by simp) (by simp) rfl (by repeat (first | exact GhOk.nil | refine GhOk.low rfl ?_ | refine GhOk.same rfl ?_ | refine GhOk.bump (Nat.lt_succ_self _) ?_)) (by repeat (first | exact EntsOk.nil | refine EntsOk.old rfl (by decide) (by first | rfl | (simp; done) | (congr 1; omega) | (simp; omega) | (simp [List.take_of_length_le]; done) | (refine congrArg (FV.int .i64) ?_; omega)) ?_)) (by repeat (first | exact SlC.nil | refine SlC.cons (.plain rfl rfl (by first | rfl | (simp; done) | (congr 1; omega) | (simp; omega) | (simp [List.take_of_length_le]; done) | (refine congrArg (FV.int .i64) ?_; omega))) ?_ | refine SlC.cons (.own rfl (.head _) rfl (by first | rfl | (simp; done) | (congr 1; omega) | (simp; omega) | (simp [List.take_of_length_le]; done) | (refine congrArg (FV.int .i64) ?_; omega))) ?_ | refine SlC.cons (.ptr rfl (.tail _ (.head _)) rfl) ?_ | refine SlC.cons (.ptr rfl (.tail _ (.tail _ (.head _))) rfl) ?_)))
          · have h : decide (b.k = 2) = false := h
            (repeat (first | refine FW.skip ?_))
            refine ⟨rfl, (), trivial, ?_⟩
            rw [hp, h, show optB false 4 = [] from rfl, List.append_nil]
            exact (FLe.conv [⟨100, some 100, 0, ⟨0, .own, 3, 1, r2.map intf⟩⟩, ⟨109, some 109, 0, ⟨0, .own, 48, 8, [a.fv]⟩⟩, ⟨110, some 110, 0, ⟨0, .own, 48, 8, [b.fv]⟩⟩] (by simp) (by simp) rfl (by repeat (first | exact GhOk.nil | refine GhOk.low rfl ?_ | refine GhOk.same rfl ?_ | refine GhOk.bump (Nat.lt_succ_self _) ?_)) (by repeat (first | exact EntsOk.nil | refine EntsOk.old rfl (by decide) (by first | rfl | (simp; done) | (congr 1; omega) | (simp; omega) | (simp [List.take_of_length_le]; done) | (refine congrArg (FV.int .i64) ?_; omega)) ?_)) (by repeat (first | exact SlC.nil | refine SlC.cons (.plain rfl rfl (by first | rfl | (simp; done) | (congr 1; omega) | (simp; omega) | (simp [List.take_of_length_le]; done) | (refine congrArg (FV.int .i64) ?_; omega))) ?_ | refine SlC.cons (.own rfl (.head _) rfl (by first | rfl | (simp; done) | (congr 1; omega) | (simp; omega) | (simp [List.take_of_length_le]; done) | (refine congrArg (FV.int .i64) ?_; omega))) ?_ | refine SlC.cons (.ptr rfl (.tail _ (.head _)) rfl) ?_ | refine SlC.cons (.ptr rfl (.tail _ (.tail _ (.head _))) rfl) ?_)))
        · rw [h1, h2, h3, Bool.true_and, Bool.true_and, Bool.false_and] at hp
          (repeat (first | refine FW.skip ?_ | refine FW.condF rfl ?_ | refine RunN.nil ?_ | refine rn_pickF rfl rfl rfl rfl ?_ | refine rn_skip rfl rfl ⟨_, _, rfl, rfl, rfl⟩ ?_))
          refine ⟨rfl, (), trivial, ?_⟩
          rw [hp, show optB false 4 = [] from rfl, List.append_nil]
          exact (FLe.conv [⟨100, some 100, 0, ⟨0, .own, 3, 1, r2.map intf⟩⟩, ⟨109, some 109, 0, ⟨0, .own, 48, 8, [a.fv]⟩⟩, ⟨110, some 110, 0, ⟨0, .own, 48, 8, [b.fv]⟩⟩] (by simp) (by simp) rfl (by repeat (first | exact GhOk.nil | refine GhOk.low rfl ?_ | refine GhOk.same rfl ?_ | refine GhOk.bump (Nat.lt_succ_self _) ?_)) (by repeat (first | exact EntsOk.nil | refine EntsOk.old rfl (by decide) (by first | rfl | (simp; done) | (congr 1; omega) | (simp; omega) | (simp [List.take_of_length_le]; done) | (refine congrArg (FV.int .i64) ?_; omega)) ?_)) (by repeat (first | exact SlC.nil | refine SlC.cons (.plain rfl rfl (by first | rfl | (simp; done) | (congr 1; omega) | (simp; omega) | (simp [List.take_of_length_le]; done) | (refine congrArg (FV.int .i64) ?_; omega))) ?_ | refine SlC.cons (.own rfl (.head _) rfl (by first | rfl | (simp; done) | (congr 1; omega) | (simp; omega) | (simp [List.take_of_length_le]; done) | (refine congrArg (FV.int .i64) ?_; omega))) ?_ | refine SlC.cons (.ptr rfl (.tail _ (.head _)) rfl) ?_ | refine SlC.cons (.ptr rfl (.tail _ (.tail _ (.head _))) rfl) ?_)))
      · rw [h1, h2, Bool.true_and, Bool.false_and, Bool.false_and] at hp
        (repeat (first | refine FW.skip ?_ | refine FW.condF rfl ?_ | refine RunN.nil ?_ | refine rn_move rfl rfl rfl ?_ | refine rn_pickF rfl rfl rfl rfl ?_ | refine rn_skip rfl rfl ⟨_, _, rfl, rfl, rfl⟩ ?_))
        refine ⟨rfl, (), trivial, ?_⟩
        rw [hp, show optB false 4 = [] from rfl, List.append_nil]
        exact (FLe.conv [⟨100, some 100, 0, ⟨0, .own, 3, 1, r2.map intf⟩⟩, ⟨109, some 109, 0, ⟨0, .own, 48, 8, [a.fv]⟩⟩, ⟨110, some 110, 0, ⟨0, .own, 48, 8, [b.fv]⟩⟩] (by simp) (by simp) rfl (by repeat (first | exact GhOk.nil | refine GhOk.low rfl ?_ | refine GhOk.same rfl ?_ | refine GhOk.bump (Nat.lt_succ_self _) ?_)) (by repeat (first | exact EntsOk.nil | refine EntsOk.old rfl (by decide) (by first | rfl | (simp; done) | (congr 1; omega) | (simp; omega) | (simp [List.take_of_length_le]; done) | (refine congrArg (FV.int .i64) ?_; omega)) ?_)) (by repeat (first | exact SlC.nil | refine SlC.cons (.plain rfl rfl (by first | rfl | (simp; done) | (congr 1; omega) | (simp; omega) | (simp [List.take_of_length_le]; done) | (refine congrArg (FV.int .i64) ?_; omega))) ?_ | refine SlC.cons (.own rfl (.head _) rfl (by first | rfl | (simp; done) | (congr 1; omega) | (simp; omega) | (simp [List.take_of_length_le]; done) | (refine congrArg (FV.int .i64) ?_; omega))) ?_ | refine SlC.cons (.ptr rfl (.tail _ (.head _)) rfl) ?_ | refine SlC.cons (.ptr rfl (.tail _ (.tail _ (.head _))) rfl) ?_)))
    · have h1 : decide (i ≠ k) = false := by simp at h1 ⊢; omega
      rw [h1, Bool.false_and, Bool.false_and, Bool.false_and] at hp
      (repeat (first | refine FW.skip ?_ | refine FW.condF rfl ?_ | refine RunN.nil ?_ | refine rn_move rfl rfl rfl ?_ | refine rn_pickF rfl rfl rfl rfl ?_ | refine rn_skip rfl rfl ⟨_, _, rfl, rfl, rfl⟩ ?_))
      refine ⟨rfl, (), trivial, ?_⟩
      rw [hp, show optB false 4 = [] from rfl, List.append_nil]
      exact (FLe.conv [⟨100, some 100, 0, ⟨0, .own, 3, 1, r2.map intf⟩⟩, ⟨109, some 109, 0, ⟨0, .own, 48, 8, [a.fv]⟩⟩, ⟨110, some 110, 0, ⟨0, .own, 48, 8, [b.fv]⟩⟩] (by simp) (by simp) rfl (by repeat (first | exact GhOk.nil | refine GhOk.low rfl ?_ | refine GhOk.same rfl ?_ | refine GhOk.bump (Nat.lt_succ_self _) ?_)) (by repeat (first | exact EntsOk.nil | refine EntsOk.old rfl (by decide) (by first | rfl | (simp; done) | (congr 1; omega) | (simp; omega) | (simp [List.take_of_length_le]; done) | (refine congrArg (FV.int .i64) ?_; omega)) ?_)) (by repeat (first | exact SlC.nil | refine SlC.cons (.plain rfl rfl (by first | rfl | (simp; done) | (congr 1; omega) | (simp; omega) | (simp [List.take_of_length_le]; done) | (refine congrArg (FV.int .i64) ?_; omega))) ?_ | refine SlC.cons (.own rfl (.head _) rfl (by first | rfl | (simp; done) | (congr 1; omega) | (simp; omega) | (simp [List.take_of_length_le]; done) | (refine congrArg (FV.int .i64) ?_; omega))) ?_ | refine SlC.cons (.ptr rfl (.tail _ (.head _)) rfl) ?_ | refine SlC.cons (.ptr rfl (.tail _ (.tail _ (.head _))) rfl) ?_)))
  rintro _ _
  have hb3 := optB_len (precB i k a b) 4
  obtain ⟨r3, hr3⟩ : ∃ r, (r2 ++ optB (precB i k a b) 4) = r := ⟨_, rfl⟩
  have hl3 : r3.length ≤ 3 := by rw [← hr3, List.length_append]; omega
  rw [hr3]
  refine FW.seq ?_
  refine FW.join (fun _ : Unit => ⟨[(0, .list 8 (l.map OpV.fv)), (1, .int .i64 i), (2, .int .i64 k), (3, .bool s), (9, .ptr 109 0 0 0), (10, .ptr 110 0 0 0), (11, .own 100 0 0 (r3 ++ optB (s && bf) 5).length), (12, .bool W)], [(100, ⟨0, .own, 3, 1, (r3 ++ optB (s && bf) 5).map intf⟩), (109, ⟨0, .own, 48, 8, [a.fv]⟩), (110, ⟨0, .own, 48, 8, [b.fv]⟩)]⟩) (fun _ => True) ?_ ?_
  · cases s with
    | false =>
      (repeat (first | refine FW.seq ?_ | refine FW.region ?_ | refine FW.skip ?_ | refine FW.condF rfl ?_ | refine RunN.nil ?_ | refine rn_move rfl rfl rfl ?_ | refine rn_pickF rfl rfl rfl rfl ?_ | refine rn_skip rfl rfl ⟨_, _, rfl, rfl, rfl⟩ ?_))
      refine ⟨rfl, (), trivial, ?_⟩
      rw [Bool.false_and, show optB false 5 = [] from rfl, List.append_nil]
      exact (FLe.conv [⟨100, some 100, 0, ⟨0, .own, 3, 1, r3.map intf⟩⟩, ⟨109, some 109, 0, ⟨0, .own, 48, 8, [a.fv]⟩⟩, ⟨110, some 110, 0, ⟨0, .own, 48, 8, [b.fv]⟩⟩] (by simp) (by simp) rfl (by repeat (first | exact GhOk.nil | refine GhOk.low rfl ?_ | refine GhOk.same rfl ?_ | refine GhOk.bump (Nat.lt_succ_self _) ?_)) (by repeat (first | exact EntsOk.nil | refine EntsOk.old rfl (by decide) (by first | rfl | (simp; done) | (congr 1; omega) | (simp; omega) | (simp [List.take_of_length_le]; done) | (refine congrArg (FV.int .i64) ?_; omega)) ?_)) (by repeat (first | exact SlC.nil | refine SlC.cons (.plain rfl rfl (by first | rfl | (simp; done) | (congr 1; omega) | (simp; omega) | (simp [List.take_of_length_le]; done) | (refine congrArg (FV.int .i64) ?_; omega))) ?_ | refine SlC.cons (.own rfl (.head _) rfl (by first | rfl | (simp; done) | (congr 1; omega) | (simp; omega) | (simp [List.take_of_length_le]; done) | (refine congrArg (FV.int .i64) ?_; omega))) ?_ | refine SlC.cons (.ptr rfl (.tail _ (.head _)) rfl) ?_ | refine SlC.cons (.ptr rfl (.tail _ (.tail _ (.head _))) rfl) ?_)))
    | true =>
      (repeat (first | refine FW.seq ?_ | refine FW.region ?_ | refine rn_move rfl rfl rfl ?_ | refine rn_move rfl rfl ⟨_, _, rfl, rfl, rfl⟩ ?_))
      refine rn_call hbs (by repeat (first | exact ArgsR.nil | refine ArgsR.cons (by first | exact ArgR.plain rfl rfl) ?_)) rfl ⟨_, _, rfl, rfl, rfl⟩ ?_
      cases bf with
      | true =>
        (repeat (first | refine FW.region ?_ | refine FW.condT rfl ?_ | refine RunN.nil ?_ | refine rn_assign rfl rfl rfl ?_ | refine rn_move rfl rfl rfl ?_ | refine rn_pickT rfl rfl rfl rfl ?_ | refine rn_buildS1 rfl rfl rfl rfl rfl rfl rfl rfl ?_ | refine rn_appO rfl rfl (by first | exact List.length_map _ | exact (List.length_map _).symm | exact List.length_replicate | rfl | (simp; done) | omega | (simp; omega)) rfl rfl rfl (by decide) (by first | exact SrcR.own rfl rfl (by decide) (by first | exact List.length_map _ | exact (List.length_map _).symm | exact List.length_replicate | rfl | (simp; done) | omega | (simp; omega)) | exact SrcR.list rfl | exact SrcR.nil rfl | exact SrcR.part rfl rfl (by decide)) (by first | omega | (simp; omega) | (simp; done)) (by first | omega | (simp; omega) | (simp; done)) rfl rfl rfl ?_))
        refine ⟨rfl, (), trivial, ?_⟩
        rw [Bool.true_and, show optB true 5 = [5] from rfl, List.length_append, List.map_append]
        exact (FLe.conv [⟨100, some 98, 0 + 1, ⟨0, .own, 3, 1, r3.map intf ++ [5].map intf⟩⟩, ⟨109, some 109, 0, ⟨0, .own, 48, 8, [a.fv]⟩⟩, ⟨110, some 110, 0, ⟨0, .own, 48, 8, [b.fv]⟩⟩] (by simp) (by simp) rfl (by repeat (first | exact GhOk.nil | refine GhOk.low rfl ?_ | refine GhOk.same rfl ?_ | refine GhOk.bump (Nat.lt_succ_self _) ?_)) (by repeat (first | exact EntsOk.nil | refine EntsOk.old rfl (by decide) (by first | rfl | (simp; done) | (congr 1; omega) | (simp; omega) | (simp [List.take_of_length_le]; done) | (refine congrArg (FV.int .i64) ?_; omega)) ?_)) (by repeat (first | exact SlC.nil | refine SlC.cons (.plain rfl rfl (by first | rfl | (simp; done) | (congr 1; omega) | (simp; omega) | (simp [List.take_of_length_le]; done) | (refine congrArg (FV.int .i64) ?_; omega))) ?_ | refine SlC.cons (.own rfl (.head _) rfl (by first | rfl | (simp; done) | (congr 1; omega) | (simp; omega) | (simp [List.take_of_length_le]; done) | (refine congrArg (FV.int .i64) ?_; omega))) ?_ | refine SlC.cons (.ptr rfl (.tail _ (.head _)) rfl) ?_ | refine SlC.cons (.ptr rfl (.tail _ (.tail _ (.head _))) rfl) ?_)))
      | false =>
        (repeat (first | refine FW.skip ?_ | refine FW.condF rfl ?_ | refine RunN.nil ?_ | refine rn_pickT rfl rfl rfl rfl ?_))
        refine ⟨rfl, (), trivial, ?_⟩
        rw [Bool.true_and, show optB false 5 = [] from rfl, List.append_nil]
        exact (FLe.conv [⟨100, some 100, 0, ⟨0, .own, 3, 1, r3.map intf⟩⟩, ⟨109, some 109, 0, ⟨0, .own, 48, 8, [a.fv]⟩⟩, ⟨110, some 110, 0, ⟨0, .own, 48, 8, [b.fv]⟩⟩] (by simp) (by simp) rfl (by repeat (first | exact GhOk.nil | refine GhOk.low rfl ?_ | refine GhOk.same rfl ?_ | refine GhOk.bump (Nat.lt_succ_self _) ?_)) (by repeat (first | exact EntsOk.nil | refine EntsOk.old rfl (by decide) (by first | rfl | (simp; done) | (congr 1; omega) | (simp; omega) | (simp [List.take_of_length_le]; done) | (refine congrArg (FV.int .i64) ?_; omega)) ?_)) (by repeat (first | exact SlC.nil | refine SlC.cons (.plain rfl rfl (by first | rfl | (simp; done) | (congr 1; omega) | (simp; omega) | (simp [List.take_of_length_le]; done) | (refine congrArg (FV.int .i64) ?_; omega))) ?_ | refine SlC.cons (.own rfl (.head _) rfl (by first | rfl | (simp; done) | (congr 1; omega) | (simp; omega) | (simp [List.take_of_length_le]; done) | (refine congrArg (FV.int .i64) ?_; omega))) ?_ | refine SlC.cons (.ptr rfl (.tail _ (.head _)) rfl) ?_ | refine SlC.cons (.ptr rfl (.tail _ (.tail _ (.head _))) rfl) ?_)))
  rintro _ _
  have hb4 := optB_len (s && bf) 5
  obtain ⟨r4, hr4⟩ : ∃ r, (r3 ++ optB (s && bf) 5) = r := ⟨_, rfl⟩
  have hl4 : r4.length ≤ 4 := by rw [← hr4, List.length_append]; omega
  rw [hr4]
  have hfin : optB (W && decide (b.k = 0)) 2 ++ (optB (W && decide (b.k = 2)) 3 ++ (optB (precB i k a b) 4 ++ optB (s && bf) 5)) = r4 := by
    rw [← hr4, ← hr3, ← hr2, ← hr1, hr0]; simp only [List.nil_append, List.append_assoc]
  rw [hfin]
  (repeat (first | refine FW.seq ?_ | refine FW.region ?_ | refine RunN.nil ?_ | refine rn_assign rfl rfl rfl ?_ | refine rn_move rfl rfl rfl ?_))
  exact FW.ret ⟨.inl rfl, ret_ow rfl rfl rfl (by simp) (by decide) rfl (fun e he => by obtain ⟨x, _, rfl⟩ := List.mem_map.1 he; rfl)⟩
end Go.Proofs.Ytfegkbmnclhljaa
