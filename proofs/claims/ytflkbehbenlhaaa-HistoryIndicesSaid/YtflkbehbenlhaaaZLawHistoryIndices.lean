/-
  simprooflaw20.HistoryIndices answers true for every input (walked on plain values).
-/
import Derived.Test.YtflkbehbenlhaaaZF
import Derived.Test.YtflkbehbenlhaaaZG
namespace Go.Proofs.Ytflkbehbenlhaaa
set_option linter.unusedVariables false
open Go.RowKit

def opsf (l : List OpV) : List FV := [.list 8 (l.map OpV.fv)]
set_option maxHeartbeats 4000000 in
set_option maxRecDepth 100000 in
theorem historyIndices_spec (l : List Int) (which : Int) (raw : List OpV) (i k : Int) (hl : ∀ x ∈ l, I64 x) (hlen : l.length ≤ 9223372036854775807) (iw : I64 which) (hr : ∀ o ∈ raw, OpIn o) (_ : raw.length ≤ 9223372036854775807) (ii : I64 i) (ik : I64 k) :
    Spec Try.prog 3 [.list 1 (l.map intf), .int .i64 which, .list 8 (raw.map OpV.fv), .int .i64 i, .int .i64 k] .fr (.bool true) := by
  obtain ⟨f1, f2, f3, f4⟩ := mixed_fine l which
  obtain ⟨h, hh⟩ : ∃ h, mixed l which = h := ⟨_, rfl⟩
  have hmix := mixed_spec l which hl hlen iw
  rw [hh] at f1 f2 f3 f4 hmix
  have har14 := around_spec k 14 ik (by omega) (by omega)
  obtain ⟨k2, hk2⟩ : ∃ k2, around k 14 = k2 := ⟨_, rfl⟩
  rw [hk2] at har14
  unfold I64 at *
  refine Spec.of_body (c := (cxOf Try.prog tyAt_ok mixed_ok 100)) ⟨Try.func3, rfl, Try.ntmps3, by kernel_rfl⟩ (by simp [FV.hand]) (by exact Nat.le_of_ble_eq_true rfl) rfl ?_
  change FW _ _ _ ⟨[(0, .list 1 (l.map intf)), (1, .int .i64 which), (2, .list 8 (raw.map OpV.fv)), (3, .int .i64 i), (4, .int .i64 k)], []⟩
  (repeat (first | refine FW.seq ?_ | refine FW.region ?_ | refine RunN.nil ?_ | refine rn_assign rfl rfl rfl ?_ | refine rn_buildS0 rfl rfl rfl rfl rfl rfl ?_ | refine rn_move rfl rfl rfl ?_ | refine rn_lenList rfl rfl (by first | exact List.length_map _ | exact (List.length_map _).symm | exact List.length_replicate | rfl | (simp; done) | omega | (simp; omega)) rfl rfl ?_ | refine rn_min rfl rfl rfl rfl ?_ | refine rn_sliceL rfl rfl rfl rfl (by first | exact LoR.none | exact LoR.some rfl | exact LoR.lit rfl (by first | rfl | exact (Int.toNat_of_nonneg (by omega)).symm)) (by first | exact HiR.none | exact HiR.some rfl | exact HiR.lit rfl (by first | rfl | exact (Int.toNat_of_nonneg (by omega)).symm)) (by first | omega | (simp; omega) | (simp; done)) (by first | omega | (simp; omega) | (simp; done)) rfl rfl ?_ | refine rn_appO rfl rfl (by first | exact List.length_map _ | exact (List.length_map _).symm | exact List.length_replicate | rfl | (simp; done) | omega | (simp; omega)) rfl rfl rfl (by decide) (by first | exact SrcR.own rfl rfl (by decide) (by first | exact List.length_map _ | exact (List.length_map _).symm | exact List.length_replicate | rfl | (simp; done) | omega | (simp; omega)) | exact SrcR.list rfl | exact SrcR.nil rfl | exact SrcR.part rfl rfl (by decide)) (by first | omega | (simp; omega) | (simp; done)) (by first | omega | (simp; omega) | (simp; done)) rfl rfl rfl ?_))
  refine rn_callO hmix (by repeat (first | exact ArgsR.nil | refine ArgsR.cons (by first | exact ArgR.plain rfl rfl) ?_)) (List.length_map _) rfl rfl rfl ?_
  (repeat (first | refine rn_move rfl rfl rfl ?_))
  refine RunN.le ?_ (FLe.share 25 rfl rfl (by simp))
  refine RunN.le ?_ (FLe.share 26 rfl rfl rfl)
  have efew : [] ++ List.take ((min (raw.length : Int) 6).toNat - 0) (List.drop 0 (List.map OpV.fv raw)) = (raw.take 6).map OpV.fv := by
    rw [List.nil_append, List.drop_zero, ← List.map_take, Nat.sub_zero]
    rcases Nat.le_total raw.length 6 with h6 | h6
    · rw [List.take_of_length_le h6, List.take_of_length_le (by omega)]
    · rw [show (min (raw.length : Int) 6).toNat = 6 by omega]
  rw [efew]
  refine rn_buildS (es := [opsf h, opsf (raw.take 6)]) rfl rfl rfl (by refine PtsS.list rfl rfl ?_; refine PtsS.list rfl rfl ?_; exact PtsS.nil) rfl rfl rfl rfl rfl rfl ?_
  (repeat (first | refine FW.seq ?_ | refine FW.region ?_ | refine FW.block ?_ | refine RunN.nil ?_ | refine rn_assign rfl rfl rfl ?_))
  have hin2 : ∀ L ∈ [h, raw.take 6], L.length ≤ 100 := by
    intro L hL
    simp only [List.mem_cons, List.not_mem_nil, or_false] at hL
    rcases hL with rfl | rfl
    · omega
    · rw [List.length_take]; omega
  refine FW.loop (fun n : Nat => ⟨[(3, .int .i64 i), (4, .int .i64 k), (12, .own 27 0 0 2), (13, .int .i64 n)], [(27, ⟨0, .own, 23, 1, [h, raw.take 6].map opsf⟩)]⟩) (fun n => n ≤ 2) (fun n => 2 - n) 0 (by omega)
    (FLe.conv [⟨27, some 27, 0 + 1, ⟨0, .own, 23, 1, [h, raw.take 6].map opsf⟩⟩] (by simp) (by simp) rfl (by repeat (first | exact GhOk.nil | refine GhOk.low rfl ?_ | refine GhOk.same rfl ?_ | refine GhOk.bump (Nat.lt_succ_self _) ?_)) (by repeat (first | exact EntsOk.nil | refine EntsOk.old rfl (by decide) (by first | rfl | (simp; done) | (congr 1; omega) | (simp; omega) | (simp [List.take_of_length_le]; done) | (refine congrArg (FV.int .i64) ?_; omega)) ?_)) (by repeat (first | exact SlC.nil | refine SlC.cons (.plain rfl rfl (by first | rfl | (simp; done) | (congr 1; omega) | (simp; omega) | (simp [List.take_of_length_le]; done) | (refine congrArg (FV.int .i64) ?_; omega))) ?_ | refine SlC.cons (.own rfl (.head _) rfl (by first | rfl | (simp; done) | (congr 1; omega) | (simp; omega) | (simp [List.take_of_length_le]; done) | (refine congrArg (FV.int .i64) ?_; omega))) ?_))) ?_
  intro n hn
  (repeat (first | refine FW.seq ?_ | refine FW.region ?_ | refine RunN.nil ?_ | refine rn_move rfl rfl rfl ?_ | refine rn_lss rfl rfl rfl rfl ?_))
  refine FW.cond rfl (fun hc => ?_) (fun hc => ?_)
  · have hlt : n < 2 := by simp at hc; omega
    have hlt2 : n < [h, raw.take 6].length := hlt
    have q2 := hin2 _ (nth_mem hlt2)
    obtain ⟨L, hL⟩ : ∃ L, nth [h, raw.take 6] n = L := ⟨_, rfl⟩
    have hLe : ([h, raw.take 6].map opsf)[n]? = some (opsf L) := by rw [List.getElem?_map, List.getElem?_eq_getElem hlt2, ← nth_eq hlt2, hL]; rfl
    rw [hL] at q2
    clear hc
    have hk1 := hKeys_spec L (by omega)
    have hk3 := rKeys_spec L (by omega)
    rw [← hKeys_eq L] at hk3
    have hkl : (hKeys L).length ≤ 100 := by rw [hKeys_eq]; have := rKeysTo_len L L.length; omega
    (repeat (first | refine FW.seq ?_ | refine FW.region ?_ | refine FW.block ?_ | refine FW.skip ?_ | refine RunN.nil ?_ | refine rn_assign rfl rfl rfl ?_ | refine rn_move rfl rfl rfl ?_ | refine rn_indexO rfl rfl (by first | rfl | exact (Int.toNat_of_nonneg (by omega)).symm) rfl rfl rfl (by decide) rfl (by first | omega | (simp; omega) | (simp; done)) rfl rfl ?_ | refine rn_loadP rfl rfl rfl rfl rfl (by first | omega | (simp; omega) | (simp; done)) (by first | exact getD_map (by omega) | rfl) rfl rfl rfl rfl ?_))
    rw [hL]
    refine rn_callO hk1 (by repeat (first | exact ArgsR.nil | refine ArgsR.cons (by first | exact ArgR.plain rfl rfl) ?_)) (List.length_map _) rfl rfl rfl ?_
    (repeat (first | refine rn_move rfl rfl rfl ?_))
    refine rn_callO hk3 (by repeat (first | exact ArgsR.nil | refine ArgsR.cons (by first | exact ArgR.plain rfl rfl) ?_)) (List.length_map _) rfl rfl rfl ?_
    skip
    refine rn_call (sameInts_spec (hKeys L) (hKeys L) (by omega) (by omega)) (by repeat (first | exact ArgsR.nil | refine ArgsR.cons (by first | exact ArgR.own rfl rfl (by decide) (by first | exact (fun _ => rfl) | (intro h; cases h)) (by first | rfl | (simp; done) | (congr 1; omega) | (simp; omega) | (simp [List.take_of_length_le]; done) | (refine congrArg (FV.int .i64) ?_; omega))) ?_)) rfl rfl ?_
    rw [show decide (hKeys L = hKeys L) = true by simp]
    (repeat (first | refine rn_move rfl rfl rfl ?_ | refine rn_not rfl rfl rfl ?_ | refine rn_move rfl rfl ⟨_, _, rfl, rfl, rfl⟩ ?_))
    refine rn_call (hBeforeI_spec L i k (by omega)) (by repeat (first | exact ArgsR.nil | refine ArgsR.cons (by first | exact ArgR.plain rfl rfl) ?_)) rfl ⟨_, _, rfl, rfl, rfl⟩ ?_
    (repeat (first | refine rn_move rfl rfl ⟨_, _, rfl, rfl, rfl⟩ ?_))
    refine rn_call (rBefore20_spec L i k (by omega)) (by repeat (first | exact ArgsR.nil | refine ArgsR.cons (by first | exact ArgR.plain rfl rfl) ?_)) rfl ⟨_, _, rfl, rfl, rfl⟩ ?_
    (repeat (first | refine RunN.nil ?_ | refine rn_pickF rfl rfl rfl rfl ?_ | refine rn_neqB rfl rfl rfl rfl ⟨_, _, rfl, rfl, rfl⟩ ?_))
    refine FW.cond rfl (fun hc => ?_) (fun hc => ?_)
    · exfalso; simp at hc
    (repeat (first | refine FW.seq ?_ | refine FW.region ?_ | refine FW.block ?_ | refine FW.skip ?_ | refine RunN.nil ?_ | refine rn_assign rfl rfl rfl ?_))
    refine FW.loop (fun a : Nat => ⟨[(3, .int .i64 i), (4, .int .i64 k), (12, .own 27 0 0 2), (13, .int .i64 n), (14, .list 8 (L.map OpV.fv)), (15, .int .i64 ((a : Int) - 1))], [(27, ⟨0, .own, 23, 1, [h, raw.take 6].map opsf⟩)]⟩) (fun a => a ≤ L.length + 2) (fun a => L.length + 2 - a) 0 (by omega)
      (FLe.conv [⟨27, some 27, 0, ⟨0, .own, 23, 1, [h, raw.take 6].map opsf⟩⟩] (by simp) (by simp) rfl (by repeat (first | exact GhOk.nil | refine GhOk.low rfl ?_ | refine GhOk.same rfl ?_ | refine GhOk.bump (Nat.lt_succ_self _) ?_)) (by repeat (first | exact EntsOk.nil | refine EntsOk.old rfl (by decide) (by first | rfl | (simp; done) | (congr 1; omega) | (simp; omega) | (simp [List.take_of_length_le]; done) | (refine congrArg (FV.int .i64) ?_; omega)) ?_)) (by repeat (first | exact SlC.nil | refine SlC.cons (.plain rfl rfl (by first | rfl | (simp; done) | (congr 1; omega) | (simp; omega) | (simp [List.take_of_length_le]; done) | (refine congrArg (FV.int .i64) ?_; omega))) ?_ | refine SlC.cons (.own rfl (.head _) rfl (by first | rfl | (simp; done) | (congr 1; omega) | (simp; omega) | (simp [List.take_of_length_le]; done) | (refine congrArg (FV.int .i64) ?_; omega))) ?_))) ?_
    intro a ha
    have hw1 := whereTo_len (byKey ((a : Int) - 1)) L L.length
    have hw2 := whereTo_len (byProc ((a : Int) - 1)) L L.length
    (repeat (first | refine FW.seq ?_ | refine FW.region ?_ | refine RunN.nil ?_ | refine rn_move rfl rfl rfl ?_ | refine rn_lenList rfl rfl (by first | exact List.length_map _ | exact (List.length_map _).symm | exact List.length_replicate | rfl | (simp; done) | omega | (simp; omega)) rfl rfl ?_ | refine rn_leq rfl rfl rfl rfl ?_))
    refine FW.cond rfl (fun hc => ?_) (fun hc => ?_)
    · have ha2 : a < L.length + 2 := by simp at hc; omega
      clear hc
      (repeat (first | refine FW.seq ?_ | refine FW.region ?_ | refine FW.block ?_ | refine FW.skip ?_ | refine rn_move rfl rfl rfl ?_))
      refine rn_callO (ofKey_spec L ((a : Int) - 1) (by omega)) (by repeat (first | exact ArgsR.nil | refine ArgsR.cons (by first | exact ArgR.plain rfl rfl) ?_)) (List.length_map _) rfl rfl rfl ?_
      (repeat (first | refine rn_move rfl rfl rfl ?_))
      refine rn_callO (refOfKey_spec L ((a : Int) - 1) (by omega)) (by repeat (first | exact ArgsR.nil | refine ArgsR.cons (by first | exact ArgR.plain rfl rfl) ?_)) (List.length_map _) rfl rfl rfl ?_
      skip
      refine rn_call (sameInts_spec (whereTo (byKey ((a : Int) - 1)) L L.length) (whereTo (byKey ((a : Int) - 1)) L L.length) (by omega) (by omega)) (by repeat (first | exact ArgsR.nil | refine ArgsR.cons (by first | exact ArgR.own rfl rfl (by decide) (by first | exact (fun _ => rfl) | (intro h; cases h)) (by first | rfl | (simp; done) | (congr 1; omega) | (simp; omega) | (simp [List.take_of_length_le]; done) | (refine congrArg (FV.int .i64) ?_; omega))) ?_)) rfl rfl ?_
      rw [decide_eq_true (rfl : whereTo (byKey ((a : Int) - 1)) L L.length = whereTo (byKey ((a : Int) - 1)) L L.length)]
      (repeat (first | refine rn_move rfl rfl rfl ?_ | refine rn_not rfl rfl rfl ?_ | refine rn_move rfl rfl ⟨_, _, rfl, rfl, rfl⟩ ?_))
      refine rn_callO (ofProcess_spec L ((a : Int) - 1) (by omega)) (by repeat (first | exact ArgsR.nil | refine ArgsR.cons (by first | exact ArgR.plain rfl rfl) ?_)) (List.length_map _) rfl rfl ⟨_, _, rfl, rfl, rfl⟩ ?_
      (repeat (first | refine rn_move rfl rfl ⟨_, _, rfl, rfl, rfl⟩ ?_))
      refine rn_callO (refOfProcess_spec L ((a : Int) - 1) (by omega)) (by repeat (first | exact ArgsR.nil | refine ArgsR.cons (by first | exact ArgR.plain rfl rfl) ?_)) (List.length_map _) rfl rfl ⟨_, _, rfl, rfl, rfl⟩ ?_
      skip
      refine rn_call (sameInts_spec (whereTo (byProc ((a : Int) - 1)) L L.length) (whereTo (byProc ((a : Int) - 1)) L L.length) (by omega) (by omega)) (by repeat (first | exact ArgsR.nil | refine ArgsR.cons (by first | exact ArgR.own rfl rfl (by decide) (by first | exact (fun _ => rfl) | (intro h; cases h)) (by first | rfl | (simp; done) | (congr 1; omega) | (simp; omega) | (simp [List.take_of_length_le]; done) | (refine congrArg (FV.int .i64) ?_; omega))) ?_)) rfl ⟨_, _, rfl, rfl, rfl⟩ ?_
      rw [decide_eq_true (rfl : whereTo (byProc ((a : Int) - 1)) L L.length = whereTo (byProc ((a : Int) - 1)) L L.length)]
      (repeat (first | refine FW.seq ?_ | refine FW.region ?_ | refine FW.skip ?_ | refine FW.condF rfl ?_ | refine RunN.nil ?_ | refine rn_move rfl rfl rfl ?_ | refine rn_pickF rfl rfl rfl rfl ?_ | refine rn_not rfl rfl ⟨_, _, rfl, rfl, rfl⟩ ?_))
      refine rn_call (hBeforeI_spec L ((a : Int) - 1) i (by omega)) (by repeat (first | exact ArgsR.nil | refine ArgsR.cons (by first | exact ArgR.plain rfl rfl) ?_)) rfl rfl ?_
      (repeat (first | refine rn_move rfl rfl rfl ?_))
      refine rn_call (rBefore20_spec L ((a : Int) - 1) i (by omega)) (by repeat (first | exact ArgsR.nil | refine ArgsR.cons (by first | exact ArgR.plain rfl rfl) ?_)) rfl rfl ?_
      (repeat (first | refine rn_move rfl rfl rfl ?_ | refine rn_neqB rfl rfl rfl rfl rfl ?_))
      rw [show decide (befI L ((a : Int) - 1) i ≠ befI L ((a : Int) - 1) i) = false by simp]
      (repeat (first | refine rn_move rfl rfl ⟨_, _, rfl, rfl, rfl⟩ ?_))
      refine rn_call har14 (by repeat (first | exact ArgsR.nil | refine ArgsR.cons (by first | exact ArgR.plain rfl rfl) ?_)) rfl ⟨_, _, rfl, rfl, rfl⟩ ?_
      skip
      refine rn_call (hBeforeI_spec L ((a : Int) - 1) k2 (by omega)) (by repeat (first | exact ArgsR.nil | refine ArgsR.cons (by first | exact ArgR.plain rfl rfl) ?_)) rfl ⟨_, _, rfl, rfl, rfl⟩ ?_
      (repeat (first | refine rn_move rfl rfl ⟨_, _, rfl, rfl, rfl⟩ ?_))
      refine rn_call har14 (by repeat (first | exact ArgsR.nil | refine ArgsR.cons (by first | exact ArgR.plain rfl rfl) ?_)) rfl ⟨_, _, rfl, rfl, rfl⟩ ?_
      skip
      refine rn_call (rBefore20_spec L ((a : Int) - 1) k2 (by omega)) (by repeat (first | exact ArgsR.nil | refine ArgsR.cons (by first | exact ArgR.plain rfl rfl) ?_)) rfl ⟨_, _, rfl, rfl, rfl⟩ ?_
      (repeat (first | refine RunN.nil ?_ | refine rn_pickF rfl rfl rfl rfl ?_ | refine rn_neqB rfl rfl rfl rfl ⟨_, _, rfl, rfl, rfl⟩ ?_))
      refine FW.cond rfl (fun hc => ?_) (fun hc => ?_)
      · exfalso; simp at hc
      (repeat (first | refine FW.region ?_ | refine FW.skip ?_ | refine RunN.nil ?_ | refine rn_assign rfl rfl rfl ?_ | refine rn_move rfl rfl rfl ?_ | refine rn_add rfl rfl (by omega) rfl rfl ?_))
      refine ⟨a + 1, by omega, by omega, ?_⟩
      exact (FLe.conv [⟨27, some 27, 0, ⟨0, .own, 23, 1, [h, raw.take 6].map opsf⟩⟩] (by simp) (by simp) rfl (by repeat (first | exact GhOk.nil | refine GhOk.low rfl ?_ | refine GhOk.same rfl ?_ | refine GhOk.bump (Nat.lt_succ_self _) ?_)) (by repeat (first | exact EntsOk.nil | refine EntsOk.old rfl (by decide) (by first | rfl | (simp; done) | (congr 1; omega) | (simp; omega) | (simp [List.take_of_length_le]; done) | (refine congrArg (FV.int .i64) ?_; omega)) ?_)) (by repeat (first | exact SlC.nil | refine SlC.cons (.plain rfl rfl (by first | rfl | (simp; done) | (congr 1; omega) | (simp; omega) | (simp [List.take_of_length_le]; done) | (refine congrArg (FV.int .i64) ?_; omega))) ?_ | refine SlC.cons (.own rfl (.head _) rfl (by first | rfl | (simp; done) | (congr 1; omega) | (simp; omega) | (simp [List.take_of_length_le]; done) | (refine congrArg (FV.int .i64) ?_; omega))) ?_)))
    · (repeat (first | refine FW.region ?_ | refine FW.exit ?_ | refine RunN.nil ?_ | refine rn_assign rfl rfl rfl ?_ | refine rn_move rfl rfl rfl ?_ | refine rn_add rfl rfl (by omega) rfl rfl ?_))
      refine ⟨n + 1, by omega, by omega, ?_⟩
      exact (FLe.conv [⟨27, some 27, 0, ⟨0, .own, 23, 1, [h, raw.take 6].map opsf⟩⟩] (by simp) (by simp) rfl (by repeat (first | exact GhOk.nil | refine GhOk.low rfl ?_ | refine GhOk.same rfl ?_ | refine GhOk.bump (Nat.lt_succ_self _) ?_)) (by repeat (first | exact EntsOk.nil | refine EntsOk.old rfl (by decide) (by first | rfl | (simp; done) | (congr 1; omega) | (simp; omega) | (simp [List.take_of_length_le]; done) | (refine congrArg (FV.int .i64) ?_; omega)) ?_)) (by repeat (first | exact SlC.nil | refine SlC.cons (.plain rfl rfl (by first | rfl | (simp; done) | (congr 1; omega) | (simp; omega) | (simp [List.take_of_length_le]; done) | (refine congrArg (FV.int .i64) ?_; omega))) ?_ | refine SlC.cons (.own rfl (.head _) rfl (by first | rfl | (simp; done) | (congr 1; omega) | (simp; omega) | (simp [List.take_of_length_le]; done) | (refine congrArg (FV.int .i64) ?_; omega))) ?_)))
  · (repeat (first | refine FW.seq ?_ | refine FW.region ?_ | refine FW.exit ?_))
    refine rn_call lives20_spec (by repeat (first | exact ArgsR.nil)) rfl rfl ?_
    (repeat (first | refine RunN.nil ?_ | refine rn_assign rfl rfl rfl ?_))
    exact FW.ret ⟨.inl rfl, .flat (.cons (.tmp 10 rfl rfl) .nil) rfl rfl⟩
end Go.Proofs.Ytflkbehbenlhaaa
