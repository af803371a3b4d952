/-
  simprooflaw03.GraphReach answers true for every input (walked on plain values).
-/
import Derived.Test.YtflkbehbenlhaaaZLawGraphTopo
import Derived.Test.YtflkbehbenlhaaaZFmRReach
namespace Go.Proofs.Ytflkbehbenlhaaa
set_option linter.unusedVariables false
open Go.RowKit

theorem gReach_len (n : Nat) (E : List (Nat × Nat)) (fr : List Int) : (gReach n E fr).length ≤ n := outTo_len _ _
set_option maxHeartbeats 4000000 in
theorem graphReach_spec (n : Int) (l fr : List Int) (v : Int) (hn : I64 n) (hl : ∀ x ∈ l, I64 x) (hlen : l.length ≤ 9223372036854775807) (hf : ∀ x ∈ fr, I64 x) (hflen : fr.length ≤ 9223372036854775807) (hv : I64 v) : Spec Try.prog 8 [.int .i64 n, .list 1 (l.map intf), .list 1 (fr.map intf), .int .i64 v] .fr (.bool true) := by
  have hsize := size_spec n hn
  obtain ⟨k, hk, hk10⟩ := around_nat n 10 (by decide)
  have hk' : around n 10 = k := hk
  rw [hk'] at hsize
  have hA := rEdges_in k l
  have hAl := rEdges_len k l
  refine Spec.of_body (c := (cxOf Try.prog tyAt_ok mixed_ok 55)) ⟨Try.func8, rfl, Try.ntmps8, by kernel_rfl⟩ (by simp [FV.hand]) (by exact Nat.le_of_ble_eq_true rfl) rfl ?_
  change FW _ _ _ ⟨[(0, .int .i64 n), (1, .list 1 (l.map intf)), (2, .list 1 (fr.map intf)), (3, .int .i64 v)], []⟩
  (repeat (first | refine FW.seq ?_ | refine FW.region ?_ | refine RunN.nil ?_ | refine rn_assign rfl rfl rfl ?_ | refine rn_move rfl rfl rfl ?_))
  refine rn_call hsize (by repeat (first | exact ArgsR.nil | refine ArgsR.cons (by first | exact ArgR.plain rfl rfl) ?_)) rfl rfl ?_
  (repeat (first | refine FW.seq ?_ | refine FW.region ?_ | refine RunN.nil ?_ | refine rn_assign rfl rfl rfl ?_ | refine rn_move rfl rfl rfl ?_))
  refine rn_callO (rEdges_spec k l (by omega) hlen hl) (by repeat (first | exact ArgsR.nil | refine ArgsR.cons (by first | exact ArgR.plain rfl rfl) ?_)) (List.length_map _) rfl rfl rfl ?_
  refine RunN.le ?_ (FLe.share 17 rfl rfl (by rw [List.length_map]))
  generalize rEdges k l = A at hA hAl
  (repeat (first | refine FW.seq ?_ | refine FW.region ?_ | refine FW.block ?_ | refine RunN.nil ?_ | refine rn_assign rfl rfl rfl ?_))
  refine FW.loop (fun x : Nat × List Int => ⟨[(2, .list 1 (fr.map intf)), (3, .int .i64 v), (9, .int .i64 k), (10, .list 2 (A.map edf)), (11, .own 100 0 0 x.2.length), (12, .int .i64 x.1)], [(100, ⟨0, .own, 3, 1, x.2.map intf⟩)]⟩) (fun x => x.1 ≤ fr.length ∧ x.1 ≤ 6 ∧ x.2.length = x.1) (fun x => 6 - x.1) (0, []) ⟨Nat.zero_le _, by decide, rfl⟩ ?_ ?_
  · show FLe _ ⟨[(2, .list 1 (fr.map intf)), (3, .int .i64 v), (9, .int .i64 k), (10, .list 2 (A.map edf)), (11, .own 100 0 0 0), (12, .int .i64 0)], [(100, ⟨0, .own, 3, 1, []⟩)]⟩
    exact (FLe.conv [⟨100, none, 0, ⟨0, .own, 3, 1, []⟩⟩] (by simp) (by simp) rfl (by repeat (first | exact GhOk.nil | refine GhOk.low rfl ?_ | refine GhOk.same rfl ?_ | refine GhOk.bump (Nat.lt_succ_self _) ?_)) (by repeat (first | exact EntsOk.nil | refine EntsOk.new ?_)) (by repeat (first | exact SlC.nil | refine SlC.cons (.plain rfl rfl (by first | rfl | (simp; done) | (congr 1; omega) | (simp; omega) | (simp [List.take_of_length_le]; done) | (refine congrArg (FV.int .i64) ?_; omega))) ?_ | refine SlC.cons (.nil rfl (.head _) rfl) ?_)))
  rintro ⟨i, few⟩ ⟨hi, hi6, hfl⟩
  dsimp only at hi hi6 hfl ⊢
  refine FW.seq ?_
  refine FW.seq ?_
  refine FW.join (fun b : Bool => ⟨[(2, .list 1 (fr.map intf)), (3, .int .i64 v), (9, .int .i64 k), (10, .list 2 (A.map edf)), (11, .own 100 0 0 few.length), (12, .int .i64 i), (25, .bool b)], [(100, ⟨0, .own, 3, 1, few.map intf⟩)]⟩) (fun b => b = true → i < fr.length ∧ i < 6) ?_ ?_
  · (repeat (first | refine FW.region ?_ | refine rn_move rfl rfl rfl ?_ | refine rn_lenList rfl rfl (by first | exact List.length_map _ | exact (List.length_map _).symm | exact List.length_replicate | rfl | (simp; done) | omega | (simp; omega)) rfl rfl ?_ | refine rn_lss rfl rfl rfl rfl ?_))
    refine rn_case (fun h => ?_) (fun h => ?_)
    · (repeat (first | refine RunN.nil ?_ | refine rn_pickT rfl rfl rfl rfl ?_ | refine rn_move rfl rfl ⟨_, _, rfl, rfl, rfl⟩ ?_ | refine rn_lss rfl rfl rfl ⟨_, _, rfl, rfl, rfl⟩ ?_))
      refine ⟨rfl, decide ((i : Int) < 6), fun q => ⟨by simpa using h, by simp at q; omega⟩, ?_⟩
      exact (FLe.conv [⟨100, some 100, 0, ⟨0, .own, 3, 1, few.map intf⟩⟩] (by simp) (by simp) rfl (by repeat (first | exact GhOk.nil | refine GhOk.low rfl ?_ | refine GhOk.same rfl ?_ | refine GhOk.bump (Nat.lt_succ_self _) ?_)) (by repeat (first | exact EntsOk.nil | refine EntsOk.old rfl (by decide) (by first | rfl | (simp; done) | (congr 1; omega) | (simp; omega) | (simp [List.take_of_length_le]; done) | (refine congrArg (FV.int .i64) ?_; omega)) ?_)) (by repeat (first | exact SlC.nil | refine SlC.cons (.plain rfl rfl (by first | rfl | (simp; done) | (congr 1; omega) | (simp; omega) | (simp [List.take_of_length_le]; done) | (refine congrArg (FV.int .i64) ?_; omega))) ?_ | refine SlC.cons (.own rfl (.head _) rfl (by first | rfl | (simp; done) | (congr 1; omega) | (simp; omega) | (simp [List.take_of_length_le]; done) | (refine congrArg (FV.int .i64) ?_; omega))) ?_)))
    · (repeat (first | refine RunN.nil ?_ | refine rn_pickF rfl rfl rfl rfl ?_ | refine rn_skip rfl rfl ⟨_, _, rfl, rfl, rfl⟩ ?_))
      refine ⟨rfl, false, fun q => (by cases q), ?_⟩
      exact (FLe.conv [⟨100, some 100, 0, ⟨0, .own, 3, 1, few.map intf⟩⟩] (by simp) (by simp) rfl (by repeat (first | exact GhOk.nil | refine GhOk.low rfl ?_ | refine GhOk.same rfl ?_ | refine GhOk.bump (Nat.lt_succ_self _) ?_)) (by repeat (first | exact EntsOk.nil | refine EntsOk.old rfl (by decide) (by first | rfl | (simp; done) | (congr 1; omega) | (simp; omega) | (simp [List.take_of_length_le]; done) | (refine congrArg (FV.int .i64) ?_; omega)) ?_)) (by repeat (first | exact SlC.nil | refine SlC.cons (.plain rfl rfl (by first | rfl | (simp; done) | (congr 1; omega) | (simp; omega) | (simp [List.take_of_length_le]; done) | (refine congrArg (FV.int .i64) ?_; omega))) ?_ | refine SlC.cons (.own rfl (.head _) rfl (by first | rfl | (simp; done) | (congr 1; omega) | (simp; omega) | (simp [List.take_of_length_le]; done) | (refine congrArg (FV.int .i64) ?_; omega))) ?_)))
  · intro b hb
    refine FW.cond rfl (fun h => ?_) (fun h => ?_)
    · obtain ⟨hlt, hlt6⟩ := hb h
      subst h
      have hxi := hf _ (nth_mem hlt)
      have ha1 := around_lo (n := nth fr i) (most := (k : Int) + 2) (by omega)
      have ha2 := around_hi (n := nth fr i) (most := (k : Int) + 2) (by omega)
      (repeat (first | refine FW.seq ?_ | refine FW.region ?_ | refine FW.block ?_ | refine FW.skip ?_ | refine rn_move rfl rfl rfl ?_ | refine rn_indexL rfl rfl (by first | rfl | exact (Int.toNat_of_nonneg (by omega)).symm) rfl rfl rfl (by first | omega | (simp; omega) | (simp; done)) rfl rfl ?_ | refine rn_loadE rfl rfl rfl (by first | omega | (simp; omega) | (simp; done)) (by first | exact getD_map (by omega) | rfl) rfl rfl rfl rfl ?_ | refine rn_add rfl rfl (by omega) rfl rfl ?_))
      refine rn_call (around_spec (nth fr i) ((k : Int) + 2) hxi (by omega) (by omega)) (by repeat (first | exact ArgsR.nil | refine ArgsR.cons (by first | exact ArgR.plain rfl rfl) ?_)) rfl rfl ?_
      generalize around (nth fr i) ((k : Int) + 2) = y at ha1 ha2
      (repeat (first | refine FW.region ?_ | refine RunN.nil ?_ | refine rn_assign rfl rfl rfl ?_ | refine rn_move rfl rfl rfl ?_ | refine rn_add rfl rfl (by omega) rfl rfl ?_ | refine rn_sub rfl rfl (by omega) rfl rfl ?_ | refine rn_buildS1 rfl rfl rfl rfl rfl rfl rfl rfl ?_ | refine rn_appO rfl rfl (by first | exact List.length_map _ | exact (List.length_map _).symm | exact List.length_replicate | rfl | (simp; done) | omega | (simp; omega)) rfl rfl rfl (by decide) (by first | exact SrcR.own rfl rfl (by decide) (by first | exact List.length_map _ | exact (List.length_map _).symm | exact List.length_replicate | rfl | (simp; done) | omega | (simp; omega)) | exact SrcR.list rfl | exact SrcR.nil rfl | exact SrcR.part rfl rfl (by decide)) (by first | omega | (simp; omega) | (simp; done)) (by first | omega | (simp; omega) | (simp; done)) rfl rfl rfl ?_))
      refine ⟨(i + 1, few ++ [y - 1]), ⟨by show i + 1 ≤ _; omega, by show i + 1 ≤ 6; omega, by show (few ++ [y - 1]).length = i + 1; simp; omega⟩, by show 6 - (i + 1) < 6 - i; omega, ?_⟩
      dsimp only
      rw [List.length_append, List.map_append]
      obtain ⟨Y, hY⟩ : ∃ Y, few.map intf ++ [y - 1].map intf = Y := ⟨_, rfl⟩
      have hYl : Y.length = few.length + 1 := by rw [← hY]; simp
      rw [show few.map intf ++ [[FV.int .i64 (y - 1)]] = Y from hY, hY]
      exact (FLe.conv [⟨100, some 38, 0 + 1, ⟨0, .own, 3, 1, Y⟩⟩] (by simp) (by simp) rfl (by repeat (first | exact GhOk.nil | refine GhOk.low rfl ?_ | refine GhOk.same rfl ?_ | refine GhOk.bump (Nat.lt_succ_self _) ?_)) (by repeat (first | exact EntsOk.nil | refine EntsOk.old rfl (by decide) (by first | rfl | (simp; done) | (congr 1; omega) | (simp; omega) | (simp [List.take_of_length_le]; done) | (refine congrArg (FV.int .i64) ?_; omega)) ?_)) (by repeat (first | exact SlC.nil | refine SlC.cons (.plain rfl rfl (by first | rfl | (simp; done) | (congr 1; omega) | (simp; omega) | (simp [List.take_of_length_le]; done) | (refine congrArg (FV.int .i64) ?_; omega))) ?_ | refine SlC.cons (.own rfl (.head _) rfl (by first | rfl | (simp; done) | (congr 1; omega) | (simp; omega) | (simp [List.take_of_length_le]; done) | (refine congrArg (FV.int .i64) ?_; omega))) ?_)))
    · subst h
      clear hb
      (repeat (first | refine FW.seq ?_ | refine FW.region ?_ | refine FW.exit ?_ | refine RunN.nil ?_ | refine rn_assign rfl rfl rfl ?_ | refine rn_move rfl rfl rfl ?_ | refine rn_buildS1 rfl rfl rfl rfl rfl rfl rfl rfl ?_ | refine rn_appO rfl rfl (by first | exact List.length_map _ | exact (List.length_map _).symm | exact List.length_replicate | rfl | (simp; done) | omega | (simp; omega)) rfl rfl rfl (by decide) (by first | exact SrcR.own rfl rfl (by decide) (by first | exact List.length_map _ | exact (List.length_map _).symm | exact List.length_replicate | rfl | (simp; done) | omega | (simp; omega)) | exact SrcR.list rfl | exact SrcR.nil rfl | exact SrcR.part rfl rfl (by decide)) (by first | omega | (simp; omega) | (simp; done)) (by first | omega | (simp; omega) | (simp; done)) rfl rfl rfl ?_))
      obtain ⟨fw, hfw⟩ : ∃ fw, few ++ [v] = fw := ⟨_, rfl⟩
      have hfwl : fw.length = few.length + 1 := by rw [← hfw]; simp
      rw [show few.map intf ++ [[FV.int .i64 v]] = fw.map intf by rw [← hfw, List.map_append]; rfl]
      refine RunN.le ?_ ((FLe.share 45 rfl rfl (by rfl)).trans (FLe.again 11 rfl rfl (by rfl)))
      have hR := reach_spec k A fw (by omega) (by omega) hA (by omega)
      have hQ := rReach_spec k A fw (by omega) (by omega) hA (by omega)
      have hgl := gReach_len k A fw
      generalize gReach k A fw = g at hR hQ hgl
      refine rn_callS hR (by repeat (first | exact ArgsR.nil | refine ArgsR.cons (by first | exact ArgR.plain rfl rfl) ?_)) rfl rfl ?_
      (repeat (first | refine rn_move rfl rfl rfl ?_))
      refine rn_callS hQ (by repeat (first | exact ArgsR.nil | refine ArgsR.cons (by first | exact ArgR.plain rfl rfl) ?_)) rfl rfl ?_
      refine rn_call (sameInts_spec g g (by omega) (by omega)) (by repeat (first | exact ArgsR.nil | refine ArgsR.cons (by first | exact ArgR.plain rfl rfl) ?_)) rfl rfl ?_
      rw [show decide (g = g) = true by simp]
      (repeat (first | refine rn_move rfl rfl rfl ?_))
      refine rn_call lives03_spec (by repeat (first | exact ArgsR.nil)) rfl ⟨_, _, rfl, rfl, rfl⟩ ?_
      (repeat (first | refine RunN.nil ?_ | refine rn_assign rfl rfl rfl ?_ | refine rn_pickT rfl rfl rfl rfl ?_))
      exact FW.ret ⟨.inl rfl, ret_flat rfl rfl rfl rfl⟩
end Go.Proofs.Ytflkbehbenlhaaa
