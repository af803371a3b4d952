/-
  The reference's edges; simprooflaw22.SerialEdges answers true for every input (walked on plain values).
-/
import Derived.Test.YtfegkbmnclhljaaZFmSer8
import Derived.Test.YtfegkbmnclhljaaZFmSer7
namespace Go.Proofs.Ytfegkbmnclhljaa
set_option linter.unusedVariables false
open Go.RowKit

theorem edRows_le (l : List OpV) (s : Bool) (i : Nat) : ∀ k, (edRows l s i k).length ≤ 4 * k
  | 0 => by simp [edRows]
  | k + 1 => by rw [edRows_succ, List.length_append]; have := edRows_le l s i k; have := edRow_len l s i k; omega
set_option maxHeartbeats 4000000 in
theorem rEdges22_spec (l : List OpV) (s : Bool) (hl : l.length ≤ 1000) : Spec Try.prog 15 [.list 8 (l.map OpV.fv), .bool s] (.ow 43 3) (.list 3 ((edges22 l s).map EdV.fv)) := by
  obtain ⟨n, hn⟩ : ∃ n, l.length = n := ⟨_, rfl⟩
  refine Spec.of_body (c := (cxOf Try.prog tyAt_ok mixed_ok 44)) ⟨Try.func15, rfl, Try.ntmps15, by kernel_rfl⟩ (by simp [FV.hand]) (by exact Nat.le_of_ble_eq_true rfl) rfl ?_
  change FW _ _ _ ⟨[(0, .list 8 (l.map OpV.fv)), (1, .bool s)], []⟩
  (repeat (first | refine FW.seq ?_ | refine FW.region ?_ | refine FW.block ?_ | refine RunN.nil ?_ | refine rn_assign rfl rfl rfl ?_))
  refine FW.loop (fun i : Nat => ⟨[(0, .list 8 (l.map OpV.fv)), (1, .bool s), (5, .own 100 0 0 (edTo l s i).length), (6, .int .i64 i)], [(100, ⟨0, .own, 43, 3, (edTo l s i).map EdV.fv⟩)]⟩) (fun i => i ≤ n) (fun i => n - i) 0 (Nat.zero_le _) ?_ ?_
  · show FLe _ ⟨[(0, .list 8 (l.map OpV.fv)), (1, .bool s), (5, .own 100 0 0 0), (6, .int .i64 0)], [(100, ⟨0, .own, 43, 3, []⟩)]⟩
    exact (FLe.conv [⟨100, none, 0, ⟨0, .own, 43, 3, []⟩⟩] (by simp) (by simp) rfl (by repeat (first | exact GhOk.nil | refine GhOk.low rfl ?_ | refine GhOk.same rfl ?_ | refine GhOk.bump (Nat.lt_succ_self _) ?_)) (by repeat (first | exact EntsOk.nil | refine EntsOk.new ?_)) (by repeat (first | exact SlC.nil | refine SlC.cons (.plain rfl rfl (by first | rfl | (simp; done) | (congr 1; omega) | (simp; omega) | (simp [List.take_of_length_le]; done) | (refine congrArg (FV.int .i64) ?_; omega))) ?_ | refine SlC.cons (.nil rfl (.head _) rfl) ?_)))
  intro i hi
  have hel := edTo_le l s (i := i) (by omega) hl
  have hes := edTo_succ l s i
  have hlast : i = n → edges22 l s = edTo l s i := fun e => by unfold edges22; rw [hn, e]
  generalize edTo l s i = A at hel hes hlast
  (repeat (first | refine FW.seq ?_ | refine FW.region ?_ | refine RunN.nil ?_ | refine rn_move rfl rfl rfl ?_ | refine rn_lenList rfl rfl (by first | exact List.length_map _ | exact (List.length_map _).symm | exact List.length_replicate | rfl | (simp; done) | omega | (simp; omega)) rfl rfl ?_ | refine rn_lss rfl rfl rfl rfl ?_))
  refine FW.cond rfl (fun hc => ?_) (fun hc => ?_)
  · have hin : i < n := by rw [hn] at hc; simpa using hc
    clear hc hlast
    have hin2 : i < l.length := by omega
    (repeat (first | refine FW.seq ?_ | refine FW.region ?_ | refine FW.block ?_ | refine FW.skip ?_ | refine RunN.nil ?_ | refine rn_assign rfl rfl rfl ?_))
    refine FW.loop (fun k : Nat => ⟨[(0, .list 8 (l.map OpV.fv)), (1, .bool s), (5, .own 100 0 0 (A ++ edRows l s i k).length), (6, .int .i64 i), (7, .int .i64 k)], [(100, ⟨0, .own, 43, 3, (A ++ edRows l s i k).map EdV.fv⟩)]⟩) (fun k => k ≤ n) (fun k => n - k) 0 (Nat.zero_le _) ?_ ?_
    · show FLe _ ⟨[(0, .list 8 (l.map OpV.fv)), (1, .bool s), (5, .own 100 0 0 (A ++ []).length), (6, .int .i64 i), (7, .int .i64 0)], [(100, ⟨0, .own, 43, 3, (A ++ []).map EdV.fv⟩)]⟩
      rw [List.append_nil]
      exact (FLe.conv [⟨100, some 100, 0, ⟨0, .own, 43, 3, A.map EdV.fv⟩⟩] (by simp) (by simp) rfl (by repeat (first | exact GhOk.nil | refine GhOk.low rfl ?_ | refine GhOk.same rfl ?_ | refine GhOk.bump (Nat.lt_succ_self _) ?_)) (by repeat (first | exact EntsOk.nil | refine EntsOk.old rfl (by decide) (by first | rfl | (simp; done) | (congr 1; omega) | (simp; omega) | (simp [List.take_of_length_le]; done) | (refine congrArg (FV.int .i64) ?_; omega)) ?_)) (by repeat (first | exact SlC.nil | refine SlC.cons (.plain rfl rfl (by first | rfl | (simp; done) | (congr 1; omega) | (simp; omega) | (simp [List.take_of_length_le]; done) | (refine congrArg (FV.int .i64) ?_; omega))) ?_ | refine SlC.cons (.own rfl (.head _) rfl (by first | rfl | (simp; done) | (congr 1; omega) | (simp; omega) | (simp [List.take_of_length_le]; done) | (refine congrArg (FV.int .i64) ?_; omega))) ?_)))
    intro k hk
    have hrl := edRows_le l s i k
    have hBl : (A ++ edRows l s i k).length = A.length + (edRows l s i k).length := List.length_append
    have hBs : A ++ edRows l s i (k + 1) = (A ++ edRows l s i k) ++ edRow l s i k := by rw [edRows_succ, List.append_assoc]
    have hlast : k = n → A ++ edRows l s i k = edTo l s (i + 1) := fun e => by rw [hes, e, hn]
    generalize A ++ edRows l s i k = B at hBl hBs hlast
    (repeat (first | refine FW.seq ?_ | refine FW.region ?_ | refine RunN.nil ?_ | refine rn_move rfl rfl rfl ?_ | refine rn_lenList rfl rfl (by first | exact List.length_map _ | exact (List.length_map _).symm | exact List.length_replicate | rfl | (simp; done) | omega | (simp; omega)) rfl rfl ?_ | refine rn_lss rfl rfl rfl rfl ?_))
    refine FW.cond rfl (fun hc => ?_) (fun hc => ?_)
    · have hkn : k < n := by rw [hn] at hc; simpa using hc
      clear hc hlast
      have hkn2 : k < l.length := by omega
      have hwy := rWhy_spec l s i k hin2 hkn2 (by omega)
      have hwl := why22_len l s i k
      have hrow : edRow l s i k = (why22 l s i k).map fun w => (i, k, w) := rfl
      rw [hrow] at hBs
      generalize why22 l s i k = W at hwy hwl hBs
      (repeat (first | refine FW.seq ?_ | refine FW.region ?_ | refine FW.block ?_ | refine FW.skip ?_ | refine rn_move rfl rfl rfl ?_))
      refine rn_callO hwy (by repeat (first | exact ArgsR.nil | refine ArgsR.cons (by first | exact ArgR.plain rfl rfl) ?_)) (List.length_map _) rfl rfl rfl ?_
      refine RunN.le ?_ (FLe.share 26 rfl rfl (by rw [List.length_map]))
      (repeat (first | refine FW.seq ?_ | refine FW.region ?_ | refine FW.block ?_ | refine RunN.nil ?_ | refine rn_assign rfl rfl rfl ?_))
      refine FW.loop (fun j : Nat => ⟨[(0, .list 8 (l.map OpV.fv)), (1, .bool s), (5, .own 100 0 0 (B ++ (W.take j).map fun w => (i, k, w)).length), (6, .int .i64 i), (7, .int .i64 k), (8, .list 1 (W.map intf)), (9, .int .i64 j)], [(100, ⟨0, .own, 43, 3, (B ++ (W.take j).map fun w => (i, k, w)).map EdV.fv⟩)]⟩) (fun j => j ≤ W.length) (fun j => W.length - j) 0 (Nat.zero_le _) ?_ ?_
      · show FLe _ ⟨[(0, .list 8 (l.map OpV.fv)), (1, .bool s), (5, .own 100 0 0 (B ++ []).length), (6, .int .i64 i), (7, .int .i64 k), (8, .list 1 (W.map intf)), (9, .int .i64 0)], [(100, ⟨0, .own, 43, 3, (B ++ []).map EdV.fv⟩)]⟩
        rw [List.append_nil]
        exact (FLe.conv [⟨100, some 100, 0, ⟨0, .own, 43, 3, B.map EdV.fv⟩⟩] (by simp) (by simp) rfl (by repeat (first | exact GhOk.nil | refine GhOk.low rfl ?_ | refine GhOk.same rfl ?_ | refine GhOk.bump (Nat.lt_succ_self _) ?_)) (by repeat (first | exact EntsOk.nil | refine EntsOk.old rfl (by decide) (by first | rfl | (simp; done) | (congr 1; omega) | (simp; omega) | (simp [List.take_of_length_le]; done) | (refine congrArg (FV.int .i64) ?_; omega)) ?_)) (by repeat (first | exact SlC.nil | refine SlC.cons (.plain rfl rfl (by first | rfl | (simp; done) | (congr 1; omega) | (simp; omega) | (simp [List.take_of_length_le]; done) | (refine congrArg (FV.int .i64) ?_; omega))) ?_ | refine SlC.cons (.own rfl (.head _) rfl (by first | rfl | (simp; done) | (congr 1; omega) | (simp; omega) | (simp [List.take_of_length_le]; done) | (refine congrArg (FV.int .i64) ?_; omega))) ?_)))
      intro j hj
      have hCl : (B ++ (W.take j).map fun w => (i, k, w)).length = B.length + j := by rw [List.length_append, List.length_map, List.length_take]; omega
      have hCs : ∀ h : j < W.length, (B ++ (W.take (j + 1)).map fun w => (i, k, w)) = (B ++ (W.take j).map fun w => (i, k, w)) ++ [(i, k, nth W j)] := fun h => by rw [List.take_succ_eq_append_getElem h, List.map_append, ← List.append_assoc, nth_eq h]; rfl
      have hlast : j = W.length → (B ++ (W.take j).map fun w => (i, k, w)) = A ++ edRows l s i (k + 1) := fun e => by rw [hBs, e, List.take_length]
      generalize (B ++ (W.take j).map fun w => (i, k, w)) = C at hCl hCs hlast
      (repeat (first | refine FW.seq ?_ | refine FW.region ?_ | refine RunN.nil ?_ | refine rn_move rfl rfl rfl ?_ | refine rn_lenList rfl rfl (by first | exact List.length_map _ | exact (List.length_map _).symm | exact List.length_replicate | rfl | (simp; done) | omega | (simp; omega)) rfl rfl ?_ | refine rn_lss rfl rfl rfl rfl ?_))
      refine FW.cond rfl (fun hc => ?_) (fun hc => ?_)
      · have hjm : j < W.length := by simpa using hc
        clear hc hlast
        have hCs := hCs hjm
        (repeat (first | refine FW.seq ?_ | refine FW.region ?_ | refine FW.block ?_ | refine FW.skip ?_ | refine RunN.nil ?_ | refine rn_assign rfl rfl rfl ?_ | refine rn_move rfl rfl rfl ?_ | refine rn_indexL rfl rfl (by first | rfl | exact (Int.toNat_of_nonneg (by omega)).symm) rfl rfl rfl (by first | omega | (simp; omega) | (simp; done)) rfl rfl ?_ | refine rn_loadE rfl rfl rfl (by first | omega | (simp; omega) | (simp; done)) (by first | exact getD_map (by omega) | rfl) rfl rfl rfl rfl ?_ | refine rn_buildK rfl rfl rfl rfl ?_ | refine rn_buildS1A rfl rfl rfl rfl rfl rfl rfl rfl rfl rfl ?_ | refine rn_appO rfl rfl (by first | exact List.length_map _ | exact (List.length_map _).symm | exact List.length_replicate | rfl | (simp; done) | omega | (simp; omega)) rfl rfl rfl (by decide) (by first | exact SrcR.own rfl rfl (by decide) (by first | exact List.length_map _ | exact (List.length_map _).symm | exact List.length_replicate | rfl | (simp; done) | omega | (simp; omega)) | exact SrcR.list rfl | exact SrcR.nil rfl | exact SrcR.part rfl rfl (by decide)) (by first | omega | (simp; omega) | (simp; done)) (by first | omega | (simp; omega) | (simp; done)) rfl rfl rfl ?_ | refine rn_add rfl rfl (by omega) rfl rfl ?_ | refine FillK.nil ?_ | refine FillK.one rfl rfl rfl rfl rfl ?_))
        refine ⟨j + 1, by omega, by omega, ?_⟩
        rw [hCs, List.map_append]
        exact (FLe.conv [⟨100, some 42, 0 + 1, ⟨0, .own, 43, 3, C.map EdV.fv ++ [(i, k, nth W j)].map EdV.fv⟩⟩] (by simp) (by simp) rfl (by repeat (first | exact GhOk.nil | refine GhOk.low rfl ?_ | refine GhOk.same rfl ?_ | refine GhOk.bump (Nat.lt_succ_self _) ?_)) (by repeat (first | exact EntsOk.nil | refine EntsOk.old rfl (by decide) (by first | rfl | (simp; done) | (congr 1; omega) | (simp; omega) | (simp [List.take_of_length_le]; done) | (refine congrArg (FV.int .i64) ?_; omega)) ?_)) (by repeat (first | exact SlC.nil | refine SlC.cons (.plain rfl rfl (by first | rfl | (simp; done) | (congr 1; omega) | (simp; omega) | (simp [List.take_of_length_le]; done) | (refine congrArg (FV.int .i64) ?_; omega))) ?_ | refine SlC.cons (.own rfl (.head _) rfl (by first | rfl | (simp; done) | (congr 1; omega) | (simp; omega) | (simp [List.take_of_length_le]; done) | (refine congrArg (FV.int .i64) ?_; omega))) ?_)))
      · obtain rfl : j = W.length := by simp at hc; omega
        have hl := hlast rfl
        (repeat (first | refine FW.region ?_ | refine FW.exit ?_ | refine RunN.nil ?_ | refine rn_assign rfl rfl rfl ?_ | refine rn_move rfl rfl rfl ?_ | refine rn_add rfl rfl (by omega) rfl rfl ?_))
        refine ⟨k + 1, by omega, by omega, ?_⟩
        rw [← hl]
        exact (FLe.conv [⟨100, some 100, 0, ⟨0, .own, 43, 3, C.map EdV.fv⟩⟩] (by simp) (by simp) rfl (by repeat (first | exact GhOk.nil | refine GhOk.low rfl ?_ | refine GhOk.same rfl ?_ | refine GhOk.bump (Nat.lt_succ_self _) ?_)) (by repeat (first | exact EntsOk.nil | refine EntsOk.old rfl (by decide) (by first | rfl | (simp; done) | (congr 1; omega) | (simp; omega) | (simp [List.take_of_length_le]; done) | (refine congrArg (FV.int .i64) ?_; omega)) ?_)) (by repeat (first | exact SlC.nil | refine SlC.cons (.plain rfl rfl (by first | rfl | (simp; done) | (congr 1; omega) | (simp; omega) | (simp [List.take_of_length_le]; done) | (refine congrArg (FV.int .i64) ?_; omega))) ?_ | refine SlC.cons (.own rfl (.head _) rfl (by first | rfl | (simp; done) | (congr 1; omega) | (simp; omega) | (simp [List.take_of_length_le]; done) | (refine congrArg (FV.int .i64) ?_; omega))) ?_)))
    · obtain rfl : k = n := by rw [hn] at hc; simp at hc; omega
      have hl := hlast rfl
      (repeat (first | refine FW.region ?_ | refine FW.exit ?_ | refine RunN.nil ?_ | refine rn_assign rfl rfl rfl ?_ | refine rn_move rfl rfl rfl ?_ | refine rn_add rfl rfl (by omega) rfl rfl ?_))
      refine ⟨i + 1, by omega, by omega, ?_⟩
      rw [← hl]
      exact (FLe.conv [⟨100, some 100, 0, ⟨0, .own, 43, 3, B.map EdV.fv⟩⟩] (by simp) (by simp) rfl (by repeat (first | exact GhOk.nil | refine GhOk.low rfl ?_ | refine GhOk.same rfl ?_ | refine GhOk.bump (Nat.lt_succ_self _) ?_)) (by repeat (first | exact EntsOk.nil | refine EntsOk.old rfl (by decide) (by first | rfl | (simp; done) | (congr 1; omega) | (simp; omega) | (simp [List.take_of_length_le]; done) | (refine congrArg (FV.int .i64) ?_; omega)) ?_)) (by repeat (first | exact SlC.nil | refine SlC.cons (.plain rfl rfl (by first | rfl | (simp; done) | (congr 1; omega) | (simp; omega) | (simp [List.take_of_length_le]; done) | (refine congrArg (FV.int .i64) ?_; omega))) ?_ | refine SlC.cons (.own rfl (.head _) rfl (by first | rfl | (simp; done) | (congr 1; omega) | (simp; omega) | (simp [List.take_of_length_le]; done) | (refine congrArg (FV.int .i64) ?_; omega))) ?_)))
  · obtain rfl : i = n := by rw [hn] at hc; simp at hc; omega
    rw [hlast rfl]
    (repeat (first | refine FW.seq ?_ | refine FW.region ?_ | refine FW.exit ?_ | refine RunN.nil ?_ | refine rn_assign rfl rfl rfl ?_ | refine rn_move rfl rfl rfl ?_))
    exact FW.ret ⟨.inl rfl, ret_ow rfl rfl rfl (by simp) (by decide) rfl (EdV.flatsM _)⟩
set_option maxHeartbeats 4000000 in
theorem serialEdges_spec (l : List Int) (f s : Bool) (hl : ∀ x ∈ l, I64 x) (hlen : l.length ≤ 9223372036854775807) : Spec Try.prog 3 [.list 1 (l.map intf), .bool f, .bool s] .fr (.bool true) := by
  have hH := histS_spec 12 f l (by decide) hl hlen
  have hHl := histS_len (f := f) (l := l) (by decide : 12 ≤ 12)
  refine Spec.of_body (c := (cxOf Try.prog tyAt_ok mixed_ok 21)) ⟨Try.func3, rfl, Try.ntmps3, by kernel_rfl⟩ (by simp [FV.hand]) (by exact Nat.le_of_ble_eq_true rfl) rfl ?_
  change FW _ _ _ ⟨[(0, .list 1 (l.map intf)), (1, .bool f), (2, .bool s)], []⟩
  (repeat (first | refine FW.seq ?_ | refine FW.region ?_ | refine RunN.nil ?_ | refine rn_assign rfl rfl rfl ?_ | refine rn_move rfl rfl rfl ?_))
  refine rn_callO hH (by repeat (first | exact ArgsR.nil | refine ArgsR.cons (by first | exact ArgR.plain rfl rfl) ?_)) (List.length_map _) rfl rfl rfl ?_
  refine RunN.le ?_ (FLe.share 10 rfl rfl (by rw [List.length_map]))
  generalize histS 12 f l = H at hH hHl
  have h1 := edges_spec H s (by omega)
  have h2 := rEdges22_spec H s (by omega)
  have hlX := edTo_len H s H.length
  have hlX : (edges22 H s).length ≤ 576 := by
    refine Nat.le_trans hlX ?_
    exact Nat.le_trans (Nat.mul_le_mul (Nat.mul_le_mul (Nat.le_refl 4) hHl) hHl) (by decide)
  generalize edges22 H s = X at h1 h2 hlX
  have h3 := sameEdges_spec X X (by omega) (by omega)
  rw [decide_eq_true rfl] at h3
  (repeat (first | refine FW.seq ?_ | refine FW.region ?_ | refine RunN.nil ?_ | refine rn_assign rfl rfl rfl ?_ | refine rn_move rfl rfl rfl ?_))
  refine rn_callO h1 (by repeat (first | exact ArgsR.nil | refine ArgsR.cons (by first | exact ArgR.plain rfl rfl) ?_)) (List.length_map _) rfl rfl rfl ?_
  refine RunN.le ?_ (FLe.share 13 rfl rfl (by rw [List.length_map]))
  (repeat (first | refine rn_move rfl rfl rfl ?_))
  refine rn_callO h2 (by repeat (first | exact ArgsR.nil | refine ArgsR.cons (by first | exact ArgR.plain rfl rfl) ?_)) (List.length_map _) rfl rfl rfl ?_
  refine RunN.le ?_ (FLe.share 16 rfl rfl (by rw [List.length_map]))
  skip
  refine rn_call h3 (by repeat (first | exact ArgsR.nil | refine ArgsR.cons (by first | exact ArgR.plain rfl rfl) ?_)) rfl rfl ?_
  (repeat (first | refine rn_move rfl rfl rfl ?_))
  refine rn_call lives22_spec (by repeat (first | exact ArgsR.nil)) rfl ⟨_, _, rfl, rfl, rfl⟩ ?_
  (repeat (first | refine RunN.nil ?_ | refine rn_assign rfl rfl rfl ?_ | refine rn_pickT rfl rfl rfl rfl ?_))
  exact FW.ret ⟨.inl rfl, ret_flat rfl rfl rfl rfl⟩
end Go.Proofs.Ytfegkbmnclhljaa
