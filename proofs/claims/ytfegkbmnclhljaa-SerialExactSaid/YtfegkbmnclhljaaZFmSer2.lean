/-
  serial.Edges, at plain values.
-/
import Derived.Test.YtfegkbmnclhljaaZFmSer1
import Derived.Test.YtfegkbmnclhljaaZFmW
namespace Go.Proofs.Ytfegkbmnclhljaa
set_option linter.unusedVariables false
open Go.RowKit

theorem edTo_le (l : List OpV) (s : Bool) {i : Nat} (hi : i ≤ l.length) (hl : l.length ≤ 1000) : (edTo l s i).length ≤ 4000000 := by
  have h1 := edTo_len l s i
  have h2 : 4 * l.length * i ≤ 4 * 1000 * 1000 := Nat.mul_le_mul (Nat.mul_le_mul (Nat.le_refl 4) hl) (by omega)
  omega
set_option maxHeartbeats 4000000 in
theorem edges_spec (l : List OpV) (s : Bool) (hl : l.length ≤ 1000) : Spec Try.prog 14 [.list 8 (l.map OpV.fv), .bool s] (.ow 43 3) (.list 3 ((edges22 l s).map EdV.fv)) := by
  obtain ⟨R, hR⟩ : ∃ R, rulesR l s = R := ⟨_, rfl⟩
  have hRl := rulesR_len l s
  have hRn := fun j hj => rulesR_nth l s (j := j) hj
  have hr := rules_spec l s
  rw [hR] at hRl hRn hr
  obtain ⟨m, hm⟩ : ∃ m, rulesN s = m := ⟨_, rfl⟩
  have hm4 : m ≤ 4 := by rw [← hm]; unfold rulesN; split <;> omega
  have hall : ∀ i k, ruleTo l i k m = whys l s i k := fun i k => by rw [← hm]; exact ruleTo_all l s i k
  rw [hm] at hRl hRn
  clear hR hm
  obtain ⟨n, hn⟩ : ∃ n, l.length = n := ⟨_, rfl⟩
  refine Spec.of_body (c := (cxOf Try.prog tyAt_ok mixed_ok 61)) ⟨Try.func14, rfl, Try.ntmps14, by kernel_rfl⟩ (by simp [FV.hand]) (by exact Nat.le_of_ble_eq_true rfl) rfl ?_
  change FW _ _ _ ⟨[(0, .list 8 (l.map OpV.fv)), (1, .bool s)], []⟩
  (repeat (first | refine FW.seq ?_ | refine FW.region ?_ | refine RunN.nil ?_ | refine rn_assign rfl rfl rfl ?_ | refine rn_move rfl rfl rfl ?_))
  refine rn_callS hr (by repeat (first | exact ArgsR.nil | refine ArgsR.cons (by exact ArgR.plain rfl rfl) ?_)) rfl rfl ?_
  (repeat (first | refine FW.seq ?_ | refine FW.region ?_ | refine FW.block ?_ | refine RunN.nil ?_ | refine rn_assign rfl rfl rfl ?_ | refine rn_move rfl rfl rfl ?_ | refine rn_lenList rfl rfl (by exact List.length_map _) rfl rfl ?_))
  rw [hn]
  refine FW.loop (fun i : Nat => ⟨[(0, .list 8 (l.map OpV.fv)), (5, .list 2 R), (6, .own 100 0 0 (edTo l s i).length), (15, .int .i64 n), (16, .int .i64 i)], [(100, ⟨0, .own, 43, 3, (edTo l s i).map EdV.fv⟩)]⟩) (fun i => i ≤ n) (fun i => n - i) 0 (Nat.zero_le _) ?_ ?_
  · show FLe _ ⟨[(0, .list 8 (l.map OpV.fv)), (5, .list 2 R), (6, .own 100 0 0 0), (15, .int .i64 n), (16, .int .i64 0)], [(100, ⟨0, .own, 43, 3, []⟩)]⟩
    exact (FLe.conv [⟨100, none, 0, ⟨0, .own, 43, 3, []⟩⟩] (by simp) (by simp) rfl (by repeat (first | exact GhOk.nil | refine GhOk.low rfl ?_ | refine GhOk.same rfl ?_ | refine GhOk.bump (Nat.lt_succ_self _) ?_)) (by repeat (first | exact EntsOk.nil | refine EntsOk.new ?_)) (by repeat (first | exact SlC.nil | refine SlC.cons (.plain rfl rfl rfl) ?_ | refine SlC.cons (.nil rfl (.head _) rfl) ?_)))
  intro i hi
  have hel := edTo_le l s (i := i) (by omega) hl
  have hes := edTo_succ l s i
  have hlast : i = n → edges22 l s = edTo l s i := fun e => by unfold edges22; rw [hn, e]
  generalize edTo l s i = A at hel hes hlast
  (repeat (first | refine FW.seq ?_ | refine FW.region ?_ | refine RunN.nil ?_ | refine rn_lss rfl rfl rfl rfl ?_))
  refine FW.cond rfl (fun hc => ?_) (fun hc => ?_)
  · have hin : i < n := by simpa using hc
    clear hc hlast
    have hin2 : i < l.length := by omega
    (repeat (first | refine FW.seq ?_ | refine FW.region ?_ | refine FW.block ?_ | refine FW.skip ?_ | refine RunN.nil ?_ | refine rn_assign rfl rfl rfl ?_ | refine rn_move rfl rfl rfl ?_ | refine rn_lenList rfl rfl (by exact List.length_map _) rfl rfl ?_))
    rw [hn]
    refine FW.loop (fun k : Nat => ⟨[(0, .list 8 (l.map OpV.fv)), (5, .list 2 R), (6, .own 100 0 0 (A ++ edRows l s i k).length), (15, .int .i64 n), (16, .int .i64 i), (7, .int .i64 i), (20, .int .i64 n), (21, .int .i64 k)], [(100, ⟨0, .own, 43, 3, (A ++ edRows l s i k).map EdV.fv⟩)]⟩) (fun k => k ≤ n) (fun k => n - k) 0 (Nat.zero_le _) ?_ ?_
    · show FLe _ ⟨[(0, .list 8 (l.map OpV.fv)), (5, .list 2 R), (6, .own 100 0 0 (A ++ []).length), (15, .int .i64 n), (16, .int .i64 i), (7, .int .i64 i), (20, .int .i64 n), (21, .int .i64 0)], [(100, ⟨0, .own, 43, 3, (A ++ []).map EdV.fv⟩)]⟩
      rw [List.append_nil]
      exact (FLe.conv [⟨100, some 100, 0, ⟨0, .own, 43, 3, A.map EdV.fv⟩⟩] (by simp) (by simp) rfl (by repeat (first | exact GhOk.nil | refine GhOk.low rfl ?_ | refine GhOk.same rfl ?_ | refine GhOk.bump (Nat.lt_succ_self _) ?_)) (by repeat (first | exact EntsOk.nil | refine EntsOk.old rfl (by decide) rfl ?_)) (by repeat (first | exact SlC.nil | refine SlC.cons (.plain rfl rfl rfl) ?_ | refine SlC.cons (.own rfl (.head _) rfl rfl) ?_)))
    intro k hk
    have hrl := edRows_len l s i k
    have hBl : (A ++ edRows l s i k).length = A.length + (edRows l s i k).length := List.length_append
    have hBs : A ++ edRows l s i (k + 1) = (A ++ edRows l s i k) ++ edRow l s i k := by rw [edRows_succ, List.append_assoc]
    have hlast : k = n → A ++ edRows l s i k = edTo l s (i + 1) := fun e => by rw [hes, e, hn]
    generalize A ++ edRows l s i k = B at hBl hBs hlast
    (repeat (first | refine FW.seq ?_ | refine FW.region ?_ | refine RunN.nil ?_ | refine rn_lss rfl rfl rfl rfl ?_))
    refine FW.cond rfl (fun hc => ?_) (fun hc => ?_)
    · have hkn : k < n := by simpa using hc
      clear hc hlast
      have hkn2 : k < l.length := by omega
      (repeat (first | refine FW.seq ?_ | refine FW.region ?_ | refine FW.block ?_ | refine FW.skip ?_ | refine RunN.nil ?_ | refine rn_assign rfl rfl rfl ?_ | refine rn_move rfl rfl rfl ?_ | refine rn_indexL rfl rfl rfl rfl rfl rfl (by simp; omega) rfl rfl ?_ | refine rn_loadEA rfl rfl rfl (by decide) (by simp; omega) (by first | exact getD_map (by omega) | rfl) rfl rfl rfl ?_))
      refine rn_call (sIncl_spec (nth l i)) (by repeat (first | exact ArgsR.nil | refine ArgsR.cons (by exact ArgR.plain rfl rfl) ?_)) rfl rfl ?_
      (repeat (first | refine rn_move rfl rfl rfl ?_ | refine rn_not rfl rfl rfl ?_))
      cases h1 : incl22 (nth l i) with
      | false =>
        have hw : edRow l s i k = [] := by unfold edRow why22; rw [h1]; rfl
        rw [hw, List.append_nil] at hBs
        (repeat (first | refine FW.region ?_ | refine FW.exit ?_ | refine FW.condT rfl ?_ | refine RunN.nil ?_ | refine rn_move rfl rfl rfl ?_ | refine rn_pickT rfl rfl rfl rfl ?_ | refine rn_add rfl rfl (by omega) rfl rfl ?_ | refine rn_skip rfl rfl ⟨_, _, rfl, rfl, rfl⟩ ?_))
        refine ⟨k + 1, by omega, by omega, ?_⟩
        rw [hBs]
        exact (FLe.conv [⟨100, some 100, 0, ⟨0, .own, 43, 3, B.map EdV.fv⟩⟩] (by simp) (by simp) rfl (by repeat (first | exact GhOk.nil | refine GhOk.low rfl ?_ | refine GhOk.same rfl ?_ | refine GhOk.bump (Nat.lt_succ_self _) ?_)) (by repeat (first | exact EntsOk.nil | refine EntsOk.old rfl (by decide) rfl ?_)) (by repeat (first | exact SlC.nil | refine SlC.cons (.plain rfl rfl rfl) ?_ | refine SlC.cons (.own rfl (.head _) rfl rfl) ?_)))
      | true =>
        (repeat (first | refine rn_move rfl rfl ⟨_, _, rfl, rfl, rfl⟩ ?_ | refine rn_indexL rfl rfl rfl rfl rfl rfl (by simp; omega) rfl ⟨_, _, rfl, rfl, rfl⟩ ?_ | refine rn_loadEA rfl rfl rfl (by decide) (by simp; omega) (by first | exact getD_map (by omega) | rfl) rfl rfl ⟨_, _, rfl, rfl, rfl⟩ ?_))
        refine rn_call (sIncl_spec (nth l k)) (by repeat (first | exact ArgsR.nil | refine ArgsR.cons (by exact ArgR.plain rfl rfl) ?_)) rfl ⟨_, _, rfl, rfl, rfl⟩ ?_
        (repeat (first | refine RunN.nil ?_ | refine rn_pickF rfl rfl rfl rfl ?_ | refine rn_not rfl rfl ⟨_, _, rfl, rfl, rfl⟩ ?_))
        cases h2 : incl22 (nth l k) with
        | false =>
          have hw : edRow l s i k = [] := by unfold edRow why22; rw [h1, h2]; rfl
          rw [hw, List.append_nil] at hBs
          (repeat (first | refine FW.region ?_ | refine FW.exit ?_ | refine FW.condT rfl ?_ | refine RunN.nil ?_ | refine rn_move rfl rfl rfl ?_ | refine rn_add rfl rfl (by omega) rfl rfl ?_))
          refine ⟨k + 1, by omega, by omega, ?_⟩
          rw [hBs]
          exact (FLe.conv [⟨100, some 100, 0, ⟨0, .own, 43, 3, B.map EdV.fv⟩⟩] (by simp) (by simp) rfl (by repeat (first | exact GhOk.nil | refine GhOk.low rfl ?_ | refine GhOk.same rfl ?_ | refine GhOk.bump (Nat.lt_succ_self _) ?_)) (by repeat (first | exact EntsOk.nil | refine EntsOk.old rfl (by decide) rfl ?_)) (by repeat (first | exact SlC.nil | refine SlC.cons (.plain rfl rfl rfl) ?_ | refine SlC.cons (.own rfl (.head _) rfl rfl) ?_)))
        | true =>
          have hw : edRow l s i k = (ruleTo l i k m).map fun w => (i, k, w) := by unfold edRow why22; rw [h1, h2, hall]; rfl
          rw [hw] at hBs
          (repeat (first | refine FW.seq ?_ | refine FW.region ?_ | refine FW.block ?_ | refine FW.skip ?_ | refine FW.condF rfl ?_ | refine RunN.nil ?_ | refine rn_move rfl rfl rfl ?_ | refine rn_lenList rfl rfl rfl rfl rfl ?_))
          rw [hRl]
          refine FW.loop (fun j : Nat => ⟨[(0, .list 8 (l.map OpV.fv)), (5, .list 2 R), (6, .own 100 0 0 (B ++ (ruleTo l i k j).map fun w => (i, k, w)).length), (15, .int .i64 n), (16, .int .i64 i), (7, .int .i64 i), (20, .int .i64 n), (21, .int .i64 k), (8, .int .i64 k), (38, .list 2 R), (39, .int .i64 m), (40, .int .i64 j)], [(100, ⟨0, .own, 43, 3, (B ++ (ruleTo l i k j).map fun w => (i, k, w)).map EdV.fv⟩)]⟩) (fun j => j ≤ m) (fun j => m - j) 0 (Nat.zero_le _) ?_ ?_
          · show FLe _ ⟨[(0, .list 8 (l.map OpV.fv)), (5, .list 2 R), (6, .own 100 0 0 (B ++ []).length), (15, .int .i64 n), (16, .int .i64 i), (7, .int .i64 i), (20, .int .i64 n), (21, .int .i64 k), (8, .int .i64 k), (38, .list 2 R), (39, .int .i64 m), (40, .int .i64 0)], [(100, ⟨0, .own, 43, 3, (B ++ []).map EdV.fv⟩)]⟩
            rw [List.append_nil]
            exact (FLe.conv [⟨100, some 100, 0, ⟨0, .own, 43, 3, B.map EdV.fv⟩⟩] (by simp) (by simp) rfl (by repeat (first | exact GhOk.nil | refine GhOk.low rfl ?_ | refine GhOk.same rfl ?_ | refine GhOk.bump (Nat.lt_succ_self _) ?_)) (by repeat (first | exact EntsOk.nil | refine EntsOk.old rfl (by decide) rfl ?_)) (by repeat (first | exact SlC.nil | refine SlC.cons (.plain rfl rfl rfl) ?_ | refine SlC.cons (.own rfl (.head _) rfl rfl) ?_)))
          intro j hj
          have hjl := ruleTo_len l i k j
          have hCl : (B ++ (ruleTo l i k j).map fun w => (i, k, w)).length = B.length + (ruleTo l i k j).length := by rw [List.length_append, List.length_map]
          have hCs : (B ++ (ruleTo l i k (j + 1)).map fun w => (i, k, w)) = (B ++ (ruleTo l i k j).map fun w => (i, k, w)) ++ (optB (ruleB l i k j) ((j : Int) + 2)).map fun w => (i, k, w) := by rw [ruleTo, List.map_append, List.append_assoc]
          have hlast : j = m → (B ++ (ruleTo l i k j).map fun w => (i, k, w)) = A ++ edRows l s i (k + 1) := fun e => by rw [hBs, e]
          generalize (B ++ (ruleTo l i k j).map fun w => (i, k, w)) = C at hCl hCs hlast
          (repeat (first | refine FW.seq ?_ | refine FW.region ?_ | refine RunN.nil ?_ | refine rn_lss rfl rfl rfl rfl ?_))
          refine FW.cond rfl (fun hc => ?_) (fun hc => ?_)
          · have hjm : j < m := by simpa using hc
            clear hc hlast
            obtain ⟨f, caps, hRj, hsp⟩ := hRn j hjm
            have hsp := hsp i k hin2 hkn2
            have hjR : j < R.length := by omega
            have hgd : R.getD j [] = [.int .i64 ((j : Int) + 2), .fn f caps] := hRj
            (repeat (first | refine FW.seq ?_ | refine FW.region ?_ | refine FW.block ?_ | refine FW.skip ?_ | refine rn_indexL rfl rfl rfl rfl rfl rfl (by omega) rfl rfl ?_))
            refine rn_loadEA rfl rfl rfl (by decide) hjR hgd rfl rfl rfl ?_
            refine rn_allocBox rfl rfl rfl rfl rfl rfl rfl rfl ?_
            (repeat (first | refine FW.seq ?_ | refine FW.region ?_ | refine RunN.nil ?_ | refine rn_move rfl rfl rfl ?_ | refine rn_loadP rfl rfl rfl rfl rfl (by first | omega | (simp; done)) rfl rfl rfl rfl rfl ?_ | refine rn_fieldP rfl rfl rfl rfl rfl rfl (by decide) rfl rfl ?_))
            refine rn_callV rfl hsp (by repeat (first | exact ArgsR.nil | refine ArgsR.cons (by exact ArgR.plain rfl rfl) ?_)) rfl rfl ?_
            (repeat (first | refine RunN.nil ?_))
            cases hb : ruleB l i k j with
            | false =>
              rw [hb] at hCs
              rw [show (optB false ((j : Int) + 2)).map (fun w => (i, k, w)) = [] from rfl, List.append_nil] at hCs
              (repeat (first | refine FW.region ?_ | refine FW.skip ?_ | refine FW.condF rfl ?_ | refine RunN.nil ?_ | refine rn_move rfl rfl rfl ?_ | refine rn_add rfl rfl (by omega) rfl rfl ?_))
              refine ⟨j + 1, by omega, by omega, ?_⟩
              rw [hCs]
              exact (FLe.conv [⟨100, some 100, 0, ⟨0, .own, 43, 3, C.map EdV.fv⟩⟩] (by simp) (by simp) rfl (by repeat (first | exact GhOk.nil | refine GhOk.low rfl ?_ | refine GhOk.same rfl ?_ | refine GhOk.bump (Nat.lt_succ_self _) ?_)) (by repeat (first | exact EntsOk.nil | refine EntsOk.old rfl (by decide) rfl ?_)) (by repeat (first | exact SlC.nil | refine SlC.cons (.plain rfl rfl rfl) ?_ | refine SlC.cons (.own rfl (.head _) rfl rfl) ?_)))
            | true =>
              rw [hb] at hCs
              rw [show (optB true ((j : Int) + 2)).map (fun w => (i, k, w)) = [(i, k, (j : Int) + 2)] from rfl] at hCs
              (repeat (first | refine FW.region ?_ | refine FW.condT rfl ?_ | refine RunN.nil ?_ | refine rn_assign rfl rfl rfl ?_ | refine rn_move rfl rfl rfl ?_ | refine rn_loadP rfl rfl rfl rfl rfl (by first | omega | (simp; omega) | (simp; done)) rfl rfl rfl rfl rfl ?_ | refine rn_fieldP rfl rfl rfl rfl rfl rfl (by decide) rfl rfl ?_ | refine rn_buildK rfl rfl rfl rfl ?_ | refine rn_buildS1A rfl rfl rfl rfl rfl rfl rfl rfl rfl rfl ?_ | refine rn_appO rfl rfl (by first | exact (List.length_map _).symm | rfl | (simp; done) | omega | (simp; omega)) rfl rfl rfl (by decide) (by exact SrcR.own rfl rfl (by decide) (by first | exact List.length_map _ | exact (List.length_map _).symm | exact List.length_replicate | rfl | (simp; done) | omega | (simp; omega))) (by first | omega | (simp; omega) | (simp; done)) (by first | omega | (simp; omega) | (simp; done)) rfl rfl rfl ?_ | refine rn_add rfl rfl (by omega) rfl rfl ?_ | refine FillK.nil ?_ | refine FillK.one rfl rfl rfl rfl rfl ?_))
              refine ⟨j + 1, by omega, by omega, ?_⟩
              rw [hCs, List.map_append]
              exact (FLe.conv [⟨100, some 56, 0 + 1, ⟨0, .own, 43, 3, C.map EdV.fv ++ [(i, k, (j : Int) + 2)].map EdV.fv⟩⟩] (by simp) (by simp) rfl (by repeat (first | exact GhOk.nil | refine GhOk.low rfl ?_ | refine GhOk.same rfl ?_ | refine GhOk.bump (Nat.lt_succ_self _) ?_)) (by repeat (first | exact EntsOk.nil | refine EntsOk.old rfl (by decide) (by first | rfl | (simp; done)) ?_)) (by repeat (first | exact SlC.nil | refine SlC.cons (.plain rfl rfl (by first | rfl | (simp; done))) ?_ | refine SlC.cons (.own rfl (.head _) rfl (by first | rfl | (simp; done))) ?_)))
          · obtain rfl : j = m := by simp at hc; omega
            have hl := hlast rfl
            (repeat (first | refine FW.region ?_ | refine FW.exit ?_ | refine RunN.nil ?_ | refine rn_move rfl rfl rfl ?_ | refine rn_add rfl rfl (by omega) rfl rfl ?_))
            refine ⟨k + 1, by omega, by omega, ?_⟩
            rw [← hl]
            exact (FLe.conv [⟨100, some 100, 0, ⟨0, .own, 43, 3, C.map EdV.fv⟩⟩] (by simp) (by simp) rfl (by repeat (first | exact GhOk.nil | refine GhOk.low rfl ?_ | refine GhOk.same rfl ?_ | refine GhOk.bump (Nat.lt_succ_self _) ?_)) (by repeat (first | exact EntsOk.nil | refine EntsOk.old rfl (by decide) rfl ?_)) (by repeat (first | exact SlC.nil | refine SlC.cons (.plain rfl rfl rfl) ?_ | refine SlC.cons (.own rfl (.head _) rfl rfl) ?_)))
    · obtain rfl : k = n := by simp at hc; omega
      have hl := hlast rfl
      (repeat (first | refine FW.region ?_ | refine FW.exit ?_ | refine RunN.nil ?_ | refine rn_move rfl rfl rfl ?_ | refine rn_add rfl rfl (by omega) rfl rfl ?_))
      refine ⟨i + 1, by omega, by omega, ?_⟩
      rw [← hl]
      exact (FLe.conv [⟨100, some 100, 0, ⟨0, .own, 43, 3, B.map EdV.fv⟩⟩] (by simp) (by simp) rfl (by repeat (first | exact GhOk.nil | refine GhOk.low rfl ?_ | refine GhOk.same rfl ?_ | refine GhOk.bump (Nat.lt_succ_self _) ?_)) (by repeat (first | exact EntsOk.nil | refine EntsOk.old rfl (by decide) rfl ?_)) (by repeat (first | exact SlC.nil | refine SlC.cons (.plain rfl rfl rfl) ?_ | refine SlC.cons (.own rfl (.head _) rfl rfl) ?_)))
  · obtain rfl : i = n := by simp at hc; omega
    rw [hlast rfl]
    (repeat (first | refine FW.seq ?_ | refine FW.region ?_ | refine FW.exit ?_ | refine RunN.nil ?_ | refine rn_assign rfl rfl rfl ?_ | refine rn_move rfl rfl rfl ?_))
    exact FW.ret ⟨.inl rfl, ret_ow rfl rfl rfl (by simp) (by decide) rfl (EdV.flatsM _)⟩
end Go.Proofs.Ytfegkbmnclhljaa
