/-
  graph.Topo of a graph without cycles: the order is the caller's own.
-/
import Derived.Test.YtfegkbmnclhljaaZFmTopo
namespace Go.Proofs.Ytfegkbmnclhljaa
set_option linter.unusedVariables false
open Go.RowKit

set_option maxHeartbeats 8000000 in
theorem topo_specL (n : Nat) (E : List (Nat × Nat)) (hn : n ≤ 300) (hE : E.length ≤ 100000) (hin : InN n E) (hac : (topoEnd n E).length = n) : SpecL Try.prog 35 [.int .i64 n, .list 2 (E.map edf)] [] [4000] (fun res o => res = .wrap .tup [.own 4000 1 0 n, .bool true] ∧ o 4000 = ⟨1, .own, 3, 1, (topoEnd n E).map intf⟩) := by
  refine SpecL.of_body (c := (cxOf Try.prog tyAt_ok mixed_ok 104)) ⟨Try.func35, rfl, Try.ntmps35, by kernel_rfl⟩ (by exact Nat.le_of_ble_eq_true rfl) ?_ ?_
  · rintro res o ⟨rfl, h⟩
    exact ⟨(fun k hk => by cases hk), (fun k hk => by obtain rfl := List.mem_singleton.1 hk; rw [h]; exact ⟨Nat.zero_lt_one, fun _ => rfl⟩), (fun k hk => by obtain rfl := List.mem_singleton.1 hk; rw [h]; rfl), rfl⟩
  change FW _ _ _ ⟨[(0, .int .i64 n), (1, .list 2 (E.map edf))], []⟩
  have hrl := rowsOf_len n E
  have hrn := fun v (hv : v < n) => rowsOf_nth E hv
  (repeat (first | refine FW.seq ?_ | refine FW.region ?_ | refine RunN.nil ?_ | refine rn_assign rfl rfl rfl ?_ | refine rn_move rfl rfl rfl ?_))
  refine rn_callS (successors_spec n E (by omega) (by omega) hin) (by repeat (first | exact ArgsR.nil | refine ArgsR.cons (by exact ArgR.plain rfl rfl) ?_)) rfl rfl ?_
  rw [rows_val]
  (repeat (first | refine FW.seq ?_ | refine FW.region ?_ | refine FW.block ?_ | refine RunN.nil ?_ | refine rn_assign rfl rfl rfl ?_ | refine rn_move rfl rfl rfl ?_ | refine rn_make rfl rfl rfl rfl rfl rfl rfl rfl (by omega) (by omega) rfl rfl rfl ?_ | refine rn_lenList rfl rfl (by first | exact List.length_map _ | rfl | omega) rfl rfl ?_))
  rw [show List.replicate n [FV.int .i64 0] = (List.replicate n 0).map intf by rw [List.map_replicate]; rfl]
  refine FW.loop (fun i : Nat => ⟨[(0, .int .i64 n), (6, .list 1 ((rowsOf n E).map rowf)), (7, .own 100 0 0 n), (26, .list 1 ((rowsOf n E).map rowf)), (27, .int .i64 n), (28, .int .i64 i)], [(100, ⟨0, .own, 3, 1, (missTo n E i).map intf⟩)]⟩) (fun i => i ≤ n) (fun i => n - i) 0 (Nat.zero_le _) ?_ ?_
  · rw [hrl, show missTo n E 0 = List.replicate n 0 from rfl]
    obtain ⟨z, hz⟩ : ∃ z, (List.replicate n (0 : Int)).map intf = z := ⟨_, rfl⟩
    rw [hz]
    exact (FLe.conv [⟨100, some 25, 0 + 1, ⟨0, .own, 3, 1, z⟩⟩] (by simp) (by simp) rfl (by repeat (first | exact GhOk.nil | refine GhOk.low rfl ?_ | refine GhOk.same rfl ?_ | refine GhOk.bump (Nat.lt_succ_self _) ?_)) (by repeat (first | exact EntsOk.nil | refine EntsOk.old rfl (by decide) rfl ?_)) (by repeat (first | exact SlC.nil | refine SlC.cons (.plain rfl rfl rfl) ?_ | refine SlC.cons (.own rfl (.head _) rfl rfl) ?_)))
  intro i hi
  obtain ⟨hml, hmb⟩ := missTo_spec hin i
  (repeat (first | refine FW.seq ?_ | refine FW.region ?_ | refine RunN.nil ?_ | refine rn_lss rfl rfl rfl rfl ?_))
  refine FW.cond rfl (fun h => ?_) (fun h => ?_)
  · have hlt : i < n := by simpa using h
    clear h
    have hsl := succs_len E i
    have hms := missTo_succ n E hlt
    (repeat (first | refine FW.seq ?_ | refine FW.region ?_ | refine FW.block ?_ | refine FW.skip ?_ | refine RunN.nil ?_ | refine rn_assign rfl rfl rfl ?_ | refine rn_move rfl rfl rfl ?_ | refine rn_lenList rfl rfl (by first | exact List.length_map _ | rfl | (simp; omega)) rfl rfl ?_ | refine rn_indexL rfl rfl rfl rfl rfl rfl (by simp; omega) rfl rfl ?_ | refine rn_loadE rfl rfl rfl (by simp; omega) (by first | exact getD_map (by omega) | rfl) rfl rfl rfl rfl ?_))
    rw [hrn i hlt]
    skip
    generalize missTo n E i = M at hml hmb hms
    refine FW.loop (fun j : Nat => ⟨[(0, .int .i64 n), (6, .list 1 ((rowsOf n E).map rowf)), (7, .own 100 0 0 n), (26, .list 1 ((rowsOf n E).map rowf)), (27, .int .i64 n), (28, .int .i64 i), (32, .list 1 ((succs E i).map intf)), (33, .int .i64 (succs E i).length), (34, .int .i64 j)], [(100, ⟨0, .own, 3, 1, (((succs E i).take j).foldl incr M).map intf⟩)]⟩) (fun j => j ≤ (succs E i).length) (fun j => (succs E i).length - j) 0 (Nat.zero_le _) ?_ ?_
    · show FLe _ ⟨[(0, .int .i64 n), (6, .list 1 ((rowsOf n E).map rowf)), (7, .own 100 0 0 n), (26, .list 1 ((rowsOf n E).map rowf)), (27, .int .i64 n), (28, .int .i64 i), (32, .list 1 ((succs E i).map intf)), (33, .int .i64 (succs E i).length), (34, .int .i64 0)], [(100, ⟨0, .own, 3, 1, M.map intf⟩)]⟩
      exact (FLe.conv [⟨100, some 100, 0, ⟨0, .own, 3, 1, M.map intf⟩⟩] (by simp) (by simp) rfl (by repeat (first | exact GhOk.nil | refine GhOk.low rfl ?_ | refine GhOk.same rfl ?_ | refine GhOk.bump (Nat.lt_succ_self _) ?_)) (by repeat (first | exact EntsOk.nil | refine EntsOk.old rfl (by decide) rfl ?_)) (by repeat (first | exact SlC.nil | refine SlC.cons (.plain rfl rfl rfl) ?_ | refine SlC.cons (.own rfl (.head _) rfl rfl) ?_)))
    intro j hj
    (repeat (first | refine FW.seq ?_ | refine FW.region ?_ | refine RunN.nil ?_ | refine rn_lss rfl rfl rfl rfl ?_))
    refine FW.cond rfl (fun h => ?_) (fun h => ?_)
    · have hlt2 : j < (succs E i).length := by simpa using h
      clear h
      obtain ⟨w, hw⟩ : ∃ w : Nat, nth (succs E i) j = w := ⟨(nth (succs E i) j).toNat, by have := (succs_in hin (nth_mem hlt2)).1; omega⟩
      have hwn : w < n := by have := (succs_in hin (nth_mem hlt2)).2; omega
      have hst : ((succs E i).take (j + 1)).foldl incr M = (((succs E i).take j).foldl incr M).set w (nth (((succs E i).take j).foldl incr M) w + 1) := by
        rw [List.take_succ_eq_append_getElem hlt2, List.foldl_append, ← nth_eq hlt2, hw]; rfl
      have hbd : 0 ≤ nth (((succs E i).take j).foldl incr M) w ∧ nth (((succs E i).take j).foldl incr M) w ≤ n + 1 := by
        rw [incrs_nth (n := n) (List.Nodup.sublist (List.take_sublist _ _) (succs_nodup E i)) (fun q hq => succs_in hin (List.mem_of_mem_take hq)) hml w hwn]
        have := hmb w hwn
        split <;> omega
      have hzl : (((succs E i).take j).foldl incr M).length = n := by rw [incrs_len]; exact hml
      obtain ⟨Z, hZ⟩ : ∃ Z, ((succs E i).take j).foldl incr M = Z := ⟨_, rfl⟩
      rw [hZ] at hst hbd hzl ⊢
      (repeat (first | refine FW.seq ?_ | refine FW.region ?_ | refine FW.block ?_ | refine FW.skip ?_ | refine RunN.nil ?_ | refine rn_assign rfl rfl rfl ?_ | refine rn_move rfl rfl rfl ?_ | refine rn_indexL rfl rfl (by first | rfl | exact (Int.toNat_of_nonneg (by omega)).symm) rfl rfl rfl (by first | omega | (simp; omega)) rfl rfl ?_ | refine rn_indexO rfl rfl (by first | rfl | exact (Int.toNat_of_nonneg (by omega)).symm) rfl rfl rfl (by decide) rfl (by first | omega | (simp; omega)) rfl rfl ?_ | refine rn_loadE rfl rfl rfl (by first | omega | (simp; omega)) (by first | exact getD_map (by omega) | rfl) rfl rfl rfl rfl ?_ | refine rn_loadP rfl rfl rfl rfl rfl (by first | omega | (simp; omega)) (by first | exact getD_map (by omega) | rfl) rfl rfl rfl rfl ?_))
      rw [hw, Int.toNat_natCast]
      (repeat (first | refine FW.region ?_ | refine RunN.nil ?_ | refine rn_move rfl rfl rfl ?_ | refine rn_indexO rfl rfl rfl rfl rfl rfl (by decide) rfl (by first | omega | (simp; omega)) rfl rfl ?_ | refine rn_add rfl rfl (by omega) rfl rfl ?_ | refine rn_storeR rfl rfl rfl rfl rfl rfl (by first | omega | (simp; omega)) (by first | exact getD_map (by omega) | rfl) rfl rfl rfl ?_))
      rw [show (intf (nth Z w)).set 0 (.int .i64 (nth Z w + 1)) = intf (nth Z w + 1) from rfl, ← List.map_set, ← hst]
      skip
      refine ⟨j + 1, by omega, by omega, ?_⟩
      obtain ⟨Y, hY⟩ : ∃ Y, (((succs E i).take (j + 1)).foldl incr M).map intf = Y := ⟨_, rfl⟩
      rw [hY]
      exact (FLe.conv [⟨100, some 100, 0, ⟨0, .own, 3, 1, Y⟩⟩] (by simp) (by simp) rfl (by repeat (first | exact GhOk.nil | refine GhOk.low rfl ?_ | refine GhOk.same rfl ?_ | refine GhOk.bump (Nat.lt_succ_self _) ?_)) (by repeat (first | exact EntsOk.nil | refine EntsOk.old rfl (by decide) rfl ?_)) (by repeat (first | exact SlC.nil | refine SlC.cons (.plain rfl rfl rfl) ?_ | refine SlC.cons (.own rfl (.head _) rfl rfl) ?_)))
    · obtain rfl : j = (succs E i).length := by simp at h; omega
      clear h hj
      rw [List.take_length, ← hms]
      (repeat (first | refine FW.region ?_ | refine FW.exit ?_ | refine RunN.nil ?_ | refine rn_move rfl rfl rfl ?_ | refine rn_add rfl rfl (by omega) rfl rfl ?_))
      refine ⟨i + 1, by omega, by omega, ?_⟩
      exact (FLe.conv [⟨100, some 100, 0, ⟨0, .own, 3, 1, (missTo n E (i + 1)).map intf⟩⟩] (by simp) (by simp) rfl (by repeat (first | exact GhOk.nil | refine GhOk.low rfl ?_ | refine GhOk.same rfl ?_ | refine GhOk.bump (Nat.lt_succ_self _) ?_)) (by repeat (first | exact EntsOk.nil | refine EntsOk.old rfl (by decide) rfl ?_)) (by repeat (first | exact SlC.nil | refine SlC.cons (.plain rfl rfl rfl) ?_ | refine SlC.cons (.own rfl (.head _) rfl rfl) ?_)))
  · obtain rfl : i = n := by simp at h; omega
    clear h hi hml hmb
    rw [missTo_end]
    obtain ⟨hml, hmc⟩ := miss0_spec hin
    have hcb : ∀ w, cntP i E [] w ≤ i := fun w => by
      have : cntP i E [] w ≤ (List.range i).length := List.countP_le_length
      rwa [List.length_range] at this
    (repeat (first | refine FW.seq ?_ | refine FW.region ?_ | refine FW.exit ?_ | refine rn_buildS0 rfl rfl rfl rfl rfl rfl ?_))
    refine rn_boxH (f := .own 46 (0 + 1) 0 0) rfl (.inr (.inl ⟨_, _, _, _, rfl, ⟨by show Life.own ≠ .dead; decide, rfl⟩⟩)) rfl rfl rfl ?_
    refine rn_allocH rfl rfl rfl rfl rfl ?_
    (repeat (first | refine FW.seq ?_ | refine FW.region ?_ | refine FW.block ?_ | refine RunN.nil ?_ | refine rn_assign rfl rfl rfl ?_ | refine rn_move rfl rfl rfl ?_ | refine rn_lenOwn rfl rfl rfl (by decide) rfl rfl ?_ | refine rn_storeHP rfl rfl rfl rfl rfl rfl (by decide) (by simp; done) rfl ?_ | refine rn_makeFnH rfl rfl rfl rfl ?_))
    obtain ⟨n, hni⟩ : ∃ n, i = n := ⟨_, rfl⟩
    subst hni
    generalize hMM : miss0 i E = M at hml hmc
    obtain ⟨n, hni⟩ : ∃ n, n = i := ⟨_, rfl⟩
    subst hni
    refine FW.loop (fun k : Nat => ⟨[(0, .int .i64 n), (6, .list 1 ((rowsOf n E).map rowf)), (7, .own 100 0 0 n), (12, .ptr 110 0 0 0), (13, .wrap (.fn 63) [.ptr 110 0 0 0]), (49, .own 100 0 0 n), (50, .int .i64 n), (51, .int .i64 k)], [(100, ⟨0, .own, 3, 1, M.map intf⟩), (110, ⟨0, .hrow, 93, 1, [[.ptr 111 0 0 0]]⟩), (111, ⟨0, .hrow, 94, 1, [[.own 112 0 0 (ready0 M k).length]]⟩), (112, ⟨0, .own, 3, 1, (ready0 M k).map intf⟩)]⟩) (fun k => k ≤ n) (fun k => n - k) 0 (Nat.zero_le _) ?_ ?_
    · show FLe _ ⟨[(0, .int .i64 n), (6, .list 1 ((rowsOf n E).map rowf)), (7, .own 100 0 0 n), (12, .ptr 110 0 0 0), (13, .wrap (.fn 63) [.ptr 110 0 0 0]), (49, .own 100 0 0 n), (50, .int .i64 n), (51, .int .i64 0)], [(100, ⟨0, .own, 3, 1, M.map intf⟩), (110, ⟨0, .hrow, 93, 1, [[.ptr 111 0 0 0]]⟩), (111, ⟨0, .hrow, 94, 1, [[.own 112 0 0 0]]⟩), (112, ⟨0, .own, 3, 1, []⟩)]⟩
      exact (FLe.conv [⟨100, some 100, 0, ⟨0, .own, 3, 1, M.map intf⟩⟩, ⟨110, some 12, 0 + 1, ⟨0, .hrow, 93, 1, [[.ptr 111 0 0 0]]⟩⟩, ⟨111, some 47, 0 + 1, ⟨0, .hrow, 94, 1, [[.own 112 0 0 0]]⟩⟩, ⟨112, some 46, 0 + 1, ⟨0, .own, 3, 1, []⟩⟩] (by simp) (by simp) rfl (by repeat (first | exact GhOk.nil | refine GhOk.low rfl ?_ | refine GhOk.same rfl ?_ | refine GhOk.bump (Nat.lt_succ_self _) ?_)) (by repeat (first | exact EntsOk.nil | refine EntsOk.old rfl (by decide) rfl ?_ | refine EntsOk.oldH rfl (by repeat (first | exact RowE.nil | refine RowE.cons (.ptr (.tail _ (.tail _ (.head _))) rfl) ?_ | refine RowE.cons (.own (.tail _ (.tail _ (.tail _ (.head _)))) rfl rfl rfl) ?_)) ?_)) (by repeat (first | exact SlC.nil | refine SlC.cons (.plain rfl rfl rfl) ?_ | refine SlC.cons (.own rfl (.head _) rfl rfl) ?_ | refine SlC.cons (.ptr rfl (.tail _ (.head _)) rfl) ?_ | refine SlC.cons (.wrap rfl (by repeat (first | exact CelsE.nil | refine CelsE.cons (.plain rfl rfl) ?_ | refine CelsE.cons (.ptr (.head _) rfl) ?_ | refine CelsE.cons (.own (.head _) rfl rfl rfl) ?_ | refine CelsE.cons (.omap (.head _) rfl) ?_ | refine CelsE.cons (.ptr (.tail _ (.head _)) rfl) ?_ | refine CelsE.cons (.own (.tail _ (.head _)) rfl rfl rfl) ?_ | refine CelsE.cons (.omap (.tail _ (.head _)) rfl) ?_ | refine CelsE.cons (.ptr (.tail _ (.tail _ (.head _))) rfl) ?_ | refine CelsE.cons (.own (.tail _ (.tail _ (.head _))) rfl rfl rfl) ?_ | refine CelsE.cons (.omap (.tail _ (.tail _ (.head _))) rfl) ?_ | refine CelsE.cons (.ptr (.tail _ (.tail _ (.tail _ (.head _)))) rfl) ?_ | refine CelsE.cons (.own (.tail _ (.tail _ (.tail _ (.head _)))) rfl rfl rfl) ?_ | refine CelsE.cons (.omap (.tail _ (.tail _ (.tail _ (.head _)))) rfl) ?_))) ?_)))
    intro k hk
    (repeat (first | refine FW.seq ?_ | refine FW.region ?_ | refine RunN.nil ?_ | refine rn_lss rfl rfl rfl rfl ?_))
    refine FW.cond rfl (fun h => ?_) (fun h => ?_)
    · have hlt : k < n := by simpa using h
      clear h
      have hmk := hmc k hlt
      have hck := hcb k
      have hrs : ready0 M (k + 1) = if nth M k = 0 then hpush (ready0 M k) k else ready0 M k := by
        unfold ready0
        rw [List.range_succ, List.foldl_append]; rfl
      have hrl : (ready0 M k).length ≤ k := nodup_len (ready0_spec M k).2.1 fun x hx => (((ready0_spec M k).2.2 x).1 hx).1
      obtain ⟨H, hH⟩ : ∃ H, ready0 M k = H := ⟨_, rfl⟩
      rw [hH] at hrs hrl ⊢
      (repeat (first | refine FW.seq ?_ | refine FW.region ?_ | refine FW.block ?_ | refine FW.skip ?_ | refine RunN.nil ?_ | refine rn_assign rfl rfl rfl ?_ | refine rn_move rfl rfl rfl ?_ | refine rn_indexO rfl rfl rfl rfl rfl rfl (by decide) rfl (by first | omega | (simp; omega)) rfl rfl ?_ | refine rn_loadP rfl rfl rfl rfl rfl (by first | omega | (simp; omega)) (by first | exact getD_map (by omega) | rfl) rfl rfl rfl rfl ?_ | refine rn_eql rfl rfl rfl rfl ?_))
      refine FW.cond rfl (fun h => ?_) (fun h => ?_)
      · rw [if_pos (by simpa using h)] at hrs
        (repeat (first | refine FW.region ?_ | refine rn_move rfl rfl rfl ?_))
        refine rn_callLV rfl (topo1_specL 0 0 0 H k (by omega)) [(5002, 110), (5000, 111), (5001, 112)] rfl (LendOk.cons rfl rfl rfl (LendOk.cons rfl rfl rfl (LendOk.cons rfl rfl rfl LendOk.nil))) rfl rfl rfl rfl rfl rfl ?_
        rintro _ ob' ⟨rfl, h2, h0, h1⟩
        refine After.one [(110, ⟨0, .hrow, 93, 1, [[.ptr 111 0 0 0]]⟩), (111, ⟨0, .hrow, 94, 1, [[.own 112 (0 + 1) 0 (H.length + 1)]]⟩), (112, ⟨0 + 1, .own, 3, 1, (hpush H k).map intf⟩)] (.tup []) rfl (by show [(110, FObj.ren _ (look {} ob' 5002)), (111, FObj.ren _ (look {} ob' 5000)), (112, FObj.ren _ (look {} ob' 5001))] = _; rw [h2, h0, h1]; rfl) ?_
        clear h2 h0 h1 ob'
        (repeat (first | refine FW.region ?_ | refine RunN.nil ?_ | refine rn_move rfl rfl rfl ?_ | refine rn_add rfl rfl (by omega) rfl rfl ?_))
        refine ⟨k + 1, by omega, by omega, ?_⟩
        rw [hrs]
        have hpl := hpush_len H k
        generalize hpush H k = Y at hpl
        rw [hpl]
        exact (FLe.conv [⟨100, some 100, 0, ⟨0, .own, 3, 1, M.map intf⟩⟩, ⟨110, some 110, 0, ⟨0, .hrow, 93, 1, [[.ptr 111 0 0 0]]⟩⟩, ⟨111, some 111, 0, ⟨0, .hrow, 94, 1, [[.own 112 0 0 (H.length + 1)]]⟩⟩, ⟨112, some 112, 0 + 1, ⟨0, .own, 3, 1, Y.map intf⟩⟩] (by simp) (by simp) rfl (by repeat (first | exact GhOk.nil | refine GhOk.low rfl ?_ | refine GhOk.same rfl ?_ | refine GhOk.bump (Nat.lt_succ_self _) ?_)) (by repeat (first | exact EntsOk.nil | refine EntsOk.old rfl (by decide) rfl ?_ | refine EntsOk.oldH rfl (by repeat (first | exact RowE.nil | refine RowE.cons (.ptr (.tail _ (.tail _ (.head _))) rfl) ?_ | refine RowE.cons (.own (.tail _ (.tail _ (.tail _ (.head _)))) rfl rfl rfl) ?_)) ?_)) (by repeat (first | exact SlC.nil | refine SlC.cons (.plain rfl rfl rfl) ?_ | refine SlC.cons (.own rfl (.head _) rfl rfl) ?_ | refine SlC.cons (.ptr rfl (.tail _ (.head _)) rfl) ?_ | refine SlC.cons (.wrap rfl (by repeat (first | exact CelsE.nil | refine CelsE.cons (.plain rfl rfl) ?_ | refine CelsE.cons (.ptr (.head _) rfl) ?_ | refine CelsE.cons (.own (.head _) rfl rfl rfl) ?_ | refine CelsE.cons (.omap (.head _) rfl) ?_ | refine CelsE.cons (.ptr (.tail _ (.head _)) rfl) ?_ | refine CelsE.cons (.own (.tail _ (.head _)) rfl rfl rfl) ?_ | refine CelsE.cons (.omap (.tail _ (.head _)) rfl) ?_ | refine CelsE.cons (.ptr (.tail _ (.tail _ (.head _))) rfl) ?_ | refine CelsE.cons (.own (.tail _ (.tail _ (.head _))) rfl rfl rfl) ?_ | refine CelsE.cons (.omap (.tail _ (.tail _ (.head _))) rfl) ?_ | refine CelsE.cons (.ptr (.tail _ (.tail _ (.tail _ (.head _)))) rfl) ?_ | refine CelsE.cons (.own (.tail _ (.tail _ (.tail _ (.head _)))) rfl rfl rfl) ?_ | refine CelsE.cons (.omap (.tail _ (.tail _ (.tail _ (.head _)))) rfl) ?_))) ?_)))
      · rw [if_neg (by simpa using h)] at hrs
        (repeat (first | refine FW.region ?_ | refine FW.skip ?_ | refine RunN.nil ?_ | refine rn_move rfl rfl rfl ?_ | refine rn_add rfl rfl (by omega) rfl rfl ?_))
        refine ⟨k + 1, by omega, by omega, ?_⟩
        rw [hrs]
        exact (FLe.conv [⟨100, some 100, 0, ⟨0, .own, 3, 1, M.map intf⟩⟩, ⟨110, some 110, 0, ⟨0, .hrow, 93, 1, [[.ptr 111 0 0 0]]⟩⟩, ⟨111, some 111, 0, ⟨0, .hrow, 94, 1, [[.own 112 0 0 H.length]]⟩⟩, ⟨112, some 112, 0, ⟨0, .own, 3, 1, H.map intf⟩⟩] (by simp) (by simp) rfl (by repeat (first | exact GhOk.nil | refine GhOk.low rfl ?_ | refine GhOk.same rfl ?_ | refine GhOk.bump (Nat.lt_succ_self _) ?_)) (by repeat (first | exact EntsOk.nil | refine EntsOk.old rfl (by decide) rfl ?_ | refine EntsOk.oldH rfl (by repeat (first | exact RowE.nil | refine RowE.cons (.ptr (.tail _ (.tail _ (.head _))) rfl) ?_ | refine RowE.cons (.own (.tail _ (.tail _ (.tail _ (.head _)))) rfl rfl rfl) ?_)) ?_)) (by repeat (first | exact SlC.nil | refine SlC.cons (.plain rfl rfl rfl) ?_ | refine SlC.cons (.own rfl (.head _) rfl rfl) ?_ | refine SlC.cons (.ptr rfl (.tail _ (.head _)) rfl) ?_ | refine SlC.cons (.wrap rfl (by repeat (first | exact CelsE.nil | refine CelsE.cons (.plain rfl rfl) ?_ | refine CelsE.cons (.ptr (.head _) rfl) ?_ | refine CelsE.cons (.own (.head _) rfl rfl rfl) ?_ | refine CelsE.cons (.omap (.head _) rfl) ?_ | refine CelsE.cons (.ptr (.tail _ (.head _)) rfl) ?_ | refine CelsE.cons (.own (.tail _ (.head _)) rfl rfl rfl) ?_ | refine CelsE.cons (.omap (.tail _ (.head _)) rfl) ?_ | refine CelsE.cons (.ptr (.tail _ (.tail _ (.head _))) rfl) ?_ | refine CelsE.cons (.own (.tail _ (.tail _ (.head _))) rfl rfl rfl) ?_ | refine CelsE.cons (.omap (.tail _ (.tail _ (.head _))) rfl) ?_ | refine CelsE.cons (.ptr (.tail _ (.tail _ (.tail _ (.head _)))) rfl) ?_ | refine CelsE.cons (.own (.tail _ (.tail _ (.tail _ (.head _)))) rfl rfl rfl) ?_ | refine CelsE.cons (.omap (.tail _ (.tail _ (.tail _ (.head _)))) rfl) ?_))) ?_)))
    · obtain rfl : k = n := by simp at h; omega
      clear h hk
      have hTI := TI.start hin
      have hst : topoStart k E = ⟨M, ready0 M k, []⟩ := by unfold topoStart; rw [hMM]
      have hend : (topoIter E (k + 1) (topoStart k E)).out = topoEnd k E := rfl
      rw [hst] at hTI hend
      (repeat (first | refine FW.seq ?_ | refine FW.region ?_ | refine FW.block ?_ | refine FW.exit ?_ | refine RunN.nil ?_ | refine rn_assign rfl rfl rfl ?_ | refine rn_loadH rfl rfl rfl rfl rfl rfl rfl ?_ | refine rn_bound rfl rfl rfl rfl ?_))
      obtain ⟨n, hni⟩ : ∃ n, n = k := ⟨_, rfl⟩
      subst hni
      generalize ready0 M n = H at hTI hend
      clear hMM hst hcb hmc hml
      refine FW.loop (fun s : TopS => ⟨[(0, .int .i64 n), (6, .list 1 ((rowsOf n E).map rowf)), (7, .own 100 0 0 n), (12, .ptr 110 0 0 0), (13, .wrap (.fn 63) [.ptr 110 0 0 0]), (16, .own 101 0 0 s.out.length), (17, .wrap (.bound 65) [.ptr 111 0 0 0])], [(101, ⟨0, .own, 3, 1, s.out.map intf⟩), (100, ⟨0, .own, 3, 1, s.m.map intf⟩), (110, ⟨0, .hrow, 93, 1, [[.ptr 111 0 0 0]]⟩), (111, ⟨0, .hrow, 94, 1, [[.own 112 0 0 s.h.length]]⟩), (112, ⟨0, .own, 3, 1, s.h.map intf⟩)]⟩) (fun s => TI n E s ∧ ∃ k, n < s.out.length + k ∧ (topoIter E k s).out = topoEnd n E) (fun s => n - s.out.length) ⟨M, H, []⟩ ⟨hTI, n + 1, by show n < 0 + (n + 1); omega, hend⟩ ?_ ?_
      · show FLe _ ⟨[(0, .int .i64 n), (6, .list 1 ((rowsOf n E).map rowf)), (7, .own 100 0 0 n), (12, .ptr 110 0 0 0), (13, .wrap (.fn 63) [.ptr 110 0 0 0]), (16, .own 101 0 0 0), (17, .wrap (.bound 65) [.ptr 111 0 0 0])], [(101, ⟨0, .own, 3, 1, []⟩), (100, ⟨0, .own, 3, 1, M.map intf⟩), (110, ⟨0, .hrow, 93, 1, [[.ptr 111 0 0 0]]⟩), (111, ⟨0, .hrow, 94, 1, [[.own 112 0 0 H.length]]⟩), (112, ⟨0, .own, 3, 1, H.map intf⟩)]⟩
        exact (FLe.conv [⟨101, none, 0, ⟨0, .own, 3, 1, []⟩⟩, ⟨100, some 100, 0, ⟨0, .own, 3, 1, M.map intf⟩⟩, ⟨110, some 110, 0, ⟨0, .hrow, 93, 1, [[.ptr 111 0 0 0]]⟩⟩, ⟨111, some 111, 0, ⟨0, .hrow, 94, 1, [[.own 112 0 0 H.length]]⟩⟩, ⟨112, some 112, 0, ⟨0, .own, 3, 1, H.map intf⟩⟩] (by simp) (by simp) rfl (by repeat (first | exact GhOk.nil | refine GhOk.low rfl ?_ | refine GhOk.same rfl ?_ | refine GhOk.bump (Nat.lt_succ_self _) ?_)) (by repeat (first | exact EntsOk.nil | refine EntsOk.old rfl (by decide) rfl ?_ | refine EntsOk.oldH rfl (by repeat (first | exact RowE.nil | refine RowE.cons (.ptr (.tail _ (.tail _ (.tail _ (.head _)))) rfl) ?_ | refine RowE.cons (.own (.tail _ (.tail _ (.tail _ (.tail _ (.head _))))) rfl rfl rfl) ?_)) ?_ | refine EntsOk.new ?_)) (by repeat (first | exact SlC.nil | refine SlC.cons (.plain rfl rfl rfl) ?_ | refine SlC.cons (.nil rfl (.head _) rfl) ?_ | refine SlC.cons (.own rfl (.tail _ (.head _)) rfl rfl) ?_ | refine SlC.cons (.ptr rfl (.tail _ (.tail _ (.head _))) rfl) ?_ | refine SlC.cons (.wrap rfl (by repeat (first | exact CelsE.nil | refine CelsE.cons (.plain rfl rfl) ?_ | refine CelsE.cons (.ptr (.head _) rfl) ?_ | refine CelsE.cons (.own (.head _) rfl rfl rfl) ?_ | refine CelsE.cons (.omap (.head _) rfl) ?_ | refine CelsE.cons (.ptr (.tail _ (.head _)) rfl) ?_ | refine CelsE.cons (.own (.tail _ (.head _)) rfl rfl rfl) ?_ | refine CelsE.cons (.omap (.tail _ (.head _)) rfl) ?_ | refine CelsE.cons (.ptr (.tail _ (.tail _ (.head _))) rfl) ?_ | refine CelsE.cons (.own (.tail _ (.tail _ (.head _))) rfl rfl rfl) ?_ | refine CelsE.cons (.omap (.tail _ (.tail _ (.head _))) rfl) ?_ | refine CelsE.cons (.ptr (.tail _ (.tail _ (.tail _ (.head _)))) rfl) ?_ | refine CelsE.cons (.own (.tail _ (.tail _ (.tail _ (.head _)))) rfl rfl rfl) ?_ | refine CelsE.cons (.omap (.tail _ (.tail _ (.tail _ (.head _)))) rfl) ?_ | refine CelsE.cons (.ptr (.tail _ (.tail _ (.tail _ (.tail _ (.head _))))) rfl) ?_ | refine CelsE.cons (.own (.tail _ (.tail _ (.tail _ (.tail _ (.head _))))) rfl rfl rfl) ?_ | refine CelsE.cons (.omap (.tail _ (.tail _ (.tail _ (.tail _ (.head _))))) rfl) ?_))) ?_)))
      clear hTI hend M H
      rintro ⟨m, h, out⟩ ⟨hTI, fu, hfu, hend⟩
      dsimp only at hfu hend ⊢
      have hhl : h.length ≤ n := hTI.hle
      have hml : m.length = n := hTI.len
      have hol : out.length ≤ n := hTI.le
      (repeat (first | refine FW.seq ?_ | refine FW.region ?_ | refine rn_move rfl rfl rfl ?_))
      refine rn_callLB rfl (qLen_specL 0 0 h) [(5000, 111), (5001, 112)] rfl (LendOk.cons rfl rfl rfl (LendOk.cons rfl rfl rfl LendOk.nil)) rfl rfl rfl rfl rfl rfl ?_
      rintro _ ob' ⟨rfl, h1, h2⟩
      refine After.one [(111, ⟨0, .hrow, 94, 1, [[.own 112 0 0 h.length]]⟩), (112, ⟨0, .own, 3, 1, h.map intf⟩)] (.int .i64 h.length) rfl (by show [(111, FObj.ren _ (look {} ob' 5000)), (112, FObj.ren _ (look {} ob' 5001))] = _; rw [h1, h2]; rfl) ?_
      clear h1 h2 ob'
      (repeat (first | refine RunN.nil ?_ | refine rn_gtr rfl rfl rfl rfl ?_))
      refine FW.cond rfl (fun hc => ?_) (fun hc => ?_)
      · obtain ⟨k, hk⟩ : ∃ k, h.length = k + 1 := ⟨h.length - 1, by simp at hc; omega⟩
        clear hc
        (repeat (first | refine FW.seq ?_ | refine FW.region ?_ | refine FW.block ?_ | refine FW.skip ?_ | refine rn_loadH rfl rfl rfl rfl rfl rfl rfl ?_ | refine rn_mkIfaceP rfl rfl (by kernel_rfl) rfl rfl ?_))
        refine rn_callL (hPop_specL 0 0 h k hk (by omega)) [(5000, 111), (5001, 112)] rfl (LendOk.cons rfl rfl rfl (LendOk.cons rfl rfl rfl LendOk.nil)) rfl rfl rfl rfl rfl rfl ?_
        rintro _ ob' ⟨rfl, h1, h2⟩
        refine After.one [(111, ⟨0, .hrow, 94, 1, [[.own 112 (0 + 1) 0 k]]⟩), (112, ⟨0 + 1, .own, 3, 1, ((hdown h k).take k).map intf⟩)] (.iface 3 (.int .i64 (nth (hdown h k) k))) rfl (by show [(111, FObj.ren _ (look {} ob' 5000)), (112, FObj.ren _ (look {} ob' 5001))] = _; rw [h1, h2]; rfl) ?_
        clear h1 h2 ob'
        obtain ⟨v, hv, hvn, hvo, hm0, hmin, hDI, hN, hR⟩ := hTI.first hk
        dsimp only at hv hvo hm0 hmin hDI hN hR
        rw [hv]
        have hstep : topoStep E ⟨m, h, out⟩ = ⟨((succs E v).foldl decr (m, (hdown h k).take k)).1, ((succs E v).foldl decr (m, (hdown h k).take k)).2, out ++ [(v : Int)]⟩ := by
          unfold topoStep
          dsimp only
          rw [show h.length - 1 = k by omega, hv]; rfl
        have hTI' := hTI.step hin (by rintro e; rw [show h = [] from e] at hk; simp at hk)
        rw [hstep] at hTI'
        have hend' : ∀ f, fu = f + 1 → (topoIter E f (topoStep E ⟨m, h, out⟩)).out = topoEnd n E := fun f hf => by
          subst hf
          rw [← hend]
          exact (congrArg TopS.out (show topoIter E (f + 1) ⟨m, h, out⟩ = topoIter E f (topoStep E ⟨m, h, out⟩) from if_neg (by rintro e; rw [show h = [] from e] at hk; simp at hk))).symm
        rw [hstep] at hend'
        have hsl := succs_len E v
        (repeat (first | refine FW.seq ?_ | refine FW.region ?_ | refine FW.block ?_ | refine RunN.nil ?_ | refine rn_assign rfl rfl rfl ?_ | refine rn_move rfl rfl rfl ?_ | refine rn_lenList rfl rfl (by first | exact List.length_map _ | exact (List.length_map _).symm | rfl | (simp; done) | (simp; omega)) rfl rfl ?_ | refine rn_indexL rfl rfl rfl rfl rfl rfl (by first | (simp; omega) | (simp; done)) rfl rfl ?_ | refine rn_loadE rfl rfl rfl (by first | (simp; omega) | (simp; done)) (by first | exact getD_map (by omega) | rfl) rfl rfl rfl rfl ?_ | refine rn_buildS1 rfl rfl rfl rfl rfl rfl rfl rfl ?_ | refine rn_tAssert rfl rfl rfl (by kernel_rfl) rfl rfl ?_ | refine rn_appO rfl rfl (by first | exact List.length_map _ | exact (List.length_map _).symm | rfl | (simp; done) | (simp; omega)) rfl rfl rfl (by decide) (by exact SrcR.own rfl rfl (by decide) (by first | exact List.length_map _ | exact (List.length_map _).symm | exact List.length_replicate | rfl | (simp; done) | omega | (simp; omega))) (by first | (simp; omega) | (simp; done)) (by first | (simp; omega) | (simp; done)) rfl rfl rfl ?_))
        rw [hrn v hvn]
        obtain ⟨O, hO⟩ : ∃ O, out ++ [(v : Int)] = O := ⟨_, rfl⟩
        obtain ⟨Om, hOm⟩ : ∃ Om, out.map intf ++ [[.int .i64 v]] = Om := ⟨_, rfl⟩
        have hOO : O.map intf = Om := by rw [← hO, ← hOm, List.map_append]; rfl
        have hOl : Om.length = O.length := by rw [← hOO, List.length_map]
        have hOl2 : O.length = out.length + 1 := by rw [← hO]; simp
        rw [hO] at hDI hN hR hTI' hend'
        rw [hOm, hOl]
        have htl : ((hdown h k).take k).length = k := by rw [List.length_take, hdown_len]; omega
        obtain ⟨H0, hH0⟩ : ∃ H0, (hdown h k).take k = H0 := ⟨_, rfl⟩
        rw [hH0] at hDI htl hTI' hend' ⊢
        clear hstep hH0 hv hmin
        refine FW.loop (fun j : Nat => ⟨[(0, .int .i64 n), (6, .list 1 ((rowsOf n E).map rowf)), (7, .own 100 0 0 n), (12, .ptr 110 0 0 0), (13, .wrap (.fn 63) [.ptr 110 0 0 0]), (16, .own 101 0 0 O.length), (17, .wrap (.bound 65) [.ptr 111 0 0 0]), (78, .list 1 ((succs E v).map intf)), (79, .int .i64 (succs E v).length), (80, .int .i64 j)], [(101, ⟨0, .own, 3, 1, O.map intf⟩), (100, ⟨0, .own, 3, 1, (((succs E v).take j).foldl decr (m, H0)).1.map intf⟩), (110, ⟨0, .hrow, 93, 1, [[.ptr 111 0 0 0]]⟩), (111, ⟨0, .hrow, 94, 1, [[.own 112 0 0 (((succs E v).take j).foldl decr (m, H0)).2.length]]⟩), (112, ⟨0, .own, 3, 1, (((succs E v).take j).foldl decr (m, H0)).2.map intf⟩)]⟩) (fun j => j ≤ (succs E v).length) (fun j => (succs E v).length - j) 0 (Nat.zero_le _) ?_ ?_
        · show FLe _ ⟨[(0, .int .i64 n), (6, .list 1 ((rowsOf n E).map rowf)), (7, .own 100 0 0 n), (12, .ptr 110 0 0 0), (13, .wrap (.fn 63) [.ptr 110 0 0 0]), (16, .own 101 0 0 O.length), (17, .wrap (.bound 65) [.ptr 111 0 0 0]), (78, .list 1 ((succs E v).map intf)), (79, .int .i64 (succs E v).length), (80, .int .i64 0)], [(101, ⟨0, .own, 3, 1, O.map intf⟩), (100, ⟨0, .own, 3, 1, m.map intf⟩), (110, ⟨0, .hrow, 93, 1, [[.ptr 111 0 0 0]]⟩), (111, ⟨0, .hrow, 94, 1, [[.own 112 0 0 H0.length]]⟩), (112, ⟨0, .own, 3, 1, H0.map intf⟩)]⟩
          rw [← hOO, htl]
          exact (FLe.conv [⟨101, some 74, 0 + 1, ⟨0, .own, 3, 1, O.map intf⟩⟩, ⟨100, some 100, 0, ⟨0, .own, 3, 1, m.map intf⟩⟩, ⟨110, some 110, 0, ⟨0, .hrow, 93, 1, [[.ptr 111 0 0 0]]⟩⟩, ⟨111, some 111, 0, ⟨0, .hrow, 94, 1, [[.own 112 0 0 k]]⟩⟩, ⟨112, some 112, 0 + 1, ⟨0, .own, 3, 1, H0.map intf⟩⟩] (by simp) (by simp) rfl (by repeat (first | exact GhOk.nil | refine GhOk.low rfl ?_ | refine GhOk.same rfl ?_ | refine GhOk.bump (Nat.lt_succ_self _) ?_)) (by repeat (first | exact EntsOk.nil | refine EntsOk.old rfl (by decide) rfl ?_ | refine EntsOk.oldH rfl (by repeat (first | exact RowE.nil | refine RowE.cons (.ptr (.tail _ (.tail _ (.tail _ (.head _)))) rfl) ?_ | refine RowE.cons (.own (.tail _ (.tail _ (.tail _ (.tail _ (.head _))))) rfl rfl rfl) ?_)) ?_)) (by repeat (first | exact SlC.nil | refine SlC.cons (.plain rfl rfl rfl) ?_ | refine SlC.cons (.own rfl (.head _) rfl rfl) ?_ | refine SlC.cons (.own rfl (.tail _ (.head _)) rfl rfl) ?_ | refine SlC.cons (.ptr rfl (.tail _ (.tail _ (.head _))) rfl) ?_ | refine SlC.cons (.wrap rfl (by repeat (first | exact CelsE.nil | refine CelsE.cons (.plain rfl rfl) ?_ | refine CelsE.cons (.ptr (.head _) rfl) ?_ | refine CelsE.cons (.own (.head _) rfl rfl rfl) ?_ | refine CelsE.cons (.omap (.head _) rfl) ?_ | refine CelsE.cons (.ptr (.tail _ (.head _)) rfl) ?_ | refine CelsE.cons (.own (.tail _ (.head _)) rfl rfl rfl) ?_ | refine CelsE.cons (.omap (.tail _ (.head _)) rfl) ?_ | refine CelsE.cons (.ptr (.tail _ (.tail _ (.head _))) rfl) ?_ | refine CelsE.cons (.own (.tail _ (.tail _ (.head _))) rfl rfl rfl) ?_ | refine CelsE.cons (.omap (.tail _ (.tail _ (.head _))) rfl) ?_ | refine CelsE.cons (.ptr (.tail _ (.tail _ (.tail _ (.head _)))) rfl) ?_ | refine CelsE.cons (.own (.tail _ (.tail _ (.tail _ (.head _)))) rfl rfl rfl) ?_ | refine CelsE.cons (.omap (.tail _ (.tail _ (.tail _ (.head _)))) rfl) ?_ | refine CelsE.cons (.ptr (.tail _ (.tail _ (.tail _ (.tail _ (.head _))))) rfl) ?_ | refine CelsE.cons (.own (.tail _ (.tail _ (.tail _ (.tail _ (.head _))))) rfl rfl rfl) ?_ | refine CelsE.cons (.omap (.tail _ (.tail _ (.tail _ (.tail _ (.head _))))) rfl) ?_))) ?_)))
        intro j hj
        have hDj := DI.fold (r1 := (succs E v).take j) (r2 := (succs E v).drop j) hR (by rw [List.take_append_drop]; exact hDI) (by rw [List.take_append_drop]; exact succs_nodup E v) (by rw [List.take_append_drop]; exact fun w hw => succs_in hin hw)
        have hst : ∀ hl : j < (succs E v).length, ((succs E v).take (j + 1)).foldl decr (m, H0) = decr (((succs E v).take j).foldl decr (m, H0)) (nth (succs E v) j) := fun hl => by
          rw [List.take_succ_eq_append_getElem hl, List.foldl_append, ← nth_eq hl]; rfl
        have hlast : j = (succs E v).length → (succs E v).foldl decr (m, H0) = ((succs E v).take j).foldl decr (m, H0) := fun e => by rw [e, List.take_length]
        generalize ((succs E v).take j).foldl decr (m, H0) = q at hDj hst hlast
        obtain ⟨qm, qh⟩ := q
        have hql : qm.length = n := hDj.len
        have hqh : qh.length ≤ n := nodup_len hDj.hN fun x hx => ((hDj.hM x).1 hx).1
        dsimp only
        (repeat (first | refine FW.seq ?_ | refine FW.region ?_ | refine RunN.nil ?_ | refine rn_lss rfl rfl rfl rfl ?_))
        refine FW.cond rfl (fun hc => ?_) (fun hc => ?_)
        · have hlt2 : j < (succs E v).length := by simpa using hc
          clear hc hlast
          have hst := hst hlt2
          obtain ⟨w, hw⟩ : ∃ w : Nat, nth (succs E v) j = w := ⟨(nth (succs E v) j).toNat, by have := (succs_in hin (nth_mem hlt2)).1; omega⟩
          have hwn : w < n := by have := (succs_in hin (nth_mem hlt2)).2; omega
          have hbd : 0 ≤ nth qm w ∧ nth qm w ≤ n + 1 := by
            have h1 := hDj.cnt w hwn
            have h2 : cntP n E O w ≤ (List.range n).length := List.countP_le_length
            rw [List.length_range] at h2
            dsimp only at h1
            rw [h1]
            split <;> omega
          have hdec : decr (qm, qh) (w : Int) = (qm.set w (nth qm w - 1), if nth qm w - 1 = 0 then hpush qh w else qh) := by unfold decr; rw [Int.toNat_natCast]
          rw [hw, hdec] at hst
          obtain ⟨Z, hZ⟩ : ∃ Z, qm.set w (nth qm w - 1) = Z := ⟨_, rfl⟩
          have hZl : Z.length = n := by rw [← hZ]; simpa using hql
          have hZw : nth Z w = nth qm w - 1 := by rw [← hZ]; exact nth_set_same (by omega)
          rw [hZ] at hst
          (repeat (first | refine FW.seq ?_ | refine FW.region ?_ | refine FW.block ?_ | refine FW.skip ?_ | refine RunN.nil ?_ | refine rn_assign rfl rfl rfl ?_ | refine rn_move rfl rfl rfl ?_ | refine rn_indexL rfl rfl (by first | rfl | exact (Int.toNat_of_nonneg (by omega)).symm) rfl rfl rfl (by first | omega | (simp; omega)) rfl rfl ?_ | refine rn_indexO rfl rfl (by first | rfl | exact (Int.toNat_of_nonneg (by omega)).symm) rfl rfl rfl (by decide) rfl (by first | omega | (simp; omega)) rfl rfl ?_ | refine rn_loadE rfl rfl rfl (by first | omega | (simp; omega)) (by first | exact getD_map (by omega) | rfl) rfl rfl rfl rfl ?_ | refine rn_loadP rfl rfl rfl rfl rfl (by first | omega | (simp; omega)) (by first | exact getD_map (by omega) | rfl) rfl rfl rfl rfl ?_))
          rw [hw, Int.toNat_natCast]
          (repeat (first | refine FW.seq ?_ | refine FW.region ?_ | refine RunN.nil ?_ | refine rn_move rfl rfl rfl ?_ | refine rn_indexO rfl rfl rfl rfl rfl rfl (by decide) rfl (by first | omega | (simp; omega)) rfl rfl ?_ | refine rn_storeR rfl rfl rfl rfl rfl rfl (by first | omega | (simp; omega)) (by first | exact getD_map (by omega) | rfl) rfl rfl rfl ?_ | refine rn_sub rfl rfl (by omega) rfl rfl ?_))
          rw [show (intf (nth qm w)).set 0 (.int .i64 (nth qm w - 1)) = intf (nth qm w - 1) from rfl, ← List.map_set, hZ]
          (repeat (first | refine RunN.nil ?_ | refine rn_loadP rfl rfl rfl rfl rfl (by simp; omega) (by exact getD_map (by omega)) rfl rfl rfl rfl ?_ | refine rn_eql rfl rfl rfl rfl ?_))
          rw [hZw]
          skip
          refine FW.cond rfl (fun hc => ?_) (fun hc => ?_)
          · rw [if_pos (by simpa using hc)] at hst
            (repeat (first | refine FW.region ?_ | refine rn_move rfl rfl rfl ?_))
            refine rn_callLV rfl (topo1_specL 0 0 0 qh w (by omega)) [(5002, 110), (5000, 111), (5001, 112)] rfl (LendOk.cons rfl rfl rfl (LendOk.cons rfl rfl rfl (LendOk.cons rfl rfl rfl LendOk.nil))) rfl rfl rfl rfl rfl rfl ?_
            rintro _ ob' ⟨rfl, h2, h0, h1⟩
            refine After.one [(110, ⟨0, .hrow, 93, 1, [[.ptr 111 0 0 0]]⟩), (111, ⟨0, .hrow, 94, 1, [[.own 112 (0 + 1) 0 (qh.length + 1)]]⟩), (112, ⟨0 + 1, .own, 3, 1, (hpush qh w).map intf⟩)] (.tup []) rfl (by show [(110, FObj.ren _ (look {} ob' 5002)), (111, FObj.ren _ (look {} ob' 5000)), (112, FObj.ren _ (look {} ob' 5001))] = _; rw [h2, h0, h1]; rfl) ?_
            clear h2 h0 h1 ob'
            (repeat (first | refine FW.region ?_ | refine RunN.nil ?_ | refine rn_move rfl rfl rfl ?_ | refine rn_add rfl rfl (by omega) rfl rfl ?_))
            refine ⟨j + 1, by omega, by omega, ?_⟩
            rw [hst]
            dsimp only
            have hpl := hpush_len qh w
            generalize hpush qh w = Y at hpl
            rw [hpl]
            exact (FLe.conv [⟨101, some 101, 0, ⟨0, .own, 3, 1, O.map intf⟩⟩, ⟨100, some 100, 0, ⟨0, .own, 3, 1, Z.map intf⟩⟩, ⟨110, some 110, 0, ⟨0, .hrow, 93, 1, [[.ptr 111 0 0 0]]⟩⟩, ⟨111, some 111, 0, ⟨0, .hrow, 94, 1, [[.own 112 0 0 (qh.length + 1)]]⟩⟩, ⟨112, some 112, 0 + 1, ⟨0, .own, 3, 1, Y.map intf⟩⟩] (by simp) (by simp) rfl (by repeat (first | exact GhOk.nil | refine GhOk.low rfl ?_ | refine GhOk.same rfl ?_ | refine GhOk.bump (Nat.lt_succ_self _) ?_)) (by repeat (first | exact EntsOk.nil | refine EntsOk.old rfl (by decide) rfl ?_ | refine EntsOk.oldH rfl (by repeat (first | exact RowE.nil | refine RowE.cons (.ptr (.tail _ (.tail _ (.tail _ (.head _)))) rfl) ?_ | refine RowE.cons (.own (.tail _ (.tail _ (.tail _ (.tail _ (.head _))))) rfl rfl rfl) ?_)) ?_)) (by repeat (first | exact SlC.nil | refine SlC.cons (.plain rfl rfl rfl) ?_ | refine SlC.cons (.own rfl (.head _) rfl rfl) ?_ | refine SlC.cons (.own rfl (.tail _ (.head _)) rfl rfl) ?_ | refine SlC.cons (.ptr rfl (.tail _ (.tail _ (.head _))) rfl) ?_ | refine SlC.cons (.wrap rfl (by repeat (first | exact CelsE.nil | refine CelsE.cons (.plain rfl rfl) ?_ | refine CelsE.cons (.ptr (.head _) rfl) ?_ | refine CelsE.cons (.own (.head _) rfl rfl rfl) ?_ | refine CelsE.cons (.omap (.head _) rfl) ?_ | refine CelsE.cons (.ptr (.tail _ (.head _)) rfl) ?_ | refine CelsE.cons (.own (.tail _ (.head _)) rfl rfl rfl) ?_ | refine CelsE.cons (.omap (.tail _ (.head _)) rfl) ?_ | refine CelsE.cons (.ptr (.tail _ (.tail _ (.head _))) rfl) ?_ | refine CelsE.cons (.own (.tail _ (.tail _ (.head _))) rfl rfl rfl) ?_ | refine CelsE.cons (.omap (.tail _ (.tail _ (.head _))) rfl) ?_ | refine CelsE.cons (.ptr (.tail _ (.tail _ (.tail _ (.head _)))) rfl) ?_ | refine CelsE.cons (.own (.tail _ (.tail _ (.tail _ (.head _)))) rfl rfl rfl) ?_ | refine CelsE.cons (.omap (.tail _ (.tail _ (.tail _ (.head _)))) rfl) ?_ | refine CelsE.cons (.ptr (.tail _ (.tail _ (.tail _ (.tail _ (.head _))))) rfl) ?_ | refine CelsE.cons (.own (.tail _ (.tail _ (.tail _ (.tail _ (.head _))))) rfl rfl rfl) ?_ | refine CelsE.cons (.omap (.tail _ (.tail _ (.tail _ (.tail _ (.head _))))) rfl) ?_))) ?_)))
          · rw [if_neg (by simpa using hc)] at hst
            (repeat (first | refine FW.region ?_ | refine FW.skip ?_ | refine RunN.nil ?_ | refine rn_move rfl rfl rfl ?_ | refine rn_add rfl rfl (by omega) rfl rfl ?_))
            refine ⟨j + 1, by omega, by omega, ?_⟩
            rw [hst]
            dsimp only
            exact (FLe.conv [⟨101, some 101, 0, ⟨0, .own, 3, 1, O.map intf⟩⟩, ⟨100, some 100, 0, ⟨0, .own, 3, 1, Z.map intf⟩⟩, ⟨110, some 110, 0, ⟨0, .hrow, 93, 1, [[.ptr 111 0 0 0]]⟩⟩, ⟨111, some 111, 0, ⟨0, .hrow, 94, 1, [[.own 112 0 0 qh.length]]⟩⟩, ⟨112, some 112, 0, ⟨0, .own, 3, 1, qh.map intf⟩⟩] (by simp) (by simp) rfl (by repeat (first | exact GhOk.nil | refine GhOk.low rfl ?_ | refine GhOk.same rfl ?_ | refine GhOk.bump (Nat.lt_succ_self _) ?_)) (by repeat (first | exact EntsOk.nil | refine EntsOk.old rfl (by decide) rfl ?_ | refine EntsOk.oldH rfl (by repeat (first | exact RowE.nil | refine RowE.cons (.ptr (.tail _ (.tail _ (.tail _ (.head _)))) rfl) ?_ | refine RowE.cons (.own (.tail _ (.tail _ (.tail _ (.tail _ (.head _))))) rfl rfl rfl) ?_)) ?_)) (by repeat (first | exact SlC.nil | refine SlC.cons (.plain rfl rfl rfl) ?_ | refine SlC.cons (.own rfl (.head _) rfl rfl) ?_ | refine SlC.cons (.own rfl (.tail _ (.head _)) rfl rfl) ?_ | refine SlC.cons (.ptr rfl (.tail _ (.tail _ (.head _))) rfl) ?_ | refine SlC.cons (.wrap rfl (by repeat (first | exact CelsE.nil | refine CelsE.cons (.plain rfl rfl) ?_ | refine CelsE.cons (.ptr (.head _) rfl) ?_ | refine CelsE.cons (.own (.head _) rfl rfl rfl) ?_ | refine CelsE.cons (.omap (.head _) rfl) ?_ | refine CelsE.cons (.ptr (.tail _ (.head _)) rfl) ?_ | refine CelsE.cons (.own (.tail _ (.head _)) rfl rfl rfl) ?_ | refine CelsE.cons (.omap (.tail _ (.head _)) rfl) ?_ | refine CelsE.cons (.ptr (.tail _ (.tail _ (.head _))) rfl) ?_ | refine CelsE.cons (.own (.tail _ (.tail _ (.head _))) rfl rfl rfl) ?_ | refine CelsE.cons (.omap (.tail _ (.tail _ (.head _))) rfl) ?_ | refine CelsE.cons (.ptr (.tail _ (.tail _ (.tail _ (.head _)))) rfl) ?_ | refine CelsE.cons (.own (.tail _ (.tail _ (.tail _ (.head _)))) rfl rfl rfl) ?_ | refine CelsE.cons (.omap (.tail _ (.tail _ (.tail _ (.head _)))) rfl) ?_ | refine CelsE.cons (.ptr (.tail _ (.tail _ (.tail _ (.tail _ (.head _))))) rfl) ?_ | refine CelsE.cons (.own (.tail _ (.tail _ (.tail _ (.tail _ (.head _))))) rfl rfl rfl) ?_ | refine CelsE.cons (.omap (.tail _ (.tail _ (.tail _ (.tail _ (.head _))))) rfl) ?_))) ?_)))
        · have hje : j = (succs E v).length := by simp at hc; omega
          rw [hlast hje] at hTI' hend'
          clear hc hlast hst
          (repeat (first | refine FW.exit ?_))
          refine ⟨⟨qm, qh, O⟩, ⟨hTI', fu - 1, by show n < O.length + (fu - 1); omega, hend' _ (by omega)⟩, by show n - O.length < n - out.length; have := hTI'.le; dsimp only at this; omega, ?_⟩
          exact (FLe.conv [⟨101, some 101, 0, ⟨0, .own, 3, 1, O.map intf⟩⟩, ⟨100, some 100, 0, ⟨0, .own, 3, 1, qm.map intf⟩⟩, ⟨110, some 110, 0, ⟨0, .hrow, 93, 1, [[.ptr 111 0 0 0]]⟩⟩, ⟨111, some 111, 0, ⟨0, .hrow, 94, 1, [[.own 112 0 0 qh.length]]⟩⟩, ⟨112, some 112, 0, ⟨0, .own, 3, 1, qh.map intf⟩⟩] (by simp) (by simp) rfl (by repeat (first | exact GhOk.nil | refine GhOk.low rfl ?_ | refine GhOk.same rfl ?_ | refine GhOk.bump (Nat.lt_succ_self _) ?_)) (by repeat (first | exact EntsOk.nil | refine EntsOk.old rfl (by decide) rfl ?_ | refine EntsOk.oldH rfl (by repeat (first | exact RowE.nil | refine RowE.cons (.ptr (.tail _ (.tail _ (.tail _ (.head _)))) rfl) ?_ | refine RowE.cons (.own (.tail _ (.tail _ (.tail _ (.tail _ (.head _))))) rfl rfl rfl) ?_)) ?_)) (by repeat (first | exact SlC.nil | refine SlC.cons (.plain rfl rfl rfl) ?_ | refine SlC.cons (.own rfl (.head _) rfl rfl) ?_ | refine SlC.cons (.own rfl (.tail _ (.head _)) rfl rfl) ?_ | refine SlC.cons (.ptr rfl (.tail _ (.tail _ (.head _))) rfl) ?_ | refine SlC.cons (.wrap rfl (by repeat (first | exact CelsE.nil | refine CelsE.cons (.plain rfl rfl) ?_ | refine CelsE.cons (.ptr (.head _) rfl) ?_ | refine CelsE.cons (.own (.head _) rfl rfl rfl) ?_ | refine CelsE.cons (.omap (.head _) rfl) ?_ | refine CelsE.cons (.ptr (.tail _ (.head _)) rfl) ?_ | refine CelsE.cons (.own (.tail _ (.head _)) rfl rfl rfl) ?_ | refine CelsE.cons (.omap (.tail _ (.head _)) rfl) ?_ | refine CelsE.cons (.ptr (.tail _ (.tail _ (.head _))) rfl) ?_ | refine CelsE.cons (.own (.tail _ (.tail _ (.head _))) rfl rfl rfl) ?_ | refine CelsE.cons (.omap (.tail _ (.tail _ (.head _))) rfl) ?_ | refine CelsE.cons (.ptr (.tail _ (.tail _ (.tail _ (.head _)))) rfl) ?_ | refine CelsE.cons (.own (.tail _ (.tail _ (.tail _ (.head _)))) rfl rfl rfl) ?_ | refine CelsE.cons (.omap (.tail _ (.tail _ (.tail _ (.head _)))) rfl) ?_ | refine CelsE.cons (.ptr (.tail _ (.tail _ (.tail _ (.tail _ (.head _))))) rfl) ?_ | refine CelsE.cons (.own (.tail _ (.tail _ (.tail _ (.tail _ (.head _))))) rfl rfl rfl) ?_ | refine CelsE.cons (.omap (.tail _ (.tail _ (.tail _ (.tail _ (.head _))))) rfl) ?_))) ?_)))
      · have hh : h = [] := by
          cases h with
          | nil => rfl
          | cons x h => simp at hc
        subst hh
        clear hc
        rw [topoIter_done E fu _ rfl] at hend
        dsimp only at hend
        subst hend
        generalize topoEnd n E = O at hol hac
        subst hac
        (repeat (first | refine FW.seq ?_ | refine FW.region ?_ | refine FW.exit ?_ | refine RunN.nil ?_ | refine rn_move rfl rfl rfl ?_ | refine rn_lenOwn rfl rfl rfl (by decide) rfl rfl ?_ | refine rn_lss rfl rfl rfl rfl ?_))
        refine FW.cond rfl (fun hc => ?_) (fun hc => ?_)
        · exfalso; simp at hc
        · (repeat (first | refine FW.seq ?_ | refine FW.region ?_ | refine FW.skip ?_ | refine RunN.nil ?_ | refine rn_assign rfl rfl rfl ?_ | refine rn_move rfl rfl rfl ?_))
          refine FW.le (s' := ⟨[(4, .own 4000 1 0 O.length), (5, .bool true)], [(4000, ⟨1, .own, 3, 1, O.map intf⟩)]⟩) ?_ (FLe.conv [⟨4000, some 101, 0, ⟨1, .own, 3, 1, O.map intf⟩⟩] (by simp) (by simp) rfl (by repeat (first | exact GhOk.nil | refine GhOk.low rfl ?_ | refine GhOk.same rfl ?_ | refine GhOk.bump (Nat.lt_succ_self _) ?_)) (by repeat (first | exact EntsOk.nil | refine EntsOk.old rfl (by decide) rfl ?_)) (by repeat (first | exact SlC.nil | refine SlC.cons (.plain rfl rfl rfl) ?_ | refine SlC.cons (.own rfl (.head _) rfl rfl) ?_)))
          exact FW.ret ⟨.inl rfl, _, .pair rfl rfl rfl (fun _ _ e => by cases e) (fun _ _ e => by cases e), rfl, rfl⟩
end Go.Proofs.Ytfegkbmnclhljaa
