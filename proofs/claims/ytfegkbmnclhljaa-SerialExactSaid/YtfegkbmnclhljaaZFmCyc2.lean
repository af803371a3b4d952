/-
  The contract of graph.Cycle.
-/
import Derived.Test.YtfegkbmnclhljaaZK
namespace Go.Proofs.Ytfegkbmnclhljaa
set_option linter.unusedVariables false
open Go.RowKit

theorem rows_val (n : Nat) (E : List (Nat × Nat)) : (List.range n).map (fun v => [FV.list 1 ((succs E v).map intf)]) = (rowsOf n E).map rowf := by
  unfold rowsOf
  rw [List.map_map]
  rfl
def bestS : List Int → FV
  | [] => .nil
  | b :: l => .own 100 0 0 (b :: l).length
def cycB (n : Nat) (E : List (Nat × Nat)) (i : Nat) : List Int := (List.range i).foldl (cycStep n E) []
theorem cycB_succ (n : Nat) (E : List (Nat × Nat)) (i : Nat) : cycB n E (i + 1) = cycStep n E (cycB n E i) i := by
  unfold cycB
  rw [List.range_succ, List.foldl_append]; rfl
theorem cycB_len {n : Nat} {E : List (Nat × Nat)} (h : InN n E) : ∀ {i : Nat}, i ≤ n → (cycB n E i).length ≤ n
  | 0, _ => Nat.zero_le _
  | i + 1, hi => by rw [cycB_succ]; exact cycStep_len h (by omega) (cycB_len h (by omega))
theorem turned_len (E : List (Nat × Nat)) : (turned E).length = E.length := List.length_map _
theorem Spec.le {P : Program} {f : Nat} {args : List FV} {r r' : FV} (h : Spec P f args .sh r) (hle : FV.le r r') (hh : r'.hand = none) : Spec P f args .sh r' where
  go := h.go
  hand := hh
  calls w I vs hI hv := (h.calls w I vs hI hv).mono fun e w' ⟨v, e1, hb, hr⟩ => ⟨v, e1, hb, Rd.le hle hr⟩
def nilL : List (List FV) → FV
  | [] => .nil
  | e :: es => .list 1 (e :: es)
theorem nilL_hand (es : List (List FV)) : (nilL es).hand = none := by cases es <;> rfl
set_option maxHeartbeats 4000000 in
theorem cycleN_spec (n : Nat) (E : List (Nat × Nat)) (hn : n ≤ 12) (hE : E.length ≤ 1000) (hin : InN n E) : Spec Try.prog 21 [.int .i64 n, .list 2 (E.map edf)] .sh (nilL ((gCycle n E).map intf)) := by
  refine Spec.of_body (c := (cxOf Try.prog tyAt_ok mixed_ok 128)) ⟨Try.func21, rfl, Try.ntmps21, by kernel_rfl⟩ (by simp [FV.hand]) (by exact Nat.le_of_ble_eq_true rfl) (nilL_hand _) ?_
  change FW _ _ _ ⟨[(0, .int .i64 n), (1, .list 2 (E.map edf))], []⟩
  (repeat (first | refine FW.seq ?_ | refine FW.region ?_ | refine RunN.nil ?_ | refine rn_assign rfl rfl rfl ?_ | refine rn_move rfl rfl rfl ?_))
  refine rn_callS (successors_spec n E (by omega) (by omega) hin) (by repeat (first | exact ArgsR.nil | refine ArgsR.cons (by exact ArgR.plain rfl rfl) ?_)) rfl rfl ?_
  rw [rows_val]
  (repeat (first | refine FW.seq ?_ | refine FW.region ?_ | refine FW.block ?_ | refine RunN.nil ?_ | refine rn_assign rfl rfl rfl ?_ | refine rn_move rfl rfl rfl ?_ | refine rn_lenList rfl rfl (by exact List.length_map _) rfl rfl ?_))
  refine FW.loop (fun i : Nat => ⟨[(0, .int .i64 n), (1, .list 2 (E.map edf)), (5, .list 1 ((rowsOf n E).map rowf)), (6, .own 100 0 0 i), (22, .list 2 (E.map edf)), (23, .int .i64 E.length), (24, .int .i64 i)], [(100, ⟨0, .own, 44, 2, ((turned E).take i).map edf⟩)]⟩) (fun i => i ≤ E.length) (fun i => E.length - i) 0 (Nat.zero_le _)
    (FLe.conv [⟨100, none, 0, ⟨0, .own, 44, 2, []⟩⟩] (by simp) (by simp) rfl (by repeat (first | exact GhOk.nil | refine GhOk.low rfl ?_ | refine GhOk.same rfl ?_ | refine GhOk.bump (Nat.lt_succ_self _) ?_)) (by repeat (first | exact EntsOk.nil | refine EntsOk.new ?_)) (by repeat (first | exact SlC.nil | refine SlC.cons (.plain rfl rfl rfl) ?_ | refine SlC.cons (.nil rfl (.head _) rfl) ?_))) ?_
  intro i hi
  (repeat (first | refine FW.seq ?_ | refine FW.region ?_ | refine RunN.nil ?_ | refine rn_lss rfl rfl rfl rfl ?_))
  refine FW.cond rfl (fun h => ?_) (fun h => ?_)
  · have hlt : i < E.length := by simpa using h
    clear h
    obtain ⟨⟨a, b⟩, he⟩ : ∃ e, nth E i = e := ⟨_, rfl⟩
    have hti : ((turned E).take i).length = i := by rw [List.length_take, turned_len]; omega
    have hts : (turned E).take (i + 1) = (turned E).take i ++ [(b, a)] := by
      rw [List.take_succ_eq_append_getElem (by rw [turned_len]; exact hlt)]
      congr 2
      rw [nth_eq hlt] at he
      simp [turned, he]
    obtain ⟨Z, hZ⟩ : ∃ Z, (turned E).take i = Z := ⟨_, rfl⟩
    rw [hZ] at hti hts ⊢
    (repeat (first | refine FW.seq ?_ | refine FW.region ?_ | refine FW.block ?_ | refine FW.skip ?_ | refine RunN.nil ?_ | refine rn_assign rfl rfl rfl ?_ | refine rn_move rfl rfl rfl ?_ | refine rn_indexL rfl rfl rfl rfl rfl rfl (by first | (simp; omega) | (simp; done)) rfl rfl ?_ | refine rn_indexAP rfl rfl rfl rfl rfl rfl rfl (by decide) (by first | (simp; omega) | (simp; done)) rfl rfl ?_ | refine rn_loadP rfl rfl rfl rfl rfl (by first | (simp; omega) | (simp; done)) (by first | exact getD_map (by omega) | rfl) rfl rfl rfl rfl ?_ | refine rn_loadEA rfl rfl rfl (by decide) (by first | (simp; omega) | (simp; done)) (by first | exact getD_map (by omega) | rfl) rfl rfl rfl ?_ | refine rn_alloc rfl rfl rfl rfl rfl rfl rfl ?_ | refine rn_storeVA rfl rfl rfl rfl rfl rfl rfl rfl rfl ?_ | refine rn_buildA2 rfl rfl rfl rfl rfl rfl rfl rfl rfl ?_ | refine rn_buildS1A rfl rfl rfl rfl rfl rfl rfl rfl rfl rfl ?_ | refine rn_appO rfl rfl (by first | rfl | (simp; done) | (simp; omega)) rfl rfl rfl (by decide) (by exact SrcR.own rfl rfl (by decide) (by first | exact List.length_map _ | exact (List.length_map _).symm | exact List.length_replicate | rfl | (simp; done) | omega | (simp; omega))) (by first | (simp; omega) | (simp; done)) (by first | (simp; omega) | (simp; done)) rfl rfl rfl ?_ | refine rn_add rfl rfl (by omega) rfl rfl ?_))
    rw [he]
    skip
    refine ⟨i + 1, by omega, by omega, ?_⟩
    rw [hts, List.map_append]
    exact (FLe.conv [⟨100, some 35, 0 + 1, ⟨0, .own, 44, 2, Z.map edf ++ [(b, a)].map edf⟩⟩] (by simp) (by simp) rfl (by repeat (first | exact GhOk.nil | refine GhOk.low rfl ?_ | refine GhOk.same rfl ?_ | refine GhOk.bump (Nat.lt_succ_self _) ?_)) (by repeat (first | exact EntsOk.nil | refine EntsOk.old rfl (by decide) (by first | rfl | (simp; omega)) ?_)) (by repeat (first | exact SlC.nil | refine SlC.cons (.plain rfl rfl (by first | rfl | (simp; omega))) ?_ | refine SlC.cons (.own rfl (.head _) rfl (by first | rfl | (simp; omega))) ?_)))
  · obtain rfl : i = E.length := by simp at h; omega
    clear h hi
    rw [← turned_len, List.take_length]
    (repeat (first | refine FW.seq ?_ | refine FW.region ?_ | refine FW.exit ?_ | refine rn_move rfl rfl rfl ?_))
    refine RunN.le ?_ (FLe.share 38 rfl rfl (by simp))
    refine rn_callS (successors_spec n (turned E) (by omega) (by rw [turned_len]; omega) (turned_in hin)) (by repeat (first | exact ArgsR.nil | refine ArgsR.cons (by exact ArgR.plain rfl rfl) ?_)) rfl rfl ?_
    rw [rows_val]
    (repeat (first | refine FW.seq ?_ | refine FW.region ?_ | refine FW.block ?_ | refine RunN.nil ?_ | refine rn_assign rfl rfl rfl ?_ | refine rn_move rfl rfl rfl ?_))
    refine FW.loop (fun i : Nat => ⟨[(0, .int .i64 n), (5, .list 1 ((rowsOf n E).map rowf)), (9, .list 1 ((rowsOf n (turned E)).map rowf)), (10, bestS (cycB n E i)), (40, .int .i64 n), (41, .int .i64 i)], [(100, ⟨0, .own, 3, 1, (cycB n E i).map intf⟩)]⟩) (fun i => i ≤ n) (fun i => n - i) 0 (Nat.zero_le _) ?_ ?_
    · show FLe _ ⟨[(0, .int .i64 n), (5, .list 1 ((rowsOf n E).map rowf)), (9, .list 1 ((rowsOf n (turned E)).map rowf)), (10, .nil), (40, .int .i64 n), (41, .int .i64 0)], [(100, ⟨0, .own, 3, 1, []⟩)]⟩
      exact (FLe.conv [⟨100, none, 0, ⟨0, .own, 3, 1, []⟩⟩] (by simp) (by simp) rfl (by repeat (first | exact GhOk.nil | refine GhOk.low rfl ?_ | refine GhOk.same rfl ?_ | refine GhOk.bump (Nat.lt_succ_self _) ?_)) (by repeat (first | exact EntsOk.nil | refine EntsOk.new ?_)) (by repeat (first | exact SlC.nil | refine SlC.cons (.plain rfl rfl rfl) ?_)))
    intro i hi
    (repeat (first | refine FW.seq ?_ | refine FW.region ?_ | refine RunN.nil ?_ | refine rn_lss rfl rfl rfl rfl ?_))
    refine FW.cond rfl (fun h => ?_) (fun h => ?_)
    · have hlt : i < n := by simpa using h
      clear h
      (repeat (first | refine FW.seq ?_ | refine FW.region ?_ | refine FW.block ?_ | refine FW.skip ?_ | refine RunN.nil ?_ | refine rn_move rfl rfl rfl ?_ | refine rn_loadP rfl rfl rfl rfl rfl (by simp; done) rfl rfl rfl rfl rfl ?_ | refine rn_alloc rfl rfl rfl rfl rfl rfl rfl ?_ | refine rn_storeV rfl rfl rfl rfl rfl rfl rfl rfl rfl ?_))
      refine rn_callO (distances_spec n i (rowsOf n (turned E)) hn hlt (rowsOf_len n _) (rowsOf_in (turned_in hin)) (fun r hr => by have := rowsOf_rl n (turned E) r hr; rw [turned_len] at this; omega)) (by repeat (first | exact ArgsR.nil | refine ArgsR.cons (by exact ArgR.plain rfl rfl) ?_)) ((List.length_map _).trans (cdist_len hin hlt)) rfl rfl rfl ?_
      rw [show dist (rowsOf n (turned E)) n i = cdist n E i from rfl]
      have hdl := cdist_len hin hlt
      have hrng := fun v (hv : v < n) => cdist_rng hin hlt hv
      have hrw : nth (rowsOf n E) i = succs E i := rowsOf_nth E hlt
      have hrn := rowsOf_len n E
      refine RunN.le ?_ ((FLe.share 47 rfl rfl (by rw [List.length_map]; exact hdl.symm)).trans (FLe.shareP 11 rfl rfl))
      obtain ⟨d, hd⟩ : ∃ d, cdist n E i = d := ⟨_, rfl⟩
      rw [hd] at hdl hrng ⊢
      (repeat (first | refine FW.seq ?_ | refine FW.region ?_ | refine FW.block ?_ | refine RunN.nil ?_ | refine rn_assign rfl rfl rfl ?_ | refine rn_move rfl rfl rfl ?_ | refine rn_lenList rfl rfl (by first | exact List.length_map _ | rfl | (simp; done) | (simp; omega)) rfl rfl ?_ | refine rn_indexL rfl rfl rfl rfl rfl rfl (by first | (simp; omega) | (simp; done)) rfl rfl ?_ | refine rn_loadE rfl rfl rfl (by first | (simp; omega) | (simp; done)) (by first | exact getD_map (by omega) | rfl) rfl rfl rfl rfl ?_ | refine rn_alloc rfl rfl rfl rfl rfl rfl rfl ?_ | refine rn_storeV rfl rfl rfl rfl rfl rfl rfl rfl rfl ?_))
      rw [hrw]
      obtain ⟨B, hB⟩ : ∃ B, cycB n E i = B := ⟨_, rfl⟩
      rw [hB]
      refine FW.le ?_ (FLe.shareP 12 rfl rfl)
      refine FW.loop (fun j : Nat => ⟨[(0, .int .i64 n), (5, .list 1 ((rowsOf n E).map rowf)), (9, .list 1 ((rowsOf n (turned E)).map rowf)), (10, bestS B), (40, .int .i64 n), (41, .int .i64 i), (11, .eptr 1 [[.int .i64 i]] 0 0), (12, .eptr 1 [[.list 1 (d.map intf)]] 0 0), (13, .int .i64 (((succs E i).take j).foldl (shorten d i) 0)), (51, .list 1 ((succs E i).map intf)), (52, .int .i64 (succs E i).length), (53, .int .i64 j)], [(100, ⟨0, .own, 3, 1, B.map intf⟩)]⟩) (fun j => j ≤ (succs E i).length) (fun j => (succs E i).length - j) 0 (Nat.zero_le _) ?_ ?_
      · rcases B with _ | ⟨b, l⟩
        · show FLe _ ⟨[(0, .int .i64 n), (5, .list 1 ((rowsOf n E).map rowf)), (9, .list 1 ((rowsOf n (turned E)).map rowf)), (10, .nil), (40, .int .i64 n), (41, .int .i64 i), (11, .eptr 1 [[.int .i64 i]] 0 0), (12, .eptr 1 [[.list 1 (d.map intf)]] 0 0), (13, .int .i64 0), (51, .list 1 ((succs E i).map intf)), (52, .int .i64 (succs E i).length), (53, .int .i64 0)], [(100, ⟨0, .own, 3, 1, []⟩)]⟩
          exact (FLe.conv [⟨100, some 100, 0, ⟨0, .own, 3, 1, []⟩⟩] (by simp) (by simp) rfl (by repeat (first | exact GhOk.nil | refine GhOk.low rfl ?_ | refine GhOk.same rfl ?_ | refine GhOk.bump (Nat.lt_succ_self _) ?_)) (by repeat (first | exact EntsOk.nil | refine EntsOk.old rfl (by decide) rfl ?_)) (by repeat (first | exact SlC.nil | refine SlC.cons (.plain rfl rfl rfl) ?_)))
        · show FLe _ ⟨[(0, .int .i64 n), (5, .list 1 ((rowsOf n E).map rowf)), (9, .list 1 ((rowsOf n (turned E)).map rowf)), (10, .own 100 0 0 (b :: l).length), (40, .int .i64 n), (41, .int .i64 i), (11, .eptr 1 [[.int .i64 i]] 0 0), (12, .eptr 1 [[.list 1 (d.map intf)]] 0 0), (13, .int .i64 0), (51, .list 1 ((succs E i).map intf)), (52, .int .i64 (succs E i).length), (53, .int .i64 0)], [(100, ⟨0, .own, 3, 1, (b :: l).map intf⟩)]⟩
          exact (FLe.conv [⟨100, some 100, 0, ⟨0, .own, 3, 1, (b :: l).map intf⟩⟩] (by simp) (by simp) rfl (by repeat (first | exact GhOk.nil | refine GhOk.low rfl ?_ | refine GhOk.same rfl ?_ | refine GhOk.bump (Nat.lt_succ_self _) ?_)) (by repeat (first | exact EntsOk.nil | refine EntsOk.old rfl (by decide) rfl ?_)) (by repeat (first | exact SlC.nil | refine SlC.cons (.plain rfl rfl rfl) ?_ | refine SlC.cons (.own rfl (.head _) rfl rfl) ?_)))
      have hsl := succs_len E i
      intro j hj
      (repeat (first | refine FW.seq ?_ | refine FW.region ?_ | refine RunN.nil ?_ | refine rn_lss rfl rfl rfl rfl ?_))
      refine FW.cond rfl (fun h => ?_) (fun h => ?_)
      · have hlt3 : j < (succs E i).length := by simpa using h
        clear h
        obtain ⟨v, hv⟩ : ∃ v : Nat, nth (succs E i) j = v := ⟨(nth (succs E i) j).toNat, by have := (succs_in hin (nth_mem hlt3)).1; omega⟩
        have hvn : v < n := by have := (succs_in hin (nth_mem hlt3)).2; omega
        have hrv := hrng v hvn
        have hst : ((succs E i).take (j + 1)).foldl (shorten d i) 0 = shorten d i (((succs E i).take j).foldl (shorten d i) 0) v := by
          rw [List.take_succ_eq_append_getElem hlt3, List.foldl_append, ← nth_eq hlt3, hv]; rfl
        obtain ⟨L, hL⟩ : ∃ L, ((succs E i).take j).foldl (shorten d i) 0 = L := ⟨_, rfl⟩
        rw [hL] at hst ⊢
        generalize hBm : B.map intf = Bm
        have hdn : nth d ((v : Int)).toNat = nth d v := rfl
        (repeat (first | refine FW.seq ?_ | refine FW.region ?_ | refine FW.block ?_ | refine FW.skip ?_ | refine RunN.nil ?_ | refine rn_assign rfl rfl rfl ?_ | refine rn_move rfl rfl rfl ?_ | refine rn_indexL rfl rfl rfl rfl rfl rfl (by first | (simp; omega) | (simp; done)) rfl rfl ?_ | refine rn_loadE rfl rfl rfl (by first | (simp; omega) | (simp; done)) (by first | exact getD_map (by omega) | rfl) rfl rfl rfl rfl ?_ | refine rn_geq rfl rfl rfl rfl ?_))
        rw [hv]
        skip
        refine rn_case (fun h1 => ?_) (fun h1 => ?_)
        · (repeat (first | refine rn_move rfl rfl rfl ?_ | refine rn_pickT rfl rfl rfl rfl ?_ | refine rn_loadE rfl rfl rfl (by first | (simp; omega) | (simp; done)) (by first | exact getD_map (by omega) | rfl) rfl rfl rfl ⟨_, _, rfl, rfl, rfl⟩ ?_ | refine rn_move rfl rfl ⟨_, _, rfl, rfl, rfl⟩ ?_ | refine rn_indexL rfl rfl rfl rfl rfl rfl (by first | (simp; omega) | (simp; done)) rfl ⟨_, _, rfl, rfl, rfl⟩ ?_ | refine rn_geq rfl rfl rfl ⟨_, _, rfl, rfl, rfl⟩ ?_))
          refine rn_case (fun h2 => ?_) (fun h2 => ?_)
          · (repeat (first | refine rn_move rfl rfl ⟨_, _, rfl, rfl, rfl⟩ ?_ | refine rn_eql rfl rfl rfl ⟨_, _, rfl, rfl, rfl⟩ ?_))
            refine rn_case (fun h3 => ?_) (fun h3 => ?_)
            · (repeat (first | refine FW.region ?_ | refine FW.condT rfl ?_ | refine RunN.nil ?_ | refine rn_assign rfl rfl rfl ?_ | refine rn_move rfl rfl rfl ?_ | refine rn_indexL rfl rfl rfl rfl rfl rfl (by first | omega | (simp; omega) | (simp; done)) rfl rfl ?_ | refine rn_loadE rfl rfl rfl (by first | omega | (simp; omega) | (simp; done)) (by first | exact getD_map (by omega) | rfl) rfl rfl rfl rfl ?_ | refine rn_add rfl rfl (by omega) rfl rfl ?_ | refine rn_pickT rfl rfl rfl rfl ?_ | refine rn_pickT rfl rfl rfl ⟨_, _, rfl, rfl, rfl⟩ ?_ | refine rn_skip rfl rfl ⟨_, _, rfl, rfl, rfl⟩ ?_))
              rw [shorten, if_pos ⟨⟨by simpa using h1, by simpa using h2⟩, .inl (by simpa using h3)⟩, hdn] at hst
              refine ⟨j + 1, by omega, by omega, ?_⟩
              rw [hst]
              rcases B with _ | ⟨b, l⟩ <;> dsimp only [bestS]
              · exact (FLe.conv [⟨100, some 100, 0, ⟨0, .own, 3, 1, Bm⟩⟩] (by simp) (by simp) rfl (by repeat (first | exact GhOk.nil | refine GhOk.low rfl ?_ | refine GhOk.same rfl ?_ | refine GhOk.bump (Nat.lt_succ_self _) ?_)) (by repeat (first | exact EntsOk.nil | refine EntsOk.old rfl (by decide) rfl ?_)) (by repeat (first | exact SlC.nil | refine SlC.cons (.plain rfl rfl rfl) ?_)))
              · exact (FLe.conv [⟨100, some 100, 0, ⟨0, .own, 3, 1, Bm⟩⟩] (by simp) (by simp) rfl (by repeat (first | exact GhOk.nil | refine GhOk.low rfl ?_ | refine GhOk.same rfl ?_ | refine GhOk.bump (Nat.lt_succ_self _) ?_)) (by repeat (first | exact EntsOk.nil | refine EntsOk.old rfl (by decide) rfl ?_)) (by repeat (first | exact SlC.nil | refine SlC.cons (.plain rfl rfl rfl) ?_ | refine SlC.cons (.own rfl (.head _) rfl rfl) ?_)))
            · (repeat (first | refine RunN.nil ?_ | refine rn_pickT rfl rfl rfl rfl ?_ | refine rn_loadE rfl rfl rfl (by first | (simp; omega) | (simp; done)) (by first | exact getD_map (by omega) | rfl) rfl rfl rfl ⟨_, _, rfl, rfl, rfl⟩ ?_ | refine rn_move rfl rfl ⟨_, _, rfl, rfl, rfl⟩ ?_ | refine rn_indexL rfl rfl rfl rfl rfl rfl (by first | (simp; omega) | (simp; done)) rfl ⟨_, _, rfl, rfl, rfl⟩ ?_ | refine rn_add rfl rfl (by omega) rfl ⟨_, _, rfl, rfl, rfl⟩ ?_ | refine rn_lss rfl rfl rfl ⟨_, _, rfl, rfl, rfl⟩ ?_ | refine rn_pickF rfl rfl rfl ⟨_, _, rfl, rfl, rfl⟩ ?_))
              refine FW.cond rfl (fun h4 => ?_) (fun h4 => ?_)
              · (repeat (first | refine FW.region ?_ | refine RunN.nil ?_ | refine rn_assign rfl rfl rfl ?_ | refine rn_move rfl rfl rfl ?_ | refine rn_indexL rfl rfl rfl rfl rfl rfl (by first | (simp; omega) | (simp; done)) rfl rfl ?_ | refine rn_loadE rfl rfl rfl (by first | (simp; omega) | (simp; done)) (by first | exact getD_map (by omega) | rfl) rfl rfl rfl rfl ?_ | refine rn_add rfl rfl (by omega) rfl rfl ?_))
                rw [shorten, if_pos ⟨⟨by simpa using h1, by simpa using h2⟩, .inr (by simpa using h4)⟩, hdn] at hst
                refine ⟨j + 1, by omega, by omega, ?_⟩
                rw [hst]
                rcases B with _ | ⟨b, l⟩ <;> dsimp only [bestS]
                · exact (FLe.conv [⟨100, some 100, 0, ⟨0, .own, 3, 1, Bm⟩⟩] (by simp) (by simp) rfl (by repeat (first | exact GhOk.nil | refine GhOk.low rfl ?_ | refine GhOk.same rfl ?_ | refine GhOk.bump (Nat.lt_succ_self _) ?_)) (by repeat (first | exact EntsOk.nil | refine EntsOk.old rfl (by decide) rfl ?_)) (by repeat (first | exact SlC.nil | refine SlC.cons (.plain rfl rfl rfl) ?_)))
                · exact (FLe.conv [⟨100, some 100, 0, ⟨0, .own, 3, 1, Bm⟩⟩] (by simp) (by simp) rfl (by repeat (first | exact GhOk.nil | refine GhOk.low rfl ?_ | refine GhOk.same rfl ?_ | refine GhOk.bump (Nat.lt_succ_self _) ?_)) (by repeat (first | exact EntsOk.nil | refine EntsOk.old rfl (by decide) rfl ?_)) (by repeat (first | exact SlC.nil | refine SlC.cons (.plain rfl rfl rfl) ?_ | refine SlC.cons (.own rfl (.head _) rfl rfl) ?_)))
              · (repeat (first | refine FW.region ?_ | refine FW.skip ?_ | refine RunN.nil ?_ | refine rn_move rfl rfl rfl ?_ | refine rn_add rfl rfl (by omega) rfl rfl ?_))
                rw [shorten, if_neg (fun q => by simp at h3 h4; rcases q.2 with q | q; exact h3 q; rw [hdn] at q; omega)] at hst
                refine ⟨j + 1, by omega, by omega, ?_⟩
                rw [hst]
                rcases B with _ | ⟨b, l⟩ <;> dsimp only [bestS]
                · exact (FLe.conv [⟨100, some 100, 0, ⟨0, .own, 3, 1, Bm⟩⟩] (by simp) (by simp) rfl (by repeat (first | exact GhOk.nil | refine GhOk.low rfl ?_ | refine GhOk.same rfl ?_ | refine GhOk.bump (Nat.lt_succ_self _) ?_)) (by repeat (first | exact EntsOk.nil | refine EntsOk.old rfl (by decide) rfl ?_)) (by repeat (first | exact SlC.nil | refine SlC.cons (.plain rfl rfl rfl) ?_)))
                · exact (FLe.conv [⟨100, some 100, 0, ⟨0, .own, 3, 1, Bm⟩⟩] (by simp) (by simp) rfl (by repeat (first | exact GhOk.nil | refine GhOk.low rfl ?_ | refine GhOk.same rfl ?_ | refine GhOk.bump (Nat.lt_succ_self _) ?_)) (by repeat (first | exact EntsOk.nil | refine EntsOk.old rfl (by decide) rfl ?_)) (by repeat (first | exact SlC.nil | refine SlC.cons (.plain rfl rfl rfl) ?_ | refine SlC.cons (.own rfl (.head _) rfl rfl) ?_)))
          · (repeat (first | refine FW.region ?_ | refine FW.skip ?_ | refine FW.condF rfl ?_ | refine RunN.nil ?_ | refine rn_move rfl rfl rfl ?_ | refine rn_add rfl rfl (by omega) rfl rfl ?_ | refine rn_pickF rfl rfl rfl rfl ?_ | refine rn_skip rfl rfl ⟨_, _, rfl, rfl, rfl⟩ ?_))
            rw [shorten, if_neg (fun q => by simp at h2; have q2 := q.1.2; rw [hdn] at q2; omega)] at hst
            refine ⟨j + 1, by omega, by omega, ?_⟩
            rw [hst]
            rcases B with _ | ⟨b, l⟩ <;> dsimp only [bestS]
            · exact (FLe.conv [⟨100, some 100, 0, ⟨0, .own, 3, 1, Bm⟩⟩] (by simp) (by simp) rfl (by repeat (first | exact GhOk.nil | refine GhOk.low rfl ?_ | refine GhOk.same rfl ?_ | refine GhOk.bump (Nat.lt_succ_self _) ?_)) (by repeat (first | exact EntsOk.nil | refine EntsOk.old rfl (by decide) rfl ?_)) (by repeat (first | exact SlC.nil | refine SlC.cons (.plain rfl rfl rfl) ?_)))
            · exact (FLe.conv [⟨100, some 100, 0, ⟨0, .own, 3, 1, Bm⟩⟩] (by simp) (by simp) rfl (by repeat (first | exact GhOk.nil | refine GhOk.low rfl ?_ | refine GhOk.same rfl ?_ | refine GhOk.bump (Nat.lt_succ_self _) ?_)) (by repeat (first | exact EntsOk.nil | refine EntsOk.old rfl (by decide) rfl ?_)) (by repeat (first | exact SlC.nil | refine SlC.cons (.plain rfl rfl rfl) ?_ | refine SlC.cons (.own rfl (.head _) rfl rfl) ?_)))
        · (repeat (first | refine FW.region ?_ | refine FW.skip ?_ | refine FW.condF rfl ?_ | refine RunN.nil ?_ | refine rn_move rfl rfl rfl ?_ | refine rn_add rfl rfl (by omega) rfl rfl ?_ | refine rn_pickF rfl rfl rfl rfl ?_ | refine rn_skip rfl rfl ⟨_, _, rfl, rfl, rfl⟩ ?_))
          rw [shorten, if_neg (fun q => by simp at h1; omega)] at hst
          refine ⟨j + 1, by omega, by omega, ?_⟩
          rw [hst]
          rcases B with _ | ⟨b, l⟩ <;> dsimp only [bestS]
          · exact (FLe.conv [⟨100, some 100, 0, ⟨0, .own, 3, 1, Bm⟩⟩] (by simp) (by simp) rfl (by repeat (first | exact GhOk.nil | refine GhOk.low rfl ?_ | refine GhOk.same rfl ?_ | refine GhOk.bump (Nat.lt_succ_self _) ?_)) (by repeat (first | exact EntsOk.nil | refine EntsOk.old rfl (by decide) rfl ?_)) (by repeat (first | exact SlC.nil | refine SlC.cons (.plain rfl rfl rfl) ?_)))
          · exact (FLe.conv [⟨100, some 100, 0, ⟨0, .own, 3, 1, Bm⟩⟩] (by simp) (by simp) rfl (by repeat (first | exact GhOk.nil | refine GhOk.low rfl ?_ | refine GhOk.same rfl ?_ | refine GhOk.bump (Nat.lt_succ_self _) ?_)) (by repeat (first | exact EntsOk.nil | refine EntsOk.old rfl (by decide) rfl ?_)) (by repeat (first | exact SlC.nil | refine SlC.cons (.plain rfl rfl rfl) ?_ | refine SlC.cons (.own rfl (.head _) rfl rfl) ?_)))
      · obtain rfl : j = (succs E i).length := by simp at h; omega
        clear h hj
        rw [List.take_length]
        obtain ⟨L, hL⟩ : ∃ L, (succs E i).foldl (shorten d i) 0 = L := ⟨_, rfl⟩
        rw [hL]
        have hLL : loopLen (cdist n E i) i (succs E i) = L := by rw [hd]; exact hL
        have hcs := cycB_succ n E i
        rw [hB] at hcs
        unfold cycStep at hcs
        dsimp only at hcs
        rw [hLL] at hcs
        have hBl : B.length ≤ n := hB ▸ cycB_len hin (by omega)
        refine FW.exit ?_
        refine FW.seq ?_
        refine FW.seq ?_
        refine FW.join (fun _ : Unit => ⟨[(0, .int .i64 n), (5, .list 1 ((rowsOf n E).map rowf)), (9, .list 1 ((rowsOf n (turned E)).map rowf)), (10, bestS B), (40, .int .i64 n), (41, .int .i64 i), (11, .eptr 1 [[.int .i64 i]] 0 0), (12, .eptr 1 [[.list 1 (d.map intf)]] 0 0), (13, .int .i64 L), (97, .bool (decide (L = 0 ∨ (B ≠ [] ∧ (B.length : Int) ≤ L))))], [(100, ⟨0, .own, 3, 1, B.map intf⟩)]⟩) (fun _ => True) ?_ (fun _ _ => ?_)
        · rcases B with _ | ⟨b, l⟩
          · dsimp only [bestS]
            (repeat (first | refine FW.region ?_ | refine rn_move rfl rfl rfl ?_ | refine rn_eql rfl rfl rfl rfl ?_))
            refine rn_case (fun h1 => ?_) (fun h1 => ?_)
            · (repeat (first | refine RunN.nil ?_ | refine rn_pickT rfl rfl rfl rfl ?_ | refine rn_skip rfl rfl ⟨_, _, rfl, rfl, rfl⟩ ?_))
              refine ⟨rfl, (), trivial, ?_⟩
              rw [show decide (L = 0 ∨ (([] : List Int) ≠ [] ∧ ((([] : List Int).length : Nat) : Int) ≤ L)) = true by simpa using h1]
              exact (FLe.conv [⟨100, some 100, 0, ⟨0, .own, 3, 1, []⟩⟩] (by simp) (by simp) rfl (by repeat (first | exact GhOk.nil | refine GhOk.low rfl ?_ | refine GhOk.same rfl ?_ | refine GhOk.bump (Nat.lt_succ_self _) ?_)) (by repeat (first | exact EntsOk.nil | refine EntsOk.old rfl (by decide) rfl ?_)) (by repeat (first | exact SlC.nil | refine SlC.cons (.plain rfl rfl rfl) ?_)))
            · (repeat (first | refine RunN.nil ?_ | refine rn_pickF rfl rfl rfl rfl ?_ | refine rn_move rfl rfl ⟨_, _, rfl, rfl, rfl⟩ ?_ | refine rn_pickF rfl rfl rfl ⟨_, _, rfl, rfl, rfl⟩ ?_ | refine rn_neNilN rfl rfl rfl rfl ⟨_, _, rfl, rfl, rfl⟩ ?_ | refine rn_skip rfl rfl ⟨_, _, rfl, rfl, rfl⟩ ?_))
              refine ⟨rfl, (), trivial, ?_⟩
              rw [show decide (L = 0 ∨ (([] : List Int) ≠ [] ∧ ((([] : List Int).length : Nat) : Int) ≤ L)) = false by simpa using h1]
              exact (FLe.conv [⟨100, some 100, 0, ⟨0, .own, 3, 1, []⟩⟩] (by simp) (by simp) rfl (by repeat (first | exact GhOk.nil | refine GhOk.low rfl ?_ | refine GhOk.same rfl ?_ | refine GhOk.bump (Nat.lt_succ_self _) ?_)) (by repeat (first | exact EntsOk.nil | refine EntsOk.old rfl (by decide) rfl ?_)) (by repeat (first | exact SlC.nil | refine SlC.cons (.plain rfl rfl rfl) ?_)))
          · dsimp only [bestS]
            (repeat (first | refine FW.region ?_ | refine rn_move rfl rfl rfl ?_ | refine rn_eql rfl rfl rfl rfl ?_))
            refine rn_case (fun h1 => ?_) (fun h1 => ?_)
            · (repeat (first | refine RunN.nil ?_ | refine rn_pickT rfl rfl rfl rfl ?_ | refine rn_skip rfl rfl ⟨_, _, rfl, rfl, rfl⟩ ?_))
              refine ⟨rfl, (), trivial, ?_⟩
              rw [show decide (L = 0 ∨ ((b :: l : List Int) ≠ [] ∧ (((b :: l : List Int).length : Nat) : Int) ≤ L)) = true by simp at h1 ⊢; exact .inl h1]
              exact (FLe.conv [⟨100, some 100, 0, ⟨0, .own, 3, 1, (b :: l).map intf⟩⟩] (by simp) (by simp) rfl (by repeat (first | exact GhOk.nil | refine GhOk.low rfl ?_ | refine GhOk.same rfl ?_ | refine GhOk.bump (Nat.lt_succ_self _) ?_)) (by repeat (first | exact EntsOk.nil | refine EntsOk.old rfl (by decide) rfl ?_)) (by repeat (first | exact SlC.nil | refine SlC.cons (.plain rfl rfl rfl) ?_ | refine SlC.cons (.own rfl (.head _) rfl rfl) ?_)))
            · (repeat (first | refine RunN.nil ?_ | refine rn_pickF rfl rfl rfl rfl ?_ | refine rn_move rfl rfl ⟨_, _, rfl, rfl, rfl⟩ ?_ | refine rn_geq rfl rfl rfl ⟨_, _, rfl, rfl, rfl⟩ ?_ | refine rn_pickT rfl rfl rfl ⟨_, _, rfl, rfl, rfl⟩ ?_ | refine rn_neNilO rfl rfl rfl rfl (by decide) (by simp; done) rfl ⟨_, _, rfl, rfl, rfl⟩ ?_ | refine rn_lenOwn rfl rfl rfl (by decide) rfl ⟨_, _, rfl, rfl, rfl⟩ ?_))
              refine ⟨rfl, (), trivial, ?_⟩
              rw [show decide (L = 0 ∨ ((b :: l : List Int) ≠ [] ∧ (((b :: l : List Int).length : Nat) : Int) ≤ L)) = decide (L ≥ (((b :: l).length : Nat) : Int)) by simp at h1 ⊢; intro q; exact absurd q h1]
              exact (FLe.conv [⟨100, some 100, 0, ⟨0, .own, 3, 1, (b :: l).map intf⟩⟩] (by simp) (by simp) rfl (by repeat (first | exact GhOk.nil | refine GhOk.low rfl ?_ | refine GhOk.same rfl ?_ | refine GhOk.bump (Nat.lt_succ_self _) ?_)) (by repeat (first | exact EntsOk.nil | refine EntsOk.old rfl (by decide) rfl ?_)) (by repeat (first | exact SlC.nil | refine SlC.cons (.plain rfl rfl rfl) ?_ | refine SlC.cons (.own rfl (.head _) rfl rfl) ?_)))
        · refine FW.cond rfl (fun h => ?_) (fun h => ?_)
          · rw [if_pos (by simpa using h)] at hcs
            (repeat (first | refine FW.region ?_ | refine FW.exit ?_ | refine RunN.nil ?_ | refine rn_move rfl rfl rfl ?_ | refine rn_add rfl rfl (by omega) rfl rfl ?_))
            refine ⟨i + 1, by omega, by omega, ?_⟩
            rw [hcs]
            generalize hBm : B.map intf = Bm
            rcases B with _ | ⟨b, l⟩ <;> dsimp only [bestS]
            · exact (FLe.conv [⟨100, some 100, 0, ⟨0, .own, 3, 1, Bm⟩⟩] (by simp) (by simp) rfl (by repeat (first | exact GhOk.nil | refine GhOk.low rfl ?_ | refine GhOk.same rfl ?_ | refine GhOk.bump (Nat.lt_succ_self _) ?_)) (by repeat (first | exact EntsOk.nil | refine EntsOk.old rfl (by decide) rfl ?_)) (by repeat (first | exact SlC.nil | refine SlC.cons (.plain rfl rfl rfl) ?_)))
            · exact (FLe.conv [⟨100, some 100, 0, ⟨0, .own, 3, 1, Bm⟩⟩] (by simp) (by simp) rfl (by repeat (first | exact GhOk.nil | refine GhOk.low rfl ?_ | refine GhOk.same rfl ?_ | refine GhOk.bump (Nat.lt_succ_self _) ?_)) (by repeat (first | exact EntsOk.nil | refine EntsOk.old rfl (by decide) rfl ?_)) (by repeat (first | exact SlC.nil | refine SlC.cons (.plain rfl rfl rfl) ?_ | refine SlC.cons (.own rfl (.head _) rfl rfl) ?_)))
          · have hno : ¬ (L = 0 ∨ (B ≠ [] ∧ (B.length : Int) ≤ L)) := by simpa using h
            rw [if_neg hno] at hcs
            obtain ⟨K, hK, hKn, hway⟩ := loopLen_way hin hlt (by rw [hLL]; exact fun e => hno (.inl e))
            rw [hLL] at hK
            subst hK
            rw [show ((K + 1 : Nat) : Int).toNat - 1 = K by omega] at hcs
            clear h hno hL hLL hB hBl hrn
            rw [hd] at hcs
            refine FW.le (s' := ⟨[(0, .int .i64 n), (5, .list 1 ((rowsOf n E).map rowf)), (9, .list 1 ((rowsOf n (turned E)).map rowf)), (40, .int .i64 n), (41, .int .i64 i), (11, .eptr 1 [[.int .i64 i]] 0 0), (12, .eptr 1 [[.list 1 (d.map intf)]] 0 0), (13, .int .i64 (K + 1 : Nat))], []⟩) ?_ (FLe.conv [] (by simp) (by simp) rfl (by repeat (first | exact GhOk.nil | refine GhOk.low rfl ?_ | refine GhOk.same rfl ?_ | refine GhOk.bump (Nat.lt_succ_self _) ?_)) (by repeat (first | exact EntsOk.nil)) (by repeat (first | exact SlC.nil | refine SlC.cons (.plain rfl rfl rfl) ?_)))
            (repeat (first | refine FW.seq ?_ | refine FW.region ?_ | refine FW.block ?_ | refine FW.skip ?_ | refine RunN.nil ?_ | refine rn_assign rfl rfl rfl ?_ | refine rn_loadE rfl rfl rfl (by simp; done) rfl rfl rfl rfl rfl ?_ | refine rn_buildS1 rfl rfl rfl rfl rfl rfl rfl rfl ?_))
            refine FW.loop (fun x : List Int × Nat => ⟨[(0, .int .i64 n), (5, .list 1 ((rowsOf n E).map rowf)), (9, .list 1 ((rowsOf n (turned E)).map rowf)), (40, .int .i64 n), (41, .int .i64 i), (11, .eptr 1 [[.int .i64 i]] 0 0), (12, .eptr 1 [[.list 1 (d.map intf)]] 0 0), (13, .int .i64 (K + 1 : Nat)), (10, .own 100 0 0 x.1.length), (16, .int .i64 x.2)], [(100, ⟨0, .own, 3, 1, x.1.map intf⟩)]⟩) (fun x => ∃ k, x.1.length + k = K + 1 ∧ x.2 < n ∧ Way E (cdist n E i) i k x.2 ∧ x.1 ++ wayOn E d i k x.2 = (i : Int) :: wayOn E d i K i) (fun x => K + 1 - x.1.length) ([(i : Int)], i) ⟨K, by simp; omega, hlt, hway, rfl⟩ ?_ ?_
            · show FLe _ ⟨[(0, .int .i64 n), (5, .list 1 ((rowsOf n E).map rowf)), (9, .list 1 ((rowsOf n (turned E)).map rowf)), (40, .int .i64 n), (41, .int .i64 i), (11, .eptr 1 [[.int .i64 i]] 0 0), (12, .eptr 1 [[.list 1 (d.map intf)]] 0 0), (13, .int .i64 (K + 1 : Nat)), (10, .own 100 0 0 1), (16, .int .i64 i)], [(100, ⟨0, .own, 3, 1, [[.int .i64 i]]⟩)]⟩
              exact (FLe.conv [⟨100, some 99, 0 + 1, ⟨0, .own, 3, 1, [[.int .i64 i]]⟩⟩] (by simp) (by simp) rfl (by repeat (first | exact GhOk.nil | refine GhOk.low rfl ?_ | refine GhOk.same rfl ?_ | refine GhOk.bump (Nat.lt_succ_self _) ?_)) (by repeat (first | exact EntsOk.nil | refine EntsOk.old rfl (by decide) rfl ?_)) (by repeat (first | exact SlC.nil | refine SlC.cons (.plain rfl rfl rfl) ?_ | refine SlC.cons (.own rfl (.head _) rfl rfl) ?_)))
            · rintro ⟨P, v⟩ ⟨k, hPk, hvn, hw, hP⟩
              dsimp only at hPk hvn hw hP ⊢
              (repeat (first | refine FW.seq ?_ | refine FW.region ?_ | refine RunN.nil ?_ | refine rn_move rfl rfl rfl ?_ | refine rn_lenOwn rfl rfl rfl (by decide) rfl rfl ?_ | refine rn_lss rfl rfl rfl rfl ?_))
              refine FW.cond rfl (fun h => ?_) (fun h => ?_)
              · obtain ⟨k, rfl⟩ : ∃ k', k = k' + 1 := ⟨k - 1, by simp at h; omega⟩
                clear h
                obtain ⟨j, hj, hfx, hnx, hsn, hway'⟩ := hw.step hin hlt
                rw [hd] at hfx hnx hsn hway'
                have hwo : wayOn E d i (k + 1) v = (stepOn E d i (k + 1 : Nat) v : Int) :: wayOn E d i k (stepOn E d i (k + 1 : Nat) v) := rfl
                rw [hwo] at hP
                obtain ⟨u, hu⟩ : ∃ u, stepOn E d i (k + 1 : Nat) v = u := ⟨_, rfl⟩
                rw [hu] at hnx hsn hway' hP
                have hvr : nth (rowsOf n E) v = succs E v := rowsOf_nth E hvn
                have hvl := succs_len E v
                have hrn := rowsOf_len n E
                have hlft : ((K + 1 : Nat) : Int) - (P.length : Int) = (k + 1 : Nat) := by omega
                (repeat (first | refine FW.seq ?_ | refine FW.region ?_ | refine FW.block ?_ | refine FW.skip ?_ | refine RunN.nil ?_ | refine rn_move rfl rfl rfl ?_ | refine rn_lenOwn rfl rfl rfl (by decide) rfl rfl ?_ | refine rn_indexL rfl rfl rfl rfl rfl rfl (by simp; omega) rfl rfl ?_ | refine rn_loadE rfl rfl rfl (by simp; omega) (by first | exact getD_map (by omega) | rfl) rfl rfl rfl rfl ?_ | refine rn_alloc rfl rfl rfl rfl rfl rfl rfl ?_ | refine rn_storeV rfl rfl rfl rfl rfl rfl rfl rfl rfl ?_ | refine rn_sub rfl rfl (by omega) rfl rfl ?_))
                rw [hlft, hvr]
                refine RunN.le ?_ (FLe.shareP 17 rfl rfl)
                (repeat (first | refine rn_makeFn3 rfl rfl rfl rfl rfl rfl rfl rfl ?_))
                refine rn_call (indexFunc_spec (succs E v) _ _ (onWay d i (k + 1 : Nat)) (by omega) (fun x hx => ?_)) (by repeat (first | exact ArgsR.nil | refine ArgsR.cons (by exact ArgR.plain rfl rfl) ?_)) rfl rfl ?_
                · have hx2 := succs_in hin hx
                  obtain ⟨x, rfl⟩ : ∃ x' : Nat, x = x' := ⟨x.toNat, by omega⟩
                  exact cycle1_spec d i (k + 1 : Nat) x (by omega)
                rw [hfx]
                have hj' : j < (nth (rowsOf n E) v).length := by rw [hvr]; exact hj
                (repeat (first | refine FW.seq ?_ | refine FW.region ?_ | refine RunN.nil ?_ | refine rn_assign rfl rfl rfl ?_ | refine rn_move rfl rfl rfl ?_ | refine rn_indexL rfl rfl rfl rfl rfl rfl (by first | (simp; omega) | (simp; done)) rfl rfl ?_ | refine rn_loadE rfl rfl rfl (by first | (simp; omega) | (simp; done)) (by first | exact getD_map (by omega) | rfl) rfl rfl rfl rfl ?_ | refine rn_buildS1 rfl rfl rfl rfl rfl rfl rfl rfl ?_ | refine rn_appO rfl rfl (by first | exact (List.length_map _).symm | rfl | (simp; done) | (simp; omega)) rfl rfl rfl (by decide) (by exact SrcR.own rfl rfl (by decide) (by first | exact List.length_map _ | exact (List.length_map _).symm | exact List.length_replicate | rfl | (simp; done) | omega | (simp; omega))) (by first | (simp; omega) | (simp; done)) (by first | (simp; omega) | (simp; done)) rfl rfl rfl ?_))
                rw [hvr]
                skip
                rw [hnx]
                skip
                refine ⟨(P ++ [(u : Int)], u), ⟨k, by simp; omega, hsn, by rw [hd]; exact hway', by rw [List.append_assoc]; exact hP⟩, by simp; omega, ?_⟩
                dsimp only
                rw [List.length_append, List.map_append]
                exact (FLe.conv [⟨100, some 125, 0 + 1, ⟨0, .own, 3, 1, P.map intf ++ [(u : Int)].map intf⟩⟩] (by simp) (by simp) rfl (by repeat (first | exact GhOk.nil | refine GhOk.low rfl ?_ | refine GhOk.same rfl ?_ | refine GhOk.bump (Nat.lt_succ_self _) ?_)) (by repeat (first | exact EntsOk.nil | refine EntsOk.old rfl (by decide) (by first | rfl | (simp; done)) ?_)) (by repeat (first | exact SlC.nil | refine SlC.cons (.plain rfl rfl (by first | rfl | (simp; done))) ?_ | refine SlC.cons (.own rfl (.head _) rfl (by first | rfl | (simp; done))) ?_)))
              · obtain rfl : k = 0 := by simp at h; omega
                rw [show wayOn E d i 0 v = [] from rfl, List.append_nil] at hP
                (repeat (first | refine FW.region ?_ | refine FW.exit ?_ | refine RunN.nil ?_ | refine rn_move rfl rfl rfl ?_ | refine rn_add rfl rfl (by omega) rfl rfl ?_))
                refine ⟨i + 1, by omega, by omega, ?_⟩
                rw [hcs, ← hP]
                subst hP
                dsimp only [bestS]
                exact (FLe.conv [⟨100, some 100, 0, ⟨0, .own, 3, 1, ((i : Int) :: wayOn E d i K i).map intf⟩⟩] (by simp) (by simp) rfl (by repeat (first | exact GhOk.nil | refine GhOk.low rfl ?_ | refine GhOk.same rfl ?_ | refine GhOk.bump (Nat.lt_succ_self _) ?_)) (by repeat (first | exact EntsOk.nil | refine EntsOk.old rfl (by decide) rfl ?_)) (by repeat (first | exact SlC.nil | refine SlC.cons (.plain rfl rfl rfl) ?_ | refine SlC.cons (.own rfl (.head _) rfl rfl) ?_)))
    · obtain rfl : i = n := by simp at h; omega
      rw [show cycB i E i = gCycle i E from rfl]
      generalize gCycle i E = B
      cases B with
      | nil =>
        dsimp only [bestS]
        refine FW.le (s' := ⟨[(10, .nil)], []⟩) ?_ (FLe.conv [] (by simp) (by simp) rfl (by repeat (first | exact GhOk.nil | refine GhOk.low rfl ?_ | refine GhOk.same rfl ?_ | refine GhOk.bump (Nat.lt_succ_self _) ?_)) (by repeat (first | exact EntsOk.nil)) (by repeat (first | exact SlC.nil | refine SlC.cons (.plain rfl rfl rfl) ?_)))
        (repeat (first | refine FW.seq ?_ | refine FW.region ?_ | refine FW.exit ?_ | refine RunN.nil ?_ | refine rn_assign rfl rfl rfl ?_ | refine rn_move rfl rfl rfl ?_))
        exact FW.ret ⟨.inl rfl, .sh (.cons (.tmp 4 rfl rfl) .nil) rfl rfl⟩
      | cons b l =>
        dsimp only [bestS]
        refine FW.le (s' := ⟨[(10, .list 1 ((b :: l).map intf))], []⟩) ?_ ((FLe.share 10 rfl rfl (by simp)).trans (FLe.conv [] (by simp) (by simp) rfl (by repeat (first | exact GhOk.nil | refine GhOk.low rfl ?_ | refine GhOk.same rfl ?_ | refine GhOk.bump (Nat.lt_succ_self _) ?_)) (by repeat (first | exact EntsOk.nil)) (by repeat (first | exact SlC.nil | refine SlC.cons (.plain rfl rfl rfl) ?_))))
        (repeat (first | refine FW.seq ?_ | refine FW.region ?_ | refine FW.exit ?_ | refine RunN.nil ?_ | refine rn_assign rfl rfl rfl ?_ | refine rn_move rfl rfl rfl ?_))
        exact FW.ret ⟨.inl rfl, .sh (.cons (.tmp 4 rfl rfl) .nil) rfl rfl⟩
end Go.Proofs.Ytfegkbmnclhljaa
