/-
  Functions of layer 24, at plain values: once.Missing.
-/
import Derived.Test.YthijndjgchbeoaaFmOnce5
namespace Go.Proofs.Ythijndjgchbeoaa
set_option linter.unusedVariables false
open Go.RowKit

set_option maxHeartbeats 4000000 in
theorem missing_spec (l : List OpV) (hl : l.length ≤ 1000000000) (hin : ∀ o ∈ l, OpIn o) : Spec Try.prog 31 [.list 8 (l.map OpV.fv)] (.ow 3 1) (.list 1 ((missTo l l.length).map intf)) := by
  refine Spec.of_body (c := (cxOf Try.prog tyAt_ok mixed_ok 57)) ⟨Try.func31, rfl, Try.ntmps31, by kernel_rfl⟩ (by simp [FV.hand]) (by exact Nat.le_of_ble_eq_true rfl) rfl ?_
  change FW _ _ _ ⟨[(0, .list 8 (l.map OpV.fv))], []⟩
  (repeat (first | refine FW.seq ?_ | refine FW.region ?_ | refine FW.block ?_ | refine RunN.nil ?_ | refine rn_assign rfl rfl rfl ?_ | refine rn_makeMap rfl rfl rfl ?_ | refine rn_move rfl rfl rfl ?_ | refine rn_lenList rfl rfl (by first | exact List.length_map _ | exact (List.length_map _).symm | exact List.length_replicate | rfl | (simp; done) | omega | (simp; omega)) rfl rfl ?_))
  refine FW.loop (fun i : Nat => ⟨[(0, .list 8 (l.map OpV.fv)), (3, .omap 100 0), (12, .list 8 (l.map OpV.fv)), (13, .int .i64 l.length), (14, .int .i64 i)], [(100, ⟨0, .mapo, 87, 0, gotRows l i⟩)]⟩) (fun i => i ≤ l.length) (fun i => l.length - i) 0 (by simp)
    (FLe.conv [⟨100, some 11, 1, ⟨0, .mapo, 87, 0, []⟩⟩] (by simp) (by simp) (by repeat (first | exact EntsOk.nil | refine EntsOk.old rfl (by decide) (by first | rfl | (simp; done) | (congr 1; omega) | (simp; omega)) ?_)) (by repeat (first | exact SlC.nil | refine SlC.cons (.plain rfl rfl (by first | rfl | (simp; done) | (congr 1; omega) | (simp; omega))) ?_ | refine SlC.cons (.omap rfl (.head _) rfl) ?_))) ?_
  intro i hi
  (repeat (first | refine FW.seq ?_ | refine FW.region ?_ | refine RunN.nil ?_ | refine rn_lss rfl rfl rfl rfl ?_))
  refine FW.cond rfl (fun h => ?_) (fun h => ?_)
  · have hlt : i < l.length := by simpa using h
    clear h
    have ho := hin _ (nth_mem hlt)
    (repeat (first | refine FW.seq ?_ | refine FW.region ?_ | refine FW.block ?_ | refine FW.skip ?_ | refine RunN.nil ?_ | refine rn_indexL rfl rfl (by first | rfl | exact (Int.toNat_of_nonneg (by omega)).symm) rfl rfl rfl (by first | omega | (simp; omega) | (simp; done)) rfl rfl ?_ | refine rn_loadEA rfl rfl rfl (by decide) (by first | omega | (simp; omega) | (simp; done)) (by first | exact getD_map (by omega) | rfl) rfl rfl rfl ?_ | refine rn_loadPA rfl rfl rfl (by decide) rfl rfl (by first | omega | (simp; omega) | (simp; done)) (by first | exact getD_map (by omega) | rfl) rfl rfl rfl ?_ | refine rn_alloc rfl rfl rfl rfl rfl rfl rfl ?_ | refine rn_storeVA rfl rfl rfl rfl rfl rfl rfl rfl rfl ?_))
    refine rn_call (delivers_spec (nth l i)) (by repeat (first | exact ArgsR.nil | refine ArgsR.cons (by first | exact ArgR.plain rfl rfl) ?_)) rfl rfl ?_
    (repeat (first | refine FW.seq ?_ | refine FW.region ?_ | refine RunN.nil ?_ | refine rn_assign rfl rfl rfl ?_ | refine rn_move rfl rfl rfl ?_ | refine rn_alloc rfl rfl rfl rfl rfl rfl rfl ?_ | refine rn_storeVA rfl rfl rfl rfl rfl rfl rfl rfl rfl ?_ | refine rn_extract rfl rfl rfl rfl rfl ?_))
    refine FW.cond rfl (fun hd => ?_) (fun hd => ?_)
    · (repeat (first | refine FW.region ?_ | refine rn_move rfl rfl rfl ?_ | refine rn_loadPA rfl rfl rfl (by decide) rfl rfl (by first | omega | (simp; omega) | (simp; done)) (by first | exact getD_map (by omega) | rfl) rfl rfl rfl ?_))
      refine rn_update keyedE (gotRows_key hi hin) (keyFE ho.2.2.1 ho.2.2.2.2.1) (gotRows_set hlt hd) rfl rfl rfl rfl rfl rfl rfl ?_
      (repeat (first | refine FW.region ?_ | refine RunN.nil ?_ | refine rn_move rfl rfl rfl ?_ | refine rn_add rfl rfl (by omega) rfl rfl ?_))
      exact ⟨i + 1, by omega, by omega, (FLe.conv [⟨100, some 100, 0, ⟨0, .mapo, 87, 0, gotRows l (i + 1)⟩⟩] (by simp) (by simp) (by repeat (first | exact EntsOk.nil | refine EntsOk.old rfl (by decide) (by first | rfl | (simp; done) | (congr 1; omega) | (simp; omega)) ?_)) (by repeat (first | exact SlC.nil | refine SlC.cons (.plain rfl rfl (by first | rfl | (simp; done) | (congr 1; omega) | (simp; omega))) ?_ | refine SlC.cons (.omap rfl (.head _) rfl) ?_)))⟩
    · (repeat (first | refine FW.region ?_ | refine FW.skip ?_ | refine RunN.nil ?_ | refine rn_move rfl rfl rfl ?_ | refine rn_add rfl rfl (by omega) rfl rfl ?_))
      refine ⟨i + 1, by omega, by omega, ?_⟩
      rw [gotRows_skip hd]
      exact (FLe.conv [⟨100, some 100, 0, ⟨0, .mapo, 87, 0, gotRows l i⟩⟩] (by simp) (by simp) (by repeat (first | exact EntsOk.nil | refine EntsOk.old rfl (by decide) (by first | rfl | (simp; done) | (congr 1; omega) | (simp; omega)) ?_)) (by repeat (first | exact SlC.nil | refine SlC.cons (.plain rfl rfl (by first | rfl | (simp; done) | (congr 1; omega) | (simp; omega))) ?_ | refine SlC.cons (.omap rfl (.head _) rfl) ?_)))
  · have : i = l.length := by simp at h; omega
    subst this
    (repeat (first | refine FW.seq ?_ | refine FW.region ?_ | refine FW.block ?_ | refine FW.exit ?_ | refine RunN.nil ?_ | refine rn_assign rfl rfl rfl ?_ | refine rn_move rfl rfl rfl ?_ | refine rn_lenList rfl rfl (by first | exact List.length_map _ | exact (List.length_map _).symm | exact List.length_replicate | rfl | (simp; done) | omega | (simp; omega)) rfl rfl ?_))
    refine FW.loop (fun i : Nat => ⟨[(0, .list 8 (l.map OpV.fv)), (3, .omap 100 0), (8, .own 101 0 0 (missTo l i).length), (27, .list 8 (l.map OpV.fv)), (28, .int .i64 l.length), (29, .int .i64 i)], [(100, ⟨0, .mapo, 87, 0, gotRows l l.length⟩), (101, ⟨0, .own, 3, 1, (missTo l i).map intf⟩)]⟩) (fun i => i ≤ l.length) (fun i => l.length - i) 0 (by simp)
      (FLe.conv [⟨100, some 100, 0, ⟨0, .mapo, 87, 0, gotRows l l.length⟩⟩, ⟨101, none, 0, ⟨0, .own, 3, 1, []⟩⟩] (by simp) (by simp) (by repeat (first | exact EntsOk.nil | refine EntsOk.old rfl (by decide) (by first | rfl | (simp; done) | (congr 1; omega) | (simp; omega)) ?_ | refine EntsOk.new ?_)) (by repeat (first | exact SlC.nil | refine SlC.cons (.plain rfl rfl (by first | rfl | (simp; done) | (congr 1; omega) | (simp; omega))) ?_ | refine SlC.cons (.omap rfl (.head _) rfl) ?_ | refine SlC.cons (.nil rfl (.tail _ (.head _)) rfl) ?_))) ?_
    intro i hi
    have hml := missTo_len l i
    (repeat (first | refine FW.seq ?_ | refine FW.region ?_ | refine RunN.nil ?_ | refine rn_lss rfl rfl rfl rfl ?_))
    refine FW.cond rfl (fun h => ?_) (fun h => ?_)
    · have hlt : i < l.length := by simpa using h
      clear h
      have ho := hin _ (nth_mem hlt)
      have next0 : isMiss l i = false → missTo l (i + 1) = missTo l i := fun h0 => by rw [missTo_succ, h0]; simp
      have next1 : isMiss l i = true → missTo l (i + 1) = missTo l i ++ [(i : Int)] := fun h0 => by rw [missTo_succ, h0]; simp
      have skip : isMiss l i = false → ∀ (t : List (Nat × FV)), SlC t [⟨100, some 100, 0, ⟨0, .mapo, 87, 0, gotRows l l.length⟩⟩, ⟨101, some 101, 0, ⟨0, .own, 3, 1, (missTo l i).map intf⟩⟩] [(0, .list 8 (l.map OpV.fv)), (3, .omap 100 0), (8, .own 101 0 0 (missTo l i).length), (27, .list 8 (l.map OpV.fv)), (28, .int .i64 l.length), (29, .int .i64 (i + 1 : Nat))] →
          ∀ ob, look {} ob 100 = ⟨0, .mapo, 87, 0, gotRows l l.length⟩ → look {} ob 101 = ⟨0, .own, 3, 1, (missTo l i).map intf⟩ → ∃ x', x' ≤ l.length ∧ l.length - x' < l.length - i ∧ FLe ⟨t, ob⟩ ⟨[(0, .list 8 (l.map OpV.fv)), (3, .omap 100 0), (8, .own 101 0 0 (missTo l x').length), (27, .list 8 (l.map OpV.fv)), (28, .int .i64 l.length), (29, .int .i64 x')], [(100, ⟨0, .mapo, 87, 0, gotRows l l.length⟩), (101, ⟨0, .own, 3, 1, (missTo l x').map intf⟩)]⟩ := fun h0 t ht ob ho1 ho2 => by
        refine ⟨i + 1, by omega, by omega, ?_⟩
        rw [next0 h0]
        exact FLe.conv [⟨100, some 100, 0, ⟨0, .mapo, 87, 0, gotRows l l.length⟩⟩, ⟨101, some 101, 0, ⟨0, .own, 3, 1, (missTo l i).map intf⟩⟩] (by simp) (by simp) (.old ho1 (by decide) rfl (.old ho2 (by decide) rfl .nil)) ht
      (repeat (first | refine FW.seq ?_ | refine FW.region ?_ | refine FW.block ?_ | refine FW.skip ?_ | refine RunN.nil ?_ | refine rn_assign rfl rfl rfl ?_ | refine rn_move rfl rfl rfl ?_ | refine rn_indexL rfl rfl (by first | rfl | exact (Int.toNat_of_nonneg (by omega)).symm) rfl rfl rfl (by first | omega | (simp; omega) | (simp; done)) rfl rfl ?_ | refine rn_loadP rfl rfl rfl rfl rfl (by first | omega | (simp; omega) | (simp; done)) (by first | exact getD_map (by omega) | rfl) rfl rfl rfl rfl ?_ | refine rn_loadEA rfl rfl rfl (by decide) (by first | omega | (simp; omega) | (simp; done)) (by first | exact getD_map (by omega) | rfl) rfl rfl rfl ?_ | refine rn_alloc rfl rfl rfl rfl rfl rfl rfl ?_ | refine rn_storeVA rfl rfl rfl rfl rfl rfl rfl rfl rfl ?_ | refine rn_fieldP rfl rfl rfl rfl rfl rfl (by decide) rfl rfl ?_ | refine rn_eql rfl rfl rfl rfl ?_))
      refine rn_case (fun h3 => ?_) (fun h3 => ?_)
      · have h3' : (nth l i).k = 3 := by simpa using h3
        (repeat (first | refine rn_move rfl rfl rfl ?_ | refine rn_pickT rfl rfl rfl rfl ?_ | refine rn_fieldP rfl rfl rfl rfl rfl rfl (by decide) rfl ⟨_, _, rfl, rfl, rfl⟩ ?_ | refine rn_loadP rfl rfl rfl rfl rfl (by first | omega | (simp; omega) | (simp; done)) (by first | exact getD_map (by omega) | rfl) rfl rfl rfl ⟨_, _, rfl, rfl, rfl⟩ ?_))
        refine rn_case (fun hd => ?_) (fun hd => ?_)
        · (repeat (first | refine rn_fieldP rfl rfl rfl rfl rfl rfl (by decide) rfl ⟨_, _, rfl, rfl, rfl⟩ ?_ | refine rn_loadP rfl rfl rfl rfl rfl (by first | omega | (simp; omega) | (simp; done)) (by first | exact getD_map (by omega) | rfl) rfl rfl rfl ⟨_, _, rfl, rfl, rfl⟩ ?_ | refine rn_move rfl rfl ⟨_, _, rfl, rfl, rfl⟩ ?_ | refine rn_buildK rfl rfl rfl ⟨_, _, rfl, rfl, rfl⟩ ?_ | refine FillK.nil ?_ | refine FillK.one rfl rfl rfl rfl rfl ?_))
          refine rn_lookM1 (e := 4) keyedE (gotRows_key (Nat.le_refl _) hin) (keyFE ho.2.2.1 ho.2.2.2.1) (look_got l (nth l i)) rfl rfl (by decide) rfl rfl rfl rfl rfl ⟨_, _, rfl, rfl, rfl⟩ ?_
          (repeat (first | refine RunN.nil ?_ | refine rn_pickT rfl rfl rfl rfl ?_ | refine rn_not rfl rfl ⟨_, _, rfl, rfl, rfl⟩ ?_))
          refine FW.cond rfl (fun h4 => ?_) (fun h4 => ?_)
          · (repeat (first | refine FW.region ?_ | refine RunN.nil ?_ | refine rn_assign rfl rfl rfl ?_ | refine rn_move rfl rfl rfl ?_ | refine rn_add rfl rfl (by omega) rfl rfl ?_ | refine rn_buildS1 rfl rfl rfl rfl rfl rfl rfl rfl ?_ | refine rn_appO rfl rfl (by first | exact List.length_map _ | exact (List.length_map _).symm | exact List.length_replicate | rfl | (simp; done) | omega | (simp; omega)) rfl rfl rfl (by decide) (by first | exact SrcR.own rfl rfl (by decide) (by first | exact List.length_map _ | exact (List.length_map _).symm | exact List.length_replicate | rfl | (simp; done) | omega | (simp; omega)) | exact SrcR.list rfl | exact SrcR.nil rfl | exact SrcR.part rfl rfl (by decide)) (by first | omega | (simp; omega) | (simp; done)) (by first | omega | (simp; omega) | (simp; done)) rfl rfl rfl ?_))
            refine ⟨i + 1, by omega, by omega, ?_⟩
            rw [next1 (by simp at h4; simp [isMiss, h3', hd, h4]), List.map_append]
            exact (FLe.conv [⟨100, some 100, 0, ⟨0, .mapo, 87, 0, gotRows l l.length⟩⟩, ⟨101, some 54, 1, ⟨0, .own, 3, 1, (missTo l i).map intf ++ [(i : Int)].map intf⟩⟩] (by simp) (by simp) (by repeat (first | exact EntsOk.nil | refine EntsOk.old rfl (by decide) (by first | rfl | (simp; done) | (congr 1; omega) | (simp; omega)) ?_)) (by repeat (first | exact SlC.nil | refine SlC.cons (.plain rfl rfl (by first | rfl | (simp; done) | (congr 1; omega) | (simp; omega))) ?_ | refine SlC.cons (.omap rfl (.head _) rfl) ?_ | refine SlC.cons (.own rfl (.tail _ (.head _)) rfl (by first | rfl | (simp; done) | (congr 1; omega) | (simp; omega))) ?_)))
          · (repeat (first | refine FW.region ?_ | refine FW.skip ?_ | refine RunN.nil ?_ | refine rn_move rfl rfl rfl ?_ | refine rn_add rfl rfl (by omega) rfl rfl ?_))
            exact skip (by simp at h4; simp [isMiss, h4]) _ (by repeat (first | exact SlC.nil | refine SlC.cons (.plain rfl rfl (by first | rfl | (simp; done) | (congr 1; omega) | (simp; omega))) ?_ | refine SlC.cons (.omap rfl (.head _) rfl) ?_ | refine SlC.cons (.own rfl (.tail _ (.head _)) rfl (by first | rfl | (simp; done) | (congr 1; omega) | (simp; omega))) ?_)) _ rfl rfl
        · (repeat (first | refine FW.region ?_ | refine FW.skip ?_ | refine FW.condF rfl ?_ | refine RunN.nil ?_ | refine rn_move rfl rfl rfl ?_ | refine rn_add rfl rfl (by omega) rfl rfl ?_ | refine rn_pickF rfl rfl rfl rfl ?_ | refine rn_skip rfl rfl ⟨_, _, rfl, rfl, rfl⟩ ?_))
          exact skip (by simp [isMiss, hd]) _ (by repeat (first | exact SlC.nil | refine SlC.cons (.plain rfl rfl (by first | rfl | (simp; done) | (congr 1; omega) | (simp; omega))) ?_ | refine SlC.cons (.omap rfl (.head _) rfl) ?_ | refine SlC.cons (.own rfl (.tail _ (.head _)) rfl (by first | rfl | (simp; done) | (congr 1; omega) | (simp; omega))) ?_)) _ rfl rfl
      · (repeat (first | refine FW.region ?_ | refine FW.skip ?_ | refine FW.condF rfl ?_ | refine RunN.nil ?_ | refine rn_move rfl rfl rfl ?_ | refine rn_add rfl rfl (by omega) rfl rfl ?_ | refine rn_pickF rfl rfl rfl rfl ?_ | refine rn_skip rfl rfl ⟨_, _, rfl, rfl, rfl⟩ ?_))
        exact skip (by simp at h3; simp [isMiss, h3]) _ (by repeat (first | exact SlC.nil | refine SlC.cons (.plain rfl rfl (by first | rfl | (simp; done) | (congr 1; omega) | (simp; omega))) ?_ | refine SlC.cons (.omap rfl (.head _) rfl) ?_ | refine SlC.cons (.own rfl (.tail _ (.head _)) rfl (by first | rfl | (simp; done) | (congr 1; omega) | (simp; omega))) ?_)) _ rfl rfl
    · have : i = l.length := by simp at h; omega
      subst this
      (repeat (first | refine FW.seq ?_ | refine FW.region ?_ | refine FW.exit ?_ | refine RunN.nil ?_ | refine rn_assign rfl rfl rfl ?_ | refine rn_move rfl rfl rfl ?_))
      exact FW.ret ⟨.inl rfl, ret_ow rfl rfl rfl (by simp) (by decide) rfl (intT.flatsM _)⟩
end Go.Proofs.Ythijndjgchbeoaa
