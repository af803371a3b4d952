/-
  simproofref24.Missing, at plain values.
-/
import Derived.Test.YthijndjgchbeoaaFmOnce3
namespace Go.Proofs.Ythijndjgchbeoaa
set_option linter.unusedVariables false
open Go.RowKit

/-- a delivery of what was pushed -/
def delOf (o p : OpV) : Bool := isDel p && (decide (p.key = o.key) && decide (p.res = o.arg))
def anyDel (l : List OpV) (o : OpV) (k : Nat) : Bool := (List.range k).any fun j => delOf o (nth l j)
theorem anyDel_zero (l : List OpV) (o : OpV) : anyDel l o 0 = false := rfl
theorem anyDel_succ (l : List OpV) (o : OpV) (k : Nat) : anyDel l o (k + 1) = (anyDel l o k || delOf o (nth l k)) := by
  simp [anyDel, List.range_succ]
def isMiss (l : List OpV) (i : Nat) : Bool := decide ((nth l i).k = 3) && ((nth l i).done && !anyDel l (nth l i) l.length)
def missTo (l : List OpV) (i : Nat) : List Int := ((List.range i).filter (isMiss l)).map fun (j : Nat) => (j : Int)
theorem missTo_succ (l : List OpV) (i : Nat) : missTo l (i + 1) = missTo l i ++ (if isMiss l i then [(i : Int)] else []) := by
  unfold missTo
  rw [List.range_succ, List.filter_append, List.map_append]
  congr 1
  by_cases h : isMiss l i = true <;> simp [h]
theorem missTo_len (l : List OpV) (i : Nat) : (missTo l i).length ≤ i := by
  unfold missTo
  rw [List.length_map]
  exact Nat.le_trans (List.length_filter_le _ _) (by simp)

set_option maxHeartbeats 4000000 in
theorem missing24_spec (l : List OpV) (hl : l.length ≤ 1000000000) : Spec Try.prog 33 [.list 8 (l.map OpV.fv)] (.ow 3 1) (.list 1 ((missTo l l.length).map intf)) := by
  refine Spec.of_body (c := (cxOf Try.prog tyAt_ok mixed_ok 74)) ⟨Try.func33, rfl, Try.ntmps33, by kernel_rfl⟩ (by simp [FV.hand]) (by exact Nat.le_of_ble_eq_true rfl) rfl ?_
  change FW _ _ _ ⟨[(0, .list 8 (l.map OpV.fv))], []⟩
  (repeat (first | refine FW.seq ?_ | refine FW.region ?_ | refine FW.block ?_ | refine RunN.nil ?_ | refine rn_assign rfl rfl rfl ?_))
  refine FW.loop (fun i : Nat => ⟨[(0, .list 8 (l.map OpV.fv)), (3, .own 100 0 0 (missTo l i).length), (4, .int .i64 i)], [(100, ⟨0, .own, 3, 1, (missTo l i).map intf⟩)]⟩) (fun i => i ≤ l.length) (fun i => l.length - i) 0 (by simp)
    (FLe.conv [⟨100, none, 0, ⟨0, .own, 3, 1, []⟩⟩] (by simp) (by simp) (by repeat (first | exact EntsOk.nil | refine EntsOk.new ?_)) (by repeat (first | exact SlC.nil | refine SlC.cons (.plain rfl rfl (by first | rfl | (simp; done) | (congr 1; omega) | (simp; omega))) ?_ | refine SlC.cons (.nil rfl (.head _) rfl) ?_))) ?_
  intro i hi
  have hml := missTo_len l i
  (repeat (first | refine FW.seq ?_ | refine FW.region ?_ | refine RunN.nil ?_ | refine rn_move rfl rfl rfl ?_ | refine rn_lenList rfl rfl (by first | exact List.length_map _ | exact (List.length_map _).symm | exact List.length_replicate | rfl | (simp; done) | omega | (simp; omega)) rfl rfl ?_ | refine rn_lss rfl rfl rfl rfl ?_))
  refine FW.cond rfl (fun h => ?_) (fun h => ?_)
  · have hlt : i < l.length := by simpa using h
    clear h
    have next0 : isMiss l i = false → missTo l (i + 1) = missTo l i := fun h0 => by rw [missTo_succ, h0]; simp
    have next1 : isMiss l i = true → missTo l (i + 1) = missTo l i ++ [(i : Int)] := fun h0 => by rw [missTo_succ, h0]; simp
    have skip : isMiss l i = false → ∀ (t : List (Nat × FV)), SlC t [⟨100, some 100, 0, ⟨0, .own, 3, 1, (missTo l i).map intf⟩⟩] [(0, .list 8 (l.map OpV.fv)), (3, .own 100 0 0 (missTo l i).length), (4, .int .i64 (i + 1 : Nat))] →
        ∀ ob, look {} ob 100 = ⟨0, .own, 3, 1, (missTo l i).map intf⟩ → ∃ x', x' ≤ l.length ∧ l.length - x' < l.length - i ∧ FLe ⟨t, ob⟩ ⟨[(0, .list 8 (l.map OpV.fv)), (3, .own 100 0 0 (missTo l x').length), (4, .int .i64 x')], [(100, ⟨0, .own, 3, 1, (missTo l x').map intf⟩)]⟩ := fun h0 t ht ob ho => by
      refine ⟨i + 1, by omega, by omega, ?_⟩
      rw [next0 h0]
      exact FLe.conv [⟨100, some 100, 0, ⟨0, .own, 3, 1, (missTo l i).map intf⟩⟩] (by simp) (by simp) (.old ho (by decide) rfl .nil) ht
    (repeat (first | refine FW.seq ?_ | refine FW.region ?_ | refine FW.block ?_ | refine FW.skip ?_ | refine rn_move rfl rfl rfl ?_ | refine rn_indexL rfl rfl (by first | rfl | exact (Int.toNat_of_nonneg (by omega)).symm) rfl rfl rfl (by first | omega | (simp; omega) | (simp; done)) rfl rfl ?_ | refine rn_fieldE rfl rfl rfl rfl rfl rfl rfl ?_ | refine rn_loadE rfl rfl rfl (by first | omega | (simp; omega) | (simp; done)) (by first | exact getD_map (by omega) | rfl) rfl rfl rfl rfl ?_ | refine rn_neq rfl rfl rfl rfl ?_))
    refine rn_case (fun h1 => ?_) (fun h1 => ?_)
    · (repeat (first | refine FW.region ?_ | refine FW.exit ?_ | refine FW.condT rfl ?_ | refine RunN.nil ?_ | refine rn_assign rfl rfl rfl ?_ | refine rn_move rfl rfl rfl ?_ | refine rn_pickT rfl rfl rfl rfl ?_ | refine rn_add rfl rfl (by omega) rfl rfl ?_ | refine rn_skip rfl rfl ⟨_, _, rfl, rfl, rfl⟩ ?_))
      exact skip (by simp at h1; simp [isMiss, h1]) _ (by repeat (first | exact SlC.nil | refine SlC.cons (.plain rfl rfl (by first | rfl | (simp; done) | (congr 1; omega) | (simp; omega))) ?_ | refine SlC.cons (.own rfl (.head _) rfl (by first | rfl | (simp; done) | (congr 1; omega) | (simp; omega))) ?_)) _ rfl
    · have h3 : (nth l i).k = 3 := by simpa using h1
      (repeat (first | refine RunN.nil ?_ | refine rn_pickF rfl rfl rfl rfl ?_ | refine rn_move rfl rfl ⟨_, _, rfl, rfl, rfl⟩ ?_ | refine rn_indexL rfl rfl (by first | rfl | exact (Int.toNat_of_nonneg (by omega)).symm) rfl rfl rfl (by first | omega | (simp; omega) | (simp; done)) rfl ⟨_, _, rfl, rfl, rfl⟩ ?_ | refine rn_fieldE rfl rfl rfl rfl rfl rfl ⟨_, _, rfl, rfl, rfl⟩ ?_ | refine rn_loadE rfl rfl rfl (by first | omega | (simp; omega) | (simp; done)) (by first | exact getD_map (by omega) | rfl) rfl rfl rfl ⟨_, _, rfl, rfl, rfl⟩ ?_ | refine rn_not rfl rfl ⟨_, _, rfl, rfl, rfl⟩ ?_))
      refine FW.cond rfl (fun h2 => ?_) (fun h2 => ?_)
      · (repeat (first | refine FW.region ?_ | refine FW.exit ?_ | refine RunN.nil ?_ | refine rn_assign rfl rfl rfl ?_ | refine rn_move rfl rfl rfl ?_ | refine rn_add rfl rfl (by omega) rfl rfl ?_))
        exact skip (by simp at h2; simp [isMiss, h2]) _ (by repeat (first | exact SlC.nil | refine SlC.cons (.plain rfl rfl (by first | rfl | (simp; done) | (congr 1; omega) | (simp; omega))) ?_ | refine SlC.cons (.own rfl (.head _) rfl (by first | rfl | (simp; done) | (congr 1; omega) | (simp; omega))) ?_)) _ rfl
      · have hd : (nth l i).done = true := by simpa using h2
        (repeat (first | refine FW.seq ?_ | refine FW.region ?_ | refine FW.block ?_ | refine FW.skip ?_ | refine RunN.nil ?_ | refine rn_assign rfl rfl rfl ?_))
        refine FW.loop (fun k : Nat => ⟨[(0, .list 8 (l.map OpV.fv)), (3, .own 100 0 0 (missTo l i).length), (4, .int .i64 i), (5, .bool (anyDel l (nth l i) k)), (6, .int .i64 k)], [(100, ⟨0, .own, 3, 1, (missTo l i).map intf⟩)]⟩) (fun k => k ≤ l.length) (fun k => l.length - k) 0 (by simp)
          (FLe.conv [⟨100, some 100, 0, ⟨0, .own, 3, 1, (missTo l i).map intf⟩⟩] (by simp) (by simp) (by repeat (first | exact EntsOk.nil | refine EntsOk.old rfl (by decide) (by first | rfl | (simp; done) | (congr 1; omega) | (simp; omega)) ?_)) (by repeat (first | exact SlC.nil | refine SlC.cons (.plain rfl rfl (by first | rfl | (simp; done) | (congr 1; omega) | (simp; omega))) ?_ | refine SlC.cons (.own rfl (.head _) rfl (by first | rfl | (simp; done) | (congr 1; omega) | (simp; omega))) ?_))) ?_
        intro k hk
        (repeat (first | refine FW.seq ?_ | refine FW.region ?_ | refine RunN.nil ?_ | refine rn_move rfl rfl rfl ?_ | refine rn_lenList rfl rfl (by first | exact List.length_map _ | exact (List.length_map _).symm | exact List.length_replicate | rfl | (simp; done) | omega | (simp; omega)) rfl rfl ?_ | refine rn_lss rfl rfl rfl rfl ?_))
        refine FW.cond rfl (fun h => ?_) (fun h => ?_)
        · have hkl : k < l.length := by simpa using h
          clear h
          (repeat (first | refine FW.seq ?_ | refine FW.region ?_ | refine FW.block ?_ | refine FW.skip ?_ | refine rn_move rfl rfl rfl ?_))
          refine rn_call (delivers24_spec l k hkl) (by repeat (first | exact ArgsR.nil | refine ArgsR.cons (by first | exact ArgR.plain rfl rfl) ?_)) rfl rfl ?_
          (repeat (first | refine RunN.nil ?_ | refine rn_assign rfl rfl rfl ?_ | refine FW.draw ?_ | refine rd_move rfl rfl rfl ?_))
          have fin : ∀ b : Bool, b = anyDel l (nth l i) (k + 1) → ∀ (t : List (Nat × FV)), SlC t [⟨100, some 100, 0, ⟨0, .own, 3, 1, (missTo l i).map intf⟩⟩] [(0, .list 8 (l.map OpV.fv)), (3, .own 100 0 0 (missTo l i).length), (4, .int .i64 i), (5, .bool b), (6, .int .i64 (k + 1 : Nat))] →
              ∀ ob, look {} ob 100 = ⟨0, .own, 3, 1, (missTo l i).map intf⟩ → ∃ x', x' ≤ l.length ∧ l.length - x' < l.length - k ∧ FLe ⟨t, ob⟩ ⟨[(0, .list 8 (l.map OpV.fv)), (3, .own 100 0 0 (missTo l i).length), (4, .int .i64 i), (5, .bool (anyDel l (nth l i) x')), (6, .int .i64 x')], [(100, ⟨0, .own, 3, 1, (missTo l i).map intf⟩)]⟩ := fun b hb t ht ob ho => by
            refine ⟨k + 1, by omega, by omega, ?_⟩
            rw [← hb]
            exact FLe.conv [⟨100, some 100, 0, ⟨0, .own, 3, 1, (missTo l i).map intf⟩⟩] (by simp) (by simp) (.old ho (by decide) rfl .nil) ht
          refine rd_case (fun q0 => ?_) (fun q0 => ?_)
          · (repeat (first | refine RunD.nil ?_ | refine rd_assign rfl rfl rfl ?_ | refine rd_pickT rfl rfl rfl rfl ?_ | refine rd_skip rfl rfl ⟨_, _, rfl, rfl, rfl⟩ ?_))
            refine ⟨by kernel_rfl, ?_⟩
            (repeat (first | refine FW.region ?_ | refine RunN.nil ?_ | refine rn_assign rfl rfl rfl ?_ | refine rn_move rfl rfl rfl ?_ | refine rn_add rfl rfl (by omega) rfl rfl ?_))
            exact fin true (by rw [anyDel_succ, q0]; rfl) _ (by repeat (first | exact SlC.nil | refine SlC.cons (.plain rfl rfl (by first | rfl | (simp; done) | (congr 1; omega) | (simp; omega))) ?_ | refine SlC.cons (.own rfl (.head _) rfl (by first | rfl | (simp; done) | (congr 1; omega) | (simp; omega))) ?_)) _ rfl
          · (repeat (first | refine rd_move rfl rfl ⟨_, _, rfl, rfl, rfl⟩ ?_))
            refine rd_case (fun q1 => ?_) (fun q1 => ?_)
            · (repeat (first | refine rd_move rfl rfl ⟨_, _, rfl, rfl, rfl⟩ ?_ | refine rd_indexL rfl rfl (by first | rfl | exact (Int.toNat_of_nonneg (by omega)).symm) rfl rfl rfl (by first | omega | (simp; omega) | (simp; done)) rfl ⟨_, _, rfl, rfl, rfl⟩ ?_ | refine rd_fieldE rfl rfl rfl rfl rfl rfl ⟨_, _, rfl, rfl, rfl⟩ ?_ | refine rd_loadE rfl rfl rfl (by first | omega | (simp; omega) | (simp; done)) (by first | exact getD_map (by omega) | rfl) rfl rfl rfl ⟨_, _, rfl, rfl, rfl⟩ ?_ | refine rd_eql rfl rfl rfl ⟨_, _, rfl, rfl, rfl⟩ ?_ | refine rd_pickT rfl rfl rfl ⟨_, _, rfl, rfl, rfl⟩ ?_))
              refine rd_case (fun q2 => ?_) (fun q2 => ?_)
              · (repeat (first | refine RunD.nil ?_ | refine rd_assign rfl rfl rfl ?_ | refine rd_pickF rfl rfl rfl rfl ?_ | refine rd_move rfl rfl ⟨_, _, rfl, rfl, rfl⟩ ?_ | refine rd_indexL rfl rfl (by first | rfl | exact (Int.toNat_of_nonneg (by omega)).symm) rfl rfl rfl (by first | omega | (simp; omega) | (simp; done)) rfl ⟨_, _, rfl, rfl, rfl⟩ ?_ | refine rd_fieldE rfl rfl rfl rfl rfl rfl ⟨_, _, rfl, rfl, rfl⟩ ?_ | refine rd_loadE rfl rfl rfl (by first | omega | (simp; omega) | (simp; done)) (by first | exact getD_map (by omega) | rfl) rfl rfl rfl ⟨_, _, rfl, rfl, rfl⟩ ?_ | refine rd_eql rfl rfl rfl ⟨_, _, rfl, rfl, rfl⟩ ?_ | refine rd_pickT rfl rfl rfl ⟨_, _, rfl, rfl, rfl⟩ ?_))
                refine ⟨by kernel_rfl, ?_⟩
                (repeat (first | refine FW.region ?_ | refine RunN.nil ?_ | refine rn_assign rfl rfl rfl ?_ | refine rn_move rfl rfl rfl ?_ | refine rn_add rfl rfl (by omega) rfl rfl ?_))
                refine fin _ ?_ _ (by repeat (first | exact SlC.nil | refine SlC.cons (.plain rfl rfl (by first | rfl | (simp; done) | (congr 1; omega) | (simp; omega))) ?_ | refine SlC.cons (.own rfl (.head _) rfl (by first | rfl | (simp; done) | (congr 1; omega) | (simp; omega))) ?_)) _ rfl
                rw [anyDel_succ, q0]
                simp at q2
                simp [delOf, q1, q2]
              · (repeat (first | refine RunD.nil ?_ | refine rd_assign rfl rfl rfl ?_ | refine rd_pickF rfl rfl rfl rfl ?_ | refine rd_pickF rfl rfl rfl ⟨_, _, rfl, rfl, rfl⟩ ?_ | refine rd_skip rfl rfl ⟨_, _, rfl, rfl, rfl⟩ ?_))
                refine ⟨by kernel_rfl, ?_⟩
                (repeat (first | refine FW.region ?_ | refine RunN.nil ?_ | refine rn_assign rfl rfl rfl ?_ | refine rn_move rfl rfl rfl ?_ | refine rn_add rfl rfl (by omega) rfl rfl ?_))
                refine fin _ ?_ _ (by repeat (first | exact SlC.nil | refine SlC.cons (.plain rfl rfl (by first | rfl | (simp; done) | (congr 1; omega) | (simp; omega))) ?_ | refine SlC.cons (.own rfl (.head _) rfl (by first | rfl | (simp; done) | (congr 1; omega) | (simp; omega))) ?_)) _ rfl
                rw [anyDel_succ, q0]
                simp at q2
                simp [delOf, q1, q2]
            · (repeat (first | refine RunD.nil ?_ | refine rd_assign rfl rfl rfl ?_ | refine rd_pickF rfl rfl rfl rfl ?_ | refine rd_move rfl rfl ⟨_, _, rfl, rfl, rfl⟩ ?_ | refine rd_pickF rfl rfl rfl ⟨_, _, rfl, rfl, rfl⟩ ?_ | refine rd_skip rfl rfl ⟨_, _, rfl, rfl, rfl⟩ ?_))
              refine ⟨by kernel_rfl, ?_⟩
              (repeat (first | refine FW.region ?_ | refine RunN.nil ?_ | refine rn_assign rfl rfl rfl ?_ | refine rn_move rfl rfl rfl ?_ | refine rn_add rfl rfl (by omega) rfl rfl ?_))
              refine fin _ ?_ _ (by repeat (first | exact SlC.nil | refine SlC.cons (.plain rfl rfl (by first | rfl | (simp; done) | (congr 1; omega) | (simp; omega))) ?_ | refine SlC.cons (.own rfl (.head _) rfl (by first | rfl | (simp; done) | (congr 1; omega) | (simp; omega))) ?_)) _ rfl
              rw [anyDel_succ, q0]
              simp [delOf, q1]
        · have : k = l.length := by simp at h; omega
          subst this
          (repeat (first | refine FW.seq ?_ | refine FW.region ?_ | refine FW.exit ?_ | refine RunN.nil ?_ | refine rn_move rfl rfl rfl ?_ | refine rn_not rfl rfl rfl ?_))
          refine FW.cond rfl (fun h4 => ?_) (fun h4 => ?_)
          · (repeat (first | refine FW.region ?_ | refine RunN.nil ?_ | refine rn_assign rfl rfl rfl ?_ | refine rn_move rfl rfl rfl ?_ | refine rn_add rfl rfl (by omega) rfl rfl ?_ | refine rn_buildS1 rfl rfl rfl rfl rfl rfl rfl rfl ?_ | refine rn_appO rfl rfl (by first | exact List.length_map _ | exact (List.length_map _).symm | exact List.length_replicate | rfl | (simp; done) | omega | (simp; omega)) rfl rfl rfl (by decide) (by first | exact SrcR.own rfl rfl (by decide) (by first | exact List.length_map _ | exact (List.length_map _).symm | exact List.length_replicate | rfl | (simp; done) | omega | (simp; omega)) | exact SrcR.list rfl | exact SrcR.nil rfl | exact SrcR.part rfl rfl (by decide)) (by first | omega | (simp; omega) | (simp; done)) (by first | omega | (simp; omega) | (simp; done)) rfl rfl rfl ?_))
            refine ⟨i + 1, by omega, by omega, ?_⟩
            rw [next1 (by simp at h4; simp [isMiss, h3, hd, h4]), List.map_append]
            exact (FLe.conv [⟨100, some 72, 1, ⟨0, .own, 3, 1, (missTo l i).map intf ++ [(i : Int)].map intf⟩⟩] (by simp) (by simp) (by repeat (first | exact EntsOk.nil | refine EntsOk.old rfl (by decide) (by first | rfl | (simp; done) | (congr 1; omega) | (simp; omega)) ?_)) (by repeat (first | exact SlC.nil | refine SlC.cons (.plain rfl rfl (by first | rfl | (simp; done) | (congr 1; omega) | (simp; omega))) ?_ | refine SlC.cons (.own rfl (.head _) rfl (by first | rfl | (simp; done) | (congr 1; omega) | (simp; omega))) ?_)))
          · (repeat (first | refine FW.region ?_ | refine FW.skip ?_ | refine RunN.nil ?_ | refine rn_assign rfl rfl rfl ?_ | refine rn_move rfl rfl rfl ?_ | refine rn_add rfl rfl (by omega) rfl rfl ?_))
            exact skip (by simp at h4; simp [isMiss, h4]) _ (by repeat (first | exact SlC.nil | refine SlC.cons (.plain rfl rfl (by first | rfl | (simp; done) | (congr 1; omega) | (simp; omega))) ?_ | refine SlC.cons (.own rfl (.head _) rfl (by first | rfl | (simp; done) | (congr 1; omega) | (simp; omega))) ?_)) _ rfl
  · have : i = l.length := by simp at h; omega
    subst this
    (repeat (first | refine FW.seq ?_ | refine FW.region ?_ | refine FW.exit ?_ | refine RunN.nil ?_ | refine rn_assign rfl rfl rfl ?_ | refine rn_move rfl rfl rfl ?_))
    exact FW.ret ⟨.inl rfl, ret_ow rfl rfl rfl (by simp) (by decide) rfl (intT.flatsM _)⟩
end Go.Proofs.Ythijndjgchbeoaa
