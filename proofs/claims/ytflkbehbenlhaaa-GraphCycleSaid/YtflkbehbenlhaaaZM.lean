/-
  Some texts as one: FmRef03, TopoRef, FmWalks.
-/
import Derived.Test.YtflkbehbenlhaaaZG
import Derived.Test.YtflkbehbenlhaaaZK
import Derived.Test.YtflkbehbenlhaaaZL
import Derived.Test.YtflkbehbenlhaaaZJ
/-
  The graphs of layer 3 and what its reference asks of them.
-/
namespace Go.Proofs.Ytflkbehbenlhaaa
set_option linter.unusedVariables false
open Go.RowKit

def mkE (n : Nat) (x : Int) : Nat × Nat := ((around x 1000000).toNat % n, (around x 1000000).toNat / 97 % n)
def rEdges (n : Nat) (l : List Int) : List (Nat × Nat) := if n = 0 then [] else (l.take 18).map (mkE n)
theorem rEdges_in (n : Nat) (l : List Int) : InN n (rEdges n l) := fun e he => by
  unfold rEdges at he
  split at he
  · cases he
  · obtain ⟨x, _, rfl⟩ := List.mem_map.1 he
    exact ⟨Nat.mod_lt _ (by omega), Nat.mod_lt _ (by omega)⟩
theorem rEdges_len (n : Nat) (l : List Int) : (rEdges n l).length ≤ 18 := by
  unfold rEdges
  split
  · simp
  · rw [List.length_map, List.length_take]; omega
theorem edf_flats (E : List (Nat × Nat)) : ∀ e ∈ E.map edf, FV.flat.flats e = true := fun e he => by
  obtain ⟨q, _, rfl⟩ := List.mem_map.1 he; rfl
set_option maxHeartbeats 4000000 in
theorem rEdges_spec (n : Nat) (l : List Int) (hn : n ≤ 1000) (hl : l.length ≤ 9223372036854775807) (hI : ∀ x ∈ l, I64 x) : Spec Try.prog 34 [.int .i64 n, .list 1 (l.map intf)] (.ow 60 2) (.list 2 ((rEdges n l).map edf)) := by
  refine Spec.of_body (c := (cxOf Try.prog tyAt_ok mixed_ok 39)) ⟨Try.func34, rfl, Try.ntmps34, by kernel_rfl⟩ (by simp [FV.hand]) (by exact Nat.le_of_ble_eq_true rfl) rfl ?_
  change FW _ _ _ ⟨[(0, .int .i64 n), (1, .list 1 (l.map intf))], []⟩
  (repeat (first | refine FW.seq ?_ | refine FW.region ?_ | refine FW.block ?_ | refine RunN.nil ?_ | refine rn_assign rfl rfl rfl ?_))
  refine FW.loop (fun i : Nat => ⟨[(0, .int .i64 n), (1, .list 1 (l.map intf)), (5, .own 100 0 0 i), (6, .int .i64 i)], [(100, ⟨0, .own, 60, 2, ((l.take i).map (mkE n)).map edf⟩)]⟩) (fun i => i ≤ l.length ∧ i ≤ 18 ∧ (0 < i → 0 < n)) (fun i => 18 - i) 0 ⟨by omega, by omega, by omega⟩ (FLe.conv [⟨100, none, 0, ⟨0, .own, 60, 2, []⟩⟩] (by simp) (by simp) rfl (by repeat (first | exact GhOk.nil | refine GhOk.low rfl ?_ | refine GhOk.same rfl ?_ | refine GhOk.bump (Nat.lt_succ_self _) ?_)) (by repeat (first | exact EntsOk.nil | refine EntsOk.new ?_)) (by repeat (first | exact SlC.nil | refine SlC.cons (.plain rfl rfl (by first | rfl | (simp; done) | (congr 1; omega) | (simp; omega) | (simp [List.take_of_length_le]; done) | (refine congrArg (FV.int .i64) ?_; omega))) ?_ | refine SlC.cons (.nil rfl (.head _) rfl) ?_))) ?_
  rintro i ⟨hi, hi18, hin⟩
  have hend : (i < l.length → i < 18 → ¬ 0 < n) → (l.take i).map (mkE n) = rEdges n l := fun hc => by
    unfold rEdges
    by_cases h0 : n = 0
    · rw [if_pos h0]
      have : i = 0 := by
        rcases Nat.eq_zero_or_pos i with h | h
        · exact h
        · have := hin h; omega
      subst this; rfl
    · rw [if_neg h0]
      congr 1
      rcases Nat.lt_or_ge i l.length with h1 | h1
      · rcases Nat.lt_or_ge i 18 with h2 | h2
        · exact absurd (by omega) (hc h1 h2)
        · rw [show i = 18 by omega]
      · rw [List.take_of_length_le h1, List.take_of_length_le (by omega)]
  (repeat (first | refine FW.seq ?_ | refine FW.region ?_ | refine rn_move rfl rfl rfl ?_ | refine rn_lenList rfl rfl (by first | exact List.length_map _ | exact (List.length_map _).symm | exact List.length_replicate | rfl | (simp; done) | omega | (simp; omega)) rfl rfl ?_ | refine rn_lss rfl rfl rfl rfl ?_))
  refine rn_case (fun h1 => ?_) (fun h1 => ?_)
  · (repeat (first | refine rn_move rfl rfl rfl ?_ | refine rn_pickT rfl rfl rfl rfl ?_ | refine rn_move rfl rfl ⟨_, _, rfl, rfl, rfl⟩ ?_ | refine rn_lss rfl rfl rfl ⟨_, _, rfl, rfl, rfl⟩ ?_))
    refine rn_case (fun h2 => ?_) (fun h2 => ?_)
    · (repeat (first | refine RunN.nil ?_ | refine rn_pickT rfl rfl rfl rfl ?_ | refine rn_move rfl rfl ⟨_, _, rfl, rfl, rfl⟩ ?_ | refine rn_gtr rfl rfl rfl ⟨_, _, rfl, rfl, rfl⟩ ?_))
      refine FW.cond rfl (fun h3 => ?_) (fun h3 => ?_)
      · have hlt : i < l.length := by simpa using h1
        have hlt2 : i < 18 := by simp at h2; omega
        have hn0 : 0 < n := by simpa using h3
        clear h1 h2 h3 hend
        have hst : (l.take (i + 1)).map (mkE n) = (l.take i).map (mkE n) ++ [mkE n (nth l i)] := by
          rw [List.take_succ_eq_append_getElem hlt, List.map_append, nth_eq hlt]; rfl
        have hxi := hI _ (nth_mem hlt)
        have ha1 := around_lo (n := nth l i) (most := 1000000) (by omega)
        have ha2 := around_hi (n := nth l i) (most := 1000000) (by omega)
        (repeat (first | refine FW.seq ?_ | refine FW.region ?_ | refine FW.block ?_ | refine FW.skip ?_ | refine rn_move rfl rfl rfl ?_ | refine rn_indexL rfl rfl (by first | rfl | exact (Int.toNat_of_nonneg (by omega)).symm) rfl rfl rfl (by first | omega | (simp; omega) | (simp; done)) rfl rfl ?_ | refine rn_loadE rfl rfl rfl (by first | omega | (simp; omega) | (simp; done)) (by first | exact getD_map (by omega) | rfl) rfl rfl rfl rfl ?_))
        refine rn_call (around_spec (nth l i) 1000000 hxi (by omega) (by omega)) (by repeat (first | exact ArgsR.nil | refine ArgsR.cons (by first | exact ArgR.plain rfl rfl) ?_)) rfl rfl ?_
        obtain ⟨k, hk⟩ : ∃ k : Nat, around (nth l i) 1000000 = k := ⟨(around (nth l i) 1000000).toNat, by omega⟩
        have e1 : ([FV.int .i64 ((k : Int) % n), FV.int .i64 ((k : Int) / 97 % n)] : List FV) = edf (mkE n (nth l i)) := by simp [mkE, edf, hk]
        rw [hk] at ha1 ha2 ⊢
        (repeat (first | refine RunN.nil ?_ | refine rn_assign rfl rfl rfl ?_ | refine FW.draw ?_ | refine RunD.nil ?_ | refine rd_assign rfl rfl rfl ?_ | refine rd_move rfl rfl rfl ?_ | refine rd_appO rfl rfl (by first | exact List.length_map _ | exact (List.length_map _).symm | exact List.length_replicate | rfl | (simp; done) | omega | (simp; omega)) rfl rfl rfl (by decide) (by first | exact SrcR.own rfl rfl (by decide) (by first | exact List.length_map _ | exact (List.length_map _).symm | exact List.length_replicate | rfl | (simp; done) | omega | (simp; omega)) | exact SrcR.list rfl | exact SrcR.nil rfl | exact SrcR.part rfl rfl (by decide)) (by first | omega | (simp; omega) | (simp; done)) (by first | omega | (simp; omega) | (simp; done)) rfl rfl rfl ?_ | refine rd_rem rfl rfl (by omega) rfl rfl ?_ | refine rd_quo rfl rfl (by omega) rfl rfl ?_ | refine rd_buildA2 rfl rfl rfl rfl rfl rfl rfl rfl rfl ?_ | refine rd_buildS1A rfl rfl rfl rfl rfl rfl rfl rfl rfl rfl ?_))
        rw [e1]
        refine ⟨by kernel_rfl, ?_⟩
        have hst2 : ((l.take i).map (mkE n)).map edf ++ [edf (mkE n (nth l i))] = ((l.take (i + 1)).map (mkE n)).map edf := by rw [hst, List.map_append]; rfl
        have hsl : (((l.take (i + 1)).map (mkE n)).map edf).length = i + 1 := by simp; omega
        rw [hst2, hsl]
        (repeat (first | refine FW.region ?_ | refine RunN.nil ?_ | refine rn_assign rfl rfl rfl ?_ | refine rn_move rfl rfl rfl ?_ | refine rn_add rfl rfl (by omega) rfl rfl ?_))
        refine ⟨i + 1, ⟨by omega, by omega, fun _ => hn0⟩, by omega, ?_⟩
        exact (FLe.conv [⟨100, some 37, 0 + 1, ⟨0, .own, 60, 2, ((l.take (i + 1)).map (mkE n)).map edf⟩⟩] (by simp) (by simp) rfl (by repeat (first | exact GhOk.nil | refine GhOk.low rfl ?_ | refine GhOk.same rfl ?_ | refine GhOk.bump (Nat.lt_succ_self _) ?_)) (by repeat (first | exact EntsOk.nil | refine EntsOk.old rfl (by decide) (by first | rfl | (simp; done) | (congr 1; omega) | (simp; omega) | (simp [List.take_of_length_le]; done) | (refine congrArg (FV.int .i64) ?_; omega)) ?_)) (by repeat (first | exact SlC.nil | refine SlC.cons (.plain rfl rfl (by first | rfl | (simp; done) | (congr 1; omega) | (simp; omega) | (simp [List.take_of_length_le]; done) | (refine congrArg (FV.int .i64) ?_; omega))) ?_ | refine SlC.cons (.own rfl (.head _) rfl (by first | rfl | (simp; done) | (congr 1; omega) | (simp; omega) | (simp [List.take_of_length_le]; done) | (refine congrArg (FV.int .i64) ?_; omega))) ?_)))
      · have h3' : ¬ 0 < n := by simpa using h3
        (repeat (first | refine FW.seq ?_ | refine FW.region ?_ | refine FW.exit ?_ | refine RunN.nil ?_ | refine rn_assign rfl rfl rfl ?_ | refine rn_move rfl rfl rfl ?_))
        exact FW.ret ⟨.inl rfl, ret_ow rfl rfl rfl (by simp; omega) (by decide) (by rw [hend (fun q1 q2 q3 => h3' q3)]) (edf_flats _)⟩
    · have h2' : ¬ i < 18 := by simp at h2; omega
      (repeat (first | refine FW.seq ?_ | refine FW.region ?_ | refine FW.exit ?_ | refine FW.condF rfl ?_ | refine RunN.nil ?_ | refine rn_assign rfl rfl rfl ?_ | refine rn_move rfl rfl rfl ?_ | refine rn_pickF rfl rfl rfl rfl ?_ | refine rn_skip rfl rfl ⟨_, _, rfl, rfl, rfl⟩ ?_))
      exact FW.ret ⟨.inl rfl, ret_ow rfl rfl rfl (by simp; omega) (by decide) (by rw [hend (fun q1 q2 q3 => h2' q2)]) (edf_flats _)⟩
  · have h1' : ¬ i < l.length := by simpa using h1
    (repeat (first | refine FW.seq ?_ | refine FW.region ?_ | refine FW.exit ?_ | refine FW.condF rfl ?_ | refine RunN.nil ?_ | refine rn_assign rfl rfl rfl ?_ | refine rn_move rfl rfl rfl ?_ | refine rn_pickF rfl rfl rfl rfl ?_ | refine rn_skip rfl rfl ⟨_, _, rfl, rfl, rfl⟩ ?_))
    exact FW.ret ⟨.inl rfl, ret_ow rfl rfl rfl (by simp; omega) (by decide) (by rw [hend (fun q1 q2 q3 => h1' q1)]) (edf_flats _)⟩
def leadsB (E : List (Nat × Nat)) (a b : Int) : Bool := E.any fun e => decide ((e.1 : Int) = a) && decide ((e.2 : Int) = b)
set_option maxHeartbeats 4000000 in
theorem leads_spec (E : List (Nat × Nat)) (a b : Int) (hE : E.length ≤ 1000000) : Spec Try.prog 91 [.list 2 (E.map edf), .int .i64 a, .int .i64 b] .fr (.bool (leadsB E a b)) := by
  refine Spec.of_body (c := (cxOf Try.prog tyAt_ok mixed_ok 30)) ⟨Try.func91, rfl, Try.ntmps91, by kernel_rfl⟩ (by simp [FV.hand]) (by exact Nat.le_of_ble_eq_true rfl) rfl ?_
  change FW _ _ _ ⟨[(0, .list 2 (E.map edf)), (1, .int .i64 a), (2, .int .i64 b)], []⟩
  (repeat (first | refine FW.seq ?_ | refine FW.region ?_ | refine FW.block ?_ | refine RunN.nil ?_ | refine rn_assign rfl rfl rfl ?_))
  refine FW.loop (fun i : Nat => ⟨[(0, .list 2 (E.map edf)), (1, .int .i64 a), (2, .int .i64 b), (7, .int .i64 i)], []⟩) (fun i => i ≤ E.length ∧ leadsB (E.take i) a b = false) (fun i => E.length - i) 0 ⟨Nat.zero_le _, rfl⟩ (FLe.conv [] (by simp) (by simp) rfl (by repeat (first | exact GhOk.nil | refine GhOk.low rfl ?_ | refine GhOk.same rfl ?_ | refine GhOk.bump (Nat.lt_succ_self _) ?_)) (by repeat (first | exact EntsOk.nil)) (by repeat (first | exact SlC.nil | refine SlC.cons (.plain rfl rfl (by first | rfl | (simp; done) | (congr 1; omega) | (simp; omega) | (simp [List.take_of_length_le]; done) | (refine congrArg (FV.int .i64) ?_; omega))) ?_))) ?_
  rintro i ⟨hi, hno⟩
  (repeat (first | refine FW.seq ?_ | refine FW.region ?_ | refine RunN.nil ?_ | refine rn_move rfl rfl rfl ?_ | refine rn_lenList rfl rfl (by first | exact List.length_map _ | exact (List.length_map _).symm | exact List.length_replicate | rfl | (simp; done) | omega | (simp; omega)) rfl rfl ?_ | refine rn_lss rfl rfl rfl rfl ?_))
  refine FW.cond rfl (fun h => ?_) (fun h => ?_)
  · have hlt : i < E.length := by simpa using h
    clear h
    have hst : leadsB (E.take (i + 1)) a b = (decide (((nth E i).1 : Int) = a) && decide (((nth E i).2 : Int) = b)) := by
      unfold leadsB at hno ⊢
      rw [List.take_succ_eq_append_getElem hlt, List.any_append, hno, ← nth_eq hlt]
      simp
    obtain ⟨⟨x, y⟩, he⟩ : ∃ e, nth E i = e := ⟨_, rfl⟩
    rw [he] at hst
    (repeat (first | refine FW.seq ?_ | refine FW.region ?_ | refine FW.block ?_ | refine FW.skip ?_ | refine rn_move rfl rfl rfl ?_ | refine rn_indexL rfl rfl (by first | rfl | exact (Int.toNat_of_nonneg (by omega)).symm) rfl rfl rfl (by first | omega | (simp; omega) | (simp; done)) rfl rfl ?_ | refine rn_indexAE rfl rfl (by first | rfl | exact (Int.toNat_of_nonneg (by omega)).symm) rfl rfl rfl (by first | omega | (simp; omega) | (simp; done)) rfl rfl ?_ | refine rn_loadE rfl rfl rfl (by first | omega | (simp; omega) | (simp; done)) (by first | exact getD_map (by omega) | rfl) rfl rfl rfl rfl ?_ | refine rn_eql rfl rfl rfl rfl ?_))
    rw [he]
    skip
    refine rn_case (fun h1 => ?_) (fun h1 => ?_)
    · (repeat (first | refine RunN.nil ?_ | refine rn_pickT rfl rfl rfl rfl ?_ | refine rn_move rfl rfl ⟨_, _, rfl, rfl, rfl⟩ ?_ | refine rn_indexL rfl rfl (by first | rfl | exact (Int.toNat_of_nonneg (by omega)).symm) rfl rfl rfl (by first | omega | (simp; omega) | (simp; done)) rfl ⟨_, _, rfl, rfl, rfl⟩ ?_ | refine rn_indexAE rfl rfl (by first | rfl | exact (Int.toNat_of_nonneg (by omega)).symm) rfl rfl rfl (by first | omega | (simp; omega) | (simp; done)) rfl ⟨_, _, rfl, rfl, rfl⟩ ?_ | refine rn_loadE rfl rfl rfl (by first | omega | (simp; omega) | (simp; done)) (by first | exact getD_map (by omega) | rfl) rfl rfl rfl ⟨_, _, rfl, rfl, rfl⟩ ?_ | refine rn_eql rfl rfl rfl ⟨_, _, rfl, rfl, rfl⟩ ?_))
      rw [he]
      skip
      refine FW.cond rfl (fun h2 => ?_) (fun h2 => ?_)
      · (repeat (first | refine FW.seq ?_ | refine FW.region ?_ | refine RunN.nil ?_ | refine rn_assign rfl rfl rfl ?_))
        have : leadsB E a b = true := by
          unfold leadsB
          refine List.any_eq_true.2 ⟨nth E i, nth_mem hlt, ?_⟩
          rw [he]
          simp at h1 h2
          simp [h1, h2]
        exact FW.ret ⟨.inl rfl, ret_flat rfl rfl (by rw [this]; rfl) rfl⟩
      · (repeat (first | refine FW.region ?_ | refine FW.skip ?_ | refine RunN.nil ?_ | refine rn_assign rfl rfl rfl ?_ | refine rn_move rfl rfl rfl ?_ | refine rn_add rfl rfl (by omega) rfl rfl ?_))
        refine ⟨i + 1, ⟨by omega, ?_⟩, by omega, (FLe.conv [] (by simp) (by simp) rfl (by repeat (first | exact GhOk.nil | refine GhOk.low rfl ?_ | refine GhOk.same rfl ?_ | refine GhOk.bump (Nat.lt_succ_self _) ?_)) (by repeat (first | exact EntsOk.nil)) (by repeat (first | exact SlC.nil | refine SlC.cons (.plain rfl rfl (by first | rfl | (simp; done) | (congr 1; omega) | (simp; omega) | (simp [List.take_of_length_le]; done) | (refine congrArg (FV.int .i64) ?_; omega))) ?_)))⟩
        rw [hst]
        simp at h2
        simp [h2]
    · (repeat (first | refine FW.region ?_ | refine FW.skip ?_ | refine FW.condF rfl ?_ | refine RunN.nil ?_ | refine rn_assign rfl rfl rfl ?_ | refine rn_move rfl rfl rfl ?_ | refine rn_pickF rfl rfl rfl rfl ?_ | refine rn_add rfl rfl (by omega) rfl rfl ?_ | refine rn_skip rfl rfl ⟨_, _, rfl, rfl, rfl⟩ ?_))
      refine ⟨i + 1, ⟨by omega, ?_⟩, by omega, (FLe.conv [] (by simp) (by simp) rfl (by repeat (first | exact GhOk.nil | refine GhOk.low rfl ?_ | refine GhOk.same rfl ?_ | refine GhOk.bump (Nat.lt_succ_self _) ?_)) (by repeat (first | exact EntsOk.nil)) (by repeat (first | exact SlC.nil | refine SlC.cons (.plain rfl rfl (by first | rfl | (simp; done) | (congr 1; omega) | (simp; omega) | (simp [List.take_of_length_le]; done) | (refine congrArg (FV.int .i64) ?_; omega))) ?_)))⟩
      rw [hst]
      simp at h1
      simp [h1]
  · have hi : i = E.length := by simp at h; omega
    subst hi
    rw [List.take_length] at hno
    (repeat (first | refine FW.seq ?_ | refine FW.region ?_ | refine FW.exit ?_ | refine RunN.nil ?_ | refine rn_assign rfl rfl rfl ?_))
    exact FW.ret ⟨.inl rfl, ret_flat rfl rfl (by rw [hno]; rfl) rfl⟩
def ordE (e : Nat × Nat) : Nat × Nat := (min e.1 e.2, max e.1 e.2)
def fwdTo (E : List (Nat × Nat)) : Nat → List (Nat × Nat)
  | 0 => E
  | k + 1 => if k % 7 = 6 then fwdTo E k else (fwdTo E k).set k (ordE (nth (fwdTo E k) k))
theorem fwdTo_len (E : List (Nat × Nat)) : ∀ k, (fwdTo E k).length = E.length
  | 0 => rfl
  | k + 1 => by
    unfold fwdTo
    split
    · exact fwdTo_len E k
    · rw [List.length_set]; exact fwdTo_len E k
def rForward (n : Nat) (l : List Int) : List (Nat × Nat) := fwdTo (rEdges n l) (rEdges n l).length
theorem fwdTo_in {n : Nat} {E : List (Nat × Nat)} (h : InN n E) : ∀ k, InN n (fwdTo E k)
  | 0 => h
  | k + 1 => by
    have ih := fwdTo_in h k
    unfold fwdTo
    split
    · exact ih
    · intro e he
      rcases List.mem_or_eq_of_mem_set he with h1 | h1
      · exact ih e h1
      · subst h1
        rcases Nat.lt_or_ge k (fwdTo E k).length with hk | hk
        · have := ih _ (nth_mem hk)
          unfold ordE
          dsimp only
          omega
        · rw [List.set_eq_of_length_le hk] at he
          exact ih _ he
set_option maxHeartbeats 4000000 in
theorem rForward_spec (n : Nat) (l : List Int) (hn : n ≤ 1000) (hl : l.length ≤ 9223372036854775807) (hI : ∀ x ∈ l, I64 x) : Spec Try.prog 35 [.int .i64 n, .list 1 (l.map intf)] (.ow 60 2) (.list 2 ((rForward n l).map edf)) := by
  refine Spec.of_body (c := (cxOf Try.prog tyAt_ok mixed_ok 46)) ⟨Try.func35, rfl, Try.ntmps35, by kernel_rfl⟩ (by simp [FV.hand]) (by exact Nat.le_of_ble_eq_true rfl) rfl ?_
  change FW _ _ _ ⟨[(0, .int .i64 n), (1, .list 1 (l.map intf))], []⟩
  (repeat (first | refine FW.seq ?_ | refine FW.region ?_ | refine RunN.nil ?_ | refine rn_assign rfl rfl rfl ?_ | refine rn_move rfl rfl rfl ?_))
  refine rn_callO (rEdges_spec n l hn hl hI) (by repeat (first | exact ArgsR.nil | refine ArgsR.cons (by first | exact ArgR.plain rfl rfl) ?_)) (List.length_map _) rfl rfl rfl ?_
  have hEl := rEdges_len n l
  have hR : rForward n l = fwdTo (rEdges n l) (rEdges n l).length := rfl
  generalize rEdges n l = E at hEl hR
  rw [hR]
  (repeat (first | refine FW.seq ?_ | refine FW.region ?_ | refine FW.block ?_ | refine RunN.nil ?_ | refine rn_assign rfl rfl rfl ?_))
  refine FW.loop (fun i : Nat => ⟨[(5, .own 100 0 0 E.length), (6, .int .i64 i)], [(100, ⟨0, .own, 60, 2, (fwdTo E i).map edf⟩)]⟩) (fun i => i ≤ E.length) (fun i => E.length - i) 0 (Nat.zero_le _) ?_ ?_
  · show FLe _ ⟨[(5, .own 100 0 0 E.length), (6, .int .i64 0)], [(100, ⟨0, .own, 60, 2, E.map edf⟩)]⟩
    exact (FLe.conv [⟨100, some 9, 0 + 1, ⟨0, .own, 60, 2, E.map edf⟩⟩] (by simp) (by simp) rfl (by repeat (first | exact GhOk.nil | refine GhOk.low rfl ?_ | refine GhOk.same rfl ?_ | refine GhOk.bump (Nat.lt_succ_self _) ?_)) (by repeat (first | exact EntsOk.nil | refine EntsOk.old rfl (by decide) (by first | rfl | (simp; done) | (congr 1; omega) | (simp; omega) | (simp [List.take_of_length_le]; done) | (refine congrArg (FV.int .i64) ?_; omega)) ?_)) (by repeat (first | exact SlC.nil | refine SlC.cons (.plain rfl rfl (by first | rfl | (simp; done) | (congr 1; omega) | (simp; omega) | (simp [List.take_of_length_le]; done) | (refine congrArg (FV.int .i64) ?_; omega))) ?_ | refine SlC.cons (.own rfl (.head _) rfl (by first | rfl | (simp; done) | (congr 1; omega) | (simp; omega) | (simp [List.take_of_length_le]; done) | (refine congrArg (FV.int .i64) ?_; omega))) ?_)))
  intro i hi
  have hfl := fwdTo_len E i
  have hst : fwdTo E (i + 1) = if i % 7 = 6 then fwdTo E i else (fwdTo E i).set i (ordE (nth (fwdTo E i) i)) := rfl
  obtain ⟨Z, hZ⟩ : ∃ Z, fwdTo E i = Z := ⟨_, rfl⟩
  rw [hZ] at hst hfl ⊢
  (repeat (first | refine FW.seq ?_ | refine FW.region ?_ | refine RunN.nil ?_ | refine rn_move rfl rfl rfl ?_ | refine rn_lenOwn rfl rfl rfl (by decide) rfl rfl ?_ | refine rn_lss rfl rfl rfl rfl ?_))
  refine FW.cond rfl (fun h => ?_) (fun h => ?_)
  · have hlt : i < E.length := by simpa using h
    clear h
    (repeat (first | refine FW.seq ?_ | refine FW.region ?_ | refine FW.block ?_ | refine FW.skip ?_ | refine RunN.nil ?_ | refine rn_move rfl rfl rfl ?_ | refine rn_rem rfl rfl (by omega) rfl rfl ?_ | refine rn_neq rfl rfl rfl rfl ?_))
    refine FW.cond rfl (fun h => ?_) (fun h => ?_)
    · rw [if_neg (by simp at h; omega)] at hst
      (repeat (first | refine FW.draw ?_ | refine RunD.nil ?_ | refine rd_move rfl rfl rfl ?_ | refine rd_min rfl rfl rfl rfl ?_ | refine rd_max rfl rfl rfl rfl ?_ | refine rd_indexO rfl rfl (by first | rfl | exact (Int.toNat_of_nonneg (by omega)).symm) rfl rfl rfl (by decide) rfl (by first | omega | (simp; omega) | (simp; done)) rfl rfl ?_ | refine rd_indexAP rfl rfl (by first | rfl | exact (Int.toNat_of_nonneg (by omega)).symm) rfl rfl rfl rfl (by decide) (by first | omega | (simp; omega) | (simp; done)) rfl rfl ?_ | refine rd_loadP rfl rfl rfl rfl rfl (by first | omega | (simp; omega) | (simp; done)) (by first | exact getD_map (by omega) | rfl) rfl rfl rfl rfl ?_ | refine rd_buildA2 rfl rfl rfl rfl rfl rfl rfl rfl rfl ?_ | refine rd_storeRA rfl rfl rfl rfl rfl rfl (by first | omega | (simp; omega) | (simp; done)) (by first | exact getD_map (by omega) | rfl) rfl rfl rfl ?_))
      refine ⟨by kernel_rfl, ?_⟩
      (repeat (first | refine FW.region ?_ | refine RunN.nil ?_ | refine rn_assign rfl rfl rfl ?_ | refine rn_move rfl rfl rfl ?_ | refine rn_add rfl rfl (by omega) rfl rfl ?_))
      refine ⟨i + 1, by omega, by omega, ?_⟩
      rw [hst, List.map_set]
      have e : ([FV.int .i64 (min ((nth Z i).1 : Int) (nth Z i).2), FV.int .i64 (max ((nth Z i).1 : Int) (nth Z i).2)] : List FV) = edf (ordE (nth Z i)) := by
        show _ = [FV.int .i64 ((min (nth Z i).1 (nth Z i).2 : Nat) : Int), FV.int .i64 ((max (nth Z i).1 (nth Z i).2 : Nat) : Int)]
        rw [show ((min (nth Z i).1 (nth Z i).2 : Nat) : Int) = min ((nth Z i).1 : Int) (nth Z i).2 by omega, show ((max (nth Z i).1 (nth Z i).2 : Nat) : Int) = max ((nth Z i).1 : Int) (nth Z i).2 by omega]
      rw [e]
      obtain ⟨Y, hY⟩ : ∃ Y, (Z.map edf).set i (edf (ordE (nth Z i))) = Y := ⟨_, rfl⟩
      rw [hY]
      exact (FLe.conv [⟨100, some 100, 0, ⟨0, .own, 60, 2, Y⟩⟩] (by simp) (by simp) rfl (by repeat (first | exact GhOk.nil | refine GhOk.low rfl ?_ | refine GhOk.same rfl ?_ | refine GhOk.bump (Nat.lt_succ_self _) ?_)) (by repeat (first | exact EntsOk.nil | refine EntsOk.old rfl (by decide) (by first | rfl | (simp; done) | (congr 1; omega) | (simp; omega) | (simp [List.take_of_length_le]; done) | (refine congrArg (FV.int .i64) ?_; omega)) ?_)) (by repeat (first | exact SlC.nil | refine SlC.cons (.plain rfl rfl (by first | rfl | (simp; done) | (congr 1; omega) | (simp; omega) | (simp [List.take_of_length_le]; done) | (refine congrArg (FV.int .i64) ?_; omega))) ?_ | refine SlC.cons (.own rfl (.head _) rfl (by first | rfl | (simp; done) | (congr 1; omega) | (simp; omega) | (simp [List.take_of_length_le]; done) | (refine congrArg (FV.int .i64) ?_; omega))) ?_)))
    · rw [if_pos (by simp at h; omega)] at hst
      (repeat (first | refine FW.region ?_ | refine FW.skip ?_ | refine RunN.nil ?_ | refine rn_assign rfl rfl rfl ?_ | refine rn_move rfl rfl rfl ?_ | refine rn_add rfl rfl (by omega) rfl rfl ?_))
      refine ⟨i + 1, by omega, by omega, ?_⟩
      rw [hst]
      exact (FLe.conv [⟨100, some 100, 0, ⟨0, .own, 60, 2, Z.map edf⟩⟩] (by simp) (by simp) rfl (by repeat (first | exact GhOk.nil | refine GhOk.low rfl ?_ | refine GhOk.same rfl ?_ | refine GhOk.bump (Nat.lt_succ_self _) ?_)) (by repeat (first | exact EntsOk.nil | refine EntsOk.old rfl (by decide) (by first | rfl | (simp; done) | (congr 1; omega) | (simp; omega) | (simp [List.take_of_length_le]; done) | (refine congrArg (FV.int .i64) ?_; omega)) ?_)) (by repeat (first | exact SlC.nil | refine SlC.cons (.plain rfl rfl (by first | rfl | (simp; done) | (congr 1; omega) | (simp; omega) | (simp [List.take_of_length_le]; done) | (refine congrArg (FV.int .i64) ?_; omega))) ?_ | refine SlC.cons (.own rfl (.head _) rfl (by first | rfl | (simp; done) | (congr 1; omega) | (simp; omega) | (simp [List.take_of_length_le]; done) | (refine congrArg (FV.int .i64) ?_; omega))) ?_)))
  · have hi : i = E.length := by simp at h; omega
    subst hi
    (repeat (first | refine FW.seq ?_ | refine FW.region ?_ | refine FW.exit ?_ | refine RunN.nil ?_ | refine rn_assign rfl rfl rfl ?_ | refine rn_move rfl rfl rfl ?_))
    exact FW.ret ⟨.inl rfl, ret_ow rfl rfl rfl (by simp; omega) (by decide) (by rw [hZ]) (edf_flats _)⟩
def readyB (E : List (Nat × Nat)) (v : Int) (out : List Int) : Bool := E.all fun e => !decide ((e.2 : Int) = v) || hasB out e.1
def lstK (p : Nat → Bool) (n : Nat) : Nat → Int
  | 0 => -1
  | k + 1 => if p (n - (k + 1)) = true then ((n - (k + 1) : Nat) : Int) else lstK p n k
def nextB (E : List (Nat × Nat)) (out : List Int) (v : Nat) : Bool := !hasB out v && readyB E v out
def rtK (E : List (Nat × Nat)) (n : Nat) : Nat → List Int → Option (List Int)
  | 0, out => some out
  | k + 1, out => if lstK (nextB E out) n n < 0 then none else rtK E n k (out ++ [lstK (nextB E out) n n])
def resT : Option (List Int) → FV
  | none => .tup [.list 1 [], .bool false]
  | some l => .tup [.list 1 (l.map intf), .bool true]
end Go.Proofs.Ytflkbehbenlhaaa
/-
  graph.Topo and the reference take the same vertices in the same order.
-/
namespace Go.Proofs.Ytflkbehbenlhaaa
set_option linter.unusedVariables false

theorem lstK_spec (p : Nat → Bool) (n : Nat) : ∀ k, k ≤ n → (lstK p n k = -1 ∧ ∀ v, n - k ≤ v → v < n → p v = false) ∨ ∃ v, lstK p n k = (v : Nat) ∧ n - k ≤ v ∧ v < n ∧ p v = true ∧ ∀ u, n - k ≤ u → u < v → p u = false
  | 0, _ => .inl ⟨rfl, fun v h1 h2 => by omega⟩
  | k + 1, hk => by
    have ih := lstK_spec p n k (by omega)
    unfold lstK
    by_cases hp : p (n - (k + 1)) = true
    · rw [if_pos hp]
      exact .inr ⟨_, rfl, Nat.le_refl _, by omega, hp, fun u h1 h2 => by omega⟩
    · rw [if_neg hp]
      have hp' : p (n - (k + 1)) = false := by simpa using hp
      rcases ih with ⟨e, h⟩ | ⟨v, e, h1, h2, h3, h4⟩
      · refine .inl ⟨e, fun v q1 q2 => ?_⟩
        by_cases hv : v = n - (k + 1)
        · subst hv; exact hp'
        · exact h v (by omega) q2
      · refine .inr ⟨v, e, by omega, h2, h3, fun u q1 q2 => ?_⟩
        by_cases hv : u = n - (k + 1)
        · subst hv; exact hp'
        · exact h4 u (by omega) q2
theorem ready_cnt {n : Nat} {E : List (Nat × Nat)} (h : InN n E) (out : List Int) (v : Nat) : readyB E v out = true ↔ cntP n E out v = 0 := by
  unfold readyB cntP
  rw [List.all_eq_true, List.countP_eq_zero]
  constructor
  · intro hr u hu hc
    simp only [Bool.and_eq_true, decide_eq_true_eq] at hc
    obtain ⟨e, he, h1, h2⟩ := succs_mem.1 hc.2
    have := hr e he
    subst h1
    have h3 : ((e.2 : Nat) : Int) = (v : Int) := h2
    rw [h3] at this
    unfold hasB at this
    simp at this
    exact hc.1 this
  · intro hc e he
    have hin := h e he
    by_cases hv : ((e.2 : Nat) : Int) = v
    · have := hc e.1 (List.mem_range.2 hin.1)
      simp only [Bool.and_eq_true, decide_eq_true_eq, not_and] at this
      unfold hasB
      by_cases hm : ((e.1 : Nat) : Int) ∈ out
      · simp [hm]
      · exact absurd (succs_mem.2 ⟨e, he, rfl, hv⟩) (this hm)
    · simp [hv]
theorem TI.next {n : Nat} {E : List (Nat × Nat)} (hE : InN n E) {s : TopS} (h : TI n E s) (v : Nat) (hv : v < n) : nextB E s.out v = true ↔ (v : Int) ∈ s.h := by
  rw [h.hM, Int.toNat_natCast, h.cnt v hv]
  unfold nextB hasB
  rw [Bool.and_eq_true, ready_cnt hE]
  constructor
  · rintro ⟨h1, h2⟩
    exact ⟨by omega, by simpa using h1, by omega⟩
  · rintro ⟨_, h1, h2⟩
    exact ⟨by simpa using h1, by omega⟩
theorem topo_ref {n : Nat} {E : List (Nat × Nat)} (hE : InN n E) : ∀ (k f : Nat) (s : TopS), TI n E s → s.out.length + k = n → n < s.out.length + f → rtK E n k s.out = if (topoIter E f s).out.length < n then none else some (topoIter E f s).out
  | k, 0, s, h, _, hf => by have := h.le; omega
  | k, f + 1, s, h, hk, hf => by
    have hl := lstK_spec (nextB E s.out) n n (Nat.le_refl _)
    by_cases h0 : s.h = []
    · rw [topoIter_done E (f + 1) s h0]
      cases k with
      | zero =>
        rw [if_neg (by omega)]; rfl
      | succ k =>
        rw [if_pos (by omega)]
        unfold rtK
        rcases hl with ⟨e, _⟩ | ⟨v, e, _, h2, h3, _⟩
        · rw [if_pos (by omega)]
        · have := (h.next hE v h2).1 h3
          rw [h0] at this; cases this
    · obtain ⟨q, hq⟩ : ∃ q, s.h.length = q + 1 := ⟨s.h.length - 1, by have := List.length_pos_iff.2 h0; omega⟩
      obtain ⟨v, hv, hvn, hvo, hm0, hmin, hD, hN, hR⟩ := h.first hq
      have hvh : (v : Int) ∈ s.h := by
        rw [h.hM]; exact ⟨by omega, hvo, by rw [Int.toNat_natCast]; exact hm0⟩
      have hso : (topoStep E s).out = s.out ++ [(v : Int)] := by
        unfold topoStep
        dsimp only
        rw [show s.h.length - 1 = q by omega, hv]
      have e1 : topoIter E (f + 1) s = topoIter E f (topoStep E s) := if_neg h0
      cases k with
      | zero =>
        have := nodup_len hN hR
        simp at this
        omega
      | succ k =>
        have hlv : lstK (nextB E s.out) n n = v := by
          rcases hl with ⟨_, hno⟩ | ⟨u, e, _, h2, h3, h4⟩
          · have := hno v (by omega) hvn
            rw [(h.next hE v hvn).2 hvh] at this; cases this
          · have hu := (h.next hE u h2).1 h3
            have hle := hmin _ hu
            rcases Nat.lt_or_ge v u with hlt | hge
            · have := h4 v (by omega) hlt
              rw [(h.next hE v hvn).2 hvh] at this; cases this
            · rw [e]; omega
        unfold rtK
        rw [hlv, if_neg (by omega), ← hso, e1]
        exact topo_ref hE k f (topoStep E s) (h.step hE h0) (by rw [topoStep_out]; omega) (by rw [topoStep_out]; omega)
theorem topo_eq {n : Nat} {E : List (Nat × Nat)} (hE : InN n E) : rtK E n n [] = if (topoEnd n E).length < n then none else some (topoEnd n E) :=
  topo_ref hE n (n + 1) (topoStart n E) (TI.start hE) (Nat.zero_add n) (by show n < 0 + (n + 1); omega)
end Go.Proofs.Ytflkbehbenlhaaa
/-
  The reference's walks and its Cycle.
-/
namespace Go.Proofs.Ytflkbehbenlhaaa
set_option linter.unusedVariables false
open Go.RowKit

def lessB : List Int → List Int → Bool
  | x :: a, y :: b => if x = y then lessB a b else decide (x < y)
  | [], b => decide (0 < b.length)
  | _ :: _, [] => false
theorem lessB_step {a b : List Int} {i : Nat} (ha : i < a.length) (hb : i < b.length) : lessB (a.drop i) (b.drop i) = if nth a i = nth b i then lessB (a.drop (i + 1)) (b.drop (i + 1)) else decide (nth a i < nth b i) := by
  rw [List.drop_eq_getElem_cons ha, List.drop_eq_getElem_cons hb, nth_eq ha, nth_eq hb]; rfl
theorem lessB_end {a b : List Int} {i : Nat} (hi : i ≤ a.length) (h : ¬ (i < a.length ∧ i < b.length)) (hb : i ≤ b.length) : lessB (a.drop i) (b.drop i) = decide ((a.length : Int) < b.length) := by
  rcases Nat.lt_or_ge i a.length with h1 | h1
  · have h2 : b.length = i := by omega
    rw [show b.drop i = [] from List.drop_of_length_le (by omega), List.drop_eq_getElem_cons h1]
    show false = _
    simp; omega
  · rw [List.drop_of_length_le h1]
    show decide (0 < (b.drop i).length) = _
    rw [List.length_drop]
    rcases Nat.lt_or_ge i b.length with h2 | h2
    · simp; omega
    · simp; omega
set_option maxHeartbeats 4000000 in
theorem less_spec (a b : List Int) (ha : a.length ≤ 1000000) (hb : b.length ≤ 1000000) : Spec Try.prog 92 [.list 1 (a.map intf), .list 1 (b.map intf)] .fr (.bool (lessB a b)) := by
  refine Spec.of_body (c := (cxOf Try.prog tyAt_ok mixed_ok 41)) ⟨Try.func92, rfl, Try.ntmps92, by kernel_rfl⟩ (by simp [FV.hand]) (by exact Nat.le_of_ble_eq_true rfl) rfl ?_
  change FW _ _ _ ⟨[(0, .list 1 (a.map intf)), (1, .list 1 (b.map intf))], []⟩
  (repeat (first | refine FW.seq ?_ | refine FW.region ?_ | refine FW.block ?_ | refine RunN.nil ?_ | refine rn_assign rfl rfl rfl ?_))
  refine FW.loop (fun i : Nat => ⟨[(0, .list 1 (a.map intf)), (1, .list 1 (b.map intf)), (5, .int .i64 i)], []⟩) (fun i => i ≤ a.length ∧ i ≤ b.length ∧ lessB (a.drop i) (b.drop i) = lessB a b) (fun i => a.length - i) 0 ⟨Nat.zero_le _, Nat.zero_le _, rfl⟩ (FLe.conv [] (by simp) (by simp) rfl (by repeat (first | exact GhOk.nil | refine GhOk.low rfl ?_ | refine GhOk.same rfl ?_ | refine GhOk.bump (Nat.lt_succ_self _) ?_)) (by repeat (first | exact EntsOk.nil)) (by repeat (first | exact SlC.nil | refine SlC.cons (.plain rfl rfl (by first | rfl | (simp; done) | (congr 1; omega) | (simp; omega) | (simp [List.take_of_length_le]; done) | (refine congrArg (FV.int .i64) ?_; omega))) ?_))) ?_
  rintro i ⟨hi, hj, hR⟩
  obtain ⟨R, hRR⟩ : ∃ R, lessB a b = R := ⟨_, rfl⟩
  rw [hRR] at hR ⊢
  (repeat (first | refine FW.seq ?_ | refine FW.region ?_ | refine rn_move rfl rfl rfl ?_ | refine rn_lenList rfl rfl (by first | exact List.length_map _ | exact (List.length_map _).symm | exact List.length_replicate | rfl | (simp; done) | omega | (simp; omega)) rfl rfl ?_ | refine rn_lss rfl rfl rfl rfl ?_))
  refine rn_case (fun h1 => ?_) (fun h1 => ?_)
  · have h1' : i < a.length := by simpa using h1
    (repeat (first | refine RunN.nil ?_ | refine rn_pickT rfl rfl rfl rfl ?_ | refine rn_move rfl rfl ⟨_, _, rfl, rfl, rfl⟩ ?_ | refine rn_lenList rfl rfl (by first | exact List.length_map _ | exact (List.length_map _).symm | exact List.length_replicate | rfl | (simp; done) | omega | (simp; omega)) rfl ⟨_, _, rfl, rfl, rfl⟩ ?_ | refine rn_lss rfl rfl rfl ⟨_, _, rfl, rfl, rfl⟩ ?_))
    refine FW.cond rfl (fun h2 => ?_) (fun h2 => ?_)
    · have h2' : i < b.length := by simpa using h2
      rw [lessB_step h1' h2'] at hR
      (repeat (first | refine FW.seq ?_ | refine FW.block ?_ | refine FW.skip ?_ | refine FW.draw ?_ | refine RunD.nil ?_ | refine rd_move rfl rfl rfl ?_ | refine rd_indexL rfl rfl (by first | rfl | exact (Int.toNat_of_nonneg (by omega)).symm) rfl rfl rfl (by first | omega | (simp; omega) | (simp; done)) rfl rfl ?_ | refine rd_loadE rfl rfl rfl (by first | omega | (simp; omega) | (simp; done)) (by first | exact getD_map (by omega) | rfl) rfl rfl rfl rfl ?_ | refine rd_neq rfl rfl rfl rfl ?_))
      refine ⟨by kernel_rfl, ?_⟩
      skip
      refine FW.cond rfl (fun h3 => ?_) (fun h3 => ?_)
      · rw [if_neg (by simpa using h3)] at hR
        (repeat (first | refine FW.seq ?_ | refine FW.draw ?_ | refine RunD.nil ?_ | refine rd_assign rfl rfl rfl ?_ | refine rd_move rfl rfl rfl ?_ | refine rd_lss rfl rfl rfl rfl ?_ | refine rd_indexL rfl rfl (by first | rfl | exact (Int.toNat_of_nonneg (by omega)).symm) rfl rfl rfl (by first | omega | (simp; omega) | (simp; done)) rfl rfl ?_ | refine rd_loadE rfl rfl rfl (by first | omega | (simp; omega) | (simp; done)) (by first | exact getD_map (by omega) | rfl) rfl rfl rfl rfl ?_))
        refine ⟨by kernel_rfl, ?_⟩
        skip
        exact FW.ret ⟨.inl rfl, ret_flat rfl rfl (congrArg FV.bool hR) rfl⟩
      · rw [if_pos (by simpa using h3)] at hR
        (repeat (first | refine FW.region ?_ | refine FW.skip ?_ | refine RunN.nil ?_ | refine rn_assign rfl rfl rfl ?_ | refine rn_move rfl rfl rfl ?_ | refine rn_add rfl rfl (by omega) rfl rfl ?_))
        exact ⟨i + 1, ⟨by omega, by omega, hR⟩, by omega, (FLe.conv [] (by simp) (by simp) rfl (by repeat (first | exact GhOk.nil | refine GhOk.low rfl ?_ | refine GhOk.same rfl ?_ | refine GhOk.bump (Nat.lt_succ_self _) ?_)) (by repeat (first | exact EntsOk.nil)) (by repeat (first | exact SlC.nil | refine SlC.cons (.plain rfl rfl (by first | rfl | (simp; done) | (congr 1; omega) | (simp; omega) | (simp [List.take_of_length_le]; done) | (refine congrArg (FV.int .i64) ?_; omega))) ?_)))⟩
    · rw [lessB_end hi (fun q => by simp at h2; omega) hj] at hR
      (repeat (first | refine FW.seq ?_ | refine FW.region ?_ | refine FW.exit ?_ | refine RunN.nil ?_ | refine rn_assign rfl rfl rfl ?_ | refine rn_move rfl rfl rfl ?_ | refine rn_lenList rfl rfl (by first | exact List.length_map _ | exact (List.length_map _).symm | exact List.length_replicate | rfl | (simp; done) | omega | (simp; omega)) rfl rfl ?_ | refine rn_lss rfl rfl rfl rfl ?_))
      exact FW.ret ⟨.inl rfl, ret_flat rfl rfl (congrArg FV.bool hR) rfl⟩
  · rw [lessB_end hi (fun q => by simp at h1; omega) hj] at hR
    (repeat (first | refine FW.seq ?_ | refine FW.region ?_ | refine FW.exit ?_ | refine FW.condF rfl ?_ | refine RunN.nil ?_ | refine rn_assign rfl rfl rfl ?_ | refine rn_move rfl rfl rfl ?_ | refine rn_lenList rfl rfl (by first | exact List.length_map _ | exact (List.length_map _).symm | exact List.length_replicate | rfl | (simp; done) | omega | (simp; omega)) rfl rfl ?_ | refine rn_lss rfl rfl rfl rfl ?_ | refine rn_pickF rfl rfl rfl rfl ?_ | refine rn_skip rfl rfl ⟨_, _, rfl, rfl, rfl⟩ ?_))
    exact FW.ret ⟨.inl rfl, ret_flat rfl rfl (congrArg FV.bool hR) rfl⟩
def wcell : List Int → FV
  | [] => .nil
  | x :: l => .list 1 ((x :: l).map intf)
def wrow (l : List Int) : List FV := [wcell l]
def walkOf (out : List (List Int)) (tg ab k v w : Nat) : List Int := if k = 1 then (if w = tg then [(v : Int)] else []) else if ab < w ∧ nth out w ≠ [] then (v : Int) :: nth out w else []
def stepW (E : List (Nat × Nat)) (out : List (List Int)) (tg ab k v : Nat) (cur : List Int) (w : Nat) : List Int :=
  if leadsB E v w = true ∧ walkOf out tg ab k v w ≠ [] ∧ (cur = [] ∨ lessB (walkOf out tg ab k v w) cur = true) then walkOf out tg ab k v w else cur
def curW (E : List (Nat × Nat)) (out : List (List Int)) (tg ab k v j : Nat) : List Int := (List.range j).foldl (stepW E out tg ab k v) []
def nextTo (E : List (Nat × Nat)) (out : List (List Int)) (tg ab k n i : Nat) : List (List Int) := (List.range n).map fun v => if v < i then curW E out tg ab k v n else []
def walksTo (E : List (Nat × Nat)) (tg ab n : Nat) : Nat → List (List Int)
  | 0 => List.replicate n []
  | k + 1 => nextTo E (walksTo E tg ab n k) tg ab (k + 1) n n
theorem nextTo_len (E : List (Nat × Nat)) (out : List (List Int)) (tg ab k n i : Nat) : (nextTo E out tg ab k n i).length = n := by simp [nextTo]
theorem walksTo_len (E : List (Nat × Nat)) (tg ab n : Nat) : ∀ k, (walksTo E tg ab n k).length = n
  | 0 => by simp [walksTo]
  | k + 1 => nextTo_len _ _ _ _ _ _ _
theorem walkOf_len {out : List (List Int)} {tg ab k v w B : Nat} (h : ∀ r ∈ out, r.length ≤ B) : (walkOf out tg ab k v w).length ≤ B + 1 := by
  have hn : (nth out w).length ≤ B := by
    rcases Nat.lt_or_ge w out.length with hw | hw
    · exact h _ (nth_mem hw)
    · have : nth out w = [] := by unfold nth; rw [List.getD_eq_getElem?_getD, List.getElem?_eq_none hw]; rfl
      rw [this]; exact Nat.zero_le _
  unfold walkOf
  split
  · split <;> simp
  · split
    · simp; omega
    · simp
theorem curW_len {E : List (Nat × Nat)} {out : List (List Int)} {tg ab k v B : Nat} (h : ∀ r ∈ out, r.length ≤ B) : ∀ j, (curW E out tg ab k v j).length ≤ B + 1
  | 0 => Nat.zero_le _
  | j + 1 => by
    have e : curW E out tg ab k v (j + 1) = stepW E out tg ab k v (curW E out tg ab k v j) j := by
      unfold curW
      rw [List.range_succ, List.foldl_append]; rfl
    rw [e]
    unfold stepW
    split
    · exact walkOf_len h
    · exact curW_len h j
theorem walksTo_rl (E : List (Nat × Nat)) (tg ab n : Nat) : ∀ k, ∀ r ∈ walksTo E tg ab n k, r.length ≤ k
  | 0 => fun r hr => by rw [List.eq_of_mem_replicate hr]; exact Nat.le_refl _
  | k + 1 => fun r hr => by
    obtain ⟨v, _, rfl⟩ := List.mem_map.1 hr
    split
    · exact curW_len (walksTo_rl E tg ab n k) n
    · simp
theorem curW_succ (E : List (Nat × Nat)) (out : List (List Int)) (tg ab k v j : Nat) : curW E out tg ab k v (j + 1) = stepW E out tg ab k v (curW E out tg ab k v j) j := by
  unfold curW
  rw [List.range_succ, List.foldl_append]; rfl
theorem nextTo_set (E : List (Nat × Nat)) (out : List (List Int)) (tg ab k n i : Nat) : (nextTo E out tg ab k n i).set i (curW E out tg ab k i n) = nextTo E out tg ab k n (i + 1) := by
  unfold nextTo
  rw [range_set]
  refine List.map_congr_left fun v _ => ?_
  by_cases e : v = i
  · subst e; rw [if_pos rfl, if_pos (by omega)]
  · rw [if_neg e]
    by_cases h : v < i
    · rw [if_pos h, if_pos (by omega)]
    · rw [if_neg h, if_neg (by omega)]
theorem nextTo_nth {E : List (Nat × Nat)} {out : List (List Int)} {tg ab k n i : Nat} (h : i < n) : nth (nextTo E out tg ab k n i) i = [] := by
  rw [nth_eq (by rw [nextTo_len]; exact h)]
  simp [nextTo]
set_option maxHeartbeats 4000000 in
theorem walks_spec (n : Nat) (E : List (Nat × Nat)) (tg ab len : Nat) (hn : n ≤ 1000) (hE : E.length ≤ 1000000) (ht : tg ≤ 1000) (hab : ab ≤ 1000) (hlen : len ≤ 1000) : Spec Try.prog 72 [.int .i64 n, .list 2 (E.map edf), .int .i64 tg, .int .i64 ab, .int .i64 len] .sh (.list 1 ((walksTo E tg ab n len).map wrow)) := by
  refine Spec.of_body (c := (cxOf Try.prog tyAt_ok mixed_ok 97)) ⟨Try.func72, rfl, Try.ntmps72, by kernel_rfl⟩ (by simp [FV.hand]) (by exact Nat.le_of_ble_eq_true rfl) rfl ?_
  change FW _ _ _ ⟨[(0, .int .i64 n), (1, .list 2 (E.map edf)), (2, .int .i64 tg), (3, .int .i64 ab), (4, .int .i64 len)], []⟩
  (repeat (first | refine FW.seq ?_ | refine FW.region ?_ | refine FW.block ?_ | refine RunN.nil ?_ | refine rn_assign rfl rfl rfl ?_ | refine rn_move rfl rfl rfl ?_ | refine rn_make rfl (by first | rfl | exact (Int.toNat_of_nonneg (by omega)).symm) rfl (by first | rfl | exact (Int.toNat_of_nonneg (by omega)).symm) rfl rfl rfl rfl (by first | omega | (simp; omega) | (simp; done)) (by first | omega | (simp; omega) | (simp; done)) rfl rfl rfl ?_))
  refine FW.loop (fun k : Nat => ⟨[(0, .int .i64 n), (1, .list 2 (E.map edf)), (2, .int .i64 tg), (3, .int .i64 ab), (4, .int .i64 len), (11, .list 1 ((walksTo E tg ab n k).map wrow)), (12, .int .i64 (k + 1 : Nat))], []⟩) (fun k => k ≤ len) (fun k => len - k) 0 (Nat.zero_le _) ?_ ?_
  · rw [show List.replicate n [FV.nil] = (walksTo E tg ab n 0).map wrow by show _ = (List.replicate n []).map wrow; rw [List.map_replicate]; rfl]
    refine (FLe.share 11 rfl rfl (by rw [List.length_map, walksTo_len])).trans ?_
    exact (FLe.conv [] (by simp) (by simp) rfl (by repeat (first | exact GhOk.nil | refine GhOk.low rfl ?_ | refine GhOk.same rfl ?_ | refine GhOk.bump (Nat.lt_succ_self _) ?_)) (by repeat (first | exact EntsOk.nil)) (by repeat (first | exact SlC.nil | refine SlC.cons (.plain rfl rfl (by first | rfl | (simp; done) | (congr 1; omega) | (simp; omega) | (simp [List.take_of_length_le]; done) | (refine congrArg (FV.int .i64) ?_; omega))) ?_)))
  intro k hk
  have hwl := walksTo_len E tg ab n k
  have hwr := walksTo_rl E tg ab n k
  have hws : walksTo E tg ab n (k + 1) = nextTo E (walksTo E tg ab n k) tg ab (k + 1) n n := rfl
  (repeat (first | refine FW.seq ?_ | refine FW.region ?_ | refine RunN.nil ?_ | refine rn_move rfl rfl rfl ?_ | refine rn_leq rfl rfl rfl rfl ?_))
  refine FW.cond rfl (fun h => ?_) (fun h => ?_)
  · have hlt : k < len := by simp at h; omega
    clear h
    obtain ⟨O, hO⟩ : ∃ O, walksTo E tg ab n k = O := ⟨_, rfl⟩
    rw [hO] at hwl hwr hws ⊢
    obtain ⟨kk, hkk⟩ : ∃ kk, k + 1 = kk := ⟨_, rfl⟩
    rw [hkk] at hws ⊢
    (repeat (first | refine FW.seq ?_ | refine FW.region ?_ | refine FW.block ?_ | refine FW.skip ?_ | refine RunN.nil ?_ | refine rn_assign rfl rfl rfl ?_ | refine rn_move rfl rfl rfl ?_ | refine rn_make rfl (by first | rfl | exact (Int.toNat_of_nonneg (by omega)).symm) rfl (by first | rfl | exact (Int.toNat_of_nonneg (by omega)).symm) rfl rfl rfl rfl (by first | omega | (simp; omega) | (simp; done)) (by first | omega | (simp; omega) | (simp; done)) rfl rfl rfl ?_))
    rw [show List.replicate n [FV.nil] = (nextTo E O tg ab kk n 0).map wrow by
      unfold nextTo; rw [List.map_map, range_rep]; exact List.map_congr_left fun v _ => by simp [wrow, wcell]]
    refine FW.loop (fun v : Nat => ⟨[(0, .int .i64 n), (1, .list 2 (E.map edf)), (2, .int .i64 tg), (3, .int .i64 ab), (4, .int .i64 len), (11, .list 1 (O.map wrow)), (12, .int .i64 kk), (13, .own 100 0 0 n), (14, .int .i64 v)], [(100, ⟨0, .own, 22, 1, (nextTo E O tg ab kk n v).map wrow⟩)]⟩) (fun v => v ≤ n) (fun v => n - v) 0 (Nat.zero_le _) ?_ ?_
    · exact (FLe.conv [⟨100, some 25, 0 + 1, ⟨0, .own, 22, 1, (nextTo E O tg ab kk n 0).map wrow⟩⟩] (by simp) (by simp) rfl (by repeat (first | exact GhOk.nil | refine GhOk.low rfl ?_ | refine GhOk.same rfl ?_ | refine GhOk.bump (Nat.lt_succ_self _) ?_)) (by repeat (first | exact EntsOk.nil | refine EntsOk.old rfl (by decide) (by first | rfl | (simp; done) | (congr 1; omega) | (simp; omega) | (simp [List.take_of_length_le]; done) | (refine congrArg (FV.int .i64) ?_; omega)) ?_)) (by repeat (first | exact SlC.nil | refine SlC.cons (.plain rfl rfl (by first | rfl | (simp; done) | (congr 1; omega) | (simp; omega) | (simp [List.take_of_length_le]; done) | (refine congrArg (FV.int .i64) ?_; omega))) ?_ | refine SlC.cons (.own rfl (.head _) rfl (by first | rfl | (simp; done) | (congr 1; omega) | (simp; omega) | (simp [List.take_of_length_le]; done) | (refine congrArg (FV.int .i64) ?_; omega))) ?_)))
    intro v hv
    (repeat (first | refine FW.seq ?_ | refine FW.region ?_ | refine RunN.nil ?_ | refine rn_move rfl rfl rfl ?_ | refine rn_lss rfl rfl rfl rfl ?_))
    refine FW.cond rfl (fun h => ?_) (fun h => ?_)
    · have hvn : v < n := by simpa using h
      clear h
      have hX0 := nextTo_nth (E := E) (out := O) (tg := tg) (ab := ab) (k := kk) hvn
      have hXs := nextTo_set E O tg ab kk n v
      have hXl := nextTo_len E O tg ab kk n v
      generalize nextTo E O tg ab kk n v = X at hX0 hXs hXl
      (repeat (first | refine FW.seq ?_ | refine FW.region ?_ | refine FW.block ?_ | refine FW.skip ?_ | refine RunN.nil ?_ | refine rn_assign rfl rfl rfl ?_))
      refine FW.loop (fun w : Nat => ⟨[(0, .int .i64 n), (1, .list 2 (E.map edf)), (2, .int .i64 tg), (3, .int .i64 ab), (4, .int .i64 len), (11, .list 1 (O.map wrow)), (12, .int .i64 kk), (13, .own 100 0 0 n), (14, .int .i64 v), (15, .int .i64 w)], [(100, ⟨0, .own, 22, 1, (X.set v (curW E O tg ab kk v w)).map wrow⟩)]⟩) (fun w => w ≤ n) (fun w => n - w) 0 (Nat.zero_le _) ?_ ?_
      · show FLe _ ⟨[(0, .int .i64 n), (1, .list 2 (E.map edf)), (2, .int .i64 tg), (3, .int .i64 ab), (4, .int .i64 len), (11, .list 1 (O.map wrow)), (12, .int .i64 kk), (13, .own 100 0 0 n), (14, .int .i64 v), (15, .int .i64 0)], [(100, ⟨0, .own, 22, 1, (X.set v []).map wrow⟩)]⟩
        rw [show X.set v [] = X by rw [← hX0, nth_eq (by omega)]; exact List.set_getElem_self _]
        exact (FLe.conv [⟨100, some 100, 0, ⟨0, .own, 22, 1, X.map wrow⟩⟩] (by simp) (by simp) rfl (by repeat (first | exact GhOk.nil | refine GhOk.low rfl ?_ | refine GhOk.same rfl ?_ | refine GhOk.bump (Nat.lt_succ_self _) ?_)) (by repeat (first | exact EntsOk.nil | refine EntsOk.old rfl (by decide) (by first | rfl | (simp; done) | (congr 1; omega) | (simp; omega) | (simp [List.take_of_length_le]; done) | (refine congrArg (FV.int .i64) ?_; omega)) ?_)) (by repeat (first | exact SlC.nil | refine SlC.cons (.plain rfl rfl (by first | rfl | (simp; done) | (congr 1; omega) | (simp; omega) | (simp [List.take_of_length_le]; done) | (refine congrArg (FV.int .i64) ?_; omega))) ?_ | refine SlC.cons (.own rfl (.head _) rfl (by first | rfl | (simp; done) | (congr 1; omega) | (simp; omega) | (simp [List.take_of_length_le]; done) | (refine congrArg (FV.int .i64) ?_; omega))) ?_)))
      intro w hw
      have hcl := curW_len (E := E) (tg := tg) (ab := ab) (k := kk) (v := v) hwr w
      have hcs := curW_succ E O tg ab kk v w
      obtain ⟨C, hC⟩ : ∃ C, curW E O tg ab kk v w = C := ⟨_, rfl⟩
      rw [hC] at hcs hcl ⊢
      have hYn : nth (X.set v C) v = C := nth_set_same (by omega)
      have hYl : (X.set v C).length = n := by rw [List.length_set]; exact hXl
      have hYs : ∀ C', (X.set v C).set v C' = X.set v C' := fun C' => by rw [List.set_set]
      obtain ⟨Y, hY⟩ : ∃ Y, X.set v C = Y := ⟨_, rfl⟩
      rw [hY] at hYn hYl hYs ⊢
      (repeat (first | refine FW.seq ?_ | refine FW.region ?_ | refine RunN.nil ?_ | refine rn_move rfl rfl rfl ?_ | refine rn_lss rfl rfl rfl rfl ?_))
      refine FW.cond rfl (fun h => ?_) (fun h => ?_)
      · have hwn : w < n := by simpa using h
        clear h
        (repeat (first | refine FW.seq ?_ | refine FW.region ?_ | refine FW.block ?_ | refine FW.skip ?_ | refine rn_move rfl rfl rfl ?_))
        refine rn_call (leads_spec E v w hE) (by repeat (first | exact ArgsR.nil | refine ArgsR.cons (by first | exact ArgR.plain rfl rfl) ?_)) rfl rfl ?_
        (repeat (first | refine RunN.nil ?_ | refine rn_not rfl rfl rfl ?_))
        refine FW.cond rfl (fun h => ?_) (fun h => ?_)
        · have hld : leadsB E v w = false := by simpa using h
          have hst : stepW E O tg ab kk v C w = C := by unfold stepW; rw [if_neg (fun q => by rw [hld] at q; cases q.1)]
          rw [hst] at hcs
          (repeat (first | refine FW.region ?_ | refine FW.exit ?_ | refine RunN.nil ?_ | refine rn_assign rfl rfl rfl ?_ | refine rn_move rfl rfl rfl ?_ | refine rn_add rfl rfl (by omega) rfl rfl ?_))
          refine ⟨w + 1, by omega, by omega, ?_⟩
          rw [hcs, hY]
          exact (FLe.conv [⟨100, some 100, 0, ⟨0, .own, 22, 1, Y.map wrow⟩⟩] (by simp) (by simp) rfl (by repeat (first | exact GhOk.nil | refine GhOk.low rfl ?_ | refine GhOk.same rfl ?_ | refine GhOk.bump (Nat.lt_succ_self _) ?_)) (by repeat (first | exact EntsOk.nil | refine EntsOk.old rfl (by decide) (by first | rfl | (simp; done) | (congr 1; omega) | (simp; omega) | (simp [List.take_of_length_le]; done) | (refine congrArg (FV.int .i64) ?_; omega)) ?_)) (by repeat (first | exact SlC.nil | refine SlC.cons (.plain rfl rfl (by first | rfl | (simp; done) | (congr 1; omega) | (simp; omega) | (simp [List.take_of_length_le]; done) | (refine congrArg (FV.int .i64) ?_; omega))) ?_ | refine SlC.cons (.own rfl (.head _) rfl (by first | rfl | (simp; done) | (congr 1; omega) | (simp; omega) | (simp [List.take_of_length_le]; done) | (refine congrArg (FV.int .i64) ?_; omega))) ?_)))
        · have hld : leadsB E v w = true := by simpa using h
          clear h
          refine FW.skip ?_
          refine FW.seq ?_
          refine FW.region ?_
          refine rn_assign rfl rfl rfl ?_
          refine RunN.nil ?_
          refine FW.seq ?_
          refine FW.join (fun _ : Unit => ⟨[(0, .int .i64 n), (1, .list 2 (E.map edf)), (2, .int .i64 tg), (3, .int .i64 ab), (4, .int .i64 len), (11, .list 1 (O.map wrow)), (12, .int .i64 kk), (13, .own 100 0 0 n), (14, .int .i64 v), (15, .int .i64 w), (16, wcell (if kk = 1 ∧ w = tg then [(v : Int)] else []))], [(100, ⟨0, .own, 22, 1, Y.map wrow⟩)]⟩) (fun _ => True) ?_ (fun _ _ => ?_)
          · (repeat (first | refine FW.seq ?_ | refine FW.region ?_ | refine rn_move rfl rfl rfl ?_ | refine rn_eql rfl rfl rfl rfl ?_))
            refine rn_case (fun h1 => ?_) (fun h1 => ?_)
            · (repeat (first | refine RunN.nil ?_ | refine rn_pickT rfl rfl rfl rfl ?_ | refine rn_move rfl rfl ⟨_, _, rfl, rfl, rfl⟩ ?_ | refine rn_eql rfl rfl rfl ⟨_, _, rfl, rfl, rfl⟩ ?_))
              refine FW.cond rfl (fun h2 => ?_) (fun h2 => ?_)
              · (repeat (first | refine FW.region ?_ | refine RunN.nil ?_ | refine rn_assign rfl rfl rfl ?_ | refine rn_move rfl rfl rfl ?_ | refine rn_buildS1 rfl rfl rfl rfl rfl rfl rfl rfl ?_))
                refine ⟨rfl, (), trivial, ?_⟩
                rw [if_pos ⟨by simp at h1; omega, by simp at h2; omega⟩]
                refine (FLe.share 16 rfl rfl (by rfl)).trans ?_
                show FLe _ ⟨[(0, .int .i64 n), (1, .list 2 (E.map edf)), (2, .int .i64 tg), (3, .int .i64 ab), (4, .int .i64 len), (11, .list 1 (O.map wrow)), (12, .int .i64 kk), (13, .own 100 0 0 n), (14, .int .i64 v), (15, .int .i64 w), (16, .list 1 [[.int .i64 v]])], [(100, ⟨0, .own, 22, 1, Y.map wrow⟩)]⟩
                exact (FLe.conv [⟨100, some 100, 0, ⟨0, .own, 22, 1, Y.map wrow⟩⟩] (by simp) (by simp) rfl (by repeat (first | exact GhOk.nil | refine GhOk.low rfl ?_ | refine GhOk.same rfl ?_ | refine GhOk.bump (Nat.lt_succ_self _) ?_)) (by repeat (first | exact EntsOk.nil | refine EntsOk.old rfl (by decide) (by first | rfl | (simp; done) | (congr 1; omega) | (simp; omega) | (simp [List.take_of_length_le]; done) | (refine congrArg (FV.int .i64) ?_; omega)) ?_)) (by repeat (first | exact SlC.nil | refine SlC.cons (.plain rfl rfl (by first | rfl | (simp; done) | (congr 1; omega) | (simp; omega) | (simp [List.take_of_length_le]; done) | (refine congrArg (FV.int .i64) ?_; omega))) ?_ | refine SlC.cons (.own rfl (.head _) rfl (by first | rfl | (simp; done) | (congr 1; omega) | (simp; omega) | (simp [List.take_of_length_le]; done) | (refine congrArg (FV.int .i64) ?_; omega))) ?_)))
              · (repeat (first | refine FW.skip ?_))
                refine ⟨rfl, (), trivial, ?_⟩
                rw [if_neg (fun q => by simp at h2; omega)]
                show FLe _ ⟨[(0, .int .i64 n), (1, .list 2 (E.map edf)), (2, .int .i64 tg), (3, .int .i64 ab), (4, .int .i64 len), (11, .list 1 (O.map wrow)), (12, .int .i64 kk), (13, .own 100 0 0 n), (14, .int .i64 v), (15, .int .i64 w), (16, .nil)], [(100, ⟨0, .own, 22, 1, Y.map wrow⟩)]⟩
                exact (FLe.conv [⟨100, some 100, 0, ⟨0, .own, 22, 1, Y.map wrow⟩⟩] (by simp) (by simp) rfl (by repeat (first | exact GhOk.nil | refine GhOk.low rfl ?_ | refine GhOk.same rfl ?_ | refine GhOk.bump (Nat.lt_succ_self _) ?_)) (by repeat (first | exact EntsOk.nil | refine EntsOk.old rfl (by decide) (by first | rfl | (simp; done) | (congr 1; omega) | (simp; omega) | (simp [List.take_of_length_le]; done) | (refine congrArg (FV.int .i64) ?_; omega)) ?_)) (by repeat (first | exact SlC.nil | refine SlC.cons (.plain rfl rfl (by first | rfl | (simp; done) | (congr 1; omega) | (simp; omega) | (simp [List.take_of_length_le]; done) | (refine congrArg (FV.int .i64) ?_; omega))) ?_ | refine SlC.cons (.own rfl (.head _) rfl (by first | rfl | (simp; done) | (congr 1; omega) | (simp; omega) | (simp [List.take_of_length_le]; done) | (refine congrArg (FV.int .i64) ?_; omega))) ?_)))
            · (repeat (first | refine FW.skip ?_ | refine FW.condF rfl ?_ | refine RunN.nil ?_ | refine rn_pickF rfl rfl rfl rfl ?_ | refine rn_skip rfl rfl ⟨_, _, rfl, rfl, rfl⟩ ?_))
              refine ⟨rfl, (), trivial, ?_⟩
              rw [if_neg (fun q => by simp at h1; omega)]
              show FLe _ ⟨[(0, .int .i64 n), (1, .list 2 (E.map edf)), (2, .int .i64 tg), (3, .int .i64 ab), (4, .int .i64 len), (11, .list 1 (O.map wrow)), (12, .int .i64 kk), (13, .own 100 0 0 n), (14, .int .i64 v), (15, .int .i64 w), (16, .nil)], [(100, ⟨0, .own, 22, 1, Y.map wrow⟩)]⟩
              exact (FLe.conv [⟨100, some 100, 0, ⟨0, .own, 22, 1, Y.map wrow⟩⟩] (by simp) (by simp) rfl (by repeat (first | exact GhOk.nil | refine GhOk.low rfl ?_ | refine GhOk.same rfl ?_ | refine GhOk.bump (Nat.lt_succ_self _) ?_)) (by repeat (first | exact EntsOk.nil | refine EntsOk.old rfl (by decide) (by first | rfl | (simp; done) | (congr 1; omega) | (simp; omega) | (simp [List.take_of_length_le]; done) | (refine congrArg (FV.int .i64) ?_; omega)) ?_)) (by repeat (first | exact SlC.nil | refine SlC.cons (.plain rfl rfl (by first | rfl | (simp; done) | (congr 1; omega) | (simp; omega) | (simp [List.take_of_length_le]; done) | (refine congrArg (FV.int .i64) ?_; omega))) ?_ | refine SlC.cons (.own rfl (.head _) rfl (by first | rfl | (simp; done) | (congr 1; omega) | (simp; omega) | (simp [List.take_of_length_le]; done) | (refine congrArg (FV.int .i64) ?_; omega))) ?_)))
          refine FW.seq ?_
          refine FW.join (fun _ : Unit => ⟨[(0, .int .i64 n), (1, .list 2 (E.map edf)), (2, .int .i64 tg), (3, .int .i64 ab), (4, .int .i64 len), (11, .list 1 (O.map wrow)), (12, .int .i64 kk), (13, .own 100 0 0 n), (14, .int .i64 v), (15, .int .i64 w), (16, wcell (walkOf O tg ab kk v w))], [(100, ⟨0, .own, 22, 1, Y.map wrow⟩)]⟩) (fun _ => True) ?_ (fun _ _ => ?_)
          · obtain ⟨W1, hW1⟩ : ∃ W1, wcell (if kk = 1 ∧ w = tg then [(v : Int)] else []) = W1 := ⟨_, rfl⟩
            have hh1 : W1 = .nil ∨ W1 = .list 1 [[.int .i64 v]] := by rw [← hW1]; split; exact .inr rfl; exact .inl rfl
            rw [hW1]
            (repeat (first | refine FW.seq ?_ | refine FW.region ?_ | refine rn_move rfl rfl rfl ?_ | refine rn_gtr rfl rfl rfl rfl ?_))
            refine rn_case (fun h1 => ?_) (fun h1 => ?_)
            · have hk1 : ¬ kk = 1 := by simp at h1; omega
              unfold walkOf
              rw [if_neg hk1]
              (repeat (first | refine rn_move rfl rfl rfl ?_ | refine rn_pickT rfl rfl rfl rfl ?_ | refine rn_move rfl rfl ⟨_, _, rfl, rfl, rfl⟩ ?_ | refine rn_gtr rfl rfl rfl ⟨_, _, rfl, rfl, rfl⟩ ?_))
              refine rn_case (fun h2 => ?_) (fun h2 => ?_)
              · have haw : ab < w := by simp at h2; omega
                have hol : (nth O w).length ≤ k := hwr _ (nth_mem (by omega))
                (repeat (first | refine rn_move rfl rfl ⟨_, _, rfl, rfl, rfl⟩ ?_ | refine rn_indexL rfl rfl (by first | rfl | exact (Int.toNat_of_nonneg (by omega)).symm) rfl rfl rfl (by first | omega | (simp; omega) | (simp; done)) rfl ⟨_, _, rfl, rfl, rfl⟩ ?_ | refine rn_loadE rfl rfl rfl (by first | omega | (simp; omega) | (simp; done)) (by first | exact getD_map (by omega) | rfl) rfl rfl rfl ⟨_, _, rfl, rfl, rfl⟩ ?_))
                rcases hOw : nth O w with _ | ⟨x, r⟩
                · (repeat (first | refine FW.skip ?_ | refine FW.condF rfl ?_ | refine RunN.nil ?_ | refine rn_pickT rfl rfl rfl rfl ?_ | refine rn_gtr rfl rfl rfl ⟨_, _, rfl, rfl, rfl⟩ ?_ | refine rn_lenNil rfl rfl rfl ⟨_, _, rfl, rfl, rfl⟩ ?_))
                  refine ⟨rfl, (), trivial, ?_⟩
                  rw [if_neg (fun q => q.2 rfl)]
                  rw [if_neg (fun q => hk1 q.1)] at hW1
                  subst hW1
                  exact (FLe.conv [⟨100, some 100, 0, ⟨0, .own, 22, 1, Y.map wrow⟩⟩] (by simp) (by simp) rfl (by repeat (first | exact GhOk.nil | refine GhOk.low rfl ?_ | refine GhOk.same rfl ?_ | refine GhOk.bump (Nat.lt_succ_self _) ?_)) (by repeat (first | exact EntsOk.nil | refine EntsOk.old rfl (by decide) (by first | rfl | (simp; done) | (congr 1; omega) | (simp; omega) | (simp [List.take_of_length_le]; done) | (refine congrArg (FV.int .i64) ?_; omega)) ?_)) (by repeat (first | exact SlC.nil | refine SlC.cons (.plain rfl rfl (by first | rfl | (simp; done) | (congr 1; omega) | (simp; omega) | (simp [List.take_of_length_le]; done) | (refine congrArg (FV.int .i64) ?_; omega))) ?_ | refine SlC.cons (.own rfl (.head _) rfl (by first | rfl | (simp; done) | (congr 1; omega) | (simp; omega) | (simp [List.take_of_length_le]; done) | (refine congrArg (FV.int .i64) ?_; omega))) ?_)))
                · rw [hOw] at hol
                  have hrl : r.length + 1 ≤ k := hol
                  have hpos : decide ((((x :: r).length : Nat) : Int) > 0) = true := by simp
                  (repeat (first | refine RunN.nil ?_ | refine rn_pickT rfl rfl rfl rfl ?_ | refine rn_gtr rfl rfl rfl ⟨_, _, rfl, rfl, rfl⟩ ?_ | refine rn_lenList rfl rfl (by first | exact List.length_map _ | exact (List.length_map _).symm | exact List.length_replicate | rfl | (simp; done) | omega | (simp; omega)) rfl ⟨_, _, rfl, rfl, rfl⟩ ?_))
                  rw [hpos]
                  (repeat (first | refine FW.region ?_ | refine FW.condT rfl ?_ | refine rn_move rfl rfl rfl ?_ | refine rn_buildS1 rfl rfl rfl rfl rfl rfl rfl rfl ?_ | refine rn_indexL rfl rfl (by first | rfl | exact (Int.toNat_of_nonneg (by omega)).symm) rfl rfl rfl (by first | omega | (simp; omega) | (simp; done)) rfl rfl ?_ | refine rn_loadE rfl rfl rfl (by first | omega | (simp; omega) | (simp; done)) (by first | exact getD_map (by omega) | rfl) rfl rfl rfl rfl ?_))
                  rw [hOw]
                  (repeat (first | refine RunN.nil ?_ | refine rn_assign rfl rfl rfl ?_ | refine rn_appO rfl rfl (by first | exact List.length_map _ | exact (List.length_map _).symm | exact List.length_replicate | rfl | (simp; done) | omega | (simp; omega)) rfl rfl rfl (by decide) (by first | exact SrcR.own rfl rfl (by decide) (by first | exact List.length_map _ | exact (List.length_map _).symm | exact List.length_replicate | rfl | (simp; done) | omega | (simp; omega)) | exact SrcR.list rfl | exact SrcR.nil rfl | exact SrcR.part rfl rfl (by decide)) (by first | omega | (simp; omega) | (simp; done)) (by first | omega | (simp; omega) | (simp; done)) rfl rfl rfl ?_))
                  refine ⟨rfl, (), trivial, ?_⟩
                  rw [if_pos ⟨haw, List.cons_ne_nil _ _⟩]
                  refine (FLe.share 16 rfl rfl (by rfl)).trans ?_
                  obtain ⟨Q, hQ⟩ : ∃ Q, [[FV.int .i64 (v : Int)]] ++ (x :: r).map intf = Q := ⟨_, rfl⟩
                  rw [show wcell ((v : Int) :: x :: r) = .list 1 Q by rw [← hQ]; rfl, hQ]
                  exact (FLe.conv [⟨100, some 100, 0, ⟨0, .own, 22, 1, Y.map wrow⟩⟩] (by simp) (by simp) rfl (by repeat (first | exact GhOk.nil | refine GhOk.low rfl ?_ | refine GhOk.same rfl ?_ | refine GhOk.bump (Nat.lt_succ_self _) ?_)) (by repeat (first | exact EntsOk.nil | refine EntsOk.old rfl (by decide) (by first | rfl | (simp; done) | (congr 1; omega) | (simp; omega) | (simp [List.take_of_length_le]; done) | (refine congrArg (FV.int .i64) ?_; omega)) ?_)) (by repeat (first | exact SlC.nil | refine SlC.cons (.plain rfl rfl (by first | rfl | (simp; done) | (congr 1; omega) | (simp; omega) | (simp [List.take_of_length_le]; done) | (refine congrArg (FV.int .i64) ?_; omega))) ?_ | refine SlC.cons (.own rfl (.head _) rfl (by first | rfl | (simp; done) | (congr 1; omega) | (simp; omega) | (simp [List.take_of_length_le]; done) | (refine congrArg (FV.int .i64) ?_; omega))) ?_)))
              · (repeat (first | refine FW.skip ?_ | refine FW.condF rfl ?_ | refine RunN.nil ?_ | refine rn_pickF rfl rfl rfl rfl ?_ | refine rn_skip rfl rfl ⟨_, _, rfl, rfl, rfl⟩ ?_))
                refine ⟨rfl, (), trivial, ?_⟩
                rw [if_neg (fun q => by simp at h2; omega)]
                rw [if_neg (fun q => hk1 q.1)] at hW1
                subst hW1
                exact (FLe.conv [⟨100, some 100, 0, ⟨0, .own, 22, 1, Y.map wrow⟩⟩] (by simp) (by simp) rfl (by repeat (first | exact GhOk.nil | refine GhOk.low rfl ?_ | refine GhOk.same rfl ?_ | refine GhOk.bump (Nat.lt_succ_self _) ?_)) (by repeat (first | exact EntsOk.nil | refine EntsOk.old rfl (by decide) (by first | rfl | (simp; done) | (congr 1; omega) | (simp; omega) | (simp [List.take_of_length_le]; done) | (refine congrArg (FV.int .i64) ?_; omega)) ?_)) (by repeat (first | exact SlC.nil | refine SlC.cons (.plain rfl rfl (by first | rfl | (simp; done) | (congr 1; omega) | (simp; omega) | (simp [List.take_of_length_le]; done) | (refine congrArg (FV.int .i64) ?_; omega))) ?_ | refine SlC.cons (.own rfl (.head _) rfl (by first | rfl | (simp; done) | (congr 1; omega) | (simp; omega) | (simp [List.take_of_length_le]; done) | (refine congrArg (FV.int .i64) ?_; omega))) ?_)))
            · have hk1 : kk = 1 := by simp at h1; omega
              (repeat (first | refine FW.skip ?_ | refine FW.condF rfl ?_ | refine RunN.nil ?_ | refine rn_move rfl rfl rfl ?_ | refine rn_pickF rfl rfl rfl rfl ?_ | refine rn_skip rfl rfl ⟨_, _, rfl, rfl, rfl⟩ ?_))
              refine ⟨rfl, (), trivial, ?_⟩
              have : wcell (walkOf O tg ab kk v w) = W1 := by
                unfold walkOf
                rw [if_pos hk1, ← hW1]
                by_cases e : w = tg
                · rw [if_pos e, if_pos ⟨hk1, e⟩]
                · rw [if_neg e, if_neg (fun q => e q.2)]
              rw [this]
              clear this hW1
              rcases hh1 with rfl | rfl
              · exact (FLe.conv [⟨100, some 100, 0, ⟨0, .own, 22, 1, Y.map wrow⟩⟩] (by simp) (by simp) rfl (by repeat (first | exact GhOk.nil | refine GhOk.low rfl ?_ | refine GhOk.same rfl ?_ | refine GhOk.bump (Nat.lt_succ_self _) ?_)) (by repeat (first | exact EntsOk.nil | refine EntsOk.old rfl (by decide) (by first | rfl | (simp; done) | (congr 1; omega) | (simp; omega) | (simp [List.take_of_length_le]; done) | (refine congrArg (FV.int .i64) ?_; omega)) ?_)) (by repeat (first | exact SlC.nil | refine SlC.cons (.plain rfl rfl (by first | rfl | (simp; done) | (congr 1; omega) | (simp; omega) | (simp [List.take_of_length_le]; done) | (refine congrArg (FV.int .i64) ?_; omega))) ?_ | refine SlC.cons (.own rfl (.head _) rfl (by first | rfl | (simp; done) | (congr 1; omega) | (simp; omega) | (simp [List.take_of_length_le]; done) | (refine congrArg (FV.int .i64) ?_; omega))) ?_)))
              · exact (FLe.conv [⟨100, some 100, 0, ⟨0, .own, 22, 1, Y.map wrow⟩⟩] (by simp) (by simp) rfl (by repeat (first | exact GhOk.nil | refine GhOk.low rfl ?_ | refine GhOk.same rfl ?_ | refine GhOk.bump (Nat.lt_succ_self _) ?_)) (by repeat (first | exact EntsOk.nil | refine EntsOk.old rfl (by decide) (by first | rfl | (simp; done) | (congr 1; omega) | (simp; omega) | (simp [List.take_of_length_le]; done) | (refine congrArg (FV.int .i64) ?_; omega)) ?_)) (by repeat (first | exact SlC.nil | refine SlC.cons (.plain rfl rfl (by first | rfl | (simp; done) | (congr 1; omega) | (simp; omega) | (simp [List.take_of_length_le]; done) | (refine congrArg (FV.int .i64) ?_; omega))) ?_ | refine SlC.cons (.own rfl (.head _) rfl (by first | rfl | (simp; done) | (congr 1; omega) | (simp; omega) | (simp [List.take_of_length_le]; done) | (refine congrArg (FV.int .i64) ?_; omega))) ?_)))
          · have hst : stepW E O tg ab kk v C w = if walkOf O tg ab kk v w ≠ [] ∧ (C = [] ∨ lessB (walkOf O tg ab kk v w) C = true) then walkOf O tg ab kk v w else C := by
              unfold stepW
              by_cases q : walkOf O tg ab kk v w ≠ [] ∧ (C = [] ∨ lessB (walkOf O tg ab kk v w) C = true)
              · rw [if_pos ⟨hld, q⟩, if_pos q]
              · rw [if_neg (fun q2 => q q2.2), if_neg q]
            rw [hst] at hcs
            have hWl : (walkOf O tg ab kk v w).length ≤ k + 1 := walkOf_len hwr
            rcases hW : walkOf O tg ab kk v w with _ | ⟨x, r⟩
            · rw [hW, if_neg (fun q => q.1 rfl)] at hcs
              (repeat (first | refine FW.seq ?_ | refine FW.region ?_ | refine FW.skip ?_ | refine FW.condF rfl ?_ | refine RunN.nil ?_ | refine rn_assign rfl rfl rfl ?_ | refine rn_move rfl rfl rfl ?_ | refine rn_pickF rfl rfl rfl rfl ?_ | refine rn_gtr rfl rfl rfl rfl ?_ | refine rn_lenNil rfl rfl rfl rfl ?_ | refine rn_add rfl rfl (by omega) rfl rfl ?_ | refine rn_skip rfl rfl ⟨_, _, rfl, rfl, rfl⟩ ?_))
              refine ⟨w + 1, by omega, by omega, ?_⟩
              rw [hcs, hY]
              exact (FLe.conv [⟨100, some 100, 0, ⟨0, .own, 22, 1, Y.map wrow⟩⟩] (by simp) (by simp) rfl (by repeat (first | exact GhOk.nil | refine GhOk.low rfl ?_ | refine GhOk.same rfl ?_ | refine GhOk.bump (Nat.lt_succ_self _) ?_)) (by repeat (first | exact EntsOk.nil | refine EntsOk.old rfl (by decide) (by first | rfl | (simp; done) | (congr 1; omega) | (simp; omega) | (simp [List.take_of_length_le]; done) | (refine congrArg (FV.int .i64) ?_; omega)) ?_)) (by repeat (first | exact SlC.nil | refine SlC.cons (.plain rfl rfl (by first | rfl | (simp; done) | (congr 1; omega) | (simp; omega) | (simp [List.take_of_length_le]; done) | (refine congrArg (FV.int .i64) ?_; omega))) ?_ | refine SlC.cons (.own rfl (.head _) rfl (by first | rfl | (simp; done) | (congr 1; omega) | (simp; omega) | (simp [List.take_of_length_le]; done) | (refine congrArg (FV.int .i64) ?_; omega))) ?_)))
            · rw [hW] at hcs hWl
              have hpos : decide ((((x :: r).length : Nat) : Int) > 0) = true := by simp
              (repeat (first | refine FW.seq ?_ | refine FW.region ?_ | refine rn_move rfl rfl rfl ?_ | refine rn_gtr rfl rfl rfl rfl ?_ | refine rn_lenList rfl rfl (by first | exact List.length_map _ | exact (List.length_map _).symm | exact List.length_replicate | rfl | (simp; done) | omega | (simp; omega)) rfl rfl ?_))
              rw [hpos]
              (repeat (first | refine rn_move rfl rfl ⟨_, _, rfl, rfl, rfl⟩ ?_ | refine rn_indexO rfl rfl (by first | rfl | exact (Int.toNat_of_nonneg (by omega)).symm) rfl rfl rfl (by decide) rfl (by first | omega | (simp; omega) | (simp; done)) rfl ⟨_, _, rfl, rfl, rfl⟩ ?_ | refine rn_loadP rfl rfl rfl rfl rfl (by first | omega | (simp; omega) | (simp; done)) (by first | exact getD_map (by omega) | rfl) rfl rfl rfl ⟨_, _, rfl, rfl, rfl⟩ ?_))
              rw [hYn]
              rcases C with _ | ⟨y, s⟩
              · rw [if_pos ⟨List.cons_ne_nil _ _, .inl rfl⟩] at hcs
                (repeat (first | refine FW.region ?_ | refine FW.condT rfl ?_ | refine RunN.nil ?_ | refine rn_assign rfl rfl rfl ?_ | refine rn_move rfl rfl rfl ?_ | refine rn_pickT rfl rfl rfl rfl ?_ | refine rn_indexO rfl rfl (by first | rfl | exact (Int.toNat_of_nonneg (by omega)).symm) rfl rfl rfl (by decide) rfl (by first | omega | (simp; omega) | (simp; done)) rfl rfl ?_ | refine rn_storeR rfl rfl rfl rfl rfl rfl (by first | omega | (simp; omega) | (simp; done)) (by first | exact getD_map (by omega) | rfl) rfl rfl rfl ?_ | refine rn_add rfl rfl (by omega) rfl rfl ?_ | refine rn_move rfl rfl ⟨_, _, rfl, rfl, rfl⟩ ?_ | refine rn_eql rfl rfl rfl ⟨_, _, rfl, rfl, rfl⟩ ?_ | refine rn_lenNil rfl rfl rfl ⟨_, _, rfl, rfl, rfl⟩ ?_ | refine rn_pickT rfl rfl rfl ⟨_, _, rfl, rfl, rfl⟩ ?_ | refine rn_skip rfl rfl ⟨_, _, rfl, rfl, rfl⟩ ?_))
                rw [show (wrow (nth Y v)).set 0 (wcell (x :: r)) = wrow (x :: r) from rfl, ← List.map_set, hYs]
                refine ⟨w + 1, by omega, by omega, ?_⟩
                rw [hcs]
                obtain ⟨Q, hQ⟩ : ∃ Q, (X.set v (x :: r)).map wrow = Q := ⟨_, rfl⟩
                rw [hQ]
                exact (FLe.conv [⟨100, some 100, 0, ⟨0, .own, 22, 1, Q⟩⟩] (by simp) (by simp) rfl (by repeat (first | exact GhOk.nil | refine GhOk.low rfl ?_ | refine GhOk.same rfl ?_ | refine GhOk.bump (Nat.lt_succ_self _) ?_)) (by repeat (first | exact EntsOk.nil | refine EntsOk.old rfl (by decide) (by first | rfl | (simp; done) | (congr 1; omega) | (simp; omega) | (simp [List.take_of_length_le]; done) | (refine congrArg (FV.int .i64) ?_; omega)) ?_)) (by repeat (first | exact SlC.nil | refine SlC.cons (.plain rfl rfl (by first | rfl | (simp; done) | (congr 1; omega) | (simp; omega) | (simp [List.take_of_length_le]; done) | (refine congrArg (FV.int .i64) ?_; omega))) ?_ | refine SlC.cons (.own rfl (.head _) rfl (by first | rfl | (simp; done) | (congr 1; omega) | (simp; omega) | (simp [List.take_of_length_le]; done) | (refine congrArg (FV.int .i64) ?_; omega))) ?_)))
              · (repeat (first | refine rn_move rfl rfl ⟨_, _, rfl, rfl, rfl⟩ ?_ | refine rn_eql rfl rfl rfl ⟨_, _, rfl, rfl, rfl⟩ ?_ | refine rn_indexO rfl rfl (by first | rfl | exact (Int.toNat_of_nonneg (by omega)).symm) rfl rfl rfl (by decide) rfl (by first | omega | (simp; omega) | (simp; done)) rfl ⟨_, _, rfl, rfl, rfl⟩ ?_ | refine rn_loadP rfl rfl rfl rfl rfl (by first | omega | (simp; omega) | (simp; done)) (by first | exact getD_map (by omega) | rfl) rfl rfl rfl ⟨_, _, rfl, rfl, rfl⟩ ?_ | refine rn_lenList rfl rfl (by first | exact List.length_map _ | exact (List.length_map _).symm | exact List.length_replicate | rfl | (simp; done) | omega | (simp; omega)) rfl ⟨_, _, rfl, rfl, rfl⟩ ?_))
                rw [hYn]
                refine rn_call (less_spec (x :: r) (y :: s) (by omega) (by omega)) (by repeat (first | exact ArgsR.nil | refine ArgsR.cons (by first | exact ArgR.plain rfl rfl) ?_)) rfl ⟨_, _, rfl, rfl, rfl⟩ ?_
                (repeat (first | refine RunN.nil ?_ | refine rn_pickT rfl rfl rfl rfl ?_ | refine rn_pickF rfl rfl rfl ⟨_, _, rfl, rfl, rfl⟩ ?_))
                refine FW.cond rfl (fun h1 => ?_) (fun h1 => ?_)
                · rw [if_pos ⟨List.cons_ne_nil _ _, .inr h1⟩] at hcs
                  (repeat (first | refine FW.region ?_ | refine RunN.nil ?_ | refine rn_assign rfl rfl rfl ?_ | refine rn_move rfl rfl rfl ?_ | refine rn_indexO rfl rfl (by first | rfl | exact (Int.toNat_of_nonneg (by omega)).symm) rfl rfl rfl (by decide) rfl (by first | omega | (simp; omega) | (simp; done)) rfl rfl ?_ | refine rn_storeR rfl rfl rfl rfl rfl rfl (by first | omega | (simp; omega) | (simp; done)) (by first | exact getD_map (by omega) | rfl) rfl rfl rfl ?_ | refine rn_add rfl rfl (by omega) rfl rfl ?_))
                  rw [show (wrow (nth Y v)).set 0 (wcell (x :: r)) = wrow (x :: r) from rfl, ← List.map_set, hYs]
                  refine ⟨w + 1, by omega, by omega, ?_⟩
                  rw [hcs]
                  obtain ⟨Q, hQ⟩ : ∃ Q, (X.set v (x :: r)).map wrow = Q := ⟨_, rfl⟩
                  rw [hQ]
                  exact (FLe.conv [⟨100, some 100, 0, ⟨0, .own, 22, 1, Q⟩⟩] (by simp) (by simp) rfl (by repeat (first | exact GhOk.nil | refine GhOk.low rfl ?_ | refine GhOk.same rfl ?_ | refine GhOk.bump (Nat.lt_succ_self _) ?_)) (by repeat (first | exact EntsOk.nil | refine EntsOk.old rfl (by decide) (by first | rfl | (simp; done) | (congr 1; omega) | (simp; omega) | (simp [List.take_of_length_le]; done) | (refine congrArg (FV.int .i64) ?_; omega)) ?_)) (by repeat (first | exact SlC.nil | refine SlC.cons (.plain rfl rfl (by first | rfl | (simp; done) | (congr 1; omega) | (simp; omega) | (simp [List.take_of_length_le]; done) | (refine congrArg (FV.int .i64) ?_; omega))) ?_ | refine SlC.cons (.own rfl (.head _) rfl (by first | rfl | (simp; done) | (congr 1; omega) | (simp; omega) | (simp [List.take_of_length_le]; done) | (refine congrArg (FV.int .i64) ?_; omega))) ?_)))
                · rw [if_neg (fun q => by rcases q.2 with q | q; cases q; rw [h1] at q; cases q)] at hcs
                  (repeat (first | refine FW.region ?_ | refine FW.skip ?_ | refine RunN.nil ?_ | refine rn_assign rfl rfl rfl ?_ | refine rn_move rfl rfl rfl ?_ | refine rn_add rfl rfl (by omega) rfl rfl ?_))
                  refine ⟨w + 1, by omega, by omega, ?_⟩
                  rw [hcs, hY]
                  exact (FLe.conv [⟨100, some 100, 0, ⟨0, .own, 22, 1, Y.map wrow⟩⟩] (by simp) (by simp) rfl (by repeat (first | exact GhOk.nil | refine GhOk.low rfl ?_ | refine GhOk.same rfl ?_ | refine GhOk.bump (Nat.lt_succ_self _) ?_)) (by repeat (first | exact EntsOk.nil | refine EntsOk.old rfl (by decide) (by first | rfl | (simp; done) | (congr 1; omega) | (simp; omega) | (simp [List.take_of_length_le]; done) | (refine congrArg (FV.int .i64) ?_; omega)) ?_)) (by repeat (first | exact SlC.nil | refine SlC.cons (.plain rfl rfl (by first | rfl | (simp; done) | (congr 1; omega) | (simp; omega) | (simp [List.take_of_length_le]; done) | (refine congrArg (FV.int .i64) ?_; omega))) ?_ | refine SlC.cons (.own rfl (.head _) rfl (by first | rfl | (simp; done) | (congr 1; omega) | (simp; omega) | (simp [List.take_of_length_le]; done) | (refine congrArg (FV.int .i64) ?_; omega))) ?_)))
      · obtain rfl : w = n := by simp at h; omega
        rw [hC] at hXs
        (repeat (first | refine FW.region ?_ | refine FW.exit ?_ | refine RunN.nil ?_ | refine rn_assign rfl rfl rfl ?_ | refine rn_move rfl rfl rfl ?_ | refine rn_add rfl rfl (by omega) rfl rfl ?_))
        refine ⟨v + 1, by omega, by omega, ?_⟩
        rw [← hXs, hY]
        exact (FLe.conv [⟨100, some 100, 0, ⟨0, .own, 22, 1, Y.map wrow⟩⟩] (by simp) (by simp) rfl (by repeat (first | exact GhOk.nil | refine GhOk.low rfl ?_ | refine GhOk.same rfl ?_ | refine GhOk.bump (Nat.lt_succ_self _) ?_)) (by repeat (first | exact EntsOk.nil | refine EntsOk.old rfl (by decide) (by first | rfl | (simp; done) | (congr 1; omega) | (simp; omega) | (simp [List.take_of_length_le]; done) | (refine congrArg (FV.int .i64) ?_; omega)) ?_)) (by repeat (first | exact SlC.nil | refine SlC.cons (.plain rfl rfl (by first | rfl | (simp; done) | (congr 1; omega) | (simp; omega) | (simp [List.take_of_length_le]; done) | (refine congrArg (FV.int .i64) ?_; omega))) ?_ | refine SlC.cons (.own rfl (.head _) rfl (by first | rfl | (simp; done) | (congr 1; omega) | (simp; omega) | (simp [List.take_of_length_le]; done) | (refine congrArg (FV.int .i64) ?_; omega))) ?_)))
    · obtain rfl : v = n := by simp at h; omega
      (repeat (first | refine FW.region ?_ | refine FW.exit ?_ | refine RunN.nil ?_ | refine rn_assign rfl rfl rfl ?_ | refine rn_move rfl rfl rfl ?_ | refine rn_add rfl rfl (by omega) rfl rfl ?_))
      refine ⟨k + 1, by omega, by omega, ?_⟩
      rw [hkk, hws]
      have hNl := nextTo_len E O tg ab kk v v
      generalize nextTo E O tg ab kk v v = N at hNl
      refine (FLe.share 11 rfl rfl (by rw [List.length_map, hNl])).trans ?_
      exact (FLe.conv [] (by simp) (by simp) rfl (by repeat (first | exact GhOk.nil | refine GhOk.low rfl ?_ | refine GhOk.same rfl ?_ | refine GhOk.bump (Nat.lt_succ_self _) ?_)) (by repeat (first | exact EntsOk.nil)) (by repeat (first | exact SlC.nil | refine SlC.cons (.plain rfl rfl (by first | rfl | (simp; done) | (congr 1; omega) | (simp; omega) | (simp [List.take_of_length_le]; done) | (refine congrArg (FV.int .i64) ?_; omega))) ?_)))
  · obtain rfl : k = len := by simp at h; omega
    (repeat (first | refine FW.seq ?_ | refine FW.region ?_ | refine FW.exit ?_ | refine RunN.nil ?_ | refine rn_assign rfl rfl rfl ?_ | refine rn_move rfl rfl rfl ?_))
    exact FW.ret ⟨.inl rfl, .sh (.cons (.tmp 10 rfl rfl) .nil) rfl rfl⟩
def cycAt (E : List (Nat × Nat)) (n len s : Nat) : List Int := nth (walksTo E s s n len) s
def cycRow (E : List (Nat × Nat)) (n len : Nat) : Nat → Nat → List Int
  | 0, _ => []
  | k + 1, s => if cycAt E n len s = [] then cycRow E n len k (s + 1) else cycAt E n len s
def cycFrom (E : List (Nat × Nat)) (n : Nat) : Nat → Nat → List Int
  | 0, _ => []
  | k + 1, len => if cycRow E n len n 0 = [] then cycFrom E n k (len + 1) else cycRow E n len n 0
def rCycle (E : List (Nat × Nat)) (n : Nat) : List Int := cycFrom E n n 1
set_option maxHeartbeats 4000000 in
theorem rCycle_spec (n : Nat) (E : List (Nat × Nat)) (hn : n ≤ 900) (hE : E.length ≤ 1000000) : Spec Try.prog 40 [.int .i64 n, .list 2 (E.map edf)] .sh (.list 1 ((rCycle E n).map intf)) := by
  obtain ⟨R, hR⟩ : ∃ R, rCycle E n = R := ⟨_, rfl⟩
  rw [hR]
  refine Spec.of_body (c := (cxOf Try.prog tyAt_ok mixed_ok 31)) ⟨Try.func40, rfl, Try.ntmps40, by kernel_rfl⟩ (by simp [FV.hand]) (by exact Nat.le_of_ble_eq_true rfl) rfl ?_
  change FW _ _ _ ⟨[(0, .int .i64 n), (1, .list 2 (E.map edf))], []⟩
  (repeat (first | refine FW.seq ?_ | refine FW.region ?_ | refine FW.block ?_ | refine RunN.nil ?_ | refine rn_assign rfl rfl rfl ?_))
  refine FW.loop (fun k : Nat => ⟨[(0, .int .i64 n), (1, .list 2 (E.map edf)), (5, .int .i64 (k + 1 : Nat))], []⟩) (fun k => k ≤ n ∧ cycFrom E n (n - k) (k + 1) = R) (fun k => n - k) 0 ⟨Nat.zero_le _, hR⟩ (FLe.conv [] (by simp) (by simp) rfl (by repeat (first | exact GhOk.nil | refine GhOk.low rfl ?_ | refine GhOk.same rfl ?_ | refine GhOk.bump (Nat.lt_succ_self _) ?_)) (by repeat (first | exact EntsOk.nil)) (by repeat (first | exact SlC.nil | refine SlC.cons (.plain rfl rfl (by first | rfl | (simp; done) | (congr 1; omega) | (simp; omega) | (simp [List.take_of_length_le]; done) | (refine congrArg (FV.int .i64) ?_; omega))) ?_))) ?_
  clear hR
  rintro k ⟨hk, hR⟩
  (repeat (first | refine FW.seq ?_ | refine FW.region ?_ | refine RunN.nil ?_ | refine rn_move rfl rfl rfl ?_ | refine rn_leq rfl rfl rfl rfl ?_))
  refine FW.cond rfl (fun h => ?_) (fun h => ?_)
  · have hlt : k < n := by simp at h; omega
    clear h
    rw [show n - k = (n - (k + 1)) + 1 by omega] at hR
    unfold cycFrom at hR
    obtain ⟨len, hlen⟩ : ∃ len, k + 1 = len := ⟨_, rfl⟩
    rw [hlen] at hR ⊢
    obtain ⟨A, hA⟩ : ∃ A, cycRow E n len n 0 = A := ⟨_, rfl⟩
    rw [hA] at hR
    (repeat (first | refine FW.seq ?_ | refine FW.region ?_ | refine FW.block ?_ | refine FW.skip ?_ | refine RunN.nil ?_ | refine rn_assign rfl rfl rfl ?_))
    refine FW.loop (fun s : Nat => ⟨[(0, .int .i64 n), (1, .list 2 (E.map edf)), (5, .int .i64 len), (6, .int .i64 s)], []⟩) (fun s => s ≤ n ∧ cycRow E n len (n - s) s = A) (fun s => n - s) 0 ⟨Nat.zero_le _, hA⟩ (FLe.conv [] (by simp) (by simp) rfl (by repeat (first | exact GhOk.nil | refine GhOk.low rfl ?_ | refine GhOk.same rfl ?_ | refine GhOk.bump (Nat.lt_succ_self _) ?_)) (by repeat (first | exact EntsOk.nil)) (by repeat (first | exact SlC.nil | refine SlC.cons (.plain rfl rfl (by first | rfl | (simp; done) | (congr 1; omega) | (simp; omega) | (simp [List.take_of_length_le]; done) | (refine congrArg (FV.int .i64) ?_; omega))) ?_))) ?_
    clear hA
    rintro s ⟨hs, hS⟩
    (repeat (first | refine FW.seq ?_ | refine FW.region ?_ | refine RunN.nil ?_ | refine rn_move rfl rfl rfl ?_ | refine rn_lss rfl rfl rfl rfl ?_))
    refine FW.cond rfl (fun h => ?_) (fun h => ?_)
    · have hsn : s < n := by simpa using h
      clear h
      rw [show n - s = (n - (s + 1)) + 1 by omega] at hS
      unfold cycRow at hS
      (repeat (first | refine FW.seq ?_ | refine FW.region ?_ | refine FW.block ?_ | refine FW.skip ?_ | refine rn_move rfl rfl rfl ?_))
      refine rn_callS (walks_spec n E s s len (by omega) hE (by omega) (by omega) (by omega)) (by repeat (first | exact ArgsR.nil | refine ArgsR.cons (by first | exact ArgR.plain rfl rfl) ?_)) rfl rfl ?_
      have hwl := walksTo_len E s s n len
      have hwr := walksTo_rl E s s n len
      have hca : cycAt E n len s = nth (walksTo E s s n len) s := rfl
      generalize walksTo E s s n len = W at hwl hwr hca
      have hrl : (nth W s).length ≤ len := hwr _ (nth_mem (by omega))
      (repeat (first | refine FW.seq ?_ | refine FW.region ?_ | refine RunN.nil ?_ | refine rn_assign rfl rfl rfl ?_ | refine rn_move rfl rfl rfl ?_ | refine rn_indexL rfl rfl (by first | rfl | exact (Int.toNat_of_nonneg (by omega)).symm) rfl rfl rfl (by first | omega | (simp; omega) | (simp; done)) rfl rfl ?_ | refine rn_loadE rfl rfl rfl (by first | omega | (simp; omega) | (simp; done)) (by first | exact getD_map (by omega) | rfl) rfl rfl rfl rfl ?_))
      rcases hWs : nth W s with _ | ⟨x, r⟩
      · rw [hWs] at hca
        rw [hca, if_pos rfl] at hS
        (repeat (first | refine FW.region ?_ | refine FW.skip ?_ | refine FW.condF rfl ?_ | refine RunN.nil ?_ | refine rn_assign rfl rfl rfl ?_ | refine rn_move rfl rfl rfl ?_ | refine rn_lenNil rfl rfl rfl rfl ?_ | refine rn_gtr rfl rfl rfl rfl ?_ | refine rn_add rfl rfl (by omega) rfl rfl ?_))
        exact ⟨s + 1, ⟨by omega, hS⟩, by omega, (FLe.conv [] (by simp) (by simp) rfl (by repeat (first | exact GhOk.nil | refine GhOk.low rfl ?_ | refine GhOk.same rfl ?_ | refine GhOk.bump (Nat.lt_succ_self _) ?_)) (by repeat (first | exact EntsOk.nil)) (by repeat (first | exact SlC.nil | refine SlC.cons (.plain rfl rfl (by first | rfl | (simp; done) | (congr 1; omega) | (simp; omega) | (simp [List.take_of_length_le]; done) | (refine congrArg (FV.int .i64) ?_; omega))) ?_)))⟩
      · rw [hWs] at hca
        rw [hca, if_neg (List.cons_ne_nil _ _)] at hS
        rw [← hS, if_neg (List.cons_ne_nil _ _)] at hR
        have hpos : decide ((((x :: r).length : Nat) : Int) > 0) = true := by simp
        (repeat (first | refine RunN.nil ?_ | refine rn_lenList rfl rfl (by first | exact List.length_map _ | exact (List.length_map _).symm | exact List.length_replicate | rfl | (simp; done) | omega | (simp; omega)) rfl rfl ?_ | refine rn_gtr rfl rfl rfl rfl ?_))
        rw [hpos]
        (repeat (first | refine FW.seq ?_ | refine FW.region ?_ | refine FW.condT rfl ?_ | refine RunN.nil ?_ | refine rn_assign rfl rfl rfl ?_ | refine rn_move rfl rfl rfl ?_))
        rw [← hR]
        exact FW.ret ⟨.inl rfl, .sh (.cons (.tmp 4 rfl rfl) .nil) rfl rfl⟩
    · obtain rfl : s = n := by simp at h; omega
      rw [Nat.sub_self] at hS
      have hA0 : A = [] := hS.symm
      rw [if_pos hA0] at hR
      (repeat (first | refine FW.region ?_ | refine FW.exit ?_ | refine RunN.nil ?_ | refine rn_assign rfl rfl rfl ?_ | refine rn_move rfl rfl rfl ?_ | refine rn_add rfl rfl (by omega) rfl rfl ?_))
      exact ⟨k + 1, ⟨by omega, by rw [hlen]; exact hR⟩, by omega, (FLe.conv [] (by simp) (by simp) rfl (by repeat (first | exact GhOk.nil | refine GhOk.low rfl ?_ | refine GhOk.same rfl ?_ | refine GhOk.bump (Nat.lt_succ_self _) ?_)) (by repeat (first | exact EntsOk.nil)) (by repeat (first | exact SlC.nil | refine SlC.cons (.plain rfl rfl (by first | rfl | (simp; done) | (congr 1; omega) | (simp; omega) | (simp [List.take_of_length_le]; done) | (refine congrArg (FV.int .i64) ?_; omega))) ?_)))⟩
  · obtain rfl : k = n := by simp at h; omega
    rw [Nat.sub_self] at hR
    subst hR
    (repeat (first | refine FW.seq ?_ | refine FW.region ?_ | refine FW.exit ?_ | refine RunN.nil ?_ | refine rn_assign rfl rfl rfl ?_))
    refine FW.le (s' := ⟨[(4, .list 1 [])], []⟩) ?_ (FLe.conv [] (by simp) (by simp) rfl (by repeat (first | exact GhOk.nil | refine GhOk.low rfl ?_ | refine GhOk.same rfl ?_ | refine GhOk.bump (Nat.lt_succ_self _) ?_)) (by repeat (first | exact EntsOk.nil)) (by repeat (first | exact SlC.nil | refine SlC.cons (.nilList rfl) ?_)))
    exact FW.ret ⟨.inl rfl, .sh (.cons (.tmp 4 rfl rfl) .nil) rfl rfl⟩
end Go.Proofs.Ytflkbehbenlhaaa
