/-
  simprooflaw03.GraphTopo answers true for every input (walked on plain values).
-/
import Derived.Test.YtflkbehbenlhaaaZFmLives03
namespace Go.Proofs.Ytflkbehbenlhaaa
set_option linter.unusedVariables false
open Go.RowKit

theorem around_nat (n : Int) (m : Nat) (hm : 0 < m) : ∃ k : Nat, around n m = k ∧ k < m := ⟨(around n m).toNat, by have := around_lo (n := n) (most := m) (by omega); omega, by have := around_lo (n := n) (most := m) (by omega); have := around_hi (n := n) (most := m) (by omega); omega⟩
theorem rForward_in (n : Nat) (l : List Int) : InN n (rForward n l) := fwdTo_in (rEdges_in n l) _
theorem rForward_len (n : Nat) (l : List Int) : (rForward n l).length ≤ 18 := by unfold rForward; rw [fwdTo_len]; exact rEdges_len n l
def resL : Option (List Int) → List Int
  | none => []
  | some l => l
def resB : Option (List Int) → Bool
  | none => false
  | some _ => true
theorem resT_eq (r : Option (List Int)) : resT r = .tup [.list 1 ((resL r).map intf), .bool (resB r)] := by cases r <;> rfl
theorem rtK_len (E : List (Nat × Nat)) (n : Nat) : ∀ (k : Nat) (out : List Int), (resL (rtK E n k out)).length ≤ out.length + k
  | 0, out => Nat.le_refl _
  | k + 1, out => by
    unfold rtK
    split
    · exact Nat.zero_le _
    · have := rtK_len E n k (out ++ [lstK (nextB E out) n n])
      simp at this ⊢
      omega
set_option maxHeartbeats 4000000 in
theorem graphTopo_spec (n : Int) (l : List Int) (hn : I64 n) (hl : ∀ x ∈ l, I64 x) (hlen : l.length ≤ 9223372036854775807) : Spec Try.prog 6 [.int .i64 n, .list 1 (l.map intf)] .fr (.bool true) := by
  have hsize := size_spec n hn
  obtain ⟨k, hk, hk10⟩ := around_nat n 10 (by decide)
  have hk' : around n 10 = k := hk
  rw [hk'] at hsize
  refine Spec.of_body (c := (cxOf Try.prog tyAt_ok mixed_ok 53)) ⟨Try.func6, rfl, Try.ntmps6, by kernel_rfl⟩ (by simp [FV.hand]) (by exact Nat.le_of_ble_eq_true rfl) rfl ?_
  change FW _ _ _ ⟨[(0, .int .i64 n), (1, .list 1 (l.map intf))], []⟩
  (repeat (first | refine FW.seq ?_ | refine FW.region ?_ | refine RunN.nil ?_ | refine rn_assign rfl rfl rfl ?_ | refine rn_move rfl rfl rfl ?_))
  refine rn_call hsize (by repeat (first | exact ArgsR.nil | refine ArgsR.cons (by first | exact ArgR.plain rfl rfl) ?_)) rfl rfl ?_
  (repeat (first | refine FW.seq ?_ | refine FW.region ?_ | refine RunN.nil ?_ | refine rn_assign rfl rfl rfl ?_ | refine rn_move rfl rfl rfl ?_))
  refine rn_callO (rEdges_spec k l (by omega) hlen hl) (by repeat (first | exact ArgsR.nil | refine ArgsR.cons (by first | exact ArgR.plain rfl rfl) ?_)) (List.length_map _) rfl rfl rfl ?_
  refine RunN.le ?_ (FLe.share 16 rfl rfl (by rw [List.length_map]))
  (repeat (first | refine rn_move rfl rfl rfl ?_))
  refine rn_callO (rForward_spec k l (by omega) hlen hl) (by repeat (first | exact ArgsR.nil | refine ArgsR.cons (by first | exact ArgR.plain rfl rfl) ?_)) (List.length_map _) rfl rfl rfl ?_
  refine RunN.le ?_ (FLe.share 19 rfl rfl (by rw [List.length_map]))
  refine rn_buildS (es := [[.list 2 ((rEdges k l).map edf)], [.list 2 ((rForward k l).map edf)]]) rfl rfl rfl (by refine PtsS.list rfl rfl ?_; refine PtsS.list rfl rfl ?_; exact PtsS.nil) rfl rfl rfl rfl rfl rfl ?_
  obtain ⟨G, hG⟩ : ∃ G : List (List (Nat × Nat)), G = [rEdges k l, rForward k l] := ⟨_, rfl⟩
  have hGe : ([[.list 2 ((rEdges k l).map edf)], [.list 2 ((rForward k l).map edf)]] : List (List FV)) = G.map fun E => [.list 2 (E.map edf)] := by rw [hG]; rfl
  have hGl : G.length = 2 := by rw [hG]; rfl
  have hGi : ∀ E ∈ G, InN k E ∧ E.length ≤ 18 := by
    rw [hG]
    intro E hE
    simp at hE
    rcases hE with rfl | rfl
    · exact ⟨rEdges_in k l, rEdges_len k l⟩
    · exact ⟨rForward_in k l, rForward_len k l⟩
  clear hG
  rw [hGe]
  (repeat (first | refine FW.seq ?_ | refine FW.region ?_ | refine FW.block ?_ | refine RunN.nil ?_ | refine rn_assign rfl rfl rfl ?_))
  refine FW.loop (fun i : Nat => ⟨[(5, .int .i64 k), (6, .list 1 (G.map fun E => [.list 2 (E.map edf)])), (7, .int .i64 i)], []⟩) (fun i => i ≤ 2) (fun i => 2 - i) 0 (Nat.zero_le _) ((FLe.share 6 rfl rfl (by rw [List.length_map, hGl])).trans (FLe.conv [] (by simp) (by simp) rfl (by repeat (first | exact GhOk.nil | refine GhOk.low rfl ?_ | refine GhOk.same rfl ?_ | refine GhOk.bump (Nat.lt_succ_self _) ?_)) (by repeat (first | exact EntsOk.nil)) (by repeat (first | exact SlC.nil | refine SlC.cons (.plain rfl rfl (by first | rfl | (simp; done) | (congr 1; omega) | (simp; omega) | (simp [List.take_of_length_le]; done) | (refine congrArg (FV.int .i64) ?_; omega))) ?_)))) ?_
  intro i hi
  (repeat (first | refine FW.seq ?_ | refine FW.region ?_ | refine RunN.nil ?_ | refine rn_move rfl rfl rfl ?_ | refine rn_lss rfl rfl rfl rfl ?_))
  refine FW.cond rfl (fun h => ?_) (fun h => ?_)
  · have hlt : i < 2 := by simp at h; omega
    clear h
    obtain ⟨E, hE⟩ : ∃ E, nth G i = E := ⟨_, rfl⟩
    obtain ⟨hin, hel⟩ := hGi (nth G i) (nth_mem (by omega))
    rw [hE] at hin hel
    have hT := topoR_spec k E (by omega) (by omega) hin
    have hR := rTopo_spec k E (by omega) (by omega)
    rw [resT_eq] at hT hR
    have hrl := rtK_len E k k []
    generalize rtK E k k [] = r at hT hR hrl
    have hrl' : (resL r).length ≤ k := by simpa using hrl
    (repeat (first | refine FW.seq ?_ | refine FW.region ?_ | refine FW.block ?_ | refine FW.skip ?_ | refine rn_move rfl rfl rfl ?_ | refine rn_indexL rfl rfl (by first | rfl | exact (Int.toNat_of_nonneg (by omega)).symm) rfl rfl rfl (by first | omega | (simp; omega) | (simp; done)) rfl rfl ?_ | refine rn_loadE rfl rfl rfl (by first | omega | (simp; omega) | (simp; done)) (by first | exact getD_map (by omega) | rfl) rfl rfl rfl rfl ?_))
    rw [hE]
    refine rn_callS hT (by repeat (first | exact ArgsR.nil | refine ArgsR.cons (by first | exact ArgR.plain rfl rfl) ?_)) rfl rfl ?_
    (repeat (first | refine FW.seq ?_ | refine FW.region ?_ | refine RunN.nil ?_ | refine rn_assign rfl rfl rfl ?_ | refine rn_move rfl rfl rfl ?_ | refine rn_indexL rfl rfl (by first | rfl | exact (Int.toNat_of_nonneg (by omega)).symm) rfl rfl rfl (by first | omega | (simp; omega) | (simp; done)) rfl rfl ?_ | refine rn_loadE rfl rfl rfl (by first | omega | (simp; omega) | (simp; done)) (by first | exact getD_map (by omega) | rfl) rfl rfl rfl rfl ?_ | refine rn_extract rfl rfl rfl rfl rfl ?_))
    rw [hE]
    refine rn_callS hR (by repeat (first | exact ArgsR.nil | refine ArgsR.cons (by first | exact ArgR.plain rfl rfl) ?_)) rfl rfl ?_
    (repeat (first | refine FW.seq ?_ | refine FW.region ?_ | refine RunN.nil ?_ | refine rn_assign rfl rfl rfl ?_ | refine rn_move rfl rfl rfl ?_ | refine rn_extract rfl rfl rfl rfl rfl ?_ | refine rn_neqB rfl rfl rfl rfl rfl ?_))
    refine rn_case (fun h => ?_) (fun h => ?_)
    · exfalso; simp at h
    · (repeat (first | refine rn_move rfl rfl ⟨_, _, rfl, rfl, rfl⟩ ?_))
      refine rn_call (sameInts_spec (resL r) (resL r) (by omega) (by omega)) (by repeat (first | exact ArgsR.nil | refine ArgsR.cons (by first | exact ArgR.plain rfl rfl) ?_)) rfl ⟨_, _, rfl, rfl, rfl⟩ ?_
      rw [show decide (resL r = resL r) = true by simp]
      (repeat (first | refine FW.region ?_ | refine FW.skip ?_ | refine FW.condF rfl ?_ | refine RunN.nil ?_ | refine rn_assign rfl rfl rfl ?_ | refine rn_move rfl rfl rfl ?_ | refine rn_pickF rfl rfl rfl rfl ?_ | refine rn_add rfl rfl (by omega) rfl rfl ?_ | refine rn_not rfl rfl ⟨_, _, rfl, rfl, rfl⟩ ?_))
      exact ⟨i + 1, by omega, by omega, (FLe.conv [] (by simp) (by simp) rfl (by repeat (first | exact GhOk.nil | refine GhOk.low rfl ?_ | refine GhOk.same rfl ?_ | refine GhOk.bump (Nat.lt_succ_self _) ?_)) (by repeat (first | exact EntsOk.nil)) (by repeat (first | exact SlC.nil | refine SlC.cons (.plain rfl rfl (by first | rfl | (simp; done) | (congr 1; omega) | (simp; omega) | (simp [List.take_of_length_le]; done) | (refine congrArg (FV.int .i64) ?_; omega))) ?_)))⟩
  · (repeat (first | refine FW.seq ?_ | refine FW.region ?_ | refine FW.exit ?_))
    refine rn_call lives03_spec (by repeat (first | exact ArgsR.nil)) rfl rfl ?_
    (repeat (first | refine RunN.nil ?_ | refine rn_assign rfl rfl rfl ?_))
    exact FW.ret ⟨.inl rfl, ret_flat rfl rfl rfl rfl⟩
end Go.Proofs.Ytflkbehbenlhaaa
