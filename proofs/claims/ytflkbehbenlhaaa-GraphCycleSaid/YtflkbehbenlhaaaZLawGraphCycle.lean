/-
  simprooflaw03.GraphCycle answers true for every input (walked on plain values).
-/
import Derived.Test.YtflkbehbenlhaaaZLawGraphTopo
namespace Go.Proofs.Ytflkbehbenlhaaa
set_option linter.unusedVariables false
open Go.RowKit

theorem cyc_len {n : Nat} {E : List (Nat × Nat)} (h : InN n E) : (rCycle E n).length ≤ n := by
  rw [← cycle_eq h]
  exact cycB_len h (Nat.le_refl n)
set_option maxHeartbeats 4000000 in
theorem graphCycle_spec (n : Int) (l : List Int) (hn : I64 n) (hl : ∀ x ∈ l, I64 x) (hlen : l.length ≤ 9223372036854775807) : Spec Try.prog 7 [.int .i64 n, .list 1 (l.map intf)] .fr (.bool true) := by
  have hsize := size_spec n hn
  obtain ⟨k, hk, hk10⟩ := around_nat n 10 (by decide)
  have hk' : around n 10 = k := hk
  rw [hk'] at hsize
  have hA := rEdges_in k l
  have hAl := rEdges_len k l
  have hB := rForward_in k l
  have hBl := rForward_len k l
  refine Spec.of_body (c := (cxOf Try.prog tyAt_ok mixed_ok 35)) ⟨Try.func7, rfl, Try.ntmps7, by kernel_rfl⟩ (by simp [FV.hand]) (by exact Nat.le_of_ble_eq_true rfl) rfl ?_
  change FW _ _ _ ⟨[(0, .int .i64 n), (1, .list 1 (l.map intf))], []⟩
  (repeat (first | refine FW.seq ?_ | refine FW.region ?_ | refine RunN.nil ?_ | refine rn_assign rfl rfl rfl ?_ | refine rn_move rfl rfl rfl ?_))
  refine rn_call hsize (by repeat (first | exact ArgsR.nil | refine ArgsR.cons (by first | exact ArgR.plain rfl rfl) ?_)) rfl rfl ?_
  (repeat (first | refine FW.seq ?_ | refine FW.region ?_ | refine RunN.nil ?_ | refine rn_assign rfl rfl rfl ?_ | refine rn_move rfl rfl rfl ?_))
  refine rn_callO (rEdges_spec k l (by omega) hlen hl) (by repeat (first | exact ArgsR.nil | refine ArgsR.cons (by first | exact ArgR.plain rfl rfl) ?_)) (List.length_map _) rfl rfl rfl ?_
  refine RunN.le ?_ (FLe.share 12 rfl rfl (by rw [List.length_map]))
  (repeat (first | refine FW.seq ?_ | refine FW.region ?_ | refine RunN.nil ?_ | refine rn_assign rfl rfl rfl ?_ | refine rn_move rfl rfl rfl ?_))
  refine rn_callO (rForward_spec k l (by omega) hlen hl) (by repeat (first | exact ArgsR.nil | refine ArgsR.cons (by first | exact ArgR.plain rfl rfl) ?_)) (List.length_map _) rfl rfl rfl ?_
  refine RunN.le ?_ (FLe.share 15 rfl rfl (by rw [List.length_map]))
  have hc1 := cyc_len hA
  have hc2 := cyc_len hB
  have hC1 := cycleR_spec k (rEdges k l) (by omega) (by omega) hA
  have hC2 := cycleR_spec k (rForward k l) (by omega) (by omega) hB
  have hR1 := rCycle_spec k (rEdges k l) (by omega) (by omega)
  have hR2 := rCycle_spec k (rForward k l) (by omega) (by omega)
  generalize rEdges k l = A at hA hAl hc1 hC1 hR1
  generalize rForward k l = B at hB hBl hc2 hC2 hR2
  generalize rCycle A k = a at hc1 hC1 hR1
  generalize rCycle B k = b at hc2 hC2 hR2
  (repeat (first | refine FW.seq ?_ | refine FW.region ?_ | refine RunN.nil ?_ | refine rn_assign rfl rfl rfl ?_ | refine rn_move rfl rfl rfl ?_))
  refine rn_callS hC1 (by repeat (first | exact ArgsR.nil | refine ArgsR.cons (by first | exact ArgR.plain rfl rfl) ?_)) rfl rfl ?_
  (repeat (first | refine rn_move rfl rfl rfl ?_))
  refine rn_callS hR1 (by repeat (first | exact ArgsR.nil | refine ArgsR.cons (by first | exact ArgR.plain rfl rfl) ?_)) rfl rfl ?_
  refine rn_call (sameInts_spec a a (by omega) (by omega)) (by repeat (first | exact ArgsR.nil | refine ArgsR.cons (by first | exact ArgR.plain rfl rfl) ?_)) rfl rfl ?_
  rw [show decide (a = a) = true by simp]
  (repeat (first | refine rn_move rfl rfl rfl ?_ | refine rn_move rfl rfl ⟨_, _, rfl, rfl, rfl⟩ ?_))
  refine rn_callS hC2 (by repeat (first | exact ArgsR.nil | refine ArgsR.cons (by first | exact ArgR.plain rfl rfl) ?_)) rfl ⟨_, _, rfl, rfl, rfl⟩ ?_
  (repeat (first | refine rn_move rfl rfl ⟨_, _, rfl, rfl, rfl⟩ ?_))
  refine rn_callS hR2 (by repeat (first | exact ArgsR.nil | refine ArgsR.cons (by first | exact ArgR.plain rfl rfl) ?_)) rfl ⟨_, _, rfl, rfl, rfl⟩ ?_
  refine rn_call (sameInts_spec b b (by omega) (by omega)) (by repeat (first | exact ArgsR.nil | refine ArgsR.cons (by first | exact ArgR.plain rfl rfl) ?_)) rfl ⟨_, _, rfl, rfl, rfl⟩ ?_
  rw [show decide (b = b) = true by simp]
  (repeat (first | refine rn_move rfl rfl rfl ?_ | refine rn_pickT rfl rfl rfl rfl ?_))
  refine rn_call lives03_spec (by repeat (first | exact ArgsR.nil)) rfl ⟨_, _, rfl, rfl, rfl⟩ ?_
  (repeat (first | refine RunN.nil ?_ | refine rn_assign rfl rfl rfl ?_ | refine rn_pickT rfl rfl rfl rfl ?_))
  exact FW.ret ⟨.inl rfl, ret_flat rfl rfl rfl rfl⟩
end Go.Proofs.Ytflkbehbenlhaaa
