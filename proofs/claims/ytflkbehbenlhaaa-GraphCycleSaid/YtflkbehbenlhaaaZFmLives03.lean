/-
  The examples of layer 3; graph.Topo and graph.Cycle as the reference has them.
-/
import Derived.Test.YtflkbehbenlhaaaZFmTopo
import Derived.Test.YtflkbehbenlhaaaZM
import Derived.Test.YtflkbehbenlhaaaZCycRef
namespace Go.Proofs.Ytflkbehbenlhaaa
set_option linter.unusedVariables false
open Go.RowKit

theorem topoR_spec (n : Nat) (E : List (Nat × Nat)) (hn : n ≤ 300) (hE : E.length ≤ 100000) (hin : InN n E) : Spec Try.prog 36 [.int .i64 n, .list 2 (E.map edf)] .sh (resT (rtK E n n [])) := by
  rw [topo_eq hin]
  have := topo_spec n E hn hE hin
  by_cases h : (topoEnd n E).length < n
  · rw [if_pos h, show decide ((topoEnd n E).length < n) = true by simpa using h] at this
    rw [if_pos h]; exact this
  · rw [if_neg h, show decide ((topoEnd n E).length < n) = false by simpa using h] at this
    rw [if_neg h]; exact this
theorem cycleR_spec (n : Nat) (E : List (Nat × Nat)) (hn : n ≤ 12) (hE : E.length ≤ 1000) (hin : InN n E) : Spec Try.prog 39 [.int .i64 n, .list 2 (E.map edf)] .sh (.list 1 ((rCycle E n).map intf)) := by
  rw [← cycle_eq hin]; exact cycle_spec n E hn hE hin
theorem ex_topo : rtK [(2, 0), (2, 1)] 3 3 [] = some [2, 0, 1] := by decide +kernel
theorem ex_cycle : rCycle [(0, 1), (1, 2), (2, 0), (1, 1)] 3 = [1] := by decide +kernel
theorem inN_of {n : Nat} {E : List (Nat × Nat)} (h : E.all (fun e => Nat.blt e.1 n && Nat.blt e.2 n) = true) : InN n E := fun e he => by
  have := List.all_eq_true.1 h e he
  simpa using this
set_option maxHeartbeats 4000000 in
theorem lives03_spec : Spec Try.prog 38 [] .fr (.bool true) := by
  have hT := topoR_spec 3 [(2, 0), (2, 1)] (by decide) (by decide) (inN_of rfl)
  rw [ex_topo] at hT
  have hC := cycleR_spec 3 [(0, 1), (1, 2), (2, 0), (1, 1)] (by decide) (by decide) (inN_of rfl)
  rw [ex_cycle] at hC
  refine Spec.of_body (c := (cxOf Try.prog tyAt_ok mixed_ok 28)) ⟨Try.func38, rfl, Try.ntmps38, by kernel_rfl⟩ (by simp [FV.hand]) (by exact Nat.le_of_ble_eq_true rfl) rfl ?_
  change FW _ _ _ ⟨[], []⟩
  (repeat (first | refine FW.seq ?_ | refine FW.region ?_ | refine RunN.nil ?_ | refine rn_assign rfl rfl rfl ?_ | refine rn_buildA2 rfl rfl rfl rfl rfl rfl rfl rfl rfl ?_))
  refine rn_buildS (es := [edf (2, 0), edf (2, 1)]) rfl rfl rfl (by refine PtsS.agg rfl rfl rfl ?_; refine PtsS.agg rfl rfl rfl ?_; exact PtsS.nil) rfl rfl rfl rfl rfl rfl ?_
  refine RunN.le ?_ (FLe.share 7 rfl rfl (by rfl))
  refine rn_callS hT (by repeat (first | exact ArgsR.nil | refine ArgsR.cons (by first | exact ArgR.plain rfl rfl) ?_)) rfl rfl ?_
  (repeat (first | refine FW.seq ?_ | refine FW.region ?_ | refine RunN.nil ?_ | refine rn_assign rfl rfl rfl ?_ | refine rn_buildA2 rfl rfl rfl rfl rfl rfl rfl rfl rfl ?_ | refine rn_move rfl rfl rfl ?_ | refine rn_extract rfl rfl rfl rfl rfl ?_))
  refine rn_buildS (es := [edf (0, 1), edf (1, 2), edf (2, 0), edf (1, 1)]) rfl rfl rfl (by refine PtsS.agg rfl rfl rfl ?_; refine PtsS.agg rfl rfl rfl ?_; refine PtsS.agg rfl rfl rfl ?_; refine PtsS.agg rfl rfl rfl ?_; exact PtsS.nil) rfl rfl rfl rfl rfl rfl ?_
  refine RunN.le ?_ (FLe.share 15 rfl rfl (by rfl))
  refine rn_callS hC (by repeat (first | exact ArgsR.nil | refine ArgsR.cons (by first | exact ArgR.plain rfl rfl) ?_)) rfl rfl ?_
  (repeat (first | refine FW.seq ?_ | refine FW.region ?_ | refine RunN.nil ?_ | refine rn_assign rfl rfl rfl ?_ | refine rn_move rfl rfl rfl ?_ | refine rn_move rfl rfl ⟨_, _, rfl, rfl, rfl⟩ ?_))
  refine rn_buildS (es := [2, 0, 1].map intf) rfl rfl rfl (by refine PtsS.int rfl rfl ?_; refine PtsS.int rfl rfl ?_; refine PtsS.int rfl rfl ?_; exact PtsS.nil) rfl rfl rfl rfl rfl ⟨_, _, rfl, rfl, rfl⟩ ?_
  refine rn_call (sameInts_spec [2, 0, 1] [2, 0, 1] (by decide) (by decide)) (by repeat (first | exact ArgsR.nil | refine ArgsR.cons (by first | exact ArgR.plain rfl rfl | exact ArgR.own rfl rfl (by decide) (by first | exact (fun _ => rfl) | (intro h; cases h)) (by first | rfl | (simp; done) | (congr 1; omega) | (simp; omega) | (simp [List.take_of_length_le]; done) | (refine congrArg (FV.int .i64) ?_; omega))) ?_)) rfl ⟨_, _, rfl, rfl, rfl⟩ ?_
  (repeat (first | refine rn_move rfl rfl rfl ?_ | refine rn_pickT rfl rfl rfl rfl ?_ | refine rn_move rfl rfl ⟨_, _, rfl, rfl, rfl⟩ ?_ | refine rn_buildS1 rfl rfl rfl rfl rfl rfl rfl ⟨_, _, rfl, rfl, rfl⟩ ?_))
  refine rn_call (sameInts_spec [1] [1] (by decide) (by decide)) (by repeat (first | exact ArgsR.nil | refine ArgsR.cons (by first | exact ArgR.plain rfl rfl | exact ArgR.own rfl rfl (by decide) (by first | exact (fun _ => rfl) | (intro h; cases h)) (by first | rfl | (simp; done) | (congr 1; omega) | (simp; omega) | (simp [List.take_of_length_le]; done) | (refine congrArg (FV.int .i64) ?_; omega))) ?_)) rfl ⟨_, _, rfl, rfl, rfl⟩ ?_
  (repeat (first | refine RunN.nil ?_ | refine rn_assign rfl rfl rfl ?_ | refine rn_pickT rfl rfl rfl rfl ?_))
  exact FW.ret ⟨.inl rfl, ret_flat rfl rfl rfl rfl⟩
set_option maxHeartbeats 4000000 in
theorem size_spec (n : Int) (hn : I64 n) : Spec Try.prog 33 [.int .i64 n] .fr (.int .i64 (around n 10)) := by
  refine Spec.of_body (c := (cxOf Try.prog tyAt_ok mixed_ok 5)) ⟨Try.func33, rfl, Try.ntmps33, by kernel_rfl⟩ (by simp [FV.hand]) (by exact Nat.le_of_ble_eq_true rfl) rfl ?_
  change FW _ _ _ ⟨[(0, .int .i64 n)], []⟩
  (repeat (first | refine FW.seq ?_ | refine FW.region ?_ | refine RunN.nil ?_ | refine rn_assign rfl rfl rfl ?_ | refine rn_move rfl rfl rfl ?_))
  refine rn_call (around_spec n 10 hn (by omega) (by omega)) (by repeat (first | exact ArgsR.nil | refine ArgsR.cons (by first | exact ArgR.plain rfl rfl) ?_)) rfl rfl ?_
  (repeat (first | refine RunN.nil ?_ | refine rn_assign rfl rfl rfl ?_))
  exact FW.ret ⟨.inl rfl, ret_flat rfl rfl rfl rfl⟩
end Go.Proofs.Ytflkbehbenlhaaa
