/-
  The examples of layer 3; graph.Topo and graph.Cycle as the reference has them.
-/
import Derived.Test.YthjplkjpehdpfaaZFmTopo
import Derived.Test.YthjplkjpehdpfaaZM
import Derived.Test.YthjplkjpehdpfaaZCycRef
namespace Go.Proofs.Ythjplkjpehdpfaa
set_option linter.unusedVariables false
open Go.RowKit

theorem zcs (n : Nat) (E : List (Nat × Nat)) (hn : n ≤ 300) (hE : E.length ≤ 100000) (hin : InN n E) : yr Try.prog 14 [.int .i64 n, .list 2 (E.map edf)] .sh (zfS (rtK E n n [])) := by
 rw [ze9 hin]
 have := zdJ n E hn hE hin
 by_cases h : (xe n E).length < n
 ·rw [if_pos h, show decide ((xe n E).length < n) = true by simpa using h] at this
  rw [if_pos h]; exact this
 ·rw [if_neg h, show decide ((xe n E).length < n) = false by simpa using h] at this
  rw [if_neg h]; exact this
theorem zav (n : Nat) (E : List (Nat × Nat)) (hn : n ≤ 12) (hE : E.length ≤ 1000) (hin : InN n E) : yr Try.prog 15 [.int .i64 n, .list 2 (E.map edf)] .sh (.list 1 ((zbo E n).map zp)) := by
 rw [← zdZ hin]; exact zbJ n E hn hE hin
theorem zeS : rtK [(2, 0), (2, 1)] 3 3 [] = some [2, 0, 1] := by decide +kernel
theorem zd1 : zbo [(0, 1), (1, 2), (2, 0), (1, 1)] 3 = [1] := by decide +kernel
theorem zeD {n : Nat} {E : List (Nat × Nat)} (h : E.all (fun e => Nat.blt e.1 n && Nat.blt e.2 n) = true) : InN n E := fun e he => by
 have := List.all_eq_true.1 h e he
 simpa using this
set_option maxHeartbeats 4000000 in
theorem Xd : yr Try.prog 13 [] .fr (.bool true) := by
 have hT := zcs 3 [(2, 0), (2, 1)] (by decide) (by decide) (zeD rfl)
 rw [zeS] at hT
 have hC := zav 3 [(0, 1), (1, 2), (2, 0), (1, 1)] (by decide) (by decide) (zeD rfl)
 rw [zd1] at hC
 refine yr.of_body (c := (Zi Try.prog zE zw 28)) ⟨Try.func13, rfl, Try.ntmps13, by kernel_rfl⟩ (by simp [FV.hand]) (by exact Nat.le_of_ble_eq_true rfl) rfl ?_
 change FW _ _ _ ⟨[], []⟩
 (repeat (first | refine FW.seq ?_ | refine FW.region ?_ | refine zg.nil ?_ | refine zf rfl rfl rfl ?_ | refine YS rfl rfl rfl rfl rfl rfl rfl rfl rfl ?_))
 refine Wn (es := [edf (2, 0), edf (2, 1)]) rfl rfl rfl (by refine xZ.agg rfl rfl rfl ?_; refine xZ.agg rfl rfl rfl ?_; exact xZ.nil) rfl rfl rfl rfl rfl rfl ?_
 refine zg.le ?_ (FLe.share 7 rfl rfl (by rfl))
 refine yp hT (by repeat (first | exact zx.nil | refine zx.cons (by first | exact yT.plain rfl rfl) ?_)) rfl rfl ?_
 (repeat (first | refine FW.seq ?_ | refine FW.region ?_ | refine zg.nil ?_ | refine zf rfl rfl rfl ?_ | refine YS rfl rfl rfl rfl rfl rfl rfl rfl rfl ?_ | refine zd rfl rfl rfl ?_ | refine YU rfl rfl rfl rfl rfl ?_))
 refine Wn (es := [edf (0, 1), edf (1, 2), edf (2, 0), edf (1, 1)]) rfl rfl rfl (by refine xZ.agg rfl rfl rfl ?_; refine xZ.agg rfl rfl rfl ?_; refine xZ.agg rfl rfl rfl ?_; refine xZ.agg rfl rfl rfl ?_; exact xZ.nil) rfl rfl rfl rfl rfl rfl ?_
 refine zg.le ?_ (FLe.share 15 rfl rfl (by rfl))
 refine yp hC (by repeat (first | exact zx.nil | refine zx.cons (by first | exact yT.plain rfl rfl) ?_)) rfl rfl ?_
 (repeat (first | refine FW.seq ?_ | refine FW.region ?_ | refine zg.nil ?_ | refine zf rfl rfl rfl ?_ | refine zd rfl rfl rfl ?_ | refine zd rfl rfl ⟨_, _, rfl, rfl, rfl⟩ ?_))
 refine Wn (es := [2, 0, 1].map zp) rfl rfl rfl (by refine xZ.int rfl rfl ?_; refine xZ.int rfl rfl ?_; refine xZ.int rfl rfl ?_; exact xZ.nil) rfl rfl rfl rfl rfl ⟨_, _, rfl, rfl, rfl⟩ ?_
 refine zW (Zg [2, 0, 1] [2, 0, 1] (by decide) (by decide)) (by repeat (first | exact zx.nil | refine zx.cons (by first | exact yT.plain rfl rfl | exact yT.own rfl rfl (by decide) (by first | exact (fun _ => rfl) | (intro h; cases h)) (by first | rfl | (simp; done) | (congr 1; omega) | (simp; omega) | (simp [List.take_of_length_le]; done) | (refine congrArg (FV.int .i64) ?_; omega))) ?_)) rfl ⟨_, _, rfl, rfl, rfl⟩ ?_
 (repeat (first | refine zd rfl rfl rfl ?_ | refine zN rfl rfl rfl rfl ?_ | refine zd rfl rfl ⟨_, _, rfl, rfl, rfl⟩ ?_ | refine zP rfl rfl rfl rfl rfl rfl rfl ⟨_, _, rfl, rfl, rfl⟩ ?_))
 refine zW (Zg [1] [1] (by decide) (by decide)) (by repeat (first | exact zx.nil | refine zx.cons (by first | exact yT.plain rfl rfl | exact yT.own rfl rfl (by decide) (by first | exact (fun _ => rfl) | (intro h; cases h)) (by first | rfl | (simp; done) | (congr 1; omega) | (simp; omega) | (simp [List.take_of_length_le]; done) | (refine congrArg (FV.int .i64) ?_; omega))) ?_)) rfl ⟨_, _, rfl, rfl, rfl⟩ ?_
 (repeat (first | refine zg.nil ?_ | refine zf rfl rfl rfl ?_ | refine zN rfl rfl rfl rfl ?_))
 exact FW.ret ⟨.inl rfl, yx rfl rfl rfl rfl⟩
set_option maxHeartbeats 4000000 in
theorem zdC (n : Int) (hn : I64 n) : yr Try.prog 7 [.int .i64 n] .fr (.int .i64 (yS n 10)) := by
 refine yr.of_body (c := (Zi Try.prog zE zw 5)) ⟨Try.func7, rfl, Try.ntmps7, by kernel_rfl⟩ (by simp [FV.hand]) (by exact Nat.le_of_ble_eq_true rfl) rfl ?_
 change FW _ _ _ ⟨[(0, .int .i64 n)], []⟩
 (repeat (first | refine FW.seq ?_ | refine FW.region ?_ | refine zg.nil ?_ | refine zf rfl rfl rfl ?_ | refine zd rfl rfl rfl ?_))
 refine zW (Zd n 10 hn (by omega) (by omega)) (by repeat (first | exact zx.nil | refine zx.cons (by first | exact yT.plain rfl rfl) ?_)) rfl rfl ?_
 (repeat (first | refine zg.nil ?_ | refine zf rfl rfl rfl ?_))
 exact FW.ret ⟨.inl rfl, yx rfl rfl rfl rfl⟩
end Go.Proofs.Ythjplkjpehdpfaa
