/-
  The examples of layer 3; graph.Topo and graph.Cycle as the reference has them.
-/
import Derived.Test.YthjplkjpehdpfaaZFmTopo
import Derived.Test.YthjplkjpehdpfaaZM
import Derived.Test.YthjplkjpehdpfaaZCycRef
namespace Go.Proofs.Ythjplkjpehdpfaa
set_option linter.unusedVariables false
open Go.RowKit

theorem zcv (n : Nat) (E : List (Nat × Nat)) (hn : n ≤ 300) (hE : E.length ≤ 100000) (hin : InN n E) : yf Try.prog 14 [.int .i64 n, .list 2 (E.map edf)] .sh (zfX (rtK E n n [])) := by
 rw [zfb hin]
 have := zdN n E hn hE hin
 by_cases h : (xd n E).length < n
 ·rw [if_pos h, show decide ((xd n E).length < n) = true by simpa using h] at this
  rw [if_pos h]; exact this
 ·rw [if_neg h, show decide ((xd n E).length < n) = false by simpa using h] at this
  rw [if_neg h]; exact this
theorem zaw (n : Nat) (E : List (Nat × Nat)) (hn : n ≤ 12) (hE : E.length ≤ 1000) (hin : InN n E) : yf Try.prog 15 [.int .i64 n, .list 2 (E.map edf)] .sh (.list 1 ((zbr E n).map zq)) := by
 rw [← zd4 hin]; exact zbP n E hn hE hin
theorem zeV : rtK [(2, 0), (2, 1)] 3 3 [] = some [2, 0, 1] := by decide +kernel
theorem zd5 : zbr [(0, 1), (1, 2), (2, 0), (1, 1)] 3 = [1] := by decide +kernel
theorem zeI {n : Nat} {E : List (Nat × Nat)} (h : E.all (fun e => Nat.blt e.1 n && Nat.blt e.2 n) = true) : InN n E := fun e he => by
 have := List.all_eq_true.1 h e he
 simpa using this
set_option maxHeartbeats 4000000 in
theorem UB : yf Try.prog 13 [] .fr (.bool true) := by
 have hT := zcv 3 [(2, 0), (2, 1)] (by decide) (by decide) (zeI rfl)
 rw [zeV] at hT
 have hC := zaw 3 [(0, 1), (1, 2), (2, 0), (1, 1)] (by decide) (by decide) (zeI rfl)
 rw [zd5] at hC
 refine yf.of_body (c := (xX Try.prog zA zt 28)) ⟨Try.func13, rfl, Try.ntmps13, by kernel_rfl⟩ (by simp [FV.hand]) (by exact Nat.le_of_ble_eq_true rfl) rfl ?_
 change FW _ _ _ ⟨[], []⟩
 (repeat (first | refine FW.seq ?_ | refine FW.region ?_ | refine zd.nil ?_ | refine zc rfl rfl rfl ?_ | refine YO rfl rfl rfl rfl rfl rfl rfl rfl rfl ?_))
 refine Wb (es := [edf (2, 0), edf (2, 1)]) rfl rfl rfl (by refine xW.agg rfl rfl rfl ?_; refine xW.agg rfl rfl rfl ?_; exact xW.nil) rfl rfl rfl rfl rfl rfl ?_
 refine zd.le ?_ (FLe.share 7 rfl rfl (by rfl))
 refine yJ hT (by repeat (first | exact zx.nil | refine zx.cons (by first | exact xh.plain rfl rfl) ?_)) rfl rfl ?_
 (repeat (first | refine FW.seq ?_ | refine FW.region ?_ | refine zd.nil ?_ | refine zc rfl rfl rfl ?_ | refine YO rfl rfl rfl rfl rfl rfl rfl rfl rfl ?_ | refine zb rfl rfl rfl ?_ | refine YP rfl rfl rfl rfl rfl ?_))
 refine Wb (es := [edf (0, 1), edf (1, 2), edf (2, 0), edf (1, 1)]) rfl rfl rfl (by refine xW.agg rfl rfl rfl ?_; refine xW.agg rfl rfl rfl ?_; refine xW.agg rfl rfl rfl ?_; refine xW.agg rfl rfl rfl ?_; exact xW.nil) rfl rfl rfl rfl rfl rfl ?_
 refine zd.le ?_ (FLe.share 15 rfl rfl (by rfl))
 refine yJ hC (by repeat (first | exact zx.nil | refine zx.cons (by first | exact xh.plain rfl rfl) ?_)) rfl rfl ?_
 (repeat (first | refine FW.seq ?_ | refine FW.region ?_ | refine zd.nil ?_ | refine zc rfl rfl rfl ?_ | refine zb rfl rfl rfl ?_ | refine zb rfl rfl ⟨_, _, rfl, rfl, rfl⟩ ?_))
 refine Wb (es := [2, 0, 1].map zq) rfl rfl rfl (by refine xW.int rfl rfl ?_; refine xW.int rfl rfl ?_; refine xW.int rfl rfl ?_; exact xW.nil) rfl rfl rfl rfl rfl ⟨_, _, rfl, rfl, rfl⟩ ?_
 refine yl (Zb [2, 0, 1] [2, 0, 1] (by decide) (by decide)) (by repeat (first | exact zx.nil | refine zx.cons (by first | exact xh.plain rfl rfl | exact xh.own rfl rfl (by decide) (by first | exact (fun _ => rfl) | (intro h; cases h)) (by first | rfl | (simp; done) | (congr 1; omega) | (simp; omega) | (simp [List.take_of_length_le]; done) | (refine congrArg (FV.int .i64) ?_; omega))) ?_)) rfl ⟨_, _, rfl, rfl, rfl⟩ ?_
 (repeat (first | refine zb rfl rfl rfl ?_ | refine zR rfl rfl rfl rfl ?_ | refine zb rfl rfl ⟨_, _, rfl, rfl, rfl⟩ ?_ | refine zL rfl rfl rfl rfl rfl rfl rfl ⟨_, _, rfl, rfl, rfl⟩ ?_))
 refine yl (Zb [1] [1] (by decide) (by decide)) (by repeat (first | exact zx.nil | refine zx.cons (by first | exact xh.plain rfl rfl | exact xh.own rfl rfl (by decide) (by first | exact (fun _ => rfl) | (intro h; cases h)) (by first | rfl | (simp; done) | (congr 1; omega) | (simp; omega) | (simp [List.take_of_length_le]; done) | (refine congrArg (FV.int .i64) ?_; omega))) ?_)) rfl ⟨_, _, rfl, rfl, rfl⟩ ?_
 (repeat (first | refine zd.nil ?_ | refine zc rfl rfl rfl ?_ | refine zR rfl rfl rfl rfl ?_))
 exact FW.ret ⟨.inl rfl, yq rfl rfl rfl rfl⟩
set_option maxHeartbeats 4000000 in
theorem zdH (n : Int) (hn : I64 n) : yf Try.prog 7 [.int .i64 n] .fr (.int .i64 (xe n 10)) := by
 refine yf.of_body (c := (xX Try.prog zA zt 5)) ⟨Try.func7, rfl, Try.ntmps7, by kernel_rfl⟩ (by simp [FV.hand]) (by exact Nat.le_of_ble_eq_true rfl) rfl ?_
 change FW _ _ _ ⟨[(0, .int .i64 n)], []⟩
 (repeat (first | refine FW.seq ?_ | refine FW.region ?_ | refine zd.nil ?_ | refine zc rfl rfl rfl ?_ | refine zb rfl rfl rfl ?_))
 refine yl (Xn n 10 hn (by omega) (by omega)) (by repeat (first | exact zx.nil | refine zx.cons (by first | exact xh.plain rfl rfl) ?_)) rfl rfl ?_
 (repeat (first | refine zd.nil ?_ | refine zc rfl rfl rfl ?_))
 exact FW.ret ⟨.inl rfl, yq rfl rfl rfl rfl⟩
end Go.Proofs.Ythjplkjpehdpfaa
