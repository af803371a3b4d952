/-
  The examples of layer 3; graph.Topo and graph.Cycle as the reference has them.
-/
import Derived.Test.YthjplkjpehdpfaaZFmTopo
import Derived.Test.YthjplkjpehdpfaaZM
import Derived.Test.YthjplkjpehdpfaaZCycRef
namespace Go.Proofs.Ythjplkjpehdpfaa
set_option linter.unusedVariables false
open Go.RowKit

theorem Xm (n : Nat) (E : List (Nat × Nat)) (hn : n ≤ 300) (hE : E.length ≤ 100000) (hin : InN n E) : yj Try.prog 14 [.int .i64 n, .list 2 (E.map edf)] .sh (zgV (rtK E n n [])) := by
 rw [zga hin]
 have := zeu n E hn hE hin
 by_cases h : (xk n E).length < n
 ·rw [if_pos h, show decide ((xk n E).length < n) = true by simpa using h] at this
  rw [if_pos h]; exact this
 ·rw [if_neg h, show decide ((xk n E).length < n) = false by simpa using h] at this
  rw [if_neg h]; exact this
theorem Yg (n : Nat) (E : List (Nat × Nat)) (hn : n ≤ 12) (hE : E.length ≤ 1000) (hin : InN n E) : yj Try.prog 15 [.int .i64 n, .list 2 (E.map edf)] .sh (.list 1 ((Xx E n).map zt)) := by
 rw [← zbQ hin]; exact zcp n E hn hE hin
theorem zfT : rtK [(2, 0), (2, 1)] 3 3 [] = some [2, 0, 1] := by decide +kernel
theorem zeN : Xx [(0, 1), (1, 2), (2, 0), (1, 1)] 3 = [1] := by decide +kernel
theorem zfz {n : Nat} {E : List (Nat × Nat)} (h : E.all (fun e => Nat.blt e.1 n && Nat.blt e.2 n) = true) : InN n E := fun e he => by
 have := List.all_eq_true.1 h e he
 simpa using this
set_option maxHeartbeats 4000000 in
theorem zar : yj Try.prog 13 [] .fr (.bool true) := by
 have hT := Xm 3 [(2, 0), (2, 1)] (by decide) (by decide) (zfz rfl)
 rw [zfT] at hT
 have hC := Yg 3 [(0, 1), (1, 2), (2, 0), (1, 1)] (by decide) (by decide) (zfz rfl)
 rw [zeN] at hC
 refine yj.of_body (c := (xm Try.prog zw zn 28)) ⟨Try.func13, rfl, Try.ntmps13, by kernel_rfl⟩ (by simp [FV.hand]) (by exact Nat.le_of_ble_eq_true rfl) rfl ?_
 change FW _ _ _ ⟨[], []⟩
 (repeat (first | refine FW.seq ?_ | refine FW.region ?_ | refine zd.nil ?_ | refine zc rfl rfl rfl ?_ | refine Xh rfl rfl rfl rfl rfl rfl rfl rfl rfl ?_))
 refine ZD (es := [edf (2, 0), edf (2, 1)]) rfl rfl rfl (by refine xH.agg rfl rfl rfl ?_; refine xH.agg rfl rfl rfl ?_; exact xH.nil) rfl rfl rfl rfl rfl rfl ?_
 refine zd.le ?_ (FLe.share 7 rfl rfl (by rfl))
 refine yc hT (by repeat (first | exact zu.nil | refine zu.cons (by first | exact yU.plain rfl rfl) ?_)) rfl rfl ?_
 (repeat (first | refine FW.seq ?_ | refine FW.region ?_ | refine zd.nil ?_ | refine zc rfl rfl rfl ?_ | refine Xh rfl rfl rfl rfl rfl rfl rfl rfl rfl ?_ | refine zb rfl rfl rfl ?_ | refine xZ rfl rfl rfl rfl rfl ?_))
 refine ZD (es := [edf (0, 1), edf (1, 2), edf (2, 0), edf (1, 1)]) rfl rfl rfl (by refine xH.agg rfl rfl rfl ?_; refine xH.agg rfl rfl rfl ?_; refine xH.agg rfl rfl rfl ?_; refine xH.agg rfl rfl rfl ?_; exact xH.nil) rfl rfl rfl rfl rfl rfl ?_
 refine zd.le ?_ (FLe.share 15 rfl rfl (by rfl))
 refine yc hC (by repeat (first | exact zu.nil | refine zu.cons (by first | exact yU.plain rfl rfl) ?_)) rfl rfl ?_
 (repeat (first | refine FW.seq ?_ | refine FW.region ?_ | refine zd.nil ?_ | refine zc rfl rfl rfl ?_ | refine zb rfl rfl rfl ?_ | refine zb rfl rfl ⟨_, _, rfl, rfl, rfl⟩ ?_))
 refine ZD (es := [2, 0, 1].map zt) rfl rfl rfl (by refine xH.int rfl rfl ?_; refine xH.int rfl rfl ?_; refine xH.int rfl rfl ?_; exact xH.nil) rfl rfl rfl rfl rfl ⟨_, _, rfl, rfl, rfl⟩ ?_
 refine zW (yS [2, 0, 1] [2, 0, 1] (by decide) (by decide)) (by repeat (first | exact zu.nil | refine zu.cons (by first | exact yU.plain rfl rfl | exact yU.own rfl rfl (by decide) (by first | exact (fun _ => rfl) | (intro h; cases h)) (by first | rfl | (simp; done) | (congr 1; omega) | (simp; omega) | (simp [List.take_of_length_le]; done) | (refine congrArg (FV.int .i64) ?_; omega))) ?_)) rfl ⟨_, _, rfl, rfl, rfl⟩ ?_
 (repeat (first | refine zb rfl rfl rfl ?_ | refine yb rfl rfl rfl rfl ?_ | refine zb rfl rfl ⟨_, _, rfl, rfl, rfl⟩ ?_ | refine yg rfl rfl rfl rfl rfl rfl rfl ⟨_, _, rfl, rfl, rfl⟩ ?_))
 refine zW (yS [1] [1] (by decide) (by decide)) (by repeat (first | exact zu.nil | refine zu.cons (by first | exact yU.plain rfl rfl | exact yU.own rfl rfl (by decide) (by first | exact (fun _ => rfl) | (intro h; cases h)) (by first | rfl | (simp; done) | (congr 1; omega) | (simp; omega) | (simp [List.take_of_length_le]; done) | (refine congrArg (FV.int .i64) ?_; omega))) ?_)) rfl ⟨_, _, rfl, rfl, rfl⟩ ?_
 (repeat (first | refine zd.nil ?_ | refine zc rfl rfl rfl ?_ | refine yb rfl rfl rfl rfl ?_))
 exact FW.ret ⟨.inl rfl, yy rfl rfl rfl rfl⟩
set_option maxHeartbeats 4000000 in
theorem zem (n : Int) (hn : I64 n) : yj Try.prog 7 [.int .i64 n] .fr (.int .i64 (xc n 10)) := by
 refine yj.of_body (c := (xm Try.prog zw zn 5)) ⟨Try.func7, rfl, Try.ntmps7, by kernel_rfl⟩ (by simp [FV.hand]) (by exact Nat.le_of_ble_eq_true rfl) rfl ?_
 change FW _ _ _ ⟨[(0, .int .i64 n)], []⟩
 (repeat (first | refine FW.seq ?_ | refine FW.region ?_ | refine zd.nil ?_ | refine zc rfl rfl rfl ?_ | refine zb rfl rfl rfl ?_))
 refine zW (Yd n 10 hn (by omega) (by omega)) (by repeat (first | exact zu.nil | refine zu.cons (by first | exact yU.plain rfl rfl) ?_)) rfl rfl ?_
 (repeat (first | refine zd.nil ?_ | refine zc rfl rfl rfl ?_))
 exact FW.ret ⟨.inl rfl, yy rfl rfl rfl rfl⟩
end Go.Proofs.Ythjplkjpehdpfaa
