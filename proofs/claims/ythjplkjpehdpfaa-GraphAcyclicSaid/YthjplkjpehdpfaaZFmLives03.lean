/-
  The examples of layer 3; graph.Topo and graph.Cycle as the reference has them.
-/
import Derived.Test.YthjplkjpehdpfaaZFmTopo
import Derived.Test.YthjplkjpehdpfaaZM
import Derived.Test.YthjplkjpehdpfaaZCycRef
namespace Go.Proofs.Ythjplkjpehdpfaa
set_option linter.unusedVariables false
open Go.RowKit

theorem Vp (n : Nat) (E : List (Nat × Nat)) (hn : n ≤ 300) (hE : E.length ≤ 100000) (hin : InN n E) : yq Try.prog 14 [.int .i64 n, .list 2 (E.map edf)] .sh (zf5 (rtK E n n [])) := by
 rw [za7 hin]
 have := zdR n E hn hE hin
 by_cases h : (yf n E).length < n
 ·rw [if_pos h, show decide ((yf n E).length < n) = true by simpa using h] at this
  rw [if_pos h]; exact this
 ·rw [if_neg h, show decide ((yf n E).length < n) = false by simpa using h] at this
  rw [if_neg h]; exact this
theorem Xw (n : Nat) (E : List (Nat × Nat)) (hn : n ≤ 12) (hE : E.length ≤ 1000) (hin : InN n E) : yq Try.prog 15 [.int .i64 n, .list 2 (E.map edf)] .sh (.list 1 ((ya E n).map zm)) := by
 rw [← Yg hin]; exact zbQ n E hn hE hin
theorem ze5 : rtK [(2, 0), (2, 1)] 3 3 [] = some [2, 0, 1] := by decide +kernel
theorem zd9 : ya [(0, 1), (1, 2), (2, 0), (1, 1)] 3 = [1] := by decide +kernel
theorem zeO {n : Nat} {E : List (Nat × Nat)} (h : E.all (fun e => Nat.blt e.1 n && Nat.blt e.2 n) = true) : InN n E := fun e he => by
 have := List.all_eq_true.1 h e he
 simpa using this
set_option maxHeartbeats 4000000 in
theorem YY : yq Try.prog 13 [] .fr (.bool true) := by
 have hT := Vp 3 [(2, 0), (2, 1)] (by decide) (by decide) (zeO rfl)
 rw [ze5] at hT
 have hC := Xw 3 [(0, 1), (1, 2), (2, 0), (1, 1)] (by decide) (by decide) (zeO rfl)
 rw [zd9] at hC
 refine yq.of_body (c := (Zf Try.prog zC zt 28)) ⟨Try.func13, rfl, Try.ntmps13, by kernel_rfl⟩ (by simp [FV.hand]) (by exact Nat.le_of_ble_eq_true rfl) rfl ?_
 change FW _ _ _ ⟨[], []⟩
 (repeat (first | refine FW.seq ?_ | refine FW.region ?_ | refine zd.nil ?_ | refine zc rfl rfl rfl ?_ | refine YP rfl rfl rfl rfl rfl rfl rfl rfl rfl ?_))
 refine We (es := [edf (2, 0), edf (2, 1)]) rfl rfl rfl (by refine xX.agg rfl rfl rfl ?_; refine xX.agg rfl rfl rfl ?_; exact xX.nil) rfl rfl rfl rfl rfl rfl ?_
 refine zd.le ?_ (FLe.share 7 rfl rfl (by rfl))
 refine xf hT (by repeat (first | exact zA.nil | refine zA.cons (by first | exact xz.plain rfl rfl) ?_)) rfl rfl ?_
 (repeat (first | refine FW.seq ?_ | refine FW.region ?_ | refine zd.nil ?_ | refine zc rfl rfl rfl ?_ | refine YP rfl rfl rfl rfl rfl rfl rfl rfl rfl ?_ | refine zb rfl rfl rfl ?_ | refine ZF rfl rfl rfl rfl rfl ?_))
 refine We (es := [edf (0, 1), edf (1, 2), edf (2, 0), edf (1, 1)]) rfl rfl rfl (by refine xX.agg rfl rfl rfl ?_; refine xX.agg rfl rfl rfl ?_; refine xX.agg rfl rfl rfl ?_; refine xX.agg rfl rfl rfl ?_; exact xX.nil) rfl rfl rfl rfl rfl rfl ?_
 refine zd.le ?_ (FLe.share 15 rfl rfl (by rfl))
 refine xf hC (by repeat (first | exact zA.nil | refine zA.cons (by first | exact xz.plain rfl rfl) ?_)) rfl rfl ?_
 (repeat (first | refine FW.seq ?_ | refine FW.region ?_ | refine zd.nil ?_ | refine zc rfl rfl rfl ?_ | refine zb rfl rfl rfl ?_ | refine zb rfl rfl ⟨_, _, rfl, rfl, rfl⟩ ?_))
 refine We (es := [2, 0, 1].map zm) rfl rfl rfl (by refine xX.int rfl rfl ?_; refine xX.int rfl rfl ?_; refine xX.int rfl rfl ?_; exact xX.nil) rfl rfl rfl rfl rfl ⟨_, _, rfl, rfl, rfl⟩ ?_
 refine yB (Yx [2, 0, 1] [2, 0, 1] (by decide) (by decide)) (by repeat (first | exact zA.nil | refine zA.cons (by first | exact xz.plain rfl rfl | exact xz.own rfl rfl (by decide) (by first | exact (fun _ => rfl) | (intro h; cases h)) (by first | rfl | (simp; done) | (congr 1; omega) | (simp; omega) | (simp [List.take_of_length_le]; done) | (refine congrArg (FV.int .i64) ?_; omega))) ?_)) rfl ⟨_, _, rfl, rfl, rfl⟩ ?_
 (repeat (first | refine zb rfl rfl rfl ?_ | refine yb rfl rfl rfl rfl ?_ | refine zb rfl rfl ⟨_, _, rfl, rfl, rfl⟩ ?_ | refine yo rfl rfl rfl rfl rfl rfl rfl ⟨_, _, rfl, rfl, rfl⟩ ?_))
 refine yB (Yx [1] [1] (by decide) (by decide)) (by repeat (first | exact zA.nil | refine zA.cons (by first | exact xz.plain rfl rfl | exact xz.own rfl rfl (by decide) (by first | exact (fun _ => rfl) | (intro h; cases h)) (by first | rfl | (simp; done) | (congr 1; omega) | (simp; omega) | (simp [List.take_of_length_le]; done) | (refine congrArg (FV.int .i64) ?_; omega))) ?_)) rfl ⟨_, _, rfl, rfl, rfl⟩ ?_
 (repeat (first | refine zd.nil ?_ | refine zc rfl rfl rfl ?_ | refine yb rfl rfl rfl rfl ?_))
 exact FW.ret ⟨.inl rfl, yt rfl rfl rfl rfl⟩
set_option maxHeartbeats 4000000 in
theorem zdL (n : Int) (hn : I64 n) : yq Try.prog 7 [.int .i64 n] .fr (.int .i64 (xe n 10)) := by
 refine yq.of_body (c := (Zf Try.prog zC zt 5)) ⟨Try.func7, rfl, Try.ntmps7, by kernel_rfl⟩ (by simp [FV.hand]) (by exact Nat.le_of_ble_eq_true rfl) rfl ?_
 change FW _ _ _ ⟨[(0, .int .i64 n)], []⟩
 (repeat (first | refine FW.seq ?_ | refine FW.region ?_ | refine zd.nil ?_ | refine zc rfl rfl rfl ?_ | refine zb rfl rfl rfl ?_))
 refine yB (Xp n 10 hn (by omega) (by omega)) (by repeat (first | exact zA.nil | refine zA.cons (by first | exact xz.plain rfl rfl) ?_)) rfl rfl ?_
 (repeat (first | refine zd.nil ?_ | refine zc rfl rfl rfl ?_))
 exact FW.ret ⟨.inl rfl, yt rfl rfl rfl rfl⟩
end Go.Proofs.Ythjplkjpehdpfaa
