/-
  The examples of layer 22; edges compared.
-/
import Derived.Test.YtokmanfcndelfaaZFmSer5
import Derived.Test.YtokmanfcndelfaaZG
import Derived.Test.YtokmanfcndelfaaZV
namespace Go.Proofs.Ytokmanfcndelfaa
set_option linter.unusedVariables false
open Go.RowKit

theorem zdS (x y : EdV) : zfT Try.prog 28 x.fv y.fv (decide (x = y)) := by
 refine ⟨by kernel_rfl, fun w => ?_⟩
 obtain ⟨a1, a2, a3⟩ := x
 obtain ⟨b1, b2, b3⟩ := y
 show (Op.equalIn 10000 28 (.agg #[.int .i64 a1, .int .i64 a2, .int .i64 a3]) (.agg #[.int .i64 b1, .int .i64 b2, .int .i64 b3])).run Try.prog w = _
 have hS : Try.prog.underlying 28 = some (.struct (Try.prog.fieldsOf 28)) := by kernel_rfl
 have hp : Try.prog.stoodInHeld 28 = false := by kernel_rfl
 rw [show (10000 : Nat) = 9999 + 1 from rfl, run_equalIn_agg w 9999 28 _ _ hS hp]
 simp only [Program.fieldsOf, Try.underlying28]
 simp [go_sem]
 by_cases h1 : a1 = b1
 ·by_cases h2 : a2 = b2
  ·by_cases h3 : a3 = b3 <;> simp [h1, h2, h3]
  ·simp [h1, h2]; omega
 ·simp [h1]; omega
def ze0 (r : Int) : List OpV := [⟨0, 2, 0, 1, 0, 0, 1, true⟩, ⟨0, 2, 0, 2, r, 2, 3, true⟩]
theorem zjC : zac (ze0 0) false = ⟨3, 5, 0, [], [(0, 1, 4), (1, 0, 4)]⟩ := by decide +kernel
theorem zjG : prs (yj (ze0 1) true) = [(0, 1), (0, 1)] := by decide +kernel
theorem zjH : yB 2 [(0, 1), (0, 1)] = [0, 1] := by
 have h := zdC (n := 2) (E := [(0, 1), (0, 1)]) (zjf rfl)
 rw [show rtK [(0, 1), (0, 1)] 2 2 [] = some [0, 1] by decide +kernel] at h
 split at h
 ·cases h
 ·injection h with h; exact h.symm
theorem zjD : zac (ze0 1) true = ⟨4, 0, 0, [0, 1], []⟩ := by
 have ho : Ub (ze0 1) true = [0, 1] := by
  unfold Ub
  rw [zjG, show (ze0 1).length = 2 from rfl, zjH]
  decide +kernel
 unfold zac zfC
 rw [if_pos (by decide +kernel), show YA (ze0 1) = none by decide +kernel, ho]
 rw [show yH (ze0 1) true = [] by decide +kernel]
 rfl
theorem zjE : zct (ze0 0) = 0 := by decide +kernel
theorem zjF : zct (ze0 1) = 0 := by decide +kernel
set_option maxHeartbeats 4000000 in
theorem zcb : yc Try.prog 10 [] .fr (.bool true) := by
 have hA := Xu (ze0 0) false (by decide) (fun o ho => by simp only [ze0, List.mem_cons, List.not_mem_nil, or_false] at ho; rcases ho with rfl | rfl <;> (unfold zcS I64; decide))
 have hB := Xu (ze0 1) true (by decide) (fun o ho => by simp only [ze0, List.mem_cons, List.not_mem_nil, or_false] at ho; rcases ho with rfl | rfl <;> (unfold zcS I64; decide))
 rw [zjC, zjE] at hA
 rw [zjD, zjF] at hB
 change yc _ _ [.list 8 [OpV.fv ⟨0, 2, 0, 1, 0, 0, 1, true⟩, OpV.fv ⟨0, 2, 0, 2, 0, 2, 3, true⟩], _] _ _ at hA
 refine yc.of_body (c := (xB Try.prog zE zq 64)) ⟨Try.func10, rfl, Try.ntmps10, by kernel_rfl⟩ (by simp [FV.hand]) (by exact Nat.le_of_ble_eq_true rfl) rfl ?_
 change FW _ _ _ ⟨[], []⟩
 (repeat (first | refine FW.seq ?_ | refine FW.region ?_ | refine zd.nil ?_ | refine za rfl rfl rfl ?_ | refine yA rfl rfl rfl rfl ?_ | refine yO.nil ?_ | refine yO.one rfl rfl rfl rfl rfl ?_))
 refine zfl (es := [OpV.fv ⟨0, 2, 0, 1, 0, 0, 1, true⟩, OpV.fv ⟨0, 2, 0, 2, 0, 2, 3, true⟩]) rfl rfl rfl (by refine xJ.agg rfl rfl rfl ?_; refine xJ.agg rfl rfl rfl ?_; exact xJ.nil) rfl rfl rfl rfl rfl rfl ?_
 (repeat (first | refine FW.seq ?_ | refine FW.region ?_ | refine zd.nil ?_ | refine za rfl rfl rfl ?_ | refine zb rfl rfl rfl ?_))
 refine zg0 hA rfl rfl rfl rfl (by decide +kernel) (by decide +kernel) rfl rfl ?_
 (repeat (first | refine FW.seq ?_ | refine FW.region ?_ | refine zd.nil ?_ | refine za rfl rfl rfl ?_ | refine zb rfl rfl rfl ?_ | refine yv rfl rfl rfl rfl rfl ?_ | refine yu rfl rfl rfl rfl rfl rfl rfl ?_ | refine zP rfl rfl rfl rfl rfl rfl rfl rfl rfl ?_ | refine zY rfl rfl rfl rfl rfl rfl (by first | omega | (simp; omega) | (simp; done)) (by first | exact zc (by omega) | rfl) rfl rfl rfl ?_ | refine zG rfl rfl (by first | rfl | exact (Int.toNat_of_nonneg (by omega)).symm) rfl rfl rfl (by decide) rfl (by first | omega | (simp; omega) | (simp; done)) rfl rfl ?_ | refine zi rfl rfl rfl rfl rfl rfl (by decide) rfl rfl ?_))
 refine zd.le ?_ (FLe.share 8 rfl rfl (by rfl))
 refine xc hB (by repeat (first | exact zx.nil | refine zx.cons (by first | exact yI.plain rfl rfl | exact yI.own rfl rfl (by decide) (by first | exact (fun _ => rfl) | (intro h; cases h)) (by first | rfl | (simp; done) | (congr 1; omega) | (simp; omega) | (simp [List.take_of_length_le]; done) | (refine congrArg (FV.int .i64) ?_; omega))) ?_)) rfl rfl ?_
 (repeat (first | refine FW.seq ?_ | refine FW.region ?_ | refine FW.skip ?_ | refine FW.condF rfl ?_ | refine zd.nil ?_ | refine za rfl rfl rfl ?_ | refine zb rfl rfl rfl ?_ | refine yv rfl rfl rfl rfl rfl ?_ | refine yu rfl rfl rfl rfl rfl rfl rfl ?_ | refine zP rfl rfl rfl rfl rfl rfl rfl rfl rfl ?_ | refine zi rfl rfl rfl rfl rfl rfl (by decide) rfl rfl ?_ | refine zm rfl rfl rfl rfl rfl (by first | omega | (simp; omega) | (simp; done)) (by first | exact zc (by omega) | rfl) rfl rfl rfl rfl ?_ | refine zg rfl rfl (by first | exact List.length_map _ | exact (List.length_map _).symm | exact List.length_replicate | rfl | (simp; done) | omega | (simp; omega)) rfl rfl ?_ | refine Za rfl rfl rfl rfl ?_ | refine zU rfl rfl rfl rfl ?_ | refine zu rfl rfl rfl rfl ?_ | refine zi rfl rfl rfl rfl rfl rfl (by decide) rfl ⟨_, _, rfl, rfl, rfl⟩ ?_ | refine zm rfl rfl rfl rfl rfl (by first | omega | (simp; omega) | (simp; done)) (by first | exact zc (by omega) | rfl) rfl rfl rfl ⟨_, _, rfl, rfl, rfl⟩ ?_ | refine yG rfl rfl rfl (by decide) (by first | omega | (simp; omega) | (simp; done)) (by first | exact zc (by omega) | rfl) rfl rfl ⟨_, _, rfl, rfl, rfl⟩ ?_ | refine zU rfl rfl rfl ⟨_, _, rfl, rfl, rfl⟩ ?_ | refine zh rfl rfl (by first | rfl | exact (Int.toNat_of_nonneg (by omega)).symm) rfl rfl rfl (by first | omega | (simp; omega) | (simp; done)) rfl ⟨_, _, rfl, rfl, rfl⟩ ?_ | refine yA rfl rfl rfl ⟨_, _, rfl, rfl, rfl⟩ ?_ | refine yO.nil ?_ | refine yO.one rfl rfl rfl rfl rfl ?_))
 refine zjn rfl rfl rfl rfl (zdS (0, 1, 4) (0, 1, 4)) rfl ⟨_, _, rfl, rfl, rfl⟩ ?_
 (repeat (first | refine zb rfl rfl rfl ?_ | refine zu rfl rfl rfl rfl ?_ | refine zi rfl rfl rfl rfl rfl rfl (by decide) rfl ⟨_, _, rfl, rfl, rfl⟩ ?_ | refine zm rfl rfl rfl rfl rfl (by first | omega | (simp; omega) | (simp; done)) (by first | exact zc (by omega) | rfl) rfl rfl rfl ⟨_, _, rfl, rfl, rfl⟩ ?_ | refine zU rfl rfl rfl ⟨_, _, rfl, rfl, rfl⟩ ?_ | refine zb rfl rfl ⟨_, _, rfl, rfl, rfl⟩ ?_))
 refine Yt (es := [0, 1].map zp) rfl rfl rfl (by refine xJ.int rfl rfl ?_; refine xJ.int rfl rfl ?_; exact xJ.nil) rfl rfl rfl rfl rfl ⟨_, _, rfl, rfl, rfl⟩ ?_
 refine zX (XV [0, 1] [0, 1] (by decide) (by decide)) (by repeat (first | exact zx.nil | refine zx.cons (by first | exact yI.plain rfl rfl | exact yI.own rfl rfl (by decide) (by first | exact (fun _ => rfl) | (intro h; cases h)) (by first | rfl | (simp; done) | (congr 1; omega) | (simp; omega) | (simp [List.take_of_length_le]; done) | (refine congrArg (FV.int .i64) ?_; omega))) ?_)) rfl ⟨_, _, rfl, rfl, rfl⟩ ?_
 (repeat (first | refine zd.nil ?_ | refine za rfl rfl rfl ?_ | refine zu rfl rfl rfl rfl ?_))
 exact FW.ret ⟨.inl rfl, zj rfl rfl rfl rfl⟩
end Go.Proofs.Ytokmanfcndelfaa
