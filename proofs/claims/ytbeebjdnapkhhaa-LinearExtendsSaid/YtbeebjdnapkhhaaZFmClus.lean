/-
  linear.clusters, at plain values: the clusters of a key.
-/
import Derived.Test.YtbeebjdnapkhhaaZFmRowH
import Derived.Test.YtbeebjdnapkhhaaZJ
import Derived.Test.YtbeebjdnapkhhaaZLinPlain
namespace Go.Proofs.Ytbeebjdnapkhhaa
set_option linter.unusedVariables false
open Go.RowKit

def ixO (p : OpV → Bool) (l : List OpV) : Int := if l.any p = true then (l.findIdx p : Nat) else -1
set_option maxHeartbeats 4000000 in
theorem Uk (l : List OpV) (cf : Nat) (caps : List FV) (p : OpV → Bool) (hl : l.length ≤ 1000000000) (hp : ∀ o : OpV, yg Try.prog cf ([.agg o.fv] ++ caps) .fr (.bool (p o))) : yg Try.prog 86 [.list 8 (l.map OpV.fv), .fn cf caps] .fr (.int .i64 (ixO p l)) := by
 refine yg.of_body (c := (Zy Try.prog zG zA 19)) ⟨Try.func86, rfl, Try.ntmps86, by kernel_rfl⟩ (by simp [FV.hand]) (by exact Nat.le_of_ble_eq_true rfl) rfl ?_
 change FW _ _ _ ⟨[(0, .list 8 (l.map OpV.fv)), (1, .fn cf caps)], []⟩
 (repeat (first | refine FW.seq ?_ | refine FW.region ?_ | refine FW.block ?_ | refine zc.nil ?_ | refine za rfl rfl rfl ?_ | refine zb rfl rfl rfl ?_ | refine zm rfl rfl (by exact List.length_map _) rfl rfl ?_))
 refine FW.loop (fun i : Nat => ⟨[(0, .list 8 (l.map OpV.fv)), (1, .fn cf caps), (7, .int .i64 l.length), (8, .int .i64 i)], []⟩) (fun i => i ≤ l.length ∧ ∀ j, j < i → p (nth l j) = false) (fun i => l.length - i) 0 ⟨Nat.zero_le _, fun j hj => by omega⟩ (FLe.conv [] (by simp) (by simp) rfl (by repeat (first | exact .nil | refine .low rfl ?_ | refine .same rfl ?_ | refine .bump (Nat.lt_succ_self _) ?_)) (by repeat (first | exact .nil)) (by repeat (first | exact .nil | refine .cons (.plain rfl rfl rfl) ?_))) ?_
 rintro i ⟨hi, hf⟩
 (repeat (first | refine FW.seq ?_ | refine FW.region ?_ | refine zc.nil ?_ | refine zH rfl rfl rfl rfl ?_))
 refine FW.cond rfl (fun h => ?_) (fun h => ?_)
 ·have hlt : i < l.length := by simpa using h
  clear h
  (repeat (first | refine FW.seq ?_ | refine FW.region ?_ | refine FW.block ?_ | refine FW.skip ?_ | refine zc.nil ?_ | refine za rfl rfl rfl ?_ | refine zb rfl rfl rfl ?_ | refine zD rfl rfl rfl rfl rfl rfl (by simp; omega) rfl rfl ?_ | refine yV rfl rfl rfl (by decide) (by simp; omega) (by first | exact zd (by omega) | rfl) rfl rfl rfl ?_))
  refine zbM rfl (hp (nth l i)) (by repeat (first | exact zj.nil | refine zj.cons (by exact yu.plain rfl rfl) ?_)) rfl rfl ?_
  (repeat (first | refine zc.nil ?_))
  refine FW.cond rfl (fun h => ?_) (fun h => ?_)
  ·(repeat (first | refine FW.seq ?_ | refine FW.region ?_ | refine zc.nil ?_ | refine za rfl rfl rfl ?_ | refine zb rfl rfl rfl ?_))
   have he : ixO p l = i := by
    unfold ixO
    rw [if_pos (Yi.2 ⟨i, hlt, h⟩), (List.findIdx_eq hlt).2 ⟨by rw [← zi hlt]; exact h, fun j hj => by rw [← zi (show j < l.length by omega)]; exact hf j hj⟩]
   exact FW.ret ⟨.inl rfl, zO rfl rfl (congrArg (FV.int .i64) he.symm) rfl⟩
  ·(repeat (first | refine FW.region ?_ | refine FW.skip ?_ | refine zc.nil ?_ | refine zb rfl rfl rfl ?_ | refine zu rfl rfl (by omega) rfl rfl ?_))
   refine ⟨i + 1, ⟨by omega, fun j hj => ?_⟩, by omega, (FLe.conv [] (by simp) (by simp) rfl (by repeat (first | exact .nil | refine .low rfl ?_ | refine .same rfl ?_ | refine .bump (Nat.lt_succ_self _) ?_)) (by repeat (first | exact .nil)) (by repeat (first | exact .nil | refine .cons (.plain rfl rfl rfl) ?_)))⟩
   rcases Nat.lt_or_ge j i with h1 | h1
   ·exact hf j h1
   ·have : j = i := by omega
    subst this; exact h
 ·obtain rfl : i = l.length := by simp at h; omega
  (repeat (first | refine FW.seq ?_ | refine FW.region ?_ | refine FW.exit ?_ | refine zc.nil ?_ | refine za rfl rfl rfl ?_))
  have he : ixO p l = -1 := by
   unfold ixO
   rw [if_neg]
   intro h
   obtain ⟨j, h1, h2⟩ := Yi.1 h
   rw [hf j h1] at h2; cases h2
  exact FW.ret ⟨.inl rfl, zO rfl rfl (by rw [he]; rfl) rfl⟩
theorem zaj (l : List OpV) (cf : Nat) (caps : List FV) (p : OpV → Bool) (hl : l.length ≤ 1000000000) (hp : ∀ o : OpV, yg Try.prog cf ([.agg o.fv] ++ caps) .fr (.bool (p o))) : yg Try.prog 70 [.list 8 (l.map OpV.fv), .fn cf caps] .fr (.bool (l.any p)) := by
 refine yg.of_body (c := (Zy Try.prog zG zA 9)) ⟨Try.func70, rfl, Try.ntmps70, by kernel_rfl⟩ (by simp [FV.hand]) (by exact Nat.le_of_ble_eq_true rfl) rfl ?_
 change FW _ _ _ ⟨[(0, .list 8 (l.map OpV.fv)), (1, .fn cf caps)], []⟩
 (repeat (first | refine FW.seq ?_ | refine FW.region ?_ | refine zc.nil ?_ | refine za rfl rfl rfl ?_ | refine zb rfl rfl rfl ?_))
 refine zJ (Uk l cf caps p hl hp) (by repeat (first | exact zj.nil | refine zj.cons (by exact yu.plain rfl rfl) ?_)) rfl rfl ?_
 (repeat (first | refine zc.nil ?_ | refine za rfl rfl rfl ?_ | refine zaY rfl rfl rfl rfl ?_))
 refine FW.ret ⟨.inl rfl, zO rfl rfl ?_ rfl⟩
 refine congrArg FV.bool ?_
 unfold ixO
 cases h : l.any p with
 | true => rw [if_pos rfl]; exact decide_eq_true (Int.natCast_nonneg _)
 | false => rw [if_neg (by decide)]; rfl
theorem ze5 (a b x y : Int) : zhN Try.prog 104 [.int .i64 a, .int .i64 b] [.int .i64 x, .int .i64 y] (decide (a = x ∧ b = y)) := by
 refine ⟨by kernel_rfl, fun w => ?_⟩
 show (Op.equalIn 10000 104 (.agg #[.int .i64 a, .int .i64 b]) (.agg #[.int .i64 x, .int .i64 y])).run Try.prog w = _
 have hS : Try.prog.underlying 104 = some (.struct (Try.prog.fieldsOf 104)) := by kernel_rfl
 have hp : Try.prog.stoodInHeld 104 = false := by kernel_rfl
 rw [show (10000 : Nat) = 9999 + 1 from rfl, run_equalIn_agg w 9999 104 _ _ hS hp]
 simp only [Program.fieldsOf, Try.underlying104]
 simp [go_sem]
 by_cases h1 : a = x
 ·by_cases h2 : b = y <;> simp [h1, h2]
 ·simp [h1]
set_option maxHeartbeats 4000000 in
theorem zai (key : Int) (o : OpV) : yg Try.prog 71 ([.agg o.fv] ++ [.eptr 1 [[.int .i64 key]] 0 0]) .fr (.bool (Vt key 0 o)) := by
 have hv := Zn o
 obtain ⟨R, hR⟩ : ∃ R, Vt key 0 o = R := ⟨_, rfl⟩
 rw [hR]
 refine yg.of_body (c := (Zy Try.prog zG zA 18)) ⟨Try.func71, rfl, Try.ntmps71, by kernel_rfl⟩ (by simp [FV.hand]) (by exact Nat.le_of_ble_eq_true rfl) rfl ?_
 change FW _ _ _ ⟨[(0, .agg o.fv), (1, .eptr 1 [[.int .i64 key]] 0 0)], []⟩
 (repeat (first | refine FW.seq ?_ | refine FW.region ?_ | refine zc.nil ?_ | refine WO rfl rfl rfl rfl rfl rfl rfl ?_ | refine za rfl rfl rfl ?_))
 refine FW.drawQ (by kernel_rfl) ?_
 (repeat (first | refine ZX rfl rfl rfl rfl rfl rfl (by decide) rfl rfl ?_ | refine Zj rfl rfl rfl rfl rfl (by simp; done) rfl rfl rfl rfl rfl ?_ | refine zcV rfl rfl rfl rfl ?_ | refine zV rfl rfl rfl ?_))
 refine UH (fun h1 => ?_) (fun h1 => ?_)
 ·have h1 : o.k = 0 := by simpa using h1
  (repeat (first | refine zV rfl rfl rfl ?_ | refine Xi rfl rfl rfl rfl ?_ | refine ZX rfl rfl rfl rfl rfl rfl (by decide) rfl ⟨_, _, rfl, rfl, rfl⟩ ?_ | refine Zj rfl rfl rfl rfl rfl (by simp; done) rfl rfl rfl rfl ⟨_, _, rfl, rfl, rfl⟩ ?_))
  cases hd : o.done with
  | true =>
   have hc : Zx o = Vk o.key o.res := by unfold Zx; rw [YV h1]
   rw [hc] at hv
   (repeat (first | refine zcW rfl rfl rfl (by decide) rfl rfl (by simp; done) rfl rfl rfl ⟨_, _, rfl, rfl, rfl⟩ ?_))
   refine zg8 hv (by repeat (first | exact zj.nil | refine zj.cons (by exact yu.plain rfl rfl) ?_)) rfl ⟨_, _, rfl, rfl, rfl⟩ ?_
   (repeat (first | refine yh rfl rfl rfl (by simp; done) rfl rfl rfl rfl ⟨_, _, rfl, rfl, rfl⟩ ?_ | refine zg6 rfl rfl rfl ⟨_, _, rfl, rfl, rfl⟩ ?_ | refine yP.nil ?_ | refine yP.one rfl rfl rfl rfl rfl ?_))
   refine zkx rfl rfl rfl rfl (ze5 o.key o.res key 0) rfl ⟨_, _, rfl, rfl, rfl⟩ ?_
   (repeat (first | refine zE.nil ?_ | refine xH rfl rfl rfl ?_ | refine Xi rfl rfl rfl rfl ?_))
   refine ⟨by kernel_rfl, ?_⟩
   skip
   refine FW.ret ⟨.inl rfl, zO rfl rfl ?_ rfl⟩
   rw [← hR]
   refine congrArg FV.bool ?_
   unfold Vt
   rw [hd, decide_eq_true h1, Bool.true_and, Bool.true_and, Bool.decide_and]
  | false =>
   (repeat (first | refine zE.nil ?_ | refine xH rfl rfl rfl ?_ | refine Xh rfl rfl rfl rfl ?_ | refine WN rfl rfl ⟨_, _, rfl, rfl, rfl⟩ ?_))
   refine ⟨by kernel_rfl, ?_⟩
   skip
   refine FW.ret ⟨.inl rfl, zO rfl rfl ?_ rfl⟩
   rw [← hR]
   refine congrArg FV.bool ?_
   unfold Vt
   rw [hd, Bool.false_and, Bool.and_false]
 ·have h1 : ¬ o.k = 0 := by simpa using h1
  (repeat (first | refine zE.nil ?_ | refine xH rfl rfl rfl ?_ | refine zV rfl rfl rfl ?_ | refine Xh rfl rfl rfl rfl ?_ | refine WN rfl rfl ⟨_, _, rfl, rfl, rfl⟩ ?_))
  refine ⟨by kernel_rfl, ?_⟩
  skip
  refine FW.ret ⟨.inl rfl, zO rfl rfl ?_ rfl⟩
  rw [← hR]
  refine congrArg FV.bool ?_
  unfold Vt
  rw [decide_eq_false h1, Bool.false_and]
end Go.Proofs.Ytbeebjdnapkhhaa
