/-
  bent of layer 21, at plain values.
-/
import Derived.Test.YtbeebjdnapkhhaaZFmHistR
import Derived.Test.YtbeebjdnapkhhaaZI
namespace Go.Proofs.Ytbeebjdnapkhhaa
set_option linter.unusedVariables false
open Go.RowKit

def zcb (l : List Int) (a0 a1 a2 b0 b1 b2 : Int) : List OpV :=
 if a0 < 0 then XF false l
 else if b0 < 0 then Xw (XF false l) a0 a1 a2
 else Xw (Xw (XF false l) a0 a1 a2) b0 b1 b2
theorem zaF (l : List Int) (a0 a1 a2 b0 b1 b2 : Int) : zd9 false (zcb l a0 a1 a2 b0 b1 b2) := by
 unfold zcb
 split
 ·exact Xg false l
 ·split
  ·exact (Xg false l).bent _ _ _
  ·exact ((Xg false l).bent _ _ _).bent _ _ _
set_option maxHeartbeats 4000000 in
theorem zaG (l : List Int) (a0 a1 a2 b0 b1 b2 : Int) (hl : ∀ x ∈ l, I64 x) (hlen : l.length ≤ 9223372036854775807) (i0 : I64 a0) (i1 : I64 a1) (i2 : I64 a2) (j0 : I64 b0) (j1 : I64 b1) (j2 : I64 b2) :
  zZ Try.prog 13 [.list 1 (l.map zH), .agg [.int .i64 a0, .int .i64 a1, .int .i64 a2], .agg [.int .i64 b0, .int .i64 b1, .int .i64 b2]] (.ow 41 8) (.list 8 ((zcb l a0 a1 a2 b0 b1 b2).map OpV.fv)) := by
 have hh := Xg false l
 have hB := VF (XF false l) a0 a1 a2 (by have := hh.len; omega) i0 i1 i2
 have hh1 := hh.bent a0 a1 a2
 have hC := VF (Xw (XF false l) a0 a1 a2) b0 b1 b2 (by have := hh1.len; omega) j0 j1 j2
 refine zZ.of_body (c := (Zf Try.prog zE zA 34)) ⟨Try.func13, rfl, Try.ntmps13, by kernel_rfl⟩ (by simp [FV.hand]) (by exact Nat.le_of_ble_eq_true rfl) rfl ?_
 change FW _ _ _ ⟨[(0, .list 1 (l.map zH)), (1, .agg [.int .i64 a0, .int .i64 a1, .int .i64 a2]), (2, .agg [.int .i64 b0, .int .i64 b1, .int .i64 b2])], []⟩
 (repeat (first | refine FW.seq ?_ | refine FW.region ?_ | refine zc.nil ?_ | refine WJ rfl rfl rfl rfl rfl rfl rfl ?_ | refine za rfl rfl rfl ?_ | refine zb rfl rfl rfl ?_))
 refine yh (zft l hl hlen) (by repeat (first | exact zh.nil | refine zh.cons (by exact ym.plain rfl rfl) ?_)) (List.length_map _) rfl rfl rfl ?_
 (repeat (first | refine FW.seq ?_ | refine FW.region ?_ | refine zc.nil ?_ | refine za rfl rfl rfl ?_ | refine xN rfl rfl rfl rfl rfl rfl rfl (by decide) (by simp; done) rfl rfl ?_ | refine zt rfl rfl rfl rfl rfl (by simp; done) rfl rfl rfl rfl rfl ?_ | refine zJ rfl rfl rfl rfl ?_))
 refine FW.cond rfl (fun h => ?_) (fun h => ?_)
 ·have h : a0 < 0 := by simpa using h
  (repeat (first | refine FW.seq ?_ | refine FW.region ?_ | refine zc.nil ?_ | refine za rfl rfl rfl ?_ | refine zb rfl rfl rfl ?_))
  exact FW.ret ⟨.inl rfl, Za rfl rfl rfl (by simp) (by decide) (by rw [zcb, if_pos h]) (opT.flatsM _)⟩
 ·have h : ¬ a0 < 0 := by simpa using h
  (repeat (first | refine FW.seq ?_ | refine FW.region ?_ | refine FW.skip ?_ | refine zb rfl rfl rfl ?_ | refine xN rfl rfl rfl rfl rfl rfl rfl (by decide) (by simp; done) rfl rfl ?_ | refine zt rfl rfl rfl rfl rfl (by simp; done) rfl rfl rfl rfl rfl ?_))
  refine yh hB (by repeat (first | exact zh.nil | refine zh.cons (by first | exact ym.plain rfl rfl | exact ym.own rfl rfl (by decide) (by first | exact (fun _ => rfl) | (intro h; cases h)) (by first | rfl | (simp; done) | (congr 1; omega) | (simp; omega) | (simp [List.take_of_length_le]; done) | (refine congrArg (FV.int .i64) ?_; omega))) ?_)) (List.length_map _) rfl rfl rfl ?_
  (repeat (first | refine FW.seq ?_ | refine FW.region ?_ | refine zc.nil ?_ | refine za rfl rfl rfl ?_ | refine xN rfl rfl rfl rfl rfl rfl rfl (by decide) (by simp; done) rfl rfl ?_ | refine zt rfl rfl rfl rfl rfl (by simp; done) rfl rfl rfl rfl rfl ?_ | refine zJ rfl rfl rfl rfl ?_))
  refine FW.cond rfl (fun h2 => ?_) (fun h2 => ?_)
  ·have h2 : b0 < 0 := by simpa using h2
   (repeat (first | refine FW.seq ?_ | refine FW.region ?_ | refine zc.nil ?_ | refine za rfl rfl rfl ?_ | refine zb rfl rfl rfl ?_))
   exact FW.ret ⟨.inl rfl, Za rfl rfl rfl (by simp) (by decide) (by rw [zcb, if_neg h, if_pos h2]) (opT.flatsM _)⟩
  ·have h2 : ¬ b0 < 0 := by simpa using h2
   (repeat (first | refine FW.seq ?_ | refine FW.region ?_ | refine FW.skip ?_ | refine zb rfl rfl rfl ?_ | refine xN rfl rfl rfl rfl rfl rfl rfl (by decide) (by simp; done) rfl rfl ?_ | refine zt rfl rfl rfl rfl rfl (by simp; done) rfl rfl rfl rfl rfl ?_))
   refine yh hC (by repeat (first | exact zh.nil | refine zh.cons (by first | exact ym.plain rfl rfl | exact ym.own rfl rfl (by decide) (by first | exact (fun _ => rfl) | (intro h; cases h)) (by first | rfl | (simp; done) | (congr 1; omega) | (simp; omega) | (simp [List.take_of_length_le]; done) | (refine congrArg (FV.int .i64) ?_; omega))) ?_)) (List.length_map _) rfl rfl rfl ?_
   (repeat (first | refine zc.nil ?_ | refine za rfl rfl rfl ?_))
   exact FW.ret ⟨.inl rfl, Za rfl rfl rfl (by simp) (by decide) (by rw [zcb, if_neg h, if_neg h2]) (opT.flatsM _)⟩

end Go.Proofs.Ytbeebjdnapkhhaa
