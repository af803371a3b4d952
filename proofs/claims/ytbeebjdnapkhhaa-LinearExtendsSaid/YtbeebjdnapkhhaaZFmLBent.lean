/-
  bent of layer 21, at plain values.
-/
import Derived.Test.YtbeebjdnapkhhaaZFmHistR
import Derived.Test.YtbeebjdnapkhhaaZI
namespace Go.Proofs.Ytbeebjdnapkhhaa
set_option linter.unusedVariables false
open Go.RowKit

def zdr (l : List Int) (a0 a1 a2 b0 b1 b2 : Int) : List OpV :=
 if a0 < 0 then XF false l
 else if b0 < 0 then Xy (XF false l) a0 a1 a2
 else Xy (Xy (XF false l) a0 a1 a2) b0 b1 b2
theorem zeT (l : List Int) (a0 a1 a2 b0 b1 b2 : Int) : zfW false (zdr l a0 a1 a2 b0 b1 b2) := by
 unfold zdr
 split
 ·exact Xe false l
 ·split
  ·exact (Xe false l).bent _ _ _
  ·exact ((Xe false l).bent _ _ _).bent _ _ _
set_option maxHeartbeats 4000000 in
theorem zeU (l : List Int) (a0 a1 a2 b0 b1 b2 : Int) (hl : ∀ x ∈ l, I64 x) (hlen : l.length ≤ 9223372036854775807) (i0 : I64 a0) (i1 : I64 a1) (i2 : I64 a2) (j0 : I64 b0) (j1 : I64 b1) (j2 : I64 b2) :
  yg Try.prog 13 [.list 1 (l.map zF), .agg [.int .i64 a0, .int .i64 a1, .int .i64 a2], .agg [.int .i64 b0, .int .i64 b1, .int .i64 b2]] (.ow 41 8) (.list 8 ((zdr l a0 a1 a2 b0 b1 b2).map OpV.fv)) := by
 have hh := Xe false l
 have hB := VE (XF false l) a0 a1 a2 (by have := hh.len; omega) i0 i1 i2
 have hh1 := hh.bent a0 a1 a2
 have hC := VE (Xy (XF false l) a0 a1 a2) b0 b1 b2 (by have := hh1.len; omega) j0 j1 j2
 refine yg.of_body (c := (Zy Try.prog zG zA 34)) ⟨Try.func13, rfl, Try.ntmps13, by kernel_rfl⟩ (by simp [FV.hand]) (by exact Nat.le_of_ble_eq_true rfl) rfl ?_
 change FW _ _ _ ⟨[(0, .list 1 (l.map zF)), (1, .agg [.int .i64 a0, .int .i64 a1, .int .i64 a2]), (2, .agg [.int .i64 b0, .int .i64 b1, .int .i64 b2])], []⟩
 (repeat (first | refine FW.seq ?_ | refine FW.region ?_ | refine zc.nil ?_ | refine WO rfl rfl rfl rfl rfl rfl rfl ?_ | refine za rfl rfl rfl ?_ | refine zb rfl rfl rfl ?_))
 refine ye (zfh l hl hlen) (by repeat (first | exact zj.nil | refine zj.cons (by exact yu.plain rfl rfl) ?_)) (List.length_map _) rfl rfl rfl ?_
 (repeat (first | refine FW.seq ?_ | refine FW.region ?_ | refine zc.nil ?_ | refine za rfl rfl rfl ?_ | refine xP rfl rfl rfl rfl rfl rfl rfl (by decide) (by simp; done) rfl rfl ?_ | refine zq rfl rfl rfl rfl rfl (by simp; done) rfl rfl rfl rfl rfl ?_ | refine zH rfl rfl rfl rfl ?_))
 refine FW.cond rfl (fun h => ?_) (fun h => ?_)
 ·have h : a0 < 0 := by simpa using h
  (repeat (first | refine FW.seq ?_ | refine FW.region ?_ | refine zc.nil ?_ | refine za rfl rfl rfl ?_ | refine zb rfl rfl rfl ?_))
  exact FW.ret ⟨.inl rfl, Zb rfl rfl rfl (by simp) (by decide) (by rw [zdr, if_pos h]) (opT.flatsM _)⟩
 ·have h : ¬ a0 < 0 := by simpa using h
  (repeat (first | refine FW.seq ?_ | refine FW.region ?_ | refine FW.skip ?_ | refine zb rfl rfl rfl ?_ | refine xP rfl rfl rfl rfl rfl rfl rfl (by decide) (by simp; done) rfl rfl ?_ | refine zq rfl rfl rfl rfl rfl (by simp; done) rfl rfl rfl rfl rfl ?_))
  refine ye hB (by repeat (first | exact zj.nil | refine zj.cons (by first | exact yu.plain rfl rfl | exact yu.own rfl rfl (by decide) (by first | exact (fun _ => rfl) | (intro h; cases h)) (by first | rfl | (simp; done) | (congr 1; omega) | (simp; omega) | (simp [List.take_of_length_le]; done) | (refine congrArg (FV.int .i64) ?_; omega))) ?_)) (List.length_map _) rfl rfl rfl ?_
  (repeat (first | refine FW.seq ?_ | refine FW.region ?_ | refine zc.nil ?_ | refine za rfl rfl rfl ?_ | refine xP rfl rfl rfl rfl rfl rfl rfl (by decide) (by simp; done) rfl rfl ?_ | refine zq rfl rfl rfl rfl rfl (by simp; done) rfl rfl rfl rfl rfl ?_ | refine zH rfl rfl rfl rfl ?_))
  refine FW.cond rfl (fun h2 => ?_) (fun h2 => ?_)
  ·have h2 : b0 < 0 := by simpa using h2
   (repeat (first | refine FW.seq ?_ | refine FW.region ?_ | refine zc.nil ?_ | refine za rfl rfl rfl ?_ | refine zb rfl rfl rfl ?_))
   exact FW.ret ⟨.inl rfl, Zb rfl rfl rfl (by simp) (by decide) (by rw [zdr, if_neg h, if_pos h2]) (opT.flatsM _)⟩
  ·have h2 : ¬ b0 < 0 := by simpa using h2
   (repeat (first | refine FW.seq ?_ | refine FW.region ?_ | refine FW.skip ?_ | refine zb rfl rfl rfl ?_ | refine xP rfl rfl rfl rfl rfl rfl rfl (by decide) (by simp; done) rfl rfl ?_ | refine zq rfl rfl rfl rfl rfl (by simp; done) rfl rfl rfl rfl rfl ?_))
   refine ye hC (by repeat (first | exact zj.nil | refine zj.cons (by first | exact yu.plain rfl rfl | exact yu.own rfl rfl (by decide) (by first | exact (fun _ => rfl) | (intro h; cases h)) (by first | rfl | (simp; done) | (congr 1; omega) | (simp; omega) | (simp [List.take_of_length_le]; done) | (refine congrArg (FV.int .i64) ?_; omega))) ?_)) (List.length_map _) rfl rfl rfl ?_
   (repeat (first | refine zc.nil ?_ | refine za rfl rfl rfl ?_))
   exact FW.ret ⟨.inl rfl, Zb rfl rfl rfl (by simp) (by decide) (by rw [zdr, if_neg h, if_neg h2]) (opT.flatsM _)⟩

end Go.Proofs.Ytbeebjdnapkhhaa
