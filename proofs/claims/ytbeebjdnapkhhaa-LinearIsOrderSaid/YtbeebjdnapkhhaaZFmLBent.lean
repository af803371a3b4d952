/-
  bent of layer 21, at plain values.
-/
import Derived.Test.YtbeebjdnapkhhaaZFmHistR
import Derived.Test.YtbeebjdnapkhhaaZI
namespace Go.Proofs.Ytbeebjdnapkhhaa
set_option linter.unusedVariables false
open Go.RowKit

def zdK (l : List Int) (a0 a1 a2 b0 b1 b2 : Int) : List OpV :=
 if a0 < 0 then XS false l
 else if b0 < 0 then XJ (XS false l) a0 a1 a2
 else XJ (XJ (XS false l) a0 a1 a2) b0 b1 b2
theorem zfm (l : List Int) (a0 a1 a2 b0 b1 b2 : Int) : zfg false (zdK l a0 a1 a2 b0 b1 b2) := by
 unfold zdK
 split
 ·exact Xq false l
 ·split
  ·exact (Xq false l).bent _ _ _
  ·exact ((Xq false l).bent _ _ _).bent _ _ _
set_option maxHeartbeats 4000000 in
theorem zfn (l : List Int) (a0 a1 a2 b0 b1 b2 : Int) (hl : ∀ x ∈ l, I64 x) (hlen : l.length ≤ 9223372036854775807) (i0 : I64 a0) (i1 : I64 a1) (i2 : I64 a2) (j0 : I64 b0) (j1 : I64 b1) (j2 : I64 b2) :
  zU Try.prog 13 [.list 1 (l.map zF), .agg [.int .i64 a0, .int .i64 a1, .int .i64 a2], .agg [.int .i64 b0, .int .i64 b1, .int .i64 b2]] (.ow 41 8) (.list 8 ((zdK l a0 a1 a2 b0 b1 b2).map OpV.fv)) := by
 have hh := Xq false l
 have hB := VW (XS false l) a0 a1 a2 (by have := hh.len; omega) i0 i1 i2
 have hh1 := hh.bent a0 a1 a2
 have hC := VW (XJ (XS false l) a0 a1 a2) b0 b1 b2 (by have := hh1.len; omega) j0 j1 j2
 refine zU.of_body (c := (xN Try.prog zE zA 34)) ⟨Try.func13, rfl, Try.ntmps13, by kernel_rfl⟩ (by simp [FV.hand]) (by exact Nat.le_of_ble_eq_true rfl) rfl ?_
 change FW _ _ _ ⟨[(0, .list 1 (l.map zF)), (1, .agg [.int .i64 a0, .int .i64 a1, .int .i64 a2]), (2, .agg [.int .i64 b0, .int .i64 b1, .int .i64 b2])], []⟩
 (repeat (first | refine FW.seq ?_ | refine FW.region ?_ | refine zc.nil ?_ | refine Va rfl rfl rfl rfl rfl rfl rfl ?_ | refine za rfl rfl rfl ?_ | refine zb rfl rfl rfl ?_))
 refine yc (zfL l hl hlen) (by repeat (first | exact zh.nil | refine zh.cons (by exact yf.plain rfl rfl) ?_)) (List.length_map _) rfl rfl rfl ?_
 (repeat (first | refine FW.seq ?_ | refine FW.region ?_ | refine zc.nil ?_ | refine za rfl rfl rfl ?_ | refine xX rfl rfl rfl rfl rfl rfl rfl (by decide) (by simp; done) rfl rfl ?_ | refine zn rfl rfl rfl rfl rfl (by simp; done) rfl rfl rfl rfl rfl ?_ | refine zJ rfl rfl rfl rfl ?_))
 refine FW.cond rfl (fun h => ?_) (fun h => ?_)
 ·have h : a0 < 0 := by simpa using h
  (repeat (first | refine FW.seq ?_ | refine FW.region ?_ | refine zc.nil ?_ | refine za rfl rfl rfl ?_ | refine zb rfl rfl rfl ?_))
  exact FW.ret ⟨.inl rfl, xO rfl rfl rfl (by simp) (by decide) (by rw [zdK, if_pos h]) (opT.flatsM _)⟩
 ·have h : ¬ a0 < 0 := by simpa using h
  (repeat (first | refine FW.seq ?_ | refine FW.region ?_ | refine FW.skip ?_ | refine zb rfl rfl rfl ?_ | refine xX rfl rfl rfl rfl rfl rfl rfl (by decide) (by simp; done) rfl rfl ?_ | refine zn rfl rfl rfl rfl rfl (by simp; done) rfl rfl rfl rfl rfl ?_))
  refine yc hB (by repeat (first | exact zh.nil | refine zh.cons (by first | exact yf.plain rfl rfl | exact yf.own rfl rfl (by decide) (by first | exact (fun _ => rfl) | (intro h; cases h)) (by first | rfl | (simp; done) | (congr 1; omega) | (simp; omega) | (simp [List.take_of_length_le]; done) | (refine congrArg (FV.int .i64) ?_; omega))) ?_)) (List.length_map _) rfl rfl rfl ?_
  (repeat (first | refine FW.seq ?_ | refine FW.region ?_ | refine zc.nil ?_ | refine za rfl rfl rfl ?_ | refine xX rfl rfl rfl rfl rfl rfl rfl (by decide) (by simp; done) rfl rfl ?_ | refine zn rfl rfl rfl rfl rfl (by simp; done) rfl rfl rfl rfl rfl ?_ | refine zJ rfl rfl rfl rfl ?_))
  refine FW.cond rfl (fun h2 => ?_) (fun h2 => ?_)
  ·have h2 : b0 < 0 := by simpa using h2
   (repeat (first | refine FW.seq ?_ | refine FW.region ?_ | refine zc.nil ?_ | refine za rfl rfl rfl ?_ | refine zb rfl rfl rfl ?_))
   exact FW.ret ⟨.inl rfl, xO rfl rfl rfl (by simp) (by decide) (by rw [zdK, if_neg h, if_pos h2]) (opT.flatsM _)⟩
  ·have h2 : ¬ b0 < 0 := by simpa using h2
   (repeat (first | refine FW.seq ?_ | refine FW.region ?_ | refine FW.skip ?_ | refine zb rfl rfl rfl ?_ | refine xX rfl rfl rfl rfl rfl rfl rfl (by decide) (by simp; done) rfl rfl ?_ | refine zn rfl rfl rfl rfl rfl (by simp; done) rfl rfl rfl rfl rfl ?_))
   refine yc hC (by repeat (first | exact zh.nil | refine zh.cons (by first | exact yf.plain rfl rfl | exact yf.own rfl rfl (by decide) (by first | exact (fun _ => rfl) | (intro h; cases h)) (by first | rfl | (simp; done) | (congr 1; omega) | (simp; omega) | (simp [List.take_of_length_le]; done) | (refine congrArg (FV.int .i64) ?_; omega))) ?_)) (List.length_map _) rfl rfl rfl ?_
   (repeat (first | refine zc.nil ?_ | refine za rfl rfl rfl ?_))
   exact FW.ret ⟨.inl rfl, xO rfl rfl rfl (by simp) (by decide) (by rw [zdK, if_neg h, if_neg h2]) (opT.flatsM _)⟩

end Go.Proofs.Ytbeebjdnapkhhaa
