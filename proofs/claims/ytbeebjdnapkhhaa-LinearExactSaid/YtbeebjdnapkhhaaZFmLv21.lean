/-
  lives of layer 21, at plain values.
-/
import Derived.Test.YtbeebjdnapkhhaaZFmLinC
import Derived.Test.YtbeebjdnapkhhaaZV
import Derived.Test.YtbeebjdnapkhhaaZG
namespace Go.Proofs.Ytbeebjdnapkhhaa
set_option linter.unusedVariables false
open Go.RowKit

def YG (r : Int) : List OpV := [⟨0, 1, 0, 5, 0, 0, 3, true⟩, ⟨1, 0, 0, 0, 5, 1, 2, true⟩, ⟨2, 0, 0, 0, r, 4, 5, true⟩]
theorem zjJ (r : Int) (h : r = 0 ∨ r = 5) : xy (YG r) = 0 := by rcases h with rfl | rfl <;> decide +kernel
theorem zjK (r : Int) (h : r = 0 ∨ r = 5) : yb (YG r) := by rcases h with rfl | rfl <;> decide +kernel
theorem zk9 : zfY (YG 0) = some 0 := by unfold zfY; rw [zew]; decide +kernel
theorem zla : UV (YG 0) 0 = ⟨4, [], [(1, 2)]⟩ := by decide +kernel
theorem zkv : zfY (YG 5) = none := by unfold zfY; rw [zew]; decide +kernel
theorem zdW {l : List OpV} {K : List Int} (H : H21 l) (V : ∀ c ∈ K, VO l c) (hK : ∀ i, i < l.length → (nth l i).key ∈ K) {i : Nat} (hi : i < l.length) (ii : zO l i = true) : zb4 l K i < (Vh l K).length ∧ nth (Vh l K) (zb4 l K i) = i := by
 have E := Yv H V hK
 have mi := yf.2 ⟨hi, ii⟩
 have hm := E.mem (xL mi)
 have h1 : zb4 l K i < (zhY l K).length := Yw hm
 refine ⟨by unfold Vh; rw [List.length_map]; exact h1, ?_⟩
 have e : nth (zhY l K) (zb4 l K i) = zdr l i := xB hm
 unfold Vh
 rw [zg (by rw [List.length_map]; exact h1), List.getElem_map, ← zg h1, e, Xh mi]
theorem zlb : Vh (YG 5) (yR (YG 5)) = [0, 1, 2] := by
 have H := VJ (zjJ 5 (.inr rfl)) (zjK 5 (.inr rfl))
 have V := UU.1 zkv
 have hK := zcD (YG 5)
 have T := zeI H V hK
 have hin : ∀ i, i < 3 → zO (YG 5) i = true := by decide +kernel
 have hlen : (Vh (YG 5) (yR (YG 5))).length = 3 := by rw [zeH H V hK]; decide +kernel
 have t02 := T.rt 0 2 (by decide) (by decide) (hin 0 (by decide)) (hin 2 (by decide)) (by decide +kernel)
 have t12 := T.rt 1 2 (by decide) (by decide) (hin 1 (by decide)) (hin 2 (by decide)) (by decide +kernel)
 have t01 : zb4 (YG 5) (yR (YG 5)) 0 ≤ zb4 (YG 5) (yR (YG 5)) 1 := by
  rcases T.rd 1 (by decide) (by decide) (by decide) with ⟨e, _⟩ | ⟨w, hw, ha, hle, _⟩
  ·exact absurd e (by decide)
  ·have hw0 : w = 0 := by
    have h1 := hw.1
    have h2 := hw.2.2.1
    have hl : (YG 5).length = 3 := rfl
    rw [hl] at h1
    match w, h1, h2 with
    | 0, _, _ => rfl
    | 1, _, h2 => exact absurd h2 (by decide)
    | 2, _, h2 => exact absurd h2 (by decide)
   rw [hw0] at hle; exact hle
 have n01 : zb4 (YG 5) (yR (YG 5)) 0 ≠ zb4 (YG 5) (yR (YG 5)) 1 := fun e => absurd (zj5 H V hK (by decide) (by decide) (hin 0 (by decide)) (hin 1 (by decide)) e) (by decide)
 obtain ⟨a0, b0⟩ := zdW H V hK (i := 0) (by decide) (hin 0 (by decide))
 obtain ⟨a1, b1⟩ := zdW H V hK (i := 1) (by decide) (hin 1 (by decide))
 obtain ⟨a2, b2⟩ := zdW H V hK (i := 2) (by decide) (hin 2 (by decide))
 rw [hlen] at a0 a1 a2
 rw [show zb4 (YG 5) (yR (YG 5)) 0 = 0 by omega] at b0
 rw [show zb4 (YG 5) (yR (YG 5)) 1 = 1 by omega] at b1
 rw [show zb4 (YG 5) (yR (YG 5)) 2 = 2 by omega] at b2
 refine zC (by rw [hlen]; rfl) fun i hi => ?_
 rw [hlen] at hi
 match i, hi with
 | 0, _ => rw [b0]; rfl
 | 1, _ => rw [b1]; rfl
 | 2, _ => rw [b2]; rfl
theorem zkt : zjq (YG 0) = [.int .i64 2, .int .i64 4, .int .i64 0, .list 1 [], .list 3 [rtf (1, 2)]] ∧ zdq (YG 0) = 0 := by
 have hE : zdq (YG 0) = 0 := by
  unfold zdq
  rw [if_neg (by rw [zjJ 0 (.inl rfl)]; decide), if_pos (zjK 0 (.inl rfl))]
 refine ⟨?_, hE⟩
 unfold zjq zhZ
 rw [hE, if_neg (by decide), zk9]
 dsimp only
 rw [zla]; rfl
theorem zku : zjq (YG 5) = [.int .i64 2, .int .i64 0, .int .i64 0, .list 1 ([0, 1, 2].map zH), .list 3 []] ∧ zdq (YG 5) = 0 := by
 have hE : zdq (YG 5) = 0 := by
  unfold zdq
  rw [if_neg (by rw [zjJ 5 (.inr rfl)]; decide), if_pos (zjK 5 (.inr rfl))]
 refine ⟨?_, hE⟩
 unfold zjq zhZ
 rw [hE, if_neg (by decide), zkv]
 dsimp only
 rw [zlb]; rfl
set_option maxHeartbeats 4000000 in
theorem YU : zZ Try.prog 16 [] .fr (.bool true) := by
 have hA := Yu (YG 0) (by decide) (fun o ho => by simp only [YG, List.mem_cons, List.not_mem_nil, or_false] at ho; rcases ho with rfl | rfl | rfl <;> (unfold zaE I64; decide))
 have hB := Yu (YG 5) (by decide) (fun o ho => by simp only [YG, List.mem_cons, List.not_mem_nil, or_false] at ho; rcases ho with rfl | rfl | rfl <;> (unfold zaE I64; decide))
 rw [zkt.1, zkt.2] at hA
 rw [zku.1, zku.2] at hB
 change zZ _ _ [.list 8 [OpV.fv ⟨0, 1, 0, 5, 0, 0, 3, true⟩, OpV.fv ⟨1, 0, 0, 0, 5, 1, 2, true⟩, OpV.fv ⟨2, 0, 0, 0, 0, 4, 5, true⟩]] _ _ at hA
 refine zZ.of_body (c := (Zf Try.prog zE zA 65)) ⟨Try.func16, rfl, Try.ntmps16, by kernel_rfl⟩ (by simp [FV.hand]) (by exact Nat.le_of_ble_eq_true rfl) rfl ?_
 change FW _ _ _ ⟨[], []⟩
 (repeat (first | refine FW.seq ?_ | refine FW.region ?_ | refine zc.nil ?_ | refine za rfl rfl rfl ?_ | refine yI rfl rfl rfl rfl ?_ | refine yQ.nil ?_ | refine yQ.one rfl rfl rfl rfl rfl ?_))
 refine zfO (es := [OpV.fv ⟨0, 1, 0, 5, 0, 0, 3, true⟩, OpV.fv ⟨1, 0, 0, 0, 5, 1, 2, true⟩, OpV.fv ⟨2, 0, 0, 0, 0, 4, 5, true⟩]) rfl rfl rfl (by refine ZL.agg rfl rfl rfl ?_; refine ZL.agg rfl rfl rfl ?_; refine ZL.agg rfl rfl rfl ?_; exact ZL.nil) rfl rfl rfl rfl rfl rfl ?_
 (repeat (first | refine FW.seq ?_ | refine FW.region ?_ | refine zc.nil ?_ | refine za rfl rfl rfl ?_ | refine zb rfl rfl rfl ?_))
 refine zhs hA rfl rfl rfl (by decide +kernel) (by decide +kernel) rfl rfl ?_
 (repeat (first | refine FW.seq ?_ | refine FW.region ?_ | refine FW.skip ?_ | refine FW.condF rfl ?_ | refine zc.nil ?_ | refine za rfl rfl rfl ?_ | refine zb rfl rfl rfl ?_ | refine zP rfl rfl rfl rfl rfl ?_ | refine yg rfl rfl rfl rfl rfl rfl rfl ?_ | refine zF rfl rfl rfl rfl rfl rfl rfl rfl rfl ?_ | refine yc rfl rfl rfl rfl rfl rfl (by simp; done) rfl rfl rfl rfl ?_ | refine YE rfl rfl rfl rfl ?_ | refine zp rfl rfl rfl rfl rfl rfl (by decide) rfl rfl ?_ | refine zM rfl rfl rfl rfl ?_ | refine zy rfl rfl rfl rfl rfl rfl (by decide) rfl (by simp; done) rfl rfl ?_ | refine zp rfl rfl rfl rfl rfl rfl (by decide) rfl ⟨_, _, rfl, rfl, rfl⟩ ?_ | refine zt rfl rfl rfl rfl rfl (by simp; done) rfl rfl rfl rfl ⟨_, _, rfl, rfl, rfl⟩ ?_ | refine YE rfl rfl rfl ⟨_, _, rfl, rfl, rfl⟩ ?_ | refine zq rfl rfl (by first | rfl | (simp; done)) rfl ⟨_, _, rfl, rfl, rfl⟩ ?_))
 refine zc.le ?_ (FLe.share 38 rfl rfl (by rfl))
 refine xR hB (by repeat (first | exact zh.nil | refine zh.cons (by exact ym.plain rfl rfl) ?_)) rfl rfl ?_
 (repeat (first | refine FW.seq ?_ | refine FW.region ?_ | refine zc.nil ?_ | refine za rfl rfl rfl ?_ | refine zb rfl rfl rfl ?_ | refine zP rfl rfl rfl rfl rfl ?_ | refine yg rfl rfl rfl rfl rfl rfl rfl ?_ | refine zF rfl rfl rfl rfl rfl rfl rfl rfl rfl ?_ | refine zW rfl rfl rfl rfl rfl rfl rfl ?_ | refine zp rfl rfl rfl rfl rfl rfl (by decide) rfl rfl ?_ | refine zB rfl rfl rfl (by simp; done) rfl rfl rfl rfl rfl ?_ | refine zt rfl rfl rfl rfl rfl (by simp; done) rfl rfl rfl rfl rfl ?_ | refine zN rfl rfl rfl rfl ?_ | refine zx rfl rfl rfl rfl rfl rfl (by simp; done) rfl rfl ?_ | refine yu rfl rfl rfl rfl ?_ | refine zp rfl rfl rfl rfl rfl rfl (by decide) rfl ⟨_, _, rfl, rfl, rfl⟩ ?_ | refine zt rfl rfl rfl rfl rfl (by simp; done) rfl rfl rfl rfl ⟨_, _, rfl, rfl, rfl⟩ ?_ | refine zb rfl rfl ⟨_, _, rfl, rfl, rfl⟩ ?_ | refine yu rfl rfl rfl ⟨_, _, rfl, rfl, rfl⟩ ?_))
 refine Wo (es := [0, 1, 2].map zH) rfl rfl rfl (by refine ZL.int rfl rfl ?_; refine ZL.int rfl rfl ?_; refine ZL.int rfl rfl ?_; exact ZL.nil) rfl rfl rfl rfl rfl ⟨_, _, rfl, rfl, rfl⟩ ?_
 refine zK (zbV [0, 1, 2] [0, 1, 2] (by decide) (by decide)) (by repeat (first | exact zh.nil | refine zh.cons (by first | exact ym.plain rfl rfl | exact ym.own rfl rfl (by decide) (by first | exact (fun _ => rfl) | (intro h; cases h)) (by first | rfl | (simp; done) | (congr 1; omega) | (simp; omega) | (simp [List.take_of_length_le]; done) | (refine congrArg (FV.int .i64) ?_; omega))) ?_)) rfl ⟨_, _, rfl, rfl, rfl⟩ ?_
 (repeat (first | refine zc.nil ?_ | refine za rfl rfl rfl ?_ | refine zN rfl rfl rfl rfl ?_))
 exact FW.ret ⟨.inl rfl, zD rfl rfl rfl rfl⟩
end Go.Proofs.Ytbeebjdnapkhhaa
