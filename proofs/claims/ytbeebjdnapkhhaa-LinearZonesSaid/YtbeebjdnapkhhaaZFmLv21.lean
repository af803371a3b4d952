/-
  lives of layer 21, at plain values.
-/
import Derived.Test.YtbeebjdnapkhhaaZFmLinC
import Derived.Test.YtbeebjdnapkhhaaZV
import Derived.Test.YtbeebjdnapkhhaaZG
namespace Go.Proofs.Ytbeebjdnapkhhaa
set_option linter.unusedVariables false
open Go.RowKit

def Yy (r : Int) : List OpV := [⟨0, 1, 0, 5, 0, 0, 3, true⟩, ⟨1, 0, 0, 0, 5, 1, 2, true⟩, ⟨2, 0, 0, 0, r, 4, 5, true⟩]
theorem ziU (r : Int) (h : r = 0 ∨ r = 5) : xx (Yy r) = 0 := by rcases h with rfl | rfl <;> decide +kernel
theorem ziV (r : Int) (h : r = 0 ∨ r = 5) : yu (Yy r) := by rcases h with rfl | rfl <;> decide +kernel
theorem zkg : zfw (Yy 0) = some 0 := by unfold zfw; rw [zdX]; decide +kernel
theorem zkh : Vp (Yy 0) 0 = ⟨4, [], [(1, 2)]⟩ := by decide +kernel
theorem zjE : zfw (Yy 5) = none := by unfold zfw; rw [zdX]; decide +kernel
theorem zdn {l : List OpV} {K : List Int} (H : H21 l) (V : ∀ c ∈ K, VO l c) (hK : ∀ i, i < l.length → (nth l i).key ∈ K) {i : Nat} (hi : i < l.length) (ii : yn l i = true) : zcU l K i < (zeU l K).length ∧ nth (zeU l K) (zcU l K i) = i := by
 have E := Wy H V hK
 have mi := yE.2 ⟨hi, ii⟩
 have hm := E.mem (xZ mi)
 have h1 : zcU l K i < (ziA l K).length := Yl hm
 refine ⟨by unfold zeU; rw [List.length_map]; exact h1, ?_⟩
 have e : nth (ziA l K) (zcU l K i) = zed l i := xA hm
 unfold zeU
 rw [zm (by rw [List.length_map]; exact h1), List.getElem_map, ← zm h1, e, Wd mi]
theorem zki : zeU (Yy 5) (yO (Yy 5)) = [0, 1, 2] := by
 have H := zbJ (ziU 5 (.inr rfl)) (ziV 5 (.inr rfl))
 have V := zcO.1 zjE
 have hK := zf5 (Yy 5)
 have T := zhQ H V hK
 have hin : ∀ i, i < 3 → yn (Yy 5) i = true := by decide +kernel
 have hlen : (zeU (Yy 5) (yO (Yy 5))).length = 3 := by rw [zd5 H V hK]; decide +kernel
 have t02 := T.rt 0 2 (by decide) (by decide) (hin 0 (by decide)) (hin 2 (by decide)) (by decide +kernel)
 have t12 := T.rt 1 2 (by decide) (by decide) (hin 1 (by decide)) (hin 2 (by decide)) (by decide +kernel)
 have t01 : zcU (Yy 5) (yO (Yy 5)) 0 ≤ zcU (Yy 5) (yO (Yy 5)) 1 := by
  rcases T.rd 1 (by decide) (by decide) (by decide) with ⟨e, _⟩ | ⟨w, hw, ha, hle, _⟩
  ·exact absurd e (by decide)
  ·have hw0 : w = 0 := by
    have h1 := hw.1
    have h2 := hw.2.2.1
    have hl : (Yy 5).length = 3 := rfl
    rw [hl] at h1
    match w, h1, h2 with
    | 0, _, _ => rfl
    | 1, _, h2 => exact absurd h2 (by decide)
    | 2, _, h2 => exact absurd h2 (by decide)
   rw [hw0] at hle; exact hle
 have n01 : zcU (Yy 5) (yO (Yy 5)) 0 ≠ zcU (Yy 5) (yO (Yy 5)) 1 := fun e => absurd (zjh H V hK (by decide) (by decide) (hin 0 (by decide)) (hin 1 (by decide)) e) (by decide)
 obtain ⟨a0, b0⟩ := zdn H V hK (i := 0) (by decide) (hin 0 (by decide))
 obtain ⟨a1, b1⟩ := zdn H V hK (i := 1) (by decide) (hin 1 (by decide))
 obtain ⟨a2, b2⟩ := zdn H V hK (i := 2) (by decide) (hin 2 (by decide))
 rw [hlen] at a0 a1 a2
 rw [show zcU (Yy 5) (yO (Yy 5)) 0 = 0 by omega] at b0
 rw [show zcU (Yy 5) (yO (Yy 5)) 1 = 1 by omega] at b1
 rw [show zcU (Yy 5) (yO (Yy 5)) 2 = 2 by omega] at b2
 refine zB (by rw [hlen]; rfl) fun i hi => ?_
 rw [hlen] at hi
 match i, hi with
 | 0, _ => rw [b0]; rfl
 | 1, _ => rw [b1]; rfl
 | 2, _ => rw [b2]; rfl
theorem zjC : zhe (Yy 0) = [.int .i64 2, .int .i64 4, .int .i64 0, .list 1 [], .list 3 [rtf (1, 2)]] ∧ zcS (Yy 0) = 0 := by
 have hE : zcS (Yy 0) = 0 := by
  unfold zcS
  rw [if_neg (by rw [ziU 0 (.inl rfl)]; decide), if_pos (ziV 0 (.inl rfl))]
 refine ⟨?_, hE⟩
 unfold zhe ziB
 rw [hE, if_neg (by decide), zkg]
 dsimp only
 rw [zkh]; rfl
theorem zjD : zhe (Yy 5) = [.int .i64 2, .int .i64 0, .int .i64 0, .list 1 ([0, 1, 2].map zG), .list 3 []] ∧ zcS (Yy 5) = 0 := by
 have hE : zcS (Yy 5) = 0 := by
  unfold zcS
  rw [if_neg (by rw [ziU 5 (.inr rfl)]; decide), if_pos (ziV 5 (.inr rfl))]
 refine ⟨?_, hE⟩
 unfold zhe ziB
 rw [hE, if_neg (by decide), zjE]
 dsimp only
 rw [zki]; rfl
set_option maxHeartbeats 4000000 in
theorem Zx : yc Try.prog 16 [] .fr (.bool true) := by
 have hA := Yk (Yy 0) (by decide) (fun o ho => by simp only [Yy, List.mem_cons, List.not_mem_nil, or_false] at ho; rcases ho with rfl | rfl | rfl <;> (unfold zbE I64; decide))
 have hB := Yk (Yy 5) (by decide) (fun o ho => by simp only [Yy, List.mem_cons, List.not_mem_nil, or_false] at ho; rcases ho with rfl | rfl | rfl <;> (unfold zbE I64; decide))
 rw [zjC.1, zjC.2] at hA
 rw [zjD.1, zjD.2] at hB
 change yc _ _ [.list 8 [OpV.fv ⟨0, 1, 0, 5, 0, 0, 3, true⟩, OpV.fv ⟨1, 0, 0, 0, 5, 1, 2, true⟩, OpV.fv ⟨2, 0, 0, 0, 0, 4, 5, true⟩]] _ _ at hA
 refine yc.of_body (c := (Zq Try.prog zE zy 65)) ⟨Try.func16, rfl, Try.ntmps16, by kernel_rfl⟩ (by simp [FV.hand]) (by exact Nat.le_of_ble_eq_true rfl) rfl ?_
 change FW _ _ _ ⟨[], []⟩
 (repeat (first | refine FW.seq ?_ | refine FW.region ?_ | refine zd.nil ?_ | refine za rfl rfl rfl ?_ | refine yG rfl rfl rfl rfl ?_ | refine yL.nil ?_ | refine yL.one rfl rfl rfl rfl rfl ?_))
 refine zfb (es := [OpV.fv ⟨0, 1, 0, 5, 0, 0, 3, true⟩, OpV.fv ⟨1, 0, 0, 0, 5, 1, 2, true⟩, OpV.fv ⟨2, 0, 0, 0, 0, 4, 5, true⟩]) rfl rfl rfl (by refine ZE.agg rfl rfl rfl ?_; refine ZE.agg rfl rfl rfl ?_; refine ZE.agg rfl rfl rfl ?_; exact ZE.nil) rfl rfl rfl rfl rfl rfl ?_
 (repeat (first | refine FW.seq ?_ | refine FW.region ?_ | refine zd.nil ?_ | refine za rfl rfl rfl ?_ | refine zb rfl rfl rfl ?_))
 refine zgN hA rfl rfl rfl (by decide +kernel) (by decide +kernel) rfl rfl ?_
 (repeat (first | refine FW.seq ?_ | refine FW.region ?_ | refine FW.skip ?_ | refine FW.condF rfl ?_ | refine zd.nil ?_ | refine za rfl rfl rfl ?_ | refine zb rfl rfl rfl ?_ | refine zM rfl rfl rfl rfl rfl ?_ | refine zS rfl rfl rfl rfl rfl rfl rfl ?_ | refine zA rfl rfl rfl rfl rfl rfl rfl rfl rfl ?_ | refine zZ rfl rfl rfl rfl rfl rfl (by simp; done) rfl rfl rfl rfl ?_ | refine xu rfl rfl rfl rfl ?_ | refine zg rfl rfl rfl rfl rfl rfl (by decide) rfl rfl ?_ | refine zL rfl rfl rfl rfl ?_ | refine zx rfl rfl rfl rfl rfl rfl (by decide) rfl (by simp; done) rfl rfl ?_ | refine zg rfl rfl rfl rfl rfl rfl (by decide) rfl ⟨_, _, rfl, rfl, rfl⟩ ?_ | refine zh rfl rfl rfl rfl rfl (by simp; done) rfl rfl rfl rfl ⟨_, _, rfl, rfl, rfl⟩ ?_ | refine xu rfl rfl rfl ⟨_, _, rfl, rfl, rfl⟩ ?_ | refine zn rfl rfl (by first | rfl | (simp; done)) rfl ⟨_, _, rfl, rfl, rfl⟩ ?_))
 refine zd.le ?_ (FLe.share 38 rfl rfl (by rfl))
 refine xj hB (by repeat (first | exact zi.nil | refine zi.cons (by exact yj.plain rfl rfl) ?_)) rfl rfl ?_
 (repeat (first | refine FW.seq ?_ | refine FW.region ?_ | refine zd.nil ?_ | refine za rfl rfl rfl ?_ | refine zb rfl rfl rfl ?_ | refine zM rfl rfl rfl rfl rfl ?_ | refine zS rfl rfl rfl rfl rfl rfl rfl ?_ | refine zA rfl rfl rfl rfl rfl rfl rfl rfl rfl ?_ | refine yh rfl rfl rfl rfl rfl rfl rfl ?_ | refine zg rfl rfl rfl rfl rfl rfl (by decide) rfl rfl ?_ | refine zD rfl rfl rfl (by simp; done) rfl rfl rfl rfl rfl ?_ | refine zh rfl rfl rfl rfl rfl (by simp; done) rfl rfl rfl rfl rfl ?_ | refine zH rfl rfl rfl rfl ?_ | refine zu rfl rfl rfl rfl rfl rfl (by simp; done) rfl rfl ?_ | refine yq rfl rfl rfl rfl ?_ | refine zg rfl rfl rfl rfl rfl rfl (by decide) rfl ⟨_, _, rfl, rfl, rfl⟩ ?_ | refine zh rfl rfl rfl rfl rfl (by simp; done) rfl rfl rfl rfl ⟨_, _, rfl, rfl, rfl⟩ ?_ | refine zb rfl rfl ⟨_, _, rfl, rfl, rfl⟩ ?_ | refine yq rfl rfl rfl ⟨_, _, rfl, rfl, rfl⟩ ?_))
 refine Wg (es := [0, 1, 2].map zG) rfl rfl rfl (by refine ZE.int rfl rfl ?_; refine ZE.int rfl rfl ?_; refine ZE.int rfl rfl ?_; exact ZE.nil) rfl rfl rfl rfl rfl ⟨_, _, rfl, rfl, rfl⟩ ?_
 refine zI (zbt [0, 1, 2] [0, 1, 2] (by decide) (by decide)) (by repeat (first | exact zi.nil | refine zi.cons (by first | exact yj.plain rfl rfl | exact yj.own rfl rfl (by decide) (by first | exact (fun _ => rfl) | (intro h; cases h)) (by first | rfl | (simp; done) | (congr 1; omega) | (simp; omega) | (simp [List.take_of_length_le]; done) | (refine congrArg (FV.int .i64) ?_; omega))) ?_)) rfl ⟨_, _, rfl, rfl, rfl⟩ ?_
 (repeat (first | refine zd.nil ?_ | refine za rfl rfl rfl ?_ | refine zH rfl rfl rfl rfl ?_))
 exact FW.ret ⟨.inl rfl, zK rfl rfl rfl rfl⟩
end Go.Proofs.Ytbeebjdnapkhhaa
