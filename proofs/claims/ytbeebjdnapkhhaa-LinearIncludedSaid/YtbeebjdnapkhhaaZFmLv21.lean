/-
  lives of layer 21, at plain values.
-/
import Derived.Test.YtbeebjdnapkhhaaZFmLinC
import Derived.Test.YtbeebjdnapkhhaaZV
import Derived.Test.YtbeebjdnapkhhaaZG
namespace Go.Proofs.Ytbeebjdnapkhhaa
set_option linter.unusedVariables false
open Go.RowKit

def YD (r : Int) : List OpV := [⟨0, 1, 0, 5, 0, 0, 3, true⟩, ⟨1, 0, 0, 0, 5, 1, 2, true⟩, ⟨2, 0, 0, 0, r, 4, 5, true⟩]
theorem zjn (r : Int) (h : r = 0 ∨ r = 5) : xz (YD r) = 0 := by rcases h with rfl | rfl <;> decide +kernel
theorem zjo (r : Int) (h : r = 0 ∨ r = 5) : zX (YD r) := by rcases h with rfl | rfl <;> decide +kernel
theorem zkJ : UZ (YD 0) = some 0 := by unfold UZ; rw [zee]; decide +kernel
theorem zkK : YX (YD 0) 0 = ⟨4, [], [(1, 2)]⟩ := by decide +kernel
theorem zj6 : UZ (YD 5) = none := by unfold UZ; rw [zee]; decide +kernel
theorem zdF {l : List OpV} {K : List Int} (H : H21 l) (V : ∀ c ∈ K, VO l c) (hK : ∀ i, i < l.length → (nth l i).key ∈ K) {i : Nat} (hi : i < l.length) (ii : zR l i = true) : zdc l K i < (zfi l K).length ∧ nth (zfi l K) (zdc l K i) = i := by
 have E := WL H V hK
 have mi := yC.2 ⟨hi, ii⟩
 have hm := E.mem (Zc mi)
 have h1 : zdc l K i < (zi5 l K).length := Ys hm
 refine ⟨by unfold zfi; rw [List.length_map]; exact h1, ?_⟩
 have e : nth (zi5 l K) (zdc l K i) = zeu l i := xC hm
 unfold zfi
 rw [zg (by rw [List.length_map]; exact h1), List.getElem_map, ← zg h1, e, Wr mi]
theorem zkL : zfi (YD 5) (yQ (YD 5)) = [0, 1, 2] := by
 have H := zb2 (zjn 5 (.inr rfl)) (zjo 5 (.inr rfl))
 have V := zaa.1 zj6
 have hK := zct (YD 5)
 have T := zih H V hK
 have hin : ∀ i, i < 3 → zR (YD 5) i = true := by decide +kernel
 have hlen : (zfi (YD 5) (yQ (YD 5))).length = 3 := by rw [zem H V hK]; decide +kernel
 have t02 := T.rt 0 2 (by decide) (by decide) (hin 0 (by decide)) (hin 2 (by decide)) (by decide +kernel)
 have t12 := T.rt 1 2 (by decide) (by decide) (hin 1 (by decide)) (hin 2 (by decide)) (by decide +kernel)
 have t01 : zdc (YD 5) (yQ (YD 5)) 0 ≤ zdc (YD 5) (yQ (YD 5)) 1 := by
  rcases T.rd 1 (by decide) (by decide) (by decide) with ⟨e, _⟩ | ⟨w, hw, ha, hle, _⟩
  ·exact absurd e (by decide)
  ·have hw0 : w = 0 := by
    have h1 := hw.1
    have h2 := hw.2.2.1
    have hl : (YD 5).length = 3 := rfl
    rw [hl] at h1
    match w, h1, h2 with
    | 0, _, _ => rfl
    | 1, _, h2 => exact absurd h2 (by decide)
    | 2, _, h2 => exact absurd h2 (by decide)
   rw [hw0] at hle; exact hle
 have n01 : zdc (YD 5) (yQ (YD 5)) 0 ≠ zdc (YD 5) (yQ (YD 5)) 1 := fun e => absurd (zjI H V hK (by decide) (by decide) (hin 0 (by decide)) (hin 1 (by decide)) e) (by decide)
 obtain ⟨a0, b0⟩ := zdF H V hK (i := 0) (by decide) (hin 0 (by decide))
 obtain ⟨a1, b1⟩ := zdF H V hK (i := 1) (by decide) (hin 1 (by decide))
 obtain ⟨a2, b2⟩ := zdF H V hK (i := 2) (by decide) (hin 2 (by decide))
 rw [hlen] at a0 a1 a2
 rw [show zdc (YD 5) (yQ (YD 5)) 0 = 0 by omega] at b0
 rw [show zdc (YD 5) (yQ (YD 5)) 1 = 1 by omega] at b1
 rw [show zdc (YD 5) (yQ (YD 5)) 2 = 2 by omega] at b2
 refine zx (by rw [hlen]; rfl) fun i hi => ?_
 rw [hlen] at hi
 match i, hi with
 | 0, _ => rw [b0]; rfl
 | 1, _ => rw [b1]; rfl
 | 2, _ => rw [b2]; rfl
theorem zj4 : zfR (YD 0) = [.int .i64 2, .int .i64 4, .int .i64 0, .list 1 [], .list 3 [rtf (1, 2)]] ∧ zbT (YD 0) = 0 := by
 have hE : zbT (YD 0) = 0 := by
  unfold zbT
  rw [if_neg (by rw [zjn 0 (.inl rfl)]; decide), if_pos (zjo 0 (.inl rfl))]
 refine ⟨?_, hE⟩
 unfold zfR zda
 rw [hE, if_neg (by decide), zkJ]
 dsimp only
 rw [zkK]; rfl
theorem zj5 : zfR (YD 5) = [.int .i64 2, .int .i64 0, .int .i64 0, .list 1 ([0, 1, 2].map zE), .list 3 []] ∧ zbT (YD 5) = 0 := by
 have hE : zbT (YD 5) = 0 := by
  unfold zbT
  rw [if_neg (by rw [zjn 5 (.inr rfl)]; decide), if_pos (zjo 5 (.inr rfl))]
 refine ⟨?_, hE⟩
 unfold zfR zda
 rw [hE, if_neg (by decide), zj6]
 dsimp only
 rw [zkL]; rfl
set_option maxHeartbeats 4000000 in
theorem Vf : yd Try.prog 16 [] .fr (.bool true) := by
 have hA := Zd (YD 0) (by decide) (fun o ho => by simp only [YD, List.mem_cons, List.not_mem_nil, or_false] at ho; rcases ho with rfl | rfl | rfl <;> (unfold zaf I64; decide))
 have hB := Zd (YD 5) (by decide) (fun o ho => by simp only [YD, List.mem_cons, List.not_mem_nil, or_false] at ho; rcases ho with rfl | rfl | rfl <;> (unfold zaf I64; decide))
 rw [zj4.1, zj4.2] at hA
 rw [zj5.1, zj5.2] at hB
 change yd _ _ [.list 8 [OpV.fv ⟨0, 1, 0, 5, 0, 0, 3, true⟩, OpV.fv ⟨1, 0, 0, 0, 5, 1, 2, true⟩, OpV.fv ⟨2, 0, 0, 0, 0, 4, 5, true⟩]] _ _ at hA
 refine yd.of_body (c := (ZD Try.prog zF zy 65)) ⟨Try.func16, rfl, Try.ntmps16, by kernel_rfl⟩ (by simp [FV.hand]) (by exact Nat.le_of_ble_eq_true rfl) rfl ?_
 change FW _ _ _ ⟨[], []⟩
 (repeat (first | refine FW.seq ?_ | refine FW.region ?_ | refine zc.nil ?_ | refine za rfl rfl rfl ?_ | refine yG rfl rfl rfl rfl ?_ | refine yR.nil ?_ | refine yR.one rfl rfl rfl rfl rfl ?_))
 refine zfA (es := [OpV.fv ⟨0, 1, 0, 5, 0, 0, 3, true⟩, OpV.fv ⟨1, 0, 0, 0, 5, 1, 2, true⟩, OpV.fv ⟨2, 0, 0, 0, 0, 4, 5, true⟩]) rfl rfl rfl (by refine ZL.agg rfl rfl rfl ?_; refine ZL.agg rfl rfl rfl ?_; refine ZL.agg rfl rfl rfl ?_; exact ZL.nil) rfl rfl rfl rfl rfl rfl ?_
 (repeat (first | refine FW.seq ?_ | refine FW.region ?_ | refine zc.nil ?_ | refine za rfl rfl rfl ?_ | refine zb rfl rfl rfl ?_))
 refine zhc hA rfl rfl rfl (by decide +kernel) (by decide +kernel) rfl rfl ?_
 (repeat (first | refine FW.seq ?_ | refine FW.region ?_ | refine FW.skip ?_ | refine FW.condF rfl ?_ | refine zc.nil ?_ | refine za rfl rfl rfl ?_ | refine zb rfl rfl rfl ?_ | refine zI rfl rfl rfl rfl rfl ?_ | refine zT rfl rfl rfl rfl rfl rfl rfl ?_ | refine zB rfl rfl rfl rfl rfl rfl rfl rfl rfl ?_ | refine zV rfl rfl rfl rfl rfl rfl (by simp; done) rfl rfl rfl rfl ?_ | refine YA rfl rfl rfl rfl ?_ | refine zm rfl rfl rfl rfl rfl rfl (by decide) rfl rfl ?_ | refine zZ rfl rfl rfl rfl ?_ | refine zu rfl rfl rfl rfl rfl rfl (by decide) rfl (by simp; done) rfl rfl ?_ | refine zm rfl rfl rfl rfl rfl rfl (by decide) rfl ⟨_, _, rfl, rfl, rfl⟩ ?_ | refine zn rfl rfl rfl rfl rfl (by simp; done) rfl rfl rfl rfl ⟨_, _, rfl, rfl, rfl⟩ ?_ | refine YA rfl rfl rfl ⟨_, _, rfl, rfl, rfl⟩ ?_ | refine zw rfl rfl (by first | rfl | (simp; done)) rfl ⟨_, _, rfl, rfl, rfl⟩ ?_))
 refine zc.le ?_ (FLe.share 38 rfl rfl (by rfl))
 refine xn hB (by repeat (first | exact zi.nil | refine zi.cons (by exact ym.plain rfl rfl) ?_)) rfl rfl ?_
 (repeat (first | refine FW.seq ?_ | refine FW.region ?_ | refine zc.nil ?_ | refine za rfl rfl rfl ?_ | refine zb rfl rfl rfl ?_ | refine zI rfl rfl rfl rfl rfl ?_ | refine zT rfl rfl rfl rfl rfl rfl rfl ?_ | refine zB rfl rfl rfl rfl rfl rfl rfl rfl rfl ?_ | refine yI rfl rfl rfl rfl rfl rfl rfl ?_ | refine zm rfl rfl rfl rfl rfl rfl (by decide) rfl rfl ?_ | refine zD rfl rfl rfl (by simp; done) rfl rfl rfl rfl rfl ?_ | refine zn rfl rfl rfl rfl rfl (by simp; done) rfl rfl rfl rfl rfl ?_ | refine zK rfl rfl rfl rfl ?_ | refine zC rfl rfl rfl rfl rfl rfl (by simp; done) rfl rfl ?_ | refine yH rfl rfl rfl rfl ?_ | refine zm rfl rfl rfl rfl rfl rfl (by decide) rfl ⟨_, _, rfl, rfl, rfl⟩ ?_ | refine zn rfl rfl rfl rfl rfl (by simp; done) rfl rfl rfl rfl ⟨_, _, rfl, rfl, rfl⟩ ?_ | refine zb rfl rfl ⟨_, _, rfl, rfl, rfl⟩ ?_ | refine yH rfl rfl rfl ⟨_, _, rfl, rfl, rfl⟩ ?_))
 refine Wu (es := [0, 1, 2].map zE) rfl rfl rfl (by refine ZL.int rfl rfl ?_; refine ZL.int rfl rfl ?_; refine ZL.int rfl rfl ?_; exact ZL.nil) rfl rfl rfl rfl rfl ⟨_, _, rfl, rfl, rfl⟩ ?_
 refine zM (zbM [0, 1, 2] [0, 1, 2] (by decide) (by decide)) (by repeat (first | exact zi.nil | refine zi.cons (by first | exact ym.plain rfl rfl | exact ym.own rfl rfl (by decide) (by first | exact (fun _ => rfl) | (intro h; cases h)) (by first | rfl | (simp; done) | (congr 1; omega) | (simp; omega) | (simp [List.take_of_length_le]; done) | (refine congrArg (FV.int .i64) ?_; omega))) ?_)) rfl ⟨_, _, rfl, rfl, rfl⟩ ?_
 (repeat (first | refine zc.nil ?_ | refine za rfl rfl rfl ?_ | refine zK rfl rfl rfl rfl ?_))
 exact FW.ret ⟨.inl rfl, zQ rfl rfl rfl rfl⟩
end Go.Proofs.Ytbeebjdnapkhhaa
