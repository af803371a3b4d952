/-
  lives of layer 21, at plain values.
-/
import Derived.Test.YtbeebjdnapkhhaaZFmLinC
import Derived.Test.YtbeebjdnapkhhaaZV
import Derived.Test.YtbeebjdnapkhhaaZG
namespace Go.Proofs.Ytbeebjdnapkhhaa
set_option linter.unusedVariables false
open Go.RowKit

def YO (r : Int) : List OpV := [⟨0, 1, 0, 5, 0, 0, 3, true⟩, ⟨1, 0, 0, 0, 5, 1, 2, true⟩, ⟨2, 0, 0, 0, r, 4, 5, true⟩]
theorem zj2 (r : Int) (h : r = 0 ∨ r = 5) : xI (YO r) = 0 := by rcases h with rfl | rfl <;> decide +kernel
theorem zj3 (r : Int) (h : r = 0 ∨ r = 5) : yj (YO r) := by rcases h with rfl | rfl <;> decide +kernel
theorem zlr : zgk (YO 0) = some 0 := by unfold zgk; rw [zeM]; decide +kernel
theorem zls : zaj (YO 0) 0 = ⟨4, [], [(1, 2)]⟩ := by decide +kernel
theorem zkS : zgk (YO 5) = none := by unfold zgk; rw [zeM]; decide +kernel
theorem zeb {l : List OpV} {K : List Int} (H : H21 l) (V : ∀ c ∈ K, VO l c) (hK : ∀ i, i < l.length → (nth l i).key ∈ K) {i : Nat} (hi : i < l.length) (ii : zR l i = true) : zcf l K i < (Vl l K).length ∧ nth (Vl l K) (zcf l K i) = i := by
 have E := YC H V hK
 have mi := yn.2 ⟨hi, ii⟩
 have hm := E.mem (xT mi)
 have h1 : zcf l K i < (zie l K).length := xU hm
 refine ⟨by unfold Vl; rw [List.length_map]; exact h1, ?_⟩
 have e : nth (zie l K) (zcf l K i) = zdD l i := yt hm
 unfold Vl
 rw [zi (by rw [List.length_map]; exact h1), List.getElem_map, ← zi h1, e, Xr mi]
theorem zlt : Vl (YO 5) (yS (YO 5)) = [0, 1, 2] := by
 have H := Ua (zj2 5 (.inr rfl)) (zj3 5 (.inr rfl))
 have V := WI.1 zkS
 have hK := Uz (YO 5)
 have T := zeX H V hK
 have hin : ∀ i, i < 3 → zR (YO 5) i = true := by decide +kernel
 have hlen : (Vl (YO 5) (yS (YO 5))).length = 3 := by rw [zbP H V hK]; decide +kernel
 have t02 := T.rt 0 2 (by decide) (by decide) (hin 0 (by decide)) (hin 2 (by decide)) (by decide +kernel)
 have t12 := T.rt 1 2 (by decide) (by decide) (hin 1 (by decide)) (hin 2 (by decide)) (by decide +kernel)
 have t01 : zcf (YO 5) (yS (YO 5)) 0 ≤ zcf (YO 5) (yS (YO 5)) 1 := by
  rcases T.rd 1 (by decide) (by decide) (by decide) with ⟨e, _⟩ | ⟨w, hw, ha, hle, _⟩
  ·exact absurd e (by decide)
  ·have hw0 : w = 0 := by
    have h1 := hw.1
    have h2 := hw.2.2.1
    have hl : (YO 5).length = 3 := rfl
    rw [hl] at h1
    match w, h1, h2 with
    | 0, _, _ => rfl
    | 1, _, h2 => exact absurd h2 (by decide)
    | 2, _, h2 => exact absurd h2 (by decide)
   rw [hw0] at hle; exact hle
 have n01 : zcf (YO 5) (yS (YO 5)) 0 ≠ zcf (YO 5) (yS (YO 5)) 1 := fun e => absurd (zkr H V hK (by decide) (by decide) (hin 0 (by decide)) (hin 1 (by decide)) e) (by decide)
 obtain ⟨a0, b0⟩ := zeb H V hK (i := 0) (by decide) (hin 0 (by decide))
 obtain ⟨a1, b1⟩ := zeb H V hK (i := 1) (by decide) (hin 1 (by decide))
 obtain ⟨a2, b2⟩ := zeb H V hK (i := 2) (by decide) (hin 2 (by decide))
 rw [hlen] at a0 a1 a2
 rw [show zcf (YO 5) (yS (YO 5)) 0 = 0 by omega] at b0
 rw [show zcf (YO 5) (yS (YO 5)) 1 = 1 by omega] at b1
 rw [show zcf (YO 5) (yS (YO 5)) 2 = 2 by omega] at b2
 refine zD (by rw [hlen]; rfl) fun i hi => ?_
 rw [hlen] at hi
 match i, hi with
 | 0, _ => rw [b0]; rfl
 | 1, _ => rw [b1]; rfl
 | 2, _ => rw [b2]; rfl
theorem zkQ : zjI (YO 0) = [.int .i64 2, .int .i64 4, .int .i64 0, .list 1 [], .list 3 [rtf (1, 2)]] ∧ zdC (YO 0) = 0 := by
 have hE : zdC (YO 0) = 0 := by
  unfold zdC
  rw [if_neg (by rw [zj2 0 (.inl rfl)]; decide), if_pos (zj3 0 (.inl rfl))]
 refine ⟨?_, hE⟩
 unfold zjI zfN
 rw [hE, if_neg (by decide), zlr]
 dsimp only
 rw [zls]; rfl
theorem zkR : zjI (YO 5) = [.int .i64 2, .int .i64 0, .int .i64 0, .list 1 ([0, 1, 2].map zF), .list 3 []] ∧ zdC (YO 5) = 0 := by
 have hE : zdC (YO 5) = 0 := by
  unfold zdC
  rw [if_neg (by rw [zj2 5 (.inr rfl)]; decide), if_pos (zj3 5 (.inr rfl))]
 refine ⟨?_, hE⟩
 unfold zjI zfN
 rw [hE, if_neg (by decide), zkS]
 dsimp only
 rw [zlt]; rfl
set_option maxHeartbeats 4000000 in
theorem ZN : zU Try.prog 16 [] .fr (.bool true) := by
 have hA := YB (YO 0) (by decide) (fun o ho => by simp only [YO, List.mem_cons, List.not_mem_nil, or_false] at ho; rcases ho with rfl | rfl | rfl <;> (unfold zci I64; decide))
 have hB := YB (YO 5) (by decide) (fun o ho => by simp only [YO, List.mem_cons, List.not_mem_nil, or_false] at ho; rcases ho with rfl | rfl | rfl <;> (unfold zci I64; decide))
 rw [zkQ.1, zkQ.2] at hA
 rw [zkR.1, zkR.2] at hB
 change zU _ _ [.list 8 [OpV.fv ⟨0, 1, 0, 5, 0, 0, 3, true⟩, OpV.fv ⟨1, 0, 0, 0, 5, 1, 2, true⟩, OpV.fv ⟨2, 0, 0, 0, 0, 4, 5, true⟩]] _ _ at hA
 refine zU.of_body (c := (xN Try.prog zE zA 65)) ⟨Try.func16, rfl, Try.ntmps16, by kernel_rfl⟩ (by simp [FV.hand]) (by exact Nat.le_of_ble_eq_true rfl) rfl ?_
 change FW _ _ _ ⟨[], []⟩
 (repeat (first | refine FW.seq ?_ | refine FW.region ?_ | refine zc.nil ?_ | refine za rfl rfl rfl ?_ | refine yK rfl rfl rfl rfl ?_ | refine yT.nil ?_ | refine yT.one rfl rfl rfl rfl rfl ?_))
 refine zf7 (es := [OpV.fv ⟨0, 1, 0, 5, 0, 0, 3, true⟩, OpV.fv ⟨1, 0, 0, 0, 5, 1, 2, true⟩, OpV.fv ⟨2, 0, 0, 0, 0, 4, 5, true⟩]) rfl rfl rfl (by refine ZT.agg rfl rfl rfl ?_; refine ZT.agg rfl rfl rfl ?_; refine ZT.agg rfl rfl rfl ?_; exact ZT.nil) rfl rfl rfl rfl rfl rfl ?_
 (repeat (first | refine FW.seq ?_ | refine FW.region ?_ | refine zc.nil ?_ | refine za rfl rfl rfl ?_ | refine zb rfl rfl rfl ?_))
 refine zhL hA rfl rfl rfl (by decide +kernel) (by decide +kernel) rfl rfl ?_
 (repeat (first | refine FW.seq ?_ | refine FW.region ?_ | refine FW.skip ?_ | refine FW.condF rfl ?_ | refine zc.nil ?_ | refine za rfl rfl rfl ?_ | refine zb rfl rfl rfl ?_ | refine zP rfl rfl rfl rfl rfl ?_ | refine yb rfl rfl rfl rfl rfl rfl rfl ?_ | refine zG rfl rfl rfl rfl rfl rfl rfl rfl rfl ?_ | refine zX rfl rfl rfl rfl rfl rfl (by simp; done) rfl rfl rfl rfl ?_ | refine xP rfl rfl rfl rfl ?_ | refine zq rfl rfl rfl rfl rfl rfl (by decide) rfl rfl ?_ | refine zL rfl rfl rfl rfl ?_ | refine zC rfl rfl rfl rfl rfl rfl (by decide) rfl (by simp; done) rfl rfl ?_ | refine zq rfl rfl rfl rfl rfl rfl (by decide) rfl ⟨_, _, rfl, rfl, rfl⟩ ?_ | refine zn rfl rfl rfl rfl rfl (by simp; done) rfl rfl rfl rfl ⟨_, _, rfl, rfl, rfl⟩ ?_ | refine xP rfl rfl rfl ⟨_, _, rfl, rfl, rfl⟩ ?_ | refine zm rfl rfl (by first | rfl | (simp; done)) rfl ⟨_, _, rfl, rfl, rfl⟩ ?_))
 refine zc.le ?_ (FLe.share 38 rfl rfl (by rfl))
 refine xx hB (by repeat (first | exact zh.nil | refine zh.cons (by exact yf.plain rfl rfl) ?_)) rfl rfl ?_
 (repeat (first | refine FW.seq ?_ | refine FW.region ?_ | refine zc.nil ?_ | refine za rfl rfl rfl ?_ | refine zb rfl rfl rfl ?_ | refine zP rfl rfl rfl rfl rfl ?_ | refine yb rfl rfl rfl rfl rfl rfl rfl ?_ | refine zG rfl rfl rfl rfl rfl rfl rfl rfl rfl ?_ | refine ya rfl rfl rfl rfl rfl rfl rfl ?_ | refine zq rfl rfl rfl rfl rfl rfl (by decide) rfl rfl ?_ | refine zt rfl rfl rfl (by simp; done) rfl rfl rfl rfl rfl ?_ | refine zn rfl rfl rfl rfl rfl (by simp; done) rfl rfl rfl rfl rfl ?_ | refine zK rfl rfl rfl rfl ?_ | refine zw rfl rfl rfl rfl rfl rfl (by simp; done) rfl rfl ?_ | refine yz rfl rfl rfl rfl ?_ | refine zq rfl rfl rfl rfl rfl rfl (by decide) rfl ⟨_, _, rfl, rfl, rfl⟩ ?_ | refine zn rfl rfl rfl rfl rfl (by simp; done) rfl rfl rfl rfl ⟨_, _, rfl, rfl, rfl⟩ ?_ | refine zb rfl rfl ⟨_, _, rfl, rfl, rfl⟩ ?_ | refine yz rfl rfl rfl ⟨_, _, rfl, rfl, rfl⟩ ?_))
 refine WD (es := [0, 1, 2].map zF) rfl rfl rfl (by refine ZT.int rfl rfl ?_; refine ZT.int rfl rfl ?_; refine ZT.int rfl rfl ?_; exact ZT.nil) rfl rfl rfl rfl rfl ⟨_, _, rfl, rfl, rfl⟩ ?_
 refine zH (zb6 [0, 1, 2] [0, 1, 2] (by decide) (by decide)) (by repeat (first | exact zh.nil | refine zh.cons (by first | exact yf.plain rfl rfl | exact yf.own rfl rfl (by decide) (by first | exact (fun _ => rfl) | (intro h; cases h)) (by first | rfl | (simp; done) | (congr 1; omega) | (simp; omega) | (simp [List.take_of_length_le]; done) | (refine congrArg (FV.int .i64) ?_; omega))) ?_)) rfl ⟨_, _, rfl, rfl, rfl⟩ ?_
 (repeat (first | refine zc.nil ?_ | refine za rfl rfl rfl ?_ | refine zK rfl rfl rfl rfl ?_))
 exact FW.ret ⟨.inl rfl, zy rfl rfl rfl rfl⟩
end Go.Proofs.Ytbeebjdnapkhhaa
