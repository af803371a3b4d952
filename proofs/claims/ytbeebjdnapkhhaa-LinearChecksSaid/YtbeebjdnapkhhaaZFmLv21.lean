/-
  lives of layer 21, at plain values.
-/
import Derived.Test.YtbeebjdnapkhhaaZFmLinC
import Derived.Test.YtbeebjdnapkhhaaZFmX2
import Derived.Test.YtbeebjdnapkhhaaZG
namespace Go.Proofs.Ytbeebjdnapkhhaa
set_option linter.unusedVariables false
open Go.RowKit

def YG (r : Int) : List OpV := [⟨0, 1, 0, 5, 0, 0, 3, true⟩, ⟨1, 0, 0, 0, 5, 1, 2, true⟩, ⟨2, 0, 0, 0, r, 4, 5, true⟩]
theorem zjt (r : Int) (h : r = 0 ∨ r = 5) : xE (YG r) = 0 := by rcases h with rfl | rfl <;> decide +kernel
theorem zju (r : Int) (h : r = 0 ∨ r = 5) : yn (YG r) := by rcases h with rfl | rfl <;> decide +kernel
theorem zkO : zc5 (YG 0) = some 0 := by unfold zc5; rw [zeh]; decide +kernel
theorem zkP : Xo (YG 0) 0 = ⟨4, [], [(1, 2)]⟩ := by decide +kernel
theorem zkh : zc5 (YG 5) = none := by unfold zc5; rw [zeh]; decide +kernel
theorem zdH {l : List OpV} {K : List Int} (H : H21 l) (V : ∀ c ∈ K, VO l c) (hK : ∀ i, i < l.length → (nth l i).key ∈ K) {i : Nat} (hi : i < l.length) (ii : yj l i = true) : zdc l K i < (zfj l K).length ∧ nth (zfj l K) (zdc l K i) = i := by
 have E := WP H V hK
 have mi := yJ.2 ⟨hi, ii⟩
 have hm := E.mem (Zh mi)
 have h1 : zdc l K i < (zi9 l K).length := Yx hm
 refine ⟨by unfold zfj; rw [List.length_map]; exact h1, ?_⟩
 have e : nth (zi9 l K) (zdc l K i) = zey l i := xH hm
 unfold zfj
 rw [zn (by rw [List.length_map]; exact h1), List.getElem_map, ← zn h1, e, Wv mi]
theorem zkQ : zfj (YG 5) (yU (YG 5)) = [0, 1, 2] := by
 have H := zb4 (zjt 5 (.inr rfl)) (zju 5 (.inr rfl))
 have V := zc6.1 zkh
 have hK := Uw (YG 5)
 have T := zim H V hK
 have hin : ∀ i, i < 3 → yj (YG 5) i = true := by decide +kernel
 have hlen : (zfj (YG 5) (yU (YG 5))).length = 3 := by rw [zeq H V hK]; decide +kernel
 have t02 := T.rt 0 2 (by decide) (by decide) (hin 0 (by decide)) (hin 2 (by decide)) (by decide +kernel)
 have t12 := T.rt 1 2 (by decide) (by decide) (hin 1 (by decide)) (hin 2 (by decide)) (by decide +kernel)
 have t01 : zdc (YG 5) (yU (YG 5)) 0 ≤ zdc (YG 5) (yU (YG 5)) 1 := by
  rcases T.rd 1 (by decide) (by decide) (by decide) with ⟨e, _⟩ | ⟨w, hw, ha, hle, _⟩
  ·exact absurd e (by decide)
  ·have hw0 : w = 0 := by
    have h1 := hw.1
    have h2 := hw.2.2.1
    have hl : (YG 5).length = 3 := rfl
    rw [hl] at h1
    match w, h1, h2 with
    | 0, _, _ => rfl
    | 1, _, h2 => exact absurd h2 (by decide)
    | 2, _, h2 => exact absurd h2 (by decide)
   rw [hw0] at hle; exact hle
 have n01 : zdc (YG 5) (yU (YG 5)) 0 ≠ zdc (YG 5) (yU (YG 5)) 1 := fun e => absurd (zjO H V hK (by decide) (by decide) (hin 0 (by decide)) (hin 1 (by decide)) e) (by decide)
 obtain ⟨a0, b0⟩ := zdH H V hK (i := 0) (by decide) (hin 0 (by decide))
 obtain ⟨a1, b1⟩ := zdH H V hK (i := 1) (by decide) (hin 1 (by decide))
 obtain ⟨a2, b2⟩ := zdH H V hK (i := 2) (by decide) (hin 2 (by decide))
 rw [hlen] at a0 a1 a2
 rw [show zdc (YG 5) (yU (YG 5)) 0 = 0 by omega] at b0
 rw [show zdc (YG 5) (yU (YG 5)) 1 = 1 by omega] at b1
 rw [show zdc (YG 5) (yU (YG 5)) 2 = 2 by omega] at b2
 refine zG (by rw [hlen]; rfl) fun i hi => ?_
 rw [hlen] at hi
 match i, hi with
 | 0, _ => rw [b0]; rfl
 | 1, _ => rw [b1]; rfl
 | 2, _ => rw [b2]; rfl
theorem zkf : zhK (YG 0) = [.int .i64 2, .int .i64 4, .int .i64 0, .list 1 [], .list 3 [rtf (1, 2)]] ∧ zda (YG 0) = 0 := by
 have hE : zda (YG 0) = 0 := by
  unfold zda
  rw [if_neg (by rw [zjt 0 (.inl rfl)]; decide), if_pos (zju 0 (.inl rfl))]
 refine ⟨?_, hE⟩
 unfold zhK zjE
 rw [hE, if_neg (by decide), zkO]
 dsimp only
 rw [zkP]; rfl
theorem zkg : zhK (YG 5) = [.int .i64 2, .int .i64 0, .int .i64 0, .list 1 ([0, 1, 2].map zO), .list 3 []] ∧ zda (YG 5) = 0 := by
 have hE : zda (YG 5) = 0 := by
  unfold zda
  rw [if_neg (by rw [zjt 5 (.inr rfl)]; decide), if_pos (zju 5 (.inr rfl))]
 refine ⟨?_, hE⟩
 unfold zhK zjE
 rw [hE, if_neg (by decide), zkh]
 dsimp only
 rw [zkQ]; rfl
set_option maxHeartbeats 4000000 in
theorem Zb : yd Try.prog 16 [] .fr (.bool true) := by
 have hA := Yw (YG 0) (by decide) (fun o ho => by simp only [YG, List.mem_cons, List.not_mem_nil, or_false] at ho; rcases ho with rfl | rfl | rfl <;> (unfold zak I64; decide))
 have hB := Yw (YG 5) (by decide) (fun o ho => by simp only [YG, List.mem_cons, List.not_mem_nil, or_false] at ho; rcases ho with rfl | rfl | rfl <;> (unfold zak I64; decide))
 rw [zkf.1, zkf.2] at hA
 rw [zkg.1, zkg.2] at hB
 change yd _ _ [.list 8 [OpV.fv ⟨0, 1, 0, 5, 0, 0, 3, true⟩, OpV.fv ⟨1, 0, 0, 0, 5, 1, 2, true⟩, OpV.fv ⟨2, 0, 0, 0, 0, 4, 5, true⟩]] _ _ at hA
 refine yd.of_body (c := (xW Try.prog zJ zy 65)) ⟨Try.func16, rfl, Try.ntmps16, by kernel_rfl⟩ (by simp [FV.hand]) (by exact Nat.le_of_ble_eq_true rfl) rfl ?_
 change FW _ _ _ ⟨[], []⟩
 (repeat (first | refine FW.seq ?_ | refine FW.region ?_ | refine zd.nil ?_ | refine za rfl rfl rfl ?_ | refine yL rfl rfl rfl rfl ?_ | refine yV.nil ?_ | refine yV.one rfl rfl rfl rfl rfl ?_))
 refine zfD (es := [OpV.fv ⟨0, 1, 0, 5, 0, 0, 3, true⟩, OpV.fv ⟨1, 0, 0, 0, 5, 1, 2, true⟩, OpV.fv ⟨2, 0, 0, 0, 0, 4, 5, true⟩]) rfl rfl rfl (by refine ZE.agg rfl rfl rfl ?_; refine ZE.agg rfl rfl rfl ?_; refine ZE.agg rfl rfl rfl ?_; exact ZE.nil) rfl rfl rfl rfl rfl rfl ?_
 (repeat (first | refine FW.seq ?_ | refine FW.region ?_ | refine zd.nil ?_ | refine za rfl rfl rfl ?_ | refine zb rfl rfl rfl ?_))
 refine zhf hA rfl rfl rfl (by decide +kernel) (by decide +kernel) rfl rfl ?_
 (repeat (first | refine FW.seq ?_ | refine FW.region ?_ | refine FW.skip ?_ | refine FW.condF rfl ?_ | refine zd.nil ?_ | refine za rfl rfl rfl ?_ | refine zb rfl rfl rfl ?_ | refine zL rfl rfl rfl rfl rfl ?_ | refine zY rfl rfl rfl rfl rfl rfl rfl ?_ | refine zE rfl rfl rfl rfl rfl rfl rfl rfl rfl ?_ | refine yg rfl rfl rfl rfl rfl rfl (by simp; done) rfl rfl rfl rfl ?_ | refine yX rfl rfl rfl rfl ?_ | refine zi rfl rfl rfl rfl rfl rfl (by decide) rfl rfl ?_ | refine zH rfl rfl rfl rfl ?_ | refine zB rfl rfl rfl rfl rfl rfl (by decide) rfl (by simp; done) rfl rfl ?_ | refine zi rfl rfl rfl rfl rfl rfl (by decide) rfl ⟨_, _, rfl, rfl, rfl⟩ ?_ | refine zm rfl rfl rfl rfl rfl (by simp; done) rfl rfl rfl rfl ⟨_, _, rfl, rfl, rfl⟩ ?_ | refine yX rfl rfl rfl ⟨_, _, rfl, rfl, rfl⟩ ?_ | refine zt rfl rfl (by first | rfl | (simp; done)) rfl ⟨_, _, rfl, rfl, rfl⟩ ?_))
 refine zd.le ?_ (FLe.share 38 rfl rfl (by rfl))
 refine yT hB (by repeat (first | exact zg.nil | refine zg.cons (by exact yc.plain rfl rfl) ?_)) rfl rfl ?_
 (repeat (first | refine FW.seq ?_ | refine FW.region ?_ | refine zd.nil ?_ | refine za rfl rfl rfl ?_ | refine zb rfl rfl rfl ?_ | refine zL rfl rfl rfl rfl rfl ?_ | refine zY rfl rfl rfl rfl rfl rfl rfl ?_ | refine zE rfl rfl rfl rfl rfl rfl rfl rfl rfl ?_ | refine zI rfl rfl rfl rfl rfl rfl rfl ?_ | refine zi rfl rfl rfl rfl rfl rfl (by decide) rfl rfl ?_ | refine zq rfl rfl rfl (by simp; done) rfl rfl rfl rfl rfl ?_ | refine zm rfl rfl rfl rfl rfl (by simp; done) rfl rfl rfl rfl rfl ?_ | refine zC rfl rfl rfl rfl ?_ | refine zj rfl rfl rfl rfl rfl rfl (by simp; done) rfl rfl ?_ | refine zV rfl rfl rfl rfl ?_ | refine zi rfl rfl rfl rfl rfl rfl (by decide) rfl ⟨_, _, rfl, rfl, rfl⟩ ?_ | refine zm rfl rfl rfl rfl rfl (by simp; done) rfl rfl rfl rfl ⟨_, _, rfl, rfl, rfl⟩ ?_ | refine zb rfl rfl ⟨_, _, rfl, rfl, rfl⟩ ?_ | refine zV rfl rfl rfl ⟨_, _, rfl, rfl, rfl⟩ ?_))
 refine YY (es := [0, 1, 2].map zO) rfl rfl rfl (by refine ZE.int rfl rfl ?_; refine ZE.int rfl rfl ?_; refine ZE.int rfl rfl ?_; exact ZE.nil) rfl rfl rfl rfl rfl ⟨_, _, rfl, rfl, rfl⟩ ?_
 refine zD (Yz [0, 1, 2] [0, 1, 2] (by decide) (by decide)) (by repeat (first | exact zg.nil | refine zg.cons (by first | exact yc.plain rfl rfl | exact yc.own rfl rfl (by decide) (by first | exact (fun _ => rfl) | (intro h; cases h)) (by first | rfl | (simp; done) | (congr 1; omega) | (simp; omega) | (simp [List.take_of_length_le]; done) | (refine congrArg (FV.int .i64) ?_; omega))) ?_)) rfl ⟨_, _, rfl, rfl, rfl⟩ ?_
 (repeat (first | refine zd.nil ?_ | refine za rfl rfl rfl ?_ | refine zC rfl rfl rfl rfl ?_))
 exact FW.ret ⟨.inl rfl, zA rfl rfl rfl rfl⟩
end Go.Proofs.Ytbeebjdnapkhhaa
