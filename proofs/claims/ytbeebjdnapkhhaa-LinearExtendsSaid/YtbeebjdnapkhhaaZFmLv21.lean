/-
  lives of layer 21, at plain values.
-/
import Derived.Test.YtbeebjdnapkhhaaZFmLinC
import Derived.Test.YtbeebjdnapkhhaaZV
import Derived.Test.YtbeebjdnapkhhaaZG
namespace Go.Proofs.Ytbeebjdnapkhhaa
set_option linter.unusedVariables false
open Go.RowKit

def YC (r : Int) : List OpV := [⟨0, 1, 0, 5, 0, 0, 3, true⟩, ⟨1, 0, 0, 0, 5, 1, 2, true⟩, ⟨2, 0, 0, 0, r, 4, 5, true⟩]
theorem zjq (r : Int) (h : r = 0 ∨ r = 5) : xF (YC r) = 0 := by rcases h with rfl | rfl <;> decide +kernel
theorem zjr (r : Int) (h : r = 0 ∨ r = 5) : yq (YC r) := by rcases h with rfl | rfl <;> decide +kernel
theorem zkU : zfR (YC 0) = some 0 := by unfold zfR; rw [zep]; decide +kernel
theorem zkV : UW (YC 0) 0 = ⟨4, [], [(1, 2)]⟩ := by decide +kernel
theorem zkj : zfR (YC 5) = none := by unfold zfR; rw [zep]; decide +kernel
theorem zdS {l : List OpV} {K : List Int} (H : H21 l) (V : ∀ c ∈ K, VO l c) (hK : ∀ i, i < l.length → (nth l i).key ∈ K) {i : Nat} (hi : i < l.length) (ii : zW l i = true) : zbU l K i < (Uo l K).length ∧ nth (Uo l K) (zbU l K i) = i := by
 have E := Yr H V hK
 have mi := zX.2 ⟨hi, ii⟩
 have hm := E.mem (xw mi)
 have h1 : zbU l K i < (zhL l K).length := xO hm
 refine ⟨by unfold Uo; rw [List.length_map]; exact h1, ?_⟩
 have e : nth (zhL l K) (zbU l K i) = XL l i := yp hm
 unfold Uo
 rw [zi (by rw [List.length_map]; exact h1), List.getElem_map, ← zi h1, e, xS mi]
theorem zkW : Uo (YC 5) (yK (YC 5)) = [0, 1, 2] := by
 have H := VJ (zjq 5 (.inr rfl)) (zjr 5 (.inr rfl))
 have V := Wv.1 zkj
 have hK := zcy (YC 5)
 have T := zex H V hK
 have hin : ∀ i, i < 3 → zW (YC 5) i = true := by decide +kernel
 have hlen : (Uo (YC 5) (yK (YC 5))).length = 3 := by rw [zbw H V hK]; decide +kernel
 have t02 := T.rt 0 2 (by decide) (by decide) (hin 0 (by decide)) (hin 2 (by decide)) (by decide +kernel)
 have t12 := T.rt 1 2 (by decide) (by decide) (hin 1 (by decide)) (hin 2 (by decide)) (by decide +kernel)
 have t01 : zbU (YC 5) (yK (YC 5)) 0 ≤ zbU (YC 5) (yK (YC 5)) 1 := by
  rcases T.rd 1 (by decide) (by decide) (by decide) with ⟨e, _⟩ | ⟨w, hw, ha, hle, _⟩
  ·exact absurd e (by decide)
  ·have hw0 : w = 0 := by
    have h1 := hw.1
    have h2 := hw.2.2.1
    have hl : (YC 5).length = 3 := rfl
    rw [hl] at h1
    match w, h1, h2 with
    | 0, _, _ => rfl
    | 1, _, h2 => exact absurd h2 (by decide)
    | 2, _, h2 => exact absurd h2 (by decide)
   rw [hw0] at hle; exact hle
 have n01 : zbU (YC 5) (yK (YC 5)) 0 ≠ zbU (YC 5) (yK (YC 5)) 1 := fun e => absurd (zjR H V hK (by decide) (by decide) (hin 0 (by decide)) (hin 1 (by decide)) e) (by decide)
 obtain ⟨a0, b0⟩ := zdS H V hK (i := 0) (by decide) (hin 0 (by decide))
 obtain ⟨a1, b1⟩ := zdS H V hK (i := 1) (by decide) (hin 1 (by decide))
 obtain ⟨a2, b2⟩ := zdS H V hK (i := 2) (by decide) (hin 2 (by decide))
 rw [hlen] at a0 a1 a2
 rw [show zbU (YC 5) (yK (YC 5)) 0 = 0 by omega] at b0
 rw [show zbU (YC 5) (yK (YC 5)) 1 = 1 by omega] at b1
 rw [show zbU (YC 5) (yK (YC 5)) 2 = 2 by omega] at b2
 refine zy (by rw [hlen]; rfl) fun i hi => ?_
 rw [hlen] at hi
 match i, hi with
 | 0, _ => rw [b0]; rfl
 | 1, _ => rw [b1]; rfl
 | 2, _ => rw [b2]; rfl
theorem zkh : zhK (YC 0) = [.int .i64 2, .int .i64 4, .int .i64 0, .list 1 [], .list 3 [rtf (1, 2)]] ∧ zdj (YC 0) = 0 := by
 have hE : zdj (YC 0) = 0 := by
  unfold zdj
  rw [if_neg (by rw [zjq 0 (.inl rfl)]; decide), if_pos (zjr 0 (.inl rfl))]
 refine ⟨?_, hE⟩
 unfold zhK zfk
 rw [hE, if_neg (by decide), zkU]
 dsimp only
 rw [zkV]; rfl
theorem zki : zhK (YC 5) = [.int .i64 2, .int .i64 0, .int .i64 0, .list 1 ([0, 1, 2].map zF), .list 3 []] ∧ zdj (YC 5) = 0 := by
 have hE : zdj (YC 5) = 0 := by
  unfold zdj
  rw [if_neg (by rw [zjq 5 (.inr rfl)]; decide), if_pos (zjr 5 (.inr rfl))]
 refine ⟨?_, hE⟩
 unfold zhK zfk
 rw [hE, if_neg (by decide), zkj]
 dsimp only
 rw [zkW]; rfl
set_option maxHeartbeats 4000000 in
theorem YQ : yg Try.prog 16 [] .fr (.bool true) := by
 have hA := Yq (YC 0) (by decide) (fun o ho => by simp only [YC, List.mem_cons, List.not_mem_nil, or_false] at ho; rcases ho with rfl | rfl | rfl <;> (unfold zdm I64; decide))
 have hB := Yq (YC 5) (by decide) (fun o ho => by simp only [YC, List.mem_cons, List.not_mem_nil, or_false] at ho; rcases ho with rfl | rfl | rfl <;> (unfold zdm I64; decide))
 rw [zkh.1, zkh.2] at hA
 rw [zki.1, zki.2] at hB
 change yg _ _ [.list 8 [OpV.fv ⟨0, 1, 0, 5, 0, 0, 3, true⟩, OpV.fv ⟨1, 0, 0, 0, 5, 1, 2, true⟩, OpV.fv ⟨2, 0, 0, 0, 0, 4, 5, true⟩]] _ _ at hA
 refine yg.of_body (c := (Zy Try.prog zG zA 65)) ⟨Try.func16, rfl, Try.ntmps16, by kernel_rfl⟩ (by simp [FV.hand]) (by exact Nat.le_of_ble_eq_true rfl) rfl ?_
 change FW _ _ _ ⟨[], []⟩
 (repeat (first | refine FW.seq ?_ | refine FW.region ?_ | refine zc.nil ?_ | refine za rfl rfl rfl ?_ | refine yI rfl rfl rfl rfl ?_ | refine yP.nil ?_ | refine yP.one rfl rfl rfl rfl rfl ?_))
 refine zfF (es := [OpV.fv ⟨0, 1, 0, 5, 0, 0, 3, true⟩, OpV.fv ⟨1, 0, 0, 0, 5, 1, 2, true⟩, OpV.fv ⟨2, 0, 0, 0, 0, 4, 5, true⟩]) rfl rfl rfl (by refine ZG.agg rfl rfl rfl ?_; refine ZG.agg rfl rfl rfl ?_; refine ZG.agg rfl rfl rfl ?_; exact ZG.nil) rfl rfl rfl rfl rfl rfl ?_
 (repeat (first | refine FW.seq ?_ | refine FW.region ?_ | refine zc.nil ?_ | refine za rfl rfl rfl ?_ | refine zb rfl rfl rfl ?_))
 refine zhj hA rfl rfl rfl (by decide +kernel) (by decide +kernel) rfl rfl ?_
 (repeat (first | refine FW.seq ?_ | refine FW.region ?_ | refine FW.skip ?_ | refine FW.condF rfl ?_ | refine zc.nil ?_ | refine za rfl rfl rfl ?_ | refine zb rfl rfl rfl ?_ | refine zI rfl rfl rfl rfl rfl ?_ | refine zY rfl rfl rfl rfl rfl rfl rfl ?_ | refine zC rfl rfl rfl rfl rfl rfl rfl rfl rfl ?_ | refine zZ rfl rfl rfl rfl rfl rfl (by simp; done) rfl rfl rfl rfl ?_ | refine Zc rfl rfl rfl rfl ?_ | refine zt rfl rfl rfl rfl rfl rfl (by decide) rfl rfl ?_ | refine zP rfl rfl rfl rfl ?_ | refine zx rfl rfl rfl rfl rfl rfl (by decide) rfl (by simp; done) rfl rfl ?_ | refine zt rfl rfl rfl rfl rfl rfl (by decide) rfl ⟨_, _, rfl, rfl, rfl⟩ ?_ | refine zq rfl rfl rfl rfl rfl (by simp; done) rfl rfl rfl rfl ⟨_, _, rfl, rfl, rfl⟩ ?_ | refine Zc rfl rfl rfl ⟨_, _, rfl, rfl, rfl⟩ ?_ | refine zm rfl rfl (by first | rfl | (simp; done)) rfl ⟨_, _, rfl, rfl, rfl⟩ ?_))
 refine zc.le ?_ (FLe.share 38 rfl rfl (by rfl))
 refine yZ hB (by repeat (first | exact zj.nil | refine zj.cons (by exact yu.plain rfl rfl) ?_)) rfl rfl ?_
 (repeat (first | refine FW.seq ?_ | refine FW.region ?_ | refine zc.nil ?_ | refine za rfl rfl rfl ?_ | refine zb rfl rfl rfl ?_ | refine zI rfl rfl rfl rfl rfl ?_ | refine zY rfl rfl rfl rfl rfl rfl rfl ?_ | refine zC rfl rfl rfl rfl rfl rfl rfl rfl rfl ?_ | refine ym rfl rfl rfl rfl rfl rfl rfl ?_ | refine zt rfl rfl rfl rfl rfl rfl (by decide) rfl rfl ?_ | refine zB rfl rfl rfl (by simp; done) rfl rfl rfl rfl rfl ?_ | refine zq rfl rfl rfl rfl rfl (by simp; done) rfl rfl rfl rfl rfl ?_ | refine zM rfl rfl rfl rfl ?_ | refine zD rfl rfl rfl rfl rfl rfl (by simp; done) rfl rfl ?_ | refine yU rfl rfl rfl rfl ?_ | refine zt rfl rfl rfl rfl rfl rfl (by decide) rfl ⟨_, _, rfl, rfl, rfl⟩ ?_ | refine zq rfl rfl rfl rfl rfl (by simp; done) rfl rfl rfl rfl ⟨_, _, rfl, rfl, rfl⟩ ?_ | refine zb rfl rfl ⟨_, _, rfl, rfl, rfl⟩ ?_ | refine yU rfl rfl rfl ⟨_, _, rfl, rfl, rfl⟩ ?_))
 refine Wo (es := [0, 1, 2].map zF) rfl rfl rfl (by refine ZG.int rfl rfl ?_; refine ZG.int rfl rfl ?_; refine ZG.int rfl rfl ?_; exact ZG.nil) rfl rfl rfl rfl rfl ⟨_, _, rfl, rfl, rfl⟩ ?_
 refine zJ (zbP [0, 1, 2] [0, 1, 2] (by decide) (by decide)) (by repeat (first | exact zj.nil | refine zj.cons (by first | exact yu.plain rfl rfl | exact yu.own rfl rfl (by decide) (by first | exact (fun _ => rfl) | (intro h; cases h)) (by first | rfl | (simp; done) | (congr 1; omega) | (simp; omega) | (simp [List.take_of_length_le]; done) | (refine congrArg (FV.int .i64) ?_; omega))) ?_)) rfl ⟨_, _, rfl, rfl, rfl⟩ ?_
 (repeat (first | refine zc.nil ?_ | refine za rfl rfl rfl ?_ | refine zM rfl rfl rfl rfl ?_))
 exact FW.ret ⟨.inl rfl, zO rfl rfl rfl rfl⟩
end Go.Proofs.Ytbeebjdnapkhhaa
