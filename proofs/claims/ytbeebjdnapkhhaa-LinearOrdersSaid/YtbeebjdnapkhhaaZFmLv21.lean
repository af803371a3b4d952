/-
  lives of layer 21, at plain values.
-/
import Derived.Test.YtbeebjdnapkhhaaZFmLinC
import Derived.Test.YtbeebjdnapkhhaaZV
import Derived.Test.YtbeebjdnapkhhaaZG
namespace Go.Proofs.Ytbeebjdnapkhhaa
set_option linter.unusedVariables false
open Go.RowKit

def YT (r : Int) : List OpV := [⟨0, 1, 0, 5, 0, 0, 3, true⟩, ⟨1, 0, 0, 0, 5, 1, 2, true⟩, ⟨2, 0, 0, 0, r, 4, 5, true⟩]
theorem zki (r : Int) (h : r = 0 ∨ r = 5) : xK (YT r) = 0 := by rcases h with rfl | rfl <;> decide +kernel
theorem zkj (r : Int) (h : r = 0 ∨ r = 5) : ya (YT r) := by rcases h with rfl | rfl <;> decide +kernel
theorem zlG : zgz (YT 0) = some 0 := by unfold zgz; rw [ze0]; decide +kernel
theorem zlH : zar (YT 0) 0 = ⟨4, [], [(1, 2)]⟩ := by decide +kernel
theorem zk6 : zgz (YT 5) = none := by unfold zgz; rw [ze0]; decide +kernel
theorem zel {l : List OpV} {K : List Int} (H : H21 l) (V : ∀ c ∈ K, VO l c) (hK : ∀ i, i < l.length → (nth l i).key ∈ K) {i : Nat} (hi : i < l.length) (ii : zN l i = true) : zcr l K i < (Vq l K).length ∧ nth (Vq l K) (zcr l K i) = i := by
 have E := YI H V hK
 have mi := ym.2 ⟨hi, ii⟩
 have hm := E.mem (xU mi)
 have h1 : zcr l K i < (ziC l K).length := xV hm
 refine ⟨by unfold Vq; rw [List.length_map]; exact h1, ?_⟩
 have e : nth (ziC l K) (zcr l K i) = zdN l i := yq hm
 unfold Vq
 rw [zh (by rw [List.length_map]; exact h1), List.getElem_map, ← zh h1, e, Xw mi]
theorem zlI : Vq (YT 5) (yV (YT 5)) = [0, 1, 2] := by
 have H := Ug (zki 5 (.inr rfl)) (zkj 5 (.inr rfl))
 have V := WM.1 zk6
 have hK := UG (YT 5)
 have T := zfa H V hK
 have hin : ∀ i, i < 3 → zN (YT 5) i = true := by decide +kernel
 have hlen : (Vq (YT 5) (yV (YT 5))).length = 3 := by rw [zb3 H V hK]; decide +kernel
 have t02 := T.rt 0 2 (by decide) (by decide) (hin 0 (by decide)) (hin 2 (by decide)) (by decide +kernel)
 have t12 := T.rt 1 2 (by decide) (by decide) (hin 1 (by decide)) (hin 2 (by decide)) (by decide +kernel)
 have t01 : zcr (YT 5) (yV (YT 5)) 0 ≤ zcr (YT 5) (yV (YT 5)) 1 := by
  rcases T.rd 1 (by decide) (by decide) (by decide) with ⟨e, _⟩ | ⟨w, hw, ha, hle, _⟩
  ·exact absurd e (by decide)
  ·have hw0 : w = 0 := by
    have h1 := hw.1
    have h2 := hw.2.2.1
    have hl : (YT 5).length = 3 := rfl
    rw [hl] at h1
    match w, h1, h2 with
    | 0, _, _ => rfl
    | 1, _, h2 => exact absurd h2 (by decide)
    | 2, _, h2 => exact absurd h2 (by decide)
   rw [hw0] at hle; exact hle
 have n01 : zcr (YT 5) (yV (YT 5)) 0 ≠ zcr (YT 5) (yV (YT 5)) 1 := fun e => absurd (zkE H V hK (by decide) (by decide) (hin 0 (by decide)) (hin 1 (by decide)) e) (by decide)
 obtain ⟨a0, b0⟩ := zel H V hK (i := 0) (by decide) (hin 0 (by decide))
 obtain ⟨a1, b1⟩ := zel H V hK (i := 1) (by decide) (hin 1 (by decide))
 obtain ⟨a2, b2⟩ := zel H V hK (i := 2) (by decide) (hin 2 (by decide))
 rw [hlen] at a0 a1 a2
 rw [show zcr (YT 5) (yV (YT 5)) 0 = 0 by omega] at b0
 rw [show zcr (YT 5) (yV (YT 5)) 1 = 1 by omega] at b1
 rw [show zcr (YT 5) (yV (YT 5)) 2 = 2 by omega] at b2
 refine zD (by rw [hlen]; rfl) fun i hi => ?_
 rw [hlen] at hi
 match i, hi with
 | 0, _ => rw [b0]; rfl
 | 1, _ => rw [b1]; rfl
 | 2, _ => rw [b2]; rfl
theorem zk4 : ziB (YT 0) = [.int .i64 2, .int .i64 4, .int .i64 0, .list 1 [], .list 3 [rtf (1, 2)]] ∧ zdM (YT 0) = 0 := by
 have hE : zdM (YT 0) = 0 := by
  unfold zdM
  rw [if_neg (by rw [zki 0 (.inl rfl)]; decide), if_pos (zkj 0 (.inl rfl))]
 refine ⟨?_, hE⟩
 unfold ziB zfb
 rw [hE, if_neg (by decide), zlG]
 dsimp only
 rw [zlH]; rfl
theorem zk5 : ziB (YT 5) = [.int .i64 2, .int .i64 0, .int .i64 0, .list 1 ([0, 1, 2].map zG), .list 3 []] ∧ zdM (YT 5) = 0 := by
 have hE : zdM (YT 5) = 0 := by
  unfold zdM
  rw [if_neg (by rw [zki 5 (.inr rfl)]; decide), if_pos (zkj 5 (.inr rfl))]
 refine ⟨?_, hE⟩
 unfold ziB zfb
 rw [hE, if_neg (by decide), zk6]
 dsimp only
 rw [zlI]; rfl
set_option maxHeartbeats 4000000 in
theorem Xj : zV Try.prog 16 [] .fr (.bool true) := by
 have hA := Zt (YT 0) (by decide) (fun o ho => by simp only [YT, List.mem_cons, List.not_mem_nil, or_false] at ho; rcases ho with rfl | rfl | rfl <;> (unfold zaz I64; decide))
 have hB := Zt (YT 5) (by decide) (fun o ho => by simp only [YT, List.mem_cons, List.not_mem_nil, or_false] at ho; rcases ho with rfl | rfl | rfl <;> (unfold zaz I64; decide))
 rw [zk4.1, zk4.2] at hA
 rw [zk5.1, zk5.2] at hB
 change zV _ _ [.list 8 [OpV.fv ⟨0, 1, 0, 5, 0, 0, 3, true⟩, OpV.fv ⟨1, 0, 0, 0, 5, 1, 2, true⟩, OpV.fv ⟨2, 0, 0, 0, 0, 4, 5, true⟩]] _ _ at hA
 refine zV.of_body (c := (Za Try.prog zF zy 65)) ⟨Try.func16, rfl, Try.ntmps16, by kernel_rfl⟩ (by simp [FV.hand]) (by exact Nat.le_of_ble_eq_true rfl) rfl ?_
 change FW _ _ _ ⟨[], []⟩
 (repeat (first | refine FW.seq ?_ | refine FW.region ?_ | refine zc.nil ?_ | refine za rfl rfl rfl ?_ | refine yM rfl rfl rfl rfl ?_ | refine yW.nil ?_ | refine yW.one rfl rfl rfl rfl rfl ?_))
 refine zgn (es := [OpV.fv ⟨0, 1, 0, 5, 0, 0, 3, true⟩, OpV.fv ⟨1, 0, 0, 0, 5, 1, 2, true⟩, OpV.fv ⟨2, 0, 0, 0, 0, 4, 5, true⟩]) rfl rfl rfl (by refine ZZ.agg rfl rfl rfl ?_; refine ZZ.agg rfl rfl rfl ?_; refine ZZ.agg rfl rfl rfl ?_; exact ZZ.nil) rfl rfl rfl rfl rfl rfl ?_
 (repeat (first | refine FW.seq ?_ | refine FW.region ?_ | refine zc.nil ?_ | refine za rfl rfl rfl ?_ | refine zb rfl rfl rfl ?_))
 refine zh4 hA rfl rfl rfl (by decide +kernel) (by decide +kernel) rfl rfl ?_
 (repeat (first | refine FW.seq ?_ | refine FW.region ?_ | refine FW.skip ?_ | refine FW.condF rfl ?_ | refine zc.nil ?_ | refine za rfl rfl rfl ?_ | refine zb rfl rfl rfl ?_ | refine zM rfl rfl rfl rfl rfl ?_ | refine zS rfl rfl rfl rfl rfl rfl rfl ?_ | refine zE rfl rfl rfl rfl rfl rfl rfl rfl rfl ?_ | refine yc rfl rfl rfl rfl rfl rfl (by simp; done) rfl rfl rfl rfl ?_ | refine xN rfl rfl rfl rfl ?_ | refine zn rfl rfl rfl rfl rfl rfl (by decide) rfl rfl ?_ | refine zK rfl rfl rfl rfl ?_ | refine zB rfl rfl rfl rfl rfl rfl (by decide) rfl (by simp; done) rfl rfl ?_ | refine zn rfl rfl rfl rfl rfl rfl (by decide) rfl ⟨_, _, rfl, rfl, rfl⟩ ?_ | refine zm rfl rfl rfl rfl rfl (by simp; done) rfl rfl rfl rfl ⟨_, _, rfl, rfl, rfl⟩ ?_ | refine xN rfl rfl rfl ⟨_, _, rfl, rfl, rfl⟩ ?_ | refine zq rfl rfl (by first | rfl | (simp; done)) rfl ⟨_, _, rfl, rfl, rfl⟩ ?_))
 refine zc.le ?_ (FLe.share 38 rfl rfl (by rfl))
 refine yU hB (by repeat (first | exact zi.nil | refine zi.cons (by exact yj.plain rfl rfl) ?_)) rfl rfl ?_
 (repeat (first | refine FW.seq ?_ | refine FW.region ?_ | refine zc.nil ?_ | refine za rfl rfl rfl ?_ | refine zb rfl rfl rfl ?_ | refine zM rfl rfl rfl rfl rfl ?_ | refine zS rfl rfl rfl rfl rfl rfl rfl ?_ | refine zE rfl rfl rfl rfl rfl rfl rfl rfl rfl ?_ | refine yw rfl rfl rfl rfl rfl rfl rfl ?_ | refine zn rfl rfl rfl rfl rfl rfl (by decide) rfl rfl ?_ | refine zw rfl rfl rfl (by simp; done) rfl rfl rfl rfl rfl ?_ | refine zm rfl rfl rfl rfl rfl (by simp; done) rfl rfl rfl rfl rfl ?_ | refine zL rfl rfl rfl rfl ?_ | refine zC rfl rfl rfl rfl rfl rfl (by simp; done) rfl rfl ?_ | refine yB rfl rfl rfl rfl ?_ | refine zn rfl rfl rfl rfl rfl rfl (by decide) rfl ⟨_, _, rfl, rfl, rfl⟩ ?_ | refine zm rfl rfl rfl rfl rfl (by simp; done) rfl rfl rfl rfl ⟨_, _, rfl, rfl, rfl⟩ ?_ | refine zb rfl rfl ⟨_, _, rfl, rfl, rfl⟩ ?_ | refine yB rfl rfl rfl ⟨_, _, rfl, rfl, rfl⟩ ?_))
 refine WH (es := [0, 1, 2].map zG) rfl rfl rfl (by refine ZZ.int rfl rfl ?_; refine ZZ.int rfl rfl ?_; refine ZZ.int rfl rfl ?_; exact ZZ.nil) rfl rfl rfl rfl rfl ⟨_, _, rfl, rfl, rfl⟩ ?_
 refine zI (zcj [0, 1, 2] [0, 1, 2] (by decide) (by decide)) (by repeat (first | exact zi.nil | refine zi.cons (by first | exact yj.plain rfl rfl | exact yj.own rfl rfl (by decide) (by first | exact (fun _ => rfl) | (intro h; cases h)) (by first | rfl | (simp; done) | (congr 1; omega) | (simp; omega) | (simp [List.take_of_length_le]; done) | (refine congrArg (FV.int .i64) ?_; omega))) ?_)) rfl ⟨_, _, rfl, rfl, rfl⟩ ?_
 (repeat (first | refine zc.nil ?_ | refine za rfl rfl rfl ?_ | refine zL rfl rfl rfl rfl ?_))
 exact FW.ret ⟨.inl rfl, zA rfl rfl rfl rfl⟩
end Go.Proofs.Ytbeebjdnapkhhaa
