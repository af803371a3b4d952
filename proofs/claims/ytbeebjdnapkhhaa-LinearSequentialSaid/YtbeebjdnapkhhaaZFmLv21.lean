/-
  lives of layer 21, at plain values.
-/
import Derived.Test.YtbeebjdnapkhhaaZFmLinC
import Derived.Test.YtbeebjdnapkhhaaZV
import Derived.Test.YtbeebjdnapkhhaaZG
namespace Go.Proofs.Ytbeebjdnapkhhaa
set_option linter.unusedVariables false
open Go.RowKit

def YB (r : Int) : List OpV := [⟨0, 1, 0, 5, 0, 0, 3, true⟩, ⟨1, 0, 0, 0, 5, 1, 2, true⟩, ⟨2, 0, 0, 0, r, 4, 5, true⟩]
theorem zi1 (r : Int) (h : r = 0 ∨ r = 5) : xC (YB r) = 0 := by rcases h with rfl | rfl <;> decide +kernel
theorem zi2 (r : Int) (h : r = 0 ∨ r = 5) : zU (YB r) := by rcases h with rfl | rfl <;> decide +kernel
theorem zkC : zff (YB 0) = some 0 := by unfold zff; rw [zdU]; decide +kernel
theorem zkD : UE (YB 0) 0 = ⟨4, [], [(1, 2)]⟩ := by decide +kernel
theorem zjP : zff (YB 5) = none := by unfold zff; rw [zdU]; decide +kernel
theorem zdm {l : List OpV} {K : List Int} (H : H21 l) (V : ∀ c ∈ K, VO l c) (hK : ∀ i, i < l.length → (nth l i).key ∈ K) {i : Nat} (hi : i < l.length) (ii : zM l i = true) : zbG l K i < (WZ l K).length ∧ nth (WZ l K) (zbG l K i) = i := by
 have E := Yq H V hK
 have mi := ya.2 ⟨hi, ii⟩
 have hm := E.mem (xL mi)
 have h1 : zbG l K i < (zhc l K).length := xM hm
 refine ⟨by unfold WZ; rw [List.length_map]; exact h1, ?_⟩
 have e : nth (zhc l K) (zbG l K i) = zcU l i := yb hm
 unfold WZ
 rw [zi (by rw [List.length_map]; exact h1), List.getElem_map, ← zi h1, e, Xc mi]
theorem zkE : WZ (YB 5) (yK (YB 5)) = [0, 1, 2] := by
 have H := Vv (zi1 5 (.inr rfl)) (zi2 5 (.inr rfl))
 have V := UB.1 zjP
 have hK := zcc (YB 5)
 have T := zd1 H V hK
 have hin : ∀ i, i < 3 → zM (YB 5) i = true := by decide +kernel
 have hlen : (WZ (YB 5) (yK (YB 5))).length = 3 := by rw [zd0 H V hK]; decide +kernel
 have t02 := T.rt 0 2 (by decide) (by decide) (hin 0 (by decide)) (hin 2 (by decide)) (by decide +kernel)
 have t12 := T.rt 1 2 (by decide) (by decide) (hin 1 (by decide)) (hin 2 (by decide)) (by decide +kernel)
 have t01 : zbG (YB 5) (yK (YB 5)) 0 ≤ zbG (YB 5) (yK (YB 5)) 1 := by
  rcases T.rd 1 (by decide) (by decide) (by decide) with ⟨e, _⟩ | ⟨w, hw, ha, hle, _⟩
  ·exact absurd e (by decide)
  ·have hw0 : w = 0 := by
    have h1 := hw.1
    have h2 := hw.2.2.1
    have hl : (YB 5).length = 3 := rfl
    rw [hl] at h1
    match w, h1, h2 with
    | 0, _, _ => rfl
    | 1, _, h2 => exact absurd h2 (by decide)
    | 2, _, h2 => exact absurd h2 (by decide)
   rw [hw0] at hle; exact hle
 have n01 : zbG (YB 5) (yK (YB 5)) 0 ≠ zbG (YB 5) (yK (YB 5)) 1 := fun e => absurd (zjp H V hK (by decide) (by decide) (hin 0 (by decide)) (hin 1 (by decide)) e) (by decide)
 obtain ⟨a0, b0⟩ := zdm H V hK (i := 0) (by decide) (hin 0 (by decide))
 obtain ⟨a1, b1⟩ := zdm H V hK (i := 1) (by decide) (hin 1 (by decide))
 obtain ⟨a2, b2⟩ := zdm H V hK (i := 2) (by decide) (hin 2 (by decide))
 rw [hlen] at a0 a1 a2
 rw [show zbG (YB 5) (yK (YB 5)) 0 = 0 by omega] at b0
 rw [show zbG (YB 5) (yK (YB 5)) 1 = 1 by omega] at b1
 rw [show zbG (YB 5) (yK (YB 5)) 2 = 2 by omega] at b2
 refine zq (by rw [hlen]; rfl) fun i hi => ?_
 rw [hlen] at hi
 match i, hi with
 | 0, _ => rw [b0]; rfl
 | 1, _ => rw [b1]; rfl
 | 2, _ => rw [b2]; rfl
theorem zjN : ziC (YB 0) = [.int .i64 2, .int .i64 4, .int .i64 0, .list 1 [], .list 3 [rtf (1, 2)]] ∧ zcT (YB 0) = 0 := by
 have hE : zcT (YB 0) = 0 := by
  unfold zcT
  rw [if_neg (by rw [zi1 0 (.inl rfl)]; decide), if_pos (zi2 0 (.inl rfl))]
 refine ⟨?_, hE⟩
 unfold ziC zgk
 rw [hE, if_neg (by decide), zkC]
 dsimp only
 rw [zkD]; rfl
theorem zjO : ziC (YB 5) = [.int .i64 2, .int .i64 0, .int .i64 0, .list 1 ([0, 1, 2].map zJ), .list 3 []] ∧ zcT (YB 5) = 0 := by
 have hE : zcT (YB 5) = 0 := by
  unfold zcT
  rw [if_neg (by rw [zi1 5 (.inr rfl)]; decide), if_pos (zi2 5 (.inr rfl))]
 refine ⟨?_, hE⟩
 unfold ziC zgk
 rw [hE, if_neg (by decide), zjP]
 dsimp only
 rw [zkE]; rfl
set_option maxHeartbeats 4000000 in
theorem WN : yg Try.prog 16 [] .fr (.bool true) := by
 have hA := Yp (YB 0) (by decide) (fun o ho => by simp only [YB, List.mem_cons, List.not_mem_nil, or_false] at ho; rcases ho with rfl | rfl | rfl <;> (unfold zaT I64; decide))
 have hB := Yp (YB 5) (by decide) (fun o ho => by simp only [YB, List.mem_cons, List.not_mem_nil, or_false] at ho; rcases ho with rfl | rfl | rfl <;> (unfold zaT I64; decide))
 rw [zjN.1, zjN.2] at hA
 rw [zjO.1, zjO.2] at hB
 change yg _ _ [.list 8 [OpV.fv ⟨0, 1, 0, 5, 0, 0, 3, true⟩, OpV.fv ⟨1, 0, 0, 0, 5, 1, 2, true⟩, OpV.fv ⟨2, 0, 0, 0, 0, 4, 5, true⟩]] _ _ at hA
 refine yg.of_body (c := (Yz Try.prog zE zA 65)) ⟨Try.func16, rfl, Try.ntmps16, by kernel_rfl⟩ (by simp [FV.hand]) (by exact Nat.le_of_ble_eq_true rfl) rfl ?_
 change FW _ _ _ ⟨[], []⟩
 (repeat (first | refine FW.seq ?_ | refine FW.region ?_ | refine zc.nil ?_ | refine za rfl rfl rfl ?_ | refine yB rfl rfl rfl rfl ?_ | refine yI.nil ?_ | refine yI.one rfl rfl rfl rfl rfl ?_))
 refine ze5 (es := [OpV.fv ⟨0, 1, 0, 5, 0, 0, 3, true⟩, OpV.fv ⟨1, 0, 0, 0, 5, 1, 2, true⟩, OpV.fv ⟨2, 0, 0, 0, 0, 4, 5, true⟩]) rfl rfl rfl (by refine Zw.agg rfl rfl rfl ?_; refine Zw.agg rfl rfl rfl ?_; refine Zw.agg rfl rfl rfl ?_; exact Zw.nil) rfl rfl rfl rfl rfl rfl ?_
 (repeat (first | refine FW.seq ?_ | refine FW.region ?_ | refine zc.nil ?_ | refine za rfl rfl rfl ?_ | refine zb rfl rfl rfl ?_))
 refine zgK hA rfl rfl rfl (by decide +kernel) (by decide +kernel) rfl rfl ?_
 (repeat (first | refine FW.seq ?_ | refine FW.region ?_ | refine FW.skip ?_ | refine FW.condF rfl ?_ | refine zc.nil ?_ | refine za rfl rfl rfl ?_ | refine zb rfl rfl rfl ?_ | refine zH rfl rfl rfl rfl rfl ?_ | refine zV rfl rfl rfl rfl rfl rfl rfl ?_ | refine zy rfl rfl rfl rfl rfl rfl rfl rfl rfl ?_ | refine xh rfl rfl rfl rfl rfl rfl (by simp; done) rfl rfl rfl rfl ?_ | refine Us rfl rfl rfl rfl ?_ | refine zt rfl rfl rfl rfl rfl rfl (by decide) rfl rfl ?_ | refine yh rfl rfl rfl rfl ?_ | refine zF rfl rfl rfl rfl rfl rfl (by decide) rfl (by simp; done) rfl rfl ?_ | refine zt rfl rfl rfl rfl rfl rfl (by decide) rfl ⟨_, _, rfl, rfl, rfl⟩ ?_ | refine zw rfl rfl rfl rfl rfl (by simp; done) rfl rfl rfl rfl ⟨_, _, rfl, rfl, rfl⟩ ?_ | refine Us rfl rfl rfl ⟨_, _, rfl, rfl, rfl⟩ ?_ | refine zu rfl rfl (by first | rfl | (simp; done)) rfl ⟨_, _, rfl, rfl, rfl⟩ ?_))
 refine zc.le ?_ (FLe.share 38 rfl rfl (by rfl))
 refine xE hB (by repeat (first | exact zp.nil | refine zp.cons (by exact xB.plain rfl rfl) ?_)) rfl rfl ?_
 (repeat (first | refine FW.seq ?_ | refine FW.region ?_ | refine zc.nil ?_ | refine za rfl rfl rfl ?_ | refine zb rfl rfl rfl ?_ | refine zH rfl rfl rfl rfl rfl ?_ | refine zV rfl rfl rfl rfl rfl rfl rfl ?_ | refine zy rfl rfl rfl rfl rfl rfl rfl rfl rfl ?_ | refine xg rfl rfl rfl rfl rfl rfl rfl ?_ | refine zt rfl rfl rfl rfl rfl rfl (by decide) rfl rfl ?_ | refine zC rfl rfl rfl (by simp; done) rfl rfl rfl rfl rfl ?_ | refine zw rfl rfl rfl rfl rfl (by simp; done) rfl rfl rfl rfl rfl ?_ | refine zO rfl rfl rfl rfl ?_ | refine zB rfl rfl rfl rfl rfl rfl (by simp; done) rfl rfl ?_ | refine xx rfl rfl rfl rfl ?_ | refine zt rfl rfl rfl rfl rfl rfl (by decide) rfl ⟨_, _, rfl, rfl, rfl⟩ ?_ | refine zw rfl rfl rfl rfl rfl (by simp; done) rfl rfl rfl rfl ⟨_, _, rfl, rfl, rfl⟩ ?_ | refine zb rfl rfl ⟨_, _, rfl, rfl, rfl⟩ ?_ | refine xx rfl rfl rfl ⟨_, _, rfl, rfl, rfl⟩ ?_))
 refine We (es := [0, 1, 2].map zJ) rfl rfl rfl (by refine Zw.int rfl rfl ?_; refine Zw.int rfl rfl ?_; refine Zw.int rfl rfl ?_; exact Zw.nil) rfl rfl rfl rfl rfl ⟨_, _, rfl, rfl, rfl⟩ ?_
 refine zS (zbx [0, 1, 2] [0, 1, 2] (by decide) (by decide)) (by repeat (first | exact zp.nil | refine zp.cons (by first | exact xB.plain rfl rfl | exact xB.own rfl rfl (by decide) (by first | exact (fun _ => rfl) | (intro h; cases h)) (by first | rfl | (simp; done) | (congr 1; omega) | (simp; omega) | (simp [List.take_of_length_le]; done) | (refine congrArg (FV.int .i64) ?_; omega))) ?_)) rfl ⟨_, _, rfl, rfl, rfl⟩ ?_
 (repeat (first | refine zc.nil ?_ | refine za rfl rfl rfl ?_ | refine zO rfl rfl rfl rfl ?_))
 exact FW.ret ⟨.inl rfl, zY rfl rfl rfl rfl⟩
end Go.Proofs.Ytbeebjdnapkhhaa
