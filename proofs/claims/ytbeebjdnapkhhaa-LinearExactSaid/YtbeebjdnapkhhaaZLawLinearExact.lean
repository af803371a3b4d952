/-
  simprooflaw21.LinearExact answers true for every input (walked on plain values).
-/
import Derived.Test.YtbeebjdnapkhhaaZLawLinearChecks
import Derived.Test.YtbeebjdnapkhhaaZY
namespace Go.Proofs.Ytbeebjdnapkhhaa
set_option linter.unusedVariables false
open Go.RowKit

theorem zil {h : List OpV} (hf : zd9 false h) (D : yb h) : H21 h := VJ hf.wf.check D
set_option maxHeartbeats 8000000 in
theorem Vi (l : List Int) (a0 a1 a2 b0 b1 b2 : Int) (hl : ∀ x ∈ l, I64 x) (hlen : l.length ≤ 9223372036854775807) (i0 : I64 a0) (i1 : I64 a1) (i2 : I64 a2) (j0 : I64 b0) (j1 : I64 b1) (j2 : I64 b2) : zZ Try.prog 5 [.list 1 (l.map zH), .agg [.int .i64 a0, .int .i64 a1, .int .i64 a2], .agg [.int .i64 b0, .int .i64 b1, .int .i64 b2]] .fr (.bool true) := by
 have hf0 := zaF l a0 a1 a2 b0 b1 b2
 have hB := zaG l a0 a1 a2 b0 b1 b2 hl hlen i0 i1 i2 j0 j1 j2
 have hf1 := zaF (l.take 12) a0 a1 a2 b0 b1 b2
 have hB1 := zaG (l.take 12) a0 a1 a2 b0 b1 b2 (fun x hx => hl x (List.mem_of_mem_take hx)) (by rw [List.length_take]; omega) i0 i1 i2 j0 j1 j2
 have efew : List.take ((min (l.length : Int) 12).toNat - 0) (List.drop 0 (l.map zH)) = (l.take 12).map zH := by
  rw [List.drop_zero, ← List.map_take, Nat.sub_zero]
  rcases Nat.le_total l.length 12 with h6 | h6
  ·rw [List.take_of_length_le h6, List.take_of_length_le (by omega)]
  ·rw [show (min (l.length : Int) 12).toNat = 12 by omega]
 obtain ⟨h0, hh0⟩ : ∃ h, zcb l a0 a1 a2 b0 b1 b2 = h := ⟨_, rfl⟩
 rw [hh0] at hf0 hB
 obtain ⟨h1, hh1⟩ : ∃ h, zcb (l.take 12) a0 a1 a2 b0 b1 b2 = h := ⟨_, rfl⟩
 rw [hh1] at hf1 hB1
 have hl0 := hf0.len
 have hl1 := hf1.len
 refine zZ.of_body (c := (Zf Try.prog zE zA 52)) ⟨Try.func5, rfl, Try.ntmps5, by kernel_rfl⟩ (by simp [FV.hand]) (by exact Nat.le_of_ble_eq_true rfl) rfl ?_
 change FW _ _ _ ⟨[(0, .list 1 (l.map zH)), (1, .agg [.int .i64 a0, .int .i64 a1, .int .i64 a2]), (2, .agg [.int .i64 b0, .int .i64 b1, .int .i64 b2])], []⟩
 (repeat (first | refine FW.seq ?_ | refine FW.region ?_ | refine zc.nil ?_ | refine WJ rfl rfl rfl rfl rfl rfl rfl ?_ | refine za rfl rfl rfl ?_ | refine zb rfl rfl rfl ?_ | refine zT rfl rfl rfl (by decide) rfl rfl (by simp; done) rfl rfl rfl rfl ?_))
 refine yh hB (by repeat (first | exact zh.nil | refine zh.cons (by exact ym.plain rfl rfl) ?_)) (List.length_map _) rfl rfl rfl ?_
 (repeat (first | refine FW.seq ?_ | refine FW.region ?_ | refine zc.nil ?_ | refine za rfl rfl rfl ?_ | refine zb rfl rfl rfl ?_ | refine zX rfl rfl rfl (by decide) rfl rfl ?_ | refine zc8 rfl rfl rfl rfl ?_))
 refine FW.join (fun h : List OpV => ⟨[(7, .own 100 0 0 h.length)], [(100, ⟨0, .own, 41, 8, h.map OpV.fv⟩)]⟩) (fun h => zd9 false h) ?_ ?_
 ·refine FW.cond rfl (fun h => ?_) (fun h => ?_)
  ·skip
   refine FW.draw ?_
   (repeat (first | refine zI rfl rfl rfl ?_ | refine UI rfl rfl rfl (by decide) rfl rfl (by first | omega | (simp; omega) | (simp; done)) rfl rfl rfl rfl ?_ | refine za2 rfl rfl (by first | exact List.length_map _ | rfl | (simp; done) | omega | (simp; omega)) rfl rfl ?_ | refine zkN rfl rfl rfl rfl ?_ | refine zhj rfl rfl rfl rfl (by exact LoR.none) (by exact HiR.lit rfl (by first | rfl | exact (Int.toNat_of_nonneg (by omega)).symm)) (by first | omega | (simp; omega) | (simp; done)) (by first | omega | (simp; omega) | (simp; done)) rfl rfl ?_))
   rw [← efew] at hB1
   refine ziP hB1 (by repeat (first | exact zh.nil | refine zh.cons (by exact ym.plain rfl rfl) ?_)) (List.length_map _) rfl rfl rfl ?_
   (repeat (first | refine zG.nil ?_ | refine yB rfl rfl rfl ?_))
   refine ⟨by kernel_rfl, ?_⟩
   exact ⟨rfl, h1, hf1, (FLe.conv [⟨100, some 24, 0 + 1, ⟨0, .own, 41, 8, h1.map OpV.fv⟩⟩] (by simp) (by simp) rfl (by repeat (first | exact .nil | refine .low rfl ?_)) (by repeat (first | exact .nil | refine .old rfl (by decide) rfl ?_)) (by repeat (first | exact .nil | refine .cons (.own rfl (.head _) rfl rfl) ?_)))⟩
  ·(repeat (first | refine FW.skip ?_))
   exact ⟨rfl, h0, hf0, (FLe.conv [⟨100, some 13, 0 + 1, ⟨0, .own, 41, 8, h0.map OpV.fv⟩⟩] (by simp) (by simp) rfl (by repeat (first | exact .nil | refine .low rfl ?_)) (by repeat (first | exact .nil | refine .old rfl (by decide) rfl ?_)) (by repeat (first | exact .nil | refine .cons (.own rfl (.head _) rfl rfl) ?_)))⟩
 clear hB hB1 hf0 hf1 hh0 hh1
 rintro h hf
 have hlen60 := hf.len
 have hin := hf.inn
 have hC := Yu h (by omega) hin
 have hE := zcN hf
 have hD := zay h (by omega)
 (repeat (first | refine FW.seq ?_ | refine FW.region ?_ | refine zb rfl rfl rfl ?_ | refine zX rfl rfl rfl (by decide) rfl rfl ?_ | refine zc8 rfl rfl rfl rfl ?_))
 refine yG (fun h7 => ?_) (fun h7 => ?_)
 ·(repeat (first | refine FW.seq ?_ | refine FW.region ?_ | refine FW.condT rfl ?_ | refine zc.nil ?_ | refine zN rfl rfl rfl rfl ?_ | refine yt rfl rfl ⟨_, _, rfl, rfl, rfl⟩ ?_))
  refine zK YU (by repeat (first | exact zh.nil)) rfl rfl ?_
  (repeat (first | refine zc.nil ?_ | refine za rfl rfl rfl ?_))
  refine FW.ret ⟨.inl rfl, zD rfl rfl rfl rfl⟩
 (repeat (first | refine zb rfl rfl ⟨_, _, rfl, rfl, rfl⟩ ?_))
 refine zK hD (by repeat (first | exact zh.nil | refine zh.cons (by exact ym.own rfl rfl (by decide) (by first | exact (fun _ => rfl) | (intro h; cases h)) (by first | rfl | (simp; done) | (congr 1; omega) | (simp; omega) | (simp [List.take_of_length_le]; done) | (refine congrArg (FV.int .i64) ?_; omega))) ?_)) rfl ⟨_, _, rfl, rfl, rfl⟩ ?_
 by_cases D : yb h
 ·rw [decide_eq_true D]
  rw [if_pos D] at hE
  rw [hE, ziC hf D] at hC
  have hiff := zcO (zil hf D) hin
  rw [← zfh] at hiff
  have hX := WX h (by omega) (yZ h).length [] (by simp) (by simp)
  generalize zhW h (yZ h).length [] = X at hiff hX
  obtain ⟨V, hV⟩ : ∃ V, zhZ h = V := ⟨_, rfl⟩
  rw [hV] at hC hiff
  obtain ⟨k, a, o, ed⟩ := V
  dsimp only [zk0.fv] at hC hiff
  have hb : decide (k = 0) = X := by
   cases X with
   | true => exact decide_eq_true (hiff.2 rfl)
   | false => exact decide_eq_false fun h => by have := hiff.1 h; cases this
  (repeat (first | refine FW.seq ?_ | refine FW.region ?_ | refine FW.skip ?_ | refine FW.condF rfl ?_ | refine zc.nil ?_ | refine zb rfl rfl rfl ?_ | refine zM rfl rfl rfl rfl ?_ | refine Zb rfl rfl ⟨_, _, rfl, rfl, rfl⟩ ?_))
  refine zc.le ?_ (FLe.share 35 rfl rfl (List.length_map _).symm)
  refine xR hC (by repeat (first | exact zh.nil | refine zh.cons (by exact ym.plain rfl rfl) ?_)) rfl rfl ?_
  (repeat (first | refine FW.seq ?_ | refine zc.nil ?_ | refine za rfl rfl rfl ?_ | refine zb rfl rfl rfl ?_ | refine zP rfl rfl rfl rfl rfl ?_ | refine yg rfl rfl rfl rfl rfl rfl rfl ?_ | refine zF rfl rfl rfl rfl rfl rfl rfl rfl rfl ?_))
  refine FW.drawQ (by kernel_rfl) ?_
  (repeat (first | refine zI rfl rfl rfl ?_ | refine YX rfl rfl rfl rfl ?_ | refine zI rfl rfl ⟨_, _, rfl, rfl, rfl⟩ ?_ | refine Zy rfl rfl rfl rfl rfl rfl (by decide) rfl ⟨_, _, rfl, rfl, rfl⟩ ?_ | refine xP rfl rfl rfl rfl rfl (by simp; done) rfl rfl rfl rfl ⟨_, _, rfl, rfl, rfl⟩ ?_ | refine YX rfl rfl rfl ⟨_, _, rfl, rfl, rfl⟩ ?_))
  refine zd1 hX (by repeat (first | exact zh.nil | refine zh.cons (by first | exact ym.own rfl rfl (by decide) (by first | exact (fun _ => rfl) | (intro h; cases h)) (by first | rfl | (simp; done) | (congr 1; omega) | (simp; omega) | (simp [List.take_of_length_le]; done) | (refine congrArg (FV.int .i64) ?_; omega)) | exact ym.nil rfl) ?_)) rfl ⟨_, _, rfl, rfl, rfl⟩ ?_
  rw [hb]
  (repeat (first | refine zI rfl rfl rfl ?_ | refine xn rfl rfl rfl rfl ?_ | refine zj0 rfl rfl rfl rfl ⟨_, _, rfl, rfl, rfl⟩ ?_))
  rw [show decide (X = X) = true from decide_eq_true rfl]
  skip
  refine zd1 YU (by repeat (first | exact zh.nil)) rfl ⟨_, _, rfl, rfl, rfl⟩ ?_
  (repeat (first | refine zG.nil ?_ | refine yB rfl rfl rfl ?_ | refine xn rfl rfl rfl rfl ?_))
  refine ⟨by kernel_rfl, ?_⟩
  skip
  refine FW.ret ⟨.inl rfl, zD rfl rfl rfl rfl⟩
 ·rw [decide_eq_false D]
  (repeat (first | refine FW.seq ?_ | refine FW.region ?_ | refine FW.condT rfl ?_ | refine zc.nil ?_ | refine zM rfl rfl rfl rfl ?_ | refine Zb rfl rfl ⟨_, _, rfl, rfl, rfl⟩ ?_))
  refine zK YU (by repeat (first | exact zh.nil)) rfl rfl ?_
  (repeat (first | refine zc.nil ?_ | refine za rfl rfl rfl ?_))
  refine FW.ret ⟨.inl rfl, zD rfl rfl rfl rfl⟩
end Go.Proofs.Ytbeebjdnapkhhaa
