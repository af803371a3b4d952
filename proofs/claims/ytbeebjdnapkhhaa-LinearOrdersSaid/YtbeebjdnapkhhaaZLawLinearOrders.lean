/-
  simprooflaw21.LinearOrders answers true for every input (walked on plain values).
-/
import Derived.Test.YtbeebjdnapkhhaaZLawLinearChecks
import Derived.Test.YtbeebjdnapkhhaaZY
import Derived.Test.YtbeebjdnapkhhaaZFmLinI
import Derived.Test.YtbeebjdnapkhhaaZGenLin
import Derived.Test.YtbeebjdnapkhhaaZFmA3
namespace Go.Proofs.Ytbeebjdnapkhhaa
set_option linter.unusedVariables false
open Go.RowKit

theorem zeM (L : List Nat) : (yX L).map zG = L.map yt := by unfold yX; rw [List.map_map]; rfl
theorem zfc {h : List OpV} (H : H21 h) (hc : (zfb h).cls = 0) : ∃ L : List Nat, zfb h = ⟨0, 0, L, []⟩ ∧ zgG h (yX L) ∧ L.length ≤ h.length := by
 have V := zbi.1 hc
 refine ⟨Vq h (yV h), ?_, zlg H V (UG h), ?_⟩
 ·unfold zfb; rw [WM.2 V]
 ·rw [zb3 H V (UG h)]; exact zhu h
theorem zhl {h : List OpV} (hf : zfy false h) (D : ya h) : H21 h := Ug hf.wf.check D
theorem zef (l : List Int) : (zfb (Zr false l)).cls = 0 := by
 have hf := Zy false l
 have D := zc4 l
 have H := zhl hf D
 obtain ⟨E, hE⟩ := zhq l
 exact zbi.2 fun c _ => zlF D hf.inn (hE.noViol D (fun i hi => (H.wf i hi).2) c)
set_option maxHeartbeats 8000000 in
theorem WW (l : List Int) (a0 a1 a2 : Int) (hl : ∀ x ∈ l, I64 x) (hlen : l.length ≤ 9223372036854775807) (i0 : I64 a0) (i1 : I64 a1) (i2 : I64 a2) : zV Try.prog 11 [.list 1 (l.map zG), .agg [.int .i64 a0, .int .i64 a1, .int .i64 a2]] .fr (.bool true) := by
 have hB0 := zbe l hl hlen
 have hf0 := Zy false l
 have D0 := zc4 l
 have hc0 := zef l
 obtain ⟨h0, hh0⟩ : ∃ h0, Zr false l = h0 := ⟨_, rfl⟩
 rw [hh0] at hB0 hf0 D0 hc0
 have hl0 := hf0.len
 have hC0 := Zt h0 (by omega) hf0.inn
 have hE0 := UM hf0
 rw [if_pos D0] at hE0
 rw [hE0, ze9 hf0 D0] at hC0
 obtain ⟨L0, e0, o0, n0⟩ := zfc (zhl hf0 D0) hc0
 rw [e0] at hC0
 dsimp only [zkN.fv] at hC0
 have hO0 := WF h0 (yX L0) (by omega) (by rw [Zd]; omega)
 rw [UJ.2 o0, zeM] at hO0
 obtain ⟨z, hz⟩ : ∃ z : Int, (-1 : Int) = z := ⟨_, rfl⟩
 have hB := zfE l a0 a1 a2 z 0 0 hl hlen i0 i1 i2 (by rw [← hz]; exact ⟨by decide, by decide⟩) ⟨by decide, by decide⟩ ⟨by decide, by decide⟩
 have hf := zfD l a0 a1 a2 z 0 0
 obtain ⟨h, hh⟩ : ∃ h, zdU l a0 a1 a2 z 0 0 = h := ⟨_, rfl⟩
 rw [hh] at hf hB
 have hlen60 := hf.len
 have hin := hf.inn
 have hC := Zt h (by omega) hin
 have hE := UM hf
 refine zV.of_body (c := (Za Try.prog zF zy 72)) ⟨Try.func11, rfl, Try.ntmps11, by kernel_rfl⟩ (by simp [FV.hand]) (by exact Nat.le_of_ble_eq_true rfl) rfl ?_
 change FW _ _ _ ⟨[(0, .list 1 (l.map zG)), (1, .agg [.int .i64 a0, .int .i64 a1, .int .i64 a2])], []⟩
 (repeat (first | refine FW.seq ?_ | refine FW.region ?_ | refine zc.nil ?_ | refine Vc rfl rfl rfl rfl rfl rfl rfl ?_ | refine za rfl rfl rfl ?_ | refine zb rfl rfl rfl ?_))
 refine yb hB0 (by repeat (first | exact zi.nil | refine zi.cons (by exact yj.plain rfl rfl) ?_)) (List.length_map _) rfl rfl rfl ?_
 refine zc.le ?_ (FLe.share 12 rfl rfl (List.length_map _).symm)
 (repeat (first | refine FW.seq ?_ | refine FW.region ?_ | refine zc.nil ?_ | refine za rfl rfl rfl ?_ | refine zb rfl rfl rfl ?_))
 refine yU hC0 (by repeat (first | exact zi.nil | refine zi.cons (by exact yj.plain rfl rfl) ?_)) rfl rfl ?_
 (repeat (first | refine FW.seq ?_ | refine FW.region ?_ | refine zc.nil ?_ | refine za rfl rfl rfl ?_ | refine zb rfl rfl rfl ?_ | refine zM rfl rfl rfl rfl rfl ?_ | refine zS rfl rfl rfl rfl rfl rfl rfl ?_ | refine zE rfl rfl rfl rfl rfl rfl rfl rfl rfl ?_ | refine xN rfl rfl rfl rfl ?_ | refine zK rfl rfl rfl rfl ?_ | refine zn rfl rfl rfl rfl rfl rfl (by decide) rfl ⟨_, _, rfl, rfl, rfl⟩ ?_ | refine zm rfl rfl rfl rfl rfl (by simp; done) rfl rfl rfl rfl ⟨_, _, rfl, rfl, rfl⟩ ?_ | refine xN rfl rfl rfl ⟨_, _, rfl, rfl, rfl⟩ ?_ | refine zb rfl rfl ⟨_, _, rfl, rfl, rfl⟩ ?_))
 refine zI hO0 (by repeat (first | exact zi.nil | refine zi.cons (by exact yj.plain rfl rfl) ?_)) rfl ⟨_, _, rfl, rfl, rfl⟩ ?_
 (repeat (first | refine FW.seq ?_ | refine FW.region ?_ | refine FW.skip ?_ | refine FW.condF rfl ?_ | refine zc.nil ?_ | refine zb rfl rfl rfl ?_ | refine zU rfl rfl rfl (by decide) rfl rfl (by simp; done) rfl rfl rfl rfl ?_ | refine zK rfl rfl rfl rfl ?_ | refine xQ rfl rfl ⟨_, _, rfl, rfl, rfl⟩ ?_))
 refine zgm rfl rfl rfl rfl rfl rfl rfl rfl rfl rfl rfl ?_
 rw [show (FV.int IntKind.i64 (-1)) = FV.int .i64 z by rw [← hz]]
 refine yb hB (by repeat (first | exact zi.nil | refine zi.cons (by exact yj.plain rfl rfl) ?_)) (List.length_map _) rfl rfl rfl ?_
 (repeat (first | refine FW.seq ?_ | refine FW.region ?_ | refine zc.nil ?_ | refine za rfl rfl rfl ?_ | refine zb rfl rfl rfl ?_))
 refine zc.le ?_ (FLe.share 38 rfl rfl (List.length_map _).symm)
 by_cases D : ya h
 ·rw [if_pos D] at hE
  rw [hE, ze9 hf D] at hC
  by_cases hc : (zfb h).cls = 0
  ·obtain ⟨L, e, o, n⟩ := zfc (zhl hf D) hc
   rw [e] at hC
   dsimp only [zkN.fv] at hC
   have hO := WF h (yX L) (by omega) (by rw [Zd]; omega)
   have hP := UN h (yX L) (by omega) (by rw [Zd]; omega) hin D
   rw [UJ.2 o, zeM] at hO hP
   refine yU hC (by repeat (first | exact zi.nil | refine zi.cons (by exact yj.plain rfl rfl) ?_)) rfl rfl ?_
   (repeat (first | refine FW.seq ?_ | refine FW.region ?_ | refine FW.skip ?_ | refine FW.condF rfl ?_ | refine zc.nil ?_ | refine za rfl rfl rfl ?_ | refine zb rfl rfl rfl ?_ | refine zM rfl rfl rfl rfl rfl ?_ | refine zS rfl rfl rfl rfl rfl rfl rfl ?_ | refine zE rfl rfl rfl rfl rfl rfl rfl rfl rfl ?_ | refine xN rfl rfl rfl rfl ?_ | refine zn rfl rfl rfl rfl rfl rfl (by decide) rfl rfl ?_ | refine zm rfl rfl rfl rfl rfl (by simp; done) rfl rfl rfl rfl rfl ?_ | refine zK rfl rfl rfl rfl ?_ | refine zn rfl rfl rfl rfl rfl rfl (by decide) rfl ⟨_, _, rfl, rfl, rfl⟩ ?_ | refine zm rfl rfl rfl rfl rfl (by simp; done) rfl rfl rfl rfl ⟨_, _, rfl, rfl, rfl⟩ ?_ | refine xN rfl rfl rfl ⟨_, _, rfl, rfl, rfl⟩ ?_))
   refine zI hP (by repeat (first | exact zi.nil | refine zi.cons (by first | exact yj.plain rfl rfl | exact yj.own rfl rfl (by decide) (by first | exact (fun _ => rfl) | (intro h; cases h)) (by first | rfl | (simp; done) | (congr 1; omega) | (simp; omega) | (simp [List.take_of_length_le]; done) | (refine congrArg (FV.int .i64) ?_; omega))) ?_)) rfl rfl ?_
   (repeat (first | refine zb rfl rfl rfl ?_ | refine zn rfl rfl rfl rfl rfl rfl (by decide) rfl ⟨_, _, rfl, rfl, rfl⟩ ?_ | refine zm rfl rfl rfl rfl rfl (by simp; done) rfl rfl rfl rfl ⟨_, _, rfl, rfl, rfl⟩ ?_ | refine zb rfl rfl ⟨_, _, rfl, rfl, rfl⟩ ?_))
   refine zI hO (by repeat (first | exact zi.nil | refine zi.cons (by first | exact yj.plain rfl rfl | exact yj.own rfl rfl (by decide) (by first | exact (fun _ => rfl) | (intro h; cases h)) (by first | rfl | (simp; done) | (congr 1; omega) | (simp; omega) | (simp [List.take_of_length_le]; done) | (refine congrArg (FV.int .i64) ?_; omega))) ?_)) rfl ⟨_, _, rfl, rfl, rfl⟩ ?_
   (repeat (first | refine zb rfl rfl rfl ?_ | refine zL rfl rfl rfl rfl ?_ | refine zn rfl rfl rfl rfl rfl rfl (by decide) rfl ⟨_, _, rfl, rfl, rfl⟩ ?_ | refine zm rfl rfl rfl rfl rfl (by simp; done) rfl rfl rfl rfl ⟨_, _, rfl, rfl, rfl⟩ ?_ | refine zq rfl rfl (by first | exact List.length_map _ | rfl | (simp; done)) rfl ⟨_, _, rfl, rfl, rfl⟩ ?_ | refine yB rfl rfl rfl ⟨_, _, rfl, rfl, rfl⟩ ?_))
   refine zI Xj (by repeat (first | exact zi.nil)) rfl ⟨_, _, rfl, rfl, rfl⟩ ?_
   (repeat (first | refine zc.nil ?_ | refine za rfl rfl rfl ?_ | refine zL rfl rfl rfl rfl ?_))
   refine FW.ret ⟨.inl rfl, zA rfl rfl rfl rfl⟩
  ·obtain ⟨V, hV⟩ : ∃ V, zfb h = V := ⟨_, rfl⟩
   rw [hV] at hC hc
   obtain ⟨k, a, o, ed⟩ := V
   dsimp only [zkN.fv] at hC hc
   refine yU hC (by repeat (first | exact zi.nil | refine zi.cons (by exact yj.plain rfl rfl) ?_)) rfl rfl ?_
   (repeat (first | refine FW.seq ?_ | refine FW.region ?_ | refine zc.nil ?_ | refine za rfl rfl rfl ?_ | refine zb rfl rfl rfl ?_ | refine zM rfl rfl rfl rfl rfl ?_ | refine zS rfl rfl rfl rfl rfl rfl rfl ?_ | refine zE rfl rfl rfl rfl rfl rfl rfl rfl rfl ?_ | refine xN rfl rfl rfl rfl ?_ | refine zK rfl rfl rfl rfl ?_ | refine zn rfl rfl rfl rfl rfl rfl (by decide) rfl ⟨_, _, rfl, rfl, rfl⟩ ?_ | refine zm rfl rfl rfl rfl rfl (by simp; done) rfl rfl rfl rfl ⟨_, _, rfl, rfl, rfl⟩ ?_ | refine xN rfl rfl rfl ⟨_, _, rfl, rfl, rfl⟩ ?_))
   refine FW.condT (congrArg FV.bool (decide_eq_true hc)) ?_
   (repeat (first | refine FW.seq ?_ | refine FW.region ?_))
   refine zI Xj (by repeat (first | exact zi.nil)) rfl rfl ?_
   (repeat (first | refine zc.nil ?_ | refine za rfl rfl rfl ?_))
   refine FW.ret ⟨.inl rfl, zA rfl rfl rfl rfl⟩
 ·rw [if_neg D] at hE
  rw [hE, show ziB h = noV by unfold ziB; rw [hE, if_pos (by decide)]] at hC
  unfold noV at hC
  refine yU hC (by repeat (first | exact zi.nil | refine zi.cons (by exact yj.plain rfl rfl) ?_)) rfl rfl ?_
  (repeat (first | refine FW.seq ?_ | refine FW.region ?_ | refine FW.condT rfl ?_ | refine zc.nil ?_ | refine za rfl rfl rfl ?_ | refine zb rfl rfl rfl ?_ | refine zM rfl rfl rfl rfl rfl ?_ | refine zS rfl rfl rfl rfl rfl rfl rfl ?_ | refine zE rfl rfl rfl rfl rfl rfl rfl rfl rfl ?_ | refine xN rfl rfl rfl rfl ?_ | refine zL rfl rfl rfl rfl ?_ | refine yh rfl rfl ⟨_, _, rfl, rfl, rfl⟩ ?_))
  refine zI Xj (by repeat (first | exact zi.nil)) rfl rfl ?_
  (repeat (first | refine zc.nil ?_ | refine za rfl rfl rfl ?_))
  refine FW.ret ⟨.inl rfl, zA rfl rfl rfl rfl⟩
end Go.Proofs.Ytbeebjdnapkhhaa
