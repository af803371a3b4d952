/-
  The reference of layer 21 at plain values: Key, Class.
-/
import Derived.Test.YtbeebjdnapkhhaaZFmRf3
namespace Go.Proofs.Ytbeebjdnapkhhaa
set_option linter.unusedVariables false
open Go.RowKit

set_option maxHeartbeats 8000000 in
theorem zgZ (l : List OpV) (c : Int) (hl : l.length ≤ 1000000) : yd Try.prog 40 [.list 8 (l.map OpV.fv), .int .i64 c] .fr (.tup [.int .i64 (WO l c).1, .int .i64 (WO l c).2]) := by
 have hzs := zdM l c hl
 have hK : WO l c = match (List.range l.length).find? (Xz l c) with
  | some i => (2, (i : Int))
  | none => match (List.range l.length).find? (xz l c) with
   | some i => (3, (i : Int))
   | none => if Xe l c = true then (4, -1) else (0, -1) := rfl
 obtain ⟨z, hz⟩ : ∃ z : Int, (-1 : Int) = z := ⟨_, rfl⟩
 rw [hz] at hK
 obtain ⟨R, hR⟩ : ∃ R, WO l c = R := ⟨_, rfl⟩
 rw [hR] at hK ⊢
 refine yd.of_body (c := (xW Try.prog zJ zy 49)) ⟨Try.func40, rfl, Try.ntmps40, by kernel_rfl⟩ (by simp [FV.hand]) (by exact Nat.le_of_ble_eq_true rfl) rfl ?_
 change FW _ _ _ ⟨[(0, .list 8 (l.map OpV.fv)), (1, .int .i64 c)], []⟩
 (repeat (first | refine FW.seq ?_ | refine FW.region ?_ | refine FW.block ?_ | refine zd.nil ?_ | refine za rfl rfl rfl ?_))
 refine FW.loop (fun i : Nat => ⟨[(0, .list 8 (l.map OpV.fv)), (1, .int .i64 c), (6, .int .i64 i)], []⟩) (fun i => i ≤ l.length ∧ ∀ j, j < i → Xz l c j = false) (fun i => l.length - i) 0 ⟨Nat.zero_le _, fun j hj => by omega⟩ ?_ ?_
 ·exact (FLe.conv [] (by simp) (by simp) rfl (by repeat (first | exact .nil)) (by repeat (first | exact .nil)) (by repeat (first | exact .nil | refine .cons (.plain rfl rfl rfl) ?_)))
 rintro i ⟨hi, hno⟩
 (repeat (first | refine FW.seq ?_ | refine FW.region ?_ | refine zd.nil ?_ | refine zb rfl rfl rfl ?_ | refine zt rfl rfl (by exact List.length_map _) rfl rfl ?_ | refine zN rfl rfl rfl rfl ?_))
 refine FW.cond rfl (fun h => ?_) (fun h => ?_)
 ·have hlt : i < l.length := by simpa using h
  clear h
  have hts := zft l i hl hlt
  have hc : Xz l c i = (decide ((nth l i).key = c) && zaI l i) := rfl
  have hst := Xf (n := l.length) hno
  (repeat (first | refine FW.seq ?_ | refine FW.region ?_ | refine FW.block ?_ | refine FW.skip ?_ | refine zb rfl rfl rfl ?_ | refine zj rfl rfl rfl rfl rfl rfl (by simp; omega) rfl rfl ?_ | refine zI rfl rfl rfl rfl rfl rfl rfl ?_ | refine zq rfl rfl rfl (by simp; omega) (by first | exact zc (by omega) | rfl) rfl rfl rfl rfl ?_ | refine zV rfl rfl rfl rfl ?_))
  refine yb (fun h1 => ?_) (fun h1 => ?_)
  ·rw [h1, Bool.true_and] at hc
   (repeat (first | refine zb rfl rfl ⟨_, _, rfl, rfl, rfl⟩ ?_))
   refine zD hts (by repeat (first | exact zg.nil | refine zg.cons (by exact yc.plain rfl rfl) ?_)) rfl ⟨_, _, rfl, rfl, rfl⟩ ?_
   (repeat (first | refine zd.nil ?_ | refine zC rfl rfl rfl rfl ?_))
   refine FW.cond rfl (fun h2 => ?_) (fun h2 => ?_)
   ·rw [Wg hlt (by rw [hc]; exact h2) hno] at hK
    dsimp only at hK
    subst hK
    (repeat (first | refine FW.seq ?_ | refine FW.region ?_ | refine zd.nil ?_ | refine za rfl rfl rfl ?_ | refine zb rfl rfl rfl ?_))
    exact FW.ret ⟨.inl rfl, .flat (.cons (.tmp 4 rfl rfl) (.cons (.tmp 5 rfl rfl) .nil)) rfl rfl⟩
   ·(repeat (first | refine FW.region ?_ | refine FW.skip ?_ | refine zd.nil ?_ | refine za rfl rfl rfl ?_ | refine zb rfl rfl rfl ?_ | refine zh rfl rfl (by omega) rfl rfl ?_))
    exact ⟨i + 1, ⟨by omega, hst (by rw [hc]; exact h2)⟩, by omega, (FLe.conv [] (by simp) (by simp) rfl (by repeat (first | exact .nil)) (by repeat (first | exact .nil)) (by repeat (first | exact .nil | refine .cons (.plain rfl rfl rfl) ?_)))⟩
  ·rw [h1, Bool.false_and] at hc
   (repeat (first | refine FW.region ?_ | refine FW.skip ?_ | refine FW.condF rfl ?_ | refine zd.nil ?_ | refine za rfl rfl rfl ?_ | refine zb rfl rfl rfl ?_ | refine zH rfl rfl rfl rfl ?_ | refine zh rfl rfl (by omega) rfl rfl ?_ | refine zS rfl rfl ⟨_, _, rfl, rfl, rfl⟩ ?_))
   exact ⟨i + 1, ⟨by omega, hst hc⟩, by omega, (FLe.conv [] (by simp) (by simp) rfl (by repeat (first | exact .nil)) (by repeat (first | exact .nil)) (by repeat (first | exact .nil | refine .cons (.plain rfl rfl rfl) ?_)))⟩
 ·obtain rfl : i = l.length := by simp at h; omega
  rw [Wf hno] at hK
  dsimp only at hK
  (repeat (first | refine FW.seq ?_ | refine FW.region ?_ | refine FW.block ?_ | refine FW.exit ?_ | refine zd.nil ?_ | refine za rfl rfl rfl ?_))
  refine FW.loop (fun i : Nat => ⟨[(0, .list 8 (l.map OpV.fv)), (1, .int .i64 c), (7, .int .i64 i)], []⟩) (fun i => i ≤ l.length ∧ ∀ j, j < i → xz l c j = false) (fun i => l.length - i) 0 ⟨Nat.zero_le _, fun j hj => by omega⟩ ?_ ?_
  ·exact (FLe.conv [] (by simp) (by simp) rfl (by repeat (first | exact .nil)) (by repeat (first | exact .nil)) (by repeat (first | exact .nil | refine .cons (.plain rfl rfl rfl) ?_)))
  rintro i ⟨hi, heo⟩
  (repeat (first | refine FW.seq ?_ | refine FW.region ?_ | refine zd.nil ?_ | refine zb rfl rfl rfl ?_ | refine zt rfl rfl (by exact List.length_map _) rfl rfl ?_ | refine zN rfl rfl rfl rfl ?_))
  refine FW.cond rfl (fun h => ?_) (fun h => ?_)
  ·have hlt : i < l.length := by simpa using h
   clear h
   have hts := zdL l i hl hlt
   have hc : xz l c i = (decide ((nth l i).key = c) && Vh l i) := rfl
   have hst := Xf (n := l.length) heo
   (repeat (first | refine FW.seq ?_ | refine FW.region ?_ | refine FW.block ?_ | refine FW.skip ?_ | refine zb rfl rfl rfl ?_ | refine zj rfl rfl rfl rfl rfl rfl (by simp; omega) rfl rfl ?_ | refine zI rfl rfl rfl rfl rfl rfl rfl ?_ | refine zq rfl rfl rfl (by simp; omega) (by first | exact zc (by omega) | rfl) rfl rfl rfl rfl ?_ | refine zV rfl rfl rfl rfl ?_))
   refine yb (fun h1 => ?_) (fun h1 => ?_)
   ·rw [h1, Bool.true_and] at hc
    (repeat (first | refine zb rfl rfl ⟨_, _, rfl, rfl, rfl⟩ ?_))
    refine zD hts (by repeat (first | exact zg.nil | refine zg.cons (by exact yc.plain rfl rfl) ?_)) rfl ⟨_, _, rfl, rfl, rfl⟩ ?_
    (repeat (first | refine zd.nil ?_ | refine zC rfl rfl rfl rfl ?_))
    refine FW.cond rfl (fun h2 => ?_) (fun h2 => ?_)
    ·rw [Wg hlt (by rw [hc]; exact h2) heo] at hK
     dsimp only at hK
     subst hK
     (repeat (first | refine FW.seq ?_ | refine FW.region ?_ | refine zd.nil ?_ | refine za rfl rfl rfl ?_ | refine zb rfl rfl rfl ?_))
     exact FW.ret ⟨.inl rfl, .flat (.cons (.tmp 4 rfl rfl) (.cons (.tmp 5 rfl rfl) .nil)) rfl rfl⟩
    ·(repeat (first | refine FW.region ?_ | refine FW.skip ?_ | refine zd.nil ?_ | refine za rfl rfl rfl ?_ | refine zb rfl rfl rfl ?_ | refine zh rfl rfl (by omega) rfl rfl ?_))
     exact ⟨i + 1, ⟨by omega, hst (by rw [hc]; exact h2)⟩, by omega, (FLe.conv [] (by simp) (by simp) rfl (by repeat (first | exact .nil)) (by repeat (first | exact .nil)) (by repeat (first | exact .nil | refine .cons (.plain rfl rfl rfl) ?_)))⟩
   ·rw [h1, Bool.false_and] at hc
    (repeat (first | refine FW.region ?_ | refine FW.skip ?_ | refine FW.condF rfl ?_ | refine zd.nil ?_ | refine za rfl rfl rfl ?_ | refine zb rfl rfl rfl ?_ | refine zH rfl rfl rfl rfl ?_ | refine zh rfl rfl (by omega) rfl rfl ?_ | refine zS rfl rfl ⟨_, _, rfl, rfl, rfl⟩ ?_))
    exact ⟨i + 1, ⟨by omega, hst hc⟩, by omega, (FLe.conv [] (by simp) (by simp) rfl (by repeat (first | exact .nil)) (by repeat (first | exact .nil)) (by repeat (first | exact .nil | refine .cons (.plain rfl rfl rfl) ?_)))⟩
  ·obtain rfl : i = l.length := by simp at h; omega
   rw [Wf heo] at hK
   dsimp only at hK
   (repeat (first | refine FW.seq ?_ | refine FW.region ?_ | refine FW.exit ?_ | refine zb rfl rfl rfl ?_))
   refine zD hzs (by repeat (first | exact zg.nil | refine zg.cons (by exact yc.plain rfl rfl) ?_)) rfl rfl ?_
   (repeat (first | refine zd.nil ?_))
   refine FW.cond rfl (fun h2 => ?_) (fun h2 => ?_)
   ·rw [if_pos h2] at hK
    subst hK
    subst hz
    (repeat (first | refine FW.seq ?_ | refine FW.region ?_ | refine zd.nil ?_ | refine za rfl rfl rfl ?_))
    exact FW.ret ⟨.inl rfl, .flat (.cons (.tmp 4 rfl rfl) (.cons (.tmp 5 rfl rfl) .nil)) rfl rfl⟩
   ·rw [if_neg (by rw [show Xe l c = false from h2]; decide)] at hK
    subst hK
    subst hz
    (repeat (first | refine FW.seq ?_ | refine FW.region ?_ | refine FW.skip ?_ | refine zd.nil ?_ | refine za rfl rfl rfl ?_))
    exact FW.ret ⟨.inl rfl, .flat (.cons (.tmp 4 rfl rfl) (.cons (.tmp 5 rfl rfl) .nil)) rfl rfl⟩
def zf8 (l : List OpV) : Option Int → Bool × Int × Int × Int
 | none => (false, 0, 0, -1)
 | some c => (true, (WO l c).1, c, (WO l c).2)
set_option maxHeartbeats 8000000 in
theorem zdK (l : List OpV) (hl : l.length ≤ 1000000) : yd Try.prog 17 [.list 8 (l.map OpV.fv)] .fr (.tup [.int .i64 (zf8 l (ZY l l.length)).2.1, .int .i64 (zf8 l (ZY l l.length)).2.2.1, .int .i64 (zf8 l (ZY l l.length)).2.2.2]) := by
 have hks := fun c => zgZ l c hl
 have hn : zf8 l none = (false, 0, 0, -1) := rfl
 have hsm : ∀ c, zf8 l (some c) = (true, (WO l c).1, c, (WO l c).2) := fun c => rfl
 refine yd.of_body (c := (xW Try.prog zJ zy 53)) ⟨Try.func17, rfl, Try.ntmps17, by kernel_rfl⟩ (by simp [FV.hand]) (by exact Nat.le_of_ble_eq_true rfl) rfl ?_
 change FW _ _ _ ⟨[(0, .list 8 (l.map OpV.fv))], []⟩
 (repeat (first | refine FW.seq ?_ | refine FW.region ?_ | refine FW.block ?_ | refine zd.nil ?_ | refine za rfl rfl rfl ?_))
 refine FW.loop (fun i : Nat => ⟨[(0, .list 8 (l.map OpV.fv)), (5, .bool (zf8 l (ZY l i)).1), (6, .int .i64 (zf8 l (ZY l i)).2.1), (7, .int .i64 (zf8 l (ZY l i)).2.2.1), (8, .int .i64 (zf8 l (ZY l i)).2.2.2), (9, .int .i64 i)], []⟩) (fun i => i ≤ l.length) (fun i => l.length - i) 0 (Nat.zero_le _) ?_ ?_
 ·show FLe _ ⟨[(0, .list 8 (l.map OpV.fv)), (5, .bool false), (6, .int .i64 0), (7, .int .i64 0), (8, .int .i64 (-1)), (9, .int .i64 0)], []⟩
  exact (FLe.conv [] (by simp) (by simp) rfl (by repeat (first | exact .nil)) (by repeat (first | exact .nil)) (by repeat (first | exact .nil | refine .cons (.plain rfl rfl rfl) ?_)))
 intro i hi
 (repeat (first | refine FW.seq ?_ | refine FW.region ?_ | refine zd.nil ?_ | refine zb rfl rfl rfl ?_ | refine zt rfl rfl (by exact List.length_map _) rfl rfl ?_ | refine zN rfl rfl rfl rfl ?_))
 refine FW.cond rfl (fun h => ?_) (fun h => ?_)
 ·have hlt : i < l.length := by simpa using h
  clear h
  have hst : ZY l (i + 1) = match ZY l i with
   | none => if 0 < (WO l (nth l i).key).1 then some (nth l i).key else none
   | some a => if 0 < (WO l (nth l i).key).1 ∧ (nth l i).key < a then some (nth l i).key else some a := rfl
  obtain ⟨c, hc⟩ : ∃ c, (nth l i).key = c := ⟨_, rfl⟩
  have hks := hks c
  have hsc := hsm c
  rw [hc] at hst
  obtain ⟨⟨x, y⟩, hk⟩ : ∃ k, WO l c = k := ⟨_, rfl⟩
  rw [hk] at hks hst hsc
  dsimp only at hks hst hsc
  (repeat (first | refine FW.seq ?_ | refine FW.region ?_ | refine FW.block ?_ | refine FW.skip ?_ | refine zb rfl rfl rfl ?_ | refine zj rfl rfl rfl rfl rfl rfl (by simp; omega) rfl rfl ?_ | refine zI rfl rfl rfl rfl rfl rfl rfl ?_ | refine zq rfl rfl rfl (by simp; omega) (by first | exact zc (by omega) | rfl) rfl rfl rfl rfl ?_))
  rw [hc]
  skip
  refine zD hks (by repeat (first | exact zg.nil | refine zg.cons (by exact yc.plain rfl rfl) ?_)) rfl rfl ?_
  (repeat (first | refine FW.seq ?_ | refine FW.region ?_ | refine zd.nil ?_ | refine za rfl rfl rfl ?_ | refine zb rfl rfl rfl ?_ | refine zL rfl rfl rfl rfl rfl ?_ | refine zeE rfl rfl rfl rfl ?_))
  refine yb (fun h1 => ?_) (fun h1 => ?_)
  ·have h1' : 0 < x := by simpa using h1
   rw [if_pos h1'] at hst
   cases hq : ZY l i with
   | none =>
    rw [hq] at hst
    dsimp only at hst
    rw [hn]
    (repeat (first | refine FW.seq ?_ | refine FW.region ?_ | refine FW.condT rfl ?_ | refine zd.nil ?_ | refine za rfl rfl rfl ?_ | refine zb rfl rfl rfl ?_ | refine zj rfl rfl rfl rfl rfl rfl (by first | omega | (simp; omega)) rfl rfl ?_ | refine zI rfl rfl rfl rfl rfl rfl rfl ?_ | refine zq rfl rfl rfl (by first | omega | (simp; omega)) (by first | exact zc (by omega) | rfl) rfl rfl rfl rfl ?_ | refine zC rfl rfl rfl rfl ?_ | refine zh rfl rfl (by omega) rfl rfl ?_ | refine zb rfl rfl ⟨_, _, rfl, rfl, rfl⟩ ?_ | refine xn rfl rfl ⟨_, _, rfl, rfl, rfl⟩ ?_ | refine zC rfl rfl rfl ⟨_, _, rfl, rfl, rfl⟩ ?_ | refine zS rfl rfl ⟨_, _, rfl, rfl, rfl⟩ ?_))
    rw [hc]
    skip
    refine ⟨i + 1, by omega, by omega, ?_⟩
    rw [hst, hsc]
    exact (FLe.conv [] (by simp) (by simp) rfl (by repeat (first | exact .nil)) (by repeat (first | exact .nil)) (by repeat (first | exact .nil | refine .cons (.plain rfl rfl rfl) ?_)))
   | some a =>
    rw [hq] at hst
    dsimp only at hst
    have hsa := hsm a
    rw [hsa]
    generalize (WO l a).1 = x2 at hsa ⊢
    generalize (WO l a).2 = y2 at hsa ⊢
    (repeat (first | refine zd.nil ?_ | refine zC rfl rfl rfl rfl ?_ | refine zb rfl rfl ⟨_, _, rfl, rfl, rfl⟩ ?_ | refine xn rfl rfl ⟨_, _, rfl, rfl, rfl⟩ ?_ | refine zj rfl rfl rfl rfl rfl rfl (by simp; omega) rfl ⟨_, _, rfl, rfl, rfl⟩ ?_ | refine zI rfl rfl rfl rfl rfl rfl ⟨_, _, rfl, rfl, rfl⟩ ?_ | refine zq rfl rfl rfl (by simp; omega) (by first | exact zc (by omega) | rfl) rfl rfl rfl ⟨_, _, rfl, rfl, rfl⟩ ?_ | refine zN rfl rfl rfl ⟨_, _, rfl, rfl, rfl⟩ ?_ | refine zH rfl rfl rfl ⟨_, _, rfl, rfl, rfl⟩ ?_))
    rw [hc]
    skip
    refine FW.cond rfl (fun h2 => ?_) (fun h2 => ?_)
    ·have h2' : c < a := by simpa using h2
     rw [if_pos ⟨h1', h2'⟩] at hst
     (repeat (first | refine FW.seq ?_ | refine FW.region ?_ | refine zd.nil ?_ | refine za rfl rfl rfl ?_ | refine zb rfl rfl rfl ?_ | refine zj rfl rfl rfl rfl rfl rfl (by simp; omega) rfl rfl ?_ | refine zI rfl rfl rfl rfl rfl rfl rfl ?_ | refine zq rfl rfl rfl (by simp; omega) (by first | exact zc (by omega) | rfl) rfl rfl rfl rfl ?_ | refine zh rfl rfl (by omega) rfl rfl ?_))
     rw [hc]
     skip
     refine ⟨i + 1, by omega, by omega, ?_⟩
     rw [hst, hsc]
     exact (FLe.conv [] (by simp) (by simp) rfl (by repeat (first | exact .nil)) (by repeat (first | exact .nil)) (by repeat (first | exact .nil | refine .cons (.plain rfl rfl rfl) ?_)))
    ·have h2' : ¬ c < a := by simpa using h2
     rw [if_neg (fun h => h2' h.2)] at hst
     (repeat (first | refine FW.region ?_ | refine FW.skip ?_ | refine zd.nil ?_ | refine za rfl rfl rfl ?_ | refine zb rfl rfl rfl ?_ | refine zh rfl rfl (by omega) rfl rfl ?_))
     refine ⟨i + 1, by omega, by omega, ?_⟩
     rw [hst, hsa]
     exact (FLe.conv [] (by simp) (by simp) rfl (by repeat (first | exact .nil)) (by repeat (first | exact .nil)) (by repeat (first | exact .nil | refine .cons (.plain rfl rfl rfl) ?_)))
  ·have h1' : ¬ 0 < x := by simpa using h1
   have hst : ZY l (i + 1) = ZY l i := by
    rw [hst]
    cases ZY l i with
    | none => exact if_neg h1'
    | some a => exact if_neg (fun h => h1' h.1)
   (repeat (first | refine FW.region ?_ | refine FW.skip ?_ | refine FW.condF rfl ?_ | refine zd.nil ?_ | refine za rfl rfl rfl ?_ | refine zb rfl rfl rfl ?_ | refine zH rfl rfl rfl rfl ?_ | refine zh rfl rfl (by omega) rfl rfl ?_ | refine zS rfl rfl ⟨_, _, rfl, rfl, rfl⟩ ?_))
   refine ⟨i + 1, by omega, by omega, ?_⟩
   rw [hst]
   exact (FLe.conv [] (by simp) (by simp) rfl (by repeat (first | exact .nil)) (by repeat (first | exact .nil)) (by repeat (first | exact .nil | refine .cons (.plain rfl rfl rfl) ?_)))
 ·obtain rfl : i = l.length := by simp at h; omega
  (repeat (first | refine FW.seq ?_ | refine FW.region ?_ | refine FW.exit ?_ | refine zd.nil ?_ | refine za rfl rfl rfl ?_ | refine zb rfl rfl rfl ?_))
  exact FW.ret ⟨.inl rfl, .flat (.cons (.tmp 2 rfl rfl) (.cons (.tmp 3 rfl rfl) (.cons (.tmp 4 rfl rfl) .nil))) rfl rfl⟩
end Go.Proofs.Ytbeebjdnapkhhaa
