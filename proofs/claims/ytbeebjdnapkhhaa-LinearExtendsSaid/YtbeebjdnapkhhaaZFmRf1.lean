/-
  The reference of layer 21 at plain values: Value, Included, Writer, Domain.
-/
import Derived.Test.YtbeebjdnapkhhaaZLinPlain
import Derived.Test.YtbeebjdnapkhhaaZFmQt
namespace Go.Proofs.Ytbeebjdnapkhhaa
set_option linter.unusedVariables false
open Go.RowKit

set_option maxHeartbeats 4000000 in
theorem zaw (l : List OpV) (i : Nat) (hl : l.length ≤ 1000000) (hi : i < l.length) : yg Try.prog 24 [.list 8 (l.map OpV.fv), .int .i64 i] .fr (.bool (zW l i)) := by
 have hR : zW l i = ((nth l i).done || (decide ((nth l i).k = 1) && l.any (Vt (nth l i).key (nth l i).arg))) := rfl
 obtain ⟨o, ho⟩ : ∃ o, nth l i = o := ⟨_, rfl⟩
 obtain ⟨R, hRe⟩ : ∃ R, zW l i = R := ⟨_, rfl⟩
 rw [hRe, ho] at hR
 rw [hRe]
 refine yg.of_body (c := (Zy Try.prog zG zA 62)) ⟨Try.func24, rfl, Try.ntmps24, by kernel_rfl⟩ (by simp [FV.hand]) (by exact Nat.le_of_ble_eq_true rfl) rfl ?_
 change FW _ _ _ ⟨[(0, .list 8 (l.map OpV.fv)), (1, .int .i64 i)], []⟩
 (repeat (first | refine FW.seq ?_ | refine FW.region ?_ | refine zc.nil ?_ | refine za rfl rfl rfl ?_ | refine zb rfl rfl rfl ?_ | refine zD rfl rfl rfl rfl rfl rfl (by simp; omega) rfl rfl ?_ | refine ym rfl rfl rfl rfl rfl rfl rfl ?_ | refine zB rfl rfl rfl (by simp; omega) (by first | exact zd (by omega) | rfl) rfl rfl rfl rfl ?_))
 rw [ho]
 refine FW.cond rfl (fun h => ?_) (fun h => ?_)
 ·have h : o.done = true := h
  rw [h, Bool.true_or] at hR
  subst hR
  (repeat (first | refine FW.seq ?_ | refine FW.region ?_ | refine zc.nil ?_ | refine za rfl rfl rfl ?_))
  exact FW.ret ⟨.inl rfl, zO rfl rfl rfl rfl⟩
 have h : o.done = false := h
 rw [h, Bool.false_or] at hR
 (repeat (first | refine FW.seq ?_ | refine FW.region ?_ | refine FW.skip ?_ | refine zc.nil ?_ | refine zb rfl rfl rfl ?_ | refine zD rfl rfl rfl rfl rfl rfl (by simp; omega) rfl rfl ?_ | refine ym rfl rfl rfl rfl rfl rfl rfl ?_ | refine zB rfl rfl rfl (by simp; omega) (by first | exact zd (by omega) | rfl) rfl rfl rfl rfl ?_ | refine Zc rfl rfl rfl rfl ?_))
 rw [ho]
 skip
 refine FW.cond rfl (fun h => ?_) (fun h => ?_)
 ·have h : ¬ o.k = 1 := by simpa using h
  rw [decide_eq_false h, Bool.false_and] at hR
  subst hR
  (repeat (first | refine FW.seq ?_ | refine FW.region ?_ | refine zc.nil ?_ | refine za rfl rfl rfl ?_))
  exact FW.ret ⟨.inl rfl, zO rfl rfl rfl rfl⟩
 have h : o.k = 1 := by simpa using h
 rw [decide_eq_true h, Bool.true_and] at hR
 (repeat (first | refine FW.seq ?_ | refine FW.region ?_ | refine FW.block ?_ | refine FW.skip ?_ | refine zc.nil ?_ | refine za rfl rfl rfl ?_))
 refine FW.loop (fun k : Nat => ⟨[(0, .list 8 (l.map OpV.fv)), (1, .int .i64 i), (5, .int .i64 k)], []⟩) (fun k => k ≤ l.length ∧ ∀ j, j < k → Vt o.key o.arg (nth l j) = false) (fun k => l.length - k) 0 ⟨Nat.zero_le _, fun j hj => by omega⟩ ?_ ?_
 ·exact (FLe.conv [] (by simp) (by simp) rfl (by repeat (first | exact .nil | refine .low rfl ?_ | refine .same rfl ?_ | refine .bump (Nat.lt_succ_self _) ?_)) (by repeat (first | exact .nil)) (by repeat (first | exact .nil | refine .cons (.plain rfl rfl rfl) ?_)))
 rintro k ⟨hk, hno⟩
 (repeat (first | refine FW.seq ?_ | refine FW.region ?_ | refine zc.nil ?_ | refine zb rfl rfl rfl ?_ | refine zm rfl rfl (by exact List.length_map _) rfl rfl ?_ | refine zH rfl rfl rfl rfl ?_))
 refine FW.cond rfl (fun h => ?_) (fun h => ?_)
 ·have hlt : k < l.length := by simpa using h
  obtain ⟨p, hp⟩ : ∃ p, nth l k = p := ⟨_, rfl⟩
  have hrd : Vt o.key o.arg p = (decide (p.k = 0) && (p.done && (decide (p.key = o.key) && decide (p.res = o.arg)))) := rfl
  have hst : Vt o.key o.arg p = false → ∀ j, j < k + 1 → Vt o.key o.arg (nth l j) = false := fun hx j hj => by
   by_cases e : j = k
   ·rw [e, hp]; exact hx
   ·exact hno j (by omega)
  (repeat (first | refine FW.seq ?_ | refine FW.block ?_ | refine FW.skip ?_))
  refine FW.drawQ (by kernel_rfl) ?_
  (repeat (first | refine zV rfl rfl rfl ?_ | refine yj rfl rfl rfl rfl rfl rfl (by simp; omega) rfl rfl ?_ | refine xI rfl rfl rfl rfl rfl rfl rfl ?_ | refine yh rfl rfl rfl (by simp; omega) (by first | exact zd (by omega) | rfl) rfl rfl rfl rfl ?_ | refine zcV rfl rfl rfl rfl ?_))
  rw [hp]
  refine UH (fun h1 => ?_) (fun h1 => ?_)
  ·rw [h1, Bool.true_and] at hrd
   (repeat (first | refine zV rfl rfl rfl ?_ | refine Xi rfl rfl rfl rfl ?_ | refine zV rfl rfl ⟨_, _, rfl, rfl, rfl⟩ ?_ | refine yj rfl rfl rfl rfl rfl rfl (by simp; omega) rfl ⟨_, _, rfl, rfl, rfl⟩ ?_ | refine xI rfl rfl rfl rfl rfl rfl ⟨_, _, rfl, rfl, rfl⟩ ?_ | refine yh rfl rfl rfl (by simp; omega) (by first | exact zd (by omega) | rfl) rfl rfl rfl ⟨_, _, rfl, rfl, rfl⟩ ?_))
   rw [hp]
   refine UH (fun h2 => ?_) (fun h2 => ?_)
   ·rw [h2, Bool.true_and] at hrd
    (repeat (first | refine zV rfl rfl rfl ?_ | refine Xi rfl rfl rfl rfl ?_ | refine zV rfl rfl ⟨_, _, rfl, rfl, rfl⟩ ?_ | refine yj rfl rfl rfl rfl rfl rfl (by simp; omega) rfl ⟨_, _, rfl, rfl, rfl⟩ ?_ | refine xI rfl rfl rfl rfl rfl rfl ⟨_, _, rfl, rfl, rfl⟩ ?_ | refine yh rfl rfl rfl (by simp; omega) (by first | exact zd (by omega) | rfl) rfl rfl rfl ⟨_, _, rfl, rfl, rfl⟩ ?_ | refine zcV rfl rfl rfl ⟨_, _, rfl, rfl, rfl⟩ ?_))
    rw [hp, ho]
    refine UH (fun h3 => ?_) (fun h3 => ?_)
    ·rw [h3, Bool.true_and] at hrd
     (repeat (first | refine zE.nil ?_ | refine Xi rfl rfl rfl rfl ?_ | refine zV rfl rfl ⟨_, _, rfl, rfl, rfl⟩ ?_ | refine yj rfl rfl rfl rfl rfl rfl (by simp; omega) rfl ⟨_, _, rfl, rfl, rfl⟩ ?_ | refine xI rfl rfl rfl rfl rfl rfl ⟨_, _, rfl, rfl, rfl⟩ ?_ | refine yh rfl rfl rfl (by simp; omega) (by first | exact zd (by omega) | rfl) rfl rfl rfl ⟨_, _, rfl, rfl, rfl⟩ ?_ | refine zcV rfl rfl rfl ⟨_, _, rfl, rfl, rfl⟩ ?_))
     rw [hp, ho]
     skip
     refine ⟨by kernel_rfl, ?_⟩
     refine FW.cond rfl (fun h4 => ?_) (fun h4 => ?_)
     ·have hR2 : R = true := by
       rw [hR, Yi]
       exact ⟨k, hlt, by rw [hp, hrd]; exact h4⟩
      subst hR2
      (repeat (first | refine FW.seq ?_ | refine FW.region ?_ | refine zc.nil ?_ | refine za rfl rfl rfl ?_))
      exact FW.ret ⟨.inl rfl, zO rfl rfl rfl rfl⟩
     ·(repeat (first | refine FW.region ?_ | refine FW.skip ?_ | refine zc.nil ?_ | refine za rfl rfl rfl ?_ | refine zb rfl rfl rfl ?_ | refine zu rfl rfl (by omega) rfl rfl ?_))
      exact ⟨k + 1, ⟨by omega, hst (by rw [hrd]; exact h4)⟩, by omega, (FLe.conv [] (by simp) (by simp) rfl (by repeat (first | exact .nil | refine .low rfl ?_ | refine .same rfl ?_ | refine .bump (Nat.lt_succ_self _) ?_)) (by repeat (first | exact .nil)) (by repeat (first | exact .nil | refine .cons (.plain rfl rfl rfl) ?_)))⟩
    ·rw [h3, Bool.false_and] at hrd
     (repeat (first | refine zE.nil ?_ | refine Xh rfl rfl rfl rfl ?_ | refine WN rfl rfl ⟨_, _, rfl, rfl, rfl⟩ ?_))
     refine ⟨by kernel_rfl, ?_⟩
     (repeat (first | refine FW.region ?_ | refine FW.skip ?_ | refine FW.condF rfl ?_ | refine zc.nil ?_ | refine za rfl rfl rfl ?_ | refine zb rfl rfl rfl ?_ | refine zu rfl rfl (by omega) rfl rfl ?_))
     exact ⟨k + 1, ⟨by omega, hst hrd⟩, by omega, (FLe.conv [] (by simp) (by simp) rfl (by repeat (first | exact .nil | refine .low rfl ?_ | refine .same rfl ?_ | refine .bump (Nat.lt_succ_self _) ?_)) (by repeat (first | exact .nil)) (by repeat (first | exact .nil | refine .cons (.plain rfl rfl rfl) ?_)))⟩
   ·rw [h2, Bool.false_and] at hrd
    (repeat (first | refine zE.nil ?_ | refine zV rfl rfl rfl ?_ | refine Xh rfl rfl rfl rfl ?_ | refine WN rfl rfl ⟨_, _, rfl, rfl, rfl⟩ ?_))
    refine ⟨by kernel_rfl, ?_⟩
    (repeat (first | refine FW.region ?_ | refine FW.skip ?_ | refine FW.condF rfl ?_ | refine zc.nil ?_ | refine za rfl rfl rfl ?_ | refine zb rfl rfl rfl ?_ | refine zu rfl rfl (by omega) rfl rfl ?_))
    exact ⟨k + 1, ⟨by omega, hst hrd⟩, by omega, (FLe.conv [] (by simp) (by simp) rfl (by repeat (first | exact .nil | refine .low rfl ?_ | refine .same rfl ?_ | refine .bump (Nat.lt_succ_self _) ?_)) (by repeat (first | exact .nil)) (by repeat (first | exact .nil | refine .cons (.plain rfl rfl rfl) ?_)))⟩
  ·rw [h1, Bool.false_and] at hrd
   (repeat (first | refine zE.nil ?_ | refine zV rfl rfl rfl ?_ | refine Xh rfl rfl rfl rfl ?_ | refine WN rfl rfl ⟨_, _, rfl, rfl, rfl⟩ ?_))
   refine ⟨by kernel_rfl, ?_⟩
   (repeat (first | refine FW.region ?_ | refine FW.skip ?_ | refine FW.condF rfl ?_ | refine zc.nil ?_ | refine za rfl rfl rfl ?_ | refine zb rfl rfl rfl ?_ | refine zu rfl rfl (by omega) rfl rfl ?_))
   exact ⟨k + 1, ⟨by omega, hst hrd⟩, by omega, (FLe.conv [] (by simp) (by simp) rfl (by repeat (first | exact .nil | refine .low rfl ?_ | refine .same rfl ?_ | refine .bump (Nat.lt_succ_self _) ?_)) (by repeat (first | exact .nil)) (by repeat (first | exact .nil | refine .cons (.plain rfl rfl rfl) ?_)))⟩
 ·obtain rfl : k = l.length := by simp at h; omega
  have hR2 : R = false := by
   rw [hR, Bool.eq_false_iff]
   intro h
   obtain ⟨j, hj, h2⟩ := Yi.1 h
   rw [hno j hj] at h2; cases h2
  subst hR2
  (repeat (first | refine FW.seq ?_ | refine FW.region ?_ | refine FW.exit ?_ | refine zc.nil ?_ | refine za rfl rfl rfl ?_))
  exact FW.ret ⟨.inl rfl, zO rfl rfl rfl rfl⟩
end Go.Proofs.Ytbeebjdnapkhhaa
