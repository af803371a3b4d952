/-
  The reference of layer 21 at plain values: Value, Included, Writer, Domain.
-/
import Derived.Test.YtbeebjdnapkhhaaZLinPlain
import Derived.Test.YtbeebjdnapkhhaaZFmQt
namespace Go.Proofs.Ytbeebjdnapkhhaa
set_option linter.unusedVariables false
open Go.RowKit

set_option maxHeartbeats 4000000 in
theorem XL (l : List OpV) (i : Nat) (hl : l.length ≤ 1000000) (hi : i < l.length) : zU Try.prog 24 [.list 8 (l.map OpV.fv), .int .i64 i] .fr (.bool (zR l i)) := by
 have hR : zR l i = ((nth l i).done || (decide ((nth l i).k = 1) && l.any (VJ (nth l i).key (nth l i).arg))) := rfl
 obtain ⟨o, ho⟩ : ∃ o, nth l i = o := ⟨_, rfl⟩
 obtain ⟨R, hRe⟩ : ∃ R, zR l i = R := ⟨_, rfl⟩
 rw [hRe, ho] at hR
 rw [hRe]
 refine zU.of_body (c := (xN Try.prog zE zA 62)) ⟨Try.func24, rfl, Try.ntmps24, by kernel_rfl⟩ (by simp [FV.hand]) (by exact Nat.le_of_ble_eq_true rfl) rfl ?_
 change FW _ _ _ ⟨[(0, .list 8 (l.map OpV.fv)), (1, .int .i64 i)], []⟩
 (repeat (first | refine FW.seq ?_ | refine FW.region ?_ | refine zc.nil ?_ | refine za rfl rfl rfl ?_ | refine zb rfl rfl rfl ?_ | refine zw rfl rfl rfl rfl rfl rfl (by simp; omega) rfl rfl ?_ | refine ya rfl rfl rfl rfl rfl rfl rfl ?_ | refine zt rfl rfl rfl (by simp; omega) (by first | exact zd (by omega) | rfl) rfl rfl rfl rfl ?_))
 rw [ho]
 refine FW.cond rfl (fun h => ?_) (fun h => ?_)
 ·have h : o.done = true := h
  rw [h, Bool.true_or] at hR
  subst hR
  (repeat (first | refine FW.seq ?_ | refine FW.region ?_ | refine zc.nil ?_ | refine za rfl rfl rfl ?_))
  exact FW.ret ⟨.inl rfl, zy rfl rfl rfl rfl⟩
 have h : o.done = false := h
 rw [h, Bool.false_or] at hR
 (repeat (first | refine FW.seq ?_ | refine FW.region ?_ | refine FW.skip ?_ | refine zc.nil ?_ | refine zb rfl rfl rfl ?_ | refine zw rfl rfl rfl rfl rfl rfl (by simp; omega) rfl rfl ?_ | refine ya rfl rfl rfl rfl rfl rfl rfl ?_ | refine zt rfl rfl rfl (by simp; omega) (by first | exact zd (by omega) | rfl) rfl rfl rfl rfl ?_ | refine xP rfl rfl rfl rfl ?_))
 rw [ho]
 skip
 refine FW.cond rfl (fun h => ?_) (fun h => ?_)
 ·have h : ¬ o.k = 1 := by simpa using h
  rw [decide_eq_false h, Bool.false_and] at hR
  subst hR
  (repeat (first | refine FW.seq ?_ | refine FW.region ?_ | refine zc.nil ?_ | refine za rfl rfl rfl ?_))
  exact FW.ret ⟨.inl rfl, zy rfl rfl rfl rfl⟩
 have h : o.k = 1 := by simpa using h
 rw [decide_eq_true h, Bool.true_and] at hR
 (repeat (first | refine FW.seq ?_ | refine FW.region ?_ | refine FW.block ?_ | refine FW.skip ?_ | refine zc.nil ?_ | refine za rfl rfl rfl ?_))
 refine FW.loop (fun k : Nat => ⟨[(0, .list 8 (l.map OpV.fv)), (1, .int .i64 i), (5, .int .i64 k)], []⟩) (fun k => k ≤ l.length ∧ ∀ j, j < k → VJ o.key o.arg (nth l j) = false) (fun k => l.length - k) 0 ⟨Nat.zero_le _, fun j hj => by omega⟩ ?_ ?_
 ·exact (FLe.conv [] (by simp) (by simp) rfl (by repeat (first | exact .nil | refine .low rfl ?_ | refine .same rfl ?_ | refine .bump (Nat.lt_succ_self _) ?_)) (by repeat (first | exact .nil)) (by repeat (first | exact .nil | refine .cons (.plain rfl rfl rfl) ?_)))
 rintro k ⟨hk, hno⟩
 (repeat (first | refine FW.seq ?_ | refine FW.region ?_ | refine zc.nil ?_ | refine zb rfl rfl rfl ?_ | refine zm rfl rfl (by exact List.length_map _) rfl rfl ?_ | refine zJ rfl rfl rfl rfl ?_))
 refine FW.cond rfl (fun h => ?_) (fun h => ?_)
 ·have hlt : k < l.length := by simpa using h
  obtain ⟨p, hp⟩ : ∃ p, nth l k = p := ⟨_, rfl⟩
  have hrd : VJ o.key o.arg p = (decide (p.k = 0) && (p.done && (decide (p.key = o.key) && decide (p.res = o.arg)))) := rfl
  have hst : VJ o.key o.arg p = false → ∀ j, j < k + 1 → VJ o.key o.arg (nth l j) = false := fun hx j hj => by
   by_cases e : j = k
   ·rw [e, hp]; exact hx
   ·exact hno j (by omega)
  (repeat (first | refine FW.seq ?_ | refine FW.block ?_ | refine FW.skip ?_))
  refine FW.drawQ (by kernel_rfl) ?_
  (repeat (first | refine zM rfl rfl rfl ?_ | refine zQ rfl rfl rfl rfl rfl rfl (by simp; omega) rfl rfl ?_ | refine yx rfl rfl rfl rfl rfl rfl rfl ?_ | refine zS rfl rfl rfl (by simp; omega) (by first | exact zd (by omega) | rfl) rfl rfl rfl rfl ?_ | refine WC rfl rfl rfl rfl ?_))
  rw [hp]
  refine YE (fun h1 => ?_) (fun h1 => ?_)
  ·rw [h1, Bool.true_and] at hrd
   (repeat (first | refine zM rfl rfl rfl ?_ | refine Zb rfl rfl rfl rfl ?_ | refine zM rfl rfl ⟨_, _, rfl, rfl, rfl⟩ ?_ | refine zQ rfl rfl rfl rfl rfl rfl (by simp; omega) rfl ⟨_, _, rfl, rfl, rfl⟩ ?_ | refine yx rfl rfl rfl rfl rfl rfl ⟨_, _, rfl, rfl, rfl⟩ ?_ | refine zS rfl rfl rfl (by simp; omega) (by first | exact zd (by omega) | rfl) rfl rfl rfl ⟨_, _, rfl, rfl, rfl⟩ ?_))
   rw [hp]
   refine YE (fun h2 => ?_) (fun h2 => ?_)
   ·rw [h2, Bool.true_and] at hrd
    (repeat (first | refine zM rfl rfl rfl ?_ | refine Zb rfl rfl rfl rfl ?_ | refine zM rfl rfl ⟨_, _, rfl, rfl, rfl⟩ ?_ | refine zQ rfl rfl rfl rfl rfl rfl (by simp; omega) rfl ⟨_, _, rfl, rfl, rfl⟩ ?_ | refine yx rfl rfl rfl rfl rfl rfl ⟨_, _, rfl, rfl, rfl⟩ ?_ | refine zS rfl rfl rfl (by simp; omega) (by first | exact zd (by omega) | rfl) rfl rfl rfl ⟨_, _, rfl, rfl, rfl⟩ ?_ | refine WC rfl rfl rfl ⟨_, _, rfl, rfl, rfl⟩ ?_))
    rw [hp, ho]
    refine YE (fun h3 => ?_) (fun h3 => ?_)
    ·rw [h3, Bool.true_and] at hrd
     (repeat (first | refine zI.nil ?_ | refine Zb rfl rfl rfl rfl ?_ | refine zM rfl rfl ⟨_, _, rfl, rfl, rfl⟩ ?_ | refine zQ rfl rfl rfl rfl rfl rfl (by simp; omega) rfl ⟨_, _, rfl, rfl, rfl⟩ ?_ | refine yx rfl rfl rfl rfl rfl rfl ⟨_, _, rfl, rfl, rfl⟩ ?_ | refine zS rfl rfl rfl (by simp; omega) (by first | exact zd (by omega) | rfl) rfl rfl rfl ⟨_, _, rfl, rfl, rfl⟩ ?_ | refine WC rfl rfl rfl ⟨_, _, rfl, rfl, rfl⟩ ?_))
     rw [hp, ho]
     skip
     refine ⟨by kernel_rfl, ?_⟩
     refine FW.cond rfl (fun h4 => ?_) (fun h4 => ?_)
     ·have hR2 : R = true := by
       rw [hR, Zz]
       exact ⟨k, hlt, by rw [hp, hrd]; exact h4⟩
      subst hR2
      (repeat (first | refine FW.seq ?_ | refine FW.region ?_ | refine zc.nil ?_ | refine za rfl rfl rfl ?_))
      exact FW.ret ⟨.inl rfl, zy rfl rfl rfl rfl⟩
     ·(repeat (first | refine FW.region ?_ | refine FW.skip ?_ | refine zc.nil ?_ | refine za rfl rfl rfl ?_ | refine zb rfl rfl rfl ?_ | refine zu rfl rfl (by omega) rfl rfl ?_))
      exact ⟨k + 1, ⟨by omega, hst (by rw [hrd]; exact h4)⟩, by omega, (FLe.conv [] (by simp) (by simp) rfl (by repeat (first | exact .nil | refine .low rfl ?_ | refine .same rfl ?_ | refine .bump (Nat.lt_succ_self _) ?_)) (by repeat (first | exact .nil)) (by repeat (first | exact .nil | refine .cons (.plain rfl rfl rfl) ?_)))⟩
    ·rw [h3, Bool.false_and] at hrd
     (repeat (first | refine zI.nil ?_ | refine Za rfl rfl rfl rfl ?_ | refine ZV rfl rfl ⟨_, _, rfl, rfl, rfl⟩ ?_))
     refine ⟨by kernel_rfl, ?_⟩
     (repeat (first | refine FW.region ?_ | refine FW.skip ?_ | refine FW.condF rfl ?_ | refine zc.nil ?_ | refine za rfl rfl rfl ?_ | refine zb rfl rfl rfl ?_ | refine zu rfl rfl (by omega) rfl rfl ?_))
     exact ⟨k + 1, ⟨by omega, hst hrd⟩, by omega, (FLe.conv [] (by simp) (by simp) rfl (by repeat (first | exact .nil | refine .low rfl ?_ | refine .same rfl ?_ | refine .bump (Nat.lt_succ_self _) ?_)) (by repeat (first | exact .nil)) (by repeat (first | exact .nil | refine .cons (.plain rfl rfl rfl) ?_)))⟩
   ·rw [h2, Bool.false_and] at hrd
    (repeat (first | refine zI.nil ?_ | refine zM rfl rfl rfl ?_ | refine Za rfl rfl rfl rfl ?_ | refine ZV rfl rfl ⟨_, _, rfl, rfl, rfl⟩ ?_))
    refine ⟨by kernel_rfl, ?_⟩
    (repeat (first | refine FW.region ?_ | refine FW.skip ?_ | refine FW.condF rfl ?_ | refine zc.nil ?_ | refine za rfl rfl rfl ?_ | refine zb rfl rfl rfl ?_ | refine zu rfl rfl (by omega) rfl rfl ?_))
    exact ⟨k + 1, ⟨by omega, hst hrd⟩, by omega, (FLe.conv [] (by simp) (by simp) rfl (by repeat (first | exact .nil | refine .low rfl ?_ | refine .same rfl ?_ | refine .bump (Nat.lt_succ_self _) ?_)) (by repeat (first | exact .nil)) (by repeat (first | exact .nil | refine .cons (.plain rfl rfl rfl) ?_)))⟩
  ·rw [h1, Bool.false_and] at hrd
   (repeat (first | refine zI.nil ?_ | refine zM rfl rfl rfl ?_ | refine Za rfl rfl rfl rfl ?_ | refine ZV rfl rfl ⟨_, _, rfl, rfl, rfl⟩ ?_))
   refine ⟨by kernel_rfl, ?_⟩
   (repeat (first | refine FW.region ?_ | refine FW.skip ?_ | refine FW.condF rfl ?_ | refine zc.nil ?_ | refine za rfl rfl rfl ?_ | refine zb rfl rfl rfl ?_ | refine zu rfl rfl (by omega) rfl rfl ?_))
   exact ⟨k + 1, ⟨by omega, hst hrd⟩, by omega, (FLe.conv [] (by simp) (by simp) rfl (by repeat (first | exact .nil | refine .low rfl ?_ | refine .same rfl ?_ | refine .bump (Nat.lt_succ_self _) ?_)) (by repeat (first | exact .nil)) (by repeat (first | exact .nil | refine .cons (.plain rfl rfl rfl) ?_)))⟩
 ·obtain rfl : k = l.length := by simp at h; omega
  have hR2 : R = false := by
   rw [hR, Bool.eq_false_iff]
   intro h
   obtain ⟨j, hj, h2⟩ := Zz.1 h
   rw [hno j hj] at h2; cases h2
  subst hR2
  (repeat (first | refine FW.seq ?_ | refine FW.region ?_ | refine FW.exit ?_ | refine zc.nil ?_ | refine za rfl rfl rfl ?_))
  exact FW.ret ⟨.inl rfl, zy rfl rfl rfl rfl⟩
set_option maxHeartbeats 4000000 in
theorem zaM (l : List OpV) (hl : l.length ≤ 1000000) : zU Try.prog 15 [.list 8 (l.map OpV.fv)] .fr (.bool (decide (yj l))) := by
 have hyes : (∀ i, i < l.length → okW l i) → decide (yj l) = true := fun h => decide_eq_true h
 have hnot : ∀ i, i < l.length → ¬ okW l i → decide (yj l) = false := fun i hi h => decide_eq_false fun h2 => h (h2 i hi)
 obtain ⟨R, hR⟩ : ∃ R, decide (yj l) = R := ⟨_, rfl⟩
 rw [hR] at hyes hnot ⊢
 refine zU.of_body (c := (xN Try.prog zE zA 74)) ⟨Try.func15, rfl, Try.ntmps15, by kernel_rfl⟩ (by simp [FV.hand]) (by exact Nat.le_of_ble_eq_true rfl) rfl ?_
 change FW _ _ _ ⟨[(0, .list 8 (l.map OpV.fv))], []⟩
 (repeat (first | refine FW.seq ?_ | refine FW.region ?_ | refine FW.block ?_ | refine zc.nil ?_ | refine za rfl rfl rfl ?_))
 refine FW.loop (fun k : Nat => ⟨[(0, .list 8 (l.map OpV.fv)), (3, .int .i64 k)], []⟩) (fun k => k ≤ l.length ∧ ∀ j, j < k → okW l j) (fun k => l.length - k) 0 ⟨Nat.zero_le _, fun j hj => by omega⟩ ?_ ?_
 ·exact (FLe.conv [] (by simp) (by simp) rfl (by repeat (first | exact .nil | refine .low rfl ?_ | refine .same rfl ?_ | refine .bump (Nat.lt_succ_self _) ?_)) (by repeat (first | exact .nil)) (by repeat (first | exact .nil | refine .cons (.plain rfl rfl rfl) ?_)))
 rintro k ⟨hk, hno⟩
 (repeat (first | refine FW.seq ?_ | refine FW.region ?_ | refine zc.nil ?_ | refine zb rfl rfl rfl ?_ | refine zm rfl rfl (by exact List.length_map _) rfl rfl ?_ | refine zJ rfl rfl rfl rfl ?_))
 refine FW.cond rfl (fun h => ?_) (fun h => ?_)
 ·have hlt : k < l.length := by simpa using h
  have hnot := hnot k hlt
  obtain ⟨p, hp⟩ : ∃ p, nth l k = p := ⟨_, rfl⟩
  have hok : okW l k = (p.k = 0 ∨ (p.k = 1 ∧ p.arg ≠ 0 ∧ ∀ j, j < k → wOf p.key p.arg (nth l j) = false)) := by unfold okW; rw [hp]
  have hst : okW l k → ∀ j, j < k + 1 → okW l j := fun hx j hj => by
   by_cases e : j = k
   ·rw [e]; exact hx
   ·exact hno j (by omega)
  rw [hok] at hnot hst
  (repeat (first | refine FW.seq ?_ | refine FW.region ?_ | refine FW.block ?_ | refine FW.skip ?_ | refine zb rfl rfl rfl ?_ | refine zw rfl rfl rfl rfl rfl rfl (by simp; omega) rfl rfl ?_ | refine ya rfl rfl rfl rfl rfl rfl rfl ?_ | refine zt rfl rfl rfl (by simp; omega) (by first | exact zd (by omega) | rfl) rfl rfl rfl rfl ?_ | refine xP rfl rfl rfl rfl ?_))
  rw [hp]
  refine yy (fun h1 => ?_) (fun h1 => ?_)
  ·have h1 : ¬ p.k = 0 := by simpa using h1
   (repeat (first | refine zc.nil ?_ | refine zK rfl rfl rfl rfl ?_ | refine zb rfl rfl ⟨_, _, rfl, rfl, rfl⟩ ?_ | refine zw rfl rfl rfl rfl rfl rfl (by simp; omega) rfl ⟨_, _, rfl, rfl, rfl⟩ ?_ | refine ya rfl rfl rfl rfl rfl rfl ⟨_, _, rfl, rfl, rfl⟩ ?_ | refine zt rfl rfl rfl (by simp; omega) (by first | exact zd (by omega) | rfl) rfl rfl rfl ⟨_, _, rfl, rfl, rfl⟩ ?_ | refine xP rfl rfl rfl ⟨_, _, rfl, rfl, rfl⟩ ?_))
   rw [hp]
   skip
   refine FW.cond rfl (fun h2 => ?_) (fun h2 => ?_)
   ·have h2 : ¬ p.k = 1 := by simpa using h2
    have hR2 : R = false := hnot (by rintro (h | h); exact h1 h; exact h2 h.1)
    subst hR2
    (repeat (first | refine FW.seq ?_ | refine FW.region ?_ | refine zc.nil ?_ | refine za rfl rfl rfl ?_))
    exact FW.ret ⟨.inl rfl, zy rfl rfl rfl rfl⟩
   have h2 : p.k = 1 := by simpa using h2
   (repeat (first | refine FW.seq ?_ | refine FW.region ?_ | refine FW.skip ?_ | refine zc.nil ?_ | refine zb rfl rfl rfl ?_ | refine zw rfl rfl rfl rfl rfl rfl (by simp; omega) rfl rfl ?_ | refine ya rfl rfl rfl rfl rfl rfl rfl ?_ | refine zt rfl rfl rfl (by simp; omega) (by first | exact zd (by omega) | rfl) rfl rfl rfl rfl ?_ | refine yz rfl rfl rfl rfl ?_))
   rw [hp]
   skip
   refine FW.condF (congrArg FV.bool (decide_eq_false h1)) ?_
   (repeat (first | refine FW.seq ?_ | refine FW.region ?_ | refine FW.skip ?_ | refine zc.nil ?_ | refine zb rfl rfl rfl ?_ | refine zw rfl rfl rfl rfl rfl rfl (by simp; omega) rfl rfl ?_ | refine ya rfl rfl rfl rfl rfl rfl rfl ?_ | refine zt rfl rfl rfl (by simp; omega) (by first | exact zd (by omega) | rfl) rfl rfl rfl rfl ?_ | refine yz rfl rfl rfl rfl ?_))
   rw [hp]
   skip
   refine FW.cond rfl (fun h3 => ?_) (fun h3 => ?_)
   ·have h3 : p.arg = 0 := by simpa using h3
    have hR2 : R = false := hnot (by rintro (h | h); exact h1 h; exact h.2.1 h3)
    subst hR2
    (repeat (first | refine FW.seq ?_ | refine FW.region ?_ | refine zc.nil ?_ | refine za rfl rfl rfl ?_))
    exact FW.ret ⟨.inl rfl, zy rfl rfl rfl rfl⟩
   have h3 : ¬ p.arg = 0 := by simpa using h3
   (repeat (first | refine FW.seq ?_ | refine FW.region ?_ | refine FW.block ?_ | refine FW.skip ?_ | refine zc.nil ?_ | refine za rfl rfl rfl ?_))
   refine FW.loop (fun m : Nat => ⟨[(0, .list 8 (l.map OpV.fv)), (3, .int .i64 k), (4, .int .i64 m)], []⟩) (fun m => m ≤ k ∧ ∀ j, j < m → wOf p.key p.arg (nth l j) = false) (fun m => k - m) 0 ⟨Nat.zero_le _, fun j hj => by omega⟩ ?_ ?_
   ·exact (FLe.conv [] (by simp) (by simp) rfl (by repeat (first | exact .nil | refine .low rfl ?_ | refine .same rfl ?_ | refine .bump (Nat.lt_succ_self _) ?_)) (by repeat (first | exact .nil)) (by repeat (first | exact .nil | refine .cons (.plain rfl rfl rfl) ?_)))
   rintro m ⟨hm, hmo⟩
   (repeat (first | refine FW.seq ?_ | refine FW.region ?_ | refine zc.nil ?_ | refine zb rfl rfl rfl ?_ | refine zJ rfl rfl rfl rfl ?_))
   refine FW.cond rfl (fun h4 => ?_) (fun h4 => ?_)
   ·have hltm : m < k := by simpa using h4
    obtain ⟨r, hr⟩ : ∃ r, nth l m = r := ⟨_, rfl⟩
    have hrd : wOf p.key p.arg r = (decide (r.k = 1) && (decide (r.key = p.key) && decide (r.arg = p.arg))) := rfl
    have hst2 : wOf p.key p.arg r = false → ∀ j, j < m + 1 → wOf p.key p.arg (nth l j) = false := fun hx j hj => by
     by_cases e : j = m
     ·rw [e, hr]; exact hx
     ·exact hmo j (by omega)
    (repeat (first | refine FW.seq ?_ | refine FW.block ?_ | refine FW.skip ?_))
    refine FW.drawQ (by kernel_rfl) ?_
    (repeat (first | refine zM rfl rfl rfl ?_ | refine zQ rfl rfl rfl rfl rfl rfl (by simp; omega) rfl rfl ?_ | refine yx rfl rfl rfl rfl rfl rfl rfl ?_ | refine zS rfl rfl rfl (by simp; omega) (by first | exact zd (by omega) | rfl) rfl rfl rfl rfl ?_ | refine WC rfl rfl rfl rfl ?_))
    rw [hr]
    refine YE (fun h5 => ?_) (fun h5 => ?_)
    ·rw [h5, Bool.true_and] at hrd
     (repeat (first | refine zM rfl rfl rfl ?_ | refine Zb rfl rfl rfl rfl ?_ | refine zM rfl rfl ⟨_, _, rfl, rfl, rfl⟩ ?_ | refine zQ rfl rfl rfl rfl rfl rfl (by simp; omega) rfl ⟨_, _, rfl, rfl, rfl⟩ ?_ | refine yx rfl rfl rfl rfl rfl rfl ⟨_, _, rfl, rfl, rfl⟩ ?_ | refine zS rfl rfl rfl (by simp; omega) (by first | exact zd (by omega) | rfl) rfl rfl rfl ⟨_, _, rfl, rfl, rfl⟩ ?_ | refine WC rfl rfl rfl ⟨_, _, rfl, rfl, rfl⟩ ?_))
     rw [hr, hp]
     refine YE (fun h6 => ?_) (fun h6 => ?_)
     ·rw [h6, Bool.true_and] at hrd
      (repeat (first | refine zI.nil ?_ | refine Zb rfl rfl rfl rfl ?_ | refine zM rfl rfl ⟨_, _, rfl, rfl, rfl⟩ ?_ | refine zQ rfl rfl rfl rfl rfl rfl (by simp; omega) rfl ⟨_, _, rfl, rfl, rfl⟩ ?_ | refine yx rfl rfl rfl rfl rfl rfl ⟨_, _, rfl, rfl, rfl⟩ ?_ | refine zS rfl rfl rfl (by simp; omega) (by first | exact zd (by omega) | rfl) rfl rfl rfl ⟨_, _, rfl, rfl, rfl⟩ ?_ | refine WC rfl rfl rfl ⟨_, _, rfl, rfl, rfl⟩ ?_))
      rw [hr, hp]
      skip
      refine ⟨by kernel_rfl, ?_⟩
      refine FW.cond rfl (fun h7 => ?_) (fun h7 => ?_)
      ·have hR2 : R = false := hnot (by
        rintro (h | h)
        ·exact h1 h
        ·have := h.2.2 m hltm
         rw [hr, hrd, show decide (r.arg = p.arg) = true from h7] at this
         cases this)
       subst hR2
       (repeat (first | refine FW.seq ?_ | refine FW.region ?_ | refine zc.nil ?_ | refine za rfl rfl rfl ?_))
       exact FW.ret ⟨.inl rfl, zy rfl rfl rfl rfl⟩
      ·(repeat (first | refine FW.region ?_ | refine FW.skip ?_ | refine zc.nil ?_ | refine za rfl rfl rfl ?_ | refine zb rfl rfl rfl ?_ | refine zu rfl rfl (by omega) rfl rfl ?_))
       exact ⟨m + 1, ⟨by omega, hst2 (by rw [hrd]; exact h7)⟩, by omega, (FLe.conv [] (by simp) (by simp) rfl (by repeat (first | exact .nil | refine .low rfl ?_ | refine .same rfl ?_ | refine .bump (Nat.lt_succ_self _) ?_)) (by repeat (first | exact .nil)) (by repeat (first | exact .nil | refine .cons (.plain rfl rfl rfl) ?_)))⟩
     ·rw [h6, Bool.false_and] at hrd
      (repeat (first | refine zI.nil ?_ | refine Za rfl rfl rfl rfl ?_ | refine ZV rfl rfl ⟨_, _, rfl, rfl, rfl⟩ ?_))
      refine ⟨by kernel_rfl, ?_⟩
      (repeat (first | refine FW.region ?_ | refine FW.skip ?_ | refine FW.condF rfl ?_ | refine zc.nil ?_ | refine za rfl rfl rfl ?_ | refine zb rfl rfl rfl ?_ | refine zu rfl rfl (by omega) rfl rfl ?_))
      exact ⟨m + 1, ⟨by omega, hst2 hrd⟩, by omega, (FLe.conv [] (by simp) (by simp) rfl (by repeat (first | exact .nil | refine .low rfl ?_ | refine .same rfl ?_ | refine .bump (Nat.lt_succ_self _) ?_)) (by repeat (first | exact .nil)) (by repeat (first | exact .nil | refine .cons (.plain rfl rfl rfl) ?_)))⟩
    ·rw [h5, Bool.false_and] at hrd
     (repeat (first | refine zI.nil ?_ | refine zM rfl rfl rfl ?_ | refine Za rfl rfl rfl rfl ?_ | refine ZV rfl rfl ⟨_, _, rfl, rfl, rfl⟩ ?_))
     refine ⟨by kernel_rfl, ?_⟩
     (repeat (first | refine FW.region ?_ | refine FW.skip ?_ | refine FW.condF rfl ?_ | refine zc.nil ?_ | refine za rfl rfl rfl ?_ | refine zb rfl rfl rfl ?_ | refine zu rfl rfl (by omega) rfl rfl ?_))
     exact ⟨m + 1, ⟨by omega, hst2 hrd⟩, by omega, (FLe.conv [] (by simp) (by simp) rfl (by repeat (first | exact .nil | refine .low rfl ?_ | refine .same rfl ?_ | refine .bump (Nat.lt_succ_self _) ?_)) (by repeat (first | exact .nil)) (by repeat (first | exact .nil | refine .cons (.plain rfl rfl rfl) ?_)))⟩
   ·obtain rfl : m = k := by simp at h4; omega
    (repeat (first | refine FW.region ?_ | refine FW.exit ?_ | refine zc.nil ?_ | refine za rfl rfl rfl ?_ | refine zb rfl rfl rfl ?_ | refine zu rfl rfl (by omega) rfl rfl ?_))
    exact ⟨m + 1, ⟨by omega, hst (.inr ⟨h2, h3, hmo⟩)⟩, by omega, (FLe.conv [] (by simp) (by simp) rfl (by repeat (first | exact .nil | refine .low rfl ?_ | refine .same rfl ?_ | refine .bump (Nat.lt_succ_self _) ?_)) (by repeat (first | exact .nil)) (by repeat (first | exact .nil | refine .cons (.plain rfl rfl rfl) ?_)))⟩
  ·have h1 : p.k = 0 := by simpa using h1
   (repeat (first | refine FW.seq ?_ | refine FW.region ?_ | refine FW.skip ?_ | refine FW.condF rfl ?_ | refine zc.nil ?_ | refine zb rfl rfl rfl ?_ | refine zw rfl rfl rfl rfl rfl rfl (by first | omega | (simp; omega)) rfl rfl ?_ | refine ya rfl rfl rfl rfl rfl rfl rfl ?_ | refine zt rfl rfl rfl (by first | omega | (simp; omega)) (by first | exact zd (by omega) | rfl) rfl rfl rfl rfl ?_ | refine zL rfl rfl rfl rfl ?_ | refine yz rfl rfl rfl rfl ?_ | refine ye rfl rfl ⟨_, _, rfl, rfl, rfl⟩ ?_))
   rw [hp]
   skip
   refine FW.condT (congrArg FV.bool (decide_eq_true h1)) ?_
   (repeat (first | refine FW.region ?_ | refine FW.exit ?_ | refine zc.nil ?_ | refine za rfl rfl rfl ?_ | refine zb rfl rfl rfl ?_ | refine zu rfl rfl (by omega) rfl rfl ?_))
   exact ⟨k + 1, ⟨by omega, hst (.inl h1)⟩, by omega, (FLe.conv [] (by simp) (by simp) rfl (by repeat (first | exact .nil | refine .low rfl ?_ | refine .same rfl ?_ | refine .bump (Nat.lt_succ_self _) ?_)) (by repeat (first | exact .nil)) (by repeat (first | exact .nil | refine .cons (.plain rfl rfl rfl) ?_)))⟩
 ·obtain rfl : k = l.length := by simp at h; omega
  have hR2 : R = true := hyes hno
  subst hR2
  (repeat (first | refine FW.seq ?_ | refine FW.region ?_ | refine FW.exit ?_ | refine zc.nil ?_ | refine za rfl rfl rfl ?_))
  exact FW.ret ⟨.inl rfl, zy rfl rfl rfl rfl⟩
end Go.Proofs.Ytbeebjdnapkhhaa
