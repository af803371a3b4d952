/-
  The reference of layer 21 at plain values: Goes, Zones, Key, Class.
-/
import Derived.Test.YtbeebjdnapkhhaaZFmRf2
namespace Go.Proofs.Ytbeebjdnapkhhaa
set_option linter.unusedVariables false
open Go.RowKit

theorem Xf {n k : Nat} {p : Nat → Bool} (h : ∀ j, j < k → p j = false) (hk : p k = false) : ∀ j, j < k + 1 → p j = false := fun j hj => by
 by_cases e : j = k
 ·rw [e]; exact hk
 ·exact h j (by omega)
theorem Xm {n : Nat} {p : Nat → Bool} (h : ∀ j, j < n → p j = false) : (List.range n).any p = false := by
 rw [List.any_eq_false]
 intro j hj
 rw [h j (List.mem_range.1 hj)]; decide
theorem Xn {n k : Nat} {p : Nat → Bool} (hk : k < n) (h : p k = true) : (List.range n).any p = true := List.any_eq_true.2 ⟨k, List.mem_range.2 hk, h⟩
set_option maxHeartbeats 8000000 in
theorem zfs (l : List OpV) (c v u : Int) (hl : l.length ≤ 1000000) : yd Try.prog 74 [.list 8 (l.map OpV.fv), .int .i64 c, .int .i64 v, .int .i64 u] .fr (.bool (WJ l c v u)) := by
 have hR : WJ l c v u = (List.range l.length).any fun i => (List.range l.length).any fun k => zds l c v u i k := rfl
 obtain ⟨R, hRe⟩ : ∃ R, WJ l c v u = R := ⟨_, rfl⟩
 rw [hRe] at hR ⊢
 refine yd.of_body (c := (xW Try.prog zJ zy 73)) ⟨Try.func74, rfl, Try.ntmps74, by kernel_rfl⟩ (by simp [FV.hand]) (by exact Nat.le_of_ble_eq_true rfl) rfl ?_
 change FW _ _ _ ⟨[(0, .list 8 (l.map OpV.fv)), (1, .int .i64 c), (2, .int .i64 v), (3, .int .i64 u)], []⟩
 (repeat (first | refine FW.seq ?_ | refine FW.region ?_ | refine FW.block ?_ | refine zd.nil ?_ | refine za rfl rfl rfl ?_))
 refine FW.loop (fun i : Nat => ⟨[(0, .list 8 (l.map OpV.fv)), (1, .int .i64 c), (2, .int .i64 v), (3, .int .i64 u), (9, .int .i64 i)], []⟩) (fun i => i ≤ l.length ∧ ∀ j, j < i → (List.range l.length).any (zds l c v u j) = false) (fun i => l.length - i) 0 ⟨Nat.zero_le _, fun j hj => by omega⟩ ?_ ?_
 ·exact (FLe.conv [] (by simp) (by simp) rfl (by repeat (first | exact .nil)) (by repeat (first | exact .nil)) (by repeat (first | exact .nil | refine .cons (.plain rfl rfl rfl) ?_)))
 rintro i ⟨hi, hno⟩
 (repeat (first | refine FW.seq ?_ | refine FW.region ?_ | refine zd.nil ?_ | refine zb rfl rfl rfl ?_ | refine zt rfl rfl (by exact List.length_map _) rfl rfl ?_ | refine zN rfl rfl rfl rfl ?_))
 refine FW.cond rfl (fun h => ?_) (fun h => ?_)
 ·have hlt : i < l.length := by simpa using h
  clear h
  have his := xT l i hl hlt
  obtain ⟨o, ho⟩ : ∃ o, nth l i = o := ⟨_, rfl⟩
  have hvo := UR o
  (repeat (first | refine FW.seq ?_ | refine FW.region ?_ | refine FW.block ?_ | refine FW.skip ?_ | refine zd.nil ?_ | refine za rfl rfl rfl ?_))
  refine FW.loop (fun k : Nat => ⟨[(0, .list 8 (l.map OpV.fv)), (1, .int .i64 c), (2, .int .i64 v), (3, .int .i64 u), (9, .int .i64 i), (10, .int .i64 k)], []⟩) (fun k => k ≤ l.length ∧ ∀ j, j < k → zds l c v u i j = false) (fun k => l.length - k) 0 ⟨Nat.zero_le _, fun j hj => by omega⟩ ?_ ?_
  ·exact (FLe.conv [] (by simp) (by simp) rfl (by repeat (first | exact .nil)) (by repeat (first | exact .nil)) (by repeat (first | exact .nil | refine .cons (.plain rfl rfl rfl) ?_)))
  rintro k ⟨hk, hko⟩
  (repeat (first | refine FW.seq ?_ | refine FW.region ?_ | refine zd.nil ?_ | refine zb rfl rfl rfl ?_ | refine zt rfl rfl (by exact List.length_map _) rfl rfl ?_ | refine zN rfl rfl rfl rfl ?_))
  refine FW.cond rfl (fun h => ?_) (fun h => ?_)
  ·have hltk : k < l.length := by simpa using h
   clear h
   have hks := xT l k hl hltk
   have hbs := Vl l i k hlt hltk
   have hg : zds l c v u i k = (decide ((nth l i).key = c) && (decide ((nth l k).key = c) && (decide (XV (nth l i) = v) && (decide (XV (nth l k) = u) && (yj l i && (yj l k && bef l i k)))))) := rfl
   have hst := Xf (n := l.length) hko
   have hyes : zds l c v u i k = true → R = true := fun h => by rw [hR]; exact Xn hlt (Xn hltk h)
   obtain ⟨p, hp⟩ : ∃ p, nth l k = p := ⟨_, rfl⟩
   have hvp := UR p
   rw [ho, hp] at hg
   (repeat (first | refine FW.seq ?_ | refine FW.region ?_ | refine FW.block ?_ | refine FW.skip ?_ | refine zb rfl rfl rfl ?_ | refine zj rfl rfl rfl rfl rfl rfl (by simp; omega) rfl rfl ?_ | refine zI rfl rfl rfl rfl rfl rfl rfl ?_ | refine zq rfl rfl rfl (by simp; omega) (by first | exact zc (by omega) | rfl) rfl rfl rfl rfl ?_ | refine zV rfl rfl rfl rfl ?_))
   rw [ho]
   refine yb (fun h1 => ?_) (fun h1 => ?_)
   ·rw [h1, Bool.true_and] at hg
    (repeat (first | refine zb rfl rfl rfl ?_ | refine zC rfl rfl rfl rfl ?_ | refine zb rfl rfl ⟨_, _, rfl, rfl, rfl⟩ ?_ | refine zj rfl rfl rfl rfl rfl rfl (by simp; omega) rfl ⟨_, _, rfl, rfl, rfl⟩ ?_ | refine zI rfl rfl rfl rfl rfl rfl ⟨_, _, rfl, rfl, rfl⟩ ?_ | refine zq rfl rfl rfl (by simp; omega) (by first | exact zc (by omega) | rfl) rfl rfl rfl ⟨_, _, rfl, rfl, rfl⟩ ?_ | refine zV rfl rfl rfl ⟨_, _, rfl, rfl, rfl⟩ ?_))
    rw [hp]
    refine yb (fun h2 => ?_) (fun h2 => ?_)
    ·rw [h2, Bool.true_and] at hg
     (repeat (first | refine zb rfl rfl ⟨_, _, rfl, rfl, rfl⟩ ?_ | refine zj rfl rfl rfl rfl rfl rfl (by simp; omega) rfl ⟨_, _, rfl, rfl, rfl⟩ ?_ | refine yE rfl rfl rfl (by decide) (by simp; omega) (by first | exact zc (by omega) | rfl) rfl rfl ⟨_, _, rfl, rfl, rfl⟩ ?_))
     rw [ho]
     refine zD hvo (by repeat (first | exact zg.nil | refine zg.cons (by exact yc.plain rfl rfl) ?_)) rfl ⟨_, _, rfl, rfl, rfl⟩ ?_
     (repeat (first | refine zb rfl rfl rfl ?_ | refine zC rfl rfl rfl rfl ?_ | refine zb rfl rfl ⟨_, _, rfl, rfl, rfl⟩ ?_ | refine zV rfl rfl rfl ⟨_, _, rfl, rfl, rfl⟩ ?_))
     refine yb (fun h3 => ?_) (fun h3 => ?_)
     ·rw [h3, Bool.true_and] at hg
      (repeat (first | refine zb rfl rfl ⟨_, _, rfl, rfl, rfl⟩ ?_ | refine zj rfl rfl rfl rfl rfl rfl (by simp; omega) rfl ⟨_, _, rfl, rfl, rfl⟩ ?_ | refine yE rfl rfl rfl (by decide) (by simp; omega) (by first | exact zc (by omega) | rfl) rfl rfl ⟨_, _, rfl, rfl, rfl⟩ ?_))
      rw [hp]
      refine zD hvp (by repeat (first | exact zg.nil | refine zg.cons (by exact yc.plain rfl rfl) ?_)) rfl ⟨_, _, rfl, rfl, rfl⟩ ?_
      (repeat (first | refine zb rfl rfl rfl ?_ | refine zC rfl rfl rfl rfl ?_ | refine zb rfl rfl ⟨_, _, rfl, rfl, rfl⟩ ?_ | refine zV rfl rfl rfl ⟨_, _, rfl, rfl, rfl⟩ ?_))
      refine yb (fun h4 => ?_) (fun h4 => ?_)
      ·rw [h4, Bool.true_and] at hg
       (repeat (first | refine zb rfl rfl ⟨_, _, rfl, rfl, rfl⟩ ?_))
       refine zD his (by repeat (first | exact zg.nil | refine zg.cons (by exact yc.plain rfl rfl) ?_)) rfl ⟨_, _, rfl, rfl, rfl⟩ ?_
       (repeat (first | refine zb rfl rfl rfl ?_ | refine zC rfl rfl rfl rfl ?_))
       refine yb (fun h5 => ?_) (fun h5 => ?_)
       ·rw [h5, Bool.true_and] at hg
        (repeat (first | refine zb rfl rfl ⟨_, _, rfl, rfl, rfl⟩ ?_))
        refine zD hks (by repeat (first | exact zg.nil | refine zg.cons (by exact yc.plain rfl rfl) ?_)) rfl ⟨_, _, rfl, rfl, rfl⟩ ?_
        (repeat (first | refine zb rfl rfl rfl ?_ | refine zC rfl rfl rfl rfl ?_))
        refine yb (fun h6 => ?_) (fun h6 => ?_)
        ·rw [h6, Bool.true_and] at hg
         (repeat (first | refine zb rfl rfl ⟨_, _, rfl, rfl, rfl⟩ ?_))
         refine zD hbs (by repeat (first | exact zg.nil | refine zg.cons (by exact yc.plain rfl rfl) ?_)) rfl ⟨_, _, rfl, rfl, rfl⟩ ?_
         (repeat (first | refine zd.nil ?_ | refine zC rfl rfl rfl rfl ?_))
         refine FW.cond rfl (fun h7 => ?_) (fun h7 => ?_)
         ·have hR2 : R = true := hyes (by rw [hg]; exact h7)
          subst hR2
          (repeat (first | refine FW.seq ?_ | refine FW.region ?_ | refine zd.nil ?_ | refine za rfl rfl rfl ?_))
          exact FW.ret ⟨.inl rfl, zA rfl rfl rfl rfl⟩
         ·(repeat (first | refine FW.region ?_ | refine FW.skip ?_ | refine zd.nil ?_ | refine za rfl rfl rfl ?_ | refine zb rfl rfl rfl ?_ | refine zh rfl rfl (by omega) rfl rfl ?_))
          exact ⟨k + 1, ⟨by omega, hst (by rw [hg]; exact h7)⟩, by omega, (FLe.conv [] (by simp) (by simp) rfl (by repeat (first | exact .nil)) (by repeat (first | exact .nil)) (by repeat (first | exact .nil | refine .cons (.plain rfl rfl rfl) ?_)))⟩
        ·rw [h6, Bool.false_and] at hg
         (repeat (first | refine FW.region ?_ | refine FW.skip ?_ | refine FW.condF rfl ?_ | refine zd.nil ?_ | refine za rfl rfl rfl ?_ | refine zb rfl rfl rfl ?_ | refine zH rfl rfl rfl rfl ?_ | refine zh rfl rfl (by omega) rfl rfl ?_ | refine zS rfl rfl ⟨_, _, rfl, rfl, rfl⟩ ?_))
         exact ⟨k + 1, ⟨by omega, hst hg⟩, by omega, (FLe.conv [] (by simp) (by simp) rfl (by repeat (first | exact .nil)) (by repeat (first | exact .nil)) (by repeat (first | exact .nil | refine .cons (.plain rfl rfl rfl) ?_)))⟩
       ·rw [h5, Bool.false_and] at hg
        (repeat (first | refine FW.region ?_ | refine FW.skip ?_ | refine FW.condF rfl ?_ | refine zd.nil ?_ | refine za rfl rfl rfl ?_ | refine zb rfl rfl rfl ?_ | refine zH rfl rfl rfl rfl ?_ | refine zh rfl rfl (by omega) rfl rfl ?_ | refine zS rfl rfl ⟨_, _, rfl, rfl, rfl⟩ ?_))
        exact ⟨k + 1, ⟨by omega, hst hg⟩, by omega, (FLe.conv [] (by simp) (by simp) rfl (by repeat (first | exact .nil)) (by repeat (first | exact .nil)) (by repeat (first | exact .nil | refine .cons (.plain rfl rfl rfl) ?_)))⟩
      ·rw [h4, Bool.false_and] at hg
       (repeat (first | refine FW.region ?_ | refine FW.skip ?_ | refine FW.condF rfl ?_ | refine zd.nil ?_ | refine za rfl rfl rfl ?_ | refine zb rfl rfl rfl ?_ | refine zH rfl rfl rfl rfl ?_ | refine zh rfl rfl (by omega) rfl rfl ?_ | refine zS rfl rfl ⟨_, _, rfl, rfl, rfl⟩ ?_))
       exact ⟨k + 1, ⟨by omega, hst hg⟩, by omega, (FLe.conv [] (by simp) (by simp) rfl (by repeat (first | exact .nil)) (by repeat (first | exact .nil)) (by repeat (first | exact .nil | refine .cons (.plain rfl rfl rfl) ?_)))⟩
     ·rw [h3, Bool.false_and] at hg
      (repeat (first | refine FW.region ?_ | refine FW.skip ?_ | refine FW.condF rfl ?_ | refine zd.nil ?_ | refine za rfl rfl rfl ?_ | refine zb rfl rfl rfl ?_ | refine zH rfl rfl rfl rfl ?_ | refine zh rfl rfl (by omega) rfl rfl ?_ | refine zS rfl rfl ⟨_, _, rfl, rfl, rfl⟩ ?_))
      exact ⟨k + 1, ⟨by omega, hst hg⟩, by omega, (FLe.conv [] (by simp) (by simp) rfl (by repeat (first | exact .nil)) (by repeat (first | exact .nil)) (by repeat (first | exact .nil | refine .cons (.plain rfl rfl rfl) ?_)))⟩
    ·rw [h2, Bool.false_and] at hg
     (repeat (first | refine FW.region ?_ | refine FW.skip ?_ | refine FW.condF rfl ?_ | refine zd.nil ?_ | refine za rfl rfl rfl ?_ | refine zb rfl rfl rfl ?_ | refine zH rfl rfl rfl rfl ?_ | refine zh rfl rfl (by omega) rfl rfl ?_ | refine zS rfl rfl ⟨_, _, rfl, rfl, rfl⟩ ?_))
     exact ⟨k + 1, ⟨by omega, hst hg⟩, by omega, (FLe.conv [] (by simp) (by simp) rfl (by repeat (first | exact .nil)) (by repeat (first | exact .nil)) (by repeat (first | exact .nil | refine .cons (.plain rfl rfl rfl) ?_)))⟩
   ·rw [h1, Bool.false_and] at hg
    (repeat (first | refine FW.region ?_ | refine FW.skip ?_ | refine FW.condF rfl ?_ | refine zd.nil ?_ | refine za rfl rfl rfl ?_ | refine zb rfl rfl rfl ?_ | refine zH rfl rfl rfl rfl ?_ | refine zh rfl rfl (by omega) rfl rfl ?_ | refine zS rfl rfl ⟨_, _, rfl, rfl, rfl⟩ ?_))
    exact ⟨k + 1, ⟨by omega, hst hg⟩, by omega, (FLe.conv [] (by simp) (by simp) rfl (by repeat (first | exact .nil)) (by repeat (first | exact .nil)) (by repeat (first | exact .nil | refine .cons (.plain rfl rfl rfl) ?_)))⟩
  ·obtain rfl : k = l.length := by simp at h; omega
   (repeat (first | refine FW.region ?_ | refine FW.exit ?_ | refine zd.nil ?_ | refine za rfl rfl rfl ?_ | refine zb rfl rfl rfl ?_ | refine zh rfl rfl (by omega) rfl rfl ?_))
   exact ⟨i + 1, ⟨by omega, Xf (n := l.length) hno (Xm hko)⟩, by omega, (FLe.conv [] (by simp) (by simp) rfl (by repeat (first | exact .nil)) (by repeat (first | exact .nil)) (by repeat (first | exact .nil | refine .cons (.plain rfl rfl rfl) ?_)))⟩
 ·obtain rfl : i = l.length := by simp at h; omega
  have hR2 : R = false := by rw [hR]; exact Xm hno
  subst hR2
  (repeat (first | refine FW.seq ?_ | refine FW.region ?_ | refine FW.exit ?_ | refine zd.nil ?_ | refine za rfl rfl rfl ?_))
  exact FW.ret ⟨.inl rfl, zA rfl rfl rfl rfl⟩
set_option maxHeartbeats 8000000 in
theorem zdM (l : List OpV) (c : Int) (hl : l.length ≤ 1000000) : yd Try.prog 63 [.list 8 (l.map OpV.fv), .int .i64 c] .fr (.bool (Xe l c)) := by
 have hR : Xe l c = (List.range l.length).any (zjX l c) := rfl
 have hgs := fun v u => zfs l c v u hl
 obtain ⟨R, hRe⟩ : ∃ R, Xe l c = R := ⟨_, rfl⟩
 rw [hRe] at hR ⊢
 refine yd.of_body (c := (xW Try.prog zJ zy 97)) ⟨Try.func63, rfl, Try.ntmps63, by kernel_rfl⟩ (by simp [FV.hand]) (by exact Nat.le_of_ble_eq_true rfl) rfl ?_
 change FW _ _ _ ⟨[(0, .list 8 (l.map OpV.fv)), (1, .int .i64 c)], []⟩
 (repeat (first | refine FW.seq ?_ | refine FW.region ?_ | refine FW.block ?_ | refine zd.nil ?_ | refine za rfl rfl rfl ?_))
 refine FW.loop (fun i : Nat => ⟨[(0, .list 8 (l.map OpV.fv)), (1, .int .i64 c), (5, .int .i64 i)], []⟩) (fun i => i ≤ l.length ∧ ∀ j, j < i → zjX l c j = false) (fun i => l.length - i) 0 ⟨Nat.zero_le _, fun j hj => by omega⟩ ?_ ?_
 ·exact (FLe.conv [] (by simp) (by simp) rfl (by repeat (first | exact .nil)) (by repeat (first | exact .nil)) (by repeat (first | exact .nil | refine .cons (.plain rfl rfl rfl) ?_)))
 rintro i ⟨hi, hno⟩
 (repeat (first | refine FW.seq ?_ | refine FW.region ?_ | refine zd.nil ?_ | refine zb rfl rfl rfl ?_ | refine zt rfl rfl (by exact List.length_map _) rfl rfl ?_ | refine zN rfl rfl rfl rfl ?_))
 refine FW.cond rfl (fun h => ?_) (fun h => ?_)
 ·have hlt : i < l.length := by simpa using h
  clear h
  have his := xT l i hl hlt
  have hz : zjX l c i = ((decide ((nth l i).key = c) && (decide ((nth l i).k = 1) && yj l i)) && (WJ l c (nth l i).arg 0 || (List.range i).any (zjY l c i))) := rfl
  have hst := Xf (n := l.length) hno
  have hyes : zjX l c i = true → R = true := fun h => by rw [hR]; exact Xn hlt h
  obtain ⟨o, ho⟩ : ∃ o, nth l i = o := ⟨_, rfl⟩
  rw [ho] at hz
  (repeat (first | refine FW.seq ?_ | refine FW.region ?_ | refine FW.block ?_ | refine FW.skip ?_ | refine zb rfl rfl rfl ?_ | refine zj rfl rfl rfl rfl rfl rfl (by simp; omega) rfl rfl ?_ | refine zI rfl rfl rfl rfl rfl rfl rfl ?_ | refine zq rfl rfl rfl (by simp; omega) (by first | exact zc (by omega) | rfl) rfl rfl rfl rfl ?_ | refine yX rfl rfl rfl rfl ?_))
  rw [ho]
  refine yb (fun h1 => ?_) (fun h1 => ?_)
  ·have h1' : ¬ o.key = c := by simpa using h1
   rw [decide_eq_false h1', Bool.false_and, Bool.false_and] at hz
   (repeat (first | refine FW.region ?_ | refine FW.exit ?_ | refine FW.condT rfl ?_ | refine zd.nil ?_ | refine za rfl rfl rfl ?_ | refine zb rfl rfl rfl ?_ | refine zC rfl rfl rfl rfl ?_ | refine zh rfl rfl (by omega) rfl rfl ?_ | refine zS rfl rfl ⟨_, _, rfl, rfl, rfl⟩ ?_))
   exact ⟨i + 1, ⟨by omega, hst hz⟩, by omega, (FLe.conv [] (by simp) (by simp) rfl (by repeat (first | exact .nil)) (by repeat (first | exact .nil)) (by repeat (first | exact .nil | refine .cons (.plain rfl rfl rfl) ?_)))⟩
  have h1' : o.key = c := by simpa using h1
  rw [decide_eq_true h1', Bool.true_and] at hz
  (repeat (first | refine zb rfl rfl rfl ?_ | refine zH rfl rfl rfl rfl ?_ | refine zb rfl rfl ⟨_, _, rfl, rfl, rfl⟩ ?_ | refine zj rfl rfl rfl rfl rfl rfl (by simp; omega) rfl ⟨_, _, rfl, rfl, rfl⟩ ?_ | refine zI rfl rfl rfl rfl rfl rfl ⟨_, _, rfl, rfl, rfl⟩ ?_ | refine zq rfl rfl rfl (by simp; omega) (by first | exact zc (by omega) | rfl) rfl rfl rfl ⟨_, _, rfl, rfl, rfl⟩ ?_ | refine yX rfl rfl rfl ⟨_, _, rfl, rfl, rfl⟩ ?_))
  rw [ho]
  refine yb (fun h2 => ?_) (fun h2 => ?_)
  ·have h2' : ¬ o.k = 1 := by simpa using h2
   rw [decide_eq_false h2', Bool.false_and, Bool.false_and] at hz
   (repeat (first | refine FW.region ?_ | refine FW.exit ?_ | refine FW.condT rfl ?_ | refine zd.nil ?_ | refine za rfl rfl rfl ?_ | refine zb rfl rfl rfl ?_ | refine zC rfl rfl rfl rfl ?_ | refine zh rfl rfl (by omega) rfl rfl ?_ | refine zS rfl rfl ⟨_, _, rfl, rfl, rfl⟩ ?_))
   exact ⟨i + 1, ⟨by omega, hst hz⟩, by omega, (FLe.conv [] (by simp) (by simp) rfl (by repeat (first | exact .nil)) (by repeat (first | exact .nil)) (by repeat (first | exact .nil | refine .cons (.plain rfl rfl rfl) ?_)))⟩
  have h2' : o.k = 1 := by simpa using h2
  rw [decide_eq_true h2', Bool.true_and] at hz
  (repeat (first | refine zb rfl rfl ⟨_, _, rfl, rfl, rfl⟩ ?_))
  refine zD his (by repeat (first | exact zg.nil | refine zg.cons (by exact yc.plain rfl rfl) ?_)) rfl ⟨_, _, rfl, rfl, rfl⟩ ?_
  cases h3 : yj l i with
  | false =>
   rw [h3, Bool.false_and] at hz
   (repeat (first | refine FW.region ?_ | refine FW.exit ?_ | refine FW.condT rfl ?_ | refine zd.nil ?_ | refine za rfl rfl rfl ?_ | refine zb rfl rfl rfl ?_ | refine zH rfl rfl rfl rfl ?_ | refine zh rfl rfl (by omega) rfl rfl ?_ | refine xn rfl rfl ⟨_, _, rfl, rfl, rfl⟩ ?_))
   exact ⟨i + 1, ⟨by omega, hst hz⟩, by omega, (FLe.conv [] (by simp) (by simp) rfl (by repeat (first | exact .nil)) (by repeat (first | exact .nil)) (by repeat (first | exact .nil | refine .cons (.plain rfl rfl rfl) ?_)))⟩
  | true =>
  rw [h3, Bool.true_and] at hz
  (repeat (first | refine FW.seq ?_ | refine FW.region ?_ | refine FW.skip ?_ | refine FW.condF rfl ?_ | refine zd.nil ?_ | refine zb rfl rfl rfl ?_ | refine zj rfl rfl rfl rfl rfl rfl (by simp; omega) rfl rfl ?_ | refine zI rfl rfl rfl rfl rfl rfl rfl ?_ | refine zq rfl rfl rfl (by simp; omega) (by first | exact zc (by omega) | rfl) rfl rfl rfl rfl ?_ | refine zH rfl rfl rfl rfl ?_ | refine xn rfl rfl ⟨_, _, rfl, rfl, rfl⟩ ?_))
  rw [ho]
  skip
  refine zD (hgs o.arg 0) (by repeat (first | exact zg.nil | refine zg.cons (by exact yc.plain rfl rfl) ?_)) rfl rfl ?_
  (repeat (first | refine zd.nil ?_))
  refine FW.cond rfl (fun h4 => ?_) (fun h4 => ?_)
  ·have hR2 : R = true := hyes (by rw [hz, show WJ l c o.arg 0 = true from h4]; rfl)
   subst hR2
   (repeat (first | refine FW.seq ?_ | refine FW.region ?_ | refine zd.nil ?_ | refine za rfl rfl rfl ?_))
   exact FW.ret ⟨.inl rfl, zA rfl rfl rfl rfl⟩
  rw [show WJ l c o.arg 0 = false from h4, Bool.false_or] at hz
  (repeat (first | refine FW.seq ?_ | refine FW.region ?_ | refine FW.block ?_ | refine FW.skip ?_ | refine zd.nil ?_ | refine za rfl rfl rfl ?_))
  refine FW.loop (fun k : Nat => ⟨[(0, .list 8 (l.map OpV.fv)), (1, .int .i64 c), (5, .int .i64 i), (6, .int .i64 k)], []⟩) (fun k => k ≤ i ∧ ∀ j, j < k → zjY l c i j = false) (fun k => i - k) 0 ⟨Nat.zero_le _, fun j hj => by omega⟩ ?_ ?_
  ·exact (FLe.conv [] (by simp) (by simp) rfl (by repeat (first | exact .nil)) (by repeat (first | exact .nil)) (by repeat (first | exact .nil | refine .cons (.plain rfl rfl rfl) ?_)))
  rintro k ⟨hk, hko⟩
  (repeat (first | refine FW.seq ?_ | refine FW.region ?_ | refine zd.nil ?_ | refine zb rfl rfl rfl ?_ | refine zN rfl rfl rfl rfl ?_))
  refine FW.cond rfl (fun h => ?_) (fun h => ?_)
  ·have hltk : k < i := by simpa using h
   clear h
   have hks := xT l k hl (by omega)
   have hg : zjY l c i k = (decide ((nth l k).key = c) && (decide ((nth l k).k = 1) && (yj l k && (WJ l c (nth l i).arg (nth l k).arg && WJ l c (nth l k).arg (nth l i).arg)))) := rfl
   have hst2 := Xf (n := l.length) hko
   have hyes2 : zjY l c i k = true → R = true := fun h => hyes (by rw [hz]; exact Xn hltk h)
   obtain ⟨p, hp⟩ : ∃ p, nth l k = p := ⟨_, rfl⟩
   rw [ho, hp] at hg
   have hkl : k < l.length := by omega
   (repeat (first | refine FW.seq ?_ | refine FW.block ?_ | refine FW.skip ?_))
   refine FW.drawQ (by kernel_rfl) ?_
   (repeat (first | refine zF rfl rfl rfl ?_ | refine zP rfl rfl rfl rfl rfl rfl (by simp; omega) rfl rfl ?_ | refine zU rfl rfl rfl rfl rfl rfl rfl ?_ | refine zQ rfl rfl rfl (by simp; omega) (by first | exact zc (by omega) | rfl) rfl rfl rfl rfl ?_ | refine XE rfl rfl rfl rfl ?_))
   rw [hp]
   refine xw (fun h5 => ?_) (fun h5 => ?_)
   ·rw [h5, Bool.true_and] at hg
    (repeat (first | refine zF rfl rfl rfl ?_ | refine yB rfl rfl rfl rfl ?_ | refine zF rfl rfl ⟨_, _, rfl, rfl, rfl⟩ ?_ | refine zP rfl rfl rfl rfl rfl rfl (by simp; omega) rfl ⟨_, _, rfl, rfl, rfl⟩ ?_ | refine zU rfl rfl rfl rfl rfl rfl ⟨_, _, rfl, rfl, rfl⟩ ?_ | refine zQ rfl rfl rfl (by simp; omega) (by first | exact zc (by omega) | rfl) rfl rfl rfl ⟨_, _, rfl, rfl, rfl⟩ ?_ | refine XE rfl rfl rfl ⟨_, _, rfl, rfl, rfl⟩ ?_))
    rw [hp]
    refine xw (fun h6 => ?_) (fun h6 => ?_)
    ·rw [h6, Bool.true_and] at hg
     (repeat (first | refine zF rfl rfl ⟨_, _, rfl, rfl, rfl⟩ ?_))
     refine WW hks (by repeat (first | exact zg.nil | refine zg.cons (by exact yc.plain rfl rfl) ?_)) rfl ⟨_, _, rfl, rfl, rfl⟩ ?_
     (repeat (first | refine zF rfl rfl rfl ?_ | refine yB rfl rfl rfl rfl ?_))
     refine xw (fun h7 => ?_) (fun h7 => ?_)
     ·rw [h7, Bool.true_and] at hg
      (repeat (first | refine zF rfl rfl ⟨_, _, rfl, rfl, rfl⟩ ?_ | refine zP rfl rfl rfl rfl rfl rfl (by simp; omega) rfl ⟨_, _, rfl, rfl, rfl⟩ ?_ | refine zU rfl rfl rfl rfl rfl rfl ⟨_, _, rfl, rfl, rfl⟩ ?_ | refine zQ rfl rfl rfl (by simp; omega) (by first | exact zc (by omega) | rfl) rfl rfl rfl ⟨_, _, rfl, rfl, rfl⟩ ?_))
      rw [ho]
      skip
      rw [hp]
      refine WW (hgs o.arg p.arg) (by repeat (first | exact zg.nil | refine zg.cons (by exact yc.plain rfl rfl) ?_)) rfl ⟨_, _, rfl, rfl, rfl⟩ ?_
      (repeat (first | refine zF rfl rfl rfl ?_ | refine yB rfl rfl rfl rfl ?_))
      refine xw (fun h8 => ?_) (fun h8 => ?_)
      ·rw [h8, Bool.true_and] at hg
       (repeat (first | refine zF rfl rfl ⟨_, _, rfl, rfl, rfl⟩ ?_ | refine zP rfl rfl rfl rfl rfl rfl (by simp; omega) rfl ⟨_, _, rfl, rfl, rfl⟩ ?_ | refine zU rfl rfl rfl rfl rfl rfl ⟨_, _, rfl, rfl, rfl⟩ ?_ | refine zQ rfl rfl rfl (by simp; omega) (by first | exact zc (by omega) | rfl) rfl rfl rfl ⟨_, _, rfl, rfl, rfl⟩ ?_))
       rw [hp]
       skip
       rw [ho]
       refine WW (hgs p.arg o.arg) (by repeat (first | exact zg.nil | refine zg.cons (by exact yc.plain rfl rfl) ?_)) rfl ⟨_, _, rfl, rfl, rfl⟩ ?_
       (repeat (first | refine zM.nil ?_ | refine yB rfl rfl rfl rfl ?_))
       refine ⟨by kernel_rfl, ?_⟩
       refine FW.cond rfl (fun h9 => ?_) (fun h9 => ?_)
       ·have hR2 : R = true := hyes2 (by rw [hg]; exact h9)
        subst hR2
        (repeat (first | refine FW.seq ?_ | refine FW.region ?_ | refine zd.nil ?_ | refine za rfl rfl rfl ?_))
        exact FW.ret ⟨.inl rfl, zA rfl rfl rfl rfl⟩
       ·(repeat (first | refine FW.region ?_ | refine FW.skip ?_ | refine zd.nil ?_ | refine za rfl rfl rfl ?_ | refine zb rfl rfl rfl ?_ | refine zh rfl rfl (by omega) rfl rfl ?_))
        exact ⟨k + 1, ⟨by omega, hst2 (by rw [hg]; exact h9)⟩, by omega, (FLe.conv [] (by simp) (by simp) rfl (by repeat (first | exact .nil)) (by repeat (first | exact .nil)) (by repeat (first | exact .nil | refine .cons (.plain rfl rfl rfl) ?_)))⟩
      ·rw [h8, Bool.false_and] at hg
       (repeat (first | refine zM.nil ?_ | refine yA rfl rfl rfl rfl ?_ | refine xc rfl rfl ⟨_, _, rfl, rfl, rfl⟩ ?_))
       refine ⟨by kernel_rfl, ?_⟩
       (repeat (first | refine FW.region ?_ | refine FW.skip ?_ | refine FW.condF rfl ?_ | refine zd.nil ?_ | refine za rfl rfl rfl ?_ | refine zb rfl rfl rfl ?_ | refine zh rfl rfl (by omega) rfl rfl ?_))
       exact ⟨k + 1, ⟨by omega, hst2 hg⟩, by omega, (FLe.conv [] (by simp) (by simp) rfl (by repeat (first | exact .nil)) (by repeat (first | exact .nil)) (by repeat (first | exact .nil | refine .cons (.plain rfl rfl rfl) ?_)))⟩
     ·rw [h7, Bool.false_and] at hg
      (repeat (first | refine zM.nil ?_ | refine zF rfl rfl rfl ?_ | refine yA rfl rfl rfl rfl ?_ | refine xc rfl rfl ⟨_, _, rfl, rfl, rfl⟩ ?_))
      refine ⟨by kernel_rfl, ?_⟩
      (repeat (first | refine FW.region ?_ | refine FW.skip ?_ | refine FW.condF rfl ?_ | refine zd.nil ?_ | refine za rfl rfl rfl ?_ | refine zb rfl rfl rfl ?_ | refine zh rfl rfl (by omega) rfl rfl ?_))
      exact ⟨k + 1, ⟨by omega, hst2 hg⟩, by omega, (FLe.conv [] (by simp) (by simp) rfl (by repeat (first | exact .nil)) (by repeat (first | exact .nil)) (by repeat (first | exact .nil | refine .cons (.plain rfl rfl rfl) ?_)))⟩
    ·rw [h6, Bool.false_and] at hg
     (repeat (first | refine zM.nil ?_ | refine zF rfl rfl rfl ?_ | refine yA rfl rfl rfl rfl ?_ | refine xc rfl rfl ⟨_, _, rfl, rfl, rfl⟩ ?_))
     refine ⟨by kernel_rfl, ?_⟩
     (repeat (first | refine FW.region ?_ | refine FW.skip ?_ | refine FW.condF rfl ?_ | refine zd.nil ?_ | refine za rfl rfl rfl ?_ | refine zb rfl rfl rfl ?_ | refine zh rfl rfl (by omega) rfl rfl ?_))
     exact ⟨k + 1, ⟨by omega, hst2 hg⟩, by omega, (FLe.conv [] (by simp) (by simp) rfl (by repeat (first | exact .nil)) (by repeat (first | exact .nil)) (by repeat (first | exact .nil | refine .cons (.plain rfl rfl rfl) ?_)))⟩
   ·rw [h5, Bool.false_and] at hg
    (repeat (first | refine zM.nil ?_ | refine zF rfl rfl rfl ?_ | refine yA rfl rfl rfl rfl ?_ | refine xc rfl rfl ⟨_, _, rfl, rfl, rfl⟩ ?_))
    refine ⟨by kernel_rfl, ?_⟩
    (repeat (first | refine FW.region ?_ | refine FW.skip ?_ | refine FW.condF rfl ?_ | refine zd.nil ?_ | refine za rfl rfl rfl ?_ | refine zb rfl rfl rfl ?_ | refine zh rfl rfl (by omega) rfl rfl ?_))
    exact ⟨k + 1, ⟨by omega, hst2 hg⟩, by omega, (FLe.conv [] (by simp) (by simp) rfl (by repeat (first | exact .nil)) (by repeat (first | exact .nil)) (by repeat (first | exact .nil | refine .cons (.plain rfl rfl rfl) ?_)))⟩
  ·obtain rfl : k = i := by simp at h; omega
   (repeat (first | refine FW.region ?_ | refine FW.exit ?_ | refine zd.nil ?_ | refine za rfl rfl rfl ?_ | refine zb rfl rfl rfl ?_ | refine zh rfl rfl (by omega) rfl rfl ?_))
   exact ⟨k + 1, ⟨by omega, hst (by rw [hz]; exact Xm hko)⟩, by omega, (FLe.conv [] (by simp) (by simp) rfl (by repeat (first | exact .nil)) (by repeat (first | exact .nil)) (by repeat (first | exact .nil | refine .cons (.plain rfl rfl rfl) ?_)))⟩
 ·obtain rfl : i = l.length := by simp at h; omega
  have hR2 : R = false := by rw [hR]; exact Xm hno
  subst hR2
  (repeat (first | refine FW.seq ?_ | refine FW.region ?_ | refine FW.exit ?_ | refine zd.nil ?_ | refine za rfl rfl rfl ?_))
  exact FW.ret ⟨.inl rfl, zA rfl rfl rfl rfl⟩
end Go.Proofs.Ytbeebjdnapkhhaa
