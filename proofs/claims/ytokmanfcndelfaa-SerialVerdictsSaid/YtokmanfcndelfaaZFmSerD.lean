/-
  The reference's Domain.
-/
import Derived.Test.YtokmanfcndelfaaZFmSerX
import Derived.Test.YtokmanfcndelfaaZFmQt
namespace Go.Proofs.Ytokmanfcndelfaa
set_option linter.unusedVariables false
open Go.RowKit

def zbv (o : OpV) : Bool := (decide (o.k ≠ 0) && decide (o.k ≠ 2)) || (decide (o.k = 2) && decide (o.arg = 0))
def zcV (l : List OpV) (i k : Nat) : Bool := (decide ((k : Int) ≠ (i : Int)) && decide ((nth l i).k = 2) && decide ((nth l k).arg = (nth l i).arg)) || ((nth l i).done && !(nth l k).done && decide ((nth l k).arg = (nth l i).res))
def YF (l : List OpV) (i k : Nat) : Bool := !(decide ((nth l k).k ≠ 2) || decide ((nth l k).key ≠ (nth l i).key)) && zcV l i k
def zdL (l : List OpV) (i : Nat) : Bool := zbv (nth l i) || (List.range l.length).any (YF l i)
theorem zdH {p : Nat → Bool} {i : Nat} (h : (List.range i).any p = false) : (List.range (i + 1)).any p = p i := by rw [List.range_succ, List.any_append, h]; simp
theorem zdP (l : List OpV) : (List.range l.length).any (zdL l) = !ZQ l := by
 have h : (List.range l.length).any (zdL l) = false ↔ zeo l := by
  rw [List.any_eq_false]
  simp only [List.mem_range, zdL, zbv, YF, zcV, Bool.or_eq_true, Bool.and_eq_true, decide_eq_true_eq, Bool.not_eq_true', Bool.or_eq_false_iff, decide_eq_false_iff_not, List.any_eq_true, not_or, not_exists, not_and, Classical.not_not]
  constructor
  ·intro h
   refine ⟨fun i hi => ?_, fun i hi h2 => (h i hi).1.2 h2, fun i j hi hj h1 h2 hk ha => ?_, fun i k hi hk h1 h2 hd ha => ?_⟩
   ·by_cases h0 : (nth l i).k = 0
    ·exact .inl h0
    ·exact .inr ((h i hi).1.1 h0)
   ·by_cases e : i = j
    ·exact e
    ·exact absurd ha (((h j hj).2 i hi ⟨h1, hk⟩).1 ⟨by omega, h2⟩)
   ·cases hq : (nth l k).done with
    | true => rfl
    | false => exact absurd ha (((h i hi).2 k hk ⟨h1, h2⟩).2 ⟨hd, hq⟩)
  ·intro h i hi
   refine ⟨⟨fun h0 => (h.kind i hi).resolve_left h0, fun h2 => h.arg i hi h2⟩, fun k hk ⟨h1, h2⟩ => ⟨fun ⟨h3, h4⟩ ha => ?_, fun ⟨hd, hq⟩ ha => ?_⟩⟩
   ·have := h.uniq k i hk hi h1 h4 h2 ha
    omega
   ·have := h.pend i k hi hk h1 h2 hd ha
    rw [hq] at this; cases this
 cases hd : ZQ l with
 | true => exact h.2 (Vt.1 hd)
 | false =>
  cases hr : (List.range l.length).any (zdL l) with
  | true => rfl
  | false => have := Vt.2 (h.1 hr); rw [hd] at this; cases this
theorem zid {next : FSt → Prop} {Q : Exit → FSt → Prop} {e : Exit} {s : FSt} (he : e ≠ .normal) (h : Q e s) : zhf next Q e s := by
 cases e with
 | normal => exact absurd rfl he
 | _ => exact h
theorem FW.joinQ {c : Ctx} {s : FSt} {Q : Exit → FSt → Prop} {x y : Code} {ι : Type} (fam : ι → FSt) (pre : ι → Prop) (h1 : FW c x (fun e s' => (e = .normal ∧ ∃ i, pre i ∧ FLe s' (fam i)) ∨ (e ≠ .normal ∧ Q e s')) s) (h2 : ∀ i, pre i → FW c y Q (fam i)) : FW c x (zhf (FW c y Q) Q) s :=
 h1.mono fun e s' h => by
  rcases h with ⟨rfl, i, hp, hle⟩ | ⟨he, hq⟩
  ·exact (h2 i hp).le hle
  ·exact zid he hq
set_option maxHeartbeats 8000000 in
theorem zcj (l : List OpV) (hl : l.length ≤ 1000) : yc Try.prog 21 [.list 8 (l.map OpV.fv)] .fr (.int .i64 (zct l)) := by
 obtain ⟨R, hR⟩ : ∃ R, zct l = R := ⟨_, rfl⟩
 have hbd : (List.range l.length).any (zdL l) = true → R = 22 := fun h => by
  rw [zdP] at h
  rw [← hR]; unfold zct; rw [if_neg (by simpa using h)]
 have hgd : (List.range l.length).any (zdL l) = false → R = 0 := fun h => by
  rw [zdP] at h
  rw [← hR]; unfold zct; rw [if_pos (by simpa using h)]
 rw [hR]
 refine yc.of_body (c := (xB Try.prog zE zq 118)) ⟨Try.func21, rfl, Try.ntmps21, by kernel_rfl⟩ (by simp [FV.hand]) (by exact Nat.le_of_ble_eq_true rfl) rfl ?_
 change FW _ _ _ ⟨[(0, .list 8 (l.map OpV.fv))], []⟩
 (repeat (first | refine FW.seq ?_ | refine FW.region ?_ | refine FW.block ?_ | refine zd.nil ?_ | refine za rfl rfl rfl ?_))
 refine FW.loop (fun i : Nat => ⟨[(0, .list 8 (l.map OpV.fv)), (3, .int .i64 i)], []⟩) (fun i => i ≤ l.length ∧ (List.range i).any (zdL l) = false) (fun i => l.length - i) 0 ⟨Nat.zero_le _, rfl⟩ ?_ ?_
 ·show FLe _ ⟨[(0, .list 8 (l.map OpV.fv)), (3, .int .i64 0)], []⟩
  exact (FLe.cv [] (by repeat (first | exact .nil)) (by repeat (first | exact .nil | refine .cons (.plain rfl rfl rfl) ?_)))
 rintro i ⟨hi, hany⟩
 (repeat (first | refine FW.seq ?_ | refine FW.region ?_ | refine zd.nil ?_ | refine zb rfl rfl rfl ?_ | refine zg rfl rfl (by exact List.length_map _) rfl rfl ?_ | refine zN rfl rfl rfl rfl ?_))
 refine FW.cond rfl (fun hc => ?_) (fun hc => ?_)
 ·have hi2 : i < l.length := by simpa using hc
  have hsi := zdH hany
  have hbadI : zdL l i = true → R = 22 := fun h => hbd (List.any_eq_true.2 ⟨i, List.mem_range.2 hi2, h⟩)
  refine FW.skip ?_
  refine FW.seq ?_
  refine FW.block ?_
  refine FW.seq ?_
  refine FW.joinQ (fun _ : Unit => ⟨[(0, .list 8 (l.map OpV.fv)), (3, .int .i64 i)], []⟩) (fun _ => zbv (nth l i) = false) ?_ ?_
  ·(repeat (first | refine FW.seq ?_ | refine FW.region ?_ | refine zb rfl rfl rfl ?_ | refine zh rfl rfl rfl rfl rfl rfl (by simp; omega) rfl rfl ?_ | refine yU rfl rfl rfl rfl rfl rfl rfl ?_ | refine zA rfl rfl rfl (by simp; omega) (by first | exact zc (by omega) | rfl) rfl rfl rfl rfl ?_ | refine Za rfl rfl rfl rfl ?_))
   refine zO (fun a1 => ?_) (fun a1 => ?_)
   ·(repeat (first | refine zb rfl rfl rfl ?_ | refine zu rfl rfl rfl rfl ?_ | refine zb rfl rfl ⟨_, _, rfl, rfl, rfl⟩ ?_ | refine zh rfl rfl rfl rfl rfl rfl (by simp; omega) rfl ⟨_, _, rfl, rfl, rfl⟩ ?_ | refine yU rfl rfl rfl rfl rfl rfl ⟨_, _, rfl, rfl, rfl⟩ ?_ | refine zA rfl rfl rfl (by simp; omega) (by first | exact zc (by omega) | rfl) rfl rfl rfl ⟨_, _, rfl, rfl, rfl⟩ ?_ | refine Za rfl rfl rfl ⟨_, _, rfl, rfl, rfl⟩ ?_))
    refine zO (fun a2 => ?_) (fun a2 => ?_)
    ·skip
     have hk : zbv (nth l i) = true := by unfold zbv; rw [a1, a2]; rfl
     have : R = 22 := hbadI (by unfold zdL; rw [hk, Bool.true_or])
     subst this
     (repeat (first | refine FW.seq ?_ | refine FW.region ?_ | refine FW.condT rfl ?_ | refine zd.nil ?_ | refine za rfl rfl rfl ?_ | refine zu rfl rfl rfl rfl ?_ | refine zK rfl rfl ⟨_, _, rfl, rfl, rfl⟩ ?_))
     exact FW.ret (.inr ⟨(fun h => by cases h), ⟨.inl rfl, zj rfl rfl rfl rfl⟩⟩)
    ·skip
     (repeat (first | refine zb rfl rfl ⟨_, _, rfl, rfl, rfl⟩ ?_ | refine zh rfl rfl rfl rfl rfl rfl (by simp; omega) rfl ⟨_, _, rfl, rfl, rfl⟩ ?_ | refine yU rfl rfl rfl rfl rfl rfl ⟨_, _, rfl, rfl, rfl⟩ ?_ | refine zA rfl rfl rfl (by simp; omega) (by first | exact zc (by omega) | rfl) rfl rfl rfl ⟨_, _, rfl, rfl, rfl⟩ ?_ | refine zU rfl rfl rfl ⟨_, _, rfl, rfl, rfl⟩ ?_))
     refine zO (fun a3 => ?_) (fun a3 => ?_)
     ·(repeat (first | refine zd.nil ?_ | refine zn rfl rfl rfl rfl ?_ | refine zb rfl rfl ⟨_, _, rfl, rfl, rfl⟩ ?_ | refine zh rfl rfl rfl rfl rfl rfl (by simp; omega) rfl ⟨_, _, rfl, rfl, rfl⟩ ?_ | refine yU rfl rfl rfl rfl rfl rfl ⟨_, _, rfl, rfl, rfl⟩ ?_ | refine zA rfl rfl rfl (by simp; omega) (by first | exact zc (by omega) | rfl) rfl rfl rfl ⟨_, _, rfl, rfl, rfl⟩ ?_ | refine zU rfl rfl rfl ⟨_, _, rfl, rfl, rfl⟩ ?_ | refine zu rfl rfl rfl ⟨_, _, rfl, rfl, rfl⟩ ?_))
      refine FW.cond rfl (fun a4 => ?_) (fun a4 => ?_)
      ·have a4 : decide ((nth l i).arg = 0) = true := a4
       have hk : zbv (nth l i) = true := by unfold zbv; rw [a1, a2, a3, a4]; rfl
       have : R = 22 := hbadI (by unfold zdL; rw [hk, Bool.true_or])
       subst this
       (repeat (first | refine FW.seq ?_ | refine FW.region ?_ | refine zd.nil ?_ | refine za rfl rfl rfl ?_))
       exact FW.ret (.inr ⟨(fun h => by cases h), ⟨.inl rfl, zj rfl rfl rfl rfl⟩⟩)
      ·have a4 : decide ((nth l i).arg = 0) = false := a4
       have hk : zbv (nth l i) = false := by unfold zbv; rw [a1, a2, a3, a4]; rfl
       (repeat (first | refine FW.skip ?_))
       refine .inl ⟨rfl, (), hk, ?_⟩
       exact (FLe.cv [] (by repeat (first | exact .nil)) (by repeat (first | exact .nil | refine .cons (.plain rfl rfl rfl) ?_)))
     ·skip
      have hk : zbv (nth l i) = false := by unfold zbv; rw [a1, a2, a3]; rfl
      (repeat (first | refine FW.skip ?_ | refine FW.condF rfl ?_ | refine zd.nil ?_ | refine zn rfl rfl rfl rfl ?_ | refine zn rfl rfl rfl ⟨_, _, rfl, rfl, rfl⟩ ?_ | refine zK rfl rfl ⟨_, _, rfl, rfl, rfl⟩ ?_))
      refine .inl ⟨rfl, (), hk, ?_⟩
      exact (FLe.cv [] (by repeat (first | exact .nil)) (by repeat (first | exact .nil | refine .cons (.plain rfl rfl rfl) ?_)))
   ·skip
    (repeat (first | refine zb rfl rfl rfl ?_ | refine zn rfl rfl rfl rfl ?_ | refine zb rfl rfl ⟨_, _, rfl, rfl, rfl⟩ ?_ | refine zh rfl rfl rfl rfl rfl rfl (by first | omega | (simp; omega)) rfl ⟨_, _, rfl, rfl, rfl⟩ ?_ | refine yU rfl rfl rfl rfl rfl rfl ⟨_, _, rfl, rfl, rfl⟩ ?_ | refine zA rfl rfl rfl (by first | omega | (simp; omega)) (by first | exact zc (by omega) | rfl) rfl rfl rfl ⟨_, _, rfl, rfl, rfl⟩ ?_ | refine zU rfl rfl rfl ⟨_, _, rfl, rfl, rfl⟩ ?_ | refine zK rfl rfl ⟨_, _, rfl, rfl, rfl⟩ ?_))
    refine zO (fun a3 => ?_) (fun a3 => ?_)
    ·(repeat (first | refine zd.nil ?_ | refine zn rfl rfl rfl rfl ?_ | refine zb rfl rfl ⟨_, _, rfl, rfl, rfl⟩ ?_ | refine zh rfl rfl rfl rfl rfl rfl (by simp; omega) rfl ⟨_, _, rfl, rfl, rfl⟩ ?_ | refine yU rfl rfl rfl rfl rfl rfl ⟨_, _, rfl, rfl, rfl⟩ ?_ | refine zA rfl rfl rfl (by simp; omega) (by first | exact zc (by omega) | rfl) rfl rfl rfl ⟨_, _, rfl, rfl, rfl⟩ ?_ | refine zU rfl rfl rfl ⟨_, _, rfl, rfl, rfl⟩ ?_ | refine zu rfl rfl rfl ⟨_, _, rfl, rfl, rfl⟩ ?_))
     refine FW.cond rfl (fun a4 => ?_) (fun a4 => ?_)
     ·have a4 : decide ((nth l i).arg = 0) = true := a4
      have hk : zbv (nth l i) = true := by unfold zbv; rw [a1, a3, a4]; rfl
      have : R = 22 := hbadI (by unfold zdL; rw [hk, Bool.true_or])
      subst this
      (repeat (first | refine FW.seq ?_ | refine FW.region ?_ | refine zd.nil ?_ | refine za rfl rfl rfl ?_))
      exact FW.ret (.inr ⟨(fun h => by cases h), ⟨.inl rfl, zj rfl rfl rfl rfl⟩⟩)
     ·have a4 : decide ((nth l i).arg = 0) = false := a4
      have hk : zbv (nth l i) = false := by unfold zbv; rw [a1, a3, a4]; rfl
      (repeat (first | refine FW.skip ?_))
      refine .inl ⟨rfl, (), hk, ?_⟩
      exact (FLe.cv [] (by repeat (first | exact .nil)) (by repeat (first | exact .nil | refine .cons (.plain rfl rfl rfl) ?_)))
    ·skip
     have hk : zbv (nth l i) = false := by unfold zbv; rw [a1, a3]; rfl
     (repeat (first | refine FW.skip ?_ | refine FW.condF rfl ?_ | refine zd.nil ?_ | refine zn rfl rfl rfl rfl ?_ | refine zn rfl rfl rfl ⟨_, _, rfl, rfl, rfl⟩ ?_ | refine zK rfl rfl ⟨_, _, rfl, rfl, rfl⟩ ?_))
     refine .inl ⟨rfl, (), hk, ?_⟩
     exact (FLe.cv [] (by repeat (first | exact .nil)) (by repeat (first | exact .nil | refine .cons (.plain rfl rfl rfl) ?_)))
  rintro _ hK
  have hbad : (List.range l.length).any (YF l i) = true → R = 22 := fun h => hbadI (by unfold zdL; rw [h, Bool.or_true])
  (repeat (first | refine FW.seq ?_ | refine FW.region ?_ | refine FW.block ?_ | refine zd.nil ?_ | refine za rfl rfl rfl ?_))
  refine FW.loop (fun j : Nat => ⟨[(0, .list 8 (l.map OpV.fv)), (3, .int .i64 i), (4, .int .i64 j)], []⟩) (fun j => j ≤ l.length ∧ (List.range j).any (YF l i) = false) (fun j => l.length - j) 0 ⟨Nat.zero_le _, rfl⟩ ?_ ?_
  ·show FLe _ ⟨[(0, .list 8 (l.map OpV.fv)), (3, .int .i64 i), (4, .int .i64 0)], []⟩
   exact (FLe.cv [] (by repeat (first | exact .nil)) (by repeat (first | exact .nil | refine .cons (.plain rfl rfl rfl) ?_)))
  rintro j ⟨hj, hanj⟩
  have hsu := zdH hanj
  (repeat (first | refine FW.seq ?_ | refine FW.region ?_ | refine zd.nil ?_ | refine zb rfl rfl rfl ?_ | refine zg rfl rfl (by exact List.length_map _) rfl rfl ?_ | refine zN rfl rfl rfl rfl ?_))
  refine FW.cond rfl (fun hc2 => ?_) (fun hc2 => ?_)
  ·have hj2 : j < l.length := by simpa using hc2
   (repeat (first | refine FW.seq ?_ | refine FW.block ?_ | refine FW.skip ?_ | refine FW.draw ?_ | refine zD rfl rfl rfl ?_ | refine zJ rfl rfl rfl rfl rfl rfl (by simp; omega) rfl rfl ?_ | refine zW rfl rfl rfl rfl rfl rfl rfl ?_ | refine zR rfl rfl rfl (by simp; omega) (by first | exact zc (by omega) | rfl) rfl rfl rfl rfl ?_ | refine zay rfl rfl rfl rfl ?_))
   refine yY (fun g1 => ?_) (fun g1 => ?_)
   ·have hb : YF l i j = false := by unfold YF; rw [g1]; rfl
    rw [hb] at hsu
    (repeat (first | refine zL.nil ?_ | refine yC rfl rfl rfl rfl ?_ | refine yZ rfl rfl ⟨_, _, rfl, rfl, rfl⟩ ?_))
    refine ⟨by kernel_rfl, ?_⟩
    (repeat (first | refine FW.region ?_ | refine FW.exit ?_ | refine FW.condT rfl ?_ | refine zd.nil ?_ | refine za rfl rfl rfl ?_ | refine zb rfl rfl rfl ?_ | refine zw rfl rfl (by omega) rfl rfl ?_))
    refine ⟨j + 1, ⟨by omega, hsu⟩, by omega, ?_⟩
    exact (FLe.cv [] (by repeat (first | exact .nil)) (by repeat (first | exact .nil | refine .cons (.plain rfl rfl rfl) ?_)))
   (repeat (first | refine zL.nil ?_ | refine ya rfl rfl rfl rfl ?_ | refine zD rfl rfl ⟨_, _, rfl, rfl, rfl⟩ ?_ | refine zJ rfl rfl rfl rfl rfl rfl (by simp; omega) rfl ⟨_, _, rfl, rfl, rfl⟩ ?_ | refine zW rfl rfl rfl rfl rfl rfl ⟨_, _, rfl, rfl, rfl⟩ ?_ | refine zR rfl rfl rfl (by simp; omega) (by first | exact zc (by omega) | rfl) rfl rfl rfl ⟨_, _, rfl, rfl, rfl⟩ ?_ | refine zay rfl rfl rfl ⟨_, _, rfl, rfl, rfl⟩ ?_))
   refine ⟨by kernel_rfl, ?_⟩
   refine FW.cond rfl (fun g2 => ?_) (fun g2 => ?_)
   ·have g2 : decide ((nth l j).key ≠ (nth l i).key) = true := g2
    have hb : YF l i j = false := by unfold YF; rw [g1, g2]; rfl
    rw [hb] at hsu
    (repeat (first | refine FW.region ?_ | refine FW.exit ?_ | refine zd.nil ?_ | refine za rfl rfl rfl ?_ | refine zb rfl rfl rfl ?_ | refine zw rfl rfl (by omega) rfl rfl ?_))
    refine ⟨j + 1, ⟨by omega, hsu⟩, by omega, ?_⟩
    exact (FLe.cv [] (by repeat (first | exact .nil)) (by repeat (first | exact .nil | refine .cons (.plain rfl rfl rfl) ?_)))
   have g2 : decide ((nth l j).key ≠ (nth l i).key) = false := g2
   (repeat (first | refine FW.seq ?_ | refine FW.skip ?_ | refine FW.drawQ (by kernel_rfl) ?_ | refine zD rfl rfl rfl ?_ | refine zay rfl rfl rfl rfl ?_))
   refine yY (fun h1 => ?_) (fun h1 => ?_)
   ·(repeat (first | refine zD rfl rfl rfl ?_ | refine yC rfl rfl rfl rfl ?_ | refine zD rfl rfl ⟨_, _, rfl, rfl, rfl⟩ ?_ | refine zJ rfl rfl rfl rfl rfl rfl (by simp; omega) rfl ⟨_, _, rfl, rfl, rfl⟩ ?_ | refine zW rfl rfl rfl rfl rfl rfl ⟨_, _, rfl, rfl, rfl⟩ ?_ | refine zR rfl rfl rfl (by simp; omega) (by first | exact zc (by omega) | rfl) rfl rfl rfl ⟨_, _, rfl, rfl, rfl⟩ ?_ | refine Xd rfl rfl rfl ⟨_, _, rfl, rfl, rfl⟩ ?_))
    refine yY (fun h2 => ?_) (fun h2 => ?_)
    ·(repeat (first | refine zD rfl rfl rfl ?_ | refine yC rfl rfl rfl rfl ?_ | refine zD rfl rfl ⟨_, _, rfl, rfl, rfl⟩ ?_ | refine zJ rfl rfl rfl rfl rfl rfl (by simp; omega) rfl ⟨_, _, rfl, rfl, rfl⟩ ?_ | refine zW rfl rfl rfl rfl rfl rfl ⟨_, _, rfl, rfl, rfl⟩ ?_ | refine zR rfl rfl rfl (by simp; omega) (by first | exact zc (by omega) | rfl) rfl rfl rfl ⟨_, _, rfl, rfl, rfl⟩ ?_ | refine Xd rfl rfl rfl ⟨_, _, rfl, rfl, rfl⟩ ?_))
     refine yY (fun h3 => ?_) (fun h3 => ?_)
     ·skip
      have hb : YF l i j = true := by unfold YF zcV; rw [g1, g2, h1, h2, h3]; rfl
      have : R = 22 := hbad (List.any_eq_true.2 ⟨j, List.mem_range.2 hj2, hb⟩)
      subst this
      (repeat (first | refine zL.nil ?_ | refine yC rfl rfl rfl rfl ?_ | refine yZ rfl rfl ⟨_, _, rfl, rfl, rfl⟩ ?_))
      refine ⟨by kernel_rfl, ?_⟩
      (repeat (first | refine FW.seq ?_ | refine FW.region ?_ | refine FW.condT rfl ?_ | refine zd.nil ?_ | refine za rfl rfl rfl ?_))
      exact FW.ret ⟨.inl rfl, zj rfl rfl rfl rfl⟩
     ·skip
      (repeat (first | refine zD rfl rfl ⟨_, _, rfl, rfl, rfl⟩ ?_ | refine zJ rfl rfl rfl rfl rfl rfl (by simp; omega) rfl ⟨_, _, rfl, rfl, rfl⟩ ?_ | refine zW rfl rfl rfl rfl rfl rfl ⟨_, _, rfl, rfl, rfl⟩ ?_ | refine zR rfl rfl rfl (by simp; omega) (by first | exact zc (by omega) | rfl) rfl rfl rfl ⟨_, _, rfl, rfl, rfl⟩ ?_))
      refine yY (fun c1 => ?_) (fun c1 => ?_)
      ·(repeat (first | refine zD rfl rfl ⟨_, _, rfl, rfl, rfl⟩ ?_ | refine zJ rfl rfl rfl rfl rfl rfl (by simp; omega) rfl ⟨_, _, rfl, rfl, rfl⟩ ?_ | refine zW rfl rfl rfl rfl rfl rfl ⟨_, _, rfl, rfl, rfl⟩ ?_ | refine zR rfl rfl rfl (by simp; omega) (by first | exact zc (by omega) | rfl) rfl rfl rfl ⟨_, _, rfl, rfl, rfl⟩ ?_ | refine yC rfl rfl rfl ⟨_, _, rfl, rfl, rfl⟩ ?_ | refine zeg rfl rfl ⟨_, _, rfl, rfl, rfl⟩ ?_))
       refine yY (fun c2 => ?_) (fun c2 => ?_)
       ·(repeat (first | refine zL.nil ?_ | refine ya rfl rfl rfl rfl ?_ | refine zD rfl rfl ⟨_, _, rfl, rfl, rfl⟩ ?_ | refine zJ rfl rfl rfl rfl rfl rfl (by simp; omega) rfl ⟨_, _, rfl, rfl, rfl⟩ ?_ | refine zW rfl rfl rfl rfl rfl rfl ⟨_, _, rfl, rfl, rfl⟩ ?_ | refine zR rfl rfl rfl (by simp; omega) (by first | exact zc (by omega) | rfl) rfl rfl rfl ⟨_, _, rfl, rfl, rfl⟩ ?_ | refine Xd rfl rfl rfl ⟨_, _, rfl, rfl, rfl⟩ ?_ | refine yC rfl rfl rfl ⟨_, _, rfl, rfl, rfl⟩ ?_))
        refine ⟨by kernel_rfl, ?_⟩
        refine FW.cond rfl (fun c3 => ?_) (fun c3 => ?_)
        ·skip
         have c3 : decide ((nth l j).arg = (nth l i).res) = true := c3
         have hb : YF l i j = true := by unfold YF zcV; rw [g1, g2, h1, h2, h3, c1, c2, c3]; rfl
         have : R = 22 := hbad (List.any_eq_true.2 ⟨j, List.mem_range.2 hj2, hb⟩)
         subst this
         (repeat (first | refine FW.seq ?_ | refine FW.region ?_ | refine zd.nil ?_ | refine za rfl rfl rfl ?_))
         exact FW.ret ⟨.inl rfl, zj rfl rfl rfl rfl⟩
        ·skip
         have c3 : decide ((nth l j).arg = (nth l i).res) = false := c3
         have hb : YF l i j = false := by unfold YF zcV; rw [g1, g2, h1, h2, h3, c1, c2, c3]; rfl
         rw [hb] at hsu
         (repeat (first | refine FW.region ?_ | refine FW.skip ?_ | refine zd.nil ?_ | refine za rfl rfl rfl ?_ | refine zb rfl rfl rfl ?_ | refine zw rfl rfl (by omega) rfl rfl ?_))
         refine ⟨j + 1, ⟨by omega, hsu⟩, by omega, ?_⟩
         exact (FLe.cv [] (by repeat (first | exact .nil)) (by repeat (first | exact .nil | refine .cons (.plain rfl rfl rfl) ?_)))
       ·skip
        have hb : YF l i j = false := by unfold YF zcV; rw [g1, g2, h1, h2, h3, c1, c2]; rfl
        rw [hb] at hsu
        (repeat (first | refine zL.nil ?_ | refine ya rfl rfl rfl rfl ?_ | refine ya rfl rfl rfl ⟨_, _, rfl, rfl, rfl⟩ ?_ | refine yZ rfl rfl ⟨_, _, rfl, rfl, rfl⟩ ?_))
        refine ⟨by kernel_rfl, ?_⟩
        (repeat (first | refine FW.region ?_ | refine FW.skip ?_ | refine FW.condF rfl ?_ | refine zd.nil ?_ | refine za rfl rfl rfl ?_ | refine zb rfl rfl rfl ?_ | refine zw rfl rfl (by omega) rfl rfl ?_))
        refine ⟨j + 1, ⟨by omega, hsu⟩, by omega, ?_⟩
        exact (FLe.cv [] (by repeat (first | exact .nil)) (by repeat (first | exact .nil | refine .cons (.plain rfl rfl rfl) ?_)))
      ·skip
       have hb : YF l i j = false := by unfold YF zcV; rw [g1, g2, h1, h2, h3, c1]; rfl
       rw [hb] at hsu
       (repeat (first | refine zL.nil ?_ | refine ya rfl rfl rfl rfl ?_ | refine zD rfl rfl ⟨_, _, rfl, rfl, rfl⟩ ?_ | refine ya rfl rfl rfl ⟨_, _, rfl, rfl, rfl⟩ ?_ | refine yZ rfl rfl ⟨_, _, rfl, rfl, rfl⟩ ?_))
       refine ⟨by kernel_rfl, ?_⟩
       (repeat (first | refine FW.region ?_ | refine FW.skip ?_ | refine FW.condF rfl ?_ | refine zd.nil ?_ | refine za rfl rfl rfl ?_ | refine zb rfl rfl rfl ?_ | refine zw rfl rfl (by omega) rfl rfl ?_))
       refine ⟨j + 1, ⟨by omega, hsu⟩, by omega, ?_⟩
       exact (FLe.cv [] (by repeat (first | exact .nil)) (by repeat (first | exact .nil | refine .cons (.plain rfl rfl rfl) ?_)))
    ·skip
     (repeat (first | refine zD rfl rfl rfl ?_ | refine ya rfl rfl rfl rfl ?_ | refine zD rfl rfl ⟨_, _, rfl, rfl, rfl⟩ ?_ | refine zJ rfl rfl rfl rfl rfl rfl (by first | omega | (simp; omega)) rfl ⟨_, _, rfl, rfl, rfl⟩ ?_ | refine zW rfl rfl rfl rfl rfl rfl ⟨_, _, rfl, rfl, rfl⟩ ?_ | refine zR rfl rfl rfl (by first | omega | (simp; omega)) (by first | exact zc (by omega) | rfl) rfl rfl rfl ⟨_, _, rfl, rfl, rfl⟩ ?_ | refine yZ rfl rfl ⟨_, _, rfl, rfl, rfl⟩ ?_))
     refine yY (fun c1 => ?_) (fun c1 => ?_)
     ·(repeat (first | refine zD rfl rfl ⟨_, _, rfl, rfl, rfl⟩ ?_ | refine zJ rfl rfl rfl rfl rfl rfl (by simp; omega) rfl ⟨_, _, rfl, rfl, rfl⟩ ?_ | refine zW rfl rfl rfl rfl rfl rfl ⟨_, _, rfl, rfl, rfl⟩ ?_ | refine zR rfl rfl rfl (by simp; omega) (by first | exact zc (by omega) | rfl) rfl rfl rfl ⟨_, _, rfl, rfl, rfl⟩ ?_ | refine yC rfl rfl rfl ⟨_, _, rfl, rfl, rfl⟩ ?_ | refine zeg rfl rfl ⟨_, _, rfl, rfl, rfl⟩ ?_))
      refine yY (fun c2 => ?_) (fun c2 => ?_)
      ·(repeat (first | refine zL.nil ?_ | refine ya rfl rfl rfl rfl ?_ | refine zD rfl rfl ⟨_, _, rfl, rfl, rfl⟩ ?_ | refine zJ rfl rfl rfl rfl rfl rfl (by simp; omega) rfl ⟨_, _, rfl, rfl, rfl⟩ ?_ | refine zW rfl rfl rfl rfl rfl rfl ⟨_, _, rfl, rfl, rfl⟩ ?_ | refine zR rfl rfl rfl (by simp; omega) (by first | exact zc (by omega) | rfl) rfl rfl rfl ⟨_, _, rfl, rfl, rfl⟩ ?_ | refine Xd rfl rfl rfl ⟨_, _, rfl, rfl, rfl⟩ ?_ | refine yC rfl rfl rfl ⟨_, _, rfl, rfl, rfl⟩ ?_))
       refine ⟨by kernel_rfl, ?_⟩
       refine FW.cond rfl (fun c3 => ?_) (fun c3 => ?_)
       ·skip
        have c3 : decide ((nth l j).arg = (nth l i).res) = true := c3
        have hb : YF l i j = true := by unfold YF zcV; rw [g1, g2, h1, h2, c1, c2, c3]; rfl
        have : R = 22 := hbad (List.any_eq_true.2 ⟨j, List.mem_range.2 hj2, hb⟩)
        subst this
        (repeat (first | refine FW.seq ?_ | refine FW.region ?_ | refine zd.nil ?_ | refine za rfl rfl rfl ?_))
        exact FW.ret ⟨.inl rfl, zj rfl rfl rfl rfl⟩
       ·skip
        have c3 : decide ((nth l j).arg = (nth l i).res) = false := c3
        have hb : YF l i j = false := by unfold YF zcV; rw [g1, g2, h1, h2, c1, c2, c3]; rfl
        rw [hb] at hsu
        (repeat (first | refine FW.region ?_ | refine FW.skip ?_ | refine zd.nil ?_ | refine za rfl rfl rfl ?_ | refine zb rfl rfl rfl ?_ | refine zw rfl rfl (by omega) rfl rfl ?_))
        refine ⟨j + 1, ⟨by omega, hsu⟩, by omega, ?_⟩
        exact (FLe.cv [] (by repeat (first | exact .nil)) (by repeat (first | exact .nil | refine .cons (.plain rfl rfl rfl) ?_)))
      ·skip
       have hb : YF l i j = false := by unfold YF zcV; rw [g1, g2, h1, h2, c1, c2]; rfl
       rw [hb] at hsu
       (repeat (first | refine zL.nil ?_ | refine ya rfl rfl rfl rfl ?_ | refine ya rfl rfl rfl ⟨_, _, rfl, rfl, rfl⟩ ?_ | refine yZ rfl rfl ⟨_, _, rfl, rfl, rfl⟩ ?_))
       refine ⟨by kernel_rfl, ?_⟩
       (repeat (first | refine FW.region ?_ | refine FW.skip ?_ | refine FW.condF rfl ?_ | refine zd.nil ?_ | refine za rfl rfl rfl ?_ | refine zb rfl rfl rfl ?_ | refine zw rfl rfl (by omega) rfl rfl ?_))
       refine ⟨j + 1, ⟨by omega, hsu⟩, by omega, ?_⟩
       exact (FLe.cv [] (by repeat (first | exact .nil)) (by repeat (first | exact .nil | refine .cons (.plain rfl rfl rfl) ?_)))
     ·skip
      have hb : YF l i j = false := by unfold YF zcV; rw [g1, g2, h1, h2, c1]; rfl
      rw [hb] at hsu
      (repeat (first | refine zL.nil ?_ | refine ya rfl rfl rfl rfl ?_ | refine zD rfl rfl ⟨_, _, rfl, rfl, rfl⟩ ?_ | refine ya rfl rfl rfl ⟨_, _, rfl, rfl, rfl⟩ ?_ | refine yZ rfl rfl ⟨_, _, rfl, rfl, rfl⟩ ?_))
      refine ⟨by kernel_rfl, ?_⟩
      (repeat (first | refine FW.region ?_ | refine FW.skip ?_ | refine FW.condF rfl ?_ | refine zd.nil ?_ | refine za rfl rfl rfl ?_ | refine zb rfl rfl rfl ?_ | refine zw rfl rfl (by omega) rfl rfl ?_))
      refine ⟨j + 1, ⟨by omega, hsu⟩, by omega, ?_⟩
      exact (FLe.cv [] (by repeat (first | exact .nil)) (by repeat (first | exact .nil | refine .cons (.plain rfl rfl rfl) ?_)))
   ·skip
    (repeat (first | refine zD rfl rfl rfl ?_ | refine ya rfl rfl rfl rfl ?_ | refine zD rfl rfl ⟨_, _, rfl, rfl, rfl⟩ ?_ | refine zJ rfl rfl rfl rfl rfl rfl (by first | omega | (simp; omega)) rfl ⟨_, _, rfl, rfl, rfl⟩ ?_ | refine zW rfl rfl rfl rfl rfl rfl ⟨_, _, rfl, rfl, rfl⟩ ?_ | refine zR rfl rfl rfl (by first | omega | (simp; omega)) (by first | exact zc (by omega) | rfl) rfl rfl rfl ⟨_, _, rfl, rfl, rfl⟩ ?_ | refine yZ rfl rfl ⟨_, _, rfl, rfl, rfl⟩ ?_))
    refine yY (fun c1 => ?_) (fun c1 => ?_)
    ·(repeat (first | refine zD rfl rfl ⟨_, _, rfl, rfl, rfl⟩ ?_ | refine zJ rfl rfl rfl rfl rfl rfl (by simp; omega) rfl ⟨_, _, rfl, rfl, rfl⟩ ?_ | refine zW rfl rfl rfl rfl rfl rfl ⟨_, _, rfl, rfl, rfl⟩ ?_ | refine zR rfl rfl rfl (by simp; omega) (by first | exact zc (by omega) | rfl) rfl rfl rfl ⟨_, _, rfl, rfl, rfl⟩ ?_ | refine yC rfl rfl rfl ⟨_, _, rfl, rfl, rfl⟩ ?_ | refine zeg rfl rfl ⟨_, _, rfl, rfl, rfl⟩ ?_))
     refine yY (fun c2 => ?_) (fun c2 => ?_)
     ·(repeat (first | refine zL.nil ?_ | refine ya rfl rfl rfl rfl ?_ | refine zD rfl rfl ⟨_, _, rfl, rfl, rfl⟩ ?_ | refine zJ rfl rfl rfl rfl rfl rfl (by simp; omega) rfl ⟨_, _, rfl, rfl, rfl⟩ ?_ | refine zW rfl rfl rfl rfl rfl rfl ⟨_, _, rfl, rfl, rfl⟩ ?_ | refine zR rfl rfl rfl (by simp; omega) (by first | exact zc (by omega) | rfl) rfl rfl rfl ⟨_, _, rfl, rfl, rfl⟩ ?_ | refine Xd rfl rfl rfl ⟨_, _, rfl, rfl, rfl⟩ ?_ | refine yC rfl rfl rfl ⟨_, _, rfl, rfl, rfl⟩ ?_))
      refine ⟨by kernel_rfl, ?_⟩
      refine FW.cond rfl (fun c3 => ?_) (fun c3 => ?_)
      ·skip
       have c3 : decide ((nth l j).arg = (nth l i).res) = true := c3
       have hb : YF l i j = true := by unfold YF zcV; rw [g1, g2, h1, c1, c2, c3]; rfl
       have : R = 22 := hbad (List.any_eq_true.2 ⟨j, List.mem_range.2 hj2, hb⟩)
       subst this
       (repeat (first | refine FW.seq ?_ | refine FW.region ?_ | refine zd.nil ?_ | refine za rfl rfl rfl ?_))
       exact FW.ret ⟨.inl rfl, zj rfl rfl rfl rfl⟩
      ·skip
       have c3 : decide ((nth l j).arg = (nth l i).res) = false := c3
       have hb : YF l i j = false := by unfold YF zcV; rw [g1, g2, h1, c1, c2, c3]; rfl
       rw [hb] at hsu
       (repeat (first | refine FW.region ?_ | refine FW.skip ?_ | refine zd.nil ?_ | refine za rfl rfl rfl ?_ | refine zb rfl rfl rfl ?_ | refine zw rfl rfl (by omega) rfl rfl ?_))
       refine ⟨j + 1, ⟨by omega, hsu⟩, by omega, ?_⟩
       exact (FLe.cv [] (by repeat (first | exact .nil)) (by repeat (first | exact .nil | refine .cons (.plain rfl rfl rfl) ?_)))
     ·skip
      have hb : YF l i j = false := by unfold YF zcV; rw [g1, g2, h1, c1, c2]; rfl
      rw [hb] at hsu
      (repeat (first | refine zL.nil ?_ | refine ya rfl rfl rfl rfl ?_ | refine ya rfl rfl rfl ⟨_, _, rfl, rfl, rfl⟩ ?_ | refine yZ rfl rfl ⟨_, _, rfl, rfl, rfl⟩ ?_))
      refine ⟨by kernel_rfl, ?_⟩
      (repeat (first | refine FW.region ?_ | refine FW.skip ?_ | refine FW.condF rfl ?_ | refine zd.nil ?_ | refine za rfl rfl rfl ?_ | refine zb rfl rfl rfl ?_ | refine zw rfl rfl (by omega) rfl rfl ?_))
      refine ⟨j + 1, ⟨by omega, hsu⟩, by omega, ?_⟩
      exact (FLe.cv [] (by repeat (first | exact .nil)) (by repeat (first | exact .nil | refine .cons (.plain rfl rfl rfl) ?_)))
    ·skip
     have hb : YF l i j = false := by unfold YF zcV; rw [g1, g2, h1, c1]; rfl
     rw [hb] at hsu
     (repeat (first | refine zL.nil ?_ | refine ya rfl rfl rfl rfl ?_ | refine zD rfl rfl ⟨_, _, rfl, rfl, rfl⟩ ?_ | refine ya rfl rfl rfl ⟨_, _, rfl, rfl, rfl⟩ ?_ | refine yZ rfl rfl ⟨_, _, rfl, rfl, rfl⟩ ?_))
     refine ⟨by kernel_rfl, ?_⟩
     (repeat (first | refine FW.region ?_ | refine FW.skip ?_ | refine FW.condF rfl ?_ | refine zd.nil ?_ | refine za rfl rfl rfl ?_ | refine zb rfl rfl rfl ?_ | refine zw rfl rfl (by omega) rfl rfl ?_))
     refine ⟨j + 1, ⟨by omega, hsu⟩, by omega, ?_⟩
     exact (FLe.cv [] (by repeat (first | exact .nil)) (by repeat (first | exact .nil | refine .cons (.plain rfl rfl rfl) ?_)))
  ·obtain rfl : j = l.length := by simp at hc2; omega
   have hI : zdL l i = false := by unfold zdL; rw [hK, hanj]; rfl
   rw [hI] at hsi
   (repeat (first | refine FW.region ?_ | refine FW.exit ?_ | refine zd.nil ?_ | refine za rfl rfl rfl ?_ | refine zb rfl rfl rfl ?_ | refine zw rfl rfl (by omega) rfl rfl ?_))
   refine ⟨i + 1, ⟨by omega, hsi⟩, by omega, ?_⟩
   exact (FLe.cv [] (by repeat (first | exact .nil)) (by repeat (first | exact .nil | refine .cons (.plain rfl rfl rfl) ?_)))
 ·obtain rfl : i = l.length := by simp at hc; omega
  have : R = 0 := hgd hany
  subst this
  (repeat (first | refine FW.seq ?_ | refine FW.region ?_ | refine FW.exit ?_ | refine zd.nil ?_ | refine za rfl rfl rfl ?_))
  exact FW.ret ⟨.inl rfl, zj rfl rfl rfl rfl⟩
end Go.Proofs.Ytokmanfcndelfaa
