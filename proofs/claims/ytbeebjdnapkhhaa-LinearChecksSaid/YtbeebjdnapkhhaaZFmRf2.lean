/-
  The reference of layer 21 at plain values: Thin, Early, Goes.
-/
import Derived.Test.YtbeebjdnapkhhaaZFmRf1
import Derived.Test.YtbeebjdnapkhhaaZLinRef
import Derived.Test.YtbeebjdnapkhhaaZG
namespace Go.Proofs.Ytbeebjdnapkhhaa
set_option linter.unusedVariables false
open Go.RowKit

theorem ziT (l : List OpV) (c v : Int) : decide (zhG l c v < 0) = (wIx l c v).isNone := by
 unfold zhG
 cases wIx l c v with
 | none => rfl
 | some w => exact decide_eq_false (by dsimp only; omega)
set_option maxHeartbeats 4000000 in
theorem zft (l : List OpV) (i : Nat) (hl : l.length ≤ 1000000) (hi : i < l.length) : yd Try.prog 61 [.list 8 (l.map OpV.fv), .int .i64 i] .fr (.bool (zaI l i)) := by
 have hR : zaI l i = (decide ((nth l i).k = 0) && ((nth l i).done && (decide ((nth l i).res ≠ 0) && (wIx l (nth l i).key (nth l i).res).isNone))) := rfl
 obtain ⟨o, ho⟩ : ∃ o, nth l i = o := ⟨_, rfl⟩
 rw [← ziT, ho] at hR
 obtain ⟨R, hRe⟩ : ∃ R, zaI l i = R := ⟨_, rfl⟩
 rw [hRe] at hR
 rw [hRe]
 have hw := YV l o.key o.res hl
 refine yd.of_body (c := (xW Try.prog zJ zy 41)) ⟨Try.func61, rfl, Try.ntmps61, by kernel_rfl⟩ (by simp [FV.hand]) (by exact Nat.le_of_ble_eq_true rfl) rfl ?_
 change FW _ _ _ ⟨[(0, .list 8 (l.map OpV.fv)), (1, .int .i64 i)], []⟩
 (repeat (first | refine FW.seq ?_ | refine FW.region ?_ | refine zd.nil ?_ | refine za rfl rfl rfl ?_))
 refine FW.drawQ (by kernel_rfl) ?_
 (repeat (first | refine zF rfl rfl rfl ?_ | refine zP rfl rfl rfl rfl rfl rfl (by simp; omega) rfl rfl ?_ | refine zU rfl rfl rfl rfl rfl rfl rfl ?_ | refine zQ rfl rfl rfl (by simp; omega) (by first | exact zc (by omega) | rfl) rfl rfl rfl rfl ?_ | refine XE rfl rfl rfl rfl ?_))
 rw [ho]
 refine xw (fun h1 => ?_) (fun h1 => ?_)
 ·rw [h1, Bool.true_and] at hR
  (repeat (first | refine zF rfl rfl rfl ?_ | refine yB rfl rfl rfl rfl ?_ | refine zF rfl rfl ⟨_, _, rfl, rfl, rfl⟩ ?_ | refine zP rfl rfl rfl rfl rfl rfl (by simp; omega) rfl ⟨_, _, rfl, rfl, rfl⟩ ?_ | refine zU rfl rfl rfl rfl rfl rfl ⟨_, _, rfl, rfl, rfl⟩ ?_ | refine zQ rfl rfl rfl (by simp; omega) (by first | exact zc (by omega) | rfl) rfl rfl rfl ⟨_, _, rfl, rfl, rfl⟩ ?_))
  rw [ho]
  refine xw (fun h2 => ?_) (fun h2 => ?_)
  ·rw [h2, Bool.true_and] at hR
   (repeat (first | refine zF rfl rfl rfl ?_ | refine yB rfl rfl rfl rfl ?_ | refine zF rfl rfl ⟨_, _, rfl, rfl, rfl⟩ ?_ | refine zP rfl rfl rfl rfl rfl rfl (by simp; omega) rfl ⟨_, _, rfl, rfl, rfl⟩ ?_ | refine zU rfl rfl rfl rfl rfl rfl ⟨_, _, rfl, rfl, rfl⟩ ?_ | refine zQ rfl rfl rfl (by simp; omega) (by first | exact zc (by omega) | rfl) rfl rfl rfl ⟨_, _, rfl, rfl, rfl⟩ ?_ | refine zjb rfl rfl rfl ⟨_, _, rfl, rfl, rfl⟩ ?_))
   rw [ho]
   refine xw (fun h3 => ?_) (fun h3 => ?_)
   ·rw [h3, Bool.true_and] at hR
    (repeat (first | refine zF rfl rfl ⟨_, _, rfl, rfl, rfl⟩ ?_ | refine zP rfl rfl rfl rfl rfl rfl (by simp; omega) rfl ⟨_, _, rfl, rfl, rfl⟩ ?_ | refine zU rfl rfl rfl rfl rfl rfl ⟨_, _, rfl, rfl, rfl⟩ ?_ | refine zQ rfl rfl rfl (by simp; omega) (by first | exact zc (by omega) | rfl) rfl rfl rfl ⟨_, _, rfl, rfl, rfl⟩ ?_))
    rw [ho]
    skip
    refine WW hw (by repeat (first | exact zg.nil | refine zg.cons (by exact yc.plain rfl rfl) ?_)) rfl ⟨_, _, rfl, rfl, rfl⟩ ?_
    (repeat (first | refine zM.nil ?_ | refine yt rfl rfl rfl ?_ | refine yB rfl rfl rfl rfl ?_ | refine zg5 rfl rfl rfl ⟨_, _, rfl, rfl, rfl⟩ ?_))
    refine ⟨by kernel_rfl, ?_⟩
    rw [← hR]
    skip
    exact FW.ret ⟨.inl rfl, zA rfl rfl rfl rfl⟩
   ·rw [h3, Bool.false_and] at hR
    subst hR
    (repeat (first | refine zM.nil ?_ | refine yt rfl rfl rfl ?_ | refine yA rfl rfl rfl rfl ?_ | refine xc rfl rfl ⟨_, _, rfl, rfl, rfl⟩ ?_))
    refine ⟨by kernel_rfl, ?_⟩
    skip
    exact FW.ret ⟨.inl rfl, zA rfl rfl rfl rfl⟩
  ·rw [h2, Bool.false_and] at hR
   subst hR
   (repeat (first | refine zM.nil ?_ | refine yt rfl rfl rfl ?_ | refine zF rfl rfl rfl ?_ | refine yA rfl rfl rfl rfl ?_ | refine xc rfl rfl ⟨_, _, rfl, rfl, rfl⟩ ?_))
   refine ⟨by kernel_rfl, ?_⟩
   skip
   exact FW.ret ⟨.inl rfl, zA rfl rfl rfl rfl⟩
 ·rw [h1, Bool.false_and] at hR
  subst hR
  (repeat (first | refine zM.nil ?_ | refine yt rfl rfl rfl ?_ | refine zF rfl rfl rfl ?_ | refine yA rfl rfl rfl rfl ?_ | refine xc rfl rfl ⟨_, _, rfl, rfl, rfl⟩ ?_))
  refine ⟨by kernel_rfl, ?_⟩
  skip
  exact FW.ret ⟨.inl rfl, zA rfl rfl rfl rfl⟩
set_option maxHeartbeats 4000000 in
theorem zdL (l : List OpV) (i : Nat) (hl : l.length ≤ 1000000) (hi : i < l.length) : yd Try.prog 62 [.list 8 (l.map OpV.fv), .int .i64 i] .fr (.bool (Vh l i)) := by
 have hR : Vh l i = (decide ((nth l i).k = 0) && ((nth l i).done && (decide ((nth l i).res ≠ 0) && match wIx l (nth l i).key (nth l i).res with | none => false | some w => bef l i w))) := rfl
 have hbs := fun w (hw : w < l.length) => Vl l i w hi hw
 obtain ⟨o, ho⟩ : ∃ o, nth l i = o := ⟨_, rfl⟩
 rw [ho] at hR
 obtain ⟨R, hRe⟩ : ∃ R, Vh l i = R := ⟨_, rfl⟩
 rw [hRe] at hR
 rw [hRe]
 have hw := YV l o.key o.res hl
 have hwd : zhG l o.key o.res = match wIx l o.key o.res with | some w => (w : Int) | none => -1 := rfl
 have hws := fun w h => xu (l := l) (key := o.key) (v := o.res) (w := w) h
 refine yd.of_body (c := (xW Try.prog zJ zy 46)) ⟨Try.func62, rfl, Try.ntmps62, by kernel_rfl⟩ (by simp [FV.hand]) (by exact Nat.le_of_ble_eq_true rfl) rfl ?_
 change FW _ _ _ ⟨[(0, .list 8 (l.map OpV.fv)), (1, .int .i64 i)], []⟩
 (repeat (first | refine FW.seq ?_ | refine FW.region ?_ | refine zd.nil ?_ | refine za rfl rfl rfl ?_ | refine zb rfl rfl rfl ?_ | refine zj rfl rfl rfl rfl rfl rfl (by simp; omega) rfl rfl ?_ | refine zI rfl rfl rfl rfl rfl rfl rfl ?_ | refine zq rfl rfl rfl (by simp; omega) (by first | exact zc (by omega) | rfl) rfl rfl rfl rfl ?_ | refine yX rfl rfl rfl rfl ?_))
 rw [ho]
 refine yb (fun h1 => ?_) (fun h1 => ?_)
 ·have h1 : ¬ o.k = 0 := by simpa using h1
  rw [decide_eq_false h1, Bool.false_and] at hR
  subst hR
  (repeat (first | refine FW.seq ?_ | refine FW.region ?_ | refine FW.condT rfl ?_ | refine zd.nil ?_ | refine za rfl rfl rfl ?_ | refine zb rfl rfl rfl ?_ | refine zC rfl rfl rfl rfl ?_ | refine zS rfl rfl ⟨_, _, rfl, rfl, rfl⟩ ?_))
  exact FW.ret ⟨.inl rfl, zA rfl rfl rfl rfl⟩
 have h1 : o.k = 0 := by simpa using h1
 rw [decide_eq_true h1, Bool.true_and] at hR
 (repeat (first | refine zb rfl rfl rfl ?_ | refine zH rfl rfl rfl rfl ?_ | refine zb rfl rfl ⟨_, _, rfl, rfl, rfl⟩ ?_ | refine zj rfl rfl rfl rfl rfl rfl (by simp; omega) rfl ⟨_, _, rfl, rfl, rfl⟩ ?_ | refine zI rfl rfl rfl rfl rfl rfl ⟨_, _, rfl, rfl, rfl⟩ ?_ | refine zq rfl rfl rfl (by simp; omega) (by first | exact zc (by omega) | rfl) rfl rfl rfl ⟨_, _, rfl, rfl, rfl⟩ ?_ | refine xn rfl rfl ⟨_, _, rfl, rfl, rfl⟩ ?_))
 rw [ho]
 cases hd : o.done with
 | false =>
  rw [hd, Bool.false_and] at hR
  subst hR
  (repeat (first | refine FW.seq ?_ | refine FW.region ?_ | refine FW.condT rfl ?_ | refine zd.nil ?_ | refine za rfl rfl rfl ?_ | refine zC rfl rfl rfl rfl ?_ | refine zS rfl rfl ⟨_, _, rfl, rfl, rfl⟩ ?_))
  exact FW.ret ⟨.inl rfl, zA rfl rfl rfl rfl⟩
 | true =>
  rw [hd, Bool.true_and] at hR
  (repeat (first | refine zd.nil ?_ | refine zH rfl rfl rfl rfl ?_ | refine zb rfl rfl ⟨_, _, rfl, rfl, rfl⟩ ?_ | refine zj rfl rfl rfl rfl rfl rfl (by simp; omega) rfl ⟨_, _, rfl, rfl, rfl⟩ ?_ | refine zI rfl rfl rfl rfl rfl rfl ⟨_, _, rfl, rfl, rfl⟩ ?_ | refine zq rfl rfl rfl (by simp; omega) (by first | exact zc (by omega) | rfl) rfl rfl rfl ⟨_, _, rfl, rfl, rfl⟩ ?_ | refine zV rfl rfl rfl ⟨_, _, rfl, rfl, rfl⟩ ?_))
  rw [ho]
  skip
  refine FW.cond rfl (fun h2 => ?_) (fun h2 => ?_)
  ·have h2 : o.res = 0 := by simpa using h2
   rw [decide_eq_false (show ¬ o.res ≠ 0 by omega), Bool.false_and] at hR
   subst hR
   (repeat (first | refine FW.seq ?_ | refine FW.region ?_ | refine zd.nil ?_ | refine za rfl rfl rfl ?_))
   exact FW.ret ⟨.inl rfl, zA rfl rfl rfl rfl⟩
  have h2 : ¬ o.res = 0 := by simpa using h2
  rw [decide_eq_true (show o.res ≠ 0 by omega), Bool.true_and] at hR
  (repeat (first | refine FW.seq ?_ | refine FW.skip ?_))
  refine FW.drawQ (by kernel_rfl) ?_
  (repeat (first | refine zF rfl rfl rfl ?_ | refine zP rfl rfl rfl rfl rfl rfl (by simp; omega) rfl rfl ?_ | refine zU rfl rfl rfl rfl rfl rfl rfl ?_ | refine zQ rfl rfl rfl (by simp; omega) (by first | exact zc (by omega) | rfl) rfl rfl rfl rfl ?_))
  rw [ho]
  skip
  refine WW hw (by repeat (first | exact zg.nil | refine zg.cons (by exact yc.plain rfl rfl) ?_)) rfl rfl ?_
  (repeat (first | refine zM.nil ?_ | refine yt rfl rfl rfl ?_))
  refine ⟨by kernel_rfl, ?_⟩
  cases hx : wIx l o.key o.res with
  | none =>
   rw [hx] at hR hwd
   dsimp only at hR hwd
   subst hR
   rw [hwd]
   (repeat (first | refine FW.seq ?_ | refine FW.region ?_ | refine FW.condT rfl ?_ | refine zd.nil ?_ | refine za rfl rfl rfl ?_ | refine zb rfl rfl rfl ?_ | refine zN rfl rfl rfl rfl ?_))
   exact FW.ret ⟨.inl rfl, zA rfl rfl rfl rfl⟩
  | some w =>
   rw [hx] at hR hwd
   dsimp only at hR hwd
   rw [hwd]
   have hbs := hbs w (hws w hx).1
   rw [← hR] at hbs
   (repeat (first | refine FW.seq ?_ | refine FW.region ?_ | refine FW.skip ?_ | refine FW.condF rfl ?_ | refine zd.nil ?_ | refine zb rfl rfl rfl ?_ | refine zN rfl rfl rfl rfl ?_))
   refine zD hbs (by repeat (first | exact zg.nil | refine zg.cons (by exact yc.plain rfl rfl) ?_)) rfl rfl ?_
   (repeat (first | refine zd.nil ?_ | refine za rfl rfl rfl ?_))
   exact FW.ret ⟨.inl rfl, zA rfl rfl rfl rfl⟩
end Go.Proofs.Ytbeebjdnapkhhaa
