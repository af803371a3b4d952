/-
  serial.writers, at plain values.
-/
import Derived.Test.YtokmanfcndelfaaZG
import Derived.Test.YtokmanfcndelfaaZSerCyc
import Derived.Test.YtokmanfcndelfaaZKeyTwo
namespace Go.Proofs.Ytokmanfcndelfaa
set_option linter.unusedVariables false
open Go.RowKit

theorem zd3 : Maps.Keyed Try.prog 57 := Maps.Keyed.of_law (deep_law_laid ziH (m := 2) (by omega) (of_decide_eq_true (by kernel_rfl)) (by kernel_rfl) (by kernel_rfl))
theorem zhK {a b : Int} (ha : I64 a) (hb : I64 b) : UK Try.prog 57 (zhL a b) :=
 ⟨rfl, zgC (i := 3) (fs := zic Try.prog 57) (by kernel_rfl) (by kernel_rfl) (by kernel_rfl) (by kernel_rfl) (by kernel_rfl) (by kernel_rfl) (by kernel_rfl) (Try.prog.types.size - 1) (by kernel_rfl) (zit ha) (zit hb)⟩
def Ye (l : List OpV) (i : Nat) : List (List FV) := ((List.range i).filter fun j => decide ((nth l j).k = 2)).map fun j => [zhL (nth l j).key (nth l j).arg, .int .i64 (j : Int)]
theorem zdE (l : List OpV) (i : Nat) : Ye l (i + 1) = Ye l i ++ if (nth l i).k = 2 then [[zhL (nth l i).key (nth l i).arg, .int .i64 (i : Int)]] else [] := by
 unfold Ye
 rw [List.range_succ, List.filter_append, List.map_append]
 congr 1
 by_cases h : (nth l i).k = 2 <;> simp [h]
theorem zaO {l : List OpV} {i : Nat} (hi : i ≤ l.length) (hin : ∀ o ∈ l, zcS o) : ∀ row ∈ Ye l i, ∀ kf, row.head? = some kf → UK Try.prog 57 kf := fun row hr kf hk => by
 obtain ⟨j, hj, rfl⟩ := List.mem_map.1 hr
 have hj' : j < i := by simpa using (List.mem_filter.1 hj).1
 have ho := hin _ (zI (show j < l.length by omega))
 injection hk with hk
 subst hk
 exact zhK ho.2.2.1 ho.2.2.2.1
def zcI (l : List OpV) (i : Nat) (a b : Int) : Option Nat := Yl (fun j => decide ((nth l j).k = 2) && decide ((nth l j).key = a) && decide ((nth l j).arg = b)) i 0
def wrV (l : List OpV) (i : Nat) (a b : Int) : Int := match zcI l i a b with | some j => j | none => 0
theorem YD {l : List OpV} {i j : Nat} {a b : Int} (h : zcI l i a b = some j) : j < i ∧ (nth l j).k = 2 ∧ (nth l j).key = a ∧ (nth l j).arg = b := by
 obtain ⟨_, h2, h3⟩ := VC h
 simp only [Bool.and_eq_true, decide_eq_true_eq] at h3
 exact ⟨by omega, h3.1.1, h3.1.2, h3.2⟩
theorem Wd {l : List OpV} {i : Nat} {a b : Int} (h : zcI l i a b = none) : ∀ j, j < i → ¬ ((nth l j).k = 2 ∧ (nth l j).key = a ∧ (nth l j).arg = b) := fun j hj hc => by
 have := VB h j (Nat.zero_le _) (by omega)
 simp [hc.1, hc.2.1, hc.2.2] at this
theorem zcJ {l : List OpV} {i : Nat} {a b : Int} (h : zcI l i a b = none) : ∀ row ∈ Ye l i, row.head? ≠ some (zhL a b) := fun row hr he => by
 obtain ⟨j, hj, rfl⟩ := List.mem_map.1 hr
 obtain ⟨h1, h2⟩ := List.mem_filter.1 hj
 injection he with he
 obtain ⟨e1, e2⟩ := zhM he
 exact Wd h j (by simpa using h1) ⟨by simpa using h2, e1, e2⟩
theorem zgI (l : List OpV) (i : Nat) (a b : Int) : zeq (Ye l i) (zhL a b) (.int .i64 0) (.int .i64 (wrV l i a b)) (zcI l i a b).isSome := by
 unfold wrV
 cases h : zcI l i a b with
 | none => exact .inr ⟨rfl, rfl, zcJ h⟩
 | some j =>
  obtain ⟨h1, h2, h3, h4⟩ := YD h
  exact .inl ⟨rfl, List.mem_map.2 ⟨j, List.mem_filter.2 ⟨by simpa using h1, by simpa using h2⟩, by rw [h3, h4]⟩⟩
theorem zhk {l : List OpV} {a b : Int} : (zcI l l.length a b).isSome = Yb l a b := by
 cases h : zcI l l.length a b with
 | none =>
  cases hw : Yb l a b with
  | false => rfl
  | true =>
   obtain ⟨w, h1, h2⟩ := UI.1 hw
   exact absurd h2 (Wd h w h1)
 | some j =>
  obtain ⟨h1, h2⟩ := YD h
  exact (UI.2 ⟨j, h1, h2⟩).symm
theorem zhj {l : List OpV} {i : Nat} (hi : i ≤ l.length) {a b : Int} : (zcI l i a b).isSome = Yb (l.take i) a b := by
 cases h : zcI l i a b with
 | none =>
  cases hw : Yb (l.take i) a b with
  | false => rfl
  | true =>
   obtain ⟨w, h1, h2⟩ := (XZ hi).1 hw
   exact absurd h2 (Wd h w h1)
 | some j =>
  obtain ⟨h1, h2⟩ := YD h
  exact ((XZ hi).2 ⟨j, h1, h2⟩).symm
theorem zgP {l : List OpV} (hok : zgK l l.length = true) (i : Nat) : zch l i = match zcI l l.length (nth l i).key (nth l i).res with | none => false | some j => (nth l i).done && !(nth l j).done := by
 have hu := (zeb (Nat.le_refl _)).1 hok
 unfold zch
 cases h : zcI l l.length (nth l i).key (nth l i).res with
 | none =>
  dsimp only
  have : (l.any fun o => decide (o.k = 2) && decide (o.key = (nth l i).key) && decide (o.arg = (nth l i).res) && !o.done) = false := by
   rw [List.any_eq_false]
   intro o ho
   obtain ⟨w, hw, rfl⟩ := List.getElem_of_mem ho
   rw [← nth_eq hw]
   have := Wd h w hw
   simp only [Bool.and_eq_true, decide_eq_true_eq, not_and]
   intro hc
   exact absurd ⟨hc.1.1, hc.1.2, hc.2⟩ this
  rw [this, Bool.and_false]
 | some j =>
  dsimp only
  obtain ⟨h1, h2, h3, h4⟩ := YD h
  congr 1
  cases hd : (nth l j).done with
  | false =>
   rw [Bool.not_false, List.any_eq_true]
   exact ⟨_, zI h1, by simp [h2, h3, h4, hd]⟩
  | true =>
   rw [Bool.not_true, List.any_eq_false]
   intro o ho
   obtain ⟨w, hw, rfl⟩ := List.getElem_of_mem ho
   rw [← nth_eq hw]
   intro hc
   simp only [Bool.and_eq_true, decide_eq_true_eq, Bool.not_eq_true'] at hc
   have : w = j := by
    rcases Nat.lt_trichotomy w j with hlt | e | hgt
    ·exact absurd (hc.1.2.trans h4.symm) (hu.uniq w j hlt h1 hc.1.1.1 h2 (hc.1.1.2.trans h3.symm))
    ·exact e
    ·exact absurd (h4.trans hc.1.2.symm) (hu.uniq j w hgt hw h2 hc.1.1.1 (h3.trans hc.1.1.2.symm))
   subst this
   rw [hd] at hc
   exact absurd hc.2 (by decide)
def wM (l : List OpV) (b : Bool) : FV := if b = true then .smap (Ye l l.length) else .undef
set_option maxHeartbeats 4000000 in
theorem zbj (l : List OpV) (hl : l.length ≤ 1000000000) (hin : ∀ o ∈ l, zcS o) : yc Try.prog 15 [.list 8 (l.map OpV.fv)] .sh (.tup [wM l (ZQ l), .bool (ZQ l)]) := by
 obtain ⟨n, hn⟩ : ∃ n, l.length = n := ⟨_, rfl⟩
 have hret : ∀ b, ZQ l = b → FV.tup [wM l (ZQ l), .bool (ZQ l)] = .tup [wM l b, .bool b] := fun b h => by rw [h]
 refine yc.of_body (c := (xB Try.prog zE zq 80)) ⟨Try.func15, rfl, Try.ntmps15, by kernel_rfl⟩ (by simp [FV.hand]) (by exact Nat.le_of_ble_eq_true rfl) rfl ?_
 change FW _ _ _ ⟨[(0, .list 8 (l.map OpV.fv))], []⟩
 (repeat (first | refine FW.seq ?_ | refine FW.region ?_ | refine FW.block ?_ | refine zd.nil ?_ | refine za rfl rfl rfl ?_ | refine zfq rfl rfl rfl ?_ | refine zb rfl rfl rfl ?_ | refine zg rfl rfl (by exact List.length_map _) rfl rfl ?_))
 rw [hn]
 refine FW.loop (fun i : Nat => ⟨[(0, .list 8 (l.map OpV.fv)), (4, .omap 100 0), (15, .list 8 (l.map OpV.fv)), (16, .int .i64 n), (17, .int .i64 i)], [(100, ⟨0, .mapo, 52, 0, Ye l i⟩)]⟩) (fun i => i ≤ n ∧ zgK l i = true) (fun i => n - i) 0 ⟨Nat.zero_le _, rfl⟩
  (FLe.cv [⟨100, some 14, 1, ⟨0, .mapo, 52, 0, []⟩⟩] (by repeat (first | exact .nil | refine .old rfl (by decide) rfl ?_)) (by repeat (first | exact .nil | refine .cons (.plain rfl rfl rfl) ?_ | refine .cons (.omap rfl (.head _) rfl) ?_))) ?_
 rintro i ⟨hi, hok⟩
 have hwi := zaO (l := l) (i := i) (by omega) hin
 have hws := zdE l i
 have hlk := zgI l i
 have hno := fun a b h => zcJ (l := l) (i := i) (a := a) (b := b) h
 have hos := zgL l i
 have htk := fun a b => zhj (l := l) (i := i) (show i ≤ l.length by omega) (a := a) (b := b)
 have hbad : ∀ j, j ≤ n → zgK l j = false → ZQ l = false := fun j hj h => by
  unfold ZQ
  have : zgK l l.length = false := by
   unfold zgK at h ⊢
   rw [List.all_eq_false] at h ⊢
   obtain ⟨x, hx, hp⟩ := h
   exact ⟨x, List.mem_range.2 (by have := List.mem_range.1 hx; omega), hp⟩
  rw [this]; rfl
 generalize hR : Ye l i = R at hwi hws hlk hno
 (repeat (first | refine FW.seq ?_ | refine FW.region ?_ | refine zd.nil ?_ | refine zN rfl rfl rfl rfl ?_))
 refine FW.cond rfl (fun h => ?_) (fun h => ?_)
 ·have hlt : i < n := by simpa using h
  clear h
  have hlt2 : i < l.length := by omega
  have ho := hin _ (zI hlt2)
  have hkf := zhK ho.2.2.1 ho.2.2.2.1
  have hbad := hbad (i + 1) (by omega)
  obtain ⟨o, hoo⟩ : ∃ o, nth l i = o := ⟨_, rfl⟩
  have hoa : zjh l i = (okK o && !(decide (o.k = 2) && (zcI l i o.key o.arg).isSome)) := by unfold zjh; rw [hoo, htk]
  rw [hoo] at ho hkf hws
  rw [hok, Bool.true_and, hoa] at hos
  have hlk := hlk o.key o.arg
  have hno := hno o.key o.arg
  clear htk hoa
  (repeat (first | refine FW.seq ?_ | refine FW.region ?_ | refine FW.block ?_ | refine FW.skip ?_ | refine zd.nil ?_ | refine za rfl rfl rfl ?_ | refine zb rfl rfl rfl ?_ | refine zh rfl rfl rfl rfl rfl rfl (by first | (simp; omega) | (simp; done)) rfl rfl ?_ | refine zm rfl rfl rfl rfl rfl (by first | (simp; omega) | (simp; done)) (by first | exact zc (by omega) | rfl) rfl rfl rfl rfl ?_ | refine yG rfl rfl rfl (by decide) (by first | (simp; omega) | (simp; done)) (by first | exact zc (by omega) | rfl) rfl rfl rfl ?_ | refine yu rfl rfl rfl rfl rfl rfl rfl ?_ | refine zP rfl rfl rfl rfl rfl rfl rfl rfl rfl ?_ | refine zi rfl rfl rfl rfl rfl rfl (by decide) rfl rfl ?_ | refine zU rfl rfl rfl rfl ?_))
  rw [hoo]
  skip
  refine FW.cond rfl (fun h0 => ?_) (fun h0 => ?_)
  ·have h0 : o.k = 0 := by simpa using h0
   rw [if_neg (by omega), List.append_nil] at hws
   (repeat (first | refine FW.region ?_ | refine FW.exit ?_ | refine zd.nil ?_ | refine zb rfl rfl rfl ?_ | refine zw rfl rfl (by omega) rfl rfl ?_))
   refine ⟨i + 1, ⟨by omega, by rw [hos]; simp [okK, h0]⟩, by omega, ?_⟩
   rw [hws]
   exact (FLe.cv [⟨100, some 100, 0, ⟨0, .mapo, 52, 0, R⟩⟩] (by repeat (first | exact .nil | refine .old rfl (by decide) rfl ?_)) (by repeat (first | exact .nil | refine .cons (.plain rfl rfl rfl) ?_ | refine .cons (.omap rfl (.head _) rfl) ?_)))
  ·have h0 : ¬ o.k = 0 := by simpa using h0
   (repeat (first | refine FW.seq ?_ | refine FW.region ?_ | refine zd.nil ?_ | refine za rfl rfl rfl ?_ | refine zU rfl rfl rfl rfl ?_))
   refine FW.cond rfl (fun h2 => ?_) (fun h2 => ?_)
   ·have h2 : o.k = 2 := by simpa using h2
    rw [if_pos h2] at hws
    (repeat (first | refine FW.seq ?_ | refine FW.region ?_ | refine FW.skip ?_ | refine zd.nil ?_ | refine zb rfl rfl rfl ?_ | refine zm rfl rfl rfl rfl rfl (by simp; done) rfl rfl rfl rfl rfl ?_ | refine yL rfl rfl rfl (by decide) rfl rfl (by simp; done) rfl rfl rfl rfl ?_ | refine yu rfl rfl rfl rfl rfl rfl rfl ?_ | refine zP rfl rfl rfl rfl rfl rfl rfl rfl rfl ?_ | refine zi rfl rfl rfl rfl rfl rfl (by decide) rfl rfl ?_ | refine yA rfl rfl rfl rfl ?_ | refine yO.nil ?_ | refine yO.one rfl rfl rfl rfl rfl ?_))
    refine zcy (e := 3) zd3 hwi hkf hlk rfl rfl (by decide) rfl rfl rfl rfl rfl rfl ?_
    (repeat (first | refine FW.seq ?_ | refine FW.region ?_ | refine zd.nil ?_ | refine za rfl rfl rfl ?_ | refine zb rfl rfl rfl ?_ | refine yv rfl rfl rfl rfl rfl ?_))
    cases hf : zcI l i o.key o.arg with
    | some j =>
     rw [hf] at hos
     (repeat (first | refine FW.seq ?_ | refine FW.region ?_ | refine FW.condT rfl ?_ | refine zd.nil ?_ | refine za rfl rfl rfl ?_ | refine zu rfl rfl rfl rfl ?_ | refine zK rfl rfl ⟨_, _, rfl, rfl, rfl⟩ ?_))
     have hd := hbad (by rw [hos]; simp [h2])
     rw [hret false hd]
     exact FW.ret ⟨.inl rfl, .sh (.cons (.tmp 2 rfl rfl) (.cons (.tmp 3 rfl rfl) .nil)) rfl rfl⟩
    | none =>
     rw [hf] at hos
     have hno := hno hf
     (repeat (first | refine zd.nil ?_ | refine zn rfl rfl rfl rfl ?_ | refine zi rfl rfl rfl rfl rfl rfl (by decide) rfl ⟨_, _, rfl, rfl, rfl⟩ ?_ | refine zm rfl rfl rfl rfl rfl (by simp; done) rfl rfl rfl rfl ⟨_, _, rfl, rfl, rfl⟩ ?_ | refine zU rfl rfl rfl ⟨_, _, rfl, rfl, rfl⟩ ?_))
     refine FW.cond rfl (fun h4 => ?_) (fun h4 => ?_)
     ·have h4 : o.arg = 0 := by simpa using h4
      (repeat (first | refine FW.seq ?_ | refine FW.region ?_ | refine zd.nil ?_ | refine za rfl rfl rfl ?_))
      have hd := hbad (by rw [hos]; simp [okK, h2, h4])
      rw [hret false hd]
      exact FW.ret ⟨.inl rfl, .sh (.cons (.tmp 2 rfl rfl) (.cons (.tmp 3 rfl rfl) .nil)) rfl rfl⟩
     ·have h4 : ¬ o.arg = 0 := by simpa using h4
      (repeat (first | refine FW.region ?_ | refine FW.skip ?_ | refine zb rfl rfl rfl ?_ | refine yL rfl rfl rfl (by decide) rfl rfl (by simp; done) rfl rfl rfl rfl ?_))
      refine zg5 zd3 hwi hkf (.inr ⟨hno, rfl⟩) rfl rfl rfl rfl rfl rfl rfl ?_
      (repeat (first | refine FW.region ?_ | refine zd.nil ?_ | refine zb rfl rfl rfl ?_ | refine zw rfl rfl (by omega) rfl rfl ?_))
      refine ⟨i + 1, ⟨by omega, by rw [hos]; simp [okK, h2, h4]⟩, by omega, ?_⟩
      rw [hws]
      exact (FLe.cv [⟨100, some 100, 0, ⟨0, .mapo, 52, 0, R ++ [[zhL o.key o.arg, .int .i64 (i : Int)]]⟩⟩] (by repeat (first | exact .nil | refine .old rfl (by decide) rfl ?_)) (by repeat (first | exact .nil | refine .cons (.plain rfl rfl rfl) ?_ | refine .cons (.omap rfl (.head _) rfl) ?_)))
   ·have h2 : ¬ o.k = 2 := by simpa using h2
    (repeat (first | refine FW.seq ?_ | refine FW.region ?_ | refine zd.nil ?_ | refine za rfl rfl rfl ?_))
    have hd := hbad (by rw [hos]; simp [okK, h0, h2])
    rw [hret false hd]
    exact FW.ret ⟨.inl rfl, .sh (.cons (.tmp 2 rfl rfl) (.cons (.tmp 3 rfl rfl) .nil)) rfl rfl⟩
 ·obtain rfl : i = n := by simp at h; omega
  subst hn
  have hpw := zgP hok
  have hpn : ∀ j, j ≤ l.length → Xc l j = true → ZQ l = false := fun j hj h => by
   unfold ZQ
   have : Xc l l.length = true := by
    unfold Xc at h ⊢
    rw [List.any_eq_true] at h ⊢
    obtain ⟨x, hx, hp⟩ := h
    exact ⟨x, List.mem_range.2 (by have := List.mem_range.1 hx; omega), hp⟩
   rw [this]; simp
  have hyes : Xc l l.length = false → ZQ l = true := fun h => by unfold ZQ; rw [hok, h]; rfl
  have hgl : R = Ye l l.length := hR.symm
  obtain ⟨n, hn⟩ : ∃ n, n = l.length := ⟨_, rfl⟩
  rw [← hn] at hlk hpn hyes hpw hgl ⊢
  (repeat (first | refine FW.seq ?_ | refine FW.region ?_ | refine FW.block ?_ | refine FW.exit ?_ | refine zd.nil ?_ | refine zb rfl rfl rfl ?_ | refine zg rfl rfl (by exact List.length_map _) rfl rfl ?_))
  rw [← hn]
  refine FW.loop (fun i : Nat => ⟨[(0, .list 8 (l.map OpV.fv)), (4, .omap 100 0), (49, .list 8 (l.map OpV.fv)), (50, .int .i64 n), (51, .int .i64 i)], [(100, ⟨0, .mapo, 52, 0, R⟩)]⟩) (fun i => i ≤ n ∧ Xc l i = false) (fun i => n - i) 0 ⟨Nat.zero_le _, rfl⟩
   (FLe.cv [⟨100, some 100, 0, ⟨0, .mapo, 52, 0, R⟩⟩] (by repeat (first | exact .nil | refine .old rfl (by decide) rfl ?_)) (by repeat (first | exact .nil | refine .cons (.plain rfl rfl rfl) ?_ | refine .cons (.omap rfl (.head _) rfl) ?_))) ?_
  rintro i ⟨hi, hpd⟩
  have hps := zdn l i
  rw [hpd, Bool.false_or, hpw] at hps
  (repeat (first | refine FW.seq ?_ | refine FW.region ?_ | refine zd.nil ?_ | refine zN rfl rfl rfl rfl ?_))
  refine FW.cond rfl (fun h => ?_) (fun h => ?_)
  ·have hlt : i < n := by simpa using h
   clear h
   have hlt2 : i < l.length := by omega
   have ho := hin _ (zI hlt2)
   have hkf := zhK ho.2.2.1 ho.2.2.2.2.1
   have hpn := hpn (i + 1) (by omega)
   obtain ⟨o, hoo⟩ : ∃ o, nth l i = o := ⟨_, rfl⟩
   rw [hoo] at hkf hps
   have hlk := hlk o.key o.res
   (repeat (first | refine FW.seq ?_ | refine FW.region ?_ | refine FW.block ?_ | refine FW.skip ?_ | refine zd.nil ?_ | refine zb rfl rfl rfl ?_ | refine zh rfl rfl rfl rfl rfl rfl (by first | (simp; omega) | (simp; done)) rfl rfl ?_ | refine zm rfl rfl rfl rfl rfl (by first | (simp; omega) | (simp; done)) (by first | exact zc (by omega) | rfl) rfl rfl rfl rfl ?_ | refine yG rfl rfl rfl (by decide) (by first | (simp; omega) | (simp; done)) (by first | exact zc (by omega) | rfl) rfl rfl rfl ?_ | refine yu rfl rfl rfl rfl rfl rfl rfl ?_ | refine zP rfl rfl rfl rfl rfl rfl rfl rfl rfl ?_ | refine zi rfl rfl rfl rfl rfl rfl (by decide) rfl rfl ?_ | refine yA rfl rfl rfl rfl ?_ | refine yO.nil ?_ | refine yO.one rfl rfl rfl rfl rfl ?_))
   rw [hoo]
   skip
   refine zcy (e := 3) zd3 hwi hkf hlk rfl rfl (by decide) rfl rfl rfl rfl rfl rfl ?_
   (repeat (first | refine FW.seq ?_ | refine FW.region ?_ | refine zd.nil ?_ | refine za rfl rfl rfl ?_ | refine zb rfl rfl rfl ?_ | refine yv rfl rfl rfl rfl rfl ?_))
   cases hf : zcI l n o.key o.res with
   | none =>
    rw [hf] at hps
    (repeat (first | refine FW.region ?_ | refine FW.skip ?_ | refine FW.condF rfl ?_ | refine zd.nil ?_ | refine zb rfl rfl rfl ?_ | refine zn rfl rfl rfl rfl ?_ | refine zw rfl rfl (by omega) rfl rfl ?_ | refine zK rfl rfl ⟨_, _, rfl, rfl, rfl⟩ ?_))
    refine ⟨i + 1, ⟨by omega, hps⟩, by omega, ?_⟩
    exact (FLe.cv [⟨100, some 100, 0, ⟨0, .mapo, 52, 0, R⟩⟩] (by repeat (first | exact .nil | refine .old rfl (by decide) rfl ?_)) (by repeat (first | exact .nil | refine .cons (.plain rfl rfl rfl) ?_ | refine .cons (.omap rfl (.head _) rfl) ?_)))
   | some j =>
    rw [hf] at hps
    dsimp only at hps
    have hjl : j < l.length := by have := (YD hf).1; omega
    have hwv : wrV l n o.key o.res = j := by unfold wrV; rw [hf]
    rw [hwv]
    (repeat (first | refine zb rfl rfl rfl ?_ | refine zu rfl rfl rfl rfl ?_ | refine zi rfl rfl rfl rfl rfl rfl (by decide) rfl ⟨_, _, rfl, rfl, rfl⟩ ?_ | refine zm rfl rfl rfl rfl rfl (by simp; done) rfl rfl rfl rfl ⟨_, _, rfl, rfl, rfl⟩ ?_))
    cases hd : o.done with
    | false =>
     rw [hd, Bool.false_and] at hps
     (repeat (first | refine FW.region ?_ | refine FW.skip ?_ | refine FW.condF rfl ?_ | refine zd.nil ?_ | refine zb rfl rfl rfl ?_ | refine zn rfl rfl rfl rfl ?_ | refine zw rfl rfl (by omega) rfl rfl ?_ | refine zK rfl rfl ⟨_, _, rfl, rfl, rfl⟩ ?_))
     refine ⟨i + 1, ⟨by omega, hps⟩, by omega, ?_⟩
     exact (FLe.cv [⟨100, some 100, 0, ⟨0, .mapo, 52, 0, R⟩⟩] (by repeat (first | exact .nil | refine .old rfl (by decide) rfl ?_)) (by repeat (first | exact .nil | refine .cons (.plain rfl rfl rfl) ?_ | refine .cons (.omap rfl (.head _) rfl) ?_)))
    | true =>
     rw [hd, Bool.true_and] at hps
     (repeat (first | refine zd.nil ?_ | refine zu rfl rfl rfl rfl ?_ | refine yU rfl rfl rfl rfl rfl rfl ⟨_, _, rfl, rfl, rfl⟩ ?_ | refine zA rfl rfl rfl (by simp; omega) (by first | exact zc (by omega) | rfl) rfl rfl rfl ⟨_, _, rfl, rfl, rfl⟩ ?_ | refine zb rfl rfl ⟨_, _, rfl, rfl, rfl⟩ ?_ | refine zh rfl rfl rfl rfl rfl rfl (by simp; omega) rfl ⟨_, _, rfl, rfl, rfl⟩ ?_ | refine xd rfl rfl ⟨_, _, rfl, rfl, rfl⟩ ?_))
     cases hdj : (nth l j).done with
     | true =>
      rw [hdj] at hps
      (repeat (first | refine FW.region ?_ | refine FW.skip ?_ | refine FW.condF rfl ?_ | refine zd.nil ?_ | refine zb rfl rfl rfl ?_ | refine zw rfl rfl (by omega) rfl rfl ?_))
      refine ⟨i + 1, ⟨by omega, hps⟩, by omega, ?_⟩
      exact (FLe.cv [⟨100, some 100, 0, ⟨0, .mapo, 52, 0, R⟩⟩] (by repeat (first | exact .nil | refine .old rfl (by decide) rfl ?_)) (by repeat (first | exact .nil | refine .cons (.plain rfl rfl rfl) ?_ | refine .cons (.omap rfl (.head _) rfl) ?_)))
     | false =>
      rw [hdj] at hps
      (repeat (first | refine FW.seq ?_ | refine FW.region ?_ | refine FW.condT rfl ?_ | refine zd.nil ?_ | refine za rfl rfl rfl ?_))
      rw [hret false (hpn hps)]
      exact FW.ret ⟨.inl rfl, .sh (.cons (.tmp 2 rfl rfl) (.cons (.tmp 3 rfl rfl) .nil)) rfl rfl⟩
  ·obtain rfl : i = n := by simp at h; omega
   (repeat (first | refine FW.seq ?_ | refine FW.region ?_ | refine FW.exit ?_ | refine zd.nil ?_ | refine za rfl rfl rfl ?_ | refine zb rfl rfl rfl ?_))
   refine FW.le ?_ (FLe.shareMap 2 rfl rfl)
   rw [hret true (hyes hpd), hgl, hn]
   exact FW.ret ⟨.inl rfl, .sh (.cons (.tmp 2 rfl rfl) (.cons (.tmp 3 rfl rfl) .nil)) rfl rfl⟩
end Go.Proofs.Ytokmanfcndelfaa
