/-
  Functions of package linear, at plain values: value, writers, included.
-/
import Derived.Test.YtbeebjdnapkhhaaZG
import Derived.Test.YtbeebjdnapkhhaaZKeyTwo
import Derived.Test.YtbeebjdnapkhhaaZFmQt
import Derived.Test.YtbeebjdnapkhhaaZV
namespace Go.Proofs.Ytbeebjdnapkhhaa
set_option linter.unusedVariables false
open Go.RowKit

def UU (o : OpV) : Int := if o.k = 1 then o.arg else o.res
def Zx (o : OpV) : FV := Vk o.key (UU o)
def wOf (key v : Int) (o : OpV) : Bool := decide (o.k = 1) && (decide (o.key = key) && decide (o.arg = v))
theorem YW {key v : Int} {o : OpV} : wOf key v o = true ↔ o.k = 1 ∧ o.key = key ∧ o.arg = v := by simp [wOf]
def okW (l : List OpV) (i : Nat) : Prop := (nth l i).k = 0 ∨ ((nth l i).k = 1 ∧ (nth l i).arg ≠ 0 ∧ ∀ j, j < i → wOf (nth l i).key (nth l i).arg (nth l j) = false)
instance (l : List OpV) (i : Nat) : Decidable (okW l i) := by unfold okW; infer_instance
def yq (l : List OpV) : Prop := ∀ i, i < l.length → okW l i
instance (l : List OpV) : Decidable (yq l) := by unfold yq; infer_instance
def YX (l : List OpV) (i : Nat) : List (List FV) := ((List.range i).filter fun j => decide ((nth l j).k = 1)).map fun j => [Vk (nth l j).key (nth l j).arg, .int .i64 (j : Int)]
theorem zfS (l : List OpV) (i : Nat) : YX l (i + 1) = YX l i ++ if (nth l i).k = 1 then [[Vk (nth l i).key (nth l i).arg, .int .i64 (i : Int)]] else [] := by
 unfold YX
 rw [List.range_succ, List.filter_append, List.map_append]
 congr 1
 by_cases h : (nth l i).k = 1 <;> simp [h]
theorem We : Maps.Keyed Try.prog 104 := Maps.Keyed.of_law (deep_law_laid zjB (m := 2) (by omega) (of_decide_eq_true (by kernel_rfl)) (by kernel_rfl) (by kernel_rfl))
theorem zau {a b : Int} (ha : I64 a) (hb : I64 b) : XN Try.prog 104 (Vk a b) :=
 ⟨rfl, zgN (i := 3) (fs := ziQ Try.prog 104) (by kernel_rfl) (by kernel_rfl) (by kernel_rfl) (by kernel_rfl) (by kernel_rfl) (by kernel_rfl) (by kernel_rfl) (Try.prog.types.size - 1) (by kernel_rfl) (zgT ha) (zgT hb)⟩
theorem Yd {l : List OpV} {i : Nat} (hi : i ≤ l.length) (hin : ∀ o ∈ l, zdm o) : ∀ row ∈ YX l i, ∀ kf, row.head? = some kf → XN Try.prog 104 kf := fun row hr kf hk => by
 obtain ⟨j, hj, rfl⟩ := List.mem_map.1 hr
 have hj' : j < i := by simpa using (List.mem_filter.1 hj).1
 have ho := hin _ (zn (show j < l.length by omega))
 injection hk with hk
 subst hk
 exact zau ho.2.2.1 ho.2.2.2.1
theorem UX {l : List OpV} {i j : Nat} {a b : Int} (hj : j < i) (h : wOf a b (nth l j) = true) : [Vk a b, .int .i64 (j : Int)] ∈ YX l i := by
 rw [YW] at h
 exact List.mem_map.2 ⟨j, List.mem_filter.2 ⟨by simpa using hj, by simpa using h.1⟩, by rw [h.2.1, h.2.2]⟩
theorem zcH {a b c d : Int} (h : Vk a b = Vk c d) : a = c ∧ b = d := by
 unfold Vk at h
 injection h with h
 injection h with h1 h
 injection h with h2 h
 injection h1 with _ h1
 injection h2 with _ h2
 exact ⟨h1, h2⟩
theorem Xk {l : List OpV} {i : Nat} {a b : Int} (h : ∀ j, j < i → wOf a b (nth l j) = false) : ∀ row ∈ YX l i, row.head? ≠ some (Vk a b) := fun row hr he => by
 obtain ⟨j, hj, rfl⟩ := List.mem_map.1 hr
 obtain ⟨h1, h2⟩ := List.mem_filter.1 hj
 injection he with he
 obtain ⟨e1, e2⟩ := zcH he
 have := h j (by simpa using h1)
 rw [show wOf a b (nth l j) = true from YW.2 ⟨by simpa using h2, e1, e2⟩] at this
 cases this
def wIx (l : List OpV) (key v : Int) : Option Nat := l.findIdx? (wOf key v)
theorem Zk {l : List OpV} {key v : Int} {w : Nat} (h : wIx l key v = some w) : w < l.length ∧ wOf key v (nth l w) = true ∧ ∀ j, j < w → wOf key v (nth l j) = false := by
 unfold wIx at h
 rw [List.findIdx?_eq_some_iff_getElem] at h
 obtain ⟨h1, h2, h3⟩ := h
 refine ⟨h1, by rw [zi h1]; exact h2, fun j hj => ?_⟩
 rw [zi (by omega)]
 simpa using h3 j hj
theorem zbW {l : List OpV} {key v : Int} (h : wIx l key v = none) : ∀ j, j < l.length → wOf key v (nth l j) = false := fun j hj => by
 unfold wIx at h
 rw [List.findIdx?_eq_none_iff] at h
 exact h _ (zn hj)
def zhH (l : List OpV) (a b : Int) : Int := ((wIx l a b).getD 0 : Nat)
theorem zkt (l : List OpV) (a b : Int) : zb2 (YX l l.length) (Vk a b) (.int .i64 0) (.int .i64 (zhH l a b)) (wIx l a b).isSome := by
 unfold zhH
 cases h : wIx l a b with
 | none => exact .inr ⟨rfl, rfl, Xk (zbW h)⟩
 | some w => exact .inl ⟨rfl, UX (Zk h).1 (Zk h).2.1⟩

theorem Zn (o : OpV) : yg Try.prog 54 [.agg o.fv] .fr (Zx o) := by
 obtain ⟨kk, hkk⟩ : ∃ kk, Zx o = kk := ⟨_, rfl⟩
 have hk1 : o.k = 1 → kk = Vk o.key o.arg := fun h => by rw [← hkk]; unfold Zx UU; rw [if_pos h]
 have hk0 : o.k ≠ 1 → kk = Vk o.key o.res := fun h => by rw [← hkk]; unfold Zx UU; rw [if_neg h]
 have hkh : kk.hand = none := by rw [← hkk]; rfl
 rw [hkk]
 refine yg.of_body (c := (Zy Try.prog zG zA 16)) ⟨Try.func54, rfl, Try.ntmps54, by kernel_rfl⟩ (by simp [FV.hand]) (by exact Nat.le_of_ble_eq_true rfl) hkh ?_
 change FW _ _ _ ⟨[(0, .agg o.fv)], []⟩
 (repeat (first | refine FW.seq ?_ | refine FW.region ?_ | refine zc.nil ?_ | refine WO rfl rfl rfl rfl rfl rfl rfl ?_ | refine zY rfl rfl rfl rfl rfl rfl rfl ?_ | refine zt rfl rfl rfl rfl rfl rfl (by decide) rfl rfl ?_ | refine zq rfl rfl rfl rfl rfl (by simp; done) rfl rfl rfl rfl rfl ?_ | refine yU rfl rfl rfl rfl ?_))
 refine FW.cond rfl (fun h => ?_) (fun h => ?_)
 ·obtain rfl := hk1 (by simpa using h)
  (repeat (first | refine FW.seq ?_ | refine FW.region ?_ | refine zc.nil ?_ | refine zt rfl rfl rfl rfl rfl rfl (by decide) rfl rfl ?_ | refine zq rfl rfl rfl rfl rfl (by simp; done) rfl rfl rfl rfl rfl ?_ | refine yI rfl rfl rfl rfl ?_ | refine zC rfl rfl rfl rfl rfl rfl rfl rfl rfl ?_ | refine yP.nil ?_ | refine yP.one rfl rfl rfl rfl rfl ?_))
  exact FW.ret ⟨.inl rfl, .flat (.cons (.cell 2 _ rfl rfl (zR rfl (by decide)) rfl (by exact Nat.le_of_ble_eq_true rfl) (by exact Nat.le_of_ble_eq_true rfl) (by exact Nat.le_of_ble_eq_true rfl)) .nil) rfl rfl⟩
 ·obtain rfl := hk0 (by simpa using h)
  (repeat (first | refine FW.seq ?_ | refine FW.region ?_ | refine FW.skip ?_ | refine zc.nil ?_ | refine zt rfl rfl rfl rfl rfl rfl (by decide) rfl rfl ?_ | refine zq rfl rfl rfl rfl rfl (by simp; done) rfl rfl rfl rfl rfl ?_ | refine yI rfl rfl rfl rfl ?_ | refine zC rfl rfl rfl rfl rfl rfl rfl rfl rfl ?_ | refine yP.nil ?_ | refine yP.one rfl rfl rfl rfl rfl ?_))
  exact FW.ret ⟨.inl rfl, .flat (.cons (.cell 2 _ rfl rfl (zR rfl (by decide)) rfl (by exact Nat.le_of_ble_eq_true rfl) (by exact Nat.le_of_ble_eq_true rfl) (by exact Nat.le_of_ble_eq_true rfl)) .nil) rfl rfl⟩
set_option maxHeartbeats 4000000 in
theorem zdh (l : List OpV) (hl : l.length ≤ 1000000000) (hin : ∀ o ∈ l, zdm o) : yg Try.prog 35 [.list 8 (l.map OpV.fv)] .sh (.tup [if yq l then .smap (YX l l.length) else .undef, .bool (decide (yq l))]) := by
 refine yg.of_body (c := (Zy Try.prog zG zA 42)) ⟨Try.func35, rfl, Try.ntmps35, by kernel_rfl⟩ (by simp [FV.hand]) (by exact Nat.le_of_ble_eq_true rfl) rfl ?_
 change FW _ _ _ ⟨[(0, .list 8 (l.map OpV.fv))], []⟩
 (repeat (first | refine FW.seq ?_ | refine FW.region ?_ | refine FW.block ?_ | refine zc.nil ?_ | refine za rfl rfl rfl ?_ | refine WR rfl rfl rfl ?_ | refine zb rfl rfl rfl ?_ | refine zm rfl rfl (by exact List.length_map _) rfl rfl ?_))
 refine FW.loop (fun i : Nat => ⟨[(4, .omap 100 0), (10, .list 8 (l.map OpV.fv)), (11, .int .i64 l.length), (12, .int .i64 i)], [(100, ⟨0, .mapo, 67, 0, YX l i⟩)]⟩) (fun i => i ≤ l.length ∧ ∀ j, j < i → okW l j) (fun i => l.length - i) 0 (by simp)
  (FLe.conv [⟨100, some 9, 1, ⟨0, .mapo, 67, 0, []⟩⟩] (by simp) (by simp) rfl (by repeat (first | exact .nil | refine .low rfl ?_ | refine .same rfl ?_ | refine .bump (Nat.lt_succ_self _) ?_)) (by repeat (first | exact .nil | refine .old rfl (by decide) rfl ?_)) (by repeat (first | exact .nil | refine .cons (.plain rfl rfl rfl) ?_ | refine .cons (.omap rfl (.head _) rfl) ?_))) ?_
 rintro i ⟨hi, hok⟩
 (repeat (first | refine FW.seq ?_ | refine FW.region ?_ | refine zc.nil ?_ | refine zH rfl rfl rfl rfl ?_))
 refine FW.cond rfl (fun h => ?_) (fun h => ?_)
 ·have hlt : i < l.length := by simpa using h
  clear h
  have step : okW l i → ∀ j, j < i + 1 → okW l j := fun h0 j hj => by
   rcases Nat.lt_or_ge j i with h1 | h1
   ·exact hok j h1
   ·have : j = i := by omega
    subst this; exact h0
  have bad : ¬ okW l i → ¬ yq l := fun h0 hd => h0 (hd i hlt)
  have ho := hin _ (zn hlt)
  obtain ⟨o, hoe⟩ : ∃ o, nth l i = o := ⟨_, rfl⟩
  have hvs := Zn o
  unfold okW at step bad
  have hws := zfS l i
  rw [hoe] at step bad ho hws
  (repeat (first | refine FW.seq ?_ | refine FW.region ?_ | refine FW.block ?_ | refine FW.skip ?_ | refine zc.nil ?_ | refine za rfl rfl rfl ?_ | refine zb rfl rfl rfl ?_ | refine zD rfl rfl rfl rfl rfl rfl (by first | (simp; omega) | (simp; done)) rfl rfl ?_ | refine zq rfl rfl rfl rfl rfl (by first | (simp; omega) | (simp; done)) (by first | exact zd (by omega) | rfl) rfl rfl rfl rfl ?_ | refine yV rfl rfl rfl (by decide) (by first | (simp; omega) | (simp; done)) (by first | exact zd (by omega) | rfl) rfl rfl rfl ?_ | refine zY rfl rfl rfl rfl rfl rfl rfl ?_ | refine zC rfl rfl rfl rfl rfl rfl rfl rfl rfl ?_ | refine zt rfl rfl rfl rfl rfl rfl (by decide) rfl rfl ?_ | refine yU rfl rfl rfl rfl ?_))
  rw [hoe]
  skip
  refine FW.cond rfl (fun h3 => ?_) (fun h3 => ?_)
  ·have h3 : o.k = 1 := by simpa using h3
   have hcell : Zx o = Vk o.key o.arg := by unfold Zx UU; rw [if_pos h3]
   rw [hcell] at hvs
   rw [if_pos h3] at hws
   (repeat (first | refine FW.seq ?_ | refine FW.region ?_ | refine zb rfl rfl rfl ?_ | refine zS rfl rfl rfl (by decide) rfl rfl (by simp; done) rfl rfl rfl rfl ?_))
   refine zJ hvs (by repeat (first | exact zj.nil | refine zj.cons (by exact yu.plain rfl rfl) ?_)) rfl rfl ?_
   by_cases hkn : ∀ j, j < i → wOf o.key o.arg (nth l j) = false
   ·refine zc3 We (Yd hi hin) (zau ho.2.2.1 ho.2.2.2.1) (.inr ⟨rfl, rfl, Xk hkn⟩) rfl rfl (by decide) rfl rfl rfl rfl rfl rfl ?_
    (repeat (first | refine FW.seq ?_ | refine FW.region ?_ | refine zc.nil ?_ | refine za rfl rfl rfl ?_ | refine zb rfl rfl rfl ?_ | refine zI rfl rfl rfl rfl rfl ?_ | refine zP rfl rfl rfl rfl ?_ | refine zt rfl rfl rfl rfl rfl rfl (by decide) rfl ⟨_, _, rfl, rfl, rfl⟩ ?_ | refine zq rfl rfl rfl rfl rfl (by simp; done) rfl rfl rfl rfl ⟨_, _, rfl, rfl, rfl⟩ ?_ | refine yU rfl rfl rfl ⟨_, _, rfl, rfl, rfl⟩ ?_))
    refine FW.cond rfl (fun h4 => ?_) (fun h4 => ?_)
    ·(repeat (first | refine FW.seq ?_ | refine FW.region ?_ | refine zc.nil ?_ | refine za rfl rfl rfl ?_))
     have hd : ¬ yq l := bad (by simp at h4; simp [h3, h4])
     rw [if_neg hd, decide_eq_false hd]
     exact FW.ret ⟨.inl rfl, .sh (.cons (.tmp 2 rfl rfl) (.cons (.tmp 3 rfl rfl) .nil)) rfl rfl⟩
    ·(repeat (first | refine FW.region ?_ | refine FW.skip ?_ | refine zb rfl rfl rfl ?_ | refine zS rfl rfl rfl (by decide) rfl rfl (by simp; done) rfl rfl rfl rfl ?_))
     refine zJ hvs (by repeat (first | exact zj.nil | refine zj.cons (by exact yu.plain rfl rfl) ?_)) rfl rfl ?_
     (repeat (first | refine zb rfl rfl rfl ?_))
     refine Wp We (Yd hi hin) (zau ho.2.2.1 ho.2.2.2.1) (.inr ⟨Xk hkn, rfl⟩) rfl rfl rfl rfl rfl rfl rfl ?_
     (repeat (first | refine FW.region ?_ | refine zc.nil ?_ | refine zb rfl rfl rfl ?_ | refine zu rfl rfl (by omega) rfl rfl ?_))
     refine ⟨i + 1, ⟨by omega, step (.inr ⟨h3, by simpa using h4, hkn⟩)⟩, by omega, ?_⟩
     rw [hws]
     exact (FLe.conv [⟨100, some 100, 0, ⟨0, .mapo, 67, 0, YX l i ++ [[Vk o.key o.arg, .int .i64 (i : Int)]]⟩⟩] (by simp) (by simp) rfl (by repeat (first | exact .nil | refine .low rfl ?_ | refine .same rfl ?_ | refine .bump (Nat.lt_succ_self _) ?_)) (by repeat (first | exact .nil | refine .old rfl (by decide) rfl ?_)) (by repeat (first | exact .nil | refine .cons (.plain rfl rfl rfl) ?_ | refine .cons (.omap rfl (.head _) rfl) ?_)))
   ·have : ∃ j, j < i ∧ wOf o.key o.arg (nth l j) = true := by
     simpa using hkn
    obtain ⟨j, hj, hp⟩ := this
    refine zc3 We (Yd hi hin) (zau ho.2.2.1 ho.2.2.2.1) (.inl ⟨rfl, UX hj hp⟩) rfl rfl (by decide) rfl rfl rfl rfl rfl rfl ?_
    (repeat (first | refine FW.seq ?_ | refine FW.region ?_ | refine FW.condT rfl ?_ | refine zc.nil ?_ | refine za rfl rfl rfl ?_ | refine zb rfl rfl rfl ?_ | refine zI rfl rfl rfl rfl rfl ?_ | refine zM rfl rfl rfl rfl ?_ | refine yA rfl rfl ⟨_, _, rfl, rfl, rfl⟩ ?_))
    have hd : ¬ yq l := bad (fun h0 => by
     rcases h0 with h0 | ⟨_, _, h0⟩
     ·omega
     ·exact hkn h0)
    rw [if_neg hd, decide_eq_false hd]
    exact FW.ret ⟨.inl rfl, .sh (.cons (.tmp 2 rfl rfl) (.cons (.tmp 3 rfl rfl) .nil)) rfl rfl⟩
  ·have h3 : o.k ≠ 1 := by simpa using h3
   rw [if_neg h3, List.append_nil] at hws
   (repeat (first | refine FW.seq ?_ | refine FW.region ?_ | refine zc.nil ?_ | refine za rfl rfl rfl ?_ | refine yU rfl rfl rfl rfl ?_))
   refine FW.cond rfl (fun h4 => ?_) (fun h4 => ?_)
   ·(repeat (first | refine FW.region ?_ | refine FW.skip ?_ | refine zc.nil ?_ | refine zb rfl rfl rfl ?_ | refine zu rfl rfl (by omega) rfl rfl ?_))
    refine ⟨i + 1, ⟨by omega, step (.inl (by simpa using h4))⟩, by omega, ?_⟩
    rw [hws]
    exact (FLe.conv [⟨100, some 100, 0, ⟨0, .mapo, 67, 0, YX l i⟩⟩] (by simp) (by simp) rfl (by repeat (first | exact .nil | refine .low rfl ?_ | refine .same rfl ?_ | refine .bump (Nat.lt_succ_self _) ?_)) (by repeat (first | exact .nil | refine .old rfl (by decide) rfl ?_)) (by repeat (first | exact .nil | refine .cons (.plain rfl rfl rfl) ?_ | refine .cons (.omap rfl (.head _) rfl) ?_)))
   ·(repeat (first | refine FW.seq ?_ | refine FW.region ?_ | refine zc.nil ?_ | refine za rfl rfl rfl ?_))
    have hd : ¬ yq l := bad (by simp at h4; simp [h3, h4])
    rw [if_neg hd, decide_eq_false hd]
    exact FW.ret ⟨.inl rfl, .sh (.cons (.tmp 2 rfl rfl) (.cons (.tmp 3 rfl rfl) .nil)) rfl rfl⟩
 ·have : i = l.length := by simp at h; omega
  subst this
  (repeat (first | refine FW.seq ?_ | refine FW.region ?_ | refine FW.exit ?_ | refine zc.nil ?_ | refine za rfl rfl rfl ?_ | refine zb rfl rfl rfl ?_))
  refine FW.le ?_ (FLe.shareMap 2 rfl rfl)
  have hd : yq l := hok
  rw [if_pos hd, decide_eq_true hd]
  exact FW.ret ⟨.inl rfl, .sh (.cons (.tmp 2 rfl rfl) (.cons (.tmp 3 rfl rfl) .nil)) rfl rfl⟩

def zer (l : List OpV) (k : Nat) : List Bool := (List.range l.length).map fun i => (decide (i < k) && (nth l i).done) || (List.range k).any fun j => (nth l j).done && decide (wIx l (nth l j).key (UU (nth l j)) = some i)
def zjz (l : List OpV) : List Bool := zer l l.length
def bof (b : Bool) : List FV := [.bool b]
theorem yN (l : List OpV) (k : Nat) : (zer l k).length = l.length := by simp [zer]
theorem YN {l : List OpV} {k i : Nat} (hi : i < l.length) : nth (zer l k) i = ((decide (i < k) && (nth l i).done) || (List.range k).any fun j => (nth l j).done && decide (wIx l (nth l j).key (UU (nth l j)) = some i)) := by
 unfold zer
 rw [zi (by simpa using hi)]
 simp
theorem zy {α : Type} [Inhabited α] {a b : List α} (hl : a.length = b.length) (h : ∀ i, i < a.length → nth a i = nth b i) : a = b := by
 apply List.ext_getElem hl
 intro i h1 h2
 have := h i h1
 rwa [zi h1, zi h2] at this
theorem yX {α : Type} [Inhabited α] {a : List α} {i j : Nat} {x : α} (hj : j < a.length) : nth (a.set i x) j = if i = j then x else nth a j := by
 rw [zi (by simpa using hj), List.getElem_set, zi hj]
theorem zgG (l : List OpV) : zer l 0 = List.replicate l.length false := by
 refine zy (by simp [yN]) fun i hi => ?_
 rw [yN] at hi
 rw [YN hi, zi (show i < (List.replicate l.length false).length by simpa using hi)]
 simp
theorem zgF {l : List OpV} {k : Nat} (hd : (nth l k).done = false) : zer l (k + 1) = zer l k := by
 refine zy (by simp [yN]) fun i hi => ?_
 rw [yN] at hi
 rw [YN hi, YN hi, List.range_succ, List.any_append]
 by_cases hik : i = k
 ·subst hik; simp [hd]
 ·have : decide (i < k + 1) = decide (i < k) := by congr 1; exact propext ⟨by omega, by omega⟩
  simp [hd, this]
theorem zid {l : List OpV} {k : Nat} (hk : k < l.length) (hd : (nth l k).done = true) (hw : wIx l (nth l k).key (UU (nth l k)) = none) : zer l (k + 1) = (zer l k).set k true := by
 refine zy (by simp [yN]) fun i hi => ?_
 rw [yN] at hi
 rw [YN hi, yX (by rw [yN]; exact hi), YN hi, List.range_succ, List.any_append]
 by_cases hik : k = i
 ·subst hik; simp [hd]
 ·have : decide (i < k + 1) = decide (i < k) := by congr 1; exact propext ⟨by omega, by omega⟩
  simp [hw, this, hik]
theorem zie {l : List OpV} {k w : Nat} (hk : k < l.length) (hd : (nth l k).done = true) (hw : wIx l (nth l k).key (UU (nth l k)) = some w) : zer l (k + 1) = ((zer l k).set k true).set w true := by
 refine zy (by simp [yN]) fun i hi => ?_
 rw [yN] at hi
 rw [YN hi, yX (by rw [List.length_set, yN]; exact hi), yX (by rw [yN]; exact hi), YN hi, List.range_succ, List.any_append]
 by_cases hwi : w = i
 ·subst hwi; simp [hd, hw]
 ·by_cases hik : k = i
  ·subst hik; simp [hd]
  ·have : decide (i < k + 1) = decide (i < k) := by congr 1; exact propext ⟨by omega, by omega⟩
   simp [hw, this, hik, hwi]
set_option maxHeartbeats 4000000 in
theorem zbq (l : List OpV) (hl : l.length ≤ 1000000000) (hin : ∀ o ∈ l, zdm o) : yg Try.prog 36 [.list 8 (l.map OpV.fv), .smap (YX l l.length)] (.ow 4 1) (.list 1 ((zjz l).map bof)) := by
 refine yg.of_body (c := (Zy Try.prog zG zA 39)) ⟨Try.func36, rfl, Try.ntmps36, by kernel_rfl⟩ (by simp [FV.hand]) (by exact Nat.le_of_ble_eq_true rfl) rfl ?_
 change FW _ _ _ ⟨[(0, .list 8 (l.map OpV.fv)), (1, .smap (YX l l.length))], []⟩
 (repeat (first | refine FW.seq ?_ | refine FW.region ?_ | refine FW.block ?_ | refine zc.nil ?_ | refine za rfl rfl rfl ?_ | refine zb rfl rfl rfl ?_ | refine zm rfl rfl (by first | exact List.length_map _ | rfl | omega) rfl rfl ?_ | refine WP rfl rfl rfl rfl rfl rfl rfl rfl (by omega) (by omega) rfl rfl rfl ?_))
 refine FW.loop (fun i : Nat => ⟨[(1, .smap (YX l l.length)), (5, .own 100 0 0 l.length), (13, .list 8 (l.map OpV.fv)), (14, .int .i64 l.length), (15, .int .i64 i)], [(100, ⟨0, .own, 4, 1, (zer l i).map bof⟩)]⟩) (fun i => i ≤ l.length) (fun i => l.length - i) 0 (Nat.zero_le _) ?_ ?_
 ·rw [zgG, List.map_replicate]
  exact (FLe.conv [⟨100, some 12, 1, ⟨0, .own, 4, 1, List.replicate l.length (bof false)⟩⟩] (by simp) (by simp) rfl (by repeat (first | exact .nil | refine .low rfl ?_ | refine .same rfl ?_ | refine .bump (Nat.lt_succ_self _) ?_)) (by repeat (first | exact .nil | refine .old rfl (by decide) rfl ?_)) (by repeat (first | exact .nil | refine .cons (.plain rfl rfl rfl) ?_ | refine .cons (.own rfl (.head _) rfl rfl) ?_)))
 intro i hi
 (repeat (first | refine FW.seq ?_ | refine FW.region ?_ | refine zc.nil ?_ | refine zH rfl rfl rfl rfl ?_))
 refine FW.cond rfl (fun h => ?_) (fun h => ?_)
 ·have hlt : i < l.length := by simpa using h
  clear h
  have ho := hin _ (zn hlt)
  have h1 := zgF (l := l) (k := i)
  have h2 := zid hlt
  have h3 := fun w => zie (w := w) hlt
  have hil := yN l i
  obtain ⟨o, hoe⟩ : ∃ o, nth l i = o := ⟨_, rfl⟩
  rw [hoe] at h1 h2 ho
  simp only [hoe] at h3
  have hvs := Zn o
  obtain ⟨R, hR⟩ : ∃ R, zer l i = R := ⟨_, rfl⟩
  rw [hR] at h1 h2 hil ⊢
  simp only [hR] at h3
  (repeat (first | refine FW.seq ?_ | refine FW.region ?_ | refine FW.block ?_ | refine FW.skip ?_ | refine zc.nil ?_ | refine za rfl rfl rfl ?_ | refine zb rfl rfl rfl ?_ | refine zD rfl rfl rfl rfl rfl rfl (by first | (simp; omega) | (simp; done)) rfl rfl ?_ | refine zq rfl rfl rfl rfl rfl (by first | (simp; omega) | (simp; done)) (by first | exact zd (by omega) | rfl) rfl rfl rfl rfl ?_ | refine yV rfl rfl rfl (by decide) (by first | (simp; omega) | (simp; done)) (by first | exact zd (by omega) | rfl) rfl rfl rfl ?_ | refine zY rfl rfl rfl rfl rfl rfl rfl ?_ | refine zC rfl rfl rfl rfl rfl rfl rfl rfl rfl ?_ | refine zt rfl rfl rfl rfl rfl rfl (by decide) rfl rfl ?_ | refine Yz rfl rfl rfl ?_))
  rw [hoe]
  skip
  refine FW.cond rfl (fun h4 => ?_) (fun h4 => ?_)
  ·have h4 : o.done = false := by simpa using h4
   (repeat (first | refine FW.region ?_ | refine FW.exit ?_ | refine zc.nil ?_ | refine zb rfl rfl rfl ?_ | refine zu rfl rfl (by omega) rfl rfl ?_))
   refine ⟨i + 1, by omega, by omega, ?_⟩
   rw [h1 h4]
   exact (FLe.conv [⟨100, some 100, 0, ⟨0, .own, 4, 1, R.map bof⟩⟩] (by simp) (by simp) rfl (by repeat (first | exact .nil | refine .low rfl ?_ | refine .same rfl ?_ | refine .bump (Nat.lt_succ_self _) ?_)) (by repeat (first | exact .nil | refine .old rfl (by decide) rfl ?_)) (by repeat (first | exact .nil | refine .cons (.plain rfl rfl rfl) ?_ | refine .cons (.own rfl (.head _) rfl rfl) ?_)))
  ·have h4 : o.done = true := by simpa using h4
   have hkf : XN Try.prog 104 (Vk o.key (UU o)) := zau ho.2.2.1 (by unfold UU; split; exact ho.2.2.2.1; exact ho.2.2.2.2.1)
   have hvs : yg Try.prog 54 [.agg o.fv] .fr (Vk o.key (UU o)) := hvs
   obtain ⟨vv, hvv⟩ : ∃ vv, UU o = vv := ⟨_, rfl⟩
   rw [hvv] at hkf hvs h2
   simp only [hvv] at h3
/- Spec Try.prog 36 -/
   (repeat (first | refine FW.seq ?_ | refine FW.region ?_ | refine FW.skip ?_ | refine zc.nil ?_ | refine zb rfl rfl rfl ?_ | refine zx rfl rfl rfl rfl rfl rfl (by decide) rfl (by first | omega | (simp; omega) | (simp; done)) rfl rfl ?_ | refine zS rfl rfl rfl (by decide) rfl rfl (by first | omega | (simp; omega) | (simp; done)) (by first | exact zd (by omega) | rfl) rfl rfl rfl ?_ | refine zZ rfl rfl rfl rfl rfl rfl (by first | omega | (simp; omega) | (simp; done)) (by first | exact zd (by omega) | rfl) rfl rfl rfl ?_))
   refine zJ hvs (by repeat (first | exact zj.nil | refine zj.cons (by exact yu.plain rfl rfl) ?_)) rfl rfl ?_
   cases hwx : wIx l o.key vv with
   | none =>
    have h2 := h2 h4 hwx
    refine UL We (Yd (Nat.le_refl _) hin) hkf (.inr ⟨rfl, rfl, Xk (zbW hwx)⟩) rfl rfl rfl rfl rfl rfl rfl ?_
    (repeat (first | refine FW.seq ?_ | refine FW.region ?_ | refine FW.skip ?_ | refine FW.condF rfl ?_ | refine zc.nil ?_ | refine za rfl rfl rfl ?_ | refine zb rfl rfl rfl ?_ | refine zI rfl rfl rfl rfl rfl ?_ | refine zu rfl rfl (by omega) rfl rfl ?_))
    refine ⟨i + 1, by omega, by omega, ?_⟩
    rw [h2]
    have hm : (R.map bof).set i ((bof (nth R i)).set 0 (.bool true)) = (R.set i true).map bof := by rw [List.map_set]; rfl
    rw [hm]
    exact (FLe.conv [⟨100, some 100, 0, ⟨0, .own, 4, 1, (R.set i true).map bof⟩⟩] (by simp) (by simp) rfl (by repeat (first | exact .nil | refine .low rfl ?_ | refine .same rfl ?_ | refine .bump (Nat.lt_succ_self _) ?_)) (by repeat (first | exact .nil | refine .old rfl (by decide) rfl ?_)) (by repeat (first | exact .nil | refine .cons (.plain rfl rfl rfl) ?_ | refine .cons (.own rfl (.head _) rfl rfl) ?_)))
   | some w =>
    have h3 := h3 w h4 hwx
    have hwl := (Zk hwx).1
    refine UL We (Yd (Nat.le_refl _) hin) hkf (.inl ⟨rfl, UX hwl (Zk hwx).2.1⟩) rfl rfl rfl rfl rfl rfl rfl ?_
    have hm : (R.map bof).set i ((bof (nth R i)).set 0 (.bool true)) = (R.set i true).map bof := by rw [List.map_set]; rfl
    obtain ⟨R2, hR2⟩ : ∃ R2, R.set i true = R2 := ⟨_, rfl⟩
    have hR2l : R2.length = l.length := by rw [← hR2, List.length_set]; exact hil
    rw [hm, hR2]
    rw [hR2] at h3
    (repeat (first | refine FW.seq ?_ | refine FW.region ?_ | refine FW.condT rfl ?_ | refine zc.nil ?_ | refine za rfl rfl rfl ?_ | refine zb rfl rfl rfl ?_ | refine zx rfl rfl rfl rfl rfl rfl (by decide) rfl (by first | omega | (simp; omega)) rfl rfl ?_ | refine zZ rfl rfl rfl rfl rfl rfl (by first | omega | (simp; omega)) (by first | exact zd (by omega) | rfl) rfl rfl rfl ?_ | refine zI rfl rfl rfl rfl rfl ?_ | refine zu rfl rfl (by omega) rfl rfl ?_))
    refine ⟨i + 1, by omega, by omega, ?_⟩
    rw [h3]
    have hm2 : (R2.map bof).set w ((bof (nth R2 w)).set 0 (.bool true)) = (R2.set w true).map bof := by rw [List.map_set]; rfl
    rw [hm2]
    exact (FLe.conv [⟨100, some 100, 0, ⟨0, .own, 4, 1, (R2.set w true).map bof⟩⟩] (by simp) (by simp) rfl (by repeat (first | exact .nil | refine .low rfl ?_ | refine .same rfl ?_ | refine .bump (Nat.lt_succ_self _) ?_)) (by repeat (first | exact .nil | refine .old rfl (by decide) rfl ?_)) (by repeat (first | exact .nil | refine .cons (.plain rfl rfl rfl) ?_ | refine .cons (.own rfl (.head _) rfl rfl) ?_)))
 ·obtain rfl : i = l.length := by simp at h; omega
  (repeat (first | refine FW.seq ?_ | refine FW.region ?_ | refine FW.exit ?_ | refine zc.nil ?_ | refine za rfl rfl rfl ?_ | refine zb rfl rfl rfl ?_))
  exact FW.ret ⟨.inl rfl, Zb rfl rfl rfl (by simp [yN]) (by decide) rfl (fun e he => by obtain ⟨b, _, rfl⟩ := List.mem_map.1 he; rfl)⟩
end Go.Proofs.Ytbeebjdnapkhhaa
