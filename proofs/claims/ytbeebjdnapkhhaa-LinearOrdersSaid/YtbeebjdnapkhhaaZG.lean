/-
  Some texts as one: WfPlain, FmOnce, FmHas, FmKeys, FmBefI, KeysPlain.
-/
import Derived.Test.YtbeebjdnapkhhaaZD
import Derived.Test.YtbeebjdnapkhhaaZSortPlain
/-
 Lists of operations that are histories, told by pairs; what keeps them so.
-/
namespace Go.Proofs.Ytbeebjdnapkhhaa
set_option linter.unusedVariables false

def zla (a b : OpV) : Prop := a.call < b.call ∧ (a.done = true → a.ret ≠ b.call ∧ (b.done = true → b.ret ≠ a.ret)) ∧ (a.p = b.p → a.done = true ∧ a.ret ≤ b.call)
structure WFH (l : List OpV) : Prop where
 len : l.length ≤ 300
 wf : ∀ o ∈ l, wfB o = true
 rel : l.Pairwise zla

theorem WFH.pair {l : List OpV} (h : WFH l) {i j : Nat} (hij : i < j) (hj : j < l.length) : zla (nth l i) (nth l j) := by
 rw [zh hj, zh (show i < l.length by omega)]
 exact List.pairwise_iff_getElem.1 h.rel i j (by omega) hj hij
theorem WFH.at {l : List OpV} (h : WFH l) {i : Nat} (hi : i < l.length) : wfB (nth l i) = true := h.wf _ (zp hi)
theorem zjL {o : OpV} (h : wfB o = true) : o.call < o.ret := by
 simp only [wfB, Bool.and_eq_true, decide_eq_true_eq] at h
 omega
theorem WFH.err {l : List OpV} (h : WFH l) {k : Nat} (hk : k < l.length) : zcq l k = 0 := by
 unfold zcq
 rw [if_neg (by rw [h.at hk]; decide)]
 rw [if_neg (fun e => by have := (h.pair (show k - 1 < k by omega) hk).1; omega)]
 rw [if_neg (fun e => ?_), if_neg (fun e => ?_)]
 ·obtain ⟨e1, e2⟩ := e
  obtain ⟨q, hq⟩ := Option.isSome_iff_exists.1 e1
  rw [hq] at e2
  simp only [Option.getD_some] at e2
  obtain ⟨m, hm, hmq, hmp⟩ := UL hq
  subst hmq
  obtain ⟨h1, h2⟩ := (h.pair hm hk).2.2 hmp
  rcases e2 with e2 | e2
  ·rw [h1] at e2; cases e2
  ·omega
 ·have ret : ∀ x, zcf l k x = true → ∃ m, m < k ∧ (nth l m).done = true ∧ (nth l m).ret = x := fun x hx => by
   unfold zcf at hx
   obtain ⟨m, h1, _, h3⟩ := zeE hx
   simp only [Bool.and_eq_true, beq_iff_eq] at h3
   exact ⟨m, h1, h3⟩
  simp only [Bool.or_eq_true, Bool.and_eq_true] at e
  rcases e with e | ⟨hd, e | e⟩
  ·obtain ⟨m, h1, h2, h3⟩ := ret _ e
   exact ((h.pair h1 hk).2.1 h2).1 h3
  ·obtain ⟨m, h1, h2, h3⟩ := ret _ e
   exact ((h.pair h1 hk).2.1 h2).2 hd h3.symm
  ·unfold Wj at e
   obtain ⟨j, _, hj, h3⟩ := zeE e
   simp only [beq_iff_eq] at h3
   have hc := zjL (h.at hk)
   rcases Nat.lt_trichotomy j k with h4 | h4 | h4
   ·have := (h.pair h4 hk).1; omega
   ·subst h4; omega
   ·exact ((h.pair h4 hj).2.1 hd).1 h3.symm
theorem WFH.check {l : List OpV} (h : WFH l) : xK l = 0 := by
 unfold xK
 rw [if_neg (by have := h.len; omega)]
 exact Xe _ _ fun j _ hj => h.err (by omega)

theorem WFH.sub {l l' : List OpV} (h : WFH l) (hs : l'.Sublist l) : WFH l' := ⟨Nat.le_trans hs.length_le h.len, fun o ho => h.wf o (hs.subset ho), h.rel.sublist hs⟩
theorem WFH.filter {l : List OpV} (h : WFH l) (f : OpV → Bool) : WFH (l.filter f) := h.sub List.filter_sublist
theorem WFH.map {l : List OpV} (h : WFH l) (f : OpV → OpV) (hf : ∀ o, (f o).p = o.p ∧ (f o).k = o.k ∧ (f o).call = o.call ∧ (f o).ret = o.ret ∧ (f o).done = o.done ∧ (o.res = 0 → (f o).res = 0)) : WFH (l.map f) := by
 refine ⟨by rw [List.length_map]; exact h.len, fun o ho => ?_, ?_⟩
 ·obtain ⟨x, hx, rfl⟩ := List.mem_map.1 ho
  have hw := h.wf x hx
  obtain ⟨h1, h2, h3, h4, h5, h6⟩ := hf x
  simp only [wfB, Bool.and_eq_true, Bool.or_eq_true, decide_eq_true_eq] at hw ⊢
  rw [h1, h2, h3, h4, h5]
  exact ⟨hw.1, hw.2.imp id h6⟩
 ·rw [List.pairwise_map]
  refine h.rel.imp fun {a b} hab => ?_
  obtain ⟨a1, _, a3, a4, a5, _⟩ := hf a
  obtain ⟨b1, _, b3, b4, b5, _⟩ := hf b
  unfold zla at hab ⊢
  rw [a1, a3, a4, a5, b1, b3, b4, b5]
  exact hab
theorem WFH.set {l : List OpV} (h : WFH l) {i : Nat} (hi : i < l.length) {o : OpV} (hf : o.p = (nth l i).p ∧ o.k = (nth l i).k ∧ o.call = (nth l i).call ∧ o.ret = (nth l i).ret ∧ o.done = (nth l i).done ∧ ((nth l i).done = false → o.res = (nth l i).res)) : WFH (l.set i o) := by
 obtain ⟨h1, h2, h3, h4, h5, h6⟩ := hf
 have hw := h.at hi
 refine ⟨by simpa using h.len, fun x hx => ?_, ?_⟩
 ·rcases List.mem_or_eq_of_mem_set hx with hx | rfl
  ·exact h.wf x hx
  ·simp only [wfB, Bool.and_eq_true, Bool.or_eq_true, decide_eq_true_eq] at hw ⊢
   rw [h1, h2, h3, h4, h5]
   refine ⟨hw.1, ?_⟩
   cases hd : (nth l i).done with
   | true => exact .inl rfl
   | false => right; rw [h6 hd]; rw [hd] at hw; simpa using hw.2
 ·have key : ∀ j, j < l.length → (nth (l.set i o) j).p = (nth l j).p ∧ (nth (l.set i o) j).call = (nth l j).call ∧ (nth (l.set i o) j).ret = (nth l j).ret ∧ (nth (l.set i o) j).done = (nth l j).done := fun j hj => by
   by_cases e : i = j
   ·subst e; rw [zj hi]; exact ⟨h1, h3, h4, h5⟩
   ·rw [zg e]; exact ⟨rfl, rfl, rfl, rfl⟩
  rw [List.pairwise_iff_getElem]
  intro a b ha hb hab
  have ha' : a < l.length := by simpa using ha
  have hb' : b < l.length := by simpa using hb
  have hp := h.pair hab hb'
  rw [← zh ha, ← zh hb]
  obtain ⟨a1, a2, a3, a4⟩ := key a ha'
  obtain ⟨b1, b2, b3, b4⟩ := key b hb'
  unfold zla at hp ⊢
  rw [a1, a2, a3, a4, b1, b2, b3, b4]
  exact hp
end Go.Proofs.Ytbeebjdnapkhhaa
/-
 The small functions of layers 01, 21 and 24, at plain values.
-/
namespace Go.Proofs.Ytbeebjdnapkhhaa
set_option linter.unusedVariables false
open Go.RowKit

theorem zhw (l : List Int) (hl : l.length ≤ 1000000000) : zV Try.prog 33 [.list 1 (l.map zG), .int .i64 l.length] (.ow 3 1) (.list 1 (l.map zG)) := by
 refine zV.of_body (c := (Za Try.prog zF zy 14)) ⟨Try.func33, rfl, Try.ntmps33, by kernel_rfl⟩ (by simp [FV.hand]) (by exact Nat.le_of_ble_eq_true rfl) rfl ?_
 change FW _ _ _ ⟨[(0, .list 1 (l.map zG)), (1, .int .i64 l.length)], []⟩
 (repeat (first | refine FW.seq ?_ | refine FW.region ?_ | refine zc.nil ?_ | refine za rfl rfl rfl ?_ | refine zb rfl rfl rfl ?_ | refine zq rfl rfl (by first | exact List.length_map _ | (simp; done) | omega | (simp; omega)) rfl rfl ?_ | refine zfp rfl rfl rfl rfl ?_ | refine zdB rfl rfl rfl rfl (by exact LoR.none) (by exact HiR.lit rfl (by first | rfl | exact (Int.toNat_of_nonneg (by omega)).symm)) (by first | omega | (simp; omega) | (simp; done)) (by first | omega | (simp; omega) | (simp; done)) rfl rfl ?_ | refine zet rfl rfl rfl rfl (by decide) (by exact WQ.list rfl) (by first | omega | (simp; omega) | (simp; done)) (by first | omega | (simp; omega) | (simp; done)) rfl rfl rfl ?_))
 exact FW.ret ⟨.inl rfl, Zm rfl rfl rfl rfl (by decide) (by simp [← List.map_take]) (zf3.flatsM l)⟩

theorem zjm (l : List Int) (i : Nat) (v : Int) (hl : l.length ≤ 1000000000) (hi : i < l.length) : zV Try.prog 44 [.list 1 (l.map zG), .int .i64 i, .int .i64 v] (.ow 3 1) (.list 1 ((l.set i v).map zG)) := by
 refine zV.of_body (c := (Za Try.prog zF zy 17)) ⟨Try.func44, rfl, Try.ntmps44, by kernel_rfl⟩ (by simp [FV.hand]) (by exact Nat.le_of_ble_eq_true rfl) rfl ?_
 change FW _ _ _ ⟨[(0, .list 1 (l.map zG)), (1, .int .i64 i), (2, .int .i64 v)], []⟩
 (repeat (first | refine FW.seq ?_ | refine FW.region ?_ | refine zc.nil ?_ | refine za rfl rfl rfl ?_ | refine zb rfl rfl rfl ?_ | refine zq rfl rfl (by exact List.length_map _) rfl rfl ?_))
 refine yb (zhw l hl) (by repeat (first | exact zi.nil | refine zi.cons (by exact yj.plain rfl rfl) ?_)) (List.length_map _) rfl rfl rfl ?_
 (repeat (first | refine FW.seq ?_ | refine FW.region ?_ | refine zc.nil ?_ | refine za rfl rfl rfl ?_ | refine zb rfl rfl rfl ?_ | refine zB rfl rfl rfl rfl rfl rfl (by decide) rfl (by first | omega | (simp; omega)) rfl rfl ?_ | refine yc rfl rfl rfl rfl rfl rfl (by first | omega | (simp; omega)) (by first | exact zd (by omega) | rfl) rfl rfl rfl ?_))
 exact FW.ret ⟨.inl rfl, Zm rfl rfl rfl (by simp) (by decide) (by rw [List.map_set]; rfl) (zf3.flatsM _)⟩

theorem zcj (a b : List Int) (ha : a.length ≤ 1000000000) (hb : b.length ≤ 1000000000) : zV Try.prog 18 [.list 1 (a.map zG), .list 1 (b.map zG)] .fr (.bool (decide (a = b))) := by
 refine zV.of_body (c := (Za Try.prog zF zy 26)) ⟨Try.func18, rfl, Try.ntmps18, by kernel_rfl⟩ (by simp [FV.hand]) (by exact Nat.le_of_ble_eq_true rfl) rfl ?_
 change FW _ _ _ ⟨[(0, .list 1 (a.map zG)), (1, .list 1 (b.map zG))], []⟩
 (repeat (first | refine FW.seq ?_ | refine FW.region ?_ | refine zc.nil ?_ | refine za rfl rfl rfl ?_ | refine zb rfl rfl rfl ?_ | refine zq rfl rfl (by exact List.length_map _) rfl rfl ?_ | refine xN rfl rfl rfl rfl ?_))
 refine FW.cond rfl (fun h => ?_) (fun h => ?_)
 ·(repeat (first | refine FW.seq ?_ | refine FW.region ?_ | refine zc.nil ?_ | refine za rfl rfl rfl ?_))
  refine FW.ret ⟨.inl rfl, zA rfl rfl ?_ rfl⟩
  have : a ≠ b := by rintro rfl; simp at h
  simp [this]; rfl
 ·have hlen : a.length = b.length := by simp at h; omega
  (repeat (first | refine FW.seq ?_ | refine FW.region ?_ | refine FW.block ?_ | refine FW.skip ?_ | refine zc.nil ?_ | refine za rfl rfl rfl ?_))
  refine FW.loop (fun k : Nat => ⟨[(0, .list 1 (a.map zG)), (1, .list 1 (b.map zG)), (5, .int .i64 k)], []⟩) (fun k => k ≤ a.length ∧ a.take k = b.take k) (fun k => a.length - k) 0 (by simp) (FLe.conv [] (by simp) (by simp) rfl (by repeat (first | exact .nil | refine .low rfl ?_ | refine .same rfl ?_ | refine .bump (Nat.lt_succ_self _) ?_)) (by repeat (first | exact .nil)) (by repeat (first | exact .nil | refine .cons (.plain rfl rfl rfl) ?_))) ?_
  rintro k ⟨hk, hab⟩
  (repeat (first | refine FW.seq ?_ | refine FW.region ?_ | refine zc.nil ?_ | refine zb rfl rfl rfl ?_ | refine zq rfl rfl (by exact List.length_map _) rfl rfl ?_ | refine zJ rfl rfl rfl rfl ?_))
  refine FW.cond rfl (fun h => ?_) (fun h => ?_)
  ·have hlt : k < a.length := by simpa using h
   clear h
   (repeat (first | refine FW.seq ?_ | refine FW.block ?_ | refine FW.skip ?_ | refine FW.draw ?_ | refine zH.nil ?_ | refine zP rfl rfl rfl ?_ | refine zln rfl rfl rfl rfl ?_ | refine zY rfl rfl rfl rfl rfl rfl (by simp; omega) rfl rfl ?_ | refine zZ rfl rfl rfl (by simp; omega) (by first | exact zd (by omega) | rfl) rfl rfl rfl rfl ?_))
   refine ⟨by kernel_rfl, ?_⟩
   refine FW.cond rfl (fun h => ?_) (fun h => ?_)
   ·(repeat (first | refine FW.seq ?_ | refine FW.region ?_ | refine zc.nil ?_ | refine za rfl rfl rfl ?_))
    refine FW.ret ⟨.inl rfl, zA rfl rfl ?_ rfl⟩
    have : a ≠ b := by rintro rfl; simp at h
    simp [this]; rfl
   ·(repeat (first | refine FW.region ?_ | refine FW.skip ?_ | refine zc.nil ?_ | refine za rfl rfl rfl ?_ | refine zb rfl rfl rfl ?_ | refine zu rfl rfl (by omega) rfl rfl ?_))
    refine ⟨k + 1, ⟨by omega, ?_⟩, by omega, (FLe.conv [] (by simp) (by simp) rfl (by repeat (first | exact .nil | refine .low rfl ?_ | refine .same rfl ?_ | refine .bump (Nat.lt_succ_self _) ?_)) (by repeat (first | exact .nil)) (by repeat (first | exact .nil | refine .cons (.plain rfl rfl rfl) ?_)))⟩
    have h1 : nth a k = nth b k := by simpa using h
    rw [List.take_succ_eq_append_getElem hlt, List.take_succ_eq_append_getElem (by omega), hab, ← zh hlt, ← zh (by omega), h1]
  ·(repeat (first | refine FW.seq ?_ | refine FW.region ?_ | refine FW.exit ?_ | refine zc.nil ?_ | refine za rfl rfl rfl ?_))
   refine FW.ret ⟨.inl rfl, zA rfl rfl ?_ rfl⟩
   have : k = a.length := by simp at h; omega
   subst this
   have : a = b := by rw [List.take_of_length_le (Nat.le_refl _), List.take_of_length_le (by omega)] at hab; exact hab
   simp [this]; rfl

def bef (l : List OpV) (i k : Nat) : Bool := (nth l i).done && decide ((nth l i).ret < (nth l k).call)
set_option maxHeartbeats 1000000 in
theorem zdo (l : List OpV) (i k : Nat) (hi : i < l.length) (hk : k < l.length) : zV Try.prog 41 [.list 8 (l.map OpV.fv), .int .i64 i, .int .i64 k] .fr (.bool (bef l i k)) := by
 refine zV.of_body (c := (Za Try.prog zF zy 25)) ⟨Try.func41, rfl, Try.ntmps41, by kernel_rfl⟩ (by simp [FV.hand]) (by exact Nat.le_of_ble_eq_true rfl) rfl ?_
 change FW _ _ _ ⟨[(0, .list 8 (l.map OpV.fv)), (1, .int .i64 i), (2, .int .i64 k)], []⟩
 (repeat (first | refine FW.seq ?_ | refine FW.region ?_ | refine zc.nil ?_ | refine za rfl rfl rfl ?_ | refine FW.draw ?_ | refine zP rfl rfl rfl ?_ | refine zY rfl rfl rfl rfl rfl rfl (by simp; omega) rfl rfl ?_ | refine yL rfl rfl rfl rfl rfl rfl rfl ?_ | refine zZ rfl rfl rfl (by simp; omega) (by first | exact zd (by omega) | rfl) rfl rfl rfl rfl ?_))
 refine XY (fun h => ?_) (fun h => ?_)
 ·(repeat (first | refine zH.nil ?_ | refine yK rfl rfl rfl ?_ | refine ZU rfl rfl rfl rfl ?_ | refine zP rfl rfl ⟨_, _, rfl, rfl, rfl⟩ ?_ | refine zY rfl rfl rfl rfl rfl rfl (by simp; omega) rfl ⟨_, _, rfl, rfl, rfl⟩ ?_ | refine yL rfl rfl rfl rfl rfl rfl ⟨_, _, rfl, rfl, rfl⟩ ?_ | refine zZ rfl rfl rfl (by simp; omega) (by first | exact zd (by omega) | rfl) rfl rfl rfl ⟨_, _, rfl, rfl, rfl⟩ ?_ | refine zj2 rfl rfl rfl ⟨_, _, rfl, rfl, rfl⟩ ?_))
  refine ⟨by kernel_rfl, ?_⟩
  skip
  refine FW.ret ⟨.inl rfl, zA rfl rfl ?_ rfl⟩
  simp [bef, h]; rfl
 ·(repeat (first | refine zH.nil ?_ | refine yK rfl rfl rfl ?_ | refine ZT rfl rfl rfl rfl ?_ | refine Xm rfl rfl ⟨_, _, rfl, rfl, rfl⟩ ?_))
  refine ⟨by kernel_rfl, ?_⟩
  skip
  refine FW.ret ⟨.inl rfl, zA rfl rfl ?_ rfl⟩
  simp [bef, h]; rfl
set_option maxHeartbeats 1000000 in
theorem Xd (l : List OpV) (i k : Nat) (hi : i < l.length) (hk : k < l.length) : zV Try.prog 28 [.list 8 (l.map OpV.fv), .int .i64 i, .int .i64 k] .fr (.bool (bef l i k)) := by
 refine zV.of_body (c := (Za Try.prog zF zy 37)) ⟨Try.func28, rfl, Try.ntmps28, by kernel_rfl⟩ (by simp [FV.hand]) (by exact Nat.le_of_ble_eq_true rfl) rfl ?_
 change FW _ _ _ ⟨[(0, .list 8 (l.map OpV.fv)), (1, .int .i64 i), (2, .int .i64 k)], []⟩
 (repeat (first | refine FW.seq ?_ | refine FW.region ?_ | refine zc.nil ?_ | refine za rfl rfl rfl ?_ | refine zb rfl rfl rfl ?_ | refine zfp rfl rfl rfl rfl ?_ | refine zJ rfl rfl rfl rfl ?_))
 refine yA (fun h => ?_) (fun h => ?_)
 ·exfalso; simp at h; omega
 ·(repeat (first | refine zc.nil ?_ | refine zK rfl rfl rfl rfl ?_ | refine zb rfl rfl ⟨_, _, rfl, rfl, rfl⟩ ?_ | refine zh8 rfl rfl rfl ⟨_, _, rfl, rfl, rfl⟩ ?_ | refine zq rfl rfl (by exact List.length_map _) rfl ⟨_, _, rfl, rfl, rfl⟩ ?_ | refine XP rfl rfl rfl ⟨_, _, rfl, rfl, rfl⟩ ?_))
  refine FW.cond rfl (fun h => ?_) (fun h => ?_)
  ·exfalso; simp at h; omega
  (repeat (first | refine FW.seq ?_ | refine FW.skip ?_ | refine FW.draw ?_ | refine zP rfl rfl rfl ?_ | refine zY rfl rfl rfl rfl rfl rfl (by simp; omega) rfl rfl ?_ | refine yL rfl rfl rfl rfl rfl rfl rfl ?_ | refine zZ rfl rfl rfl (by simp; omega) (by first | exact zd (by omega) | rfl) rfl rfl rfl rfl ?_))
  refine XY (fun h => ?_) (fun h => ?_)
  ·(repeat (first | refine zH.nil ?_ | refine yK rfl rfl rfl ?_ | refine ZU rfl rfl rfl rfl ?_ | refine zP rfl rfl ⟨_, _, rfl, rfl, rfl⟩ ?_ | refine zY rfl rfl rfl rfl rfl rfl (by simp; omega) rfl ⟨_, _, rfl, rfl, rfl⟩ ?_ | refine yL rfl rfl rfl rfl rfl rfl ⟨_, _, rfl, rfl, rfl⟩ ?_ | refine zZ rfl rfl rfl (by simp; omega) (by first | exact zd (by omega) | rfl) rfl rfl rfl ⟨_, _, rfl, rfl, rfl⟩ ?_ | refine zj2 rfl rfl rfl ⟨_, _, rfl, rfl, rfl⟩ ?_))
   refine ⟨by kernel_rfl, ?_⟩
   skip
   refine FW.ret ⟨.inl rfl, zA rfl rfl ?_ rfl⟩
   simp [bef, h]; rfl
  ·(repeat (first | refine zH.nil ?_ | refine yK rfl rfl rfl ?_ | refine ZT rfl rfl rfl rfl ?_ | refine Xm rfl rfl ⟨_, _, rfl, rfl, rfl⟩ ?_))
   refine ⟨by kernel_rfl, ?_⟩
   skip
   refine FW.ret ⟨.inl rfl, zA rfl rfl ?_ rfl⟩
   simp [bef, h]; rfl

def zhy (o : OpV) : Bool := decide (o.k = 4) && o.done && decide (o.res ≠ 0)
end Go.Proofs.Ytbeebjdnapkhhaa
/-
 simproofref01.Has, at plain values.
-/
namespace Go.Proofs.Ytbeebjdnapkhhaa
set_option linter.unusedVariables false
open Go.RowKit
def zhn (l : List Int) (n : Int) : Bool := decide (n ∈ l)
set_option maxHeartbeats 1000000 in
theorem zi5 (l : List Int) (n : Int) (hl : l.length ≤ 1000000000) : zV Try.prog 64 [.list 1 (l.map zG), .int .i64 n] .fr (.bool (zhn l n)) := by
 refine zV.of_body (c := (Za Try.prog zF zy 18)) ⟨Try.func64, rfl, Try.ntmps64, by kernel_rfl⟩ (by simp [FV.hand]) (by exact Nat.le_of_ble_eq_true rfl) rfl ?_
 change FW _ _ _ ⟨[(0, .list 1 (l.map zG)), (1, .int .i64 n)], []⟩
 (repeat (first | refine FW.seq ?_ | refine FW.region ?_ | refine FW.block ?_ | refine zc.nil ?_ | refine za rfl rfl rfl ?_))
 refine FW.loop (fun k : Nat => ⟨[(0, .list 1 (l.map zG)), (1, .int .i64 n), (5, .int .i64 k)], []⟩) (fun k => k ≤ l.length ∧ n ∉ l.take k) (fun k => l.length - k) 0 (by simp) (FLe.conv [] (by simp) (by simp) rfl (by repeat (first | exact .nil | refine .low rfl ?_ | refine .same rfl ?_ | refine .bump (Nat.lt_succ_self _) ?_)) (by repeat (first | exact .nil)) (by repeat (first | exact .nil | refine .cons (.plain rfl rfl rfl) ?_))) ?_
 rintro k ⟨hk, hn⟩
 (repeat (first | refine FW.seq ?_ | refine FW.region ?_ | refine zc.nil ?_ | refine zb rfl rfl rfl ?_ | refine zq rfl rfl (by exact List.length_map _) rfl rfl ?_ | refine zJ rfl rfl rfl rfl ?_))
 refine FW.cond rfl (fun h => ?_) (fun h => ?_)
 ·have hlt : k < l.length := by simpa using h
  (repeat (first | refine FW.seq ?_ | refine FW.region ?_ | refine FW.block ?_ | refine FW.skip ?_ | refine zc.nil ?_ | refine zb rfl rfl rfl ?_ | refine zC rfl rfl rfl rfl rfl rfl (by simp; omega) rfl rfl ?_ | refine zw rfl rfl rfl (by simp; omega) (by first | exact zd (by omega) | rfl) rfl rfl rfl rfl ?_ | refine yB rfl rfl rfl rfl ?_))
  refine FW.cond rfl (fun h => ?_) (fun h => ?_)
  ·(repeat (first | refine FW.seq ?_ | refine FW.region ?_ | refine zc.nil ?_ | refine za rfl rfl rfl ?_))
   refine FW.ret ⟨.inl rfl, ?_⟩
   have e : zhn l n = true := by
    have : nth l k = n := by simpa using h
    simp only [zhn, decide_eq_true_eq, ← this]
    exact zp hlt
   rw [e]
   exact .flat (.cons (.tmp 4 rfl rfl) .nil) rfl rfl
  ·(repeat (first | refine FW.region ?_ | refine FW.skip ?_ | refine zc.nil ?_ | refine za rfl rfl rfl ?_ | refine zb rfl rfl rfl ?_ | refine zu rfl rfl (by omega) rfl rfl ?_))
   refine ⟨k + 1, ⟨by omega, ?_⟩, by omega, (FLe.conv [] (by simp) (by simp) rfl (by repeat (first | exact .nil | refine .low rfl ?_ | refine .same rfl ?_ | refine .bump (Nat.lt_succ_self _) ?_)) (by repeat (first | exact .nil)) (by repeat (first | exact .nil | refine .cons (.plain rfl rfl rfl) ?_)))⟩
   have : nth l k ≠ n := by simpa using h
   rw [List.take_succ_eq_append_getElem hlt, List.mem_append]
   rintro (h1 | h1)
   ·exact hn h1
   ·rw [zh hlt] at this
    simp at h1; exact this h1.symm
 ·(repeat (first | refine FW.seq ?_ | refine FW.region ?_ | refine FW.exit ?_ | refine zc.nil ?_ | refine za rfl rfl rfl ?_))
  refine FW.ret ⟨.inl rfl, ?_⟩
  have e : zhn l n = false := by
   have : k = l.length := by simp at h; omega
   subst this
   simpa [zhn] using hn
  rw [e]
  exact .flat (.cons (.tmp 4 rfl rfl) .nil) rfl rfl
end Go.Proofs.Ytbeebjdnapkhhaa
/-
 The keys of a history: the function's and the reference's, at plain values.
-/
namespace Go.Proofs.Ytbeebjdnapkhhaa
set_option linter.unusedVariables false
open Go.RowKit

def Yo (l : List OpV) (i : Nat) : List Int := (l.take i).map OpV.key
def yV (l : List OpV) : List Int := Lib.compact ((l.map OpV.key).mergeSort fun x y => decide (x ≤ y))
theorem UK (l : List OpV) (i : Nat) (hi : i < l.length) : Yo l (i + 1) = Yo l i ++ [(nth l i).key] := by
 unfold Yo
 rw [List.take_succ_eq_append_getElem hi, List.map_append, zh hi]
 rfl
theorem zf4 (l : List OpV) (i : Nat) : (Yo l i).length ≤ l.length := by unfold Yo; rw [List.length_map, List.length_take]; omega
set_option maxHeartbeats 4000000 in
theorem zbd (l : List OpV) (hl : l.length ≤ 1000000000) : zV Try.prog 37 [.list 8 (l.map OpV.fv)] (.ow 3 1) (.list 1 ((yV l).map zG)) := by
 refine zV.of_body (c := (Za Try.prog zF zy 22)) ⟨Try.func37, rfl, Try.ntmps37, by kernel_rfl⟩ (by simp [FV.hand]) (by exact Nat.le_of_ble_eq_true rfl) rfl ?_
 change FW _ _ _ ⟨[(0, .list 8 (l.map OpV.fv))], []⟩
 (repeat (first | refine FW.seq ?_ | refine FW.region ?_ | refine FW.block ?_ | refine zc.nil ?_ | refine za rfl rfl rfl ?_ | refine zb rfl rfl rfl ?_ | refine zq rfl rfl (by exact List.length_map _) rfl rfl ?_))
 refine FW.loop (fun i : Nat => ⟨[(3, .own 100 0 0 (Yo l i).length), (6, .list 8 (l.map OpV.fv)), (7, .int .i64 l.length), (8, .int .i64 i)], [(100, ⟨0, .own, 3, 1, (Yo l i).map zG⟩)]⟩) (fun i => i ≤ l.length) (fun i => l.length - i) 0 (Nat.zero_le _)
  (FLe.conv [⟨100, none, 0, ⟨0, .own, 3, 1, []⟩⟩] (by simp) (by simp) rfl (by repeat (first | exact .nil | refine .low rfl ?_ | refine .same rfl ?_ | refine .bump (Nat.lt_succ_self _) ?_)) (by repeat (first | exact .nil | refine .new ?_)) (by repeat (first | exact .nil | refine .cons (.plain rfl rfl rfl) ?_ | refine .cons (.nil rfl (.head _) rfl) ?_))) ?_
 intro i hi
 have hkl := zf4 l i
 (repeat (first | refine FW.seq ?_ | refine FW.region ?_ | refine zc.nil ?_ | refine zJ rfl rfl rfl rfl ?_))
 refine FW.cond rfl (fun h => ?_) (fun h => ?_)
 ·have hlt : i < l.length := by simpa using h
  clear h
  (repeat (first | refine FW.seq ?_ | refine FW.region ?_ | refine FW.block ?_ | refine FW.skip ?_ | refine zc.nil ?_ | refine za rfl rfl rfl ?_ | refine zb rfl rfl rfl ?_ | refine zC rfl rfl rfl rfl rfl rfl (by first | (simp; omega) | (simp; done)) rfl rfl ?_ | refine zm rfl rfl rfl rfl rfl (by first | (simp; omega) | (simp; done)) (by first | exact zd (by omega) | rfl) rfl rfl rfl rfl ?_ | refine yN rfl rfl rfl (by decide) (by first | (simp; omega) | (simp; done)) (by first | exact zd (by omega) | rfl) rfl rfl rfl ?_ | refine zS rfl rfl rfl rfl rfl rfl rfl ?_ | refine zE rfl rfl rfl rfl rfl rfl rfl rfl rfl ?_ | refine zn rfl rfl rfl rfl rfl rfl (by decide) rfl rfl ?_ | refine xd rfl rfl rfl rfl rfl rfl rfl rfl ?_ | refine xX rfl rfl (by first | exact (List.length_map _).symm | rfl | (simp; done) | (simp; omega)) rfl rfl rfl (by decide) (by exact WQ.own rfl rfl (by decide) (by first | exact List.length_map _ | exact (List.length_map _).symm | exact List.length_replicate | rfl | (simp; done) | omega | (simp; omega))) (by first | (simp; omega) | (simp; done)) (by first | (simp; omega) | (simp; done)) rfl rfl rfl ?_ | refine zu rfl rfl (by omega) rfl rfl ?_))
  refine ⟨i + 1, by omega, by omega, ?_⟩
  rw [UK l i hlt, List.map_append]
  exact (FLe.conv [⟨100, some 16, 1, ⟨0, .own, 3, 1, (Yo l i).map zG ++ [(nth l i).key].map zG⟩⟩] (by simp) (by simp) rfl (by repeat (first | exact .nil | refine .low rfl ?_ | refine .same rfl ?_ | refine .bump (Nat.lt_succ_self _) ?_)) (by repeat (first | exact .nil | refine .old rfl (by decide) (by first | rfl | (simp; done)) ?_)) (by repeat (first | exact .nil | refine .cons (.plain rfl rfl (by first | rfl | (simp; done))) ?_ | refine .cons (.own rfl (.head _) rfl (by first | rfl | (simp; done))) ?_)))
 ·have : i = l.length := by simp at h; omega
  subst this
  have hk : Yo l l.length = l.map OpV.key := by unfold Yo; rw [List.take_length]
  rw [hk]
  have hlen : ((l.map OpV.key).mergeSort fun x y => decide (x ≤ y)).length = (l.map OpV.key).length := List.length_mergeSort _
  (repeat (first | refine FW.seq ?_ | refine FW.region ?_ | refine FW.exit ?_ | refine zb rfl rfl rfl ?_))
  refine zcg (zgw 0 (l.map OpV.key) (by simp; omega)) [(5000, 100)] rfl (xC.cons rfl rfl rfl xC.nil) rfl rfl rfl rfl rfl rfl ?_
  rintro _ _ ⟨rfl, h1⟩
  refine zcs.one [(100, ⟨0, .own, 3, 1, ((l.map OpV.key).mergeSort fun x y => decide (x ≤ y)).map zG⟩)] (.tup []) rfl (congrArg (fun b => [(100, zt.ren (gOf [(5000, 100)]) b)]) h1) ?_
  (repeat (first | refine FW.seq ?_ | refine FW.region ?_ | refine zc.nil ?_ | refine zb rfl rfl rfl ?_))
  refine zcg (zbM 0 ((l.map OpV.key).mergeSort fun x y => decide (x ≤ y)) (by rw [hlen]; simp; omega)) [(5000, 100)] ?_ (xC.cons rfl rfl rfl xC.nil) rfl rfl rfl rfl rfl rfl ?_
  ·rw [hlen]; rfl
  rintro _ _ ⟨rfl, h1⟩
  refine zcs.one [(100, ⟨1, .own, 3, 1, (yV l).map zG⟩)] (.own 100 1 0 (yV l).length) rfl (congrArg (fun b => [(100, zt.ren (gOf [(5000, 100)]) b)]) h1) ?_
  (repeat (first | refine zc.nil ?_ | refine za rfl rfl rfl ?_))
  exact FW.ret ⟨.inl rfl, Zm rfl rfl rfl (by simp) (by decide) rfl (zf3.flatsM _)⟩

def zhC (l : List Int) (x : Int) : Nat := (l.takeWhile fun y => decide (y < x)).length
def zlf (l : List Int) (x : Int) : List Int := if x ∈ l then l else l.take (zhC l x) ++ [x] ++ l.drop (zhC l x)
def Va (l : List OpV) : Nat → List Int
 | 0 => []
 | i + 1 => zlf (Va l i) (nth l i).key
end Go.Proofs.Ytbeebjdnapkhhaa
/-
 Before, of whatever numbers, at plain values.
-/
namespace Go.Proofs.Ytbeebjdnapkhhaa
set_option linter.unusedVariables false
open Go.RowKit

def ziz (l : List OpV) (i k : Int) : Bool := if 0 ≤ i ∧ 0 ≤ k ∧ i < l.length ∧ k < l.length then bef l i.toNat k.toNat else false
theorem ziN {l : List OpV} {i k : Int} (h : ¬ (0 ≤ i ∧ 0 ≤ k ∧ i < l.length ∧ k < l.length)) : ziz l i k = false := by unfold ziz; rw [if_neg h]
theorem zgR {l : List OpV} {i k : Nat} (hi : i < l.length) (hk : k < l.length) : ziz l i k = bef l i k := by
 unfold ziz
 rw [if_pos (by omega)]
 rfl
set_option maxHeartbeats 2000000 in
theorem zbW (l : List OpV) (i k : Int) (hl : l.length ≤ 1000000000) : zV Try.prog 28 [.list 8 (l.map OpV.fv), .int .i64 i, .int .i64 k] .fr (.bool (ziz l i k)) := by
 by_cases hin : 0 ≤ i ∧ 0 ≤ k ∧ i < l.length ∧ k < l.length
 ·obtain ⟨a, ha⟩ : ∃ a : Nat, i = a := ⟨i.toNat, by omega⟩
  obtain ⟨b, hb⟩ : ∃ b : Nat, k = b := ⟨k.toNat, by omega⟩
  subst ha; subst hb
  rw [zgR (by omega) (by omega)]
  exact Xd l a b (by omega) (by omega)
 ·rw [ziN hin]
  refine zV.of_body (c := (Za Try.prog zF zy 37)) ⟨Try.func28, rfl, Try.ntmps28, by kernel_rfl⟩ (by simp [FV.hand]) (by exact Nat.le_of_ble_eq_true rfl) rfl ?_
  change FW _ _ _ ⟨[(0, .list 8 (l.map OpV.fv)), (1, .int .i64 i), (2, .int .i64 k)], []⟩
  (repeat (first | refine FW.seq ?_ | refine FW.region ?_ | refine zc.nil ?_ | refine za rfl rfl rfl ?_ | refine zb rfl rfl rfl ?_ | refine zfp rfl rfl rfl rfl ?_ | refine zJ rfl rfl rfl rfl ?_))
  refine yA (fun h => ?_) (fun h => ?_)
  ·(repeat (first | refine FW.seq ?_ | refine FW.region ?_ | refine FW.condT rfl ?_ | refine zc.nil ?_ | refine za rfl rfl rfl ?_ | refine zL rfl rfl rfl rfl ?_ | refine yh rfl rfl ⟨_, _, rfl, rfl, rfl⟩ ?_))
   exact FW.ret ⟨.inl rfl, zA rfl rfl rfl rfl⟩
  ·(repeat (first | refine zc.nil ?_ | refine zK rfl rfl rfl rfl ?_ | refine zb rfl rfl ⟨_, _, rfl, rfl, rfl⟩ ?_ | refine zh8 rfl rfl rfl ⟨_, _, rfl, rfl, rfl⟩ ?_ | refine zq rfl rfl (by exact List.length_map _) rfl ⟨_, _, rfl, rfl, rfl⟩ ?_ | refine XP rfl rfl rfl ⟨_, _, rfl, rfl, rfl⟩ ?_))
   refine FW.cond rfl (fun h2 => ?_) (fun h2 => ?_)
   ·(repeat (first | refine FW.seq ?_ | refine FW.region ?_ | refine zc.nil ?_ | refine za rfl rfl rfl ?_))
    exact FW.ret ⟨.inl rfl, zA rfl rfl rfl rfl⟩
   ·exfalso
    simp at h h2
    exact hin (by omega)
end Go.Proofs.Ytbeebjdnapkhhaa
/-
 The two lists of a history's keys are equal: both ascend and have the same members.
-/
namespace Go.Proofs.Ytbeebjdnapkhhaa
set_option linter.unusedVariables false
open Go.RowKit

theorem zbg : ∀ (l : List Int) (x : Int), l.Pairwise (· < ·) → (∀ y ∈ l.take (zhC l x), y < x) ∧ ∀ y ∈ l.drop (zhC l x), x ≤ y
 | [], x, _ => by simp
 | z :: l, x, h => by
  rw [List.pairwise_cons] at h
  unfold zhC
  rw [List.takeWhile_cons]
  by_cases hz : z < x
  ·rw [if_pos (by simpa using hz)]
   have ih := zbg l x h.2
   unfold zhC at ih
   rw [List.length_cons, List.take_succ_cons, List.drop_succ_cons]
   refine ⟨fun y hy => ?_, ih.2⟩
   rcases List.mem_cons.1 hy with rfl | hy
   ·exact hz
   ·exact ih.1 y hy
  ·rw [if_neg (by simpa using hz)]
   refine ⟨by simp, fun y hy => ?_⟩
   rcases List.mem_cons.1 (by simpa using hy) with rfl | hy
   ·omega
   ·have := h.1 y hy; omega
theorem zjb {l : List Int} {x : Int} (h : l.Pairwise (· < ·)) : (zlf l x).Pairwise (· < ·) := by
 unfold zlf
 split
 ·exact h
 ·rename_i hx
  obtain ⟨h1, h2⟩ := zbg l x h
  have hd : ∀ y ∈ l.drop (zhC l x), x < y := fun y hy => by
   have := h2 y hy
   have hne : x ≠ y := fun e => hx (by rw [e]; exact List.mem_of_mem_drop hy)
   omega
  have ht := h.take (i := zhC l x)
  have hdr := h.drop (i := zhC l x)
  refine List.pairwise_append.2 ⟨List.pairwise_append.2 ⟨ht, by simp, fun a ha b hb => ?_⟩, hdr, fun a ha b hb => ?_⟩
  ·rw [List.mem_singleton] at hb; subst hb; exact h1 a ha
  ·rcases List.mem_append.1 ha with ha | ha
   ·have := h1 a ha; have := hd b hb; omega
   ·rw [List.mem_singleton] at ha; subst ha; exact hd b hb
theorem zjc {l : List Int} {x y : Int} : y ∈ zlf l x ↔ y ∈ l ∨ y = x := by
 unfold zlf
 split
 ·rename_i h
  constructor
  ·exact fun h => .inl h
  ·rintro (h' | rfl)
   ·exact h'
   ·exact h
 ·have e : l = l.take (zhC l x) ++ l.drop (zhC l x) := (List.take_append_drop _ _).symm
  conv => rhs; rw [e]
  simp only [List.mem_append, List.mem_singleton]
  constructor
  ·rintro ((h | h) | h)
   ·exact .inl (.inl h)
   ·exact .inr h
   ·exact .inl (.inr h)
  ·rintro ((h | h) | h)
   ·exact .inl (.inl h)
   ·exact .inr h
   ·exact .inl (.inr h)
theorem zac (l : List OpV) : ∀ i, (Va l i).Pairwise (· < ·)
 | 0 => List.Pairwise.nil
 | i + 1 => zjb (zac l i)
theorem zad (l : List OpV) (y : Int) : ∀ i, i ≤ l.length → (y ∈ Va l i ↔ y ∈ Yo l i)
 | 0, _ => by simp [Va, Yo]
 | i + 1, h => by
  rw [Va, zjc, zad l y i (by omega), UK l i (by omega)]
  simp

theorem zcZ (l : List OpV) : (yV l).Pairwise (· < ·) := zdY (zik _)
theorem Yl (l : List OpV) (y : Int) : y ∈ yV l ↔ ∃ o ∈ l, o.key = y := by
 unfold yV
 rw [zdZ, List.mem_mergeSort, List.mem_map]
theorem ze0 (l : List OpV) : yV l = Va l l.length := by
 refine zjS (zcZ l) (zac l _) fun x => ?_
 rw [zad l x l.length (Nat.le_refl _), Yl]
 unfold Yo
 rw [List.take_length, List.mem_map]
end Go.Proofs.Ytbeebjdnapkhhaa
