/-
  Some texts as one: FmOnce, FmHas, FmKeys, FmBefI, WfPlain, KeysPlain.
-/
import Derived.Test.YtbeebjdnapkhhaaZD
import Derived.Test.YtbeebjdnapkhhaaZSortPlain
/-
 The small functions of layers 01, 21 and 24, at plain values.
-/
namespace Go.Proofs.Ytbeebjdnapkhhaa
set_option linter.unusedVariables false
open Go.RowKit

theorem zgD (l : List Int) (hl : l.length ≤ 1000000000) : yd Try.prog 33 [.list 1 (l.map zE), .int .i64 l.length] (.ow 3 1) (.list 1 (l.map zE)) := by
 refine yd.of_body (c := (ZD Try.prog zF zy 14)) ⟨Try.func33, rfl, Try.ntmps33, by kernel_rfl⟩ (by simp [FV.hand]) (by exact Nat.le_of_ble_eq_true rfl) rfl ?_
 change FW _ _ _ ⟨[(0, .list 1 (l.map zE)), (1, .int .i64 l.length)], []⟩
 (repeat (first | refine FW.seq ?_ | refine FW.region ?_ | refine zc.nil ?_ | refine za rfl rfl rfl ?_ | refine zb rfl rfl rfl ?_ | refine zw rfl rfl (by first | exact List.length_map _ | (simp; done) | omega | (simp; omega)) rfl rfl ?_ | refine zhh rfl rfl rfl rfl ?_ | refine zhk rfl rfl rfl rfl (by exact LoR.none) (by exact HiR.lit rfl (by first | rfl | exact (Int.toNat_of_nonneg (by omega)).symm)) (by first | omega | (simp; omega) | (simp; done)) (by first | omega | (simp; omega) | (simp; done)) rfl rfl ?_ | refine zdK rfl rfl rfl rfl (by decide) (by exact XR.list rfl) (by first | omega | (simp; omega) | (simp; done)) (by first | omega | (simp; omega) | (simp; done)) rfl rfl rfl ?_))
 exact FW.ret ⟨.inl rfl, xK rfl rfl rfl rfl (by decide) (by simp [← List.map_take]) (zff.flatsM l)⟩

theorem zit (l : List Int) (i : Nat) (v : Int) (hl : l.length ≤ 1000000000) (hi : i < l.length) : yd Try.prog 44 [.list 1 (l.map zE), .int .i64 i, .int .i64 v] (.ow 3 1) (.list 1 ((l.set i v).map zE)) := by
 refine yd.of_body (c := (ZD Try.prog zF zy 17)) ⟨Try.func44, rfl, Try.ntmps44, by kernel_rfl⟩ (by simp [FV.hand]) (by exact Nat.le_of_ble_eq_true rfl) rfl ?_
 change FW _ _ _ ⟨[(0, .list 1 (l.map zE)), (1, .int .i64 i), (2, .int .i64 v)], []⟩
 (repeat (first | refine FW.seq ?_ | refine FW.region ?_ | refine zc.nil ?_ | refine za rfl rfl rfl ?_ | refine zb rfl rfl rfl ?_ | refine zw rfl rfl (by exact List.length_map _) rfl rfl ?_))
 refine zU (zgD l hl) (by repeat (first | exact zi.nil | refine zi.cons (by exact ym.plain rfl rfl) ?_)) (List.length_map _) rfl rfl rfl ?_
 (repeat (first | refine FW.seq ?_ | refine FW.region ?_ | refine zc.nil ?_ | refine za rfl rfl rfl ?_ | refine zb rfl rfl rfl ?_ | refine zu rfl rfl rfl rfl rfl rfl (by decide) rfl (by first | omega | (simp; omega)) rfl rfl ?_ | refine zV rfl rfl rfl rfl rfl rfl (by first | omega | (simp; omega)) (by first | exact zd (by omega) | rfl) rfl rfl rfl ?_))
 exact FW.ret ⟨.inl rfl, xK rfl rfl rfl (by simp) (by decide) (by rw [List.map_set]; rfl) (zff.flatsM _)⟩

theorem zbM (a b : List Int) (ha : a.length ≤ 1000000000) (hb : b.length ≤ 1000000000) : yd Try.prog 18 [.list 1 (a.map zE), .list 1 (b.map zE)] .fr (.bool (decide (a = b))) := by
 refine yd.of_body (c := (ZD Try.prog zF zy 26)) ⟨Try.func18, rfl, Try.ntmps18, by kernel_rfl⟩ (by simp [FV.hand]) (by exact Nat.le_of_ble_eq_true rfl) rfl ?_
 change FW _ _ _ ⟨[(0, .list 1 (a.map zE)), (1, .list 1 (b.map zE))], []⟩
 (repeat (first | refine FW.seq ?_ | refine FW.region ?_ | refine zc.nil ?_ | refine za rfl rfl rfl ?_ | refine zb rfl rfl rfl ?_ | refine zw rfl rfl (by exact List.length_map _) rfl rfl ?_ | refine YA rfl rfl rfl rfl ?_))
 refine FW.cond rfl (fun h => ?_) (fun h => ?_)
 ·(repeat (first | refine FW.seq ?_ | refine FW.region ?_ | refine zc.nil ?_ | refine za rfl rfl rfl ?_))
  refine FW.ret ⟨.inl rfl, zQ rfl rfl ?_ rfl⟩
  have : a ≠ b := by rintro rfl; simp at h
  simp [this]; rfl
 ·have hlen : a.length = b.length := by simp at h; omega
  (repeat (first | refine FW.seq ?_ | refine FW.region ?_ | refine FW.block ?_ | refine FW.skip ?_ | refine zc.nil ?_ | refine za rfl rfl rfl ?_))
  refine FW.loop (fun k : Nat => ⟨[(0, .list 1 (a.map zE)), (1, .list 1 (b.map zE)), (5, .int .i64 k)], []⟩) (fun k => k ≤ a.length ∧ a.take k = b.take k) (fun k => a.length - k) 0 (by simp) (FLe.conv [] (by simp) (by simp) rfl (by repeat (first | exact .nil | refine .low rfl ?_ | refine .same rfl ?_ | refine .bump (Nat.lt_succ_self _) ?_)) (by repeat (first | exact .nil)) (by repeat (first | exact .nil | refine .cons (.plain rfl rfl rfl) ?_))) ?_
  rintro k ⟨hk, hab⟩
  (repeat (first | refine FW.seq ?_ | refine FW.region ?_ | refine zc.nil ?_ | refine zb rfl rfl rfl ?_ | refine zw rfl rfl (by exact List.length_map _) rfl rfl ?_ | refine zH rfl rfl rfl rfl ?_))
  refine FW.cond rfl (fun h => ?_) (fun h => ?_)
  ·have hlt : k < a.length := by simpa using h
   clear h
   (repeat (first | refine FW.seq ?_ | refine FW.block ?_ | refine FW.skip ?_ | refine FW.draw ?_ | refine zG.nil ?_ | refine zS rfl rfl rfl ?_ | refine zko rfl rfl rfl rfl ?_ | refine yp rfl rfl rfl rfl rfl rfl (by simp; omega) rfl rfl ?_ | refine yh rfl rfl rfl (by simp; omega) (by first | exact zd (by omega) | rfl) rfl rfl rfl rfl ?_))
   refine ⟨by kernel_rfl, ?_⟩
   refine FW.cond rfl (fun h => ?_) (fun h => ?_)
   ·(repeat (first | refine FW.seq ?_ | refine FW.region ?_ | refine zc.nil ?_ | refine za rfl rfl rfl ?_))
    refine FW.ret ⟨.inl rfl, zQ rfl rfl ?_ rfl⟩
    have : a ≠ b := by rintro rfl; simp at h
    simp [this]; rfl
   ·(repeat (first | refine FW.region ?_ | refine FW.skip ?_ | refine zc.nil ?_ | refine za rfl rfl rfl ?_ | refine zb rfl rfl rfl ?_ | refine zt rfl rfl (by omega) rfl rfl ?_))
    refine ⟨k + 1, ⟨by omega, ?_⟩, by omega, (FLe.conv [] (by simp) (by simp) rfl (by repeat (first | exact .nil | refine .low rfl ?_ | refine .same rfl ?_ | refine .bump (Nat.lt_succ_self _) ?_)) (by repeat (first | exact .nil)) (by repeat (first | exact .nil | refine .cons (.plain rfl rfl rfl) ?_)))⟩
    have h1 : nth a k = nth b k := by simpa using h
    rw [List.take_succ_eq_append_getElem hlt, List.take_succ_eq_append_getElem (by omega), hab, ← zg hlt, ← zg (by omega), h1]
  ·(repeat (first | refine FW.seq ?_ | refine FW.region ?_ | refine FW.exit ?_ | refine zc.nil ?_ | refine za rfl rfl rfl ?_))
   refine FW.ret ⟨.inl rfl, zQ rfl rfl ?_ rfl⟩
   have : k = a.length := by simp at h; omega
   subst this
   have : a = b := by rw [List.take_of_length_le (Nat.le_refl _), List.take_of_length_le (by omega)] at hab; exact hab
   simp [this]; rfl

def bef (l : List OpV) (i k : Nat) : Bool := (nth l i).done && decide ((nth l i).ret < (nth l k).call)
set_option maxHeartbeats 1000000 in
theorem Ve (l : List OpV) (i k : Nat) (hi : i < l.length) (hk : k < l.length) : yd Try.prog 28 [.list 8 (l.map OpV.fv), .int .i64 i, .int .i64 k] .fr (.bool (bef l i k)) := by
 refine yd.of_body (c := (ZD Try.prog zF zy 37)) ⟨Try.func28, rfl, Try.ntmps28, by kernel_rfl⟩ (by simp [FV.hand]) (by exact Nat.le_of_ble_eq_true rfl) rfl ?_
 change FW _ _ _ ⟨[(0, .list 8 (l.map OpV.fv)), (1, .int .i64 i), (2, .int .i64 k)], []⟩
 (repeat (first | refine FW.seq ?_ | refine FW.region ?_ | refine zc.nil ?_ | refine za rfl rfl rfl ?_ | refine zb rfl rfl rfl ?_ | refine zhh rfl rfl rfl rfl ?_ | refine zH rfl rfl rfl rfl ?_))
 refine yZ (fun h => ?_) (fun h => ?_)
 ·exfalso; simp at h; omega
 ·(repeat (first | refine zc.nil ?_ | refine zZ rfl rfl rfl rfl ?_ | refine zb rfl rfl ⟨_, _, rfl, rfl, rfl⟩ ?_ | refine zi9 rfl rfl rfl ⟨_, _, rfl, rfl, rfl⟩ ?_ | refine zw rfl rfl (by exact List.length_map _) rfl ⟨_, _, rfl, rfl, rfl⟩ ?_ | refine za1 rfl rfl rfl ⟨_, _, rfl, rfl, rfl⟩ ?_))
  refine FW.cond rfl (fun h => ?_) (fun h => ?_)
  ·exfalso; simp at h; omega
  (repeat (first | refine FW.seq ?_ | refine FW.skip ?_ | refine FW.draw ?_ | refine zS rfl rfl rfl ?_ | refine yp rfl rfl rfl rfl rfl rfl (by simp; omega) rfl rfl ?_ | refine xY rfl rfl rfl rfl rfl rfl rfl ?_ | refine yh rfl rfl rfl (by simp; omega) (by first | exact zd (by omega) | rfl) rfl rfl rfl rfl ?_))
  refine UN (fun h => ?_) (fun h => ?_)
  ·(repeat (first | refine zG.nil ?_ | refine xD rfl rfl rfl ?_ | refine Xh rfl rfl rfl rfl ?_ | refine zS rfl rfl ⟨_, _, rfl, rfl, rfl⟩ ?_ | refine yp rfl rfl rfl rfl rfl rfl (by simp; omega) rfl ⟨_, _, rfl, rfl, rfl⟩ ?_ | refine xY rfl rfl rfl rfl rfl rfl ⟨_, _, rfl, rfl, rfl⟩ ?_ | refine yh rfl rfl rfl (by simp; omega) (by first | exact zd (by omega) | rfl) rfl rfl rfl ⟨_, _, rfl, rfl, rfl⟩ ?_ | refine zkn rfl rfl rfl ⟨_, _, rfl, rfl, rfl⟩ ?_))
   refine ⟨by kernel_rfl, ?_⟩
   skip
   refine FW.ret ⟨.inl rfl, zQ rfl rfl ?_ rfl⟩
   simp [bef, h]; rfl
  ·(repeat (first | refine zG.nil ?_ | refine xD rfl rfl rfl ?_ | refine Xg rfl rfl rfl rfl ?_ | refine WS rfl rfl ⟨_, _, rfl, rfl, rfl⟩ ?_))
   refine ⟨by kernel_rfl, ?_⟩
   skip
   refine FW.ret ⟨.inl rfl, zQ rfl rfl ?_ rfl⟩
   simp [bef, h]; rfl

def zgF (o : OpV) : Bool := decide (o.k = 4) && o.done && decide (o.res ≠ 0)
end Go.Proofs.Ytbeebjdnapkhhaa
/-
 simproofref01.Has, at plain values.
-/
namespace Go.Proofs.Ytbeebjdnapkhhaa
set_option linter.unusedVariables false
open Go.RowKit
end Go.Proofs.Ytbeebjdnapkhhaa
/-
 The keys of a history: the function's and the reference's, at plain values.
-/
namespace Go.Proofs.Ytbeebjdnapkhhaa
set_option linter.unusedVariables false
open Go.RowKit

def Yb (l : List OpV) (i : Nat) : List Int := (l.take i).map OpV.key
def yQ (l : List OpV) : List Int := Lib.compact ((l.map OpV.key).mergeSort fun x y => decide (x ≤ y))
theorem Uw (l : List OpV) (i : Nat) (hi : i < l.length) : Yb l (i + 1) = Yb l i ++ [(nth l i).key] := by
 unfold Yb
 rw [List.take_succ_eq_append_getElem hi, List.map_append, zg hi]
 rfl
theorem zfg (l : List OpV) (i : Nat) : (Yb l i).length ≤ l.length := by unfold Yb; rw [List.length_map, List.length_take]; omega
set_option maxHeartbeats 4000000 in
theorem zaN (l : List OpV) (hl : l.length ≤ 1000000000) : yd Try.prog 37 [.list 8 (l.map OpV.fv)] (.ow 3 1) (.list 1 ((yQ l).map zE)) := by
 refine yd.of_body (c := (ZD Try.prog zF zy 22)) ⟨Try.func37, rfl, Try.ntmps37, by kernel_rfl⟩ (by simp [FV.hand]) (by exact Nat.le_of_ble_eq_true rfl) rfl ?_
 change FW _ _ _ ⟨[(0, .list 8 (l.map OpV.fv))], []⟩
 (repeat (first | refine FW.seq ?_ | refine FW.region ?_ | refine FW.block ?_ | refine zc.nil ?_ | refine za rfl rfl rfl ?_ | refine zb rfl rfl rfl ?_ | refine zw rfl rfl (by exact List.length_map _) rfl rfl ?_))
 refine FW.loop (fun i : Nat => ⟨[(3, .own 100 0 0 (Yb l i).length), (6, .list 8 (l.map OpV.fv)), (7, .int .i64 l.length), (8, .int .i64 i)], [(100, ⟨0, .own, 3, 1, (Yb l i).map zE⟩)]⟩) (fun i => i ≤ l.length) (fun i => l.length - i) 0 (Nat.zero_le _)
  (FLe.conv [⟨100, none, 0, ⟨0, .own, 3, 1, []⟩⟩] (by simp) (by simp) rfl (by repeat (first | exact .nil | refine .low rfl ?_ | refine .same rfl ?_ | refine .bump (Nat.lt_succ_self _) ?_)) (by repeat (first | exact .nil | refine .new ?_)) (by repeat (first | exact .nil | refine .cons (.plain rfl rfl rfl) ?_ | refine .cons (.nil rfl (.head _) rfl) ?_))) ?_
 intro i hi
 have hkl := zfg l i
 (repeat (first | refine FW.seq ?_ | refine FW.region ?_ | refine zc.nil ?_ | refine zH rfl rfl rfl rfl ?_))
 refine FW.cond rfl (fun h => ?_) (fun h => ?_)
 ·have hlt : i < l.length := by simpa using h
  clear h
  (repeat (first | refine FW.seq ?_ | refine FW.region ?_ | refine FW.block ?_ | refine FW.skip ?_ | refine zc.nil ?_ | refine za rfl rfl rfl ?_ | refine zb rfl rfl rfl ?_ | refine zC rfl rfl rfl rfl rfl rfl (by first | (simp; omega) | (simp; done)) rfl rfl ?_ | refine zn rfl rfl rfl rfl rfl (by first | (simp; omega) | (simp; done)) (by first | exact zd (by omega) | rfl) rfl rfl rfl rfl ?_ | refine yJ rfl rfl rfl (by decide) (by first | (simp; omega) | (simp; done)) (by first | exact zd (by omega) | rfl) rfl rfl rfl ?_ | refine zT rfl rfl rfl rfl rfl rfl rfl ?_ | refine zB rfl rfl rfl rfl rfl rfl rfl rfl rfl ?_ | refine zm rfl rfl rfl rfl rfl rfl (by decide) rfl rfl ?_ | refine yU rfl rfl rfl rfl rfl rfl rfl rfl ?_ | refine xF rfl rfl (by first | exact (List.length_map _).symm | rfl | (simp; done) | (simp; omega)) rfl rfl rfl (by decide) (by exact XR.own rfl rfl (by decide) (by first | exact List.length_map _ | exact (List.length_map _).symm | exact List.length_replicate | rfl | (simp; done) | omega | (simp; omega))) (by first | (simp; omega) | (simp; done)) (by first | (simp; omega) | (simp; done)) rfl rfl rfl ?_ | refine zt rfl rfl (by omega) rfl rfl ?_))
  refine ⟨i + 1, by omega, by omega, ?_⟩
  rw [Uw l i hlt, List.map_append]
  exact (FLe.conv [⟨100, some 16, 1, ⟨0, .own, 3, 1, (Yb l i).map zE ++ [(nth l i).key].map zE⟩⟩] (by simp) (by simp) rfl (by repeat (first | exact .nil | refine .low rfl ?_ | refine .same rfl ?_ | refine .bump (Nat.lt_succ_self _) ?_)) (by repeat (first | exact .nil | refine .old rfl (by decide) (by first | rfl | (simp; done)) ?_)) (by repeat (first | exact .nil | refine .cons (.plain rfl rfl (by first | rfl | (simp; done))) ?_ | refine .cons (.own rfl (.head _) rfl (by first | rfl | (simp; done))) ?_)))
 ·have : i = l.length := by simp at h; omega
  subst this
  have hk : Yb l l.length = l.map OpV.key := by unfold Yb; rw [List.take_length]
  rw [hk]
  have hlen : ((l.map OpV.key).mergeSort fun x y => decide (x ≤ y)).length = (l.map OpV.key).length := List.length_mergeSort _
  (repeat (first | refine FW.seq ?_ | refine FW.region ?_ | refine FW.exit ?_ | refine zb rfl rfl rfl ?_))
  refine zbI (zfG 0 (l.map OpV.key) (by simp; omega)) [(5000, 100)] rfl (xu.cons rfl rfl rfl xu.nil) rfl rfl rfl rfl rfl rfl ?_
  rintro _ _ ⟨rfl, h1⟩
  refine zbV.one [(100, ⟨0, .own, 3, 1, ((l.map OpV.key).mergeSort fun x y => decide (x ≤ y)).map zE⟩)] (.tup []) rfl (congrArg (fun b => [(100, zj.ren (gOf [(5000, 100)]) b)]) h1) ?_
  (repeat (first | refine FW.seq ?_ | refine FW.region ?_ | refine zc.nil ?_ | refine zb rfl rfl rfl ?_))
  refine zbI (zbj 0 ((l.map OpV.key).mergeSort fun x y => decide (x ≤ y)) (by rw [hlen]; simp; omega)) [(5000, 100)] ?_ (xu.cons rfl rfl rfl xu.nil) rfl rfl rfl rfl rfl rfl ?_
  ·rw [hlen]; rfl
  rintro _ _ ⟨rfl, h1⟩
  refine zbV.one [(100, ⟨1, .own, 3, 1, (yQ l).map zE⟩)] (.own 100 1 0 (yQ l).length) rfl (congrArg (fun b => [(100, zj.ren (gOf [(5000, 100)]) b)]) h1) ?_
  (repeat (first | refine zc.nil ?_ | refine za rfl rfl rfl ?_))
  exact FW.ret ⟨.inl rfl, xK rfl rfl rfl (by simp) (by decide) rfl (zff.flatsM _)⟩

def zgK (l : List Int) (x : Int) : Nat := (l.takeWhile fun y => decide (y < x)).length
def zkg (l : List Int) (x : Int) : List Int := if x ∈ l then l else l.take (zgK l x) ++ [x] ++ l.drop (zgK l x)
def WQ (l : List OpV) : Nat → List Int
 | 0 => []
 | i + 1 => zkg (WQ l i) (nth l i).key
end Go.Proofs.Ytbeebjdnapkhhaa
/-
 Before, of whatever numbers, at plain values.
-/
namespace Go.Proofs.Ytbeebjdnapkhhaa
set_option linter.unusedVariables false
open Go.RowKit

end Go.Proofs.Ytbeebjdnapkhhaa
/-
 Lists of operations that are histories, told by pairs; what keeps them so.
-/
namespace Go.Proofs.Ytbeebjdnapkhhaa
set_option linter.unusedVariables false

def zka (a b : OpV) : Prop := a.call < b.call ∧ (a.done = true → a.ret ≠ b.call ∧ (b.done = true → b.ret ≠ a.ret)) ∧ (a.p = b.p → a.done = true ∧ a.ret ≤ b.call)
structure WFH (l : List OpV) : Prop where
 len : l.length ≤ 300
 wf : ∀ o ∈ l, wfB o = true
 rel : l.Pairwise zka

theorem WFH.pair {l : List OpV} (h : WFH l) {i j : Nat} (hij : i < j) (hj : j < l.length) : zka (nth l i) (nth l j) := by
 rw [zg hj, zg (show i < l.length by omega)]
 exact List.pairwise_iff_getElem.1 h.rel i j (by omega) hj hij
theorem WFH.at {l : List OpV} (h : WFH l) {i : Nat} (hi : i < l.length) : wfB (nth l i) = true := h.wf _ (zA hi)
theorem ziQ {o : OpV} (h : wfB o = true) : o.call < o.ret := by
 simp only [wfB, Bool.and_eq_true, decide_eq_true_eq] at h
 omega
theorem WFH.err {l : List OpV} (h : WFH l) {k : Nat} (hk : k < l.length) : zbS l k = 0 := by
 unfold zbS
 rw [if_neg (by rw [h.at hk]; decide)]
 rw [if_neg (fun e => by have := (h.pair (show k - 1 < k by omega) hk).1; omega)]
 rw [if_neg (fun e => ?_), if_neg (fun e => ?_)]
 ·obtain ⟨e1, e2⟩ := e
  obtain ⟨q, hq⟩ := Option.isSome_iff_exists.1 e1
  rw [hq] at e2
  simp only [Option.getD_some] at e2
  obtain ⟨m, hm, hmq, hmp⟩ := Ux hq
  subst hmq
  obtain ⟨h1, h2⟩ := (h.pair hm hk).2.2 hmp
  rcases e2 with e2 | e2
  ·rw [h1] at e2; cases e2
  ·omega
 ·have ret : ∀ x, zbG l k x = true → ∃ m, m < k ∧ (nth l m).done = true ∧ (nth l m).ret = x := fun x hx => by
   unfold zbG at hx
   obtain ⟨m, h1, _, h3⟩ := zdV hx
   simp only [Bool.and_eq_true, beq_iff_eq] at h3
   exact ⟨m, h1, h3⟩
  simp only [Bool.or_eq_true, Bool.and_eq_true] at e
  rcases e with e | ⟨hd, e | e⟩
  ·obtain ⟨m, h1, h2, h3⟩ := ret _ e
   exact ((h.pair h1 hk).2.1 h2).1 h3
  ·obtain ⟨m, h1, h2, h3⟩ := ret _ e
   exact ((h.pair h1 hk).2.1 h2).2 hd h3.symm
  ·unfold XV at e
   obtain ⟨j, _, hj, h3⟩ := zdV e
   simp only [beq_iff_eq] at h3
   have hc := ziQ (h.at hk)
   rcases Nat.lt_trichotomy j k with h4 | h4 | h4
   ·have := (h.pair h4 hk).1; omega
   ·subst h4; omega
   ·exact ((h.pair h4 hj).2.1 hd).1 h3.symm
theorem WFH.check {l : List OpV} (h : WFH l) : xz l = 0 := by
 unfold xz
 rw [if_neg (by have := h.len; omega)]
 exact YM _ _ fun j _ hj => h.err (by omega)

theorem WFH.sub {l l' : List OpV} (h : WFH l) (hs : l'.Sublist l) : WFH l' := ⟨Nat.le_trans hs.length_le h.len, fun o ho => h.wf o (hs.subset ho), h.rel.sublist hs⟩
theorem WFH.filter {l : List OpV} (h : WFH l) (f : OpV → Bool) : WFH (l.filter f) := h.sub List.filter_sublist
theorem WFH.map {l : List OpV} (h : WFH l) (f : OpV → OpV) (hf : ∀ o, (f o).p = o.p ∧ (f o).k = o.k ∧ (f o).call = o.call ∧ (f o).ret = o.ret ∧ (f o).done = o.done ∧ (o.res = 0 → (f o).res = 0)) : WFH (l.map f) := by
 refine ⟨by rw [List.length_map]; exact h.len, fun o ho => ?_, ?_⟩
 ·obtain ⟨x, hx, rfl⟩ := List.mem_map.1 ho
  have hw := h.wf x hx
  obtain ⟨h1, h2, h3, h4, h5, h6⟩ := hf x
  simp only [wfB, Bool.and_eq_true, Bool.or_eq_true, decide_eq_true_eq] at hw ⊢
  rw [h1, h2, h3, h4, h5]
  exact ⟨hw.1, hw.2.imp id h6⟩
 ·rw [List.pairwise_map]
  refine h.rel.imp fun {a b} hab => ?_
  obtain ⟨a1, _, a3, a4, a5, _⟩ := hf a
  obtain ⟨b1, _, b3, b4, b5, _⟩ := hf b
  unfold zka at hab ⊢
  rw [a1, a3, a4, a5, b1, b3, b4, b5]
  exact hab
theorem WFH.set {l : List OpV} (h : WFH l) {i : Nat} (hi : i < l.length) {o : OpV} (hf : o.p = (nth l i).p ∧ o.k = (nth l i).k ∧ o.call = (nth l i).call ∧ o.ret = (nth l i).ret ∧ o.done = (nth l i).done ∧ ((nth l i).done = false → o.res = (nth l i).res)) : WFH (l.set i o) := by
 obtain ⟨h1, h2, h3, h4, h5, h6⟩ := hf
 have hw := h.at hi
 refine ⟨by simpa using h.len, fun x hx => ?_, ?_⟩
 ·rcases List.mem_or_eq_of_mem_set hx with hx | rfl
  ·exact h.wf x hx
  ·simp only [wfB, Bool.and_eq_true, Bool.or_eq_true, decide_eq_true_eq] at hw ⊢
   rw [h1, h2, h3, h4, h5]
   refine ⟨hw.1, ?_⟩
   cases hd : (nth l i).done with
   | true => exact .inl rfl
   | false => right; rw [h6 hd]; rw [hd] at hw; simpa using hw.2
 ·have key : ∀ j, j < l.length → (nth (l.set i o) j).p = (nth l j).p ∧ (nth (l.set i o) j).call = (nth l j).call ∧ (nth (l.set i o) j).ret = (nth l j).ret ∧ (nth (l.set i o) j).done = (nth l j).done := fun j hj => by
   by_cases e : i = j
   ·subst e; rw [zp hi]; exact ⟨h1, h3, h4, h5⟩
   ·rw [zh e]; exact ⟨rfl, rfl, rfl, rfl⟩
  rw [List.pairwise_iff_getElem]
  intro a b ha hb hab
  have ha' : a < l.length := by simpa using ha
  have hb' : b < l.length := by simpa using hb
  have hp := h.pair hab hb'
  rw [← zg ha, ← zg hb]
  obtain ⟨a1, a2, a3, a4⟩ := key a ha'
  obtain ⟨b1, b2, b3, b4⟩ := key b hb'
  unfold zka at hp ⊢
  rw [a1, a2, a3, a4, b1, b2, b3, b4]
  exact hp
end Go.Proofs.Ytbeebjdnapkhhaa
/-
 The two lists of a history's keys are equal: both ascend and have the same members.
-/
namespace Go.Proofs.Ytbeebjdnapkhhaa
set_option linter.unusedVariables false
open Go.RowKit

theorem zaP : ∀ (l : List Int) (x : Int), l.Pairwise (· < ·) → (∀ y ∈ l.take (zgK l x), y < x) ∧ ∀ y ∈ l.drop (zgK l x), x ≤ y
 | [], x, _ => by simp
 | z :: l, x, h => by
  rw [List.pairwise_cons] at h
  unfold zgK
  rw [List.takeWhile_cons]
  by_cases hz : z < x
  ·rw [if_pos (by simpa using hz)]
   have ih := zaP l x h.2
   unfold zgK at ih
   rw [List.length_cons, List.take_succ_cons, List.drop_succ_cons]
   refine ⟨fun y hy => ?_, ih.2⟩
   rcases List.mem_cons.1 hy with rfl | hy
   ·exact hz
   ·exact ih.1 y hy
  ·rw [if_neg (by simpa using hz)]
   refine ⟨by simp, fun y hy => ?_⟩
   rcases List.mem_cons.1 (by simpa using hy) with rfl | hy
   ·omega
   ·have := h.1 y hy; omega
theorem zic {l : List Int} {x : Int} (h : l.Pairwise (· < ·)) : (zkg l x).Pairwise (· < ·) := by
 unfold zkg
 split
 ·exact h
 ·rename_i hx
  obtain ⟨h1, h2⟩ := zaP l x h
  have hd : ∀ y ∈ l.drop (zgK l x), x < y := fun y hy => by
   have := h2 y hy
   have hne : x ≠ y := fun e => hx (by rw [e]; exact List.mem_of_mem_drop hy)
   omega
  have ht := h.take (i := zgK l x)
  have hdr := h.drop (i := zgK l x)
  refine List.pairwise_append.2 ⟨List.pairwise_append.2 ⟨ht, by simp, fun a ha b hb => ?_⟩, hdr, fun a ha b hb => ?_⟩
  ·rw [List.mem_singleton] at hb; subst hb; exact h1 a ha
  ·rcases List.mem_append.1 ha with ha | ha
   ·have := h1 a ha; have := hd b hb; omega
   ·rw [List.mem_singleton] at ha; subst ha; exact hd b hb
theorem zid {l : List Int} {x y : Int} : y ∈ zkg l x ↔ y ∈ l ∨ y = x := by
 unfold zkg
 split
 ·rename_i h
  constructor
  ·exact fun h => .inl h
  ·rintro (h' | rfl)
   ·exact h'
   ·exact h
 ·have e : l = l.take (zgK l x) ++ l.drop (zgK l x) := (List.take_append_drop _ _).symm
  conv => rhs; rw [e]
  simp only [List.mem_append, List.mem_singleton]
  constructor
  ·rintro ((h | h) | h)
   ·exact .inl (.inl h)
   ·exact .inr h
   ·exact .inl (.inr h)
  ·rintro ((h | h) | h)
   ·exact .inl (.inl h)
   ·exact .inr h
   ·exact .inl (.inr h)
theorem UL (l : List OpV) : ∀ i, (WQ l i).Pairwise (· < ·)
 | 0 => List.Pairwise.nil
 | i + 1 => zic (UL l i)
theorem UM (l : List OpV) (y : Int) : ∀ i, i ≤ l.length → (y ∈ WQ l i ↔ y ∈ Yb l i)
 | 0, _ => by simp [WQ, Yb]
 | i + 1, h => by
  rw [WQ, zid, UM l y i (by omega), Uw l i (by omega)]
  simp

theorem Ut (l : List OpV) : (yQ l).Pairwise (· < ·) := zdl (zhu _)
theorem ZX (l : List OpV) (y : Int) : y ∈ yQ l ↔ ∃ o ∈ l, o.key = y := by
 unfold yQ
 rw [zdm, List.mem_mergeSort, List.mem_map]
theorem zee (l : List OpV) : yQ l = WQ l l.length := by
 refine ziX (Ut l) (UL l _) fun x => ?_
 rw [UM l x l.length (Nat.le_refl _), ZX]
 unfold Yb
 rw [List.take_length, List.mem_map]
end Go.Proofs.Ytbeebjdnapkhhaa
