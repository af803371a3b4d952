/-
  Some texts as one: WfPlain, FmOnce, FmHas, FmKeys, FmBefI, KeysPlain.
-/
import Derived.Test.YtbeebjdnapkhhaaZD
import Derived.Test.YtbeebjdnapkhhaaZSortPlain
/-
 Lists of operations that are histories, told by pairs; what keeps them so.
-/
namespace Go.Proofs.Ytbeebjdnapkhhaa
set_option linter.unusedVariables false

def zkn (a b : OpV) : Prop := a.call < b.call ∧ (a.done = true → a.ret ≠ b.call ∧ (b.done = true → b.ret ≠ a.ret)) ∧ (a.p = b.p → a.done = true ∧ a.ret ≤ b.call)
structure WFH (l : List OpV) : Prop where
 len : l.length ≤ 300
 wf : ∀ o ∈ l, wfB o = true
 rel : l.Pairwise zkn

theorem WFH.pair {l : List OpV} (h : WFH l) {i j : Nat} (hij : i < j) (hj : j < l.length) : zkn (nth l i) (nth l j) := by
 rw [zi hj, zi (show i < l.length by omega)]
 exact List.pairwise_iff_getElem.1 h.rel i j (by omega) hj hij
theorem WFH.at {l : List OpV} (h : WFH l) {i : Nat} (hi : i < l.length) : wfB (nth l i) = true := h.wf _ (zn hi)
theorem ziV {o : OpV} (h : wfB o = true) : o.call < o.ret := by
 simp only [wfB, Bool.and_eq_true, decide_eq_true_eq] at h
 omega
theorem WFH.err {l : List OpV} (h : WFH l) {k : Nat} (hk : k < l.length) : zbZ l k = 0 := by
 unfold zbZ
 rw [if_neg (by rw [h.at hk]; decide)]
 rw [if_neg (fun e => by have := (h.pair (show k - 1 < k by omega) hk).1; omega)]
 rw [if_neg (fun e => ?_), if_neg (fun e => ?_)]
 ·obtain ⟨e1, e2⟩ := e
  obtain ⟨q, hq⟩ := Option.isSome_iff_exists.1 e1
  rw [hq] at e2
  simp only [Option.getD_some] at e2
  obtain ⟨m, hm, hmq, hmp⟩ := Un hq
  subst hmq
  obtain ⟨h1, h2⟩ := (h.pair hm hk).2.2 hmp
  rcases e2 with e2 | e2
  ·rw [h1] at e2; cases e2
  ·omega
 ·have ret : ∀ x, zbJ l k x = true → ∃ m, m < k ∧ (nth l m).done = true ∧ (nth l m).ret = x := fun x hx => by
   unfold zbJ at hx
   obtain ⟨m, h1, _, h3⟩ := zd9 hx
   simp only [Bool.and_eq_true, beq_iff_eq] at h3
   exact ⟨m, h1, h3⟩
  simp only [Bool.or_eq_true, Bool.and_eq_true] at e
  rcases e with e | ⟨hd, e | e⟩
  ·obtain ⟨m, h1, h2, h3⟩ := ret _ e
   exact ((h.pair h1 hk).2.1 h2).1 h3
  ·obtain ⟨m, h1, h2, h3⟩ := ret _ e
   exact ((h.pair h1 hk).2.1 h2).2 hd h3.symm
  ·unfold XR at e
   obtain ⟨j, _, hj, h3⟩ := zd9 e
   simp only [beq_iff_eq] at h3
   have hc := ziV (h.at hk)
   rcases Nat.lt_trichotomy j k with h4 | h4 | h4
   ·have := (h.pair h4 hk).1; omega
   ·subst h4; omega
   ·exact ((h.pair h4 hj).2.1 hd).1 h3.symm
theorem WFH.check {l : List OpV} (h : WFH l) : xF l = 0 := by
 unfold xF
 rw [if_neg (by have := h.len; omega)]
 exact YM _ _ fun j _ hj => h.err (by omega)

theorem WFH.sub {l l' : List OpV} (h : WFH l) (hs : l'.Sublist l) : WFH l' := ⟨Nat.le_trans hs.length_le h.len, fun o ho => h.wf o (hs.subset ho), h.rel.sublist hs⟩
theorem WFH.filter {l : List OpV} (h : WFH l) (f : OpV → Bool) : WFH (l.filter f) := h.sub List.filter_sublist
theorem WFH.map {l : List OpV} (h : WFH l) (f : OpV → OpV) (hf : ∀ o, (f o).p = o.p ∧ (f o).k = o.k ∧ (f o).call = o.call ∧ (f o).ret = o.ret ∧ (f o).done = o.done ∧ (o.res = 0 → (f o).res = 0)) : WFH (l.map f) := by
 refine ⟨by rw [List.length_map]; exact h.len, fun o ho => ?_, ?_⟩
 ·obtain ⟨x, hx, rfl⟩ := List.mem_map.1 ho
  have hw := h.wf x hx
  obtain ⟨h1, h2, h3, h4, h5, h6⟩ := hf x
  simp only [wfB, Bool.and_eq_true, Bool.or_eq_true, decide_eq_true_eq] at hw ⊢
  rw [h1, h2, h3, h4, h5]
  exact ⟨hw.1, hw.2.imp id h6⟩
 ·rw [List.pairwise_map]
  refine h.rel.imp fun {a b} hab => ?_
  obtain ⟨a1, _, a3, a4, a5, _⟩ := hf a
  obtain ⟨b1, _, b3, b4, b5, _⟩ := hf b
  unfold zkn at hab ⊢
  rw [a1, a3, a4, a5, b1, b3, b4, b5]
  exact hab
theorem WFH.set {l : List OpV} (h : WFH l) {i : Nat} (hi : i < l.length) {o : OpV} (hf : o.p = (nth l i).p ∧ o.k = (nth l i).k ∧ o.call = (nth l i).call ∧ o.ret = (nth l i).ret ∧ o.done = (nth l i).done ∧ ((nth l i).done = false → o.res = (nth l i).res)) : WFH (l.set i o) := by
 obtain ⟨h1, h2, h3, h4, h5, h6⟩ := hf
 have hw := h.at hi
 refine ⟨by simpa using h.len, fun x hx => ?_, ?_⟩
 ·rcases List.mem_or_eq_of_mem_set hx with hx | rfl
  ·exact h.wf x hx
  ·simp only [wfB, Bool.and_eq_true, Bool.or_eq_true, decide_eq_true_eq] at hw ⊢
   rw [h1, h2, h3, h4, h5]
   refine ⟨hw.1, ?_⟩
   cases hd : (nth l i).done with
   | true => exact .inl rfl
   | false => right; rw [h6 hd]; rw [hd] at hw; simpa using hw.2
 ·have key : ∀ j, j < l.length → (nth (l.set i o) j).p = (nth l j).p ∧ (nth (l.set i o) j).call = (nth l j).call ∧ (nth (l.set i o) j).ret = (nth l j).ret ∧ (nth (l.set i o) j).done = (nth l j).done := fun j hj => by
   by_cases e : i = j
   ·subst e; rw [zh hi]; exact ⟨h1, h3, h4, h5⟩
   ·rw [zg e]; exact ⟨rfl, rfl, rfl, rfl⟩
  rw [List.pairwise_iff_getElem]
  intro a b ha hb hab
  have ha' : a < l.length := by simpa using ha
  have hb' : b < l.length := by simpa using hb
  have hp := h.pair hab hb'
  rw [← zi ha, ← zi hb]
  obtain ⟨a1, a2, a3, a4⟩ := key a ha'
  obtain ⟨b1, b2, b3, b4⟩ := key b hb'
  unfold zkn at hp ⊢
  rw [a1, a2, a3, a4, b1, b2, b3, b4]
  exact hp
end Go.Proofs.Ytbeebjdnapkhhaa
/-
 The small functions of layers 01, 21 and 24, at plain values.
-/
namespace Go.Proofs.Ytbeebjdnapkhhaa
set_option linter.unusedVariables false
open Go.RowKit

theorem zgJ (l : List Int) (hl : l.length ≤ 1000000000) : yg Try.prog 33 [.list 1 (l.map zF), .int .i64 l.length] (.ow 3 1) (.list 1 (l.map zF)) := by
 refine yg.of_body (c := (Zy Try.prog zG zA 14)) ⟨Try.func33, rfl, Try.ntmps33, by kernel_rfl⟩ (by simp [FV.hand]) (by exact Nat.le_of_ble_eq_true rfl) rfl ?_
 change FW _ _ _ ⟨[(0, .list 1 (l.map zF)), (1, .int .i64 l.length)], []⟩
 (repeat (first | refine FW.seq ?_ | refine FW.region ?_ | refine zc.nil ?_ | refine za rfl rfl rfl ?_ | refine zb rfl rfl rfl ?_ | refine zm rfl rfl (by first | exact List.length_map _ | (simp; done) | omega | (simp; omega)) rfl rfl ?_ | refine zhp rfl rfl rfl rfl ?_ | refine zc6 rfl rfl rfl rfl (by exact LoR.none) (by exact HiR.lit rfl (by first | rfl | exact (Int.toNat_of_nonneg (by omega)).symm)) (by first | omega | (simp; omega) | (simp; done)) (by first | omega | (simp; omega) | (simp; done)) rfl rfl ?_ | refine zdX rfl rfl rfl rfl (by decide) (by exact XB.list rfl) (by first | omega | (simp; omega) | (simp; done)) (by first | omega | (simp; omega) | (simp; done)) rfl rfl rfl ?_))
 exact FW.ret ⟨.inl rfl, Zb rfl rfl rfl rfl (by decide) (by simp [← List.map_take]) (zfi.flatsM l)⟩

theorem ziw (l : List Int) (i : Nat) (v : Int) (hl : l.length ≤ 1000000000) (hi : i < l.length) : yg Try.prog 44 [.list 1 (l.map zF), .int .i64 i, .int .i64 v] (.ow 3 1) (.list 1 ((l.set i v).map zF)) := by
 refine yg.of_body (c := (Zy Try.prog zG zA 17)) ⟨Try.func44, rfl, Try.ntmps44, by kernel_rfl⟩ (by simp [FV.hand]) (by exact Nat.le_of_ble_eq_true rfl) rfl ?_
 change FW _ _ _ ⟨[(0, .list 1 (l.map zF)), (1, .int .i64 i), (2, .int .i64 v)], []⟩
 (repeat (first | refine FW.seq ?_ | refine FW.region ?_ | refine zc.nil ?_ | refine za rfl rfl rfl ?_ | refine zb rfl rfl rfl ?_ | refine zm rfl rfl (by exact List.length_map _) rfl rfl ?_))
 refine ye (zgJ l hl) (by repeat (first | exact zj.nil | refine zj.cons (by exact yu.plain rfl rfl) ?_)) (List.length_map _) rfl rfl rfl ?_
 (repeat (first | refine FW.seq ?_ | refine FW.region ?_ | refine zc.nil ?_ | refine za rfl rfl rfl ?_ | refine zb rfl rfl rfl ?_ | refine zx rfl rfl rfl rfl rfl rfl (by decide) rfl (by first | omega | (simp; omega)) rfl rfl ?_ | refine zZ rfl rfl rfl rfl rfl rfl (by first | omega | (simp; omega)) (by first | exact zd (by omega) | rfl) rfl rfl rfl ?_))
 exact FW.ret ⟨.inl rfl, Zb rfl rfl rfl (by simp) (by decide) (by rw [List.map_set]; rfl) (zfi.flatsM _)⟩

theorem zbP (a b : List Int) (ha : a.length ≤ 1000000000) (hb : b.length ≤ 1000000000) : yg Try.prog 18 [.list 1 (a.map zF), .list 1 (b.map zF)] .fr (.bool (decide (a = b))) := by
 refine yg.of_body (c := (Zy Try.prog zG zA 26)) ⟨Try.func18, rfl, Try.ntmps18, by kernel_rfl⟩ (by simp [FV.hand]) (by exact Nat.le_of_ble_eq_true rfl) rfl ?_
 change FW _ _ _ ⟨[(0, .list 1 (a.map zF)), (1, .list 1 (b.map zF))], []⟩
 (repeat (first | refine FW.seq ?_ | refine FW.region ?_ | refine zc.nil ?_ | refine za rfl rfl rfl ?_ | refine zb rfl rfl rfl ?_ | refine zm rfl rfl (by exact List.length_map _) rfl rfl ?_ | refine Zc rfl rfl rfl rfl ?_))
 refine FW.cond rfl (fun h => ?_) (fun h => ?_)
 ·(repeat (first | refine FW.seq ?_ | refine FW.region ?_ | refine zc.nil ?_ | refine za rfl rfl rfl ?_))
  refine FW.ret ⟨.inl rfl, zO rfl rfl ?_ rfl⟩
  have : a ≠ b := by rintro rfl; simp at h
  simp [this]; rfl
 ·have hlen : a.length = b.length := by simp at h; omega
  (repeat (first | refine FW.seq ?_ | refine FW.region ?_ | refine FW.block ?_ | refine FW.skip ?_ | refine zc.nil ?_ | refine za rfl rfl rfl ?_))
  refine FW.loop (fun k : Nat => ⟨[(0, .list 1 (a.map zF)), (1, .list 1 (b.map zF)), (5, .int .i64 k)], []⟩) (fun k => k ≤ a.length ∧ a.take k = b.take k) (fun k => a.length - k) 0 (by simp) (FLe.conv [] (by simp) (by simp) rfl (by repeat (first | exact .nil | refine .low rfl ?_ | refine .same rfl ?_ | refine .bump (Nat.lt_succ_self _) ?_)) (by repeat (first | exact .nil)) (by repeat (first | exact .nil | refine .cons (.plain rfl rfl rfl) ?_))) ?_
  rintro k ⟨hk, hab⟩
  (repeat (first | refine FW.seq ?_ | refine FW.region ?_ | refine zc.nil ?_ | refine zb rfl rfl rfl ?_ | refine zm rfl rfl (by exact List.length_map _) rfl rfl ?_ | refine zH rfl rfl rfl rfl ?_))
  refine FW.cond rfl (fun h => ?_) (fun h => ?_)
  ·have hlt : k < a.length := by simpa using h
   clear h
   (repeat (first | refine FW.seq ?_ | refine FW.block ?_ | refine FW.skip ?_ | refine FW.draw ?_ | refine zE.nil ?_ | refine zV rfl rfl rfl ?_ | refine zkA rfl rfl rfl rfl ?_ | refine yj rfl rfl rfl rfl rfl rfl (by simp; omega) rfl rfl ?_ | refine yh rfl rfl rfl (by simp; omega) (by first | exact zd (by omega) | rfl) rfl rfl rfl rfl ?_))
   refine ⟨by kernel_rfl, ?_⟩
   refine FW.cond rfl (fun h => ?_) (fun h => ?_)
   ·(repeat (first | refine FW.seq ?_ | refine FW.region ?_ | refine zc.nil ?_ | refine za rfl rfl rfl ?_))
    refine FW.ret ⟨.inl rfl, zO rfl rfl ?_ rfl⟩
    have : a ≠ b := by rintro rfl; simp at h
    simp [this]; rfl
   ·(repeat (first | refine FW.region ?_ | refine FW.skip ?_ | refine zc.nil ?_ | refine za rfl rfl rfl ?_ | refine zb rfl rfl rfl ?_ | refine zu rfl rfl (by omega) rfl rfl ?_))
    refine ⟨k + 1, ⟨by omega, ?_⟩, by omega, (FLe.conv [] (by simp) (by simp) rfl (by repeat (first | exact .nil | refine .low rfl ?_ | refine .same rfl ?_ | refine .bump (Nat.lt_succ_self _) ?_)) (by repeat (first | exact .nil)) (by repeat (first | exact .nil | refine .cons (.plain rfl rfl rfl) ?_)))⟩
    have h1 : nth a k = nth b k := by simpa using h
    rw [List.take_succ_eq_append_getElem hlt, List.take_succ_eq_append_getElem (by omega), hab, ← zi hlt, ← zi (by omega), h1]
  ·(repeat (first | refine FW.seq ?_ | refine FW.region ?_ | refine FW.exit ?_ | refine zc.nil ?_ | refine za rfl rfl rfl ?_))
   refine FW.ret ⟨.inl rfl, zO rfl rfl ?_ rfl⟩
   have : k = a.length := by simp at h; omega
   subst this
   have : a = b := by rw [List.take_of_length_le (Nat.le_refl _), List.take_of_length_le (by omega)] at hab; exact hab
   simp [this]; rfl

def bef (l : List OpV) (i k : Nat) : Bool := (nth l i).done && decide ((nth l i).ret < (nth l k).call)
set_option maxHeartbeats 1000000 in
theorem YL (l : List OpV) (i k : Nat) (hi : i < l.length) (hk : k < l.length) : yg Try.prog 28 [.list 8 (l.map OpV.fv), .int .i64 i, .int .i64 k] .fr (.bool (bef l i k)) := by
 refine yg.of_body (c := (Zy Try.prog zG zA 37)) ⟨Try.func28, rfl, Try.ntmps28, by kernel_rfl⟩ (by simp [FV.hand]) (by exact Nat.le_of_ble_eq_true rfl) rfl ?_
 change FW _ _ _ ⟨[(0, .list 8 (l.map OpV.fv)), (1, .int .i64 i), (2, .int .i64 k)], []⟩
 (repeat (first | refine FW.seq ?_ | refine FW.region ?_ | refine zc.nil ?_ | refine za rfl rfl rfl ?_ | refine zb rfl rfl rfl ?_ | refine zhp rfl rfl rfl rfl ?_ | refine zH rfl rfl rfl rfl ?_))
 refine xd (fun h => ?_) (fun h => ?_)
 ·exfalso; simp at h; omega
 ·(repeat (first | refine zc.nil ?_ | refine zP rfl rfl rfl rfl ?_ | refine zb rfl rfl ⟨_, _, rfl, rfl, rfl⟩ ?_ | refine zjc rfl rfl rfl ⟨_, _, rfl, rfl, rfl⟩ ?_ | refine zm rfl rfl (by exact List.length_map _) rfl ⟨_, _, rfl, rfl, rfl⟩ ?_ | refine zaY rfl rfl rfl ⟨_, _, rfl, rfl, rfl⟩ ?_))
  refine FW.cond rfl (fun h => ?_) (fun h => ?_)
  ·exfalso; simp at h; omega
  (repeat (first | refine FW.seq ?_ | refine FW.skip ?_ | refine FW.draw ?_ | refine zV rfl rfl rfl ?_ | refine yj rfl rfl rfl rfl rfl rfl (by simp; omega) rfl rfl ?_ | refine xI rfl rfl rfl rfl rfl rfl rfl ?_ | refine yh rfl rfl rfl (by simp; omega) (by first | exact zd (by omega) | rfl) rfl rfl rfl rfl ?_))
  refine UH (fun h => ?_) (fun h => ?_)
  ·(repeat (first | refine zE.nil ?_ | refine xH rfl rfl rfl ?_ | refine Xi rfl rfl rfl rfl ?_ | refine zV rfl rfl ⟨_, _, rfl, rfl, rfl⟩ ?_ | refine yj rfl rfl rfl rfl rfl rfl (by simp; omega) rfl ⟨_, _, rfl, rfl, rfl⟩ ?_ | refine xI rfl rfl rfl rfl rfl rfl ⟨_, _, rfl, rfl, rfl⟩ ?_ | refine yh rfl rfl rfl (by simp; omega) (by first | exact zd (by omega) | rfl) rfl rfl rfl ⟨_, _, rfl, rfl, rfl⟩ ?_ | refine zkz rfl rfl rfl ⟨_, _, rfl, rfl, rfl⟩ ?_))
   refine ⟨by kernel_rfl, ?_⟩
   skip
   refine FW.ret ⟨.inl rfl, zO rfl rfl ?_ rfl⟩
   simp [bef, h]; rfl
  ·(repeat (first | refine zE.nil ?_ | refine xH rfl rfl rfl ?_ | refine Xh rfl rfl rfl rfl ?_ | refine WN rfl rfl ⟨_, _, rfl, rfl, rfl⟩ ?_))
   refine ⟨by kernel_rfl, ?_⟩
   skip
   refine FW.ret ⟨.inl rfl, zO rfl rfl ?_ rfl⟩
   simp [bef, h]; rfl

def zgL (o : OpV) : Bool := decide (o.k = 4) && o.done && decide (o.res ≠ 0)
end Go.Proofs.Ytbeebjdnapkhhaa
/-
 simproofref01.Has, at plain values.
-/
namespace Go.Proofs.Ytbeebjdnapkhhaa
set_option linter.unusedVariables false
open Go.RowKit
def zlc (l : List Int) (n : Int) : Bool := decide (n ∈ l)
end Go.Proofs.Ytbeebjdnapkhhaa
/-
 The keys of a history: the function's and the reference's, at plain values.
-/
namespace Go.Proofs.Ytbeebjdnapkhhaa
set_option linter.unusedVariables false
open Go.RowKit

def ZU (l : List OpV) (i : Nat) : List Int := (l.take i).map OpV.key
def yK (l : List OpV) : List Int := Lib.compact ((l.map OpV.key).mergeSort fun x y => decide (x ≤ y))
theorem Um (l : List OpV) (i : Nat) (hi : i < l.length) : ZU l (i + 1) = ZU l i ++ [(nth l i).key] := by
 unfold ZU
 rw [List.take_succ_eq_append_getElem hi, List.map_append, zi hi]
 rfl
theorem zfj (l : List OpV) (i : Nat) : (ZU l i).length ≤ l.length := by unfold ZU; rw [List.length_map, List.length_take]; omega
set_option maxHeartbeats 4000000 in
theorem zaL (l : List OpV) (hl : l.length ≤ 1000000000) : yg Try.prog 37 [.list 8 (l.map OpV.fv)] (.ow 3 1) (.list 1 ((yK l).map zF)) := by
 refine yg.of_body (c := (Zy Try.prog zG zA 22)) ⟨Try.func37, rfl, Try.ntmps37, by kernel_rfl⟩ (by simp [FV.hand]) (by exact Nat.le_of_ble_eq_true rfl) rfl ?_
 change FW _ _ _ ⟨[(0, .list 8 (l.map OpV.fv))], []⟩
 (repeat (first | refine FW.seq ?_ | refine FW.region ?_ | refine FW.block ?_ | refine zc.nil ?_ | refine za rfl rfl rfl ?_ | refine zb rfl rfl rfl ?_ | refine zm rfl rfl (by exact List.length_map _) rfl rfl ?_))
 refine FW.loop (fun i : Nat => ⟨[(3, .own 100 0 0 (ZU l i).length), (6, .list 8 (l.map OpV.fv)), (7, .int .i64 l.length), (8, .int .i64 i)], [(100, ⟨0, .own, 3, 1, (ZU l i).map zF⟩)]⟩) (fun i => i ≤ l.length) (fun i => l.length - i) 0 (Nat.zero_le _)
  (FLe.conv [⟨100, none, 0, ⟨0, .own, 3, 1, []⟩⟩] (by simp) (by simp) rfl (by repeat (first | exact .nil | refine .low rfl ?_ | refine .same rfl ?_ | refine .bump (Nat.lt_succ_self _) ?_)) (by repeat (first | exact .nil | refine .new ?_)) (by repeat (first | exact .nil | refine .cons (.plain rfl rfl rfl) ?_ | refine .cons (.nil rfl (.head _) rfl) ?_))) ?_
 intro i hi
 have hkl := zfj l i
 (repeat (first | refine FW.seq ?_ | refine FW.region ?_ | refine zc.nil ?_ | refine zH rfl rfl rfl rfl ?_))
 refine FW.cond rfl (fun h => ?_) (fun h => ?_)
 ·have hlt : i < l.length := by simpa using h
  clear h
  (repeat (first | refine FW.seq ?_ | refine FW.region ?_ | refine FW.block ?_ | refine FW.skip ?_ | refine zc.nil ?_ | refine za rfl rfl rfl ?_ | refine zb rfl rfl rfl ?_ | refine zD rfl rfl rfl rfl rfl rfl (by first | (simp; omega) | (simp; done)) rfl rfl ?_ | refine zq rfl rfl rfl rfl rfl (by first | (simp; omega) | (simp; done)) (by first | exact zd (by omega) | rfl) rfl rfl rfl rfl ?_ | refine yV rfl rfl rfl (by decide) (by first | (simp; omega) | (simp; done)) (by first | exact zd (by omega) | rfl) rfl rfl rfl ?_ | refine zY rfl rfl rfl rfl rfl rfl rfl ?_ | refine zC rfl rfl rfl rfl rfl rfl rfl rfl rfl ?_ | refine zt rfl rfl rfl rfl rfl rfl (by decide) rfl rfl ?_ | refine yz rfl rfl rfl rfl rfl rfl rfl rfl ?_ | refine xc rfl rfl (by first | exact (List.length_map _).symm | rfl | (simp; done) | (simp; omega)) rfl rfl rfl (by decide) (by exact XB.own rfl rfl (by decide) (by first | exact List.length_map _ | exact (List.length_map _).symm | exact List.length_replicate | rfl | (simp; done) | omega | (simp; omega))) (by first | (simp; omega) | (simp; done)) (by first | (simp; omega) | (simp; done)) rfl rfl rfl ?_ | refine zu rfl rfl (by omega) rfl rfl ?_))
  refine ⟨i + 1, by omega, by omega, ?_⟩
  rw [Um l i hlt, List.map_append]
  exact (FLe.conv [⟨100, some 16, 1, ⟨0, .own, 3, 1, (ZU l i).map zF ++ [(nth l i).key].map zF⟩⟩] (by simp) (by simp) rfl (by repeat (first | exact .nil | refine .low rfl ?_ | refine .same rfl ?_ | refine .bump (Nat.lt_succ_self _) ?_)) (by repeat (first | exact .nil | refine .old rfl (by decide) (by first | rfl | (simp; done)) ?_)) (by repeat (first | exact .nil | refine .cons (.plain rfl rfl (by first | rfl | (simp; done))) ?_ | refine .cons (.own rfl (.head _) rfl (by first | rfl | (simp; done))) ?_)))
 ·have : i = l.length := by simp at h; omega
  subst this
  have hk : ZU l l.length = l.map OpV.key := by unfold ZU; rw [List.take_length]
  rw [hk]
  have hlen : ((l.map OpV.key).mergeSort fun x y => decide (x ≤ y)).length = (l.map OpV.key).length := List.length_mergeSort _
  (repeat (first | refine FW.seq ?_ | refine FW.region ?_ | refine FW.exit ?_ | refine zb rfl rfl rfl ?_))
  refine zbL (zfN 0 (l.map OpV.key) (by simp; omega)) [(5000, 100)] rfl (xx.cons rfl rfl rfl xx.nil) rfl rfl rfl rfl rfl rfl ?_
  rintro _ _ ⟨rfl, h1⟩
  refine zb1.one [(100, ⟨0, .own, 3, 1, ((l.map OpV.key).mergeSort fun x y => decide (x ≤ y)).map zF⟩)] (.tup []) rfl (congrArg (fun b => [(100, zp.ren (gOf [(5000, 100)]) b)]) h1) ?_
  (repeat (first | refine FW.seq ?_ | refine FW.region ?_ | refine zc.nil ?_ | refine zb rfl rfl rfl ?_))
  refine zbL (zbg 0 ((l.map OpV.key).mergeSort fun x y => decide (x ≤ y)) (by rw [hlen]; simp; omega)) [(5000, 100)] ?_ (xx.cons rfl rfl rfl xx.nil) rfl rfl rfl rfl rfl rfl ?_
  ·rw [hlen]; rfl
  rintro _ _ ⟨rfl, h1⟩
  refine zb1.one [(100, ⟨1, .own, 3, 1, (yK l).map zF⟩)] (.own 100 1 0 (yK l).length) rfl (congrArg (fun b => [(100, zp.ren (gOf [(5000, 100)]) b)]) h1) ?_
  (repeat (first | refine zc.nil ?_ | refine za rfl rfl rfl ?_))
  exact FW.ret ⟨.inl rfl, Zb rfl rfl rfl (by simp) (by decide) rfl (zfi.flatsM _)⟩

def zgR (l : List Int) (x : Int) : Nat := (l.takeWhile fun y => decide (y < x)).length
def zks (l : List Int) (x : Int) : List Int := if x ∈ l then l else l.take (zgR l x) ++ [x] ++ l.drop (zgR l x)
def WL (l : List OpV) : Nat → List Int
 | 0 => []
 | i + 1 => zks (WL l i) (nth l i).key
end Go.Proofs.Ytbeebjdnapkhhaa
/-
 Before, of whatever numbers, at plain values.
-/
namespace Go.Proofs.Ytbeebjdnapkhhaa
set_option linter.unusedVariables false
open Go.RowKit

end Go.Proofs.Ytbeebjdnapkhhaa
/-
 The two lists of a history's keys are equal: both ascend and have the same members.
-/
namespace Go.Proofs.Ytbeebjdnapkhhaa
set_option linter.unusedVariables false
open Go.RowKit

theorem zaN : ∀ (l : List Int) (x : Int), l.Pairwise (· < ·) → (∀ y ∈ l.take (zgR l x), y < x) ∧ ∀ y ∈ l.drop (zgR l x), x ≤ y
 | [], x, _ => by simp
 | z :: l, x, h => by
  rw [List.pairwise_cons] at h
  unfold zgR
  rw [List.takeWhile_cons]
  by_cases hz : z < x
  ·rw [if_pos (by simpa using hz)]
   have ih := zaN l x h.2
   unfold zgR at ih
   rw [List.length_cons, List.take_succ_cons, List.drop_succ_cons]
   refine ⟨fun y hy => ?_, ih.2⟩
   rcases List.mem_cons.1 hy with rfl | hy
   ·exact hz
   ·exact ih.1 y hy
  ·rw [if_neg (by simpa using hz)]
   refine ⟨by simp, fun y hy => ?_⟩
   rcases List.mem_cons.1 (by simpa using hy) with rfl | hy
   ·omega
   ·have := h.1 y hy; omega
theorem zif {l : List Int} {x : Int} (h : l.Pairwise (· < ·)) : (zks l x).Pairwise (· < ·) := by
 unfold zks
 split
 ·exact h
 ·rename_i hx
  obtain ⟨h1, h2⟩ := zaN l x h
  have hd : ∀ y ∈ l.drop (zgR l x), x < y := fun y hy => by
   have := h2 y hy
   have hne : x ≠ y := fun e => hx (by rw [e]; exact List.mem_of_mem_drop hy)
   omega
  have ht := h.take (i := zgR l x)
  have hdr := h.drop (i := zgR l x)
  refine List.pairwise_append.2 ⟨List.pairwise_append.2 ⟨ht, by simp, fun a ha b hb => ?_⟩, hdr, fun a ha b hb => ?_⟩
  ·rw [List.mem_singleton] at hb; subst hb; exact h1 a ha
  ·rcases List.mem_append.1 ha with ha | ha
   ·have := h1 a ha; have := hd b hb; omega
   ·rw [List.mem_singleton] at ha; subst ha; exact hd b hb
theorem zig {l : List Int} {x y : Int} : y ∈ zks l x ↔ y ∈ l ∨ y = x := by
 unfold zks
 split
 ·rename_i h
  constructor
  ·exact fun h => .inl h
  ·rintro (h' | rfl)
   ·exact h'
   ·exact h
 ·have e : l = l.take (zgR l x) ++ l.drop (zgR l x) := (List.take_append_drop _ _).symm
  conv => rhs; rw [e]
  simp only [List.mem_append, List.mem_singleton]
  constructor
  ·rintro ((h | h) | h)
   ·exact .inl (.inl h)
   ·exact .inr h
   ·exact .inl (.inr h)
  ·rintro ((h | h) | h)
   ·exact .inl (.inl h)
   ·exact .inr h
   ·exact .inl (.inr h)
theorem UF (l : List OpV) : ∀ i, (WL l i).Pairwise (· < ·)
 | 0 => List.Pairwise.nil
 | i + 1 => zif (UF l i)
theorem UG (l : List OpV) (y : Int) : ∀ i, i ≤ l.length → (y ∈ WL l i ↔ y ∈ ZU l i)
 | 0, _ => by simp [WL, ZU]
 | i + 1, h => by
  rw [WL, zig, UG l y i (by omega), Um l i (by omega)]
  simp

theorem zcz (l : List OpV) : (yK l).Pairwise (· < ·) := zdw (zhz _)
theorem ZO (l : List OpV) (y : Int) : y ∈ yK l ↔ ∃ o ∈ l, o.key = y := by
 unfold yK
 rw [zdx, List.mem_mergeSort, List.mem_map]
theorem zep (l : List OpV) : yK l = WL l l.length := by
 refine zi2 (zcz l) (UF l _) fun x => ?_
 rw [UG l x l.length (Nat.le_refl _), ZO]
 unfold ZU
 rw [List.take_length, List.mem_map]
end Go.Proofs.Ytbeebjdnapkhhaa
