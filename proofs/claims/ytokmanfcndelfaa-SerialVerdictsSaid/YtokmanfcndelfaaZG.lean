/-
  Some texts as one: FmOnce, WfPlain, FmHas, FmWhere, FmBefI.
-/
import Derived.Test.YtokmanfcndelfaaZD
/-
 The small functions of layers 01, 21 and 24, at plain values.
-/
namespace Go.Proofs.Ytokmanfcndelfaa
set_option linter.unusedVariables false
open Go.RowKit

theorem XV (a b : List Int) (ha : a.length ≤ 1000000000) (hb : b.length ≤ 1000000000) : yc Try.prog 28 [.list 1 (a.map zp), .list 1 (b.map zp)] .fr (.bool (decide (a = b))) := by
 refine yc.of_body (c := (xB Try.prog zE zq 26)) ⟨Try.func28, rfl, Try.ntmps28, by kernel_rfl⟩ (by simp [FV.hand]) (by exact Nat.le_of_ble_eq_true rfl) rfl ?_
 change FW _ _ _ ⟨[(0, .list 1 (a.map zp)), (1, .list 1 (b.map zp))], []⟩
 (repeat (first | refine FW.seq ?_ | refine FW.region ?_ | refine zd.nil ?_ | refine za rfl rfl rfl ?_ | refine zb rfl rfl rfl ?_ | refine zg rfl rfl (by exact List.length_map _) rfl rfl ?_ | refine Za rfl rfl rfl rfl ?_))
 refine FW.cond rfl (fun h => ?_) (fun h => ?_)
 ·(repeat (first | refine FW.seq ?_ | refine FW.region ?_ | refine zd.nil ?_ | refine za rfl rfl rfl ?_))
  refine FW.ret ⟨.inl rfl, zj rfl rfl ?_ rfl⟩
  have : a ≠ b := by rintro rfl; simp at h
  simp [this]; rfl
 ·have hlen : a.length = b.length := by simp at h; omega
  (repeat (first | refine FW.seq ?_ | refine FW.region ?_ | refine FW.block ?_ | refine FW.skip ?_ | refine zd.nil ?_ | refine za rfl rfl rfl ?_))
  refine FW.loop (fun k : Nat => ⟨[(0, .list 1 (a.map zp)), (1, .list 1 (b.map zp)), (5, .int .i64 k)], []⟩) (fun k => k ≤ a.length ∧ a.take k = b.take k) (fun k => a.length - k) 0 (by simp) (FLe.cv [] (by repeat (first | exact .nil)) (by repeat (first | exact .nil | refine .cons (.plain rfl rfl rfl) ?_))) ?_
  rintro k ⟨hk, hab⟩
  (repeat (first | refine FW.seq ?_ | refine FW.region ?_ | refine zd.nil ?_ | refine zb rfl rfl rfl ?_ | refine zg rfl rfl (by exact List.length_map _) rfl rfl ?_ | refine zN rfl rfl rfl rfl ?_))
  refine FW.cond rfl (fun h => ?_) (fun h => ?_)
  ·have hlt : k < a.length := by simpa using h
   clear h
   (repeat (first | refine FW.seq ?_ | refine FW.block ?_ | refine FW.skip ?_ | refine FW.draw ?_ | refine zL.nil ?_ | refine zD rfl rfl rfl ?_ | refine zay rfl rfl rfl rfl ?_ | refine zJ rfl rfl rfl rfl rfl rfl (by simp; omega) rfl rfl ?_ | refine zR rfl rfl rfl (by simp; omega) (by first | exact zc (by omega) | rfl) rfl rfl rfl rfl ?_))
   refine ⟨by kernel_rfl, ?_⟩
   refine FW.cond rfl (fun h => ?_) (fun h => ?_)
   ·(repeat (first | refine FW.seq ?_ | refine FW.region ?_ | refine zd.nil ?_ | refine za rfl rfl rfl ?_))
    refine FW.ret ⟨.inl rfl, zj rfl rfl ?_ rfl⟩
    have : a ≠ b := by rintro rfl; simp at h
    simp [this]; rfl
   ·(repeat (first | refine FW.region ?_ | refine FW.skip ?_ | refine zd.nil ?_ | refine za rfl rfl rfl ?_ | refine zb rfl rfl rfl ?_ | refine zw rfl rfl (by omega) rfl rfl ?_))
    refine ⟨k + 1, ⟨by omega, ?_⟩, by omega, (FLe.cv [] (by repeat (first | exact .nil)) (by repeat (first | exact .nil | refine .cons (.plain rfl rfl rfl) ?_)))⟩
    have h1 : nth a k = nth b k := by simpa using h
    rw [List.take_succ_eq_append_getElem hlt, List.take_succ_eq_append_getElem (by omega), hab, ← nth_eq hlt, ← nth_eq (by omega), h1]
  ·(repeat (first | refine FW.seq ?_ | refine FW.region ?_ | refine FW.exit ?_ | refine zd.nil ?_ | refine za rfl rfl rfl ?_))
   refine FW.ret ⟨.inl rfl, zj rfl rfl ?_ rfl⟩
   have : k = a.length := by simp at h; omega
   subst this
   have : a = b := by rw [List.take_of_length_le (Nat.le_refl _), List.take_of_length_le (by omega)] at hab; exact hab
   simp [this]; rfl

def bef (l : List OpV) (i k : Nat) : Bool := (nth l i).done && decide ((nth l i).ret < (nth l k).call)
set_option maxHeartbeats 1000000 in
theorem zb3 (l : List OpV) (i k : Nat) (hi : i < l.length) (hk : k < l.length) : yc Try.prog 36 [.list 8 (l.map OpV.fv), .int .i64 i, .int .i64 k] .fr (.bool (bef l i k)) := by
 refine yc.of_body (c := (xB Try.prog zE zq 37)) ⟨Try.func36, rfl, Try.ntmps36, by kernel_rfl⟩ (by simp [FV.hand]) (by exact Nat.le_of_ble_eq_true rfl) rfl ?_
 change FW _ _ _ ⟨[(0, .list 8 (l.map OpV.fv)), (1, .int .i64 i), (2, .int .i64 k)], []⟩
 (repeat (first | refine FW.seq ?_ | refine FW.region ?_ | refine zd.nil ?_ | refine za rfl rfl rfl ?_ | refine zb rfl rfl rfl ?_ | refine zjp rfl rfl rfl rfl ?_ | refine zN rfl rfl rfl rfl ?_))
 refine zO (fun h => ?_) (fun h => ?_)
 ·exfalso; simp at h; omega
 ·(repeat (first | refine zd.nil ?_ | refine zn rfl rfl rfl rfl ?_ | refine zb rfl rfl ⟨_, _, rfl, rfl, rfl⟩ ?_ | refine zjo rfl rfl rfl ⟨_, _, rfl, rfl, rfl⟩ ?_ | refine zg rfl rfl (by exact List.length_map _) rfl ⟨_, _, rfl, rfl, rfl⟩ ?_ | refine Yu rfl rfl rfl ⟨_, _, rfl, rfl, rfl⟩ ?_))
  refine FW.cond rfl (fun h => ?_) (fun h => ?_)
  ·exfalso; simp at h; omega
  (repeat (first | refine FW.seq ?_ | refine FW.skip ?_ | refine FW.draw ?_ | refine zD rfl rfl rfl ?_ | refine zJ rfl rfl rfl rfl rfl rfl (by simp; omega) rfl rfl ?_ | refine zW rfl rfl rfl rfl rfl rfl rfl ?_ | refine zR rfl rfl rfl (by simp; omega) (by first | exact zc (by omega) | rfl) rfl rfl rfl rfl ?_))
  refine yY (fun h => ?_) (fun h => ?_)
  ·(repeat (first | refine zL.nil ?_ | refine yi rfl rfl rfl ?_ | refine yC rfl rfl rfl rfl ?_ | refine zD rfl rfl ⟨_, _, rfl, rfl, rfl⟩ ?_ | refine zJ rfl rfl rfl rfl rfl rfl (by simp; omega) rfl ⟨_, _, rfl, rfl, rfl⟩ ?_ | refine zW rfl rfl rfl rfl rfl rfl ⟨_, _, rfl, rfl, rfl⟩ ?_ | refine zR rfl rfl rfl (by simp; omega) (by first | exact zc (by omega) | rfl) rfl rfl rfl ⟨_, _, rfl, rfl, rfl⟩ ?_ | refine zax rfl rfl rfl ⟨_, _, rfl, rfl, rfl⟩ ?_))
   refine ⟨by kernel_rfl, ?_⟩
   skip
   refine FW.ret ⟨.inl rfl, zj rfl rfl ?_ rfl⟩
   simp [bef, h]; rfl
  ·(repeat (first | refine zL.nil ?_ | refine yi rfl rfl rfl ?_ | refine ya rfl rfl rfl rfl ?_ | refine yZ rfl rfl ⟨_, _, rfl, rfl, rfl⟩ ?_))
   refine ⟨by kernel_rfl, ?_⟩
   skip
   refine FW.ret ⟨.inl rfl, zj rfl rfl ?_ rfl⟩
   simp [bef, h]; rfl

end Go.Proofs.Ytokmanfcndelfaa
/-
 Lists of operations that are histories, told by pairs; what keeps them so.
-/
namespace Go.Proofs.Ytokmanfcndelfaa
set_option linter.unusedVariables false

def zi3 (a b : OpV) : Prop := a.call < b.call ∧ (a.done = true → a.ret ≠ b.call ∧ (b.done = true → b.ret ≠ a.ret)) ∧ (a.p = b.p → a.done = true ∧ a.ret ≤ b.call)
structure WFH (l : List OpV) : Prop where
 len : l.length ≤ 300
 wf : ∀ o ∈ l, wfB o = true
 rel : l.Pairwise zi3

theorem WFH.pair {l : List OpV} (h : WFH l) {i j : Nat} (hij : i < j) (hj : j < l.length) : zi3 (nth l i) (nth l j) := by
 rw [nth_eq hj, nth_eq (show i < l.length by omega)]
 exact List.pairwise_iff_getElem.1 h.rel i j (by omega) hj hij
theorem WFH.at {l : List OpV} (h : WFH l) {i : Nat} (hi : i < l.length) : wfB (nth l i) = true := h.wf _ (zI hi)
theorem zif {o : OpV} (h : wfB o = true) : o.call < o.ret := by
 simp only [wfB, Bool.and_eq_true, decide_eq_true_eq] at h
 omega
theorem WFH.err {l : List OpV} (h : WFH l) {k : Nat} (hk : k < l.length) : zc8 l k = 0 := by
 unfold zc8
 rw [if_neg (by rw [h.at hk]; decide)]
 rw [if_neg (fun e => by have := (h.pair (show k - 1 < k by omega) hk).1; omega)]
 rw [if_neg (fun e => ?_), if_neg (fun e => ?_)]
 ·obtain ⟨e1, e2⟩ := e
  obtain ⟨q, hq⟩ := Option.isSome_iff_exists.1 e1
  rw [hq] at e2
  simp only [Option.getD_some] at e2
  obtain ⟨m, hm, hmq, hmp⟩ := VW hq
  subst hmq
  obtain ⟨h1, h2⟩ := (h.pair hm hk).2.2 hmp
  rcases e2 with e2 | e2
  ·rw [h1] at e2; cases e2
  ·omega
 ·have ret : ∀ x, zbf l k x = true → ∃ m, m < k ∧ (nth l m).done = true ∧ (nth l m).ret = x := fun x hx => by
   unfold zbf at hx
   obtain ⟨m, h1, _, h3⟩ := zdI hx
   simp only [Bool.and_eq_true, beq_iff_eq] at h3
   exact ⟨m, h1, h3⟩
  simp only [Bool.or_eq_true, Bool.and_eq_true] at e
  rcases e with e | ⟨hd, e | e⟩
  ·obtain ⟨m, h1, h2, h3⟩ := ret _ e
   exact ((h.pair h1 hk).2.1 h2).1 h3
  ·obtain ⟨m, h1, h2, h3⟩ := ret _ e
   exact ((h.pair h1 hk).2.1 h2).2 hd h3.symm
  ·unfold XA at e
   obtain ⟨j, _, hj, h3⟩ := zdI e
   simp only [beq_iff_eq] at h3
   have hc := zif (h.at hk)
   rcases Nat.lt_trichotomy j k with h4 | h4 | h4
   ·have := (h.pair h4 hk).1; omega
   ·subst h4; omega
   ·exact ((h.pair h4 hj).2.1 hd).1 h3.symm
theorem WFH.check {l : List OpV} (h : WFH l) : VO l = 0 := by
 unfold VO
 rw [if_neg (by have := h.len; omega)]
 exact Yn _ _ fun j _ hj => h.err (by omega)

theorem WFH.sub {l l' : List OpV} (h : WFH l) (hs : l'.Sublist l) : WFH l' := ⟨Nat.le_trans hs.length_le h.len, fun o ho => h.wf o (hs.subset ho), h.rel.sublist hs⟩
theorem WFH.filter {l : List OpV} (h : WFH l) (f : OpV → Bool) : WFH (l.filter f) := h.sub List.filter_sublist
theorem WFH.map {l : List OpV} (h : WFH l) (f : OpV → OpV) (hf : ∀ o, (f o).p = o.p ∧ (f o).k = o.k ∧ (f o).call = o.call ∧ (f o).ret = o.ret ∧ (f o).done = o.done ∧ (o.res = 0 → (f o).res = 0)) : WFH (l.map f) := by
 refine ⟨by rw [List.length_map]; exact h.len, fun o ho => ?_, ?_⟩
 ·obtain ⟨x, hx, rfl⟩ := List.mem_map.1 ho
  have hw := h.wf x hx
  obtain ⟨h1, h2, h3, h4, h5, h6⟩ := hf x
  simp only [wfB, Bool.and_eq_true, Bool.or_eq_true, decide_eq_true_eq] at hw ⊢
  rw [h1, h2, h3, h4, h5]
  exact ⟨hw.1, hw.2.imp id h6⟩
 ·rw [List.pairwise_map]
  refine h.rel.imp fun {a b} hab => ?_
  obtain ⟨a1, _, a3, a4, a5, _⟩ := hf a
  obtain ⟨b1, _, b3, b4, b5, _⟩ := hf b
  unfold zi3 at hab ⊢
  rw [a1, a3, a4, a5, b1, b3, b4, b5]
  exact hab
theorem WFH.set {l : List OpV} (h : WFH l) {i : Nat} (hi : i < l.length) {o : OpV} (hf : o.p = (nth l i).p ∧ o.k = (nth l i).k ∧ o.call = (nth l i).call ∧ o.ret = (nth l i).ret ∧ o.done = (nth l i).done ∧ ((nth l i).done = false → o.res = (nth l i).res)) : WFH (l.set i o) := by
 obtain ⟨h1, h2, h3, h4, h5, h6⟩ := hf
 have hw := h.at hi
 refine ⟨by simpa using h.len, fun x hx => ?_, ?_⟩
 ·rcases List.mem_or_eq_of_mem_set hx with hx | rfl
  ·exact h.wf x hx
  ·simp only [wfB, Bool.and_eq_true, Bool.or_eq_true, decide_eq_true_eq] at hw ⊢
   rw [h1, h2, h3, h4, h5]
   refine ⟨hw.1, ?_⟩
   cases hd : (nth l i).done with
   | true => exact .inl rfl
   | false => right; rw [h6 hd]; rw [hd] at hw; simpa using hw.2
 ·have key : ∀ j, j < l.length → (nth (l.set i o) j).p = (nth l j).p ∧ (nth (l.set i o) j).call = (nth l j).call ∧ (nth (l.set i o) j).ret = (nth l j).ret ∧ (nth (l.set i o) j).done = (nth l j).done := fun j hj => by
   by_cases e : i = j
   ·subst e; rw [zM hi]; exact ⟨h1, h3, h4, h5⟩
   ·rw [zF e]; exact ⟨rfl, rfl, rfl, rfl⟩
  rw [List.pairwise_iff_getElem]
  intro a b ha hb hab
  have ha' : a < l.length := by simpa using ha
  have hb' : b < l.length := by simpa using hb
  have hp := h.pair hab hb'
  rw [← nth_eq ha, ← nth_eq hb]
  obtain ⟨a1, a2, a3, a4⟩ := key a ha'
  obtain ⟨b1, b2, b3, b4⟩ := key b hb'
  unfold zi3 at hp ⊢
  rw [a1, a2, a3, a4, b1, b2, b3, b4]
  exact hp
end Go.Proofs.Ytokmanfcndelfaa
/-
 simproofref01.Has, at plain values.
-/
namespace Go.Proofs.Ytokmanfcndelfaa
set_option linter.unusedVariables false
open Go.RowKit
def zeS (l : List Int) (n : Int) : Bool := decide (n ∈ l)
set_option maxHeartbeats 1000000 in
theorem zd0 (l : List Int) (n : Int) (hl : l.length ≤ 1000000000) : yc Try.prog 49 [.list 1 (l.map zp), .int .i64 n] .fr (.bool (zeS l n)) := by
 refine yc.of_body (c := (xB Try.prog zE zq 18)) ⟨Try.func49, rfl, Try.ntmps49, by kernel_rfl⟩ (by simp [FV.hand]) (by exact Nat.le_of_ble_eq_true rfl) rfl ?_
 change FW _ _ _ ⟨[(0, .list 1 (l.map zp)), (1, .int .i64 n)], []⟩
 (repeat (first | refine FW.seq ?_ | refine FW.region ?_ | refine FW.block ?_ | refine zd.nil ?_ | refine za rfl rfl rfl ?_))
 refine FW.loop (fun k : Nat => ⟨[(0, .list 1 (l.map zp)), (1, .int .i64 n), (5, .int .i64 k)], []⟩) (fun k => k ≤ l.length ∧ n ∉ l.take k) (fun k => l.length - k) 0 (by simp) (FLe.cv [] (by repeat (first | exact .nil)) (by repeat (first | exact .nil | refine .cons (.plain rfl rfl rfl) ?_))) ?_
 rintro k ⟨hk, hn⟩
 (repeat (first | refine FW.seq ?_ | refine FW.region ?_ | refine zd.nil ?_ | refine zb rfl rfl rfl ?_ | refine zg rfl rfl (by exact List.length_map _) rfl rfl ?_ | refine zN rfl rfl rfl rfl ?_))
 refine FW.cond rfl (fun h => ?_) (fun h => ?_)
 ·have hlt : k < l.length := by simpa using h
  (repeat (first | refine FW.seq ?_ | refine FW.region ?_ | refine FW.block ?_ | refine FW.skip ?_ | refine zd.nil ?_ | refine zb rfl rfl rfl ?_ | refine zh rfl rfl rfl rfl rfl rfl (by simp; omega) rfl rfl ?_ | refine zA rfl rfl rfl (by simp; omega) (by first | exact zc (by omega) | rfl) rfl rfl rfl rfl ?_ | refine zU rfl rfl rfl rfl ?_))
  refine FW.cond rfl (fun h => ?_) (fun h => ?_)
  ·(repeat (first | refine FW.seq ?_ | refine FW.region ?_ | refine zd.nil ?_ | refine za rfl rfl rfl ?_))
   refine FW.ret ⟨.inl rfl, ?_⟩
   have e : zeS l n = true := by
    have : nth l k = n := by simpa using h
    simp only [zeS, decide_eq_true_eq, ← this]
    exact zI hlt
   rw [e]
   exact .flat (.cons (.tmp 4 rfl rfl) .nil) rfl rfl
  ·(repeat (first | refine FW.region ?_ | refine FW.skip ?_ | refine zd.nil ?_ | refine za rfl rfl rfl ?_ | refine zb rfl rfl rfl ?_ | refine zw rfl rfl (by omega) rfl rfl ?_))
   refine ⟨k + 1, ⟨by omega, ?_⟩, by omega, (FLe.cv [] (by repeat (first | exact .nil)) (by repeat (first | exact .nil | refine .cons (.plain rfl rfl rfl) ?_)))⟩
   have : nth l k ≠ n := by simpa using h
   rw [List.take_succ_eq_append_getElem hlt, List.mem_append]
   rintro (h1 | h1)
   ·exact hn h1
   ·rw [nth_eq hlt] at this
    simp at h1; exact this h1.symm
 ·(repeat (first | refine FW.seq ?_ | refine FW.region ?_ | refine FW.exit ?_ | refine zd.nil ?_ | refine za rfl rfl rfl ?_))
  refine FW.ret ⟨.inl rfl, ?_⟩
  have e : zeS l n = false := by
   have : k = l.length := by simp at h; omega
   subst this
   simpa [zeS] using hn
  rw [e]
  exact .flat (.cons (.tmp 4 rfl rfl) .nil) rfl rfl
end Go.Proofs.Ytokmanfcndelfaa
/-
 The parts of a history: where, OfKey, OfProcess, and the reference's, at plain values.
-/
namespace Go.Proofs.Ytokmanfcndelfaa
set_option linter.unusedVariables false
open Go.RowKit

def Wf (key : Int) (o : OpV) : Bool := decide (o.key = key)
end Go.Proofs.Ytokmanfcndelfaa
/-
 Before, of whatever numbers, at plain values.
-/
namespace Go.Proofs.Ytokmanfcndelfaa
set_option linter.unusedVariables false
open Go.RowKit

def zi7 (l : List OpV) (i k : Int) : Bool := if 0 ≤ i ∧ 0 ≤ k ∧ i < l.length ∧ k < l.length then bef l i.toNat k.toNat else false
theorem zhq {l : List OpV} {i k : Int} (h : ¬ (0 ≤ i ∧ 0 ≤ k ∧ i < l.length ∧ k < l.length)) : zi7 l i k = false := by unfold zi7; rw [if_neg h]
theorem zf2 {l : List OpV} {i k : Nat} (hi : i < l.length) (hk : k < l.length) : zi7 l i k = bef l i k := by
 unfold zi7
 rw [if_pos (by omega)]
 rfl
set_option maxHeartbeats 2000000 in
theorem zab (l : List OpV) (i k : Int) (hl : l.length ≤ 1000000000) : yc Try.prog 52 [.list 8 (l.map OpV.fv), .int .i64 i, .int .i64 k] .fr (.bool (zi7 l i k)) := by
 by_cases hin : 0 ≤ i ∧ 0 ≤ k ∧ i < l.length ∧ k < l.length
 ·obtain ⟨a, ha⟩ : ∃ a : Nat, i = a := ⟨i.toNat, by omega⟩
  obtain ⟨b, hb⟩ : ∃ b : Nat, k = b := ⟨k.toNat, by omega⟩
  subst ha; subst hb
  rw [zf2 (by omega) (by omega)]
  have hal : a < l.length := by omega
  have hbl : b < l.length := by omega
  refine yc.of_body (c := (xB Try.prog zE zq 43)) ⟨Try.func52, rfl, Try.ntmps52, by kernel_rfl⟩ (by simp [FV.hand]) (by exact Nat.le_of_ble_eq_true rfl) rfl ?_
  change FW _ _ _ ⟨[(0, .list 8 (l.map OpV.fv)), (1, .int .i64 a), (2, .int .i64 b)], []⟩
  (repeat (first | refine FW.seq ?_ | refine FW.region ?_ | refine zd.nil ?_ | refine za rfl rfl rfl ?_ | refine zb rfl rfl rfl ?_ | refine zN rfl rfl rfl rfl ?_ | refine zn rfl rfl rfl rfl ?_ | refine zb rfl rfl ⟨_, _, rfl, rfl, rfl⟩ ?_ | refine zN rfl rfl rfl ⟨_, _, rfl, rfl, rfl⟩ ?_ | refine zg rfl rfl (by first | exact List.length_map _ | exact (List.length_map _).symm | exact List.length_replicate | rfl | (simp; done) | omega | (simp; omega)) rfl ⟨_, _, rfl, rfl, rfl⟩ ?_ | refine Yu rfl rfl rfl ⟨_, _, rfl, rfl, rfl⟩ ?_))
  refine zO (fun h => absurd h (by simp; omega)) (fun _ => ?_)
  (repeat (first | refine zd.nil ?_ | refine zn rfl rfl rfl rfl ?_ | refine zb rfl rfl ⟨_, _, rfl, rfl, rfl⟩ ?_ | refine zg rfl rfl (by first | exact List.length_map _ | exact (List.length_map _).symm | exact List.length_replicate | rfl | (simp; done) | omega | (simp; omega)) rfl ⟨_, _, rfl, rfl, rfl⟩ ?_ | refine Yu rfl rfl rfl ⟨_, _, rfl, rfl, rfl⟩ ?_))
  refine FW.cond rfl (fun h => absurd h (by simp; omega)) (fun _ => ?_)
  (repeat (first | refine FW.seq ?_ | refine FW.skip ?_ | refine FW.draw ?_ | refine zD rfl rfl rfl ?_ | refine zJ rfl rfl (by first | rfl | exact (Int.toNat_of_nonneg (by omega)).symm) rfl rfl rfl (by first | omega | (simp; omega) | (simp; done)) rfl rfl ?_ | refine zW rfl rfl rfl rfl rfl rfl rfl ?_ | refine zR rfl rfl rfl (by first | omega | (simp; omega) | (simp; done)) (by first | exact zc (by omega) | rfl) rfl rfl rfl rfl ?_))
  refine yY (fun h => ?_) (fun h => ?_)
  ·(repeat (first | refine zL.nil ?_ | refine yi rfl rfl rfl ?_ | refine yC rfl rfl rfl rfl ?_ | refine zD rfl rfl ⟨_, _, rfl, rfl, rfl⟩ ?_ | refine zax rfl rfl rfl ⟨_, _, rfl, rfl, rfl⟩ ?_ | refine zJ rfl rfl (by first | rfl | exact (Int.toNat_of_nonneg (by omega)).symm) rfl rfl rfl (by first | omega | (simp; omega) | (simp; done)) rfl ⟨_, _, rfl, rfl, rfl⟩ ?_ | refine zW rfl rfl rfl rfl rfl rfl ⟨_, _, rfl, rfl, rfl⟩ ?_ | refine zR rfl rfl rfl (by first | omega | (simp; omega) | (simp; done)) (by first | exact zc (by omega) | rfl) rfl rfl rfl ⟨_, _, rfl, rfl, rfl⟩ ?_))
   refine ⟨by kernel_rfl, ?_⟩
   skip
   refine FW.ret ⟨.inl rfl, zj rfl rfl ?_ rfl⟩
   simp [bef, h]; rfl
  ·(repeat (first | refine zL.nil ?_ | refine yi rfl rfl rfl ?_ | refine ya rfl rfl rfl rfl ?_ | refine yZ rfl rfl ⟨_, _, rfl, rfl, rfl⟩ ?_))
   refine ⟨by kernel_rfl, ?_⟩
   skip
   refine FW.ret ⟨.inl rfl, zj rfl rfl ?_ rfl⟩
   simp [bef, h]; rfl
 ·rw [zhq hin]
  refine yc.of_body (c := (xB Try.prog zE zq 43)) ⟨Try.func52, rfl, Try.ntmps52, by kernel_rfl⟩ (by simp [FV.hand]) (by exact Nat.le_of_ble_eq_true rfl) rfl ?_
  change FW _ _ _ ⟨[(0, .list 8 (l.map OpV.fv)), (1, .int .i64 i), (2, .int .i64 k)], []⟩
  (repeat (first | refine FW.seq ?_ | refine FW.region ?_ | refine zd.nil ?_ | refine za rfl rfl rfl ?_ | refine zb rfl rfl rfl ?_ | refine zN rfl rfl rfl rfl ?_))
  refine zO (fun h => ?_) (fun h1 => ?_)
  ·(repeat (first | refine FW.seq ?_ | refine FW.region ?_ | refine FW.condT rfl ?_ | refine zd.nil ?_ | refine za rfl rfl rfl ?_ | refine zb rfl rfl rfl ?_ | refine zu rfl rfl rfl rfl ?_ | refine zK rfl rfl ⟨_, _, rfl, rfl, rfl⟩ ?_))
   exact FW.ret ⟨.inl rfl, zj rfl rfl rfl rfl⟩
  ·(repeat (first | refine zb rfl rfl rfl ?_ | refine zn rfl rfl rfl rfl ?_ | refine zb rfl rfl ⟨_, _, rfl, rfl, rfl⟩ ?_ | refine zN rfl rfl rfl ⟨_, _, rfl, rfl, rfl⟩ ?_))
   refine zO (fun h => ?_) (fun h2 => ?_)
   ·(repeat (first | refine FW.seq ?_ | refine FW.region ?_ | refine FW.condT rfl ?_ | refine zd.nil ?_ | refine za rfl rfl rfl ?_ | refine zb rfl rfl rfl ?_ | refine zu rfl rfl rfl rfl ?_ | refine zK rfl rfl ⟨_, _, rfl, rfl, rfl⟩ ?_))
    exact FW.ret ⟨.inl rfl, zj rfl rfl rfl rfl⟩
   ·(repeat (first | refine zb rfl rfl rfl ?_ | refine zn rfl rfl rfl rfl ?_ | refine zb rfl rfl ⟨_, _, rfl, rfl, rfl⟩ ?_ | refine zg rfl rfl (by first | exact List.length_map _ | exact (List.length_map _).symm | exact List.length_replicate | rfl | (simp; done) | omega | (simp; omega)) rfl ⟨_, _, rfl, rfl, rfl⟩ ?_ | refine Yu rfl rfl rfl ⟨_, _, rfl, rfl, rfl⟩ ?_))
    refine zO (fun h => ?_) (fun h3 => ?_)
    ·(repeat (first | refine FW.seq ?_ | refine FW.region ?_ | refine FW.condT rfl ?_ | refine zd.nil ?_ | refine za rfl rfl rfl ?_ | refine zu rfl rfl rfl rfl ?_ | refine zK rfl rfl ⟨_, _, rfl, rfl, rfl⟩ ?_))
     exact FW.ret ⟨.inl rfl, zj rfl rfl rfl rfl⟩
    ·(repeat (first | refine zd.nil ?_ | refine zn rfl rfl rfl rfl ?_ | refine zb rfl rfl ⟨_, _, rfl, rfl, rfl⟩ ?_ | refine zg rfl rfl (by first | exact List.length_map _ | exact (List.length_map _).symm | exact List.length_replicate | rfl | (simp; done) | omega | (simp; omega)) rfl ⟨_, _, rfl, rfl, rfl⟩ ?_ | refine Yu rfl rfl rfl ⟨_, _, rfl, rfl, rfl⟩ ?_))
     refine FW.cond rfl (fun h => ?_) (fun h4 => ?_)
     ·(repeat (first | refine FW.seq ?_ | refine FW.region ?_ | refine zd.nil ?_ | refine za rfl rfl rfl ?_))
      exact FW.ret ⟨.inl rfl, zj rfl rfl rfl rfl⟩
     ·exfalso
      simp at h1 h2 h3 h4
      exact hin (by omega)
end Go.Proofs.Ytokmanfcndelfaa
