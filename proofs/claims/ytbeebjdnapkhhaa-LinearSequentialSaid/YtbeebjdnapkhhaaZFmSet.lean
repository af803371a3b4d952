/-
  poset's sets, at plain values.
-/
import Derived.Test.YtbeebjdnapkhhaaZQ
import Derived.Test.YtbeebjdnapkhhaaZD
namespace Go.Proofs.Ytbeebjdnapkhhaa
set_option linter.unusedVariables false
open Go.RowKit

def zag (v : Nat) (W : List Nat) : zm := ⟨v, .own, 116, 1, W.map zaO⟩
set_option maxHeartbeats 4000000 in
theorem zdv (n b : Nat) (p : Nat → Bool) (hb : b < n) (hn : n ≤ 1000000) : yg Try.prog 66 [.list 1 ((xG n p).map zaO), .int .i64 b] .fr (.bool (p b)) := by
 have hwl := yu n p
 have hbn := Ue hb
 have hw := xH p hbn
 have hlt := Yg p (b / 64)
 have hbit := Yf p (b / 64) (Nat.mod_lt b (show 0 < 64 by omega))
 rw [Nat.div_add_mod b 64] at hbit
 have hh := zjX hlt (Nat.mod_lt b (show 0 < 64 by omega))
 rw [hbit] at hh
 obtain ⟨q, hq⟩ : ∃ q, (b : Int) / 64 = q := ⟨_, rfl⟩
 have hq' : q = ((b / 64 : Nat) : Int) := by omega
 obtain ⟨r, hr⟩ : ∃ r, (b : Int) % 64 = r := ⟨_, rfl⟩
 have hr' : r = ((b % 64 : Nat) : Int) := by omega
 generalize xG n p = W at hwl hw
 generalize Wm p (b / 64) = w at hw hlt hh
 generalize b / 64 = i at hbn hw hq'
 refine yg.of_body (c := (Yz Try.prog zE zA 15)) ⟨Try.func66, rfl, Try.ntmps66, by kernel_rfl⟩ (by simp [FV.hand]) (by exact Nat.le_of_ble_eq_true rfl) rfl ?_
 change FW _ _ _ ⟨[(0, .list 1 (W.map zaO)), (1, .int .i64 b)], []⟩
 (repeat (first | refine FW.seq ?_ | refine FW.region ?_))
 refine za rfl rfl rfl ?_
 (repeat (first | refine FW.seq ?_ | refine FW.region ?_ | refine zc.nil ?_))
 refine zb rfl rfl rfl ?_; refine zb rfl rfl rfl ?_; refine zee rfl rfl (by omega) rfl rfl ?_
 rw [hq, hq']
 refine zB rfl rfl rfl rfl rfl rfl (by simp; omega) rfl rfl ?_; refine zC rfl rfl rfl (by simp; omega) (by first | exact zg (by omega) | rfl) rfl rfl rfl rfl ?_; refine zb rfl rfl rfl ?_; refine zef rfl rfl (by omega) rfl rfl ?_
 rw [hr, hr', hw]
 refine zkh rfl rfl (by omega) rfl rfl ?_
 rw [Int.toNat_natCast]
 refine zgI rfl rfl rfl rfl ?_
 rw [hh]
 (repeat (first | refine zc.nil ?_ | refine za rfl rfl rfl ?_ | refine xx rfl rfl rfl rfl ?_))
 refine FW.ret ⟨.inl rfl, zY rfl rfl ?_ rfl⟩
 refine congrArg FV.bool ?_
 cases p b <;> rfl
set_option maxHeartbeats 4000000 in
theorem zcH (n b v : Nat) (p : Nat → Bool) (hb : b < n) (hn : n ≤ 1000000) : Vr Try.prog 47 [.own 5000 v 0 (xc n), .int .i64 b] [(5000, zag v (xG n p))] [] (fun res o => res = .tup [] ∧ o 5000 = zag v (xG n fun x => p x || decide (x = b))) := by
 have hwl := yu n p
 have hbn := Ue hb
 have hw := xH p hbn
 have hlt := Yg p (b / 64)
 have hadd := zg9 p hb
 have hor := orU hlt (show 2 ^ (b % 64) < 18446744073709551616 from Nat.pow_lt_pow_right (by omega) (Nat.mod_lt b (show 0 < 64 by omega)))
 have hsh := zkY (Nat.mod_lt b (show 0 < 64 by omega))
 obtain ⟨q, hq⟩ : ∃ q, (b : Int) / 64 = q := ⟨_, rfl⟩
 have hq' : q = ((b / 64 : Nat) : Int) := by omega
 obtain ⟨r, hr⟩ : ∃ r, (b : Int) % 64 = r := ⟨_, rfl⟩
 have hr' : r = ((b % 64 : Nat) : Int) := by omega
 rw [hw] at hadd
 rw [← hadd, ← hwl]
 rw [← hwl] at hbn
 generalize xG n p = W at hbn hw
 generalize Wm p (b / 64) = w at hw hlt hor
 generalize b / 64 = i at hbn hw hq'
 generalize 2 ^ (b % 64) = z at hor hsh
 refine Vr.of_body (c := (Yz Try.prog zE zA 14)) ⟨Try.func47, rfl, Try.ntmps47, by kernel_rfl⟩ (by exact Nat.le_of_ble_eq_true rfl) ?_ ?_
 ·rintro res o ⟨rfl, h1⟩; exact XW (v := v) rfl (by rw [h1] <;> rfl) (by rw [h1] <;> rfl) rfl
 change FW _ _ _ ⟨[(0, .own 5000 v 0 W.length), (1, .int .i64 b)], [(5000, zag v W)]⟩
 unfold zag
 skip
 refine FW.draw ?_
 refine yc rfl rfl rfl ?_; refine yc rfl rfl rfl ?_; refine ziE rfl rfl (by omega) rfl rfl ?_
 rw [hq, hq']
 refine xf rfl rfl rfl rfl rfl rfl (by decide) rfl (by first | omega | (simp; omega)) rfl rfl ?_; refine xQ rfl rfl rfl rfl rfl (by first | omega | (simp; omega)) (by first | exact zg (by omega) | rfl) rfl rfl rfl rfl ?_; refine yc rfl rfl rfl ?_; refine zkb rfl rfl (by omega) rfl rfl ?_
 rw [hr, hr']
 refine zkc rfl rfl (by omega) rfl rfl ?_
 rw [Int.toNat_natCast, hsh, hw]
 refine zhW rfl rfl rfl rfl ?_
 rw [hor]
 refine xf rfl rfl rfl rfl rfl rfl (by decide) rfl (by first | omega | (simp; omega)) rfl rfl ?_; refine zgD rfl rfl rfl rfl rfl rfl (by first | omega | (simp; omega)) (by first | exact zg (by omega) | rfl) rfl rfl rfl ?_
 refine zD.nil ⟨by kernel_rfl, ?_⟩
 skip
 exact ⟨.inr rfl, _, .plain .nil rfl rfl, rfl, by rw [List.map_set]; rfl⟩
set_option maxHeartbeats 4000000 in
theorem zaf (v m : Nat) (A B : List Nat) (hA : A.length = m) (hB : B.length = m) (hm : m ≤ 1000000) (hA2 : ∀ w ∈ A, w < 18446744073709551616) (hB2 : ∀ w ∈ B, w < 18446744073709551616) : Vr Try.prog 48 [.own 5000 v 0 m, .list 1 (B.map zaO)] [(5000, zag v A)] [] (fun res o => res = .tup [] ∧ o 5000 = zag v (Zo A B m)) := by
 refine Vr.of_body (c := (Yz Try.prog zE zA 21)) ⟨Try.func48, rfl, Try.ntmps48, by kernel_rfl⟩ (by exact Nat.le_of_ble_eq_true rfl) ?_ ?_
 ·rintro res o ⟨rfl, h1⟩; exact XW (v := v) rfl (by rw [h1] <;> rfl) (by rw [h1] <;> rfl) rfl
 change FW _ _ _ ⟨[(0, .own 5000 v 0 m), (1, .list 1 (B.map zaO))], [(5000, zag v A)]⟩
 unfold zag
 refine FW.post ?_
 (repeat (first | refine FW.seq ?_ | refine FW.region ?_ | refine FW.block ?_ | refine zc.nil ?_ | refine zb rfl rfl rfl ?_ | refine zu rfl rfl (by exact List.length_map _) rfl rfl ?_))
 refine FW.loop (fun k : Nat => ⟨[(0, .own 5000 v 0 m), (6, .list 1 (B.map zaO)), (7, .int .i64 m), (8, .int .i64 k)], [(5000, ⟨v, .own, 116, 1, (Zo A B k).map zaO⟩)]⟩) (fun k => k ≤ m) (fun k => m - k) 0 (Nat.zero_le _) ?_ ?_
 ·rw [zdk]
  exact (FLe.conv [⟨5000, some 5000, v, ⟨v, .own, 116, 1, A.map zaO⟩⟩] (by simp) (by simp) rfl (by repeat (first | exact .nil | refine .low rfl ?_ | refine .same rfl ?_ | refine .bump (Nat.lt_succ_self _) ?_)) (by repeat (first | exact .nil | refine .old rfl (by decide) (by first | rfl | (refine congrArg (FV.int .i64) ?_; omega)) ?_)) (by repeat (first | exact .nil | refine .cons (.plain rfl rfl (by first | rfl | (refine congrArg (FV.int .i64) ?_; omega))) ?_ | refine .cons (.own rfl (.head _) rfl (by first | rfl | (refine congrArg (FV.int .i64) ?_; omega))) ?_)))
 intro k hk
 (repeat (first | refine FW.seq ?_ | refine FW.region ?_ | refine zc.nil ?_ | refine zL rfl rfl rfl rfl ?_))
 refine FW.cond rfl (fun h => ?_) (fun h => ?_)
 ·have hlt : k < m := by simpa using h
  clear h
  have hjs := zdj (A := A) (B := B) (show k < A.length by omega)
  have hjl := xw A B k
  have hkA : k < A.length := by omega
  have hkB : k < B.length := by omega
  have hj1 : nth (Zo A B k) k = nth A k := by rw [Zg hkA, if_neg (Nat.lt_irrefl k)]
  have hor := orU (hA2 _ (zj hkA)) (hB2 _ (zj hkB))
  rw [hj1] at hjs
  generalize Zo A B k = J at hjs hjl hj1
  obtain ⟨x, hx⟩ : ∃ x, nth A k = x := ⟨_, rfl⟩
  obtain ⟨y, hy⟩ : ∃ y, nth B k = y := ⟨_, rfl⟩
  rw [hx] at hj1 hor hjs
  rw [hy] at hor hjs
  (repeat (first | refine FW.seq ?_ | refine FW.region ?_ | refine FW.block ?_ | refine FW.skip ?_ | refine zc.nil ?_ | refine zb rfl rfl rfl ?_ | refine zB rfl rfl rfl rfl rfl rfl (by first | omega | (simp; omega)) rfl rfl ?_ | refine zF rfl rfl rfl rfl rfl rfl (by decide) rfl (by first | omega | (simp; omega)) rfl rfl ?_ | refine zC rfl rfl rfl (by first | omega | (simp; omega)) (by first | exact zg (by omega) | rfl) rfl rfl rfl rfl ?_ | refine zw rfl rfl rfl rfl rfl (by first | omega | (simp; omega)) (by first | exact zg (by omega) | rfl) rfl rfl rfl rfl ?_ | refine za rfl rfl rfl ?_ | refine zh2 rfl rfl rfl rfl ?_ | refine xh rfl rfl rfl rfl rfl rfl (by first | omega | (simp; omega)) (by first | exact zg (by omega) | rfl) rfl rfl rfl ?_ | refine zx rfl rfl (by omega) rfl rfl ?_))
  rw [hj1, hy, hor]
  refine ⟨k + 1, by omega, by omega, ?_⟩
  rw [hjs, List.map_set]
  exact (FLe.conv [⟨5000, some 5000, v, ⟨v, .own, 116, 1, (J.map zaO).set k (zaO (x ||| y))⟩⟩] (by simp) (by simp) rfl (by repeat (first | exact .nil | refine .low rfl ?_ | refine .same rfl ?_ | refine .bump (Nat.lt_succ_self _) ?_)) (by repeat (first | exact .nil | refine .old rfl (by decide) rfl ?_)) (by repeat (first | exact .nil | refine .cons (.plain rfl rfl rfl) ?_ | refine .cons (.own rfl (.head _) rfl rfl) ?_)))
 ·obtain rfl : k = m := by simp at h; omega
  (repeat (first | refine FW.exit ?_))
  refine ⟨⟨[], [(5000, ⟨v, .own, 116, 1, (Zo A B k).map zaO⟩)]⟩, ?_, .inr rfl, _, .plain .nil rfl rfl, rfl, rfl⟩
  exact (FLe.conv [⟨5000, some 5000, v, ⟨v, .own, 116, 1, (Zo A B k).map zaO⟩⟩] (by simp) (by simp) rfl (by repeat (first | exact .nil | refine .low rfl ?_ | refine .same rfl ?_ | refine .bump (Nat.lt_succ_self _) ?_)) (by repeat (first | exact .nil | refine .old rfl (by decide) rfl ?_)) (by repeat (first | exact .nil)))
end Go.Proofs.Ytbeebjdnapkhhaa
