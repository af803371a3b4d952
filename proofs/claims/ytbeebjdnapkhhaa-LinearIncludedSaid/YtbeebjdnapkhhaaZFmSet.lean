/-
  poset's sets, at plain values.
-/
import Derived.Test.YtbeebjdnapkhhaaZQ
import Derived.Test.YtbeebjdnapkhhaaZD
namespace Go.Proofs.Ytbeebjdnapkhhaa
set_option linter.unusedVariables false
open Go.RowKit

def zaD (v : Nat) (W : List Nat) : zj := ⟨v, .own, 116, 1, W.map za9⟩
set_option maxHeartbeats 4000000 in
theorem zdO (n b : Nat) (p : Nat → Bool) (hb : b < n) (hn : n ≤ 1000000) : yd Try.prog 66 [.list 1 ((xH n p).map za9), .int .i64 b] .fr (.bool (p b)) := by
 have hwl := yx n p
 have hbn := UF hb
 have hw := xI p hbn
 have hlt := Yj p (b / 64)
 have hbit := Yi p (b / 64) (Nat.mod_lt b (show 0 < 64 by omega))
 rw [Nat.div_add_mod b 64] at hbit
 have hh := zkc hlt (Nat.mod_lt b (show 0 < 64 by omega))
 rw [hbit] at hh
 obtain ⟨q, hq⟩ : ∃ q, (b : Int) / 64 = q := ⟨_, rfl⟩
 have hq' : q = ((b / 64 : Nat) : Int) := by omega
 obtain ⟨r, hr⟩ : ∃ r, (b : Int) % 64 = r := ⟨_, rfl⟩
 have hr' : r = ((b % 64 : Nat) : Int) := by omega
 generalize xH n p = W at hwl hw
 generalize WA p (b / 64) = w at hw hlt hh
 generalize b / 64 = i at hbn hw hq'
 refine yd.of_body (c := (ZD Try.prog zF zy 15)) ⟨Try.func66, rfl, Try.ntmps66, by kernel_rfl⟩ (by simp [FV.hand]) (by exact Nat.le_of_ble_eq_true rfl) rfl ?_
 change FW _ _ _ ⟨[(0, .list 1 (W.map za9)), (1, .int .i64 b)], []⟩
 (repeat (first | refine FW.seq ?_ | refine FW.region ?_))
 refine za rfl rfl rfl ?_
 (repeat (first | refine FW.seq ?_ | refine FW.region ?_ | refine zc.nil ?_))
 refine zb rfl rfl rfl ?_; refine zb rfl rfl rfl ?_; refine zhi rfl rfl (by omega) rfl rfl ?_
 rw [hq, hq']
 refine zC rfl rfl rfl rfl rfl rfl (by simp; omega) rfl rfl ?_; refine zD rfl rfl rfl (by simp; omega) (by first | exact zd (by omega) | rfl) rfl rfl rfl rfl ?_; refine zb rfl rfl rfl ?_; refine za2 rfl rfl (by omega) rfl rfl ?_
 rw [hr, hr', hw]
 refine zku rfl rfl (by omega) rfl rfl ?_
 rw [Int.toNat_natCast]
 refine zha rfl rfl rfl rfl ?_
 rw [hh]
 (repeat (first | refine zc.nil ?_ | refine za rfl rfl rfl ?_ | refine yH rfl rfl rfl rfl ?_))
 refine FW.ret ⟨.inl rfl, zQ rfl rfl ?_ rfl⟩
 refine congrArg FV.bool ?_
 cases p b <;> rfl
set_option maxHeartbeats 4000000 in
theorem zc1 (n b v : Nat) (p : Nat → Bool) (hb : b < n) (hn : n ≤ 1000000) : VM Try.prog 47 [.own 5000 v 0 (xj n), .int .i64 b] [(5000, zaD v (xH n p))] [] (fun res o => res = .tup [] ∧ o 5000 = zaD v (xH n fun x => p x || decide (x = b))) := by
 have hwl := yx n p
 have hbn := UF hb
 have hw := xI p hbn
 have hlt := Yj p (b / 64)
 have hadd := zhD p hb
 have hor := orU hlt (show 2 ^ (b % 64) < 18446744073709551616 from Nat.pow_lt_pow_right (by omega) (Nat.mod_lt b (show 0 < 64 by omega)))
 have hsh := zk4 (Nat.mod_lt b (show 0 < 64 by omega))
 obtain ⟨q, hq⟩ : ∃ q, (b : Int) / 64 = q := ⟨_, rfl⟩
 have hq' : q = ((b / 64 : Nat) : Int) := by omega
 obtain ⟨r, hr⟩ : ∃ r, (b : Int) % 64 = r := ⟨_, rfl⟩
 have hr' : r = ((b % 64 : Nat) : Int) := by omega
 rw [hw] at hadd
 rw [← hadd, ← hwl]
 rw [← hwl] at hbn
 generalize xH n p = W at hbn hw
 generalize WA p (b / 64) = w at hw hlt hor
 generalize b / 64 = i at hbn hw hq'
 generalize 2 ^ (b % 64) = z at hor hsh
 refine VM.of_body (c := (ZD Try.prog zF zy 14)) ⟨Try.func47, rfl, Try.ntmps47, by kernel_rfl⟩ (by exact Nat.le_of_ble_eq_true rfl) ?_ ?_
 ·rintro res o ⟨rfl, h1⟩; exact Wm (v := v) rfl (by rw [h1] <;> rfl) (by rw [h1] <;> rfl) rfl
 change FW _ _ _ ⟨[(0, .own 5000 v 0 W.length), (1, .int .i64 b)], [(5000, zaD v W)]⟩
 unfold zaD
 skip
 refine FW.draw ?_
 refine zS rfl rfl rfl ?_; refine zS rfl rfl rfl ?_; refine zi7 rfl rfl (by omega) rfl rfl ?_
 rw [hq, hq']
 refine xE rfl rfl rfl rfl rfl rfl (by decide) rfl (by first | omega | (simp; omega)) rfl rfl ?_; refine Zf rfl rfl rfl rfl rfl (by first | omega | (simp; omega)) (by first | exact zd (by omega) | rfl) rfl rfl rfl rfl ?_; refine zS rfl rfl rfl ?_; refine zkp rfl rfl (by omega) rfl rfl ?_
 rw [hr, hr']
 refine zkq rfl rfl (by omega) rfl rfl ?_
 rw [Int.toNat_natCast, hsh, hw]
 refine ziu rfl rfl rfl rfl ?_
 rw [hor]
 refine xE rfl rfl rfl rfl rfl rfl (by decide) rfl (by first | omega | (simp; omega)) rfl rfl ?_; refine zg4 rfl rfl rfl rfl rfl rfl (by first | omega | (simp; omega)) (by first | exact zd (by omega) | rfl) rfl rfl rfl ?_
 refine zG.nil ⟨by kernel_rfl, ?_⟩
 skip
 exact ⟨.inr rfl, _, .plain .nil rfl rfl, rfl, by rw [List.map_set]; rfl⟩
set_option maxHeartbeats 4000000 in
theorem zaC (v m : Nat) (A B : List Nat) (hA : A.length = m) (hB : B.length = m) (hm : m ≤ 1000000) (hA2 : ∀ w ∈ A, w < 18446744073709551616) (hB2 : ∀ w ∈ B, w < 18446744073709551616) : VM Try.prog 48 [.own 5000 v 0 m, .list 1 (B.map za9)] [(5000, zaD v A)] [] (fun res o => res = .tup [] ∧ o 5000 = zaD v (Zu A B m)) := by
 refine VM.of_body (c := (ZD Try.prog zF zy 21)) ⟨Try.func48, rfl, Try.ntmps48, by kernel_rfl⟩ (by exact Nat.le_of_ble_eq_true rfl) ?_ ?_
 ·rintro res o ⟨rfl, h1⟩; exact Wm (v := v) rfl (by rw [h1] <;> rfl) (by rw [h1] <;> rfl) rfl
 change FW _ _ _ ⟨[(0, .own 5000 v 0 m), (1, .list 1 (B.map za9))], [(5000, zaD v A)]⟩
 unfold zaD
 refine FW.post ?_
 (repeat (first | refine FW.seq ?_ | refine FW.region ?_ | refine FW.block ?_ | refine zc.nil ?_ | refine zb rfl rfl rfl ?_ | refine zw rfl rfl (by exact List.length_map _) rfl rfl ?_))
 refine FW.loop (fun k : Nat => ⟨[(0, .own 5000 v 0 m), (6, .list 1 (B.map za9)), (7, .int .i64 m), (8, .int .i64 k)], [(5000, ⟨v, .own, 116, 1, (Zu A B k).map za9⟩)]⟩) (fun k => k ≤ m) (fun k => m - k) 0 (Nat.zero_le _) ?_ ?_
 ·rw [zdD]
  exact (FLe.conv [⟨5000, some 5000, v, ⟨v, .own, 116, 1, A.map za9⟩⟩] (by simp) (by simp) rfl (by repeat (first | exact .nil | refine .low rfl ?_ | refine .same rfl ?_ | refine .bump (Nat.lt_succ_self _) ?_)) (by repeat (first | exact .nil | refine .old rfl (by decide) (by first | rfl | (refine congrArg (FV.int .i64) ?_; omega)) ?_)) (by repeat (first | exact .nil | refine .cons (.plain rfl rfl (by first | rfl | (refine congrArg (FV.int .i64) ?_; omega))) ?_ | refine .cons (.own rfl (.head _) rfl (by first | rfl | (refine congrArg (FV.int .i64) ?_; omega))) ?_)))
 intro k hk
 (repeat (first | refine FW.seq ?_ | refine FW.region ?_ | refine zc.nil ?_ | refine zH rfl rfl rfl rfl ?_))
 refine FW.cond rfl (fun h => ?_) (fun h => ?_)
 ·have hlt : k < m := by simpa using h
  clear h
  have hjs := zdC (A := A) (B := B) (show k < A.length by omega)
  have hjl := xv A B k
  have hkA : k < A.length := by omega
  have hkB : k < B.length := by omega
  have hj1 : nth (Zu A B k) k = nth A k := by rw [Zj hkA, if_neg (Nat.lt_irrefl k)]
  have hor := orU (hA2 _ (zA hkA)) (hB2 _ (zA hkB))
  rw [hj1] at hjs
  generalize Zu A B k = J at hjs hjl hj1
  obtain ⟨x, hx⟩ : ∃ x, nth A k = x := ⟨_, rfl⟩
  obtain ⟨y, hy⟩ : ∃ y, nth B k = y := ⟨_, rfl⟩
  rw [hx] at hj1 hor hjs
  rw [hy] at hor hjs
  (repeat (first | refine FW.seq ?_ | refine FW.region ?_ | refine FW.block ?_ | refine FW.skip ?_ | refine zc.nil ?_ | refine zb rfl rfl rfl ?_ | refine zC rfl rfl rfl rfl rfl rfl (by first | omega | (simp; omega)) rfl rfl ?_ | refine zu rfl rfl rfl rfl rfl rfl (by decide) rfl (by first | omega | (simp; omega)) rfl rfl ?_ | refine zD rfl rfl rfl (by first | omega | (simp; omega)) (by first | exact zd (by omega) | rfl) rfl rfl rfl rfl ?_ | refine zn rfl rfl rfl rfl rfl (by first | omega | (simp; omega)) (by first | exact zd (by omega) | rfl) rfl rfl rfl rfl ?_ | refine za rfl rfl rfl ?_ | refine ziA rfl rfl rfl rfl ?_ | refine zV rfl rfl rfl rfl rfl rfl (by first | omega | (simp; omega)) (by first | exact zd (by omega) | rfl) rfl rfl rfl ?_ | refine zt rfl rfl (by omega) rfl rfl ?_))
  rw [hj1, hy, hor]
  refine ⟨k + 1, by omega, by omega, ?_⟩
  rw [hjs, List.map_set]
  exact (FLe.conv [⟨5000, some 5000, v, ⟨v, .own, 116, 1, (J.map za9).set k (za9 (x ||| y))⟩⟩] (by simp) (by simp) rfl (by repeat (first | exact .nil | refine .low rfl ?_ | refine .same rfl ?_ | refine .bump (Nat.lt_succ_self _) ?_)) (by repeat (first | exact .nil | refine .old rfl (by decide) rfl ?_)) (by repeat (first | exact .nil | refine .cons (.plain rfl rfl rfl) ?_ | refine .cons (.own rfl (.head _) rfl rfl) ?_)))
 ·obtain rfl : k = m := by simp at h; omega
  (repeat (first | refine FW.exit ?_))
  refine ⟨⟨[], [(5000, ⟨v, .own, 116, 1, (Zu A B k).map za9⟩)]⟩, ?_, .inr rfl, _, .plain .nil rfl rfl, rfl, rfl⟩
  exact (FLe.conv [⟨5000, some 5000, v, ⟨v, .own, 116, 1, (Zu A B k).map za9⟩⟩] (by simp) (by simp) rfl (by repeat (first | exact .nil | refine .low rfl ?_ | refine .same rfl ?_ | refine .bump (Nat.lt_succ_self _) ?_)) (by repeat (first | exact .nil | refine .old rfl (by decide) rfl ?_)) (by repeat (first | exact .nil)))
end Go.Proofs.Ytbeebjdnapkhhaa
