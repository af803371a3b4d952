/-
  poset's sets, at plain values.
-/
import Derived.Test.YtbeebjdnapkhhaaZQ
import Derived.Test.YtbeebjdnapkhhaaZD
namespace Go.Proofs.Ytbeebjdnapkhhaa
set_option linter.unusedVariables false
open Go.RowKit

def zaz (v : Nat) (W : List Nat) : zp := ⟨v, .own, 116, 1, W.map za6⟩
set_option maxHeartbeats 4000000 in
theorem zd2 (n b : Nat) (p : Nat → Bool) (hb : b < n) (hn : n ≤ 1000000) : yg Try.prog 66 [.list 1 ((xK n p).map za6), .int .i64 b] .fr (.bool (p b)) := by
 have hwl := yB n p
 have hbn := Uw hb
 have hw := xL p hbn
 have hlt := Yf p (b / 64)
 have hbit := Ye p (b / 64) (Nat.mod_lt b (show 0 < 64 by omega))
 rw [Nat.div_add_mod b 64] at hbit
 have hh := zkp hlt (Nat.mod_lt b (show 0 < 64 by omega))
 rw [hbit] at hh
 obtain ⟨q, hq⟩ : ∃ q, (b : Int) / 64 = q := ⟨_, rfl⟩
 have hq' : q = ((b / 64 : Nat) : Int) := by omega
 obtain ⟨r, hr⟩ : ∃ r, (b : Int) % 64 = r := ⟨_, rfl⟩
 have hr' : r = ((b % 64 : Nat) : Int) := by omega
 generalize xK n p = W at hwl hw
 generalize Wx p (b / 64) = w at hw hlt hh
 generalize b / 64 = i at hbn hw hq'
 refine yg.of_body (c := (Zy Try.prog zG zA 15)) ⟨Try.func66, rfl, Try.ntmps66, by kernel_rfl⟩ (by simp [FV.hand]) (by exact Nat.le_of_ble_eq_true rfl) rfl ?_
 change FW _ _ _ ⟨[(0, .list 1 (W.map za6)), (1, .int .i64 b)], []⟩
 (repeat (first | refine FW.seq ?_ | refine FW.region ?_))
 refine za rfl rfl rfl ?_
 (repeat (first | refine FW.seq ?_ | refine FW.region ?_ | refine zc.nil ?_))
 refine zb rfl rfl rfl ?_; refine zb rfl rfl rfl ?_; refine zhq rfl rfl (by omega) rfl rfl ?_
 rw [hq, hq']
 refine zD rfl rfl rfl rfl rfl rfl (by simp; omega) rfl rfl ?_; refine zB rfl rfl rfl (by simp; omega) (by first | exact zd (by omega) | rfl) rfl rfl rfl rfl ?_; refine zb rfl rfl rfl ?_; refine zaZ rfl rfl (by omega) rfl rfl ?_
 rw [hr, hr', hw]
 refine zkG rfl rfl (by omega) rfl rfl ?_
 rw [Int.toNat_natCast]
 refine zhh rfl rfl rfl rfl ?_
 rw [hh]
 (repeat (first | refine zc.nil ?_ | refine za rfl rfl rfl ?_ | refine yU rfl rfl rfl rfl ?_))
 refine FW.ret ⟨.inl rfl, zO rfl rfl ?_ rfl⟩
 refine congrArg FV.bool ?_
 cases p b <;> rfl
set_option maxHeartbeats 4000000 in
theorem zda (n b v : Nat) (p : Nat → Bool) (hb : b < n) (hn : n ≤ 1000000) : VB Try.prog 47 [.own 5000 v 0 (xm n), .int .i64 b] [(5000, zaz v (xK n p))] [] (fun res o => res = .tup [] ∧ o 5000 = zaz v (xK n fun x => p x || decide (x = b))) := by
 have hwl := yB n p
 have hbn := Uw hb
 have hw := xL p hbn
 have hlt := Yf p (b / 64)
 have hadd := zhI p hb
 have hor := orU hlt (show 2 ^ (b % 64) < 18446744073709551616 from Nat.pow_lt_pow_right (by omega) (Nat.mod_lt b (show 0 < 64 by omega)))
 have hsh := zld (Nat.mod_lt b (show 0 < 64 by omega))
 obtain ⟨q, hq⟩ : ∃ q, (b : Int) / 64 = q := ⟨_, rfl⟩
 have hq' : q = ((b / 64 : Nat) : Int) := by omega
 obtain ⟨r, hr⟩ : ∃ r, (b : Int) % 64 = r := ⟨_, rfl⟩
 have hr' : r = ((b % 64 : Nat) : Int) := by omega
 rw [hw] at hadd
 rw [← hadd, ← hwl]
 rw [← hwl] at hbn
 generalize xK n p = W at hbn hw
 generalize Wx p (b / 64) = w at hw hlt hor
 generalize b / 64 = i at hbn hw hq'
 generalize 2 ^ (b % 64) = z at hor hsh
 refine VB.of_body (c := (Zy Try.prog zG zA 14)) ⟨Try.func47, rfl, Try.ntmps47, by kernel_rfl⟩ (by exact Nat.le_of_ble_eq_true rfl) ?_ ?_
 ·rintro res o ⟨rfl, h1⟩; exact Wg (v := v) rfl (by rw [h1] <;> rfl) (by rw [h1] <;> rfl) rfl
 change FW _ _ _ ⟨[(0, .own 5000 v 0 W.length), (1, .int .i64 b)], [(5000, zaz v W)]⟩
 unfold zaz
 skip
 refine FW.draw ?_
 refine zV rfl rfl rfl ?_; refine zV rfl rfl rfl ?_; refine zja rfl rfl (by omega) rfl rfl ?_
 rw [hq, hq']
 refine xJ rfl rfl rfl rfl rfl rfl (by decide) rfl (by first | omega | (simp; omega)) rfl rfl ?_; refine Zj rfl rfl rfl rfl rfl (by first | omega | (simp; omega)) (by first | exact zd (by omega) | rfl) rfl rfl rfl rfl ?_; refine zV rfl rfl rfl ?_; refine zkB rfl rfl (by omega) rfl rfl ?_
 rw [hr, hr']
 refine zkC rfl rfl (by omega) rfl rfl ?_
 rw [Int.toNat_natCast, hsh, hw]
 refine zix rfl rfl rfl rfl ?_
 rw [hor]
 refine xJ rfl rfl rfl rfl rfl rfl (by decide) rfl (by first | omega | (simp; omega)) rfl rfl ?_; refine zhb rfl rfl rfl rfl rfl rfl (by first | omega | (simp; omega)) (by first | exact zd (by omega) | rfl) rfl rfl rfl ?_
 refine zE.nil ⟨by kernel_rfl, ?_⟩
 skip
 exact ⟨.inr rfl, _, .plain .nil rfl rfl, rfl, by rw [List.map_set]; rfl⟩
set_option maxHeartbeats 4000000 in
theorem zay (v m : Nat) (A B : List Nat) (hA : A.length = m) (hB : B.length = m) (hm : m ≤ 1000000) (hA2 : ∀ w ∈ A, w < 18446744073709551616) (hB2 : ∀ w ∈ B, w < 18446744073709551616) : VB Try.prog 48 [.own 5000 v 0 m, .list 1 (B.map za6)] [(5000, zaz v A)] [] (fun res o => res = .tup [] ∧ o 5000 = zaz v (Zr A B m)) := by
 refine VB.of_body (c := (Zy Try.prog zG zA 21)) ⟨Try.func48, rfl, Try.ntmps48, by kernel_rfl⟩ (by exact Nat.le_of_ble_eq_true rfl) ?_ ?_
 ·rintro res o ⟨rfl, h1⟩; exact Wg (v := v) rfl (by rw [h1] <;> rfl) (by rw [h1] <;> rfl) rfl
 change FW _ _ _ ⟨[(0, .own 5000 v 0 m), (1, .list 1 (B.map za6))], [(5000, zaz v A)]⟩
 unfold zaz
 refine FW.post ?_
 (repeat (first | refine FW.seq ?_ | refine FW.region ?_ | refine FW.block ?_ | refine zc.nil ?_ | refine zb rfl rfl rfl ?_ | refine zm rfl rfl (by exact List.length_map _) rfl rfl ?_))
 refine FW.loop (fun k : Nat => ⟨[(0, .own 5000 v 0 m), (6, .list 1 (B.map za6)), (7, .int .i64 m), (8, .int .i64 k)], [(5000, ⟨v, .own, 116, 1, (Zr A B k).map za6⟩)]⟩) (fun k => k ≤ m) (fun k => m - k) 0 (Nat.zero_le _) ?_ ?_
 ·rw [zdQ]
  exact (FLe.conv [⟨5000, some 5000, v, ⟨v, .own, 116, 1, A.map za6⟩⟩] (by simp) (by simp) rfl (by repeat (first | exact .nil | refine .low rfl ?_ | refine .same rfl ?_ | refine .bump (Nat.lt_succ_self _) ?_)) (by repeat (first | exact .nil | refine .old rfl (by decide) (by first | rfl | (refine congrArg (FV.int .i64) ?_; omega)) ?_)) (by repeat (first | exact .nil | refine .cons (.plain rfl rfl (by first | rfl | (refine congrArg (FV.int .i64) ?_; omega))) ?_ | refine .cons (.own rfl (.head _) rfl (by first | rfl | (refine congrArg (FV.int .i64) ?_; omega))) ?_)))
 intro k hk
 (repeat (first | refine FW.seq ?_ | refine FW.region ?_ | refine zc.nil ?_ | refine zH rfl rfl rfl rfl ?_))
 refine FW.cond rfl (fun h => ?_) (fun h => ?_)
 ·have hlt : k < m := by simpa using h
  clear h
  have hjs := zdP (A := A) (B := B) (show k < A.length by omega)
  have hjl := xz A B k
  have hkA : k < A.length := by omega
  have hkB : k < B.length := by omega
  have hj1 : nth (Zr A B k) k = nth A k := by rw [Zl hkA, if_neg (Nat.lt_irrefl k)]
  have hor := orU (hA2 _ (zn hkA)) (hB2 _ (zn hkB))
  rw [hj1] at hjs
  generalize Zr A B k = J at hjs hjl hj1
  obtain ⟨x, hx⟩ : ∃ x, nth A k = x := ⟨_, rfl⟩
  obtain ⟨y, hy⟩ : ∃ y, nth B k = y := ⟨_, rfl⟩
  rw [hx] at hj1 hor hjs
  rw [hy] at hor hjs
  (repeat (first | refine FW.seq ?_ | refine FW.region ?_ | refine FW.block ?_ | refine FW.skip ?_ | refine zc.nil ?_ | refine zb rfl rfl rfl ?_ | refine zD rfl rfl rfl rfl rfl rfl (by first | omega | (simp; omega)) rfl rfl ?_ | refine zx rfl rfl rfl rfl rfl rfl (by decide) rfl (by first | omega | (simp; omega)) rfl rfl ?_ | refine zB rfl rfl rfl (by first | omega | (simp; omega)) (by first | exact zd (by omega) | rfl) rfl rfl rfl rfl ?_ | refine zq rfl rfl rfl rfl rfl (by first | omega | (simp; omega)) (by first | exact zd (by omega) | rfl) rfl rfl rfl rfl ?_ | refine za rfl rfl rfl ?_ | refine ziD rfl rfl rfl rfl ?_ | refine zZ rfl rfl rfl rfl rfl rfl (by first | omega | (simp; omega)) (by first | exact zd (by omega) | rfl) rfl rfl rfl ?_ | refine zu rfl rfl (by omega) rfl rfl ?_))
  rw [hj1, hy, hor]
  refine ⟨k + 1, by omega, by omega, ?_⟩
  rw [hjs, List.map_set]
  exact (FLe.conv [⟨5000, some 5000, v, ⟨v, .own, 116, 1, (J.map za6).set k (za6 (x ||| y))⟩⟩] (by simp) (by simp) rfl (by repeat (first | exact .nil | refine .low rfl ?_ | refine .same rfl ?_ | refine .bump (Nat.lt_succ_self _) ?_)) (by repeat (first | exact .nil | refine .old rfl (by decide) rfl ?_)) (by repeat (first | exact .nil | refine .cons (.plain rfl rfl rfl) ?_ | refine .cons (.own rfl (.head _) rfl rfl) ?_)))
 ·obtain rfl : k = m := by simp at h; omega
  (repeat (first | refine FW.exit ?_))
  refine ⟨⟨[], [(5000, ⟨v, .own, 116, 1, (Zr A B k).map za6⟩)]⟩, ?_, .inr rfl, _, .plain .nil rfl rfl, rfl, rfl⟩
  exact (FLe.conv [⟨5000, some 5000, v, ⟨v, .own, 116, 1, (Zr A B k).map za6⟩⟩] (by simp) (by simp) rfl (by repeat (first | exact .nil | refine .low rfl ?_ | refine .same rfl ?_ | refine .bump (Nat.lt_succ_self _) ?_)) (by repeat (first | exact .nil | refine .old rfl (by decide) rfl ?_)) (by repeat (first | exact .nil)))
end Go.Proofs.Ytbeebjdnapkhhaa
