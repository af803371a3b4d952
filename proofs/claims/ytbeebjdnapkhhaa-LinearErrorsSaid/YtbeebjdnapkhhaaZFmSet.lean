/-
  poset's sets, at plain values.
-/
import Derived.Test.YtbeebjdnapkhhaaZSetPlain
import Derived.Test.YtbeebjdnapkhhaaZD
namespace Go.Proofs.Ytbeebjdnapkhhaa
set_option linter.unusedVariables false
open Go.RowKit

def swrow (v : Nat) (W : List Nat) : FObj := ⟨v, .own, 116, 1, W.map u64f⟩
set_option maxHeartbeats 4000000 in
theorem setHas_spec (n b : Nat) (p : Nat → Bool) (hb : b < n) (hn : n ≤ 1000000) : Spec Try.prog 66 [.list 1 ((words n p).map u64f), .int .i64 b] .fr (.bool (p b)) := by
 have hwl := words_len n p
 have hbn := nWords_at hb
 have hw := words_nth p hbn
 have hlt := wordAt_lt p (b / 64)
 have hbit := wordAt_bit p (b / 64) (Nat.mod_lt b (show 0 < 64 by omega))
 rw [Nat.div_add_mod b 64] at hbit
 have hh := hasBit hlt (Nat.mod_lt b (show 0 < 64 by omega))
 rw [hbit] at hh
 obtain ⟨q, hq⟩ : ∃ q, (b : Int) / 64 = q := ⟨_, rfl⟩
 have hq' : q = ((b / 64 : Nat) : Int) := by omega
 obtain ⟨r, hr⟩ : ∃ r, (b : Int) % 64 = r := ⟨_, rfl⟩
 have hr' : r = ((b % 64 : Nat) : Int) := by omega
 generalize words n p = W at hwl hw
 generalize wordAt p (b / 64) = w at hw hlt hh
 generalize b / 64 = i at hbn hw hq'
 refine Spec.of_body (c := (cxOf Try.prog tyAt_ok mixed_ok 15)) ⟨Try.func66, rfl, Try.ntmps66, by kernel_rfl⟩ (by simp [FV.hand]) (by exact Nat.le_of_ble_eq_true rfl) rfl ?_
 change FW _ _ _ ⟨[(0, .list 1 (W.map u64f)), (1, .int .i64 b)], []⟩
 (repeat (first | refine FW.seq ?_ | refine FW.region ?_))
 refine rn_assign rfl rfl rfl ?_
 (repeat (first | refine FW.seq ?_ | refine FW.region ?_ | refine RunN.nil ?_))
 refine rn_move rfl rfl rfl ?_; refine rn_move rfl rfl rfl ?_; refine rn_quo rfl rfl (by omega) rfl rfl ?_
 rw [hq, hq']
 refine rn_indexL rfl rfl rfl rfl rfl rfl (by simp; omega) rfl rfl ?_; refine rn_loadE rfl rfl rfl (by simp; omega) (by first | exact getD_map (by omega) | rfl) rfl rfl rfl rfl ?_; refine rn_move rfl rfl rfl ?_; refine rn_rem rfl rfl (by omega) rfl rfl ?_
 rw [hr, hr', hw]
 refine rn_shr rfl rfl (by omega) rfl rfl ?_
 rw [Int.toNat_natCast]
 refine rn_bitand rfl rfl rfl rfl ?_
 rw [hh]
 (repeat (first | refine RunN.nil ?_ | refine rn_assign rfl rfl rfl ?_ | refine rn_eql rfl rfl rfl rfl ?_))
 refine FW.ret ⟨.inl rfl, ret_flat rfl rfl ?_ rfl⟩
 refine congrArg FV.bool ?_
 cases p b <;> rfl
set_option maxHeartbeats 4000000 in
theorem setAdd_specL (n b v : Nat) (p : Nat → Bool) (hb : b < n) (hn : n ≤ 1000000) : SpecL Try.prog 47 [.own 5000 v 0 (nWords n), .int .i64 b] [(5000, swrow v (words n p))] [] (fun res o => res = .tup [] ∧ o 5000 = swrow v (words n fun x => p x || decide (x = b))) := by
 have hwl := words_len n p
 have hbn := nWords_at hb
 have hw := words_nth p hbn
 have hlt := wordAt_lt p (b / 64)
 have hadd := words_add p hb
 have hor := orU hlt (show 2 ^ (b % 64) < 18446744073709551616 from Nat.pow_lt_pow_right (by omega) (Nat.mod_lt b (show 0 < 64 by omega)))
 have hsh := shlU (Nat.mod_lt b (show 0 < 64 by omega))
 obtain ⟨q, hq⟩ : ∃ q, (b : Int) / 64 = q := ⟨_, rfl⟩
 have hq' : q = ((b / 64 : Nat) : Int) := by omega
 obtain ⟨r, hr⟩ : ∃ r, (b : Int) % 64 = r := ⟨_, rfl⟩
 have hr' : r = ((b % 64 : Nat) : Int) := by omega
 rw [hw] at hadd
 rw [← hadd, ← hwl]
 rw [← hwl] at hbn
 generalize words n p = W at hbn hw
 generalize wordAt p (b / 64) = w at hw hlt hor
 generalize b / 64 = i at hbn hw hq'
 generalize 2 ^ (b % 64) = z at hor hsh
 refine SpecL.of_body (c := (cxOf Try.prog tyAt_ok mixed_ok 14)) ⟨Try.func47, rfl, Try.ntmps47, by kernel_rfl⟩ (by exact Nat.le_of_ble_eq_true rfl) ?_ ?_
 ·rintro res o ⟨rfl, h1⟩; exact lendPost1 (v := v) rfl (by rw [h1] <;> rfl) (by rw [h1] <;> rfl) rfl
 change FW _ _ _ ⟨[(0, .own 5000 v 0 W.length), (1, .int .i64 b)], [(5000, swrow v W)]⟩
 unfold swrow
 skip
 refine FW.draw ?_
 refine rd_move rfl rfl rfl ?_; refine rd_move rfl rfl rfl ?_; refine rd_quo rfl rfl (by omega) rfl rfl ?_
 rw [hq, hq']
 refine rd_indexO rfl rfl rfl rfl rfl rfl (by decide) rfl (by first | omega | (simp; omega)) rfl rfl ?_; refine rd_loadP rfl rfl rfl rfl rfl (by first | omega | (simp; omega)) (by first | exact getD_map (by omega) | rfl) rfl rfl rfl rfl ?_; refine rd_move rfl rfl rfl ?_; refine rd_rem rfl rfl (by omega) rfl rfl ?_
 rw [hr, hr']
 refine rd_shl rfl rfl (by omega) rfl rfl ?_
 rw [Int.toNat_natCast, hsh, hw]
 refine rd_bitor rfl rfl rfl rfl ?_
 rw [hor]
 refine rd_indexO rfl rfl rfl rfl rfl rfl (by decide) rfl (by first | omega | (simp; omega)) rfl rfl ?_; refine rd_storeR rfl rfl rfl rfl rfl rfl (by first | omega | (simp; omega)) (by first | exact getD_map (by omega) | rfl) rfl rfl rfl ?_
 refine RunD.nil ⟨by kernel_rfl, ?_⟩
 skip
 exact ⟨.inr rfl, _, .plain .nil rfl rfl, rfl, by rw [List.map_set]; rfl⟩
set_option maxHeartbeats 4000000 in
theorem setJoinS_specL (v m : Nat) (A B : List Nat) (hA : A.length = m) (hB : B.length = m) (hm : m ≤ 1000000) (hA2 : ∀ w ∈ A, w < 18446744073709551616) (hB2 : ∀ w ∈ B, w < 18446744073709551616) : SpecL Try.prog 48 [.own 5000 v 0 m, .list 1 (B.map u64f)] [(5000, swrow v A)] [] (fun res o => res = .tup [] ∧ o 5000 = swrow v (joinTo A B m)) := by
 refine SpecL.of_body (c := (cxOf Try.prog tyAt_ok mixed_ok 21)) ⟨Try.func48, rfl, Try.ntmps48, by kernel_rfl⟩ (by exact Nat.le_of_ble_eq_true rfl) ?_ ?_
 ·rintro res o ⟨rfl, h1⟩; exact lendPost1 (v := v) rfl (by rw [h1] <;> rfl) (by rw [h1] <;> rfl) rfl
 change FW _ _ _ ⟨[(0, .own 5000 v 0 m), (1, .list 1 (B.map u64f))], [(5000, swrow v A)]⟩
 unfold swrow
 refine FW.post ?_
 (repeat (first | refine FW.seq ?_ | refine FW.region ?_ | refine FW.block ?_ | refine RunN.nil ?_ | refine rn_move rfl rfl rfl ?_ | refine rn_lenList rfl rfl (by exact List.length_map _) rfl rfl ?_))
 refine FW.loop (fun k : Nat => ⟨[(0, .own 5000 v 0 m), (6, .list 1 (B.map u64f)), (7, .int .i64 m), (8, .int .i64 k)], [(5000, ⟨v, .own, 116, 1, (joinTo A B k).map u64f⟩)]⟩) (fun k => k ≤ m) (fun k => m - k) 0 (Nat.zero_le _) ?_ ?_
 ·rw [joinTo_zero]
  exact (FLe.conv [⟨5000, some 5000, v, ⟨v, .own, 116, 1, A.map u64f⟩⟩] (by simp) (by simp) rfl (by repeat (first | exact .nil | refine .low rfl ?_ | refine .same rfl ?_ | refine .bump (Nat.lt_succ_self _) ?_)) (by repeat (first | exact .nil | refine .old rfl (by decide) (by first | rfl | (refine congrArg (FV.int .i64) ?_; omega)) ?_)) (by repeat (first | exact .nil | refine .cons (.plain rfl rfl (by first | rfl | (refine congrArg (FV.int .i64) ?_; omega))) ?_ | refine .cons (.own rfl (.head _) rfl (by first | rfl | (refine congrArg (FV.int .i64) ?_; omega))) ?_)))
 intro k hk
 (repeat (first | refine FW.seq ?_ | refine FW.region ?_ | refine RunN.nil ?_ | refine rn_lss rfl rfl rfl rfl ?_))
 refine FW.cond rfl (fun h => ?_) (fun h => ?_)
 ·have hlt : k < m := by simpa using h
  clear h
  have hjs := joinTo_succ (A := A) (B := B) (show k < A.length by omega)
  have hjl := joinTo_len A B k
  have hkA : k < A.length := by omega
  have hkB : k < B.length := by omega
  have hj1 : nth (joinTo A B k) k = nth A k := by rw [joinTo_nth hkA, if_neg (Nat.lt_irrefl k)]
  have hor := orU (hA2 _ (nth_mem hkA)) (hB2 _ (nth_mem hkB))
  rw [hj1] at hjs
  generalize joinTo A B k = J at hjs hjl hj1
  obtain ⟨x, hx⟩ : ∃ x, nth A k = x := ⟨_, rfl⟩
  obtain ⟨y, hy⟩ : ∃ y, nth B k = y := ⟨_, rfl⟩
  rw [hx] at hj1 hor hjs
  rw [hy] at hor hjs
  (repeat (first | refine FW.seq ?_ | refine FW.region ?_ | refine FW.block ?_ | refine FW.skip ?_ | refine RunN.nil ?_ | refine rn_move rfl rfl rfl ?_ | refine rn_indexL rfl rfl rfl rfl rfl rfl (by first | omega | (simp; omega)) rfl rfl ?_ | refine rn_indexO rfl rfl rfl rfl rfl rfl (by decide) rfl (by first | omega | (simp; omega)) rfl rfl ?_ | refine rn_loadE rfl rfl rfl (by first | omega | (simp; omega)) (by first | exact getD_map (by omega) | rfl) rfl rfl rfl rfl ?_ | refine rn_loadP rfl rfl rfl rfl rfl (by first | omega | (simp; omega)) (by first | exact getD_map (by omega) | rfl) rfl rfl rfl rfl ?_ | refine rn_assign rfl rfl rfl ?_ | refine rn_bitor rfl rfl rfl rfl ?_ | refine rn_storeR rfl rfl rfl rfl rfl rfl (by first | omega | (simp; omega)) (by first | exact getD_map (by omega) | rfl) rfl rfl rfl ?_ | refine rn_add rfl rfl (by omega) rfl rfl ?_))
  rw [hj1, hy, hor]
  refine ⟨k + 1, by omega, by omega, ?_⟩
  rw [hjs, List.map_set]
  exact (FLe.conv [⟨5000, some 5000, v, ⟨v, .own, 116, 1, (J.map u64f).set k (u64f (x ||| y))⟩⟩] (by simp) (by simp) rfl (by repeat (first | exact .nil | refine .low rfl ?_ | refine .same rfl ?_ | refine .bump (Nat.lt_succ_self _) ?_)) (by repeat (first | exact .nil | refine .old rfl (by decide) rfl ?_)) (by repeat (first | exact .nil | refine .cons (.plain rfl rfl rfl) ?_ | refine .cons (.own rfl (.head _) rfl rfl) ?_)))
 ·obtain rfl : k = m := by simp at h; omega
  (repeat (first | refine FW.exit ?_))
  refine ⟨⟨[], [(5000, ⟨v, .own, 116, 1, (joinTo A B k).map u64f⟩)]⟩, ?_, .inr rfl, _, .plain .nil rfl rfl, rfl, rfl⟩
  exact (FLe.conv [⟨5000, some 5000, v, ⟨v, .own, 116, 1, (joinTo A B k).map u64f⟩⟩] (by simp) (by simp) rfl (by repeat (first | exact .nil | refine .low rfl ?_ | refine .same rfl ?_ | refine .bump (Nat.lt_succ_self _) ?_)) (by repeat (first | exact .nil | refine .old rfl (by decide) rfl ?_)) (by repeat (first | exact .nil)))
end Go.Proofs.Ytbeebjdnapkhhaa
