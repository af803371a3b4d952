/-
  poset.Order's has, Less, below, Linear, at plain values.
-/
import Derived.Test.YtbeebjdnapkhhaaZLinExt
import Derived.Test.YtbeebjdnapkhhaaZFmSet
namespace Go.Proofs.Ytbeebjdnapkhhaa
set_option linter.unusedVariables false
open Go.RowKit

def setRow (n : Nat) (R : Nat → Nat → Bool) (a : Nat) : List FV := [.list 1 ((words n (R a)).map u64f)]
def ordV (n : Nat) (R : Nat → Nat → Bool) : List FV := [.int .i64 n, .list 1 ((List.range n).map (setRow n R))]
def ordP (n : Nat) (R : Nat → Nat → Bool) : FV := .eptr 2 [ordV n R] 0 0
set_option maxHeartbeats 4000000 in
theorem oHas_spec (n : Nat) (R : Nat → Nat → Bool) (a : Int) (hn : n ≤ 1000000) : Spec Try.prog 49 [ordP n R, .int .i64 a] .fr (.bool (decide (0 ≤ a ∧ a < n))) := by
 obtain ⟨q, hq⟩ : ∃ q, decide (0 ≤ a ∧ a < (n : Int)) = q := ⟨_, rfl⟩
 rw [hq]
 unfold ordP ordV
 refine Spec.of_body (c := (cxOf Try.prog tyAt_ok mixed_ok 15)) ⟨Try.func49, rfl, Try.ntmps49, by kernel_rfl⟩ (by simp [FV.hand]) (by exact Nat.le_of_ble_eq_true rfl) rfl ?_
 change FW _ _ _ ⟨[(0, .eptr 2 [[.int .i64 n, .list 1 ((List.range n).map (setRow n R))]] 0 0), (1, .int .i64 a)], []⟩
 (repeat (first | refine FW.seq ?_ | refine FW.region ?_ | refine RunN.nil ?_ | refine rn_assign rfl rfl rfl ?_ | refine rn_move rfl rfl rfl ?_ | refine rn_geq rfl rfl rfl rfl ?_))
 refine rn_case (fun h => ?_) (fun h => ?_)
 ·(repeat (first | refine RunN.nil ?_ | refine rn_assign rfl rfl rfl ?_ | refine rn_pickT rfl rfl rfl rfl ?_ | refine rn_move rfl rfl ⟨_, _, rfl, rfl, rfl⟩ ?_ | refine rn_nilE rfl rfl ⟨_, _, rfl, rfl, rfl⟩ ?_ | refine rn_fieldE rfl rfl rfl rfl rfl rfl ⟨_, _, rfl, rfl, rfl⟩ ?_ | refine rn_loadE rfl rfl rfl (by simp; done) rfl rfl rfl rfl ⟨_, _, rfl, rfl, rfl⟩ ?_ | refine rn_lss rfl rfl rfl ⟨_, _, rfl, rfl, rfl⟩ ?_))
  refine FW.ret ⟨.inl rfl, ret_flat rfl rfl ?_ rfl⟩
  rw [← hq]
  have h : 0 ≤ a := by simpa using h
  exact congrArg FV.bool (decide_eq_decide.2 ⟨fun h2 => ⟨h, h2⟩, fun h2 => h2.2⟩)
 ·(repeat (first | refine RunN.nil ?_ | refine rn_assign rfl rfl rfl ?_ | refine rn_pickF rfl rfl rfl rfl ?_ | refine rn_skip rfl rfl ⟨_, _, rfl, rfl, rfl⟩ ?_))
  refine FW.ret ⟨.inl rfl, ret_flat rfl rfl ?_ rfl⟩
  rw [← hq]
  have h : ¬ 0 ≤ a := by simpa using h
  exact congrArg FV.bool (decide_eq_false fun h2 => h h2.1).symm
set_option maxHeartbeats 4000000 in
theorem oLess_spec (n : Nat) (R : Nat → Nat → Bool) (a b : Nat) (hn : n ≤ 1000000) (ha : a < n) (hb : b < n) : Spec Try.prog 50 [ordP n R, .int .i64 a, .int .i64 b] .fr (.bool (R a b)) := by
 have hA := oHas_spec n R a hn
 have hB := oHas_spec n R b hn
 rw [decide_eq_true (show 0 ≤ (a : Int) ∧ (a : Int) < n by omega)] at hA
 rw [decide_eq_true (show 0 ≤ (b : Int) ∧ (b : Int) < n by omega)] at hB
 have hS := setHas_spec n b (R a) hb hn
 have hg : ((List.range n).map (setRow n R)).getD a [] = setRow n R a := by simp [ha]
 have hgl : ((List.range n).map (setRow n R)).length = n := by simp
 unfold ordP ordV at hA hB ⊢
 refine Spec.of_body (c := (cxOf Try.prog tyAt_ok mixed_ok 26)) ⟨Try.func50, rfl, Try.ntmps50, by kernel_rfl⟩ (by simp [FV.hand]) (by exact Nat.le_of_ble_eq_true rfl) rfl ?_
 generalize (List.range n).map (setRow n R) = S at hA hB hg hgl
 change FW _ _ _ ⟨[(0, .eptr 2 [[.int .i64 n, .list 1 S]] 0 0), (1, .int .i64 a), (2, .int .i64 b)], []⟩
 (repeat (first | refine FW.seq ?_ | refine FW.region ?_ | refine RunN.nil ?_ | refine rn_assign rfl rfl rfl ?_ | refine rn_move rfl rfl rfl ?_))
 refine rn_call hA (by repeat (first | exact ArgsR.nil | refine ArgsR.cons (by exact ArgR.plain rfl rfl) ?_)) rfl rfl ?_
 (repeat (first | refine rn_move rfl rfl rfl ?_ | refine rn_move rfl rfl ⟨_, _, rfl, rfl, rfl⟩ ?_))
 refine rn_call hB (by repeat (first | exact ArgsR.nil | refine ArgsR.cons (by exact ArgR.plain rfl rfl) ?_)) rfl ⟨_, _, rfl, rfl, rfl⟩ ?_
 (repeat (first | refine rn_move rfl rfl rfl ?_ | refine rn_pickT rfl rfl rfl rfl ?_ | refine rn_move rfl rfl ⟨_, _, rfl, rfl, rfl⟩ ?_ | refine rn_nilE rfl rfl ⟨_, _, rfl, rfl, rfl⟩ ?_ | refine rn_fieldE rfl rfl rfl rfl rfl rfl ⟨_, _, rfl, rfl, rfl⟩ ?_))
 refine rn_loadE rfl rfl rfl (by exact Nat.zero_lt_one) rfl rfl rfl rfl ⟨_, _, rfl, rfl, rfl⟩ ?_
 (repeat (first | refine rn_move rfl rfl ⟨_, _, rfl, rfl, rfl⟩ ?_ | refine rn_indexL rfl rfl rfl rfl rfl rfl (by omega) rfl ⟨_, _, rfl, rfl, rfl⟩ ?_))
 refine rn_loadE rfl rfl rfl (by omega) hg rfl rfl rfl ⟨_, _, rfl, rfl, rfl⟩ ?_
 (repeat (first | refine rn_move rfl rfl ⟨_, _, rfl, rfl, rfl⟩ ?_))
 refine rn_call hS (by repeat (first | exact ArgsR.nil | refine ArgsR.cons (by exact ArgR.plain rfl rfl) ?_)) rfl ⟨_, _, rfl, rfl, rfl⟩ ?_
 (repeat (first | refine RunN.nil ?_ | refine rn_assign rfl rfl rfl ?_ | refine rn_pickT rfl rfl rfl rfl ?_))
 exact FW.ret ⟨.inl rfl, ret_flat rfl rfl rfl rfl⟩
def bel2 (R : Nat → Nat → Bool) (n a b : Nat) : List Int := (List.range n).map fun j => (((List.range a).countP fun x => R x j) + if j < b ∧ R a j = true then 1 else 0 : Nat)
theorem bel2_len (R : Nat → Nat → Bool) (n a b : Nat) : (bel2 R n a b).length = n := by simp [bel2]
theorem bel2_nth {R : Nat → Nat → Bool} {n a b j : Nat} (h : j < n) : nth (bel2 R n a b) j = (((List.range a).countP fun x => R x j) + if j < b ∧ R a j = true then 1 else 0 : Nat) := by
 unfold bel2
 rw [nth_eq (by simpa using h)]
 simp
theorem bel2_zero (R : Nat → Nat → Bool) (n : Nat) : bel2 R n 0 0 = List.replicate n 0 := by
 refine list_ext_nth (by simp [bel2_len]) fun i hi => ?_
 rw [bel2_len] at hi
 rw [bel2_nth hi, nth_eq (show i < (List.replicate n (0 : Int)).length by simpa using hi)]
 simp
theorem bel2_next (R : Nat → Nat → Bool) (n a : Nat) : bel2 R n (a + 1) 0 = bel2 R n a n := by
 refine list_ext_nth (by simp [bel2_len]) fun i hi => ?_
 rw [bel2_len] at hi
 rw [bel2_nth hi, bel2_nth hi, List.range_succ, List.countP_append]
 simp only [List.countP_cons, List.countP_nil, hi, true_and]
 simp
theorem bel2_yes {R : Nat → Nat → Bool} {n a b : Nat} (hb : b < n) (h : R a b = true) : bel2 R n a (b + 1) = (bel2 R n a b).set b (nth (bel2 R n a b) b + 1) := by
 refine list_ext_nth (by simp [bel2_len]) fun i hi => ?_
 rw [bel2_len] at hi
 rw [nth_setB (by rw [bel2_len]; exact hi), bel2_nth hi, bel2_nth hi, bel2_nth hb]
 by_cases e : b = i
 ·subst e
  rw [if_pos rfl, if_pos ⟨by omega, h⟩, if_neg (by omega)]
  omega
 ·rw [if_neg e]
  by_cases h2 : i < b ∧ R a i = true
  ·rw [if_pos h2, if_pos ⟨by omega, h2.2⟩]
  ·rw [if_neg h2, if_neg (fun h3 => h2 ⟨by omega, h3.2⟩)]
theorem bel2_no {R : Nat → Nat → Bool} {n a b : Nat} (h : R a b = false) : bel2 R n a (b + 1) = bel2 R n a b := by
 refine list_ext_nth (by simp [bel2_len]) fun i hi => ?_
 rw [bel2_len] at hi
 rw [bel2_nth hi, bel2_nth hi]
 by_cases h2 : i < b ∧ R a i = true
 ·rw [if_pos h2, if_pos ⟨by omega, h2.2⟩]
 ·rw [if_neg h2, if_neg (fun h3 => ?_)]
  by_cases e : i = b
  ·subst e; rw [h] at h3; exact absurd h3.2 (by decide)
  ·exact h2 ⟨by omega, h3.2⟩
theorem bel2_in {R : Nat → Nat → Bool} {n a b j : Nat} (h : j < n) (ha : a ≤ n) : 0 ≤ nth (bel2 R n a b) j ∧ nth (bel2 R n a b) j ≤ n + 1 := by
 rw [bel2_nth h]
 have : (List.range a).countP (fun x => R x j) ≤ a := Nat.le_trans List.countP_le_length (by simp)
 split <;> omega
set_option maxHeartbeats 4000000 in
theorem below_spec (n : Nat) (R : Nat → Nat → Bool) (hn : n ≤ 1000000) : Spec Try.prog 73 [ordP n R] (.ow 3 1) (.list 1 ((bel2 R n n 0).map intf)) := by
 have hls := fun a b => oLess_spec n R a b hn
 unfold ordP ordV at hls ⊢
 obtain ⟨S, hS⟩ : ∃ S, (List.range n).map (setRow n R) = S := ⟨_, rfl⟩
 rw [hS] at hls ⊢
 refine Spec.of_body (c := (cxOf Try.prog tyAt_ok mixed_ok 38)) ⟨Try.func73, rfl, Try.ntmps73, by kernel_rfl⟩ (by simp [FV.hand]) (by exact Nat.le_of_ble_eq_true rfl) rfl ?_
 change FW _ _ _ ⟨[(0, .eptr 2 [[.int .i64 n, .list 1 S]] 0 0)], []⟩
 (repeat (first | refine FW.seq ?_ | refine FW.region ?_ | refine FW.block ?_ | refine RunN.nil ?_ | refine rn_assign rfl rfl rfl ?_ | refine rn_move rfl rfl rfl ?_ | refine rn_nilE rfl rfl rfl ?_ | refine rn_fieldE rfl rfl rfl rfl rfl rfl rfl ?_ | refine rn_loadE rfl rfl rfl (by first | omega | (simp; done)) rfl rfl rfl rfl rfl ?_ | refine rn_make rfl rfl rfl rfl rfl rfl rfl rfl (by first | omega | (simp; done)) (by first | omega | (simp; done)) rfl rfl rfl ?_))
 refine FW.loop (fun a : Nat => ⟨[(0, .eptr 2 [[.int .i64 n, .list 1 S]] 0 0), (3, .own 100 0 0 n), (14, .int .i64 n), (15, .int .i64 a)], [(100, ⟨0, .own, 3, 1, (bel2 R n a 0).map intf⟩)]⟩) (fun a => a ≤ n) (fun a => n - a) 0 (Nat.zero_le _) ?_ ?_
 ·rw [bel2_zero, List.map_replicate]
  exact (FLe.conv [⟨100, some 10, 0 + 1, ⟨0, .own, 3, 1, List.replicate n (intf 0)⟩⟩] (by simp) (by simp) rfl (by repeat (first | exact .nil | refine .low rfl ?_ | refine .same rfl ?_ | refine .bump (Nat.lt_succ_self _) ?_)) (by repeat (first | exact .nil | refine .old rfl (by decide) rfl ?_)) (by repeat (first | exact .nil | refine .cons (.plain rfl rfl rfl) ?_ | refine .cons (.own rfl (.head _) rfl rfl) ?_)))
 intro a ha
 (repeat (first | refine FW.seq ?_ | refine FW.region ?_ | refine RunN.nil ?_ | refine rn_lss rfl rfl rfl rfl ?_))
 refine FW.cond rfl (fun h => ?_) (fun h => ?_)
 ·have hlt : a < n := by simpa using h
  clear h
  (repeat (first | refine FW.seq ?_ | refine FW.region ?_ | refine FW.block ?_ | refine FW.skip ?_ | refine RunN.nil ?_ | refine rn_assign rfl rfl rfl ?_ | refine rn_move rfl rfl rfl ?_ | refine rn_nilE rfl rfl rfl ?_ | refine rn_fieldE rfl rfl rfl rfl rfl rfl rfl ?_ | refine rn_loadE rfl rfl rfl (by simp; done) rfl rfl rfl rfl rfl ?_))
  refine FW.loop (fun b : Nat => ⟨[(0, .eptr 2 [[.int .i64 n, .list 1 S]] 0 0), (3, .own 100 0 0 n), (4, .int .i64 a), (14, .int .i64 n), (15, .int .i64 a), (21, .int .i64 n), (22, .int .i64 b)], [(100, ⟨0, .own, 3, 1, (bel2 R n a b).map intf⟩)]⟩) (fun b => b ≤ n) (fun b => n - b) 0 (Nat.zero_le _) ?_ ?_
  ·exact (FLe.conv [⟨100, some 100, 0, ⟨0, .own, 3, 1, (bel2 R n a 0).map intf⟩⟩] (by simp) (by simp) rfl (by repeat (first | exact .nil | refine .low rfl ?_ | refine .same rfl ?_ | refine .bump (Nat.lt_succ_self _) ?_)) (by repeat (first | exact .nil | refine .old rfl (by decide) rfl ?_)) (by repeat (first | exact .nil | refine .cons (.plain rfl rfl rfl) ?_ | refine .cons (.own rfl (.head _) rfl rfl) ?_)))
  intro b hb
  (repeat (first | refine FW.seq ?_ | refine FW.region ?_ | refine RunN.nil ?_ | refine rn_lss rfl rfl rfl rfl ?_))
  refine FW.cond rfl (fun h => ?_) (fun h => ?_)
  ·have hltb : b < n := by simpa using h
   clear h
   have hl := hls a b hlt hltb
   have hy := fun h => bel2_yes (R := R) (a := a) hltb h
   have hno := fun h => bel2_no (R := R) (n := n) (a := a) (b := b) h
   have hbl := bel2_len R n a b
   have hbi := bel2_in (R := R) (b := b) hltb ha
   generalize bel2 R n a b = Z at hy hno hbl hbi
   obtain ⟨z, hz⟩ : ∃ z, nth Z b = z := ⟨_, rfl⟩
   rw [hz] at hy hbi
   (repeat (first | refine FW.seq ?_ | refine FW.region ?_ | refine FW.block ?_ | refine FW.skip ?_ | refine RunN.nil ?_ | refine rn_assign rfl rfl rfl ?_ | refine rn_move rfl rfl rfl ?_))
   refine rn_call hl (by repeat (first | exact ArgsR.nil | refine ArgsR.cons (by exact ArgR.plain rfl rfl) ?_)) rfl rfl ?_
   (repeat (first | refine RunN.nil ?_))
   refine FW.cond rfl (fun h => ?_) (fun h => ?_)
   ·have hy := hy h
    (repeat (first | refine FW.region ?_ | refine RunN.nil ?_ | refine rn_move rfl rfl rfl ?_ | refine rn_loadP rfl rfl rfl rfl rfl (by first | omega | (simp; omega)) (by first | exact getD_map (by omega) | rfl) rfl rfl rfl rfl ?_ | refine rn_indexO rfl rfl rfl rfl rfl rfl (by decide) rfl (by first | omega | (simp; omega)) rfl rfl ?_ | refine rn_add rfl rfl (by omega) rfl rfl ?_ | refine rn_storeR rfl rfl rfl rfl rfl rfl (by first | omega | (simp; omega)) (by first | exact getD_map (by omega) | rfl) rfl rfl rfl ?_))
    rw [hz]
    skip
    refine ⟨b + 1, by omega, by omega, ?_⟩
    rw [hy, List.map_set]
    exact (FLe.conv [⟨100, some 100, 0, ⟨0, .own, 3, 1, (Z.map intf).set b (intf (z + 1))⟩⟩] (by simp) (by simp) rfl (by repeat (first | exact .nil | refine .low rfl ?_ | refine .same rfl ?_ | refine .bump (Nat.lt_succ_self _) ?_)) (by repeat (first | exact .nil | refine .old rfl (by decide) rfl ?_)) (by repeat (first | exact .nil | refine .cons (.plain rfl rfl rfl) ?_ | refine .cons (.own rfl (.head _) rfl rfl) ?_)))
   ·have hno := hno h
    (repeat (first | refine FW.region ?_ | refine FW.skip ?_ | refine RunN.nil ?_ | refine rn_move rfl rfl rfl ?_ | refine rn_add rfl rfl (by omega) rfl rfl ?_))
    refine ⟨b + 1, by omega, by omega, ?_⟩
    rw [hno]
    exact (FLe.conv [⟨100, some 100, 0, ⟨0, .own, 3, 1, Z.map intf⟩⟩] (by simp) (by simp) rfl (by repeat (first | exact .nil | refine .low rfl ?_ | refine .same rfl ?_ | refine .bump (Nat.lt_succ_self _) ?_)) (by repeat (first | exact .nil | refine .old rfl (by decide) rfl ?_)) (by repeat (first | exact .nil | refine .cons (.plain rfl rfl rfl) ?_ | refine .cons (.own rfl (.head _) rfl rfl) ?_)))
  ·obtain rfl : b = n := by simp at h; omega
   (repeat (first | refine FW.region ?_ | refine FW.exit ?_ | refine RunN.nil ?_ | refine rn_move rfl rfl rfl ?_ | refine rn_add rfl rfl (by omega) rfl rfl ?_))
   refine ⟨a + 1, by omega, by omega, ?_⟩
   rw [bel2_next]
   exact (FLe.conv [⟨100, some 100, 0, ⟨0, .own, 3, 1, (bel2 R b a b).map intf⟩⟩] (by simp) (by simp) rfl (by repeat (first | exact .nil | refine .low rfl ?_ | refine .same rfl ?_ | refine .bump (Nat.lt_succ_self _) ?_)) (by repeat (first | exact .nil | refine .old rfl (by decide) rfl ?_)) (by repeat (first | exact .nil | refine .cons (.plain rfl rfl rfl) ?_ | refine .cons (.own rfl (.head _) rfl rfl) ?_)))
 ·obtain rfl : a = n := by simp at h; omega
  have hbl := bel2_len R a a 0
  (repeat (first | refine FW.seq ?_ | refine FW.region ?_ | refine FW.exit ?_ | refine RunN.nil ?_ | refine rn_assign rfl rfl rfl ?_ | refine rn_move rfl rfl rfl ?_))
  exact FW.ret ⟨.inl rfl, ret_ow rfl rfl rfl (by rw [List.length_map, hbl]) (by decide) rfl (intT.flatsM _)⟩
end Go.Proofs.Ytbeebjdnapkhhaa
