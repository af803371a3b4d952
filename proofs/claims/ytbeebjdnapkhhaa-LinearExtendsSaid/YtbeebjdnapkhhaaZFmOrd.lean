/-
  poset.Order's has, Less, below, Linear, at plain values.
-/
import Derived.Test.YtbeebjdnapkhhaaZQ
import Derived.Test.YtbeebjdnapkhhaaZFmSet
namespace Go.Proofs.Ytbeebjdnapkhhaa
set_option linter.unusedVariables false
open Go.RowKit

def setRow (n : Nat) (R : Nat → Nat → Bool) (a : Nat) : List FV := [.list 1 ((xK n (R a)).map za6)]
def zir (n : Nat) (R : Nat → Nat → Bool) : List FV := [.int .i64 n, .list 1 ((List.range n).map (setRow n R))]
def zft (n : Nat) (R : Nat → Nat → Bool) : FV := .eptr 2 [zir n R] 0 0
set_option maxHeartbeats 4000000 in
theorem Uz (n : Nat) (R : Nat → Nat → Bool) (a : Int) (hn : n ≤ 1000000) : yg Try.prog 49 [zft n R, .int .i64 a] .fr (.bool (decide (0 ≤ a ∧ a < n))) := by
 obtain ⟨q, hq⟩ : ∃ q, decide (0 ≤ a ∧ a < (n : Int)) = q := ⟨_, rfl⟩
 rw [hq]
 unfold zft zir
 refine yg.of_body (c := (Zy Try.prog zG zA 15)) ⟨Try.func49, rfl, Try.ntmps49, by kernel_rfl⟩ (by simp [FV.hand]) (by exact Nat.le_of_ble_eq_true rfl) rfl ?_
 change FW _ _ _ ⟨[(0, .eptr 2 [[.int .i64 n, .list 1 ((List.range n).map (setRow n R))]] 0 0), (1, .int .i64 a)], []⟩
 (repeat (first | refine FW.seq ?_ | refine FW.region ?_ | refine zc.nil ?_ | refine za rfl rfl rfl ?_ | refine zb rfl rfl rfl ?_ | refine zaY rfl rfl rfl rfl ?_))
 refine xd (fun h => ?_) (fun h => ?_)
 ·(repeat (first | refine zc.nil ?_ | refine za rfl rfl rfl ?_ | refine zM rfl rfl rfl rfl ?_ | refine zb rfl rfl ⟨_, _, rfl, rfl, rfl⟩ ?_ | refine YT rfl rfl ⟨_, _, rfl, rfl, rfl⟩ ?_ | refine ym rfl rfl rfl rfl rfl rfl ⟨_, _, rfl, rfl, rfl⟩ ?_ | refine zB rfl rfl rfl (by simp; done) rfl rfl rfl rfl ⟨_, _, rfl, rfl, rfl⟩ ?_ | refine zH rfl rfl rfl ⟨_, _, rfl, rfl, rfl⟩ ?_))
  refine FW.ret ⟨.inl rfl, zO rfl rfl ?_ rfl⟩
  rw [← hq]
  have h : 0 ≤ a := by simpa using h
  exact congrArg FV.bool (decide_eq_decide.2 ⟨fun h2 => ⟨h, h2⟩, fun h2 => h2.2⟩)
 ·(repeat (first | refine zc.nil ?_ | refine za rfl rfl rfl ?_ | refine zP rfl rfl rfl rfl ?_ | refine yA rfl rfl ⟨_, _, rfl, rfl, rfl⟩ ?_))
  refine FW.ret ⟨.inl rfl, zO rfl rfl ?_ rfl⟩
  rw [← hq]
  have h : ¬ 0 ≤ a := by simpa using h
  exact congrArg FV.bool (decide_eq_false fun h2 => h h2.1).symm
set_option maxHeartbeats 4000000 in
theorem WJ (n : Nat) (R : Nat → Nat → Bool) (a b : Nat) (hn : n ≤ 1000000) (ha : a < n) (hb : b < n) : yg Try.prog 50 [zft n R, .int .i64 a, .int .i64 b] .fr (.bool (R a b)) := by
 have hA := Uz n R a hn
 have hB := Uz n R b hn
 rw [decide_eq_true (show 0 ≤ (a : Int) ∧ (a : Int) < n by omega)] at hA
 rw [decide_eq_true (show 0 ≤ (b : Int) ∧ (b : Int) < n by omega)] at hB
 have hS := zd2 n b (R a) hb hn
 have hg : ((List.range n).map (setRow n R)).getD a [] = setRow n R a := by simp [ha]
 have hgl : ((List.range n).map (setRow n R)).length = n := by simp
 unfold zft zir at hA hB ⊢
 refine yg.of_body (c := (Zy Try.prog zG zA 26)) ⟨Try.func50, rfl, Try.ntmps50, by kernel_rfl⟩ (by simp [FV.hand]) (by exact Nat.le_of_ble_eq_true rfl) rfl ?_
 generalize (List.range n).map (setRow n R) = S at hA hB hg hgl
 change FW _ _ _ ⟨[(0, .eptr 2 [[.int .i64 n, .list 1 S]] 0 0), (1, .int .i64 a), (2, .int .i64 b)], []⟩
 (repeat (first | refine FW.seq ?_ | refine FW.region ?_ | refine zc.nil ?_ | refine za rfl rfl rfl ?_ | refine zb rfl rfl rfl ?_))
 refine zJ hA (by repeat (first | exact zj.nil | refine zj.cons (by exact yu.plain rfl rfl) ?_)) rfl rfl ?_
 (repeat (first | refine zb rfl rfl rfl ?_ | refine zb rfl rfl ⟨_, _, rfl, rfl, rfl⟩ ?_))
 refine zJ hB (by repeat (first | exact zj.nil | refine zj.cons (by exact yu.plain rfl rfl) ?_)) rfl ⟨_, _, rfl, rfl, rfl⟩ ?_
 (repeat (first | refine zb rfl rfl rfl ?_ | refine zM rfl rfl rfl rfl ?_ | refine zb rfl rfl ⟨_, _, rfl, rfl, rfl⟩ ?_ | refine YT rfl rfl ⟨_, _, rfl, rfl, rfl⟩ ?_ | refine ym rfl rfl rfl rfl rfl rfl ⟨_, _, rfl, rfl, rfl⟩ ?_))
 refine zB rfl rfl rfl (by exact Nat.zero_lt_one) rfl rfl rfl rfl ⟨_, _, rfl, rfl, rfl⟩ ?_
 (repeat (first | refine zb rfl rfl ⟨_, _, rfl, rfl, rfl⟩ ?_ | refine zD rfl rfl rfl rfl rfl rfl (by omega) rfl ⟨_, _, rfl, rfl, rfl⟩ ?_))
 refine zB rfl rfl rfl (by omega) hg rfl rfl rfl ⟨_, _, rfl, rfl, rfl⟩ ?_
 (repeat (first | refine zb rfl rfl ⟨_, _, rfl, rfl, rfl⟩ ?_))
 refine zJ hS (by repeat (first | exact zj.nil | refine zj.cons (by exact yu.plain rfl rfl) ?_)) rfl ⟨_, _, rfl, rfl, rfl⟩ ?_
 (repeat (first | refine zc.nil ?_ | refine za rfl rfl rfl ?_ | refine zM rfl rfl rfl rfl ?_))
 exact FW.ret ⟨.inl rfl, zO rfl rfl rfl rfl⟩
def zah (R : Nat → Nat → Bool) (n a b : Nat) : List Int := (List.range n).map fun j => (((List.range a).countP fun x => R x j) + if j < b ∧ R a j = true then 1 else 0 : Nat)
theorem xp (R : Nat → Nat → Bool) (n a b : Nat) : (zah R n a b).length = n := by simp [zah]
theorem xQ {R : Nat → Nat → Bool} {n a b j : Nat} (h : j < n) : nth (zah R n a b) j = (((List.range a).countP fun x => R x j) + if j < b ∧ R a j = true then 1 else 0 : Nat) := by
 unfold zah
 rw [zi (by simpa using h)]
 simp
theorem zf8 (R : Nat → Nat → Bool) (n : Nat) : zah R n 0 0 = List.replicate n 0 := by
 refine zy (by simp [xp]) fun i hi => ?_
 rw [xp] at hi
 rw [xQ hi, zi (show i < (List.replicate n (0 : Int)).length by simpa using hi)]
 simp
theorem zf7 (R : Nat → Nat → Bool) (n a : Nat) : zah R n (a + 1) 0 = zah R n a n := by
 refine zy (by simp [xp]) fun i hi => ?_
 rw [xp] at hi
 rw [xQ hi, xQ hi, List.range_succ, List.countP_append]
 simp only [List.countP_cons, List.countP_nil, hi, true_and]
 simp
theorem zhS {R : Nat → Nat → Bool} {n a b : Nat} (hb : b < n) (h : R a b = true) : zah R n a (b + 1) = (zah R n a b).set b (nth (zah R n a b) b + 1) := by
 refine zy (by simp [xp]) fun i hi => ?_
 rw [xp] at hi
 rw [yX (by rw [xp]; exact hi), xQ hi, xQ hi, xQ hb]
 by_cases e : b = i
 ·subst e
  rw [if_pos rfl, if_pos ⟨by omega, h⟩, if_neg (by omega)]
  omega
 ·rw [if_neg e]
  by_cases h2 : i < b ∧ R a i = true
  ·rw [if_pos h2, if_pos ⟨by omega, h2.2⟩]
  ·rw [if_neg h2, if_neg (fun h3 => h2 ⟨by omega, h3.2⟩)]
theorem zjm {R : Nat → Nat → Bool} {n a b : Nat} (h : R a b = false) : zah R n a (b + 1) = zah R n a b := by
 refine zy (by simp [xp]) fun i hi => ?_
 rw [xp] at hi
 rw [xQ hi, xQ hi]
 by_cases h2 : i < b ∧ R a i = true
 ·rw [if_pos h2, if_pos ⟨by omega, h2.2⟩]
 ·rw [if_neg h2, if_neg (fun h3 => ?_)]
  by_cases e : i = b
  ·subst e; rw [h] at h3; exact absurd h3.2 (by decide)
  ·exact h2 ⟨by omega, h3.2⟩
theorem zjl {R : Nat → Nat → Bool} {n a b j : Nat} (h : j < n) (ha : a ≤ n) : 0 ≤ nth (zah R n a b) j ∧ nth (zah R n a b) j ≤ n + 1 := by
 rw [xQ h]
 have : (List.range a).countP (fun x => R x j) ≤ a := Nat.le_trans List.countP_le_length (by simp)
 split <;> omega
set_option maxHeartbeats 4000000 in
theorem zeS (n : Nat) (R : Nat → Nat → Bool) (hn : n ≤ 1000000) : yg Try.prog 73 [zft n R] (.ow 3 1) (.list 1 ((zah R n n 0).map zF)) := by
 have hls := fun a b => WJ n R a b hn
 unfold zft zir at hls ⊢
 obtain ⟨S, hS⟩ : ∃ S, (List.range n).map (setRow n R) = S := ⟨_, rfl⟩
 rw [hS] at hls ⊢
 refine yg.of_body (c := (Zy Try.prog zG zA 38)) ⟨Try.func73, rfl, Try.ntmps73, by kernel_rfl⟩ (by simp [FV.hand]) (by exact Nat.le_of_ble_eq_true rfl) rfl ?_
 change FW _ _ _ ⟨[(0, .eptr 2 [[.int .i64 n, .list 1 S]] 0 0)], []⟩
 (repeat (first | refine FW.seq ?_ | refine FW.region ?_ | refine FW.block ?_ | refine zc.nil ?_ | refine za rfl rfl rfl ?_ | refine zb rfl rfl rfl ?_ | refine YT rfl rfl rfl ?_ | refine ym rfl rfl rfl rfl rfl rfl rfl ?_ | refine zB rfl rfl rfl (by first | omega | (simp; done)) rfl rfl rfl rfl rfl ?_ | refine WP rfl rfl rfl rfl rfl rfl rfl rfl (by first | omega | (simp; done)) (by first | omega | (simp; done)) rfl rfl rfl ?_))
 refine FW.loop (fun a : Nat => ⟨[(0, .eptr 2 [[.int .i64 n, .list 1 S]] 0 0), (3, .own 100 0 0 n), (14, .int .i64 n), (15, .int .i64 a)], [(100, ⟨0, .own, 3, 1, (zah R n a 0).map zF⟩)]⟩) (fun a => a ≤ n) (fun a => n - a) 0 (Nat.zero_le _) ?_ ?_
 ·rw [zf8, List.map_replicate]
  exact (FLe.conv [⟨100, some 10, 0 + 1, ⟨0, .own, 3, 1, List.replicate n (zF 0)⟩⟩] (by simp) (by simp) rfl (by repeat (first | exact .nil | refine .low rfl ?_ | refine .same rfl ?_ | refine .bump (Nat.lt_succ_self _) ?_)) (by repeat (first | exact .nil | refine .old rfl (by decide) rfl ?_)) (by repeat (first | exact .nil | refine .cons (.plain rfl rfl rfl) ?_ | refine .cons (.own rfl (.head _) rfl rfl) ?_)))
 intro a ha
 (repeat (first | refine FW.seq ?_ | refine FW.region ?_ | refine zc.nil ?_ | refine zH rfl rfl rfl rfl ?_))
 refine FW.cond rfl (fun h => ?_) (fun h => ?_)
 ·have hlt : a < n := by simpa using h
  clear h
  (repeat (first | refine FW.seq ?_ | refine FW.region ?_ | refine FW.block ?_ | refine FW.skip ?_ | refine zc.nil ?_ | refine za rfl rfl rfl ?_ | refine zb rfl rfl rfl ?_ | refine YT rfl rfl rfl ?_ | refine ym rfl rfl rfl rfl rfl rfl rfl ?_ | refine zB rfl rfl rfl (by simp; done) rfl rfl rfl rfl rfl ?_))
  refine FW.loop (fun b : Nat => ⟨[(0, .eptr 2 [[.int .i64 n, .list 1 S]] 0 0), (3, .own 100 0 0 n), (4, .int .i64 a), (14, .int .i64 n), (15, .int .i64 a), (21, .int .i64 n), (22, .int .i64 b)], [(100, ⟨0, .own, 3, 1, (zah R n a b).map zF⟩)]⟩) (fun b => b ≤ n) (fun b => n - b) 0 (Nat.zero_le _) ?_ ?_
  ·exact (FLe.conv [⟨100, some 100, 0, ⟨0, .own, 3, 1, (zah R n a 0).map zF⟩⟩] (by simp) (by simp) rfl (by repeat (first | exact .nil | refine .low rfl ?_ | refine .same rfl ?_ | refine .bump (Nat.lt_succ_self _) ?_)) (by repeat (first | exact .nil | refine .old rfl (by decide) rfl ?_)) (by repeat (first | exact .nil | refine .cons (.plain rfl rfl rfl) ?_ | refine .cons (.own rfl (.head _) rfl rfl) ?_)))
  intro b hb
  (repeat (first | refine FW.seq ?_ | refine FW.region ?_ | refine zc.nil ?_ | refine zH rfl rfl rfl rfl ?_))
  refine FW.cond rfl (fun h => ?_) (fun h => ?_)
  ·have hltb : b < n := by simpa using h
   clear h
   have hl := hls a b hlt hltb
   have hy := fun h => zhS (R := R) (a := a) hltb h
   have hno := fun h => zjm (R := R) (n := n) (a := a) (b := b) h
   have hbl := xp R n a b
   have hbi := zjl (R := R) (b := b) hltb ha
   generalize zah R n a b = Z at hy hno hbl hbi
   obtain ⟨z, hz⟩ : ∃ z, nth Z b = z := ⟨_, rfl⟩
   rw [hz] at hy hbi
   (repeat (first | refine FW.seq ?_ | refine FW.region ?_ | refine FW.block ?_ | refine FW.skip ?_ | refine zc.nil ?_ | refine za rfl rfl rfl ?_ | refine zb rfl rfl rfl ?_))
   refine zJ hl (by repeat (first | exact zj.nil | refine zj.cons (by exact yu.plain rfl rfl) ?_)) rfl rfl ?_
   (repeat (first | refine zc.nil ?_))
   refine FW.cond rfl (fun h => ?_) (fun h => ?_)
   ·have hy := hy h
    (repeat (first | refine FW.region ?_ | refine zc.nil ?_ | refine zb rfl rfl rfl ?_ | refine zq rfl rfl rfl rfl rfl (by first | omega | (simp; omega)) (by first | exact zd (by omega) | rfl) rfl rfl rfl rfl ?_ | refine zx rfl rfl rfl rfl rfl rfl (by decide) rfl (by first | omega | (simp; omega)) rfl rfl ?_ | refine zu rfl rfl (by omega) rfl rfl ?_ | refine zZ rfl rfl rfl rfl rfl rfl (by first | omega | (simp; omega)) (by first | exact zd (by omega) | rfl) rfl rfl rfl ?_))
    rw [hz]
    skip
    refine ⟨b + 1, by omega, by omega, ?_⟩
    rw [hy, List.map_set]
    exact (FLe.conv [⟨100, some 100, 0, ⟨0, .own, 3, 1, (Z.map zF).set b (zF (z + 1))⟩⟩] (by simp) (by simp) rfl (by repeat (first | exact .nil | refine .low rfl ?_ | refine .same rfl ?_ | refine .bump (Nat.lt_succ_self _) ?_)) (by repeat (first | exact .nil | refine .old rfl (by decide) rfl ?_)) (by repeat (first | exact .nil | refine .cons (.plain rfl rfl rfl) ?_ | refine .cons (.own rfl (.head _) rfl rfl) ?_)))
   ·have hno := hno h
    (repeat (first | refine FW.region ?_ | refine FW.skip ?_ | refine zc.nil ?_ | refine zb rfl rfl rfl ?_ | refine zu rfl rfl (by omega) rfl rfl ?_))
    refine ⟨b + 1, by omega, by omega, ?_⟩
    rw [hno]
    exact (FLe.conv [⟨100, some 100, 0, ⟨0, .own, 3, 1, Z.map zF⟩⟩] (by simp) (by simp) rfl (by repeat (first | exact .nil | refine .low rfl ?_ | refine .same rfl ?_ | refine .bump (Nat.lt_succ_self _) ?_)) (by repeat (first | exact .nil | refine .old rfl (by decide) rfl ?_)) (by repeat (first | exact .nil | refine .cons (.plain rfl rfl rfl) ?_ | refine .cons (.own rfl (.head _) rfl rfl) ?_)))
  ·obtain rfl : b = n := by simp at h; omega
   (repeat (first | refine FW.region ?_ | refine FW.exit ?_ | refine zc.nil ?_ | refine zb rfl rfl rfl ?_ | refine zu rfl rfl (by omega) rfl rfl ?_))
   refine ⟨a + 1, by omega, by omega, ?_⟩
   rw [zf7]
   exact (FLe.conv [⟨100, some 100, 0, ⟨0, .own, 3, 1, (zah R b a b).map zF⟩⟩] (by simp) (by simp) rfl (by repeat (first | exact .nil | refine .low rfl ?_ | refine .same rfl ?_ | refine .bump (Nat.lt_succ_self _) ?_)) (by repeat (first | exact .nil | refine .old rfl (by decide) rfl ?_)) (by repeat (first | exact .nil | refine .cons (.plain rfl rfl rfl) ?_ | refine .cons (.own rfl (.head _) rfl rfl) ?_)))
 ·obtain rfl : a = n := by simp at h; omega
  have hbl := xp R a a 0
  (repeat (first | refine FW.seq ?_ | refine FW.region ?_ | refine FW.exit ?_ | refine zc.nil ?_ | refine za rfl rfl rfl ?_ | refine zb rfl rfl rfl ?_))
  exact FW.ret ⟨.inl rfl, Zb rfl rfl rfl (by rw [List.length_map, hbl]) (by decide) rfl (zfi.flatsM _)⟩
end Go.Proofs.Ytbeebjdnapkhhaa
