/-
  poset.Order's Linear, at plain values.
-/
import Derived.Test.YtbeebjdnapkhhaaZFmOrd
namespace Go.Proofs.Ytbeebjdnapkhhaa
set_option linter.unusedVariables false
open Go.RowKit

def zdz (R : Nat → Nat → Bool) (n : Nat) (out : List Nat) : List Int := (List.range n).map fun b => (zal R n out b : Int)
def zbE (n : Nat) (out : List Nat) : List Bool := (List.range n).map fun a => decide (a ∈ out)
def Xk (R : Nat → Nat → Bool) (n : Nat) (out : List Nat) (a b : Nat) : List Int := (List.range n).map fun j => if j < b then (zal R n (out ++ [a]) j : Int) else (zal R n out j : Int)
section
variable {R : Nat → Nat → Bool} {n : Nat}
theorem Xi (out : List Nat) : (zdz R n out).length = n := by simp [zdz]
theorem YZ (out : List Nat) : (zbE n out).length = n := by simp [zbE]
theorem yY (out : List Nat) (a b : Nat) : (Xk R n out a b).length = n := by simp [Xk]
theorem Vo {out : List Nat} {j : Nat} (h : j < n) : nth (zdz R n out) j = zal R n out j := by unfold zdz; rw [zi (by simpa using h)]; simp
theorem Ve {out : List Nat} {j : Nat} (h : j < n) : nth (zbE n out) j = decide (j ∈ out) := by unfold zbE; rw [zi (by simpa using h)]; simp
theorem xT {out : List Nat} {a b j : Nat} (h : j < n) : nth (Xk R n out a b) j = if j < b then (zal R n (out ++ [a]) j : Int) else (zal R n out j : Int) := by unfold Xk; rw [zi (by simpa using h)]; simp
theorem ziq : zdz R n [] = UO R n n 0 := by
 refine zq (by rw [Xi, xj]) fun i hi => ?_
 rw [Xi] at hi
 rw [Vo hi, xO hi]
 unfold zal
 simp
theorem zhw : zbE n [] = List.replicate n false := by
 refine zq (by simp [YZ]) fun i hi => ?_
 rw [YZ] at hi
 rw [Ve hi, zi (show i < (List.replicate n false).length by simpa using hi)]
 simp
theorem zhv {out : List Nat} {a : Nat} (ha : a < n) : zbE n (out ++ [a]) = (zbE n out).set a true := by
 refine zq (by simp [YZ]) fun i hi => ?_
 rw [YZ] at hi
 rw [Ve hi, yO (by rw [YZ]; exact hi), Ve hi]
 by_cases e : a = i
 ·subst e; simp
 ·rw [if_neg e]
  have : ¬ i = a := fun e2 => e e2.symm
  simp [this]
theorem zew (out : List Nat) (a : Nat) : Xk R n out a 0 = zdz R n out := by
 refine zq (by rw [yY, Xi]) fun i hi => ?_
 rw [yY] at hi
 rw [xT hi, Vo hi, if_neg (by omega)]
theorem zfF (out : List Nat) (a : Nat) : Xk R n out a n = zdz R n (out ++ [a]) := by
 refine zq (by rw [yY, Xi]) fun i hi => ?_
 rw [yY] at hi
 rw [xT hi, Vo hi, if_pos hi]
theorem zfG {out : List Nat} {a b : Nat} (ha : a < n) (hno : a ∉ out) (hb : b < n) (h : R a b = true) : Xk R n out a (b + 1) = (Xk R n out a b).set b (nth (Xk R n out a b) b - 1) := by
 refine zq (by simp [yY]) fun i hi => ?_
 rw [yY] at hi
 rw [yO (by rw [yY]; exact hi), xT hi, xT hi, xT hb]
 by_cases e : b = i
 ·subst e
  rw [if_pos (by omega), if_pos rfl, if_neg (by omega)]
  have := zdM (R := R) (b := b) ha hno
  rw [if_pos h] at this
  omega
 ·rw [if_neg e]
  by_cases h2 : i < b
  ·rw [if_pos h2, if_pos (by omega)]
  ·rw [if_neg h2, if_neg (by omega)]
theorem zhu {out : List Nat} {a b : Nat} (ha : a < n) (hno : a ∉ out) (h : R a b = false) : Xk R n out a (b + 1) = Xk R n out a b := by
 refine zq (by simp [yY]) fun i hi => ?_
 rw [yY] at hi
 rw [xT hi, xT hi]
 by_cases e : b = i
 ·subst e
  rw [if_pos (by omega), if_neg (by omega)]
  have := zdM (R := R) (b := b) ha hno
  rw [if_neg (by rw [h]; decide)] at this
  omega
 ·by_cases h2 : i < b
  ·rw [if_pos h2, if_pos (by omega)]
  ·rw [if_neg h2, if_neg (by omega)]
theorem zht {out : List Nat} {a b j : Nat} (h : j < n) : 0 ≤ nth (Xk R n out a b) j ∧ nth (Xk R n out a b) j ≤ n := by
 rw [xT h]
 have := zfE (R := R) (n := n) out j
 have := zfE (R := R) (n := n) (out ++ [a]) j
 split <;> omega
end
set_option maxHeartbeats 8000000 in
theorem VY (n : Nat) (R : Nat → Nat → Bool) (hn : n ≤ 1000000) (hr : zbK R n) : yg Try.prog 60 [zhd n R] (.ow 3 1) (.list 1 ((yy R n n).map yd)) := by
 have hls := fun a b => zaA n R a b hn
 have hbe := zer n R hn
 rw [← ziq] at hbe
 have hw0 := Xi (R := R) (n := n) []
 unfold zhd zjG at hls hbe ⊢
 obtain ⟨S, hS⟩ : ∃ S, (List.range n).map (setRow n R) = S := ⟨_, rfl⟩
 rw [hS] at hls hbe ⊢
 refine yg.of_body (c := (Yz Try.prog zE zA 61)) ⟨Try.func60, rfl, Try.ntmps60, by kernel_rfl⟩ (by simp [FV.hand]) (by exact Nat.le_of_ble_eq_true rfl) rfl ?_
 change FW _ _ _ ⟨[(0, .eptr 2 [[.int .i64 n, .list 1 S]] 0 0)], []⟩
 (repeat (first | refine FW.seq ?_ | refine FW.region ?_ | refine zc.nil ?_ | refine za rfl rfl rfl ?_ | refine zb rfl rfl rfl ?_))
 refine ZD hbe (by repeat (first | exact zp.nil | refine zp.cons (by exact xB.plain rfl rfl) ?_)) (List.length_map _) rfl rfl rfl ?_
 rw [hw0]
 (repeat (first | refine FW.seq ?_ | refine FW.region ?_ | refine FW.block ?_ | refine zc.nil ?_ | refine za rfl rfl rfl ?_ | refine zb rfl rfl rfl ?_ | refine WD rfl rfl rfl ?_ | refine xg rfl rfl rfl rfl rfl rfl rfl ?_ | refine zC rfl rfl rfl (by first | omega | (simp; done)) rfl rfl rfl rfl rfl ?_ | refine Ur rfl rfl rfl rfl rfl rfl rfl rfl (by first | omega | (simp; done)) (by first | omega | (simp; done)) rfl rfl rfl ?_))
 refine FW.loop (fun k : Nat => ⟨[(0, .eptr 2 [[.int .i64 n, .list 1 S]] 0 0), (3, .own 100 0 0 n), (4, .own 101 0 0 n), (5, .own 102 0 0 k), (18, .int .i64 n), (19, .int .i64 k)], [(100, ⟨0, .own, 3, 1, (zdz R n (yy R n k)).map zJ⟩), (101, ⟨0, .own, 4, 1, (zbE n (yy R n k)).map bof⟩), (102, ⟨0, .own, 3, 1, (yy R n k).map yd⟩)]⟩) (fun k => k ≤ n) (fun k => n - k) 0 (Nat.zero_le _) ?_ ?_
 ·show FLe _ ⟨[(0, .eptr 2 [[.int .i64 n, .list 1 S]] 0 0), (3, .own 100 0 0 n), (4, .own 101 0 0 n), (5, .own 102 0 0 0), (18, .int .i64 n), (19, .int .i64 0)], [(100, ⟨0, .own, 3, 1, (zdz R n []).map zJ⟩), (101, ⟨0, .own, 4, 1, (zbE n []).map bof⟩), (102, ⟨0, .own, 3, 1, []⟩)]⟩
  rw [zhw, List.map_replicate]
  exact (FLe.conv [⟨100, some 9, 0 + 1, ⟨0, .own, 3, 1, (zdz R n []).map zJ⟩⟩, ⟨101, some 14, 0 + 1, ⟨0, .own, 4, 1, List.replicate n (bof false)⟩⟩, ⟨102, none, 0, ⟨0, .own, 3, 1, []⟩⟩] (by simp) (by simp) rfl (by repeat (first | exact .nil | refine .low rfl ?_ | refine .same rfl ?_ | refine .bump (Nat.lt_succ_self _) ?_)) (by repeat (first | exact .nil | refine .old rfl (by decide) rfl ?_ | refine .new ?_)) (by repeat (first | exact .nil | refine .cons (.plain rfl rfl rfl) ?_ | refine .cons (.own rfl (.head _) rfl rfl) ?_ | refine .cons (.own rfl (.tail _ (.head _)) rfl rfl) ?_ | refine .cons (.nil rfl (.tail _ (.tail _ (.head _))) rfl) ?_)))
 intro k hk
 (repeat (first | refine FW.seq ?_ | refine FW.region ?_ | refine zc.nil ?_ | refine zL rfl rfl rfl rfl ?_))
 refine FW.cond rfl (fun h => ?_) (fun h => ?_)
 ·have hlt : k < n := by simpa using h
  clear h
  have hel := yZ (R := R) (n := n) k
  have hes : yy R n (k + 1) = yy R n k ++ [Ui R n (yy R n k)] := rfl
  have hpk := zdp hr (out := yy R n k) (by rw [hel]; exact hlt)
  generalize yy R n k = out at hel hes hpk
  obtain ⟨p, hp⟩ : ∃ p, Ui R n out = p := ⟨_, rfl⟩
  rw [hp] at hes hpk
  obtain ⟨p1, p2, p3⟩ := hpk
  have hwl := Xi (R := R) (n := n) out
  have hdl := YZ (n := n) out
  (repeat (first | refine FW.seq ?_ | refine FW.region ?_ | refine FW.block ?_ | refine FW.skip ?_ | refine zc.nil ?_ | refine za rfl rfl rfl ?_))
  refine FW.loop (fun a : Nat => ⟨[(0, .eptr 2 [[.int .i64 n, .list 1 S]] 0 0), (3, .own 100 0 0 n), (4, .own 101 0 0 n), (5, .own 102 0 0 k), (6, .int .i64 a), (18, .int .i64 n), (19, .int .i64 k)], [(100, ⟨0, .own, 3, 1, (zdz R n out).map zJ⟩), (101, ⟨0, .own, 4, 1, (zbE n out).map bof⟩), (102, ⟨0, .own, 3, 1, out.map yd⟩)]⟩) (fun a => a ≤ p) (fun a => p - a) 0 (Nat.zero_le _) ?_ ?_
  ·exact (FLe.conv [⟨100, some 100, 0, ⟨0, .own, 3, 1, (zdz R n out).map zJ⟩⟩, ⟨101, some 101, 0, ⟨0, .own, 4, 1, (zbE n out).map bof⟩⟩, ⟨102, some 102, 0, ⟨0, .own, 3, 1, out.map yd⟩⟩] (by simp) (by simp) rfl (by repeat (first | exact .nil | refine .low rfl ?_ | refine .same rfl ?_ | refine .bump (Nat.lt_succ_self _) ?_)) (by repeat (first | exact .nil | refine .old rfl (by decide) rfl ?_)) (by repeat (first | exact .nil | refine .cons (.plain rfl rfl rfl) ?_ | refine .cons (.own rfl (.head _) rfl rfl) ?_ | refine .cons (.own rfl (.tail _ (.head _)) rfl rfl) ?_ | refine .cons (.own rfl (.tail _ (.tail _ (.head _))) rfl rfl) ?_)))
  intro a ha
  have han : a < n := by omega
  have hwn := Vo (R := R) (out := out) han
  have hdn := Ve (n := n) (out := out) han
  have hbl : zfz R n out a = (decide (a ∈ out) || decide (0 < zal R n out a)) := rfl
  obtain ⟨q, hq⟩ : ∃ q, decide (a ∈ out) = q := ⟨_, rfl⟩
  rw [hq] at hdn hbl
  (repeat (first | refine FW.seq ?_ | refine FW.region ?_ | refine zb rfl rfl rfl ?_ | refine zw rfl rfl rfl rfl rfl (by first | omega | (simp; omega)) (by first | exact zg (by omega) | rfl) rfl rfl rfl rfl ?_ | refine zF rfl rfl rfl rfl rfl rfl (by decide) rfl (by first | omega | (simp; omega)) rfl rfl ?_))
  rw [hdn]
  cases q with
  | true =>
   have hbt : zfz R n out a = true := by rw [hbl, Bool.true_or]
   have hne : a ≠ p := fun e => by rw [e, p2] at hbt; cases hbt
   (repeat (first | refine FW.region ?_ | refine FW.block ?_ | refine FW.skip ?_ | refine FW.condT rfl ?_ | refine zc.nil ?_ | refine za rfl rfl rfl ?_ | refine zb rfl rfl rfl ?_ | refine zO rfl rfl rfl rfl ?_ | refine zx rfl rfl (by omega) rfl rfl ?_ | refine xF rfl rfl ⟨_, _, rfl, rfl, rfl⟩ ?_))
   exact ⟨a + 1, by omega, by omega, (FLe.conv [⟨100, some 100, 0, ⟨0, .own, 3, 1, (zdz R n out).map zJ⟩⟩, ⟨101, some 101, 0, ⟨0, .own, 4, 1, (zbE n out).map bof⟩⟩, ⟨102, some 102, 0, ⟨0, .own, 3, 1, out.map yd⟩⟩] (by simp) (by simp) rfl (by repeat (first | exact .nil | refine .low rfl ?_ | refine .same rfl ?_ | refine .bump (Nat.lt_succ_self _) ?_)) (by repeat (first | exact .nil | refine .old rfl (by decide) rfl ?_)) (by repeat (first | exact .nil | refine .cons (.plain rfl rfl rfl) ?_ | refine .cons (.own rfl (.head _) rfl rfl) ?_ | refine .cons (.own rfl (.tail _ (.head _)) rfl rfl) ?_ | refine .cons (.own rfl (.tail _ (.tail _ (.head _))) rfl rfl) ?_)))⟩
  | false =>
   rw [Bool.false_or] at hbl
   (repeat (first | refine zc.nil ?_ | refine yh rfl rfl rfl rfl ?_ | refine zb rfl rfl ⟨_, _, rfl, rfl, rfl⟩ ?_ | refine zF rfl rfl rfl rfl rfl rfl (by decide) rfl (by first | omega | (simp; omega)) rfl ⟨_, _, rfl, rfl, rfl⟩ ?_ | refine zw rfl rfl rfl rfl rfl (by first | omega | (simp; omega)) (by first | exact zg (by omega) | rfl) rfl rfl rfl ⟨_, _, rfl, rfl, rfl⟩ ?_ | refine ziG rfl rfl rfl ⟨_, _, rfl, rfl, rfl⟩ ?_))
   rw [hwn]
   skip
   refine FW.cond rfl (fun h => ?_) (fun h => ?_)
   ·have hbt : zfz R n out a = true := by
     rw [hbl]
     have h : 0 < (zal R n out a : Int) := by simpa using h
     exact decide_eq_true (by omega)
    have hne : a ≠ p := fun e => by rw [e, p2] at hbt; cases hbt
    (repeat (first | refine FW.region ?_ | refine FW.block ?_ | refine FW.skip ?_ | refine zc.nil ?_ | refine za rfl rfl rfl ?_ | refine zb rfl rfl rfl ?_ | refine zx rfl rfl (by omega) rfl rfl ?_))
    exact ⟨a + 1, by omega, by omega, (FLe.conv [⟨100, some 100, 0, ⟨0, .own, 3, 1, (zdz R n out).map zJ⟩⟩, ⟨101, some 101, 0, ⟨0, .own, 4, 1, (zbE n out).map bof⟩⟩, ⟨102, some 102, 0, ⟨0, .own, 3, 1, out.map yd⟩⟩] (by simp) (by simp) rfl (by repeat (first | exact .nil | refine .low rfl ?_ | refine .same rfl ?_ | refine .bump (Nat.lt_succ_self _) ?_)) (by repeat (first | exact .nil | refine .old rfl (by decide) rfl ?_)) (by repeat (first | exact .nil | refine .cons (.plain rfl rfl rfl) ?_ | refine .cons (.own rfl (.head _) rfl rfl) ?_ | refine .cons (.own rfl (.tail _ (.head _)) rfl rfl) ?_ | refine .cons (.own rfl (.tail _ (.tail _ (.head _))) rfl rfl) ?_)))⟩
   ·have hap : a = p := by
     refine Classical.byContradiction fun hne => ?_
     have h1 := p3 a (by omega)
     rw [hbl] at h1
     have h1 : 0 < zal R n out a := of_decide_eq_true h1
     have h : ¬ 0 < (zal R n out a : Int) := by simpa using h
     omega
    subst hap
    have hno : a ∉ out := of_decide_eq_false hq
    have hda := zhv (n := n) (out := out) han
    have hd0 := zew (R := R) (n := n) out a
    have hdall := zfF (R := R) (n := n) out a
    have hoe : (out ++ [a]).map yd = out.map yd ++ [yd a] := by rw [List.map_append]; rfl
    (repeat (first | refine FW.seq ?_ | refine FW.region ?_ | refine FW.block ?_ | refine FW.exit ?_ | refine zc.nil ?_ | refine za rfl rfl rfl ?_ | refine zb rfl rfl rfl ?_ | refine WD rfl rfl rfl ?_ | refine xg rfl rfl rfl rfl rfl rfl rfl ?_ | refine zC rfl rfl rfl (by first | omega | (simp; omega) | (simp; done)) (by first | exact zg (by omega) | rfl) rfl rfl rfl rfl ?_ | refine zF rfl rfl rfl rfl rfl rfl (by decide) rfl (by first | omega | (simp; omega) | (simp; done)) rfl rfl ?_ | refine xh rfl rfl rfl rfl rfl rfl (by first | omega | (simp; omega) | (simp; done)) (by first | exact zg (by omega) | rfl) rfl rfl rfl ?_ | refine yQ rfl rfl rfl rfl rfl rfl rfl rfl ?_ | refine yU rfl rfl (by first | rfl | (simp; done) | omega | (simp; omega)) rfl rfl rfl (by decide) (by exact XH.own rfl rfl (by decide) (by first | exact List.length_map _ | exact (List.length_map _).symm | exact List.length_replicate | rfl | (simp; done) | omega | (simp; omega))) (by first | omega | (simp; omega) | (simp; done)) (by first | omega | (simp; omega) | (simp; done)) rfl rfl rfl ?_))
    refine FW.loop (fun b : Nat => ⟨[(0, .eptr 2 [[.int .i64 n, .list 1 S]] 0 0), (3, .own 100 0 0 n), (4, .own 101 0 0 n), (5, .own 102 0 0 (k + 1)), (6, .int .i64 a), (18, .int .i64 n), (19, .int .i64 k), (44, .int .i64 n), (45, .int .i64 b)], [(100, ⟨0, .own, 3, 1, (Xk R n out a b).map zJ⟩), (101, ⟨0, .own, 4, 1, (zbE n (out ++ [a])).map bof⟩), (102, ⟨0, .own, 3, 1, (out ++ [a]).map yd⟩)]⟩) (fun b => b ≤ n) (fun b => n - b) 0 (Nat.zero_le _) ?_ ?_
    ·rw [hd0, hda, hoe, List.map_set]
     exact (FLe.conv [⟨100, some 100, 0, ⟨0, .own, 3, 1, (zdz R n out).map zJ⟩⟩, ⟨101, some 101, 0, ⟨0, .own, 4, 1, ((zbE n out).map bof).set a (bof true)⟩⟩, ⟨102, some 40, 0 + 1, ⟨0, .own, 3, 1, out.map yd ++ [yd a]⟩⟩] (by simp) (by simp) rfl (by repeat (first | exact .nil | refine .low rfl ?_ | refine .same rfl ?_ | refine .bump (Nat.lt_succ_self _) ?_)) (by repeat (first | exact .nil | refine .old rfl (by decide) (by first | rfl | (simp; omega)) ?_)) (by repeat (first | exact .nil | refine .cons (.plain rfl rfl (by first | rfl | (simp; omega))) ?_ | refine .cons (.own rfl (.head _) rfl (by first | rfl | (simp; omega))) ?_ | refine .cons (.own rfl (.tail _ (.head _)) rfl (by first | rfl | (simp; omega))) ?_ | refine .cons (.own rfl (.tail _ (.tail _ (.head _))) rfl (by first | rfl | (simp; omega))) ?_)))
    intro b hb
    (repeat (first | refine FW.seq ?_ | refine FW.region ?_ | refine zc.nil ?_ | refine zL rfl rfl rfl rfl ?_))
    refine FW.cond rfl (fun h => ?_) (fun h => ?_)
    ·have hltb : b < n := by simpa using h
     clear h
     have hl := hls a b han hltb
     have hy := fun h => zfG (R := R) han hno hltb h
     have hn0 := fun h => zhu (R := R) (b := b) han hno h
     have hbl := yY (R := R) (n := n) out a b
     have hbi := zht (R := R) (out := out) (a := a) (b := b) hltb
     generalize Xk R n out a b = Z at hy hn0 hbl hbi
     obtain ⟨z, hz⟩ : ∃ z, nth Z b = z := ⟨_, rfl⟩
     rw [hz] at hy hbi
     (repeat (first | refine FW.seq ?_ | refine FW.region ?_ | refine FW.block ?_ | refine FW.skip ?_ | refine zc.nil ?_ | refine za rfl rfl rfl ?_ | refine zb rfl rfl rfl ?_))
     refine zS hl (by repeat (first | exact zp.nil | refine zp.cons (by exact xB.plain rfl rfl) ?_)) rfl rfl ?_
     (repeat (first | refine zc.nil ?_))
     refine FW.cond rfl (fun h => ?_) (fun h => ?_)
     ·have hy := hy h
      (repeat (first | refine FW.region ?_ | refine zc.nil ?_ | refine zb rfl rfl rfl ?_ | refine zw rfl rfl rfl rfl rfl (by first | omega | (simp; omega)) (by first | exact zg (by omega) | rfl) rfl rfl rfl rfl ?_ | refine zF rfl rfl rfl rfl rfl rfl (by decide) rfl (by first | omega | (simp; omega)) rfl rfl ?_ | refine zx rfl rfl (by omega) rfl rfl ?_ | refine xh rfl rfl rfl rfl rfl rfl (by first | omega | (simp; omega)) (by first | exact zg (by omega) | rfl) rfl rfl rfl ?_ | refine zcE rfl rfl (by omega) rfl rfl ?_))
      rw [hz]
      skip
      refine ⟨b + 1, by omega, by omega, ?_⟩
      rw [hy, List.map_set]
      exact (FLe.conv [⟨100, some 100, 0, ⟨0, .own, 3, 1, (Z.map zJ).set b (zJ (z - 1))⟩⟩, ⟨101, some 101, 0, ⟨0, .own, 4, 1, (zbE n (out ++ [a])).map bof⟩⟩, ⟨102, some 102, 0, ⟨0, .own, 3, 1, (out ++ [a]).map yd⟩⟩] (by simp) (by simp) rfl (by repeat (first | exact .nil | refine .low rfl ?_ | refine .same rfl ?_ | refine .bump (Nat.lt_succ_self _) ?_)) (by repeat (first | exact .nil | refine .old rfl (by decide) rfl ?_)) (by repeat (first | exact .nil | refine .cons (.plain rfl rfl rfl) ?_ | refine .cons (.own rfl (.head _) rfl rfl) ?_ | refine .cons (.own rfl (.tail _ (.head _)) rfl rfl) ?_ | refine .cons (.own rfl (.tail _ (.tail _ (.head _))) rfl rfl) ?_)))
     ·have hn0 := hn0 h
      (repeat (first | refine FW.region ?_ | refine FW.skip ?_ | refine zc.nil ?_ | refine zb rfl rfl rfl ?_ | refine zx rfl rfl (by omega) rfl rfl ?_))
      refine ⟨b + 1, by omega, by omega, ?_⟩
      rw [hn0]
      exact (FLe.conv [⟨100, some 100, 0, ⟨0, .own, 3, 1, Z.map zJ⟩⟩, ⟨101, some 101, 0, ⟨0, .own, 4, 1, (zbE n (out ++ [a])).map bof⟩⟩, ⟨102, some 102, 0, ⟨0, .own, 3, 1, (out ++ [a]).map yd⟩⟩] (by simp) (by simp) rfl (by repeat (first | exact .nil | refine .low rfl ?_ | refine .same rfl ?_ | refine .bump (Nat.lt_succ_self _) ?_)) (by repeat (first | exact .nil | refine .old rfl (by decide) rfl ?_)) (by repeat (first | exact .nil | refine .cons (.plain rfl rfl rfl) ?_ | refine .cons (.own rfl (.head _) rfl rfl) ?_ | refine .cons (.own rfl (.tail _ (.head _)) rfl rfl) ?_ | refine .cons (.own rfl (.tail _ (.tail _ (.head _))) rfl rfl) ?_)))
    ·obtain rfl : b = n := by simp at h; omega
     (repeat (first | refine FW.region ?_ | refine FW.exit ?_ | refine zc.nil ?_ | refine zb rfl rfl rfl ?_ | refine zx rfl rfl (by omega) rfl rfl ?_))
     refine ⟨k + 1, by omega, by omega, ?_⟩
     rw [hes, ← hdall]
     exact (FLe.conv [⟨100, some 100, 0, ⟨0, .own, 3, 1, (Xk R b out a b).map zJ⟩⟩, ⟨101, some 101, 0, ⟨0, .own, 4, 1, (zbE b (out ++ [a])).map bof⟩⟩, ⟨102, some 102, 0, ⟨0, .own, 3, 1, (out ++ [a]).map yd⟩⟩] (by simp) (by simp) rfl (by repeat (first | exact .nil | refine .low rfl ?_ | refine .same rfl ?_ | refine .bump (Nat.lt_succ_self _) ?_)) (by repeat (first | exact .nil | refine .old rfl (by decide) rfl ?_)) (by repeat (first | exact .nil | refine .cons (.plain rfl rfl rfl) ?_ | refine .cons (.own rfl (.head _) rfl rfl) ?_ | refine .cons (.own rfl (.tail _ (.head _)) rfl rfl) ?_ | refine .cons (.own rfl (.tail _ (.tail _ (.head _))) rfl rfl) ?_)))
 ·obtain rfl : k = n := by simp at h; omega
  (repeat (first | refine FW.seq ?_ | refine FW.region ?_ | refine FW.exit ?_ | refine zc.nil ?_ | refine za rfl rfl rfl ?_ | refine zb rfl rfl rfl ?_))
  exact FW.ret ⟨.inl rfl, zaH rfl rfl rfl (by rw [List.length_map, yZ]) (by decide) rfl (fun e he => by obtain ⟨b, _, rfl⟩ := List.mem_map.1 he; rfl)⟩
end Go.Proofs.Ytbeebjdnapkhhaa
