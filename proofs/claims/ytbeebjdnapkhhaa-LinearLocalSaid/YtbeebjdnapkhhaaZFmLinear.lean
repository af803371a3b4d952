/-
  poset.Order's Linear, at plain values.
-/
import Derived.Test.YtbeebjdnapkhhaaZFmOrd
namespace Go.Proofs.Ytbeebjdnapkhhaa
set_option linter.unusedVariables false
open Go.RowKit

def zdP (R : Nat → Nat → Bool) (n : Nat) (out : List Nat) : List Int := (List.range n).map fun b => (zaB R n out b : Int)
def zbQ (n : Nat) (out : List Nat) : List Bool := (List.range n).map fun a => decide (a ∈ out)
def Xn (R : Nat → Nat → Bool) (n : Nat) (out : List Nat) (a b : Nat) : List Int := (List.range n).map fun j => if j < b then (zaB R n (out ++ [a]) j : Int) else (zaB R n out j : Int)
section
variable {R : Nat → Nat → Bool} {n : Nat}
theorem Xk (out : List Nat) : (zdP R n out).length = n := by simp [zdP]
theorem Xb (out : List Nat) : (zbQ n out).length = n := by simp [zbQ]
theorem xd (out : List Nat) (a b : Nat) : (Xn R n out a b).length = n := by simp [Xn]
theorem VF {out : List Nat} {j : Nat} (h : j < n) : nth (zdP R n out) j = zaB R n out j := by unfold zdP; rw [zg (by simpa using h)]; simp
theorem Vs {out : List Nat} {j : Nat} (h : j < n) : nth (zbQ n out) j = decide (j ∈ out) := by unfold zbQ; rw [zg (by simpa using h)]; simp
theorem xT {out : List Nat} {a b j : Nat} (h : j < n) : nth (Xn R n out a b) j = if j < b then (zaB R n (out ++ [a]) j : Int) else (zaB R n out j : Int) := by unfold Xn; rw [zg (by simpa using h)]; simp
theorem ziR : zdP R n [] = zah R n n 0 := by
 refine zx (by rw [Xk, xk]) fun i hi => ?_
 rw [Xk] at hi
 rw [VF hi, xQ hi]
 unfold zaB
 simp
theorem zhX : zbQ n [] = List.replicate n false := by
 refine zx (by simp [Xb]) fun i hi => ?_
 rw [Xb] at hi
 rw [Vs hi, zg (show i < (List.replicate n false).length by simpa using hi)]
 simp
theorem zhW {out : List Nat} {a : Nat} (ha : a < n) : zbQ n (out ++ [a]) = (zbQ n out).set a true := by
 refine zx (by simp [Xb]) fun i hi => ?_
 rw [Xb] at hi
 rw [Vs hi, yN (by rw [Xb]; exact hi), Vs hi]
 by_cases e : a = i
 ·subst e; simp
 ·rw [if_neg e]
  have : ¬ i = a := fun e2 => e e2.symm
  simp [this]
theorem zeT (out : List Nat) (a : Nat) : Xn R n out a 0 = zdP R n out := by
 refine zx (by rw [xd, Xk]) fun i hi => ?_
 rw [xd] at hi
 rw [xT hi, VF hi, if_neg (by omega)]
theorem zf4 (out : List Nat) (a : Nat) : Xn R n out a n = zdP R n (out ++ [a]) := by
 refine zx (by rw [xd, Xk]) fun i hi => ?_
 rw [xd] at hi
 rw [xT hi, VF hi, if_pos hi]
theorem zf5 {out : List Nat} {a b : Nat} (ha : a < n) (hno : a ∉ out) (hb : b < n) (h : R a b = true) : Xn R n out a (b + 1) = (Xn R n out a b).set b (nth (Xn R n out a b) b - 1) := by
 refine zx (by simp [xd]) fun i hi => ?_
 rw [xd] at hi
 rw [yN (by rw [xd]; exact hi), xT hi, xT hi, xT hb]
 by_cases e : b = i
 ·subst e
  rw [if_pos (by omega), if_pos rfl, if_neg (by omega)]
  have := zd3 (R := R) (b := b) ha hno
  rw [if_pos h] at this
  omega
 ·rw [if_neg e]
  by_cases h2 : i < b
  ·rw [if_pos h2, if_pos (by omega)]
  ·rw [if_neg h2, if_neg (by omega)]
theorem zhV {out : List Nat} {a b : Nat} (ha : a < n) (hno : a ∉ out) (h : R a b = false) : Xn R n out a (b + 1) = Xn R n out a b := by
 refine zx (by simp [xd]) fun i hi => ?_
 rw [xd] at hi
 rw [xT hi, xT hi]
 by_cases e : b = i
 ·subst e
  rw [if_pos (by omega), if_neg (by omega)]
  have := zd3 (R := R) (b := b) ha hno
  rw [if_neg (by rw [h]; decide)] at this
  omega
 ·by_cases h2 : i < b
  ·rw [if_pos h2, if_pos (by omega)]
  ·rw [if_neg h2, if_neg (by omega)]
theorem zhU {out : List Nat} {a b j : Nat} (h : j < n) : 0 ≤ nth (Xn R n out a b) j ∧ nth (Xn R n out a b) j ≤ n := by
 rw [xT h]
 have := zf3 (R := R) (n := n) out j
 have := zf3 (R := R) (n := n) (out ++ [a]) j
 split <;> omega
end
set_option maxHeartbeats 8000000 in
theorem Uv (n : Nat) (R : Nat → Nat → Bool) (hn : n ≤ 1000000) (hr : zbX R n) : yd Try.prog 60 [zhF n R] (.ow 3 1) (.list 1 ((yA R n n).map ye)) := by
 have hls := fun a b => zaP n R a b hn
 have hbe := zeL n R hn
 rw [← ziR] at hbe
 have hw0 := Xk (R := R) (n := n) []
 unfold zhF zjX at hls hbe ⊢
 obtain ⟨S, hS⟩ : ∃ S, (List.range n).map (setRow n R) = S := ⟨_, rfl⟩
 rw [hS] at hls hbe ⊢
 refine yd.of_body (c := (ZJ Try.prog zF zA 61)) ⟨Try.func60, rfl, Try.ntmps60, by kernel_rfl⟩ (by simp [FV.hand]) (by exact Nat.le_of_ble_eq_true rfl) rfl ?_
 change FW _ _ _ ⟨[(0, .eptr 2 [[.int .i64 n, .list 1 S]] 0 0)], []⟩
 (repeat (first | refine FW.seq ?_ | refine FW.region ?_ | refine zc.nil ?_ | refine za rfl rfl rfl ?_ | refine zb rfl rfl rfl ?_))
 refine zR hbe (by repeat (first | exact zi.nil | refine zi.cons (by exact yh.plain rfl rfl) ?_)) (List.length_map _) rfl rfl rfl ?_
 rw [hw0]
 (repeat (first | refine FW.seq ?_ | refine FW.region ?_ | refine FW.block ?_ | refine zc.nil ?_ | refine za rfl rfl rfl ?_ | refine zb rfl rfl rfl ?_ | refine WS rfl rfl rfl ?_ | refine yS rfl rfl rfl rfl rfl rfl rfl ?_ | refine zD rfl rfl rfl (by first | omega | (simp; done)) rfl rfl rfl rfl rfl ?_ | refine WP rfl rfl rfl rfl rfl rfl rfl rfl (by first | omega | (simp; done)) (by first | omega | (simp; done)) rfl rfl rfl ?_))
 refine FW.loop (fun k : Nat => ⟨[(0, .eptr 2 [[.int .i64 n, .list 1 S]] 0 0), (3, .own 100 0 0 n), (4, .own 101 0 0 n), (5, .own 102 0 0 k), (18, .int .i64 n), (19, .int .i64 k)], [(100, ⟨0, .own, 3, 1, (zdP R n (yA R n k)).map zE⟩), (101, ⟨0, .own, 4, 1, (zbQ n (yA R n k)).map bof⟩), (102, ⟨0, .own, 3, 1, (yA R n k).map ye⟩)]⟩) (fun k => k ≤ n) (fun k => n - k) 0 (Nat.zero_le _) ?_ ?_
 ·show FLe _ ⟨[(0, .eptr 2 [[.int .i64 n, .list 1 S]] 0 0), (3, .own 100 0 0 n), (4, .own 101 0 0 n), (5, .own 102 0 0 0), (18, .int .i64 n), (19, .int .i64 0)], [(100, ⟨0, .own, 3, 1, (zdP R n []).map zE⟩), (101, ⟨0, .own, 4, 1, (zbQ n []).map bof⟩), (102, ⟨0, .own, 3, 1, []⟩)]⟩
  rw [zhX, List.map_replicate]
  exact (FLe.conv [⟨100, some 9, 0 + 1, ⟨0, .own, 3, 1, (zdP R n []).map zE⟩⟩, ⟨101, some 14, 0 + 1, ⟨0, .own, 4, 1, List.replicate n (bof false)⟩⟩, ⟨102, none, 0, ⟨0, .own, 3, 1, []⟩⟩] (by simp) (by simp) rfl (by repeat (first | exact .nil | refine .low rfl ?_ | refine .same rfl ?_ | refine .bump (Nat.lt_succ_self _) ?_)) (by repeat (first | exact .nil | refine .old rfl (by decide) rfl ?_ | refine .new ?_)) (by repeat (first | exact .nil | refine .cons (.plain rfl rfl rfl) ?_ | refine .cons (.own rfl (.head _) rfl rfl) ?_ | refine .cons (.own rfl (.tail _ (.head _)) rfl rfl) ?_ | refine .cons (.nil rfl (.tail _ (.tail _ (.head _))) rfl) ?_)))
 intro k hk
 (repeat (first | refine FW.seq ?_ | refine FW.region ?_ | refine zc.nil ?_ | refine zH rfl rfl rfl rfl ?_))
 refine FW.cond rfl (fun h => ?_) (fun h => ?_)
 ·have hlt : k < n := by simpa using h
  clear h
  have hel := xe (R := R) (n := n) k
  have hes : yA R n (k + 1) = yA R n k ++ [UG R n (yA R n k)] := rfl
  have hpk := zdE hr (out := yA R n k) (by rw [hel]; exact hlt)
  generalize yA R n k = out at hel hes hpk
  obtain ⟨p, hp⟩ : ∃ p, UG R n out = p := ⟨_, rfl⟩
  rw [hp] at hes hpk
  obtain ⟨p1, p2, p3⟩ := hpk
  have hwl := Xk (R := R) (n := n) out
  have hdl := Xb (n := n) out
  (repeat (first | refine FW.seq ?_ | refine FW.region ?_ | refine FW.block ?_ | refine FW.skip ?_ | refine zc.nil ?_ | refine za rfl rfl rfl ?_))
  refine FW.loop (fun a : Nat => ⟨[(0, .eptr 2 [[.int .i64 n, .list 1 S]] 0 0), (3, .own 100 0 0 n), (4, .own 101 0 0 n), (5, .own 102 0 0 k), (6, .int .i64 a), (18, .int .i64 n), (19, .int .i64 k)], [(100, ⟨0, .own, 3, 1, (zdP R n out).map zE⟩), (101, ⟨0, .own, 4, 1, (zbQ n out).map bof⟩), (102, ⟨0, .own, 3, 1, out.map ye⟩)]⟩) (fun a => a ≤ p) (fun a => p - a) 0 (Nat.zero_le _) ?_ ?_
  ·exact (FLe.conv [⟨100, some 100, 0, ⟨0, .own, 3, 1, (zdP R n out).map zE⟩⟩, ⟨101, some 101, 0, ⟨0, .own, 4, 1, (zbQ n out).map bof⟩⟩, ⟨102, some 102, 0, ⟨0, .own, 3, 1, out.map ye⟩⟩] (by simp) (by simp) rfl (by repeat (first | exact .nil | refine .low rfl ?_ | refine .same rfl ?_ | refine .bump (Nat.lt_succ_self _) ?_)) (by repeat (first | exact .nil | refine .old rfl (by decide) rfl ?_)) (by repeat (first | exact .nil | refine .cons (.plain rfl rfl rfl) ?_ | refine .cons (.own rfl (.head _) rfl rfl) ?_ | refine .cons (.own rfl (.tail _ (.head _)) rfl rfl) ?_ | refine .cons (.own rfl (.tail _ (.tail _ (.head _))) rfl rfl) ?_)))
  intro a ha
  have han : a < n := by omega
  have hwn := VF (R := R) (out := out) han
  have hdn := Vs (n := n) (out := out) han
  have hbl : zfY R n out a = (decide (a ∈ out) || decide (0 < zaB R n out a)) := rfl
  obtain ⟨q, hq⟩ : ∃ q, decide (a ∈ out) = q := ⟨_, rfl⟩
  rw [hq] at hdn hbl
  (repeat (first | refine FW.seq ?_ | refine FW.region ?_ | refine zb rfl rfl rfl ?_ | refine zm rfl rfl rfl rfl rfl (by first | omega | (simp; omega)) (by first | exact zd (by omega) | rfl) rfl rfl rfl rfl ?_ | refine zt rfl rfl rfl rfl rfl rfl (by decide) rfl (by first | omega | (simp; omega)) rfl rfl ?_))
  rw [hdn]
  cases q with
  | true =>
   have hbt : zfY R n out a = true := by rw [hbl, Bool.true_or]
   have hne : a ≠ p := fun e => by rw [e, p2] at hbt; cases hbt
   (repeat (first | refine FW.region ?_ | refine FW.block ?_ | refine FW.skip ?_ | refine FW.condT rfl ?_ | refine zc.nil ?_ | refine za rfl rfl rfl ?_ | refine zb rfl rfl rfl ?_ | refine zK rfl rfl rfl rfl ?_ | refine zu rfl rfl (by omega) rfl rfl ?_ | refine yE rfl rfl ⟨_, _, rfl, rfl, rfl⟩ ?_))
   exact ⟨a + 1, by omega, by omega, (FLe.conv [⟨100, some 100, 0, ⟨0, .own, 3, 1, (zdP R n out).map zE⟩⟩, ⟨101, some 101, 0, ⟨0, .own, 4, 1, (zbQ n out).map bof⟩⟩, ⟨102, some 102, 0, ⟨0, .own, 3, 1, out.map ye⟩⟩] (by simp) (by simp) rfl (by repeat (first | exact .nil | refine .low rfl ?_ | refine .same rfl ?_ | refine .bump (Nat.lt_succ_self _) ?_)) (by repeat (first | exact .nil | refine .old rfl (by decide) rfl ?_)) (by repeat (first | exact .nil | refine .cons (.plain rfl rfl rfl) ?_ | refine .cons (.own rfl (.head _) rfl rfl) ?_ | refine .cons (.own rfl (.tail _ (.head _)) rfl rfl) ?_ | refine .cons (.own rfl (.tail _ (.tail _ (.head _))) rfl rfl) ?_)))⟩
  | false =>
   rw [Bool.false_or] at hbl
   (repeat (first | refine zc.nil ?_ | refine zW rfl rfl rfl rfl ?_ | refine zb rfl rfl ⟨_, _, rfl, rfl, rfl⟩ ?_ | refine zt rfl rfl rfl rfl rfl rfl (by decide) rfl (by first | omega | (simp; omega)) rfl ⟨_, _, rfl, rfl, rfl⟩ ?_ | refine zm rfl rfl rfl rfl rfl (by first | omega | (simp; omega)) (by first | exact zd (by omega) | rfl) rfl rfl rfl ⟨_, _, rfl, rfl, rfl⟩ ?_ | refine zhf rfl rfl rfl ⟨_, _, rfl, rfl, rfl⟩ ?_))
   rw [hwn]
   skip
   refine FW.cond rfl (fun h => ?_) (fun h => ?_)
   ·have hbt : zfY R n out a = true := by
     rw [hbl]
     have h : 0 < (zaB R n out a : Int) := by simpa using h
     exact decide_eq_true (by omega)
    have hne : a ≠ p := fun e => by rw [e, p2] at hbt; cases hbt
    (repeat (first | refine FW.region ?_ | refine FW.block ?_ | refine FW.skip ?_ | refine zc.nil ?_ | refine za rfl rfl rfl ?_ | refine zb rfl rfl rfl ?_ | refine zu rfl rfl (by omega) rfl rfl ?_))
    exact ⟨a + 1, by omega, by omega, (FLe.conv [⟨100, some 100, 0, ⟨0, .own, 3, 1, (zdP R n out).map zE⟩⟩, ⟨101, some 101, 0, ⟨0, .own, 4, 1, (zbQ n out).map bof⟩⟩, ⟨102, some 102, 0, ⟨0, .own, 3, 1, out.map ye⟩⟩] (by simp) (by simp) rfl (by repeat (first | exact .nil | refine .low rfl ?_ | refine .same rfl ?_ | refine .bump (Nat.lt_succ_self _) ?_)) (by repeat (first | exact .nil | refine .old rfl (by decide) rfl ?_)) (by repeat (first | exact .nil | refine .cons (.plain rfl rfl rfl) ?_ | refine .cons (.own rfl (.head _) rfl rfl) ?_ | refine .cons (.own rfl (.tail _ (.head _)) rfl rfl) ?_ | refine .cons (.own rfl (.tail _ (.tail _ (.head _))) rfl rfl) ?_)))⟩
   ·have hap : a = p := by
     refine Classical.byContradiction fun hne => ?_
     have h1 := p3 a (by omega)
     rw [hbl] at h1
     have h1 : 0 < zaB R n out a := of_decide_eq_true h1
     have h : ¬ 0 < (zaB R n out a : Int) := by simpa using h
     omega
    subst hap
    have hno : a ∉ out := of_decide_eq_false hq
    have hda := zhW (n := n) (out := out) han
    have hd0 := zeT (R := R) (n := n) out a
    have hdall := zf4 (R := R) (n := n) out a
    have hoe : (out ++ [a]).map ye = out.map ye ++ [ye a] := by rw [List.map_append]; rfl
    (repeat (first | refine FW.seq ?_ | refine FW.region ?_ | refine FW.block ?_ | refine FW.exit ?_ | refine zc.nil ?_ | refine za rfl rfl rfl ?_ | refine zb rfl rfl rfl ?_ | refine WS rfl rfl rfl ?_ | refine yS rfl rfl rfl rfl rfl rfl rfl ?_ | refine zD rfl rfl rfl (by first | omega | (simp; omega) | (simp; done)) (by first | exact zd (by omega) | rfl) rfl rfl rfl rfl ?_ | refine zt rfl rfl rfl rfl rfl rfl (by decide) rfl (by first | omega | (simp; omega) | (simp; done)) rfl rfl ?_ | refine zS rfl rfl rfl rfl rfl rfl (by first | omega | (simp; omega) | (simp; done)) (by first | exact zd (by omega) | rfl) rfl rfl rfl ?_ | refine yT rfl rfl rfl rfl rfl rfl rfl rfl ?_ | refine xF rfl rfl (by first | rfl | (simp; done) | omega | (simp; omega)) rfl rfl rfl (by decide) (by exact XN.own rfl rfl (by decide) (by first | exact List.length_map _ | exact (List.length_map _).symm | exact List.length_replicate | rfl | (simp; done) | omega | (simp; omega))) (by first | omega | (simp; omega) | (simp; done)) (by first | omega | (simp; omega) | (simp; done)) rfl rfl rfl ?_))
    refine FW.loop (fun b : Nat => ⟨[(0, .eptr 2 [[.int .i64 n, .list 1 S]] 0 0), (3, .own 100 0 0 n), (4, .own 101 0 0 n), (5, .own 102 0 0 (k + 1)), (6, .int .i64 a), (18, .int .i64 n), (19, .int .i64 k), (44, .int .i64 n), (45, .int .i64 b)], [(100, ⟨0, .own, 3, 1, (Xn R n out a b).map zE⟩), (101, ⟨0, .own, 4, 1, (zbQ n (out ++ [a])).map bof⟩), (102, ⟨0, .own, 3, 1, (out ++ [a]).map ye⟩)]⟩) (fun b => b ≤ n) (fun b => n - b) 0 (Nat.zero_le _) ?_ ?_
    ·rw [hd0, hda, hoe, List.map_set]
     exact (FLe.conv [⟨100, some 100, 0, ⟨0, .own, 3, 1, (zdP R n out).map zE⟩⟩, ⟨101, some 101, 0, ⟨0, .own, 4, 1, ((zbQ n out).map bof).set a (bof true)⟩⟩, ⟨102, some 40, 0 + 1, ⟨0, .own, 3, 1, out.map ye ++ [ye a]⟩⟩] (by simp) (by simp) rfl (by repeat (first | exact .nil | refine .low rfl ?_ | refine .same rfl ?_ | refine .bump (Nat.lt_succ_self _) ?_)) (by repeat (first | exact .nil | refine .old rfl (by decide) (by first | rfl | (simp; omega)) ?_)) (by repeat (first | exact .nil | refine .cons (.plain rfl rfl (by first | rfl | (simp; omega))) ?_ | refine .cons (.own rfl (.head _) rfl (by first | rfl | (simp; omega))) ?_ | refine .cons (.own rfl (.tail _ (.head _)) rfl (by first | rfl | (simp; omega))) ?_ | refine .cons (.own rfl (.tail _ (.tail _ (.head _))) rfl (by first | rfl | (simp; omega))) ?_)))
    intro b hb
    (repeat (first | refine FW.seq ?_ | refine FW.region ?_ | refine zc.nil ?_ | refine zH rfl rfl rfl rfl ?_))
    refine FW.cond rfl (fun h => ?_) (fun h => ?_)
    ·have hltb : b < n := by simpa using h
     clear h
     have hl := hls a b han hltb
     have hy := fun h => zf5 (R := R) han hno hltb h
     have hn0 := fun h => zhV (R := R) (b := b) han hno h
     have hbl := xd (R := R) (n := n) out a b
     have hbi := zhU (R := R) (out := out) (a := a) (b := b) hltb
     generalize Xn R n out a b = Z at hy hn0 hbl hbi
     obtain ⟨z, hz⟩ : ∃ z, nth Z b = z := ⟨_, rfl⟩
     rw [hz] at hy hbi
     (repeat (first | refine FW.seq ?_ | refine FW.region ?_ | refine FW.block ?_ | refine FW.skip ?_ | refine zc.nil ?_ | refine za rfl rfl rfl ?_ | refine zb rfl rfl rfl ?_))
     refine zM hl (by repeat (first | exact zi.nil | refine zi.cons (by exact yh.plain rfl rfl) ?_)) rfl rfl ?_
     (repeat (first | refine zc.nil ?_))
     refine FW.cond rfl (fun h => ?_) (fun h => ?_)
     ·have hy := hy h
      (repeat (first | refine FW.region ?_ | refine zc.nil ?_ | refine zb rfl rfl rfl ?_ | refine zm rfl rfl rfl rfl rfl (by first | omega | (simp; omega)) (by first | exact zd (by omega) | rfl) rfl rfl rfl rfl ?_ | refine zt rfl rfl rfl rfl rfl rfl (by decide) rfl (by first | omega | (simp; omega)) rfl rfl ?_ | refine zu rfl rfl (by omega) rfl rfl ?_ | refine zS rfl rfl rfl rfl rfl rfl (by first | omega | (simp; omega)) (by first | exact zd (by omega) | rfl) rfl rfl rfl ?_ | refine zcX rfl rfl (by omega) rfl rfl ?_))
      rw [hz]
      skip
      refine ⟨b + 1, by omega, by omega, ?_⟩
      rw [hy, List.map_set]
      exact (FLe.conv [⟨100, some 100, 0, ⟨0, .own, 3, 1, (Z.map zE).set b (zE (z - 1))⟩⟩, ⟨101, some 101, 0, ⟨0, .own, 4, 1, (zbQ n (out ++ [a])).map bof⟩⟩, ⟨102, some 102, 0, ⟨0, .own, 3, 1, (out ++ [a]).map ye⟩⟩] (by simp) (by simp) rfl (by repeat (first | exact .nil | refine .low rfl ?_ | refine .same rfl ?_ | refine .bump (Nat.lt_succ_self _) ?_)) (by repeat (first | exact .nil | refine .old rfl (by decide) rfl ?_)) (by repeat (first | exact .nil | refine .cons (.plain rfl rfl rfl) ?_ | refine .cons (.own rfl (.head _) rfl rfl) ?_ | refine .cons (.own rfl (.tail _ (.head _)) rfl rfl) ?_ | refine .cons (.own rfl (.tail _ (.tail _ (.head _))) rfl rfl) ?_)))
     ·have hn0 := hn0 h
      (repeat (first | refine FW.region ?_ | refine FW.skip ?_ | refine zc.nil ?_ | refine zb rfl rfl rfl ?_ | refine zu rfl rfl (by omega) rfl rfl ?_))
      refine ⟨b + 1, by omega, by omega, ?_⟩
      rw [hn0]
      exact (FLe.conv [⟨100, some 100, 0, ⟨0, .own, 3, 1, Z.map zE⟩⟩, ⟨101, some 101, 0, ⟨0, .own, 4, 1, (zbQ n (out ++ [a])).map bof⟩⟩, ⟨102, some 102, 0, ⟨0, .own, 3, 1, (out ++ [a]).map ye⟩⟩] (by simp) (by simp) rfl (by repeat (first | exact .nil | refine .low rfl ?_ | refine .same rfl ?_ | refine .bump (Nat.lt_succ_self _) ?_)) (by repeat (first | exact .nil | refine .old rfl (by decide) rfl ?_)) (by repeat (first | exact .nil | refine .cons (.plain rfl rfl rfl) ?_ | refine .cons (.own rfl (.head _) rfl rfl) ?_ | refine .cons (.own rfl (.tail _ (.head _)) rfl rfl) ?_ | refine .cons (.own rfl (.tail _ (.tail _ (.head _))) rfl rfl) ?_)))
    ·obtain rfl : b = n := by simp at h; omega
     (repeat (first | refine FW.region ?_ | refine FW.exit ?_ | refine zc.nil ?_ | refine zb rfl rfl rfl ?_ | refine zu rfl rfl (by omega) rfl rfl ?_))
     refine ⟨k + 1, by omega, by omega, ?_⟩
     rw [hes, ← hdall]
     exact (FLe.conv [⟨100, some 100, 0, ⟨0, .own, 3, 1, (Xn R b out a b).map zE⟩⟩, ⟨101, some 101, 0, ⟨0, .own, 4, 1, (zbQ b (out ++ [a])).map bof⟩⟩, ⟨102, some 102, 0, ⟨0, .own, 3, 1, (out ++ [a]).map ye⟩⟩] (by simp) (by simp) rfl (by repeat (first | exact .nil | refine .low rfl ?_ | refine .same rfl ?_ | refine .bump (Nat.lt_succ_self _) ?_)) (by repeat (first | exact .nil | refine .old rfl (by decide) rfl ?_)) (by repeat (first | exact .nil | refine .cons (.plain rfl rfl rfl) ?_ | refine .cons (.own rfl (.head _) rfl rfl) ?_ | refine .cons (.own rfl (.tail _ (.head _)) rfl rfl) ?_ | refine .cons (.own rfl (.tail _ (.tail _ (.head _))) rfl rfl) ?_)))
 ·obtain rfl : k = n := by simp at h; omega
  (repeat (first | refine FW.seq ?_ | refine FW.region ?_ | refine FW.exit ?_ | refine zc.nil ?_ | refine za rfl rfl rfl ?_ | refine zb rfl rfl rfl ?_))
  exact FW.ret ⟨.inl rfl, xK rfl rfl rfl (by rw [List.length_map, xe]) (by decide) rfl (fun e he => by obtain ⟨b, _, rfl⟩ := List.mem_map.1 he; rfl)⟩
end Go.Proofs.Ytbeebjdnapkhhaa
