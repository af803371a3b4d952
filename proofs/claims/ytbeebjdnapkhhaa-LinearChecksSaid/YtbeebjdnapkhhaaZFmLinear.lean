/-
  poset.Order's Linear, at plain values.
-/
import Derived.Test.YtbeebjdnapkhhaaZFmOrd
namespace Go.Proofs.Ytbeebjdnapkhhaa
set_option linter.unusedVariables false
open Go.RowKit

def zdV (R : Nat → Nat → Bool) (n : Nat) (out : List Nat) : List Int := (List.range n).map fun b => (zaL R n out b : Int)
def zbV (n : Nat) (out : List Nat) : List Bool := (List.range n).map fun a => decide (a ∈ out)
def Xv (R : Nat → Nat → Bool) (n : Nat) (out : List Nat) (a b : Nat) : List Int := (List.range n).map fun j => if j < b then (zaL R n (out ++ [a]) j : Int) else (zaL R n out j : Int)
section
variable {R : Nat → Nat → Bool} {n : Nat}
theorem Xt (out : List Nat) : (zdV R n out).length = n := by simp [zdV]
theorem Xg (out : List Nat) : (zbV n out).length = n := by simp [zbV]
theorem xg (out : List Nat) (a b : Nat) : (Xv R n out a b).length = n := by simp [Xv]
theorem VM {out : List Nat} {j : Nat} (h : j < n) : nth (zdV R n out) j = zaL R n out j := by unfold zdV; rw [zn (by simpa using h)]; simp
theorem Vz {out : List Nat} {j : Nat} (h : j < n) : nth (zbV n out) j = decide (j ∈ out) := by unfold zbV; rw [zn (by simpa using h)]; simp
theorem xX {out : List Nat} {a b j : Nat} (h : j < n) : nth (Xv R n out a b) j = if j < b then (zaL R n (out ++ [a]) j : Int) else (zaL R n out j : Int) := by unfold Xv; rw [zn (by simpa using h)]; simp
theorem ziW : zdV R n [] = zap R n n 0 := by
 refine zG (by rw [Xt, xp]) fun i hi => ?_
 rw [Xt] at hi
 rw [VM hi, xS hi]
 unfold zaL
 simp
theorem zh3 : zbV n [] = List.replicate n false := by
 refine zG (by simp [Xg]) fun i hi => ?_
 rw [Xg] at hi
 rw [Vz hi, zn (show i < (List.replicate n false).length by simpa using hi)]
 simp
theorem zh2 {out : List Nat} {a : Nat} (ha : a < n) : zbV n (out ++ [a]) = (zbV n out).set a true := by
 refine zG (by simp [Xg]) fun i hi => ?_
 rw [Xg] at hi
 rw [Vz hi, yY (by rw [Xg]; exact hi), Vz hi]
 by_cases e : a = i
 ·subst e; simp
 ·rw [if_neg e]
  have : ¬ i = a := fun e2 => e e2.symm
  simp [this]
theorem zeZ (out : List Nat) (a : Nat) : Xv R n out a 0 = zdV R n out := by
 refine zG (by rw [xg, Xt]) fun i hi => ?_
 rw [xg] at hi
 rw [xX hi, VM hi, if_neg (by omega)]
theorem zgb (out : List Nat) (a : Nat) : Xv R n out a n = zdV R n (out ++ [a]) := by
 refine zG (by rw [xg, Xt]) fun i hi => ?_
 rw [xg] at hi
 rw [xX hi, VM hi, if_pos hi]
theorem zgc {out : List Nat} {a b : Nat} (ha : a < n) (hno : a ∉ out) (hb : b < n) (h : R a b = true) : Xv R n out a (b + 1) = (Xv R n out a b).set b (nth (Xv R n out a b) b - 1) := by
 refine zG (by simp [xg]) fun i hi => ?_
 rw [xg] at hi
 rw [yY (by rw [xg]; exact hi), xX hi, xX hi, xX hb]
 by_cases e : b = i
 ·subst e
  rw [if_pos (by omega), if_pos rfl, if_neg (by omega)]
  have := zd8 (R := R) (b := b) ha hno
  rw [if_pos h] at this
  omega
 ·rw [if_neg e]
  by_cases h2 : i < b
  ·rw [if_pos h2, if_pos (by omega)]
  ·rw [if_neg h2, if_neg (by omega)]
theorem zh1 {out : List Nat} {a b : Nat} (ha : a < n) (hno : a ∉ out) (h : R a b = false) : Xv R n out a (b + 1) = Xv R n out a b := by
 refine zG (by simp [xg]) fun i hi => ?_
 rw [xg] at hi
 rw [xX hi, xX hi]
 by_cases e : b = i
 ·subst e
  rw [if_pos (by omega), if_neg (by omega)]
  have := zd8 (R := R) (b := b) ha hno
  rw [if_neg (by rw [h]; decide)] at this
  omega
 ·by_cases h2 : i < b
  ·rw [if_pos h2, if_pos (by omega)]
  ·rw [if_neg h2, if_neg (by omega)]
theorem zh0 {out : List Nat} {a b j : Nat} (h : j < n) : 0 ≤ nth (Xv R n out a b) j ∧ nth (Xv R n out a b) j ≤ n := by
 rw [xX h]
 have := zga (R := R) (n := n) out j
 have := zga (R := R) (n := n) (out ++ [a]) j
 split <;> omega
end
set_option maxHeartbeats 8000000 in
theorem UC (n : Nat) (R : Nat → Nat → Bool) (hn : n ≤ 1000000) (hr : zb0 R n) : yd Try.prog 60 [zhL n R] (.ow 3 1) (.list 1 ((yI R n n).map yw)) := by
 have hls := fun a b => zaZ n R a b hn
 have hbe := zeQ n R hn
 rw [← ziW] at hbe
 have hw0 := Xt (R := R) (n := n) []
 unfold zhL zj8 at hls hbe ⊢
 obtain ⟨S, hS⟩ : ∃ S, (List.range n).map (setRow n R) = S := ⟨_, rfl⟩
 rw [hS] at hls hbe ⊢
 refine yd.of_body (c := (xW Try.prog zJ zy 61)) ⟨Try.func60, rfl, Try.ntmps60, by kernel_rfl⟩ (by simp [FV.hand]) (by exact Nat.le_of_ble_eq_true rfl) rfl ?_
 change FW _ _ _ ⟨[(0, .eptr 2 [[.int .i64 n, .list 1 S]] 0 0)], []⟩
 (repeat (first | refine FW.seq ?_ | refine FW.region ?_ | refine zd.nil ?_ | refine za rfl rfl rfl ?_ | refine zb rfl rfl rfl ?_))
 refine zZ hbe (by repeat (first | exact zg.nil | refine zg.cons (by exact yc.plain rfl rfl) ?_)) (List.length_map _) rfl rfl rfl ?_
 rw [hw0]
 (repeat (first | refine FW.seq ?_ | refine FW.region ?_ | refine FW.block ?_ | refine zd.nil ?_ | refine za rfl rfl rfl ?_ | refine zb rfl rfl rfl ?_ | refine Vb rfl rfl rfl ?_ | refine zI rfl rfl rfl rfl rfl rfl rfl ?_ | refine zq rfl rfl rfl (by first | omega | (simp; done)) rfl rfl rfl rfl rfl ?_ | refine UV rfl rfl rfl rfl rfl rfl rfl rfl (by first | omega | (simp; done)) (by first | omega | (simp; done)) rfl rfl rfl ?_))
 refine FW.loop (fun k : Nat => ⟨[(0, .eptr 2 [[.int .i64 n, .list 1 S]] 0 0), (3, .own 100 0 0 n), (4, .own 101 0 0 n), (5, .own 102 0 0 k), (18, .int .i64 n), (19, .int .i64 k)], [(100, ⟨0, .own, 3, 1, (zdV R n (yI R n k)).map zO⟩), (101, ⟨0, .own, 4, 1, (zbV n (yI R n k)).map bof⟩), (102, ⟨0, .own, 3, 1, (yI R n k).map yw⟩)]⟩) (fun k => k ≤ n) (fun k => n - k) 0 (Nat.zero_le _) ?_ ?_
 ·show FLe _ ⟨[(0, .eptr 2 [[.int .i64 n, .list 1 S]] 0 0), (3, .own 100 0 0 n), (4, .own 101 0 0 n), (5, .own 102 0 0 0), (18, .int .i64 n), (19, .int .i64 0)], [(100, ⟨0, .own, 3, 1, (zdV R n []).map zO⟩), (101, ⟨0, .own, 4, 1, (zbV n []).map bof⟩), (102, ⟨0, .own, 3, 1, []⟩)]⟩
  rw [zh3, List.map_replicate]
  exact (FLe.conv [⟨100, some 9, 0 + 1, ⟨0, .own, 3, 1, (zdV R n []).map zO⟩⟩, ⟨101, some 14, 0 + 1, ⟨0, .own, 4, 1, List.replicate n (bof false)⟩⟩, ⟨102, none, 0, ⟨0, .own, 3, 1, []⟩⟩] (by simp) (by simp) rfl (by repeat (first | exact .nil | refine .low rfl ?_ | refine .same rfl ?_ | refine .bump (Nat.lt_succ_self _) ?_)) (by repeat (first | exact .nil | refine .old rfl (by decide) rfl ?_ | refine .new ?_)) (by repeat (first | exact .nil | refine .cons (.plain rfl rfl rfl) ?_ | refine .cons (.own rfl (.head _) rfl rfl) ?_ | refine .cons (.own rfl (.tail _ (.head _)) rfl rfl) ?_ | refine .cons (.nil rfl (.tail _ (.tail _ (.head _))) rfl) ?_)))
 intro k hk
 (repeat (first | refine FW.seq ?_ | refine FW.region ?_ | refine zd.nil ?_ | refine zN rfl rfl rfl rfl ?_))
 refine FW.cond rfl (fun h => ?_) (fun h => ?_)
 ·have hlt : k < n := by simpa using h
  clear h
  have hel := xh (R := R) (n := n) k
  have hes : yI R n (k + 1) = yI R n k ++ [UN R n (yI R n k)] := rfl
  have hpk := zdJ hr (out := yI R n k) (by rw [hel]; exact hlt)
  generalize yI R n k = out at hel hes hpk
  obtain ⟨p, hp⟩ : ∃ p, UN R n out = p := ⟨_, rfl⟩
  rw [hp] at hes hpk
  obtain ⟨p1, p2, p3⟩ := hpk
  have hwl := Xt (R := R) (n := n) out
  have hdl := Xg (n := n) out
  (repeat (first | refine FW.seq ?_ | refine FW.region ?_ | refine FW.block ?_ | refine FW.skip ?_ | refine zd.nil ?_ | refine za rfl rfl rfl ?_))
  refine FW.loop (fun a : Nat => ⟨[(0, .eptr 2 [[.int .i64 n, .list 1 S]] 0 0), (3, .own 100 0 0 n), (4, .own 101 0 0 n), (5, .own 102 0 0 k), (6, .int .i64 a), (18, .int .i64 n), (19, .int .i64 k)], [(100, ⟨0, .own, 3, 1, (zdV R n out).map zO⟩), (101, ⟨0, .own, 4, 1, (zbV n out).map bof⟩), (102, ⟨0, .own, 3, 1, out.map yw⟩)]⟩) (fun a => a ≤ p) (fun a => p - a) 0 (Nat.zero_le _) ?_ ?_
  ·exact (FLe.conv [⟨100, some 100, 0, ⟨0, .own, 3, 1, (zdV R n out).map zO⟩⟩, ⟨101, some 101, 0, ⟨0, .own, 4, 1, (zbV n out).map bof⟩⟩, ⟨102, some 102, 0, ⟨0, .own, 3, 1, out.map yw⟩⟩] (by simp) (by simp) rfl (by repeat (first | exact .nil | refine .low rfl ?_ | refine .same rfl ?_ | refine .bump (Nat.lt_succ_self _) ?_)) (by repeat (first | exact .nil | refine .old rfl (by decide) rfl ?_)) (by repeat (first | exact .nil | refine .cons (.plain rfl rfl rfl) ?_ | refine .cons (.own rfl (.head _) rfl rfl) ?_ | refine .cons (.own rfl (.tail _ (.head _)) rfl rfl) ?_ | refine .cons (.own rfl (.tail _ (.tail _ (.head _))) rfl rfl) ?_)))
  intro a ha
  have han : a < n := by omega
  have hwn := VM (R := R) (out := out) han
  have hdn := Vz (n := n) (out := out) han
  have hbl : zf3 R n out a = (decide (a ∈ out) || decide (0 < zaL R n out a)) := rfl
  obtain ⟨q, hq⟩ : ∃ q, decide (a ∈ out) = q := ⟨_, rfl⟩
  rw [hq] at hdn hbl
  (repeat (first | refine FW.seq ?_ | refine FW.region ?_ | refine zb rfl rfl rfl ?_ | refine zm rfl rfl rfl rfl rfl (by first | omega | (simp; omega)) (by first | exact zc (by omega) | rfl) rfl rfl rfl rfl ?_ | refine zB rfl rfl rfl rfl rfl rfl (by decide) rfl (by first | omega | (simp; omega)) rfl rfl ?_))
  rw [hdn]
  cases q with
  | true =>
   have hbt : zf3 R n out a = true := by rw [hbl, Bool.true_or]
   have hne : a ≠ p := fun e => by rw [e, p2] at hbt; cases hbt
   (repeat (first | refine FW.region ?_ | refine FW.block ?_ | refine FW.skip ?_ | refine FW.condT rfl ?_ | refine zd.nil ?_ | refine za rfl rfl rfl ?_ | refine zb rfl rfl rfl ?_ | refine zC rfl rfl rfl rfl ?_ | refine zh rfl rfl (by omega) rfl rfl ?_ | refine zS rfl rfl ⟨_, _, rfl, rfl, rfl⟩ ?_))
   exact ⟨a + 1, by omega, by omega, (FLe.conv [⟨100, some 100, 0, ⟨0, .own, 3, 1, (zdV R n out).map zO⟩⟩, ⟨101, some 101, 0, ⟨0, .own, 4, 1, (zbV n out).map bof⟩⟩, ⟨102, some 102, 0, ⟨0, .own, 3, 1, out.map yw⟩⟩] (by simp) (by simp) rfl (by repeat (first | exact .nil | refine .low rfl ?_ | refine .same rfl ?_ | refine .bump (Nat.lt_succ_self _) ?_)) (by repeat (first | exact .nil | refine .old rfl (by decide) rfl ?_)) (by repeat (first | exact .nil | refine .cons (.plain rfl rfl rfl) ?_ | refine .cons (.own rfl (.head _) rfl rfl) ?_ | refine .cons (.own rfl (.tail _ (.head _)) rfl rfl) ?_ | refine .cons (.own rfl (.tail _ (.tail _ (.head _))) rfl rfl) ?_)))⟩
  | false =>
   rw [Bool.false_or] at hbl
   (repeat (first | refine zd.nil ?_ | refine zH rfl rfl rfl rfl ?_ | refine zb rfl rfl ⟨_, _, rfl, rfl, rfl⟩ ?_ | refine zB rfl rfl rfl rfl rfl rfl (by decide) rfl (by first | omega | (simp; omega)) rfl ⟨_, _, rfl, rfl, rfl⟩ ?_ | refine zm rfl rfl rfl rfl rfl (by first | omega | (simp; omega)) (by first | exact zc (by omega) | rfl) rfl rfl rfl ⟨_, _, rfl, rfl, rfl⟩ ?_ | refine zeE rfl rfl rfl ⟨_, _, rfl, rfl, rfl⟩ ?_))
   rw [hwn]
   skip
   refine FW.cond rfl (fun h => ?_) (fun h => ?_)
   ·have hbt : zf3 R n out a = true := by
     rw [hbl]
     have h : 0 < (zaL R n out a : Int) := by simpa using h
     exact decide_eq_true (by omega)
    have hne : a ≠ p := fun e => by rw [e, p2] at hbt; cases hbt
    (repeat (first | refine FW.region ?_ | refine FW.block ?_ | refine FW.skip ?_ | refine zd.nil ?_ | refine za rfl rfl rfl ?_ | refine zb rfl rfl rfl ?_ | refine zh rfl rfl (by omega) rfl rfl ?_))
    exact ⟨a + 1, by omega, by omega, (FLe.conv [⟨100, some 100, 0, ⟨0, .own, 3, 1, (zdV R n out).map zO⟩⟩, ⟨101, some 101, 0, ⟨0, .own, 4, 1, (zbV n out).map bof⟩⟩, ⟨102, some 102, 0, ⟨0, .own, 3, 1, out.map yw⟩⟩] (by simp) (by simp) rfl (by repeat (first | exact .nil | refine .low rfl ?_ | refine .same rfl ?_ | refine .bump (Nat.lt_succ_self _) ?_)) (by repeat (first | exact .nil | refine .old rfl (by decide) rfl ?_)) (by repeat (first | exact .nil | refine .cons (.plain rfl rfl rfl) ?_ | refine .cons (.own rfl (.head _) rfl rfl) ?_ | refine .cons (.own rfl (.tail _ (.head _)) rfl rfl) ?_ | refine .cons (.own rfl (.tail _ (.tail _ (.head _))) rfl rfl) ?_)))⟩
   ·have hap : a = p := by
     refine Classical.byContradiction fun hne => ?_
     have h1 := p3 a (by omega)
     rw [hbl] at h1
     have h1 : 0 < zaL R n out a := of_decide_eq_true h1
     have h : ¬ 0 < (zaL R n out a : Int) := by simpa using h
     omega
    subst hap
    have hno : a ∉ out := of_decide_eq_false hq
    have hda := zh2 (n := n) (out := out) han
    have hd0 := zeZ (R := R) (n := n) out a
    have hdall := zgb (R := R) (n := n) out a
    have hoe : (out ++ [a]).map yw = out.map yw ++ [yw a] := by rw [List.map_append]; rfl
    (repeat (first | refine FW.seq ?_ | refine FW.region ?_ | refine FW.block ?_ | refine FW.exit ?_ | refine zd.nil ?_ | refine za rfl rfl rfl ?_ | refine zb rfl rfl rfl ?_ | refine Vb rfl rfl rfl ?_ | refine zI rfl rfl rfl rfl rfl rfl rfl ?_ | refine zq rfl rfl rfl (by first | omega | (simp; omega) | (simp; done)) (by first | exact zc (by omega) | rfl) rfl rfl rfl rfl ?_ | refine zB rfl rfl rfl rfl rfl rfl (by decide) rfl (by first | omega | (simp; omega) | (simp; done)) rfl rfl ?_ | refine yg rfl rfl rfl rfl rfl rfl (by first | omega | (simp; omega) | (simp; done)) (by first | exact zc (by omega) | rfl) rfl rfl rfl ?_ | refine yM rfl rfl rfl rfl rfl rfl rfl rfl ?_ | refine xQ rfl rfl (by first | rfl | (simp; done) | omega | (simp; omega)) rfl rfl rfl (by decide) (by exact WF.own rfl rfl (by decide) (by first | exact List.length_map _ | exact (List.length_map _).symm | exact List.length_replicate | rfl | (simp; done) | omega | (simp; omega))) (by first | omega | (simp; omega) | (simp; done)) (by first | omega | (simp; omega) | (simp; done)) rfl rfl rfl ?_))
    refine FW.loop (fun b : Nat => ⟨[(0, .eptr 2 [[.int .i64 n, .list 1 S]] 0 0), (3, .own 100 0 0 n), (4, .own 101 0 0 n), (5, .own 102 0 0 (k + 1)), (6, .int .i64 a), (18, .int .i64 n), (19, .int .i64 k), (44, .int .i64 n), (45, .int .i64 b)], [(100, ⟨0, .own, 3, 1, (Xv R n out a b).map zO⟩), (101, ⟨0, .own, 4, 1, (zbV n (out ++ [a])).map bof⟩), (102, ⟨0, .own, 3, 1, (out ++ [a]).map yw⟩)]⟩) (fun b => b ≤ n) (fun b => n - b) 0 (Nat.zero_le _) ?_ ?_
    ·rw [hd0, hda, hoe, List.map_set]
     exact (FLe.conv [⟨100, some 100, 0, ⟨0, .own, 3, 1, (zdV R n out).map zO⟩⟩, ⟨101, some 101, 0, ⟨0, .own, 4, 1, ((zbV n out).map bof).set a (bof true)⟩⟩, ⟨102, some 40, 0 + 1, ⟨0, .own, 3, 1, out.map yw ++ [yw a]⟩⟩] (by simp) (by simp) rfl (by repeat (first | exact .nil | refine .low rfl ?_ | refine .same rfl ?_ | refine .bump (Nat.lt_succ_self _) ?_)) (by repeat (first | exact .nil | refine .old rfl (by decide) (by first | rfl | (simp; omega)) ?_)) (by repeat (first | exact .nil | refine .cons (.plain rfl rfl (by first | rfl | (simp; omega))) ?_ | refine .cons (.own rfl (.head _) rfl (by first | rfl | (simp; omega))) ?_ | refine .cons (.own rfl (.tail _ (.head _)) rfl (by first | rfl | (simp; omega))) ?_ | refine .cons (.own rfl (.tail _ (.tail _ (.head _))) rfl (by first | rfl | (simp; omega))) ?_)))
    intro b hb
    (repeat (first | refine FW.seq ?_ | refine FW.region ?_ | refine zd.nil ?_ | refine zN rfl rfl rfl rfl ?_))
    refine FW.cond rfl (fun h => ?_) (fun h => ?_)
    ·have hltb : b < n := by simpa using h
     clear h
     have hl := hls a b han hltb
     have hy := fun h => zgc (R := R) han hno hltb h
     have hn0 := fun h => zh1 (R := R) (b := b) han hno h
     have hbl := xg (R := R) (n := n) out a b
     have hbi := zh0 (R := R) (out := out) (a := a) (b := b) hltb
     generalize Xv R n out a b = Z at hy hn0 hbl hbi
     obtain ⟨z, hz⟩ : ∃ z, nth Z b = z := ⟨_, rfl⟩
     rw [hz] at hy hbi
     (repeat (first | refine FW.seq ?_ | refine FW.region ?_ | refine FW.block ?_ | refine FW.skip ?_ | refine zd.nil ?_ | refine za rfl rfl rfl ?_ | refine zb rfl rfl rfl ?_))
     refine zD hl (by repeat (first | exact zg.nil | refine zg.cons (by exact yc.plain rfl rfl) ?_)) rfl rfl ?_
     (repeat (first | refine zd.nil ?_))
     refine FW.cond rfl (fun h => ?_) (fun h => ?_)
     ·have hy := hy h
      (repeat (first | refine FW.region ?_ | refine zd.nil ?_ | refine zb rfl rfl rfl ?_ | refine zm rfl rfl rfl rfl rfl (by first | omega | (simp; omega)) (by first | exact zc (by omega) | rfl) rfl rfl rfl rfl ?_ | refine zB rfl rfl rfl rfl rfl rfl (by decide) rfl (by first | omega | (simp; omega)) rfl rfl ?_ | refine zh rfl rfl (by omega) rfl rfl ?_ | refine yg rfl rfl rfl rfl rfl rfl (by first | omega | (simp; omega)) (by first | exact zc (by omega) | rfl) rfl rfl rfl ?_ | refine zcY rfl rfl (by omega) rfl rfl ?_))
      rw [hz]
      skip
      refine ⟨b + 1, by omega, by omega, ?_⟩
      rw [hy, List.map_set]
      exact (FLe.conv [⟨100, some 100, 0, ⟨0, .own, 3, 1, (Z.map zO).set b (zO (z - 1))⟩⟩, ⟨101, some 101, 0, ⟨0, .own, 4, 1, (zbV n (out ++ [a])).map bof⟩⟩, ⟨102, some 102, 0, ⟨0, .own, 3, 1, (out ++ [a]).map yw⟩⟩] (by simp) (by simp) rfl (by repeat (first | exact .nil | refine .low rfl ?_ | refine .same rfl ?_ | refine .bump (Nat.lt_succ_self _) ?_)) (by repeat (first | exact .nil | refine .old rfl (by decide) rfl ?_)) (by repeat (first | exact .nil | refine .cons (.plain rfl rfl rfl) ?_ | refine .cons (.own rfl (.head _) rfl rfl) ?_ | refine .cons (.own rfl (.tail _ (.head _)) rfl rfl) ?_ | refine .cons (.own rfl (.tail _ (.tail _ (.head _))) rfl rfl) ?_)))
     ·have hn0 := hn0 h
      (repeat (first | refine FW.region ?_ | refine FW.skip ?_ | refine zd.nil ?_ | refine zb rfl rfl rfl ?_ | refine zh rfl rfl (by omega) rfl rfl ?_))
      refine ⟨b + 1, by omega, by omega, ?_⟩
      rw [hn0]
      exact (FLe.conv [⟨100, some 100, 0, ⟨0, .own, 3, 1, Z.map zO⟩⟩, ⟨101, some 101, 0, ⟨0, .own, 4, 1, (zbV n (out ++ [a])).map bof⟩⟩, ⟨102, some 102, 0, ⟨0, .own, 3, 1, (out ++ [a]).map yw⟩⟩] (by simp) (by simp) rfl (by repeat (first | exact .nil | refine .low rfl ?_ | refine .same rfl ?_ | refine .bump (Nat.lt_succ_self _) ?_)) (by repeat (first | exact .nil | refine .old rfl (by decide) rfl ?_)) (by repeat (first | exact .nil | refine .cons (.plain rfl rfl rfl) ?_ | refine .cons (.own rfl (.head _) rfl rfl) ?_ | refine .cons (.own rfl (.tail _ (.head _)) rfl rfl) ?_ | refine .cons (.own rfl (.tail _ (.tail _ (.head _))) rfl rfl) ?_)))
    ·obtain rfl : b = n := by simp at h; omega
     (repeat (first | refine FW.region ?_ | refine FW.exit ?_ | refine zd.nil ?_ | refine zb rfl rfl rfl ?_ | refine zh rfl rfl (by omega) rfl rfl ?_))
     refine ⟨k + 1, by omega, by omega, ?_⟩
     rw [hes, ← hdall]
     exact (FLe.conv [⟨100, some 100, 0, ⟨0, .own, 3, 1, (Xv R b out a b).map zO⟩⟩, ⟨101, some 101, 0, ⟨0, .own, 4, 1, (zbV b (out ++ [a])).map bof⟩⟩, ⟨102, some 102, 0, ⟨0, .own, 3, 1, (out ++ [a]).map yw⟩⟩] (by simp) (by simp) rfl (by repeat (first | exact .nil | refine .low rfl ?_ | refine .same rfl ?_ | refine .bump (Nat.lt_succ_self _) ?_)) (by repeat (first | exact .nil | refine .old rfl (by decide) rfl ?_)) (by repeat (first | exact .nil | refine .cons (.plain rfl rfl rfl) ?_ | refine .cons (.own rfl (.head _) rfl rfl) ?_ | refine .cons (.own rfl (.tail _ (.head _)) rfl rfl) ?_ | refine .cons (.own rfl (.tail _ (.tail _ (.head _))) rfl rfl) ?_)))
 ·obtain rfl : k = n := by simp at h; omega
  (repeat (first | refine FW.seq ?_ | refine FW.region ?_ | refine FW.exit ?_ | refine zd.nil ?_ | refine za rfl rfl rfl ?_ | refine zb rfl rfl rfl ?_))
  exact FW.ret ⟨.inl rfl, Ze rfl rfl rfl (by rw [List.length_map, xh]) (by decide) rfl (fun e he => by obtain ⟨b, _, rfl⟩ := List.mem_map.1 he; rfl)⟩
end Go.Proofs.Ytbeebjdnapkhhaa
