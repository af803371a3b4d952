/-
  poset.Order's Linear, at plain values.
-/
import Derived.Test.YtbeebjdnapkhhaaZFmOrd
namespace Go.Proofs.Ytbeebjdnapkhhaa
set_option linter.unusedVariables false
open Go.RowKit

def zd8 (R : Nat → Nat → Bool) (n : Nat) (out : List Nat) : List Int := (List.range n).map fun b => (zaI R n out b : Int)
def zb2 (n : Nat) (out : List Nat) : List Bool := (List.range n).map fun a => decide (a ∈ out)
def Xp (R : Nat → Nat → Bool) (n : Nat) (out : List Nat) (a b : Nat) : List Int := (List.range n).map fun j => if j < b then (zaI R n (out ++ [a]) j : Int) else (zaI R n out j : Int)
section
variable {R : Nat → Nat → Bool} {n : Nat}
theorem Xn (out : List Nat) : (zd8 R n out).length = n := by simp [zd8]
theorem Xd (out : List Nat) : (zb2 n out).length = n := by simp [zb2]
theorem xd (out : List Nat) (a b : Nat) : (Xp R n out a b).length = n := by simp [Xp]
theorem VA {out : List Nat} {j : Nat} (h : j < n) : nth (zd8 R n out) j = zaI R n out j := by unfold zd8; rw [zg (by simpa using h)]; simp
theorem Vn {out : List Nat} {j : Nat} (h : j < n) : nth (zb2 n out) j = decide (j ∈ out) := by unfold zb2; rw [zg (by simpa using h)]; simp
theorem xU {out : List Nat} {a b j : Nat} (h : j < n) : nth (Xp R n out a b) j = if j < b then (zaI R n (out ++ [a]) j : Int) else (zaI R n out j : Int) := by unfold Xp; rw [zg (by simpa using h)]; simp
theorem zjc : zd8 R n [] = zag R n n 0 := by
 refine zC (by rw [Xn, xk]) fun i hi => ?_
 rw [Xn] at hi
 rw [VA hi, xO hi]
 unfold zaI
 simp
theorem zih : zb2 n [] = List.replicate n false := by
 refine zC (by simp [Xd]) fun i hi => ?_
 rw [Xd] at hi
 rw [Vn hi, zg (show i < (List.replicate n false).length by simpa using hi)]
 simp
theorem zig {out : List Nat} {a : Nat} (ha : a < n) : zb2 n (out ++ [a]) = (zb2 n out).set a true := by
 refine zC (by simp [Xd]) fun i hi => ?_
 rw [Xd] at hi
 rw [Vn hi, yU (by rw [Xd]; exact hi), Vn hi]
 by_cases e : a = i
 ·subst e; simp
 ·rw [if_neg e]
  have : ¬ i = a := fun e2 => e e2.symm
  simp [this]
theorem zfb (out : List Nat) (a : Nat) : Xp R n out a 0 = zd8 R n out := by
 refine zC (by rw [xd, Xn]) fun i hi => ?_
 rw [xd] at hi
 rw [xU hi, VA hi, if_neg (by omega)]
theorem zgq (out : List Nat) (a : Nat) : Xp R n out a n = zd8 R n (out ++ [a]) := by
 refine zC (by rw [xd, Xn]) fun i hi => ?_
 rw [xd] at hi
 rw [xU hi, VA hi, if_pos hi]
theorem zgr {out : List Nat} {a b : Nat} (ha : a < n) (hno : a ∉ out) (hb : b < n) (h : R a b = true) : Xp R n out a (b + 1) = (Xp R n out a b).set b (nth (Xp R n out a b) b - 1) := by
 refine zC (by simp [xd]) fun i hi => ?_
 rw [xd] at hi
 rw [yU (by rw [xd]; exact hi), xU hi, xU hi, xU hb]
 by_cases e : b = i
 ·subst e
  rw [if_pos (by omega), if_pos rfl, if_neg (by omega)]
  have := zen (R := R) (b := b) ha hno
  rw [if_pos h] at this
  omega
 ·rw [if_neg e]
  by_cases h2 : i < b
  ·rw [if_pos h2, if_pos (by omega)]
  ·rw [if_neg h2, if_neg (by omega)]
theorem zif {out : List Nat} {a b : Nat} (ha : a < n) (hno : a ∉ out) (h : R a b = false) : Xp R n out a (b + 1) = Xp R n out a b := by
 refine zC (by simp [xd]) fun i hi => ?_
 rw [xd] at hi
 rw [xU hi, xU hi]
 by_cases e : b = i
 ·subst e
  rw [if_pos (by omega), if_neg (by omega)]
  have := zen (R := R) (b := b) ha hno
  rw [if_neg (by rw [h]; decide)] at this
  omega
 ·by_cases h2 : i < b
  ·rw [if_pos h2, if_pos (by omega)]
  ·rw [if_neg h2, if_neg (by omega)]
theorem zie {out : List Nat} {a b j : Nat} (h : j < n) : 0 ≤ nth (Xp R n out a b) j ∧ nth (Xp R n out a b) j ≤ n := by
 rw [xU h]
 have := zgp (R := R) (n := n) out j
 have := zgp (R := R) (n := n) (out ++ [a]) j
 split <;> omega
end
set_option maxHeartbeats 8000000 in
theorem Ur (n : Nat) (R : Nat → Nat → Bool) (hn : n ≤ 1000000) (hr : zb8 R n) : zZ Try.prog 60 [zh0 n R] (.ow 3 1) (.list 1 ((yF R n n).map yp)) := by
 have hls := fun a b => zaX n R a b hn
 have hbe := ze5 n R hn
 rw [← zjc] at hbe
 have hw0 := Xn (R := R) (n := n) []
 unfold zh0 zkm at hls hbe ⊢
 obtain ⟨S, hS⟩ : ∃ S, (List.range n).map (setRow n R) = S := ⟨_, rfl⟩
 rw [hS] at hls hbe ⊢
 refine zZ.of_body (c := (Zf Try.prog zE zA 61)) ⟨Try.func60, rfl, Try.ntmps60, by kernel_rfl⟩ (by simp [FV.hand]) (by exact Nat.le_of_ble_eq_true rfl) rfl ?_
 change FW _ _ _ ⟨[(0, .eptr 2 [[.int .i64 n, .list 1 S]] 0 0)], []⟩
 (repeat (first | refine FW.seq ?_ | refine FW.region ?_ | refine zc.nil ?_ | refine za rfl rfl rfl ?_ | refine zb rfl rfl rfl ?_))
 refine yh hbe (by repeat (first | exact zh.nil | refine zh.cons (by exact ym.plain rfl rfl) ?_)) (List.length_map _) rfl rfl rfl ?_
 rw [hw0]
 (repeat (first | refine FW.seq ?_ | refine FW.region ?_ | refine FW.block ?_ | refine zc.nil ?_ | refine za rfl rfl rfl ?_ | refine zb rfl rfl rfl ?_ | refine WN rfl rfl rfl ?_ | refine zW rfl rfl rfl rfl rfl rfl rfl ?_ | refine zB rfl rfl rfl (by first | omega | (simp; done)) rfl rfl rfl rfl rfl ?_ | refine UL rfl rfl rfl rfl rfl rfl rfl rfl (by first | omega | (simp; done)) (by first | omega | (simp; done)) rfl rfl rfl ?_))
 refine FW.loop (fun k : Nat => ⟨[(0, .eptr 2 [[.int .i64 n, .list 1 S]] 0 0), (3, .own 100 0 0 n), (4, .own 101 0 0 n), (5, .own 102 0 0 k), (18, .int .i64 n), (19, .int .i64 k)], [(100, ⟨0, .own, 3, 1, (zd8 R n (yF R n k)).map zH⟩), (101, ⟨0, .own, 4, 1, (zb2 n (yF R n k)).map bof⟩), (102, ⟨0, .own, 3, 1, (yF R n k).map yp⟩)]⟩) (fun k => k ≤ n) (fun k => n - k) 0 (Nat.zero_le _) ?_ ?_
 ·show FLe _ ⟨[(0, .eptr 2 [[.int .i64 n, .list 1 S]] 0 0), (3, .own 100 0 0 n), (4, .own 101 0 0 n), (5, .own 102 0 0 0), (18, .int .i64 n), (19, .int .i64 0)], [(100, ⟨0, .own, 3, 1, (zd8 R n []).map zH⟩), (101, ⟨0, .own, 4, 1, (zb2 n []).map bof⟩), (102, ⟨0, .own, 3, 1, []⟩)]⟩
  rw [zih, List.map_replicate]
  exact (FLe.conv [⟨100, some 9, 0 + 1, ⟨0, .own, 3, 1, (zd8 R n []).map zH⟩⟩, ⟨101, some 14, 0 + 1, ⟨0, .own, 4, 1, List.replicate n (bof false)⟩⟩, ⟨102, none, 0, ⟨0, .own, 3, 1, []⟩⟩] (by simp) (by simp) rfl (by repeat (first | exact .nil | refine .low rfl ?_ | refine .same rfl ?_ | refine .bump (Nat.lt_succ_self _) ?_)) (by repeat (first | exact .nil | refine .old rfl (by decide) rfl ?_ | refine .new ?_)) (by repeat (first | exact .nil | refine .cons (.plain rfl rfl rfl) ?_ | refine .cons (.own rfl (.head _) rfl rfl) ?_ | refine .cons (.own rfl (.tail _ (.head _)) rfl rfl) ?_ | refine .cons (.nil rfl (.tail _ (.tail _ (.head _))) rfl) ?_)))
 intro k hk
 (repeat (first | refine FW.seq ?_ | refine FW.region ?_ | refine zc.nil ?_ | refine zJ rfl rfl rfl rfl ?_))
 refine FW.cond rfl (fun h => ?_) (fun h => ?_)
 ·have hlt : k < n := by simpa using h
  clear h
  have hel := xe (R := R) (n := n) k
  have hes : yF R n (k + 1) = yF R n k ++ [UC R n (yF R n k)] := rfl
  have hpk := zdZ hr (out := yF R n k) (by rw [hel]; exact hlt)
  generalize yF R n k = out at hel hes hpk
  obtain ⟨p, hp⟩ : ∃ p, UC R n out = p := ⟨_, rfl⟩
  rw [hp] at hes hpk
  obtain ⟨p1, p2, p3⟩ := hpk
  have hwl := Xn (R := R) (n := n) out
  have hdl := Xd (n := n) out
  (repeat (first | refine FW.seq ?_ | refine FW.region ?_ | refine FW.block ?_ | refine FW.skip ?_ | refine zc.nil ?_ | refine za rfl rfl rfl ?_))
  refine FW.loop (fun a : Nat => ⟨[(0, .eptr 2 [[.int .i64 n, .list 1 S]] 0 0), (3, .own 100 0 0 n), (4, .own 101 0 0 n), (5, .own 102 0 0 k), (6, .int .i64 a), (18, .int .i64 n), (19, .int .i64 k)], [(100, ⟨0, .own, 3, 1, (zd8 R n out).map zH⟩), (101, ⟨0, .own, 4, 1, (zb2 n out).map bof⟩), (102, ⟨0, .own, 3, 1, out.map yp⟩)]⟩) (fun a => a ≤ p) (fun a => p - a) 0 (Nat.zero_le _) ?_ ?_
  ·exact (FLe.conv [⟨100, some 100, 0, ⟨0, .own, 3, 1, (zd8 R n out).map zH⟩⟩, ⟨101, some 101, 0, ⟨0, .own, 4, 1, (zb2 n out).map bof⟩⟩, ⟨102, some 102, 0, ⟨0, .own, 3, 1, out.map yp⟩⟩] (by simp) (by simp) rfl (by repeat (first | exact .nil | refine .low rfl ?_ | refine .same rfl ?_ | refine .bump (Nat.lt_succ_self _) ?_)) (by repeat (first | exact .nil | refine .old rfl (by decide) rfl ?_)) (by repeat (first | exact .nil | refine .cons (.plain rfl rfl rfl) ?_ | refine .cons (.own rfl (.head _) rfl rfl) ?_ | refine .cons (.own rfl (.tail _ (.head _)) rfl rfl) ?_ | refine .cons (.own rfl (.tail _ (.tail _ (.head _))) rfl rfl) ?_)))
  intro a ha
  have han : a < n := by omega
  have hwn := VA (R := R) (out := out) han
  have hdn := Vn (n := n) (out := out) han
  have hbl : zgj R n out a = (decide (a ∈ out) || decide (0 < zaI R n out a)) := rfl
  obtain ⟨q, hq⟩ : ∃ q, decide (a ∈ out) = q := ⟨_, rfl⟩
  rw [hq] at hdn hbl
  (repeat (first | refine FW.seq ?_ | refine FW.region ?_ | refine zb rfl rfl rfl ?_ | refine zt rfl rfl rfl rfl rfl (by first | omega | (simp; omega)) (by first | exact zd (by omega) | rfl) rfl rfl rfl rfl ?_ | refine zy rfl rfl rfl rfl rfl rfl (by decide) rfl (by first | omega | (simp; omega)) rfl rfl ?_))
  rw [hdn]
  cases q with
  | true =>
   have hbt : zgj R n out a = true := by rw [hbl, Bool.true_or]
   have hne : a ≠ p := fun e => by rw [e, p2] at hbt; cases hbt
   (repeat (first | refine FW.region ?_ | refine FW.block ?_ | refine FW.skip ?_ | refine FW.condT rfl ?_ | refine zc.nil ?_ | refine za rfl rfl rfl ?_ | refine zb rfl rfl rfl ?_ | refine zN rfl rfl rfl rfl ?_ | refine zm rfl rfl (by omega) rfl rfl ?_ | refine yt rfl rfl ⟨_, _, rfl, rfl, rfl⟩ ?_))
   exact ⟨a + 1, by omega, by omega, (FLe.conv [⟨100, some 100, 0, ⟨0, .own, 3, 1, (zd8 R n out).map zH⟩⟩, ⟨101, some 101, 0, ⟨0, .own, 4, 1, (zb2 n out).map bof⟩⟩, ⟨102, some 102, 0, ⟨0, .own, 3, 1, out.map yp⟩⟩] (by simp) (by simp) rfl (by repeat (first | exact .nil | refine .low rfl ?_ | refine .same rfl ?_ | refine .bump (Nat.lt_succ_self _) ?_)) (by repeat (first | exact .nil | refine .old rfl (by decide) rfl ?_)) (by repeat (first | exact .nil | refine .cons (.plain rfl rfl rfl) ?_ | refine .cons (.own rfl (.head _) rfl rfl) ?_ | refine .cons (.own rfl (.tail _ (.head _)) rfl rfl) ?_ | refine .cons (.own rfl (.tail _ (.tail _ (.head _))) rfl rfl) ?_)))⟩
  | false =>
   rw [Bool.false_or] at hbl
   (repeat (first | refine zc.nil ?_ | refine zM rfl rfl rfl rfl ?_ | refine zb rfl rfl ⟨_, _, rfl, rfl, rfl⟩ ?_ | refine zy rfl rfl rfl rfl rfl rfl (by decide) rfl (by first | omega | (simp; omega)) rfl ⟨_, _, rfl, rfl, rfl⟩ ?_ | refine zt rfl rfl rfl rfl rfl (by first | omega | (simp; omega)) (by first | exact zd (by omega) | rfl) rfl rfl rfl ⟨_, _, rfl, rfl, rfl⟩ ?_ | refine zc8 rfl rfl rfl ⟨_, _, rfl, rfl, rfl⟩ ?_))
   rw [hwn]
   skip
   refine FW.cond rfl (fun h => ?_) (fun h => ?_)
   ·have hbt : zgj R n out a = true := by
     rw [hbl]
     have h : 0 < (zaI R n out a : Int) := by simpa using h
     exact decide_eq_true (by omega)
    have hne : a ≠ p := fun e => by rw [e, p2] at hbt; cases hbt
    (repeat (first | refine FW.region ?_ | refine FW.block ?_ | refine FW.skip ?_ | refine zc.nil ?_ | refine za rfl rfl rfl ?_ | refine zb rfl rfl rfl ?_ | refine zm rfl rfl (by omega) rfl rfl ?_))
    exact ⟨a + 1, by omega, by omega, (FLe.conv [⟨100, some 100, 0, ⟨0, .own, 3, 1, (zd8 R n out).map zH⟩⟩, ⟨101, some 101, 0, ⟨0, .own, 4, 1, (zb2 n out).map bof⟩⟩, ⟨102, some 102, 0, ⟨0, .own, 3, 1, out.map yp⟩⟩] (by simp) (by simp) rfl (by repeat (first | exact .nil | refine .low rfl ?_ | refine .same rfl ?_ | refine .bump (Nat.lt_succ_self _) ?_)) (by repeat (first | exact .nil | refine .old rfl (by decide) rfl ?_)) (by repeat (first | exact .nil | refine .cons (.plain rfl rfl rfl) ?_ | refine .cons (.own rfl (.head _) rfl rfl) ?_ | refine .cons (.own rfl (.tail _ (.head _)) rfl rfl) ?_ | refine .cons (.own rfl (.tail _ (.tail _ (.head _))) rfl rfl) ?_)))⟩
   ·have hap : a = p := by
     refine Classical.byContradiction fun hne => ?_
     have h1 := p3 a (by omega)
     rw [hbl] at h1
     have h1 : 0 < zaI R n out a := of_decide_eq_true h1
     have h : ¬ 0 < (zaI R n out a : Int) := by simpa using h
     omega
    subst hap
    have hno : a ∉ out := of_decide_eq_false hq
    have hda := zig (n := n) (out := out) han
    have hd0 := zfb (R := R) (n := n) out a
    have hdall := zgq (R := R) (n := n) out a
    have hoe : (out ++ [a]).map yp = out.map yp ++ [yp a] := by rw [List.map_append]; rfl
    (repeat (first | refine FW.seq ?_ | refine FW.region ?_ | refine FW.block ?_ | refine FW.exit ?_ | refine zc.nil ?_ | refine za rfl rfl rfl ?_ | refine zb rfl rfl rfl ?_ | refine WN rfl rfl rfl ?_ | refine zW rfl rfl rfl rfl rfl rfl rfl ?_ | refine zB rfl rfl rfl (by first | omega | (simp; omega) | (simp; done)) (by first | exact zd (by omega) | rfl) rfl rfl rfl rfl ?_ | refine zy rfl rfl rfl rfl rfl rfl (by decide) rfl (by first | omega | (simp; omega) | (simp; done)) rfl rfl ?_ | refine yc rfl rfl rfl rfl rfl rfl (by first | omega | (simp; omega) | (simp; done)) (by first | exact zd (by omega) | rfl) rfl rfl rfl ?_ | refine yJ rfl rfl rfl rfl rfl rfl rfl rfl ?_ | refine xD rfl rfl (by first | rfl | (simp; done) | omega | (simp; omega)) rfl rfl rfl (by decide) (by exact Xu.own rfl rfl (by decide) (by first | exact List.length_map _ | exact (List.length_map _).symm | exact List.length_replicate | rfl | (simp; done) | omega | (simp; omega))) (by first | omega | (simp; omega) | (simp; done)) (by first | omega | (simp; omega) | (simp; done)) rfl rfl rfl ?_))
    refine FW.loop (fun b : Nat => ⟨[(0, .eptr 2 [[.int .i64 n, .list 1 S]] 0 0), (3, .own 100 0 0 n), (4, .own 101 0 0 n), (5, .own 102 0 0 (k + 1)), (6, .int .i64 a), (18, .int .i64 n), (19, .int .i64 k), (44, .int .i64 n), (45, .int .i64 b)], [(100, ⟨0, .own, 3, 1, (Xp R n out a b).map zH⟩), (101, ⟨0, .own, 4, 1, (zb2 n (out ++ [a])).map bof⟩), (102, ⟨0, .own, 3, 1, (out ++ [a]).map yp⟩)]⟩) (fun b => b ≤ n) (fun b => n - b) 0 (Nat.zero_le _) ?_ ?_
    ·rw [hd0, hda, hoe, List.map_set]
     exact (FLe.conv [⟨100, some 100, 0, ⟨0, .own, 3, 1, (zd8 R n out).map zH⟩⟩, ⟨101, some 101, 0, ⟨0, .own, 4, 1, ((zb2 n out).map bof).set a (bof true)⟩⟩, ⟨102, some 40, 0 + 1, ⟨0, .own, 3, 1, out.map yp ++ [yp a]⟩⟩] (by simp) (by simp) rfl (by repeat (first | exact .nil | refine .low rfl ?_ | refine .same rfl ?_ | refine .bump (Nat.lt_succ_self _) ?_)) (by repeat (first | exact .nil | refine .old rfl (by decide) (by first | rfl | (simp; omega)) ?_)) (by repeat (first | exact .nil | refine .cons (.plain rfl rfl (by first | rfl | (simp; omega))) ?_ | refine .cons (.own rfl (.head _) rfl (by first | rfl | (simp; omega))) ?_ | refine .cons (.own rfl (.tail _ (.head _)) rfl (by first | rfl | (simp; omega))) ?_ | refine .cons (.own rfl (.tail _ (.tail _ (.head _))) rfl (by first | rfl | (simp; omega))) ?_)))
    intro b hb
    (repeat (first | refine FW.seq ?_ | refine FW.region ?_ | refine zc.nil ?_ | refine zJ rfl rfl rfl rfl ?_))
    refine FW.cond rfl (fun h => ?_) (fun h => ?_)
    ·have hltb : b < n := by simpa using h
     clear h
     have hl := hls a b han hltb
     have hy := fun h => zgr (R := R) han hno hltb h
     have hn0 := fun h => zif (R := R) (b := b) han hno h
     have hbl := xd (R := R) (n := n) out a b
     have hbi := zie (R := R) (out := out) (a := a) (b := b) hltb
     generalize Xp R n out a b = Z at hy hn0 hbl hbi
     obtain ⟨z, hz⟩ : ∃ z, nth Z b = z := ⟨_, rfl⟩
     rw [hz] at hy hbi
     (repeat (first | refine FW.seq ?_ | refine FW.region ?_ | refine FW.block ?_ | refine FW.skip ?_ | refine zc.nil ?_ | refine za rfl rfl rfl ?_ | refine zb rfl rfl rfl ?_))
     refine zK hl (by repeat (first | exact zh.nil | refine zh.cons (by exact ym.plain rfl rfl) ?_)) rfl rfl ?_
     (repeat (first | refine zc.nil ?_))
     refine FW.cond rfl (fun h => ?_) (fun h => ?_)
     ·have hy := hy h
      (repeat (first | refine FW.region ?_ | refine zc.nil ?_ | refine zb rfl rfl rfl ?_ | refine zt rfl rfl rfl rfl rfl (by first | omega | (simp; omega)) (by first | exact zd (by omega) | rfl) rfl rfl rfl rfl ?_ | refine zy rfl rfl rfl rfl rfl rfl (by decide) rfl (by first | omega | (simp; omega)) rfl rfl ?_ | refine zm rfl rfl (by omega) rfl rfl ?_ | refine yc rfl rfl rfl rfl rfl rfl (by first | omega | (simp; omega)) (by first | exact zd (by omega) | rfl) rfl rfl rfl ?_ | refine zdd rfl rfl (by omega) rfl rfl ?_))
      rw [hz]
      skip
      refine ⟨b + 1, by omega, by omega, ?_⟩
      rw [hy, List.map_set]
      exact (FLe.conv [⟨100, some 100, 0, ⟨0, .own, 3, 1, (Z.map zH).set b (zH (z - 1))⟩⟩, ⟨101, some 101, 0, ⟨0, .own, 4, 1, (zb2 n (out ++ [a])).map bof⟩⟩, ⟨102, some 102, 0, ⟨0, .own, 3, 1, (out ++ [a]).map yp⟩⟩] (by simp) (by simp) rfl (by repeat (first | exact .nil | refine .low rfl ?_ | refine .same rfl ?_ | refine .bump (Nat.lt_succ_self _) ?_)) (by repeat (first | exact .nil | refine .old rfl (by decide) rfl ?_)) (by repeat (first | exact .nil | refine .cons (.plain rfl rfl rfl) ?_ | refine .cons (.own rfl (.head _) rfl rfl) ?_ | refine .cons (.own rfl (.tail _ (.head _)) rfl rfl) ?_ | refine .cons (.own rfl (.tail _ (.tail _ (.head _))) rfl rfl) ?_)))
     ·have hn0 := hn0 h
      (repeat (first | refine FW.region ?_ | refine FW.skip ?_ | refine zc.nil ?_ | refine zb rfl rfl rfl ?_ | refine zm rfl rfl (by omega) rfl rfl ?_))
      refine ⟨b + 1, by omega, by omega, ?_⟩
      rw [hn0]
      exact (FLe.conv [⟨100, some 100, 0, ⟨0, .own, 3, 1, Z.map zH⟩⟩, ⟨101, some 101, 0, ⟨0, .own, 4, 1, (zb2 n (out ++ [a])).map bof⟩⟩, ⟨102, some 102, 0, ⟨0, .own, 3, 1, (out ++ [a]).map yp⟩⟩] (by simp) (by simp) rfl (by repeat (first | exact .nil | refine .low rfl ?_ | refine .same rfl ?_ | refine .bump (Nat.lt_succ_self _) ?_)) (by repeat (first | exact .nil | refine .old rfl (by decide) rfl ?_)) (by repeat (first | exact .nil | refine .cons (.plain rfl rfl rfl) ?_ | refine .cons (.own rfl (.head _) rfl rfl) ?_ | refine .cons (.own rfl (.tail _ (.head _)) rfl rfl) ?_ | refine .cons (.own rfl (.tail _ (.tail _ (.head _))) rfl rfl) ?_)))
    ·obtain rfl : b = n := by simp at h; omega
     (repeat (first | refine FW.region ?_ | refine FW.exit ?_ | refine zc.nil ?_ | refine zb rfl rfl rfl ?_ | refine zm rfl rfl (by omega) rfl rfl ?_))
     refine ⟨k + 1, by omega, by omega, ?_⟩
     rw [hes, ← hdall]
     exact (FLe.conv [⟨100, some 100, 0, ⟨0, .own, 3, 1, (Xp R b out a b).map zH⟩⟩, ⟨101, some 101, 0, ⟨0, .own, 4, 1, (zb2 b (out ++ [a])).map bof⟩⟩, ⟨102, some 102, 0, ⟨0, .own, 3, 1, (out ++ [a]).map yp⟩⟩] (by simp) (by simp) rfl (by repeat (first | exact .nil | refine .low rfl ?_ | refine .same rfl ?_ | refine .bump (Nat.lt_succ_self _) ?_)) (by repeat (first | exact .nil | refine .old rfl (by decide) rfl ?_)) (by repeat (first | exact .nil | refine .cons (.plain rfl rfl rfl) ?_ | refine .cons (.own rfl (.head _) rfl rfl) ?_ | refine .cons (.own rfl (.tail _ (.head _)) rfl rfl) ?_ | refine .cons (.own rfl (.tail _ (.tail _ (.head _))) rfl rfl) ?_)))
 ·obtain rfl : k = n := by simp at h; omega
  (repeat (first | refine FW.seq ?_ | refine FW.region ?_ | refine FW.exit ?_ | refine zc.nil ?_ | refine za rfl rfl rfl ?_ | refine zb rfl rfl rfl ?_))
  exact FW.ret ⟨.inl rfl, Za rfl rfl rfl (by rw [List.length_map, xe]) (by decide) rfl (fun e he => by obtain ⟨b, _, rfl⟩ := List.mem_map.1 he; rfl)⟩
end Go.Proofs.Ytbeebjdnapkhhaa
