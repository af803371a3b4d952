/-
  poset.Order's Linear, at plain values.
-/
import Derived.Test.YtbeebjdnapkhhaaZFmOrd
namespace Go.Proofs.Ytbeebjdnapkhhaa
set_option linter.unusedVariables false
open Go.RowKit

def wtsW (R : Nat → Nat → Bool) (n : Nat) (out : List Nat) : List Int := (List.range n).map fun b => (cntW R n out b : Int)
def dnsW (n : Nat) (out : List Nat) : List Bool := (List.range n).map fun a => decide (a ∈ out)
def decTo (R : Nat → Nat → Bool) (n : Nat) (out : List Nat) (a b : Nat) : List Int := (List.range n).map fun j => if j < b then (cntW R n (out ++ [a]) j : Int) else (cntW R n out j : Int)
section
variable {R : Nat → Nat → Bool} {n : Nat}
theorem wtsW_len (out : List Nat) : (wtsW R n out).length = n := by simp [wtsW]
theorem dnsW_len (out : List Nat) : (dnsW n out).length = n := by simp [dnsW]
theorem decTo_len (out : List Nat) (a b : Nat) : (decTo R n out a b).length = n := by simp [decTo]
theorem wtsW_nth {out : List Nat} {j : Nat} (h : j < n) : nth (wtsW R n out) j = cntW R n out j := by unfold wtsW; rw [nth_eq (by simpa using h)]; simp
theorem dnsW_nth {out : List Nat} {j : Nat} (h : j < n) : nth (dnsW n out) j = decide (j ∈ out) := by unfold dnsW; rw [nth_eq (by simpa using h)]; simp
theorem decTo_nth {out : List Nat} {a b j : Nat} (h : j < n) : nth (decTo R n out a b) j = if j < b then (cntW R n (out ++ [a]) j : Int) else (cntW R n out j : Int) := by unfold decTo; rw [nth_eq (by simpa using h)]; simp
theorem wtsW_nil : wtsW R n [] = bel2 R n n 0 := by
 refine list_ext_nth (by rw [wtsW_len, bel2_len]) fun i hi => ?_
 rw [wtsW_len] at hi
 rw [wtsW_nth hi, bel2_nth hi]
 unfold cntW
 simp
theorem dnsW_nil : dnsW n [] = List.replicate n false := by
 refine list_ext_nth (by simp [dnsW_len]) fun i hi => ?_
 rw [dnsW_len] at hi
 rw [dnsW_nth hi, nth_eq (show i < (List.replicate n false).length by simpa using hi)]
 simp
theorem dnsW_add {out : List Nat} {a : Nat} (ha : a < n) : dnsW n (out ++ [a]) = (dnsW n out).set a true := by
 refine list_ext_nth (by simp [dnsW_len]) fun i hi => ?_
 rw [dnsW_len] at hi
 rw [dnsW_nth hi, nth_setB (by rw [dnsW_len]; exact hi), dnsW_nth hi]
 by_cases e : a = i
 ·subst e; simp
 ·rw [if_neg e]
  have : ¬ i = a := fun e2 => e e2.symm
  simp [this]
theorem decTo_zero (out : List Nat) (a : Nat) : decTo R n out a 0 = wtsW R n out := by
 refine list_ext_nth (by rw [decTo_len, wtsW_len]) fun i hi => ?_
 rw [decTo_len] at hi
 rw [decTo_nth hi, wtsW_nth hi, if_neg (by omega)]
theorem decTo_all (out : List Nat) (a : Nat) : decTo R n out a n = wtsW R n (out ++ [a]) := by
 refine list_ext_nth (by rw [decTo_len, wtsW_len]) fun i hi => ?_
 rw [decTo_len] at hi
 rw [decTo_nth hi, wtsW_nth hi, if_pos hi]
theorem decTo_yes {out : List Nat} {a b : Nat} (ha : a < n) (hno : a ∉ out) (hb : b < n) (h : R a b = true) : decTo R n out a (b + 1) = (decTo R n out a b).set b (nth (decTo R n out a b) b - 1) := by
 refine list_ext_nth (by simp [decTo_len]) fun i hi => ?_
 rw [decTo_len] at hi
 rw [nth_setB (by rw [decTo_len]; exact hi), decTo_nth hi, decTo_nth hi, decTo_nth hb]
 by_cases e : b = i
 ·subst e
  rw [if_pos (by omega), if_pos rfl, if_neg (by omega)]
  have := cntW_add (R := R) (b := b) ha hno
  rw [if_pos h] at this
  omega
 ·rw [if_neg e]
  by_cases h2 : i < b
  ·rw [if_pos h2, if_pos (by omega)]
  ·rw [if_neg h2, if_neg (by omega)]
theorem decTo_no {out : List Nat} {a b : Nat} (ha : a < n) (hno : a ∉ out) (h : R a b = false) : decTo R n out a (b + 1) = decTo R n out a b := by
 refine list_ext_nth (by simp [decTo_len]) fun i hi => ?_
 rw [decTo_len] at hi
 rw [decTo_nth hi, decTo_nth hi]
 by_cases e : b = i
 ·subst e
  rw [if_pos (by omega), if_neg (by omega)]
  have := cntW_add (R := R) (b := b) ha hno
  rw [if_neg (by rw [h]; decide)] at this
  omega
 ·by_cases h2 : i < b
  ·rw [if_pos h2, if_pos (by omega)]
  ·rw [if_neg h2, if_neg (by omega)]
theorem decTo_in {out : List Nat} {a b j : Nat} (h : j < n) : 0 ≤ nth (decTo R n out a b) j ∧ nth (decTo R n out a b) j ≤ n := by
 rw [decTo_nth h]
 have := cntW_le (R := R) (n := n) out j
 have := cntW_le (R := R) (n := n) (out ++ [a]) j
 split <;> omega
end
set_option maxHeartbeats 8000000 in
theorem linear_spec (n : Nat) (R : Nat → Nat → Bool) (hn : n ≤ 1000000) (hr : Ranked R n) : Spec Try.prog 60 [ordP n R] (.ow 3 1) (.list 1 ((extTo R n n).map natf)) := by
 have hls := fun a b => oLess_spec n R a b hn
 have hbe := below_spec n R hn
 rw [← wtsW_nil] at hbe
 have hw0 := wtsW_len (R := R) (n := n) []
 unfold ordP ordV at hls hbe ⊢
 obtain ⟨S, hS⟩ : ∃ S, (List.range n).map (setRow n R) = S := ⟨_, rfl⟩
 rw [hS] at hls hbe ⊢
 refine Spec.of_body (c := (cxOf Try.prog tyAt_ok mixed_ok 61)) ⟨Try.func60, rfl, Try.ntmps60, by kernel_rfl⟩ (by simp [FV.hand]) (by exact Nat.le_of_ble_eq_true rfl) rfl ?_
 change FW _ _ _ ⟨[(0, .eptr 2 [[.int .i64 n, .list 1 S]] 0 0)], []⟩
 (repeat (first | refine FW.seq ?_ | refine FW.region ?_ | refine RunN.nil ?_ | refine rn_assign rfl rfl rfl ?_ | refine rn_move rfl rfl rfl ?_))
 refine rn_callO hbe (by repeat (first | exact ArgsR.nil | refine ArgsR.cons (by exact ArgR.plain rfl rfl) ?_)) (List.length_map _) rfl rfl rfl ?_
 rw [hw0]
 (repeat (first | refine FW.seq ?_ | refine FW.region ?_ | refine FW.block ?_ | refine RunN.nil ?_ | refine rn_assign rfl rfl rfl ?_ | refine rn_move rfl rfl rfl ?_ | refine rn_nilE rfl rfl rfl ?_ | refine rn_fieldE rfl rfl rfl rfl rfl rfl rfl ?_ | refine rn_loadE rfl rfl rfl (by first | omega | (simp; done)) rfl rfl rfl rfl rfl ?_ | refine rn_make rfl rfl rfl rfl rfl rfl rfl rfl (by first | omega | (simp; done)) (by first | omega | (simp; done)) rfl rfl rfl ?_))
 refine FW.loop (fun k : Nat => ⟨[(0, .eptr 2 [[.int .i64 n, .list 1 S]] 0 0), (3, .own 100 0 0 n), (4, .own 101 0 0 n), (5, .own 102 0 0 k), (18, .int .i64 n), (19, .int .i64 k)], [(100, ⟨0, .own, 3, 1, (wtsW R n (extTo R n k)).map intf⟩), (101, ⟨0, .own, 4, 1, (dnsW n (extTo R n k)).map bof⟩), (102, ⟨0, .own, 3, 1, (extTo R n k).map natf⟩)]⟩) (fun k => k ≤ n) (fun k => n - k) 0 (Nat.zero_le _) ?_ ?_
 ·show FLe _ ⟨[(0, .eptr 2 [[.int .i64 n, .list 1 S]] 0 0), (3, .own 100 0 0 n), (4, .own 101 0 0 n), (5, .own 102 0 0 0), (18, .int .i64 n), (19, .int .i64 0)], [(100, ⟨0, .own, 3, 1, (wtsW R n []).map intf⟩), (101, ⟨0, .own, 4, 1, (dnsW n []).map bof⟩), (102, ⟨0, .own, 3, 1, []⟩)]⟩
  rw [dnsW_nil, List.map_replicate]
  exact (FLe.conv [⟨100, some 9, 0 + 1, ⟨0, .own, 3, 1, (wtsW R n []).map intf⟩⟩, ⟨101, some 14, 0 + 1, ⟨0, .own, 4, 1, List.replicate n (bof false)⟩⟩, ⟨102, none, 0, ⟨0, .own, 3, 1, []⟩⟩] (by simp) (by simp) rfl (by repeat (first | exact .nil | refine .low rfl ?_ | refine .same rfl ?_ | refine .bump (Nat.lt_succ_self _) ?_)) (by repeat (first | exact .nil | refine .old rfl (by decide) rfl ?_ | refine .new ?_)) (by repeat (first | exact .nil | refine .cons (.plain rfl rfl rfl) ?_ | refine .cons (.own rfl (.head _) rfl rfl) ?_ | refine .cons (.own rfl (.tail _ (.head _)) rfl rfl) ?_ | refine .cons (.nil rfl (.tail _ (.tail _ (.head _))) rfl) ?_)))
 intro k hk
 (repeat (first | refine FW.seq ?_ | refine FW.region ?_ | refine RunN.nil ?_ | refine rn_lss rfl rfl rfl rfl ?_))
 refine FW.cond rfl (fun h => ?_) (fun h => ?_)
 ·have hlt : k < n := by simpa using h
  clear h
  have hel := extTo_len (R := R) (n := n) k
  have hes : extTo R n (k + 1) = extTo R n k ++ [pickW R n (extTo R n k)] := rfl
  have hpk := pick_ok hr (out := extTo R n k) (by rw [hel]; exact hlt)
  generalize extTo R n k = out at hel hes hpk
  obtain ⟨p, hp⟩ : ∃ p, pickW R n out = p := ⟨_, rfl⟩
  rw [hp] at hes hpk
  obtain ⟨p1, p2, p3⟩ := hpk
  have hwl := wtsW_len (R := R) (n := n) out
  have hdl := dnsW_len (n := n) out
  (repeat (first | refine FW.seq ?_ | refine FW.region ?_ | refine FW.block ?_ | refine FW.skip ?_ | refine RunN.nil ?_ | refine rn_assign rfl rfl rfl ?_))
  refine FW.loop (fun a : Nat => ⟨[(0, .eptr 2 [[.int .i64 n, .list 1 S]] 0 0), (3, .own 100 0 0 n), (4, .own 101 0 0 n), (5, .own 102 0 0 k), (6, .int .i64 a), (18, .int .i64 n), (19, .int .i64 k)], [(100, ⟨0, .own, 3, 1, (wtsW R n out).map intf⟩), (101, ⟨0, .own, 4, 1, (dnsW n out).map bof⟩), (102, ⟨0, .own, 3, 1, out.map natf⟩)]⟩) (fun a => a ≤ p) (fun a => p - a) 0 (Nat.zero_le _) ?_ ?_
  ·exact (FLe.conv [⟨100, some 100, 0, ⟨0, .own, 3, 1, (wtsW R n out).map intf⟩⟩, ⟨101, some 101, 0, ⟨0, .own, 4, 1, (dnsW n out).map bof⟩⟩, ⟨102, some 102, 0, ⟨0, .own, 3, 1, out.map natf⟩⟩] (by simp) (by simp) rfl (by repeat (first | exact .nil | refine .low rfl ?_ | refine .same rfl ?_ | refine .bump (Nat.lt_succ_self _) ?_)) (by repeat (first | exact .nil | refine .old rfl (by decide) rfl ?_)) (by repeat (first | exact .nil | refine .cons (.plain rfl rfl rfl) ?_ | refine .cons (.own rfl (.head _) rfl rfl) ?_ | refine .cons (.own rfl (.tail _ (.head _)) rfl rfl) ?_ | refine .cons (.own rfl (.tail _ (.tail _ (.head _))) rfl rfl) ?_)))
  intro a ha
  have han : a < n := by omega
  have hwn := wtsW_nth (R := R) (out := out) han
  have hdn := dnsW_nth (n := n) (out := out) han
  have hbl : blkW R n out a = (decide (a ∈ out) || decide (0 < cntW R n out a)) := rfl
  obtain ⟨q, hq⟩ : ∃ q, decide (a ∈ out) = q := ⟨_, rfl⟩
  rw [hq] at hdn hbl
  (repeat (first | refine FW.seq ?_ | refine FW.region ?_ | refine rn_move rfl rfl rfl ?_ | refine rn_loadP rfl rfl rfl rfl rfl (by first | omega | (simp; omega)) (by first | exact getD_map (by omega) | rfl) rfl rfl rfl rfl ?_ | refine rn_indexO rfl rfl rfl rfl rfl rfl (by decide) rfl (by first | omega | (simp; omega)) rfl rfl ?_))
  rw [hdn]
  cases q with
  | true =>
   have hbt : blkW R n out a = true := by rw [hbl, Bool.true_or]
   have hne : a ≠ p := fun e => by rw [e, p2] at hbt; cases hbt
   (repeat (first | refine FW.region ?_ | refine FW.block ?_ | refine FW.skip ?_ | refine FW.condT rfl ?_ | refine RunN.nil ?_ | refine rn_assign rfl rfl rfl ?_ | refine rn_move rfl rfl rfl ?_ | refine rn_pickT rfl rfl rfl rfl ?_ | refine rn_add rfl rfl (by omega) rfl rfl ?_ | refine rn_skip rfl rfl ⟨_, _, rfl, rfl, rfl⟩ ?_))
   exact ⟨a + 1, by omega, by omega, (FLe.conv [⟨100, some 100, 0, ⟨0, .own, 3, 1, (wtsW R n out).map intf⟩⟩, ⟨101, some 101, 0, ⟨0, .own, 4, 1, (dnsW n out).map bof⟩⟩, ⟨102, some 102, 0, ⟨0, .own, 3, 1, out.map natf⟩⟩] (by simp) (by simp) rfl (by repeat (first | exact .nil | refine .low rfl ?_ | refine .same rfl ?_ | refine .bump (Nat.lt_succ_self _) ?_)) (by repeat (first | exact .nil | refine .old rfl (by decide) rfl ?_)) (by repeat (first | exact .nil | refine .cons (.plain rfl rfl rfl) ?_ | refine .cons (.own rfl (.head _) rfl rfl) ?_ | refine .cons (.own rfl (.tail _ (.head _)) rfl rfl) ?_ | refine .cons (.own rfl (.tail _ (.tail _ (.head _))) rfl rfl) ?_)))⟩
  | false =>
   rw [Bool.false_or] at hbl
   (repeat (first | refine RunN.nil ?_ | refine rn_pickF rfl rfl rfl rfl ?_ | refine rn_move rfl rfl ⟨_, _, rfl, rfl, rfl⟩ ?_ | refine rn_indexO rfl rfl rfl rfl rfl rfl (by decide) rfl (by first | omega | (simp; omega)) rfl ⟨_, _, rfl, rfl, rfl⟩ ?_ | refine rn_loadP rfl rfl rfl rfl rfl (by first | omega | (simp; omega)) (by first | exact getD_map (by omega) | rfl) rfl rfl rfl ⟨_, _, rfl, rfl, rfl⟩ ?_ | refine rn_gtr rfl rfl rfl ⟨_, _, rfl, rfl, rfl⟩ ?_))
   rw [hwn]
   skip
   refine FW.cond rfl (fun h => ?_) (fun h => ?_)
   ·have hbt : blkW R n out a = true := by
     rw [hbl]
     have h : 0 < (cntW R n out a : Int) := by simpa using h
     exact decide_eq_true (by omega)
    have hne : a ≠ p := fun e => by rw [e, p2] at hbt; cases hbt
    (repeat (first | refine FW.region ?_ | refine FW.block ?_ | refine FW.skip ?_ | refine RunN.nil ?_ | refine rn_assign rfl rfl rfl ?_ | refine rn_move rfl rfl rfl ?_ | refine rn_add rfl rfl (by omega) rfl rfl ?_))
    exact ⟨a + 1, by omega, by omega, (FLe.conv [⟨100, some 100, 0, ⟨0, .own, 3, 1, (wtsW R n out).map intf⟩⟩, ⟨101, some 101, 0, ⟨0, .own, 4, 1, (dnsW n out).map bof⟩⟩, ⟨102, some 102, 0, ⟨0, .own, 3, 1, out.map natf⟩⟩] (by simp) (by simp) rfl (by repeat (first | exact .nil | refine .low rfl ?_ | refine .same rfl ?_ | refine .bump (Nat.lt_succ_self _) ?_)) (by repeat (first | exact .nil | refine .old rfl (by decide) rfl ?_)) (by repeat (first | exact .nil | refine .cons (.plain rfl rfl rfl) ?_ | refine .cons (.own rfl (.head _) rfl rfl) ?_ | refine .cons (.own rfl (.tail _ (.head _)) rfl rfl) ?_ | refine .cons (.own rfl (.tail _ (.tail _ (.head _))) rfl rfl) ?_)))⟩
   ·have hap : a = p := by
     refine Classical.byContradiction fun hne => ?_
     have h1 := p3 a (by omega)
     rw [hbl] at h1
     have h1 : 0 < cntW R n out a := of_decide_eq_true h1
     have h : ¬ 0 < (cntW R n out a : Int) := by simpa using h
     omega
    subst hap
    have hno : a ∉ out := of_decide_eq_false hq
    have hda := dnsW_add (n := n) (out := out) han
    have hd0 := decTo_zero (R := R) (n := n) out a
    have hdall := decTo_all (R := R) (n := n) out a
    have hoe : (out ++ [a]).map natf = out.map natf ++ [natf a] := by rw [List.map_append]; rfl
    (repeat (first | refine FW.seq ?_ | refine FW.region ?_ | refine FW.block ?_ | refine FW.exit ?_ | refine RunN.nil ?_ | refine rn_assign rfl rfl rfl ?_ | refine rn_move rfl rfl rfl ?_ | refine rn_nilE rfl rfl rfl ?_ | refine rn_fieldE rfl rfl rfl rfl rfl rfl rfl ?_ | refine rn_loadE rfl rfl rfl (by first | omega | (simp; omega) | (simp; done)) (by first | exact getD_map (by omega) | rfl) rfl rfl rfl rfl ?_ | refine rn_indexO rfl rfl rfl rfl rfl rfl (by decide) rfl (by first | omega | (simp; omega) | (simp; done)) rfl rfl ?_ | refine rn_storeR rfl rfl rfl rfl rfl rfl (by first | omega | (simp; omega) | (simp; done)) (by first | exact getD_map (by omega) | rfl) rfl rfl rfl ?_ | refine rn_buildS1 rfl rfl rfl rfl rfl rfl rfl rfl ?_ | refine rn_appO rfl rfl (by first | rfl | (simp; done) | omega | (simp; omega)) rfl rfl rfl (by decide) (by exact SrcR.own rfl rfl (by decide) (by first | exact List.length_map _ | exact (List.length_map _).symm | exact List.length_replicate | rfl | (simp; done) | omega | (simp; omega))) (by first | omega | (simp; omega) | (simp; done)) (by first | omega | (simp; omega) | (simp; done)) rfl rfl rfl ?_))
    refine FW.loop (fun b : Nat => ⟨[(0, .eptr 2 [[.int .i64 n, .list 1 S]] 0 0), (3, .own 100 0 0 n), (4, .own 101 0 0 n), (5, .own 102 0 0 (k + 1)), (6, .int .i64 a), (18, .int .i64 n), (19, .int .i64 k), (44, .int .i64 n), (45, .int .i64 b)], [(100, ⟨0, .own, 3, 1, (decTo R n out a b).map intf⟩), (101, ⟨0, .own, 4, 1, (dnsW n (out ++ [a])).map bof⟩), (102, ⟨0, .own, 3, 1, (out ++ [a]).map natf⟩)]⟩) (fun b => b ≤ n) (fun b => n - b) 0 (Nat.zero_le _) ?_ ?_
    ·rw [hd0, hda, hoe, List.map_set]
     exact (FLe.conv [⟨100, some 100, 0, ⟨0, .own, 3, 1, (wtsW R n out).map intf⟩⟩, ⟨101, some 101, 0, ⟨0, .own, 4, 1, ((dnsW n out).map bof).set a (bof true)⟩⟩, ⟨102, some 40, 0 + 1, ⟨0, .own, 3, 1, out.map natf ++ [natf a]⟩⟩] (by simp) (by simp) rfl (by repeat (first | exact .nil | refine .low rfl ?_ | refine .same rfl ?_ | refine .bump (Nat.lt_succ_self _) ?_)) (by repeat (first | exact .nil | refine .old rfl (by decide) (by first | rfl | (simp; omega)) ?_)) (by repeat (first | exact .nil | refine .cons (.plain rfl rfl (by first | rfl | (simp; omega))) ?_ | refine .cons (.own rfl (.head _) rfl (by first | rfl | (simp; omega))) ?_ | refine .cons (.own rfl (.tail _ (.head _)) rfl (by first | rfl | (simp; omega))) ?_ | refine .cons (.own rfl (.tail _ (.tail _ (.head _))) rfl (by first | rfl | (simp; omega))) ?_)))
    intro b hb
    (repeat (first | refine FW.seq ?_ | refine FW.region ?_ | refine RunN.nil ?_ | refine rn_lss rfl rfl rfl rfl ?_))
    refine FW.cond rfl (fun h => ?_) (fun h => ?_)
    ·have hltb : b < n := by simpa using h
     clear h
     have hl := hls a b han hltb
     have hy := fun h => decTo_yes (R := R) han hno hltb h
     have hn0 := fun h => decTo_no (R := R) (b := b) han hno h
     have hbl := decTo_len (R := R) (n := n) out a b
     have hbi := decTo_in (R := R) (out := out) (a := a) (b := b) hltb
     generalize decTo R n out a b = Z at hy hn0 hbl hbi
     obtain ⟨z, hz⟩ : ∃ z, nth Z b = z := ⟨_, rfl⟩
     rw [hz] at hy hbi
     (repeat (first | refine FW.seq ?_ | refine FW.region ?_ | refine FW.block ?_ | refine FW.skip ?_ | refine RunN.nil ?_ | refine rn_assign rfl rfl rfl ?_ | refine rn_move rfl rfl rfl ?_))
     refine rn_call hl (by repeat (first | exact ArgsR.nil | refine ArgsR.cons (by exact ArgR.plain rfl rfl) ?_)) rfl rfl ?_
     (repeat (first | refine RunN.nil ?_))
     refine FW.cond rfl (fun h => ?_) (fun h => ?_)
     ·have hy := hy h
      (repeat (first | refine FW.region ?_ | refine RunN.nil ?_ | refine rn_move rfl rfl rfl ?_ | refine rn_loadP rfl rfl rfl rfl rfl (by first | omega | (simp; omega)) (by first | exact getD_map (by omega) | rfl) rfl rfl rfl rfl ?_ | refine rn_indexO rfl rfl rfl rfl rfl rfl (by decide) rfl (by first | omega | (simp; omega)) rfl rfl ?_ | refine rn_add rfl rfl (by omega) rfl rfl ?_ | refine rn_storeR rfl rfl rfl rfl rfl rfl (by first | omega | (simp; omega)) (by first | exact getD_map (by omega) | rfl) rfl rfl rfl ?_ | refine rn_sub rfl rfl (by omega) rfl rfl ?_))
      rw [hz]
      skip
      refine ⟨b + 1, by omega, by omega, ?_⟩
      rw [hy, List.map_set]
      exact (FLe.conv [⟨100, some 100, 0, ⟨0, .own, 3, 1, (Z.map intf).set b (intf (z - 1))⟩⟩, ⟨101, some 101, 0, ⟨0, .own, 4, 1, (dnsW n (out ++ [a])).map bof⟩⟩, ⟨102, some 102, 0, ⟨0, .own, 3, 1, (out ++ [a]).map natf⟩⟩] (by simp) (by simp) rfl (by repeat (first | exact .nil | refine .low rfl ?_ | refine .same rfl ?_ | refine .bump (Nat.lt_succ_self _) ?_)) (by repeat (first | exact .nil | refine .old rfl (by decide) rfl ?_)) (by repeat (first | exact .nil | refine .cons (.plain rfl rfl rfl) ?_ | refine .cons (.own rfl (.head _) rfl rfl) ?_ | refine .cons (.own rfl (.tail _ (.head _)) rfl rfl) ?_ | refine .cons (.own rfl (.tail _ (.tail _ (.head _))) rfl rfl) ?_)))
     ·have hn0 := hn0 h
      (repeat (first | refine FW.region ?_ | refine FW.skip ?_ | refine RunN.nil ?_ | refine rn_move rfl rfl rfl ?_ | refine rn_add rfl rfl (by omega) rfl rfl ?_))
      refine ⟨b + 1, by omega, by omega, ?_⟩
      rw [hn0]
      exact (FLe.conv [⟨100, some 100, 0, ⟨0, .own, 3, 1, Z.map intf⟩⟩, ⟨101, some 101, 0, ⟨0, .own, 4, 1, (dnsW n (out ++ [a])).map bof⟩⟩, ⟨102, some 102, 0, ⟨0, .own, 3, 1, (out ++ [a]).map natf⟩⟩] (by simp) (by simp) rfl (by repeat (first | exact .nil | refine .low rfl ?_ | refine .same rfl ?_ | refine .bump (Nat.lt_succ_self _) ?_)) (by repeat (first | exact .nil | refine .old rfl (by decide) rfl ?_)) (by repeat (first | exact .nil | refine .cons (.plain rfl rfl rfl) ?_ | refine .cons (.own rfl (.head _) rfl rfl) ?_ | refine .cons (.own rfl (.tail _ (.head _)) rfl rfl) ?_ | refine .cons (.own rfl (.tail _ (.tail _ (.head _))) rfl rfl) ?_)))
    ·obtain rfl : b = n := by simp at h; omega
     (repeat (first | refine FW.region ?_ | refine FW.exit ?_ | refine RunN.nil ?_ | refine rn_move rfl rfl rfl ?_ | refine rn_add rfl rfl (by omega) rfl rfl ?_))
     refine ⟨k + 1, by omega, by omega, ?_⟩
     rw [hes, ← hdall]
     exact (FLe.conv [⟨100, some 100, 0, ⟨0, .own, 3, 1, (decTo R b out a b).map intf⟩⟩, ⟨101, some 101, 0, ⟨0, .own, 4, 1, (dnsW b (out ++ [a])).map bof⟩⟩, ⟨102, some 102, 0, ⟨0, .own, 3, 1, (out ++ [a]).map natf⟩⟩] (by simp) (by simp) rfl (by repeat (first | exact .nil | refine .low rfl ?_ | refine .same rfl ?_ | refine .bump (Nat.lt_succ_self _) ?_)) (by repeat (first | exact .nil | refine .old rfl (by decide) rfl ?_)) (by repeat (first | exact .nil | refine .cons (.plain rfl rfl rfl) ?_ | refine .cons (.own rfl (.head _) rfl rfl) ?_ | refine .cons (.own rfl (.tail _ (.head _)) rfl rfl) ?_ | refine .cons (.own rfl (.tail _ (.tail _ (.head _))) rfl rfl) ?_)))
 ·obtain rfl : k = n := by simp at h; omega
  (repeat (first | refine FW.seq ?_ | refine FW.region ?_ | refine FW.exit ?_ | refine RunN.nil ?_ | refine rn_assign rfl rfl rfl ?_ | refine rn_move rfl rfl rfl ?_))
  exact FW.ret ⟨.inl rfl, ret_ow rfl rfl rfl (by rw [List.length_map, extTo_len]) (by decide) rfl (fun e he => by obtain ⟨b, _, rfl⟩ := List.mem_map.1 he; rfl)⟩
end Go.Proofs.Ytbeebjdnapkhhaa
