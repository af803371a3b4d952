/-
  The contract of graph.Reach.
-/
import Derived.Test.YtflkbehbenlhaaaZFmCyc2
import Derived.Test.YtflkbehbenlhaaaZL
import Derived.Test.YtflkbehbenlhaaaZReachPlain
namespace Go.Proofs.Ytflkbehbenlhaaa
set_option linter.unusedVariables false
open Go.RowKit

def boolw (b : Bool) : List FV := [.bool b]
def vcaps (n : Nat) (E : List (Nat × Nat)) (q p : Nat) : List FV := [.eptr 1 [[.int .i64 n]] 0 0, .ptr 5000 q 0 0, .eptr 1 [[.list 1 ((rowsOf n E).map rowf)]] 0 0, .ptr 5002 p 0 0]
def scell (q v n : Nat) : FObj := ⟨q, .hrow, 107, 1, [[.own 5001 v 0 n]]⟩
def srow (v : Nat) (s : List Bool) : FObj := ⟨v, .own, 4, 1, s.map boolw⟩
def vcell (n : Nat) (E : List (Nat × Nat)) (q p : Nat) : FObj := ⟨p, .hrow, 99, 1, [[.wrap (.fn 73) (vcaps n E q p)]]⟩
theorem lendPostV {n q v p : Nat} {E : List (Nat × Nat)} {res : FV} {o : Nat → FObj} {s s' : List Bool} (hr : res.cl [5000, 5001, 5002] = true) (h0 : o 5000 = scell q v n) (h1 : o 5001 = srow v s') (h2 : o 5002 = vcell n E q p) : LendPost [(5000, scell q v n), (5001, srow v s), (5002, vcell n E q p)] [] res o where
  old k hk hl := by
    simp at hk
    rcases hk with rfl | rfl | rfl
    · rw [h0]; exact ⟨rfl, rfl, rfl⟩
    · rw [h1]; exact ⟨rfl, rfl, rfl⟩
    · rw [h2]; exact ⟨rfl, rfl, rfl⟩
  new k hk := by cases hk
  cl k hk := by
    simp at hk
    rcases hk with rfl | rfl | rfl
    · rw [h0]; rfl
    · rw [h1]; rfl
    · rw [h2]; rfl
  res := hr
theorem dfs_stop {E : List (Nat × Nat)} {k : Nat} {s : List Bool} {x : Int} (h : x < 0 ∨ (s.length : Int) ≤ x ∨ nth s x.toNat = true) : dfsV E k s x = s := by
  cases k with
  | zero => rfl
  | succ k => exact if_pos h
set_option maxHeartbeats 4000000 in
theorem visit_step (n : Nat) (E : List (Nat × Nat)) (q v p : Nat) (hn : n ≤ 1000) (hE : E.length ≤ 100000) (hin : InN n E) (k : Nat) (ih : ∀ k', k' + 1 = k → ∀ (s : List Bool) (x : Int), s.length = n → unseen s ≤ k' → SpecL Try.prog 73 ([.int .i64 x] ++ vcaps n E q p) [(5000, scell q v n), (5001, srow v s), (5002, vcell n E q p)] [] (fun res o => res = .tup [] ∧ o 5000 = scell q v n ∧ o 5001 = srow v (dfsV E k' s x) ∧ o 5002 = vcell n E q p)) (s : List Bool) (x : Int) (hl : s.length = n) (hu : unseen s ≤ k) :
    SpecL Try.prog 73 ([.int .i64 x] ++ vcaps n E q p) [(5000, scell q v n), (5001, srow v s), (5002, vcell n E q p)] [] (fun res o => res = .tup [] ∧ o 5000 = scell q v n ∧ o 5001 = srow v (dfsV E k s x) ∧ o 5002 = vcell n E q p) := by
  refine SpecL.of_body (c := (cxOf Try.prog tyAt_ok mixed_ok 37)) ⟨Try.func73, rfl, Try.ntmps73, by kernel_rfl⟩ (by exact Nat.le_of_ble_eq_true rfl) ?_ ?_
  · rintro res o ⟨rfl, h0, h1, h2⟩; exact lendPostV rfl h0 h1 h2
  change FW _ _ _ ⟨[(0, .int .i64 x), (1, .eptr 1 [[.int .i64 n]] 0 0), (2, .ptr 5000 q 0 0), (3, .eptr 1 [[.list 1 ((rowsOf n E).map rowf)]] 0 0), (4, .ptr 5002 p 0 0)], [(5000, scell q v n), (5001, srow v s), (5002, vcell n E q p)]⟩
  (repeat (first | refine FW.seq ?_ | refine FW.region ?_ | refine rn_move rfl rfl rfl ?_ | refine rn_lss rfl rfl rfl rfl ?_))
  refine rn_case (fun h1 => ?_) (fun h1 => ?_)
  · rw [dfs_stop (.inl (by simpa using h1))]
    (repeat (first | refine FW.condT rfl ?_ | refine RunN.nil ?_ | refine rn_move rfl rfl rfl ?_ | refine rn_pickT rfl rfl rfl rfl ?_ | refine rn_skip rfl rfl ⟨_, _, rfl, rfl, rfl⟩ ?_))
    exact FW.ret ⟨.inl rfl, _, .plain .nil rfl rfl, rfl, rfl, rfl, rfl⟩
  · (repeat (first | refine rn_move rfl rfl rfl ?_ | refine rn_pickF rfl rfl rfl rfl ?_ | refine rn_move rfl rfl ⟨_, _, rfl, rfl, rfl⟩ ?_ | refine rn_loadE rfl rfl rfl (by first | omega | (simp; omega) | (simp; done)) (by first | exact getD_map (by omega) | rfl) rfl rfl rfl ⟨_, _, rfl, rfl, rfl⟩ ?_ | refine rn_geq rfl rfl rfl ⟨_, _, rfl, rfl, rfl⟩ ?_))
    refine rn_case (fun h2 => ?_) (fun h2 => ?_)
    · rw [dfs_stop (.inr (.inl (by simp at h2; omega)))]
      (repeat (first | refine FW.condT rfl ?_ | refine RunN.nil ?_ | refine rn_pickT rfl rfl rfl rfl ?_ | refine rn_skip rfl rfl ⟨_, _, rfl, rfl, rfl⟩ ?_))
      exact FW.ret ⟨.inl rfl, _, .plain .nil rfl rfl, rfl, rfl, rfl, rfl⟩
    · obtain ⟨u, rfl⟩ : ∃ u : Nat, x = u := ⟨x.toNat, by simp at h1; omega⟩
      have hun : u < n := by simp at h2; omega
      clear h1 h2
      have hrn := rowsOf_nth E hun
      have hrl := rowsOf_len n E
      have hsl := succs_len E u
      unfold scell srow
      (repeat (first | refine RunN.nil ?_ | refine rn_pickF rfl rfl rfl rfl ?_ | refine rn_move rfl rfl ⟨_, _, rfl, rfl, rfl⟩ ?_ | refine rn_loadP rfl rfl rfl rfl rfl (by first | omega | (simp; omega) | (simp; done)) (by first | exact getD_map (by omega) | rfl) rfl rfl rfl ⟨_, _, rfl, rfl, rfl⟩ ?_ | refine rn_loadH rfl rfl rfl rfl rfl rfl ⟨_, _, rfl, rfl, rfl⟩ ?_ | refine rn_indexO rfl rfl (by first | rfl | exact (Int.toNat_of_nonneg (by omega)).symm) rfl rfl rfl (by decide) rfl (by first | omega | (simp; omega) | (simp; done)) rfl ⟨_, _, rfl, rfl, rfl⟩ ?_))
      refine FW.cond rfl (fun h3 => ?_) (fun h3 => ?_)
      · rw [dfs_stop (.inr (.inr (by rw [Int.toNat_natCast]; exact h3)))]
        skip
        exact FW.ret ⟨.inl rfl, _, .plain .nil rfl rfl, rfl, rfl, rfl, rfl⟩
      · have hus := unseen_set (by omega) h3
        obtain ⟨k', rfl⟩ : ∃ k', k' + 1 = k := ⟨k - 1, by omega⟩
        have hd : dfsV E (k' + 1) s u = (succs E u).foldl (dfsV E k') (s.set u true) := by
          show (if _ then _ else _) = _
          rw [if_neg (by rintro (e | e | e); omega; omega; rw [Int.toNat_natCast, h3] at e; cases e), Int.toNat_natCast]
        rw [hd]
        have ih := ih k' rfl
        obtain ⟨S, hS⟩ : ∃ S, s.set u true = S := ⟨_, rfl⟩
        have hSl : S.length = n := by rw [← hS, List.length_set]; exact hl
        rw [hS] at hus ⊢
        refine FW.skip ?_
        (repeat (first | refine FW.seq ?_ | refine FW.region ?_ | refine FW.block ?_ | refine RunN.nil ?_ | refine rn_move rfl rfl rfl ?_ | refine rn_loadE rfl rfl rfl (by first | omega | (simp; omega) | (simp; done)) (by first | exact getD_map (by omega) | rfl) rfl rfl rfl rfl ?_ | refine rn_loadH rfl rfl rfl rfl rfl rfl rfl ?_ | refine rn_indexL rfl rfl (by first | rfl | exact (Int.toNat_of_nonneg (by omega)).symm) rfl rfl rfl (by first | omega | (simp; omega) | (simp; done)) rfl rfl ?_ | refine rn_indexO rfl rfl (by first | rfl | exact (Int.toNat_of_nonneg (by omega)).symm) rfl rfl rfl (by decide) rfl (by first | omega | (simp; omega) | (simp; done)) rfl rfl ?_ | refine rn_storeR rfl rfl rfl rfl rfl rfl (by first | omega | (simp; omega) | (simp; done)) (by first | exact getD_map (by omega) | rfl) rfl rfl rfl ?_ | refine rn_lenList rfl rfl (by first | exact List.length_map _ | exact (List.length_map _).symm | exact List.length_replicate | rfl | (simp; done) | omega | (simp; omega)) rfl rfl ?_))
        rw [show (boolw (nth s u)).set 0 (.bool true) = boolw true from rfl, ← List.map_set, hS]
        skip
        rw [hrn]
        skip
        refine FW.loop (fun j : Nat => ⟨[(4, .ptr 5002 p 0 0), (27, .list 1 ((succs E u).map intf)), (28, .int .i64 (succs E u).length), (29, .int .i64 j)], [(5000, ⟨q, .hrow, 107, 1, [[.own 5001 v 0 n]]⟩), (5001, ⟨v, .own, 4, 1, (((succs E u).take j).foldl (dfsV E k') S).map boolw⟩), (5002, vcell n E q p)]⟩) (fun j => j ≤ (succs E u).length) (fun j => (succs E u).length - j) 0 (Nat.zero_le _) ?_ ?_
        · show FLe _ ⟨[(4, .ptr 5002 p 0 0), (27, .list 1 ((succs E u).map intf)), (28, .int .i64 (succs E u).length), (29, .int .i64 0)], [(5000, ⟨q, .hrow, 107, 1, [[.own 5001 v 0 n]]⟩), (5001, ⟨v, .own, 4, 1, S.map boolw⟩), (5002, vcell n E q p)]⟩
          unfold vcell vcaps
          exact (FLe.conv [⟨5000, some 5000, q, ⟨q, .hrow, 107, 1, [[.own 5001 v 0 n]]⟩⟩, ⟨5001, some 5001, v, ⟨v, .own, 4, 1, S.map boolw⟩⟩, ⟨5002, some 5002, p, ⟨p, .hrow, 99, 1, [[.wrap (.fn 73) [.eptr 1 [[.int .i64 n]] 0 0, .ptr 5000 q 0 0, .eptr 1 [[.list 1 ((rowsOf n E).map rowf)]] 0 0, .ptr 5002 p 0 0]]]⟩⟩] (by simp) (by simp) rfl (by repeat (first | exact GhOk.nil | refine GhOk.low rfl ?_ | refine GhOk.same rfl ?_ | refine GhOk.bump (Nat.lt_succ_self _) ?_)) (by repeat (first | exact EntsOk.nil | refine EntsOk.old rfl (by decide) (by first | rfl | (simp; done) | (congr 1; omega) | (simp; omega) | (simp [List.take_of_length_le]; done) | (refine congrArg (FV.int .i64) ?_; omega)) ?_ | refine EntsOk.oldH rfl (by repeat (first | exact RowE.nil | refine RowE.cons (.own (.tail _ (.head _)) rfl (by first | rfl | (simp; done) | (congr 1; omega) | (simp; omega) | (simp [List.take_of_length_le]; done) | (refine congrArg (FV.int .i64) ?_; omega)) (by first | rfl | (simp; done) | (congr 1; omega) | (simp; omega) | (simp [List.take_of_length_le]; done) | (refine congrArg (FV.int .i64) ?_; omega))) ?_ | refine RowE.cons (.wrap (by repeat (first | exact CelsE.nil | refine CelsE.cons (.plain rfl rfl) ?_ | refine CelsE.cons (.ptr (.head _) rfl) ?_ | refine CelsE.cons (.own (.head _) rfl rfl rfl) ?_ | refine CelsE.cons (.omap (.head _) rfl) ?_ | refine CelsE.cons (.ptr (.tail _ (.head _)) rfl) ?_ | refine CelsE.cons (.own (.tail _ (.head _)) rfl rfl rfl) ?_ | refine CelsE.cons (.omap (.tail _ (.head _)) rfl) ?_ | refine CelsE.cons (.ptr (.tail _ (.tail _ (.head _))) rfl) ?_ | refine CelsE.cons (.own (.tail _ (.tail _ (.head _))) rfl rfl rfl) ?_ | refine CelsE.cons (.omap (.tail _ (.tail _ (.head _))) rfl) ?_))) ?_)) ?_)) (by repeat (first | exact SlC.nil | refine SlC.cons (.plain rfl rfl (by first | rfl | (simp; done) | (congr 1; omega) | (simp; omega) | (simp [List.take_of_length_le]; done) | (refine congrArg (FV.int .i64) ?_; omega))) ?_ | refine SlC.cons (.ptr rfl (.tail _ (.tail _ (.head _))) rfl) ?_)))
        intro j hj
        have hst : ∀ hlt : j < (succs E u).length, ((succs E u).take (j + 1)).foldl (dfsV E k') S = dfsV E k' (((succs E u).take j).foldl (dfsV E k') S) (nth (succs E u) j) := fun hlt => by
          rw [List.take_succ_eq_append_getElem hlt, List.foldl_append, ← nth_eq hlt]; rfl
        have hend : j = (succs E u).length → (succs E u).foldl (dfsV E k') S = ((succs E u).take j).foldl (dfsV E k') S := fun e => by rw [e, List.take_length]
        have hZl : (((succs E u).take j).foldl (dfsV E k') S).length = n ∧ unseen (((succs E u).take j).foldl (dfsV E k') S) ≤ k' := by
          have : ∀ (r : List Int) (a : List Bool), a.length = n → unseen a ≤ k' → (r.foldl (dfsV E k') a).length = n ∧ unseen (r.foldl (dfsV E k') a) ≤ k' := by
            intro r
            induction r with
            | nil => intro a h1 h2; exact ⟨h1, h2⟩
            | cons y r ihr =>
              intro a h1 h2
              exact ihr _ (by rw [dfs_len]; exact h1) (Nat.le_trans (dfs_ok hin k' a y h1 h2).1.ext.unseen h2)
          exact this _ S hSl (by omega)
        generalize ((succs E u).take j).foldl (dfsV E k') S = Z at hst hend hZl
        (repeat (first | refine FW.seq ?_ | refine FW.region ?_ | refine RunN.nil ?_ | refine rn_lss rfl rfl rfl rfl ?_))
        refine FW.cond rfl (fun h4 => ?_) (fun h4 => ?_)
        · have hlt : j < (succs E u).length := by simpa using h4
          clear h4 hend
          have hst := hst hlt
          obtain ⟨w, hw⟩ : ∃ w, nth (succs E u) j = w := ⟨_, rfl⟩
          rw [hw] at hst
          unfold vcell
          (repeat (first | refine FW.seq ?_ | refine FW.region ?_ | refine FW.block ?_ | refine FW.skip ?_ | refine RunN.nil ?_ | refine rn_move rfl rfl rfl ?_ | refine rn_loadE rfl rfl rfl (by first | omega | (simp; omega) | (simp; done)) (by first | exact getD_map (by omega) | rfl) rfl rfl rfl rfl ?_ | refine rn_loadH rfl rfl rfl rfl rfl rfl rfl ?_ | refine rn_indexL rfl rfl (by first | rfl | exact (Int.toNat_of_nonneg (by omega)).symm) rfl rfl rfl (by first | omega | (simp; omega) | (simp; done)) rfl rfl ?_ | refine rn_assign rfl rfl rfl ?_))
          rw [hw]
          refine rn_callLV rfl (ih Z w hZl.1 hZl.2) [(5000, 5000), (5001, 5001), (5002, 5002)] rfl (LendOk.cons rfl rfl rfl (LendOk.cons rfl rfl rfl (LendOk.cons rfl rfl rfl LendOk.nil))) rfl rfl rfl rfl rfl rfl ?_
          rintro _ ob' ⟨rfl, h0, h1, h2⟩
          refine After.one [(5000, scell q v n), (5001, srow v (dfsV E k' Z w)), (5002, vcell n E q p)] (.tup []) rfl (by show [(5000, FObj.ren _ (look {} ob' 5000)), (5001, FObj.ren _ (look {} ob' 5001)), (5002, FObj.ren _ (look {} ob' 5002))] = _; rw [h0, h1, h2]; rfl) ?_
          clear h0 h1 h2 ob'
          (repeat (first | refine FW.region ?_ | refine RunN.nil ?_ | refine rn_move rfl rfl rfl ?_ | refine rn_add rfl rfl (by omega) rfl rfl ?_))
          refine ⟨j + 1, by omega, by omega, ?_⟩
          rw [hst]
          generalize dfsV E k' Z w = Y
          unfold scell srow vcell vcaps
          exact (FLe.conv [⟨5000, some 5000, q, ⟨q, .hrow, 107, 1, [[.own 5001 v 0 n]]⟩⟩, ⟨5001, some 5001, v, ⟨v, .own, 4, 1, Y.map boolw⟩⟩, ⟨5002, some 5002, p, ⟨p, .hrow, 99, 1, [[.wrap (.fn 73) [.eptr 1 [[.int .i64 n]] 0 0, .ptr 5000 q 0 0, .eptr 1 [[.list 1 ((rowsOf n E).map rowf)]] 0 0, .ptr 5002 p 0 0]]]⟩⟩] (by simp) (by simp) rfl (by repeat (first | exact GhOk.nil | refine GhOk.low rfl ?_ | refine GhOk.same rfl ?_ | refine GhOk.bump (Nat.lt_succ_self _) ?_)) (by repeat (first | exact EntsOk.nil | refine EntsOk.old rfl (by decide) (by first | rfl | (simp; done) | (congr 1; omega) | (simp; omega) | (simp [List.take_of_length_le]; done) | (refine congrArg (FV.int .i64) ?_; omega)) ?_ | refine EntsOk.oldH rfl (by repeat (first | exact RowE.nil | refine RowE.cons (.own (.tail _ (.head _)) rfl (by first | rfl | (simp; done) | (congr 1; omega) | (simp; omega) | (simp [List.take_of_length_le]; done) | (refine congrArg (FV.int .i64) ?_; omega)) (by first | rfl | (simp; done) | (congr 1; omega) | (simp; omega) | (simp [List.take_of_length_le]; done) | (refine congrArg (FV.int .i64) ?_; omega))) ?_ | refine RowE.cons (.wrap (by repeat (first | exact CelsE.nil | refine CelsE.cons (.plain rfl rfl) ?_ | refine CelsE.cons (.ptr (.head _) rfl) ?_ | refine CelsE.cons (.own (.head _) rfl rfl rfl) ?_ | refine CelsE.cons (.omap (.head _) rfl) ?_ | refine CelsE.cons (.ptr (.tail _ (.head _)) rfl) ?_ | refine CelsE.cons (.own (.tail _ (.head _)) rfl rfl rfl) ?_ | refine CelsE.cons (.omap (.tail _ (.head _)) rfl) ?_ | refine CelsE.cons (.ptr (.tail _ (.tail _ (.head _))) rfl) ?_ | refine CelsE.cons (.own (.tail _ (.tail _ (.head _))) rfl rfl rfl) ?_ | refine CelsE.cons (.omap (.tail _ (.tail _ (.head _))) rfl) ?_))) ?_)) ?_)) (by repeat (first | exact SlC.nil | refine SlC.cons (.plain rfl rfl (by first | rfl | (simp; done) | (congr 1; omega) | (simp; omega) | (simp [List.take_of_length_le]; done) | (refine congrArg (FV.int .i64) ?_; omega))) ?_ | refine SlC.cons (.ptr rfl (.tail _ (.tail _ (.head _))) rfl) ?_)))
        · have hje : j = (succs E u).length := by simp at h4; omega
          rw [hend hje]
          (repeat (first | refine FW.exit ?_))
          exact ⟨.inr rfl, _, .plain .nil rfl rfl, rfl, rfl, rfl, rfl⟩
theorem visit_specL (n : Nat) (E : List (Nat × Nat)) (q v p : Nat) (hn : n ≤ 1000) (hE : E.length ≤ 100000) (hin : InN n E) : ∀ (k : Nat) (s : List Bool) (x : Int), s.length = n → unseen s ≤ k → SpecL Try.prog 73 ([.int .i64 x] ++ vcaps n E q p) [(5000, scell q v n), (5001, srow v s), (5002, vcell n E q p)] [] (fun res o => res = .tup [] ∧ o 5000 = scell q v n ∧ o 5001 = srow v (dfsV E k s x) ∧ o 5002 = vcell n E q p)
  | 0 => visit_step n E q v p hn hE hin 0 fun k' e => by omega
  | k + 1 => visit_step n E q v p hn hE hin (k + 1) fun k' e => by
    have e2 : k' = k := by omega
    subst e2
    exact visit_specL n E q v p hn hE hin k'
def outTo (s : List Bool) (k : Nat) : List Int := ((List.range k).filter fun v => nth s v).map fun v : Nat => (v : Int)
theorem outTo_succ (s : List Bool) (k : Nat) : outTo s (k + 1) = outTo s k ++ if nth s k = true then [(k : Int)] else [] := by
  unfold outTo
  rw [List.range_succ, List.filter_append, List.map_append]
  congr 1
  by_cases e : nth s k = true
  · simp [e]
  · simp [e]
theorem outTo_len (s : List Bool) (k : Nat) : (outTo s k).length ≤ k := by
  unfold outTo
  rw [List.length_map]
  exact Nat.le_trans (List.length_filter_le _ _) (by simp)
def gReach (n : Nat) (E : List (Nat × Nat)) (from_ : List Int) : List Int := outTo (seenTo n E from_ from_.length) n
set_option maxHeartbeats 4000000 in
theorem reach_spec (n : Nat) (E : List (Nat × Nat)) (fr : List Int) (hn : n ≤ 1000) (hE : E.length ≤ 100000) (hin : InN n E) (hf : fr.length ≤ 100000) : Spec Try.prog 41 [.int .i64 n, .list 2 (E.map edf), .list 1 (fr.map intf)] .sh (.list 1 ((gReach n E fr).map intf)) := by
  refine Spec.of_body (c := (cxOf Try.prog tyAt_ok mixed_ok 45)) ⟨Try.func41, rfl, Try.ntmps41, by kernel_rfl⟩ (by simp [FV.hand]) (by exact Nat.le_of_ble_eq_true rfl) rfl ?_
  change FW _ _ _ ⟨[(0, .int .i64 n), (1, .list 2 (E.map edf)), (2, .list 1 (fr.map intf))], []⟩
  (repeat (first | refine FW.seq ?_ | refine FW.region ?_ | refine RunN.nil ?_ | refine rn_box1 rfl rfl rfl rfl rfl ?_ | refine rn_assign rfl rfl rfl ?_ | refine rn_loadP rfl rfl rfl rfl rfl (by first | omega | (simp; omega) | (simp; done)) (by first | exact getD_map (by omega) | rfl) rfl rfl rfl rfl ?_ | refine rn_move rfl rfl rfl ?_))
  refine rn_callS (successors_spec n E (by omega) (by omega) hin) (by repeat (first | exact ArgsR.nil | refine ArgsR.cons (by first | exact ArgR.plain rfl rfl) ?_)) rfl rfl ?_
  rw [rows_val]
  (repeat (first | refine FW.seq ?_ | refine FW.region ?_ | refine RunN.nil ?_ | refine rn_loadP rfl rfl rfl rfl rfl (by first | omega | (simp; omega) | (simp; done)) (by first | exact getD_map (by omega) | rfl) rfl rfl rfl rfl ?_ | refine rn_alloc rfl rfl rfl rfl rfl rfl rfl ?_ | refine rn_storeV rfl rfl rfl rfl rfl rfl rfl rfl rfl ?_ | refine rn_make rfl (by first | rfl | exact (Int.toNat_of_nonneg (by omega)).symm) rfl (by first | rfl | exact (Int.toNat_of_nonneg (by omega)).symm) rfl rfl rfl rfl (by first | omega | (simp; omega) | (simp; done)) (by first | omega | (simp; omega) | (simp; done)) rfl rfl rfl ?_))
  rw [show List.replicate n [FV.bool false] = (List.replicate n false).map boolw by rw [List.map_replicate]; rfl]
  refine RunN.le ?_ (FLe.toH (i := 8) rfl)
  (repeat (first | refine FW.seq ?_ | refine FW.region ?_ | refine RunN.nil ?_ | refine rn_storeHO rfl rfl rfl rfl rfl rfl (by decide) (by first | omega | (simp; omega) | (simp; done)) rfl ?_))
  refine rn_allocH rfl rfl rfl rfl rfl ?_
  refine RunN.le ?_ ((FLe.shareP 3 rfl rfl).trans (FLe.shareP 7 rfl rfl))
  (repeat (first | refine FW.seq ?_ | refine FW.region ?_ | refine FW.block ?_ | refine RunN.nil ?_ | refine rn_move rfl rfl rfl ?_ | refine rn_storeHW rfl rfl rfl rfl rfl (by first | omega | (simp; omega) | (simp; done)) rfl ?_ | refine rn_makeFnH rfl rfl rfl rfl ?_ | refine rn_lenList rfl rfl (by first | exact List.length_map _ | exact (List.length_map _).symm | exact List.length_replicate | rfl | (simp; done) | omega | (simp; omega)) rfl rfl ?_))
  refine FW.loop (fun j : Nat => ⟨[(8, .ptr 110 0 0 0), (9, .ptr 112 0 0 0), (21, .list 1 (fr.map intf)), (22, .int .i64 fr.length), (23, .int .i64 j)], [(110, ⟨0, .hrow, 107, 1, [[.own 111 0 0 n]]⟩), (111, ⟨0, .own, 4, 1, (seenTo n E fr j).map boolw⟩), (112, ⟨0, .hrow, 99, 1, [[.wrap (.fn 73) [.eptr 1 [[.int .i64 n]] 0 0, .ptr 110 0 0 0, .eptr 1 [[.list 1 ((rowsOf n E).map rowf)]] 0 0, .ptr 112 0 0 0]]]⟩)]⟩) (fun j => j ≤ fr.length) (fun j => fr.length - j) 0 (Nat.zero_le _) ?_ ?_
  · show FLe _ ⟨[(8, .ptr 110 0 0 0), (9, .ptr 112 0 0 0), (21, .list 1 (fr.map intf)), (22, .int .i64 fr.length), (23, .int .i64 0)], [(110, ⟨0, .hrow, 107, 1, [[.own 111 0 0 n]]⟩), (111, ⟨0, .own, 4, 1, (List.replicate n false).map boolw⟩), (112, ⟨0, .hrow, 99, 1, [[.wrap (.fn 73) [.eptr 1 [[.int .i64 n]] 0 0, .ptr 110 0 0 0, .eptr 1 [[.list 1 ((rowsOf n E).map rowf)]] 0 0, .ptr 112 0 0 0]]]⟩)]⟩
    obtain ⟨Z, hZ⟩ : ∃ Z, (List.replicate n false).map boolw = Z := ⟨_, rfl⟩
    rw [hZ]
    exact (FLe.conv [⟨110, some 8, 0 + 1, ⟨0, .hrow, 107, 1, [[.own 111 0 0 n]]⟩⟩, ⟨111, some 19, 0 + 1, ⟨0, .own, 4, 1, Z⟩⟩, ⟨112, some 9, 0 + 1, ⟨0, .hrow, 99, 1, [[.wrap (.fn 73) [.eptr 1 [[.int .i64 n]] 0 0, .ptr 110 0 0 0, .eptr 1 [[.list 1 ((rowsOf n E).map rowf)]] 0 0, .ptr 112 0 0 0]]]⟩⟩] (by simp) (by simp) rfl (by repeat (first | exact GhOk.nil | refine GhOk.low rfl ?_ | refine GhOk.same rfl ?_ | refine GhOk.bump (Nat.lt_succ_self _) ?_)) (by repeat (first | exact EntsOk.nil | refine EntsOk.old rfl (by decide) (by first | rfl | (simp; done) | (congr 1; omega) | (simp; omega) | (simp [List.take_of_length_le]; done) | (refine congrArg (FV.int .i64) ?_; omega)) ?_ | refine EntsOk.oldH rfl (by repeat (first | exact RowE.nil | refine RowE.cons (.own (.tail _ (.head _)) rfl (by first | rfl | (simp; done) | (congr 1; omega) | (simp; omega) | (simp [List.take_of_length_le]; done) | (refine congrArg (FV.int .i64) ?_; omega)) (by first | rfl | (simp; done) | (congr 1; omega) | (simp; omega) | (simp [List.take_of_length_le]; done) | (refine congrArg (FV.int .i64) ?_; omega))) ?_ | refine RowE.cons (.wrap (by repeat (first | exact CelsE.nil | refine CelsE.cons (.plain rfl rfl) ?_ | refine CelsE.cons (.ptr (.head _) rfl) ?_ | refine CelsE.cons (.own (.head _) rfl rfl rfl) ?_ | refine CelsE.cons (.omap (.head _) rfl) ?_ | refine CelsE.cons (.ptr (.tail _ (.head _)) rfl) ?_ | refine CelsE.cons (.own (.tail _ (.head _)) rfl rfl rfl) ?_ | refine CelsE.cons (.omap (.tail _ (.head _)) rfl) ?_ | refine CelsE.cons (.ptr (.tail _ (.tail _ (.head _))) rfl) ?_ | refine CelsE.cons (.own (.tail _ (.tail _ (.head _))) rfl rfl rfl) ?_ | refine CelsE.cons (.omap (.tail _ (.tail _ (.head _))) rfl) ?_))) ?_)) ?_)) (by repeat (first | exact SlC.nil | refine SlC.cons (.plain rfl rfl (by first | rfl | (simp; done) | (congr 1; omega) | (simp; omega) | (simp [List.take_of_length_le]; done) | (refine congrArg (FV.int .i64) ?_; omega))) ?_ | refine SlC.cons (.ptr rfl (.head _) rfl) ?_ | refine SlC.cons (.ptr rfl (.tail _ (.tail _ (.head _))) rfl) ?_)))
  intro j hj
  have hSl : (seenTo n E fr j).length = n := by
    unfold seenTo
    have : ∀ (r : List Int) (b : List Bool), (r.foldl (dfsV E n) b).length = b.length := by
      intro r
      induction r with
      | nil => intro b; rfl
      | cons y r ihr => intro b; rw [List.foldl_cons, ihr, dfs_len]
    rw [this]; simp
  have hst : ∀ h : j < fr.length, seenTo n E fr (j + 1) = dfsV E n (seenTo n E fr j) (nth fr j) := fun h => by
    unfold seenTo
    rw [List.take_succ_eq_append_getElem h, List.foldl_append, ← nth_eq h]; rfl
  have hgr : j = fr.length → gReach n E fr = outTo (seenTo n E fr j) n := fun e => by rw [e]; rfl
  generalize seenTo n E fr j = S at hSl hst hgr
  have hun := unseen_le S
  (repeat (first | refine FW.seq ?_ | refine FW.region ?_ | refine RunN.nil ?_ | refine rn_lss rfl rfl rfl rfl ?_))
  refine FW.cond rfl (fun h => ?_) (fun h => ?_)
  · have hlt : j < fr.length := by simpa using h
    clear h hgr
    have hst := hst hlt
    obtain ⟨x, hx⟩ : ∃ x, nth fr j = x := ⟨_, rfl⟩
    rw [hx] at hst
    (repeat (first | refine FW.seq ?_ | refine FW.region ?_ | refine FW.block ?_ | refine FW.skip ?_ | refine RunN.nil ?_ | refine rn_assign rfl rfl rfl ?_ | refine rn_loadE rfl rfl rfl (by first | omega | (simp; omega) | (simp; done)) (by first | exact getD_map (by omega) | rfl) rfl rfl rfl rfl ?_ | refine rn_loadH rfl rfl rfl rfl rfl rfl rfl ?_ | refine rn_move rfl rfl rfl ?_ | refine rn_indexL rfl rfl (by first | rfl | exact (Int.toNat_of_nonneg (by omega)).symm) rfl rfl rfl (by first | omega | (simp; omega) | (simp; done)) rfl rfl ?_))
    rw [hx]
    refine rn_callLV rfl (visit_specL n E 0 0 0 hn hE hin n S x hSl (by omega)) [(5000, 110), (5001, 111), (5002, 112)] rfl (LendOk.cons rfl rfl rfl (LendOk.cons rfl rfl rfl (LendOk.cons rfl rfl rfl LendOk.nil))) rfl rfl rfl rfl rfl rfl ?_
    rintro _ ob' ⟨rfl, h0, h1, h2⟩
    refine After.one [(110, ⟨0, .hrow, 107, 1, [[.own 111 0 0 n]]⟩), (111, ⟨0, .own, 4, 1, (dfsV E n S x).map boolw⟩), (112, ⟨0, .hrow, 99, 1, [[.wrap (.fn 73) [.eptr 1 [[.int .i64 n]] 0 0, .ptr 110 0 0 0, .eptr 1 [[.list 1 ((rowsOf n E).map rowf)]] 0 0, .ptr 112 0 0 0]]]⟩)] (.tup []) rfl (by show [(110, FObj.ren _ (look {} ob' 5000)), (111, FObj.ren _ (look {} ob' 5001)), (112, FObj.ren _ (look {} ob' 5002))] = _; rw [h0, h1, h2]; rfl) ?_
    clear h0 h1 h2 ob'
    (repeat (first | refine FW.region ?_ | refine RunN.nil ?_ | refine rn_move rfl rfl rfl ?_ | refine rn_add rfl rfl (by omega) rfl rfl ?_))
    refine ⟨j + 1, by omega, by omega, ?_⟩
    rw [hst]
    generalize dfsV E n S x = Y
    exact (FLe.conv [⟨110, some 110, 0, ⟨0, .hrow, 107, 1, [[.own 111 0 0 n]]⟩⟩, ⟨111, some 111, 0, ⟨0, .own, 4, 1, Y.map boolw⟩⟩, ⟨112, some 112, 0, ⟨0, .hrow, 99, 1, [[.wrap (.fn 73) [.eptr 1 [[.int .i64 n]] 0 0, .ptr 110 0 0 0, .eptr 1 [[.list 1 ((rowsOf n E).map rowf)]] 0 0, .ptr 112 0 0 0]]]⟩⟩] (by simp) (by simp) rfl (by repeat (first | exact GhOk.nil | refine GhOk.low rfl ?_ | refine GhOk.same rfl ?_ | refine GhOk.bump (Nat.lt_succ_self _) ?_)) (by repeat (first | exact EntsOk.nil | refine EntsOk.old rfl (by decide) (by first | rfl | (simp; done) | (congr 1; omega) | (simp; omega) | (simp [List.take_of_length_le]; done) | (refine congrArg (FV.int .i64) ?_; omega)) ?_ | refine EntsOk.oldH rfl (by repeat (first | exact RowE.nil | refine RowE.cons (.own (.tail _ (.head _)) rfl (by first | rfl | (simp; done) | (congr 1; omega) | (simp; omega) | (simp [List.take_of_length_le]; done) | (refine congrArg (FV.int .i64) ?_; omega)) (by first | rfl | (simp; done) | (congr 1; omega) | (simp; omega) | (simp [List.take_of_length_le]; done) | (refine congrArg (FV.int .i64) ?_; omega))) ?_ | refine RowE.cons (.wrap (by repeat (first | exact CelsE.nil | refine CelsE.cons (.plain rfl rfl) ?_ | refine CelsE.cons (.ptr (.head _) rfl) ?_ | refine CelsE.cons (.own (.head _) rfl rfl rfl) ?_ | refine CelsE.cons (.omap (.head _) rfl) ?_ | refine CelsE.cons (.ptr (.tail _ (.head _)) rfl) ?_ | refine CelsE.cons (.own (.tail _ (.head _)) rfl rfl rfl) ?_ | refine CelsE.cons (.omap (.tail _ (.head _)) rfl) ?_ | refine CelsE.cons (.ptr (.tail _ (.tail _ (.head _))) rfl) ?_ | refine CelsE.cons (.own (.tail _ (.tail _ (.head _))) rfl rfl rfl) ?_ | refine CelsE.cons (.omap (.tail _ (.tail _ (.head _))) rfl) ?_))) ?_)) ?_)) (by repeat (first | exact SlC.nil | refine SlC.cons (.plain rfl rfl (by first | rfl | (simp; done) | (congr 1; omega) | (simp; omega) | (simp [List.take_of_length_le]; done) | (refine congrArg (FV.int .i64) ?_; omega))) ?_ | refine SlC.cons (.ptr rfl (.head _) rfl) ?_ | refine SlC.cons (.ptr rfl (.tail _ (.tail _ (.head _))) rfl) ?_)))
  · have hje : j = fr.length := by simp at h; omega
    rw [hgr hje]
    clear h hgr hst hun
    (repeat (first | refine FW.seq ?_ | refine FW.region ?_ | refine FW.block ?_ | refine FW.exit ?_ | refine RunN.nil ?_ | refine rn_assign rfl rfl rfl ?_ | refine rn_loadH rfl rfl rfl rfl rfl rfl rfl ?_ | refine rn_move rfl rfl rfl ?_ | refine rn_lenOwn rfl rfl rfl (by decide) rfl rfl ?_))
    refine FW.loop (fun i : Nat => ⟨[(12, .own 101 0 0 (outTo S i).length), (31, .own 111 0 0 n), (32, .int .i64 n), (33, .int .i64 i)], [(101, ⟨0, .own, 3, 1, (outTo S i).map intf⟩), (111, ⟨0, .own, 4, 1, S.map boolw⟩)]⟩) (fun i => i ≤ n) (fun i => n - i) 0 (Nat.zero_le _) ?_ ?_
    · show FLe _ ⟨[(12, .own 101 0 0 0), (31, .own 111 0 0 n), (32, .int .i64 n), (33, .int .i64 0)], [(101, ⟨0, .own, 3, 1, []⟩), (111, ⟨0, .own, 4, 1, S.map boolw⟩)]⟩
      exact (FLe.conv [⟨101, none, 0, ⟨0, .own, 3, 1, []⟩⟩, ⟨111, some 111, 0, ⟨0, .own, 4, 1, S.map boolw⟩⟩] (by simp) (by simp) rfl (by repeat (first | exact GhOk.nil | refine GhOk.low rfl ?_ | refine GhOk.same rfl ?_ | refine GhOk.bump (Nat.lt_succ_self _) ?_)) (by repeat (first | exact EntsOk.nil | refine EntsOk.old rfl (by decide) (by first | rfl | (simp; done) | (congr 1; omega) | (simp; omega) | (simp [List.take_of_length_le]; done) | (refine congrArg (FV.int .i64) ?_; omega)) ?_ | refine EntsOk.new ?_)) (by repeat (first | exact SlC.nil | refine SlC.cons (.plain rfl rfl (by first | rfl | (simp; done) | (congr 1; omega) | (simp; omega) | (simp [List.take_of_length_le]; done) | (refine congrArg (FV.int .i64) ?_; omega))) ?_ | refine SlC.cons (.nil rfl (.head _) rfl) ?_ | refine SlC.cons (.own rfl (.tail _ (.head _)) rfl (by first | rfl | (simp; done) | (congr 1; omega) | (simp; omega) | (simp [List.take_of_length_le]; done) | (refine congrArg (FV.int .i64) ?_; omega))) ?_)))
    intro i hi
    have hos := outTo_succ S i
    have hol := outTo_len S i
    have hlast : i = n → outTo S n = outTo S i := fun e => by rw [e]
    generalize outTo S i = O at hos hol hlast
    (repeat (first | refine FW.seq ?_ | refine FW.region ?_ | refine RunN.nil ?_ | refine rn_lss rfl rfl rfl rfl ?_))
    refine FW.cond rfl (fun h => ?_) (fun h => ?_)
    · have hlt : i < n := by simpa using h
      clear h hlast
      (repeat (first | refine FW.seq ?_ | refine FW.region ?_ | refine FW.block ?_ | refine FW.skip ?_ | refine RunN.nil ?_ | refine rn_assign rfl rfl rfl ?_ | refine rn_loadP rfl rfl rfl rfl rfl (by first | omega | (simp; omega) | (simp; done)) (by first | exact getD_map (by omega) | rfl) rfl rfl rfl rfl ?_ | refine rn_move rfl rfl rfl ?_ | refine rn_indexO rfl rfl (by first | rfl | exact (Int.toNat_of_nonneg (by omega)).symm) rfl rfl rfl (by decide) rfl (by first | omega | (simp; omega) | (simp; done)) rfl rfl ?_))
      refine FW.cond rfl (fun h => ?_) (fun h => ?_)
      · rw [if_pos h] at hos
        (repeat (first | refine FW.region ?_ | refine RunN.nil ?_ | refine rn_assign rfl rfl rfl ?_ | refine rn_move rfl rfl rfl ?_ | refine rn_add rfl rfl (by omega) rfl rfl ?_ | refine rn_buildS1 rfl rfl rfl rfl rfl rfl rfl rfl ?_ | refine rn_appO rfl rfl (by first | exact List.length_map _ | exact (List.length_map _).symm | exact List.length_replicate | rfl | (simp; done) | omega | (simp; omega)) rfl rfl rfl (by decide) (by first | exact SrcR.own rfl rfl (by decide) (by first | exact List.length_map _ | exact (List.length_map _).symm | exact List.length_replicate | rfl | (simp; done) | omega | (simp; omega)) | exact SrcR.list rfl | exact SrcR.nil rfl | exact SrcR.part rfl rfl (by decide)) (by first | omega | (simp; omega) | (simp; done)) (by first | omega | (simp; omega) | (simp; done)) rfl rfl rfl ?_))
        refine ⟨i + 1, by omega, by omega, ?_⟩
        rw [hos, List.length_append, List.map_append]
        exact (FLe.conv [⟨101, some 42, 0 + 1, ⟨0, .own, 3, 1, O.map intf ++ [(i : Int)].map intf⟩⟩, ⟨111, some 111, 0, ⟨0, .own, 4, 1, S.map boolw⟩⟩] (by simp) (by simp) rfl (by repeat (first | exact GhOk.nil | refine GhOk.low rfl ?_ | refine GhOk.same rfl ?_ | refine GhOk.bump (Nat.lt_succ_self _) ?_)) (by repeat (first | exact EntsOk.nil | refine EntsOk.old rfl (by decide) (by first | rfl | (simp; done) | (congr 1; omega) | (simp; omega) | (simp [List.take_of_length_le]; done) | (refine congrArg (FV.int .i64) ?_; omega)) ?_)) (by repeat (first | exact SlC.nil | refine SlC.cons (.plain rfl rfl (by first | rfl | (simp; done) | (congr 1; omega) | (simp; omega) | (simp [List.take_of_length_le]; done) | (refine congrArg (FV.int .i64) ?_; omega))) ?_ | refine SlC.cons (.own rfl (.head _) rfl (by first | rfl | (simp; done) | (congr 1; omega) | (simp; omega) | (simp [List.take_of_length_le]; done) | (refine congrArg (FV.int .i64) ?_; omega))) ?_ | refine SlC.cons (.own rfl (.tail _ (.head _)) rfl (by first | rfl | (simp; done) | (congr 1; omega) | (simp; omega) | (simp [List.take_of_length_le]; done) | (refine congrArg (FV.int .i64) ?_; omega))) ?_)))
      · rw [if_neg (by rw [h]; decide), List.append_nil] at hos
        (repeat (first | refine FW.region ?_ | refine FW.skip ?_ | refine RunN.nil ?_ | refine rn_move rfl rfl rfl ?_ | refine rn_add rfl rfl (by omega) rfl rfl ?_))
        refine ⟨i + 1, by omega, by omega, ?_⟩
        rw [hos]
        exact (FLe.conv [⟨101, some 101, 0, ⟨0, .own, 3, 1, O.map intf⟩⟩, ⟨111, some 111, 0, ⟨0, .own, 4, 1, S.map boolw⟩⟩] (by simp) (by simp) rfl (by repeat (first | exact GhOk.nil | refine GhOk.low rfl ?_ | refine GhOk.same rfl ?_ | refine GhOk.bump (Nat.lt_succ_self _) ?_)) (by repeat (first | exact EntsOk.nil | refine EntsOk.old rfl (by decide) (by first | rfl | (simp; done) | (congr 1; omega) | (simp; omega) | (simp [List.take_of_length_le]; done) | (refine congrArg (FV.int .i64) ?_; omega)) ?_)) (by repeat (first | exact SlC.nil | refine SlC.cons (.plain rfl rfl (by first | rfl | (simp; done) | (congr 1; omega) | (simp; omega) | (simp [List.take_of_length_le]; done) | (refine congrArg (FV.int .i64) ?_; omega))) ?_ | refine SlC.cons (.own rfl (.head _) rfl (by first | rfl | (simp; done) | (congr 1; omega) | (simp; omega) | (simp [List.take_of_length_le]; done) | (refine congrArg (FV.int .i64) ?_; omega))) ?_ | refine SlC.cons (.own rfl (.tail _ (.head _)) rfl (by first | rfl | (simp; done) | (congr 1; omega) | (simp; omega) | (simp [List.take_of_length_le]; done) | (refine congrArg (FV.int .i64) ?_; omega))) ?_)))
    · have hin' : i = n := by simp at h; omega
      rw [hlast hin']
      (repeat (first | refine FW.seq ?_ | refine FW.region ?_ | refine FW.exit ?_ | refine RunN.nil ?_ | refine rn_assign rfl rfl rfl ?_ | refine rn_move rfl rfl rfl ?_))
      refine FW.le ?_ (FLe.share 6 rfl rfl (by simp))
      exact FW.ret ⟨.inl rfl, .sh (.cons (.tmp 6 rfl rfl) .nil) rfl rfl⟩
end Go.Proofs.Ytflkbehbenlhaaa
