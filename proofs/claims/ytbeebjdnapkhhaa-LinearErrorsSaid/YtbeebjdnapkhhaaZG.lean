/-
  Some texts as one: FmOnce, FmHas, FmKeys, FmBefI, WfPlain, KeysPlain.
-/
import Derived.Test.YtbeebjdnapkhhaaZD
import Derived.Test.YtbeebjdnapkhhaaZSortPlain
/-
 The small functions of layers 01, 21 and 24, at plain values.
-/
namespace Go.Proofs.Ytbeebjdnapkhhaa
set_option linter.unusedVariables false
open Go.RowKit

theorem ints_spec (l : List Int) (hl : l.length ≤ 1000000000) : Spec Try.prog 33 [.list 1 (l.map intf), .int .i64 l.length] (.ow 3 1) (.list 1 (l.map intf)) := by
 refine Spec.of_body (c := (cxOf Try.prog tyAt_ok mixed_ok 14)) ⟨Try.func33, rfl, Try.ntmps33, by kernel_rfl⟩ (by simp [FV.hand]) (by exact Nat.le_of_ble_eq_true rfl) rfl ?_
 change FW _ _ _ ⟨[(0, .list 1 (l.map intf)), (1, .int .i64 l.length)], []⟩
 (repeat (first | refine FW.seq ?_ | refine FW.region ?_ | refine RunN.nil ?_ | refine rn_assign rfl rfl rfl ?_ | refine rn_move rfl rfl rfl ?_ | refine rn_lenList rfl rfl (by first | exact List.length_map _ | (simp; done) | omega | (simp; omega)) rfl rfl ?_ | refine rn_min rfl rfl rfl rfl ?_ | refine rn_sliceL rfl rfl rfl rfl (by exact LoR.none) (by exact HiR.lit rfl (by first | rfl | exact (Int.toNat_of_nonneg (by omega)).symm)) (by first | omega | (simp; omega) | (simp; done)) (by first | omega | (simp; omega) | (simp; done)) rfl rfl ?_ | refine rn_appN rfl rfl rfl rfl (by decide) (by exact SrcR.list rfl) (by first | omega | (simp; omega) | (simp; done)) (by first | omega | (simp; omega) | (simp; done)) rfl rfl rfl ?_))
 exact FW.ret ⟨.inl rfl, ret_ow rfl rfl rfl rfl (by decide) (by simp [← List.map_take]) (intT.flatsM l)⟩

theorem put_spec (l : List Int) (i : Nat) (v : Int) (hl : l.length ≤ 1000000000) (hi : i < l.length) : Spec Try.prog 44 [.list 1 (l.map intf), .int .i64 i, .int .i64 v] (.ow 3 1) (.list 1 ((l.set i v).map intf)) := by
 refine Spec.of_body (c := (cxOf Try.prog tyAt_ok mixed_ok 17)) ⟨Try.func44, rfl, Try.ntmps44, by kernel_rfl⟩ (by simp [FV.hand]) (by exact Nat.le_of_ble_eq_true rfl) rfl ?_
 change FW _ _ _ ⟨[(0, .list 1 (l.map intf)), (1, .int .i64 i), (2, .int .i64 v)], []⟩
 (repeat (first | refine FW.seq ?_ | refine FW.region ?_ | refine RunN.nil ?_ | refine rn_assign rfl rfl rfl ?_ | refine rn_move rfl rfl rfl ?_ | refine rn_lenList rfl rfl (by exact List.length_map _) rfl rfl ?_))
 refine rn_callO (ints_spec l hl) (by repeat (first | exact ArgsR.nil | refine ArgsR.cons (by exact ArgR.plain rfl rfl) ?_)) (List.length_map _) rfl rfl rfl ?_
 (repeat (first | refine FW.seq ?_ | refine FW.region ?_ | refine RunN.nil ?_ | refine rn_assign rfl rfl rfl ?_ | refine rn_move rfl rfl rfl ?_ | refine rn_indexO rfl rfl rfl rfl rfl rfl (by decide) rfl (by first | omega | (simp; omega)) rfl rfl ?_ | refine rn_storeR rfl rfl rfl rfl rfl rfl (by first | omega | (simp; omega)) (by first | exact getD_map (by omega) | rfl) rfl rfl rfl ?_))
 exact FW.ret ⟨.inl rfl, ret_ow rfl rfl rfl (by simp) (by decide) (by rw [List.map_set]; rfl) (intT.flatsM _)⟩

theorem sameInts_spec (a b : List Int) (ha : a.length ≤ 1000000000) (hb : b.length ≤ 1000000000) : Spec Try.prog 18 [.list 1 (a.map intf), .list 1 (b.map intf)] .fr (.bool (decide (a = b))) := by
 refine Spec.of_body (c := (cxOf Try.prog tyAt_ok mixed_ok 26)) ⟨Try.func18, rfl, Try.ntmps18, by kernel_rfl⟩ (by simp [FV.hand]) (by exact Nat.le_of_ble_eq_true rfl) rfl ?_
 change FW _ _ _ ⟨[(0, .list 1 (a.map intf)), (1, .list 1 (b.map intf))], []⟩
 (repeat (first | refine FW.seq ?_ | refine FW.region ?_ | refine RunN.nil ?_ | refine rn_assign rfl rfl rfl ?_ | refine rn_move rfl rfl rfl ?_ | refine rn_lenList rfl rfl (by exact List.length_map _) rfl rfl ?_ | refine rn_neq rfl rfl rfl rfl ?_))
 refine FW.cond rfl (fun h => ?_) (fun h => ?_)
 ·(repeat (first | refine FW.seq ?_ | refine FW.region ?_ | refine RunN.nil ?_ | refine rn_assign rfl rfl rfl ?_))
  refine FW.ret ⟨.inl rfl, ret_flat rfl rfl ?_ rfl⟩
  have : a ≠ b := by rintro rfl; simp at h
  simp [this]; rfl
 ·have hlen : a.length = b.length := by simp at h; omega
  (repeat (first | refine FW.seq ?_ | refine FW.region ?_ | refine FW.block ?_ | refine FW.skip ?_ | refine RunN.nil ?_ | refine rn_assign rfl rfl rfl ?_))
  refine FW.loop (fun k : Nat => ⟨[(0, .list 1 (a.map intf)), (1, .list 1 (b.map intf)), (5, .int .i64 k)], []⟩) (fun k => k ≤ a.length ∧ a.take k = b.take k) (fun k => a.length - k) 0 (by simp) (FLe.conv [] (by simp) (by simp) rfl (by repeat (first | exact .nil | refine .low rfl ?_ | refine .same rfl ?_ | refine .bump (Nat.lt_succ_self _) ?_)) (by repeat (first | exact .nil)) (by repeat (first | exact .nil | refine .cons (.plain rfl rfl rfl) ?_))) ?_
  rintro k ⟨hk, hab⟩
  (repeat (first | refine FW.seq ?_ | refine FW.region ?_ | refine RunN.nil ?_ | refine rn_move rfl rfl rfl ?_ | refine rn_lenList rfl rfl (by exact List.length_map _) rfl rfl ?_ | refine rn_lss rfl rfl rfl rfl ?_))
  refine FW.cond rfl (fun h => ?_) (fun h => ?_)
  ·have hlt : k < a.length := by simpa using h
   clear h
   (repeat (first | refine FW.seq ?_ | refine FW.block ?_ | refine FW.skip ?_ | refine FW.draw ?_ | refine RunD.nil ?_ | refine rd_move rfl rfl rfl ?_ | refine rd_neq rfl rfl rfl rfl ?_ | refine rd_indexL rfl rfl rfl rfl rfl rfl (by simp; omega) rfl rfl ?_ | refine rd_loadE rfl rfl rfl (by simp; omega) (by first | exact getD_map (by omega) | rfl) rfl rfl rfl rfl ?_))
   refine ⟨by kernel_rfl, ?_⟩
   refine FW.cond rfl (fun h => ?_) (fun h => ?_)
   ·(repeat (first | refine FW.seq ?_ | refine FW.region ?_ | refine RunN.nil ?_ | refine rn_assign rfl rfl rfl ?_))
    refine FW.ret ⟨.inl rfl, ret_flat rfl rfl ?_ rfl⟩
    have : a ≠ b := by rintro rfl; simp at h
    simp [this]; rfl
   ·(repeat (first | refine FW.region ?_ | refine FW.skip ?_ | refine RunN.nil ?_ | refine rn_assign rfl rfl rfl ?_ | refine rn_move rfl rfl rfl ?_ | refine rn_add rfl rfl (by omega) rfl rfl ?_))
    refine ⟨k + 1, ⟨by omega, ?_⟩, by omega, (FLe.conv [] (by simp) (by simp) rfl (by repeat (first | exact .nil | refine .low rfl ?_ | refine .same rfl ?_ | refine .bump (Nat.lt_succ_self _) ?_)) (by repeat (first | exact .nil)) (by repeat (first | exact .nil | refine .cons (.plain rfl rfl rfl) ?_)))⟩
    have h1 : nth a k = nth b k := by simpa using h
    rw [List.take_succ_eq_append_getElem hlt, List.take_succ_eq_append_getElem (by omega), hab, ← nth_eq hlt, ← nth_eq (by omega), h1]
  ·(repeat (first | refine FW.seq ?_ | refine FW.region ?_ | refine FW.exit ?_ | refine RunN.nil ?_ | refine rn_assign rfl rfl rfl ?_))
   refine FW.ret ⟨.inl rfl, ret_flat rfl rfl ?_ rfl⟩
   have : k = a.length := by simp at h; omega
   subst this
   have : a = b := by rw [List.take_of_length_le (Nat.le_refl _), List.take_of_length_le (by omega)] at hab; exact hab
   simp [this]; rfl

def bef (l : List OpV) (i k : Nat) : Bool := (nth l i).done && decide ((nth l i).ret < (nth l k).call)
set_option maxHeartbeats 1000000 in
theorem hBefore_spec (l : List OpV) (i k : Nat) (hi : i < l.length) (hk : k < l.length) : Spec Try.prog 28 [.list 8 (l.map OpV.fv), .int .i64 i, .int .i64 k] .fr (.bool (bef l i k)) := by
 refine Spec.of_body (c := (cxOf Try.prog tyAt_ok mixed_ok 37)) ⟨Try.func28, rfl, Try.ntmps28, by kernel_rfl⟩ (by simp [FV.hand]) (by exact Nat.le_of_ble_eq_true rfl) rfl ?_
 change FW _ _ _ ⟨[(0, .list 8 (l.map OpV.fv)), (1, .int .i64 i), (2, .int .i64 k)], []⟩
 (repeat (first | refine FW.seq ?_ | refine FW.region ?_ | refine RunN.nil ?_ | refine rn_assign rfl rfl rfl ?_ | refine rn_move rfl rfl rfl ?_ | refine rn_min rfl rfl rfl rfl ?_ | refine rn_lss rfl rfl rfl rfl ?_))
 refine rn_case (fun h => ?_) (fun h => ?_)
 ·exfalso; simp at h; omega
 ·(repeat (first | refine RunN.nil ?_ | refine rn_pickF rfl rfl rfl rfl ?_ | refine rn_move rfl rfl ⟨_, _, rfl, rfl, rfl⟩ ?_ | refine rn_max rfl rfl rfl ⟨_, _, rfl, rfl, rfl⟩ ?_ | refine rn_lenList rfl rfl (by exact List.length_map _) rfl ⟨_, _, rfl, rfl, rfl⟩ ?_ | refine rn_geq rfl rfl rfl ⟨_, _, rfl, rfl, rfl⟩ ?_))
  refine FW.cond rfl (fun h => ?_) (fun h => ?_)
  ·exfalso; simp at h; omega
  (repeat (first | refine FW.seq ?_ | refine FW.skip ?_ | refine FW.draw ?_ | refine rd_move rfl rfl rfl ?_ | refine rd_indexL rfl rfl rfl rfl rfl rfl (by simp; omega) rfl rfl ?_ | refine rd_fieldE rfl rfl rfl rfl rfl rfl rfl ?_ | refine rd_loadE rfl rfl rfl (by simp; omega) (by first | exact getD_map (by omega) | rfl) rfl rfl rfl rfl ?_))
  refine rd_case (fun h => ?_) (fun h => ?_)
  ·(repeat (first | refine RunD.nil ?_ | refine rd_assign rfl rfl rfl ?_ | refine rd_pickT rfl rfl rfl rfl ?_ | refine rd_move rfl rfl ⟨_, _, rfl, rfl, rfl⟩ ?_ | refine rd_indexL rfl rfl rfl rfl rfl rfl (by simp; omega) rfl ⟨_, _, rfl, rfl, rfl⟩ ?_ | refine rd_fieldE rfl rfl rfl rfl rfl rfl ⟨_, _, rfl, rfl, rfl⟩ ?_ | refine rd_loadE rfl rfl rfl (by simp; omega) (by first | exact getD_map (by omega) | rfl) rfl rfl rfl ⟨_, _, rfl, rfl, rfl⟩ ?_ | refine rd_lss rfl rfl rfl ⟨_, _, rfl, rfl, rfl⟩ ?_))
   refine ⟨by kernel_rfl, ?_⟩
   skip
   refine FW.ret ⟨.inl rfl, ret_flat rfl rfl ?_ rfl⟩
   simp [bef, h]; rfl
  ·(repeat (first | refine RunD.nil ?_ | refine rd_assign rfl rfl rfl ?_ | refine rd_pickF rfl rfl rfl rfl ?_ | refine rd_skip rfl rfl ⟨_, _, rfl, rfl, rfl⟩ ?_))
   refine ⟨by kernel_rfl, ?_⟩
   skip
   refine FW.ret ⟨.inl rfl, ret_flat rfl rfl ?_ rfl⟩
   simp [bef, h]; rfl

def isDel (o : OpV) : Bool := decide (o.k = 4) && o.done && decide (o.res ≠ 0)
end Go.Proofs.Ytbeebjdnapkhhaa
/-
 simproofref01.Has, at plain values.
-/
namespace Go.Proofs.Ytbeebjdnapkhhaa
set_option linter.unusedVariables false
open Go.RowKit
end Go.Proofs.Ytbeebjdnapkhhaa
/-
 The keys of a history: the function's and the reference's, at plain values.
-/
namespace Go.Proofs.Ytbeebjdnapkhhaa
set_option linter.unusedVariables false
open Go.RowKit

def keysTo (l : List OpV) (i : Nat) : List Int := (l.take i).map OpV.key
def hKeys (l : List OpV) : List Int := Lib.compact ((l.map OpV.key).mergeSort fun x y => decide (x ≤ y))
theorem keysTo_succ (l : List OpV) (i : Nat) (hi : i < l.length) : keysTo l (i + 1) = keysTo l i ++ [(nth l i).key] := by
 unfold keysTo
 rw [List.take_succ_eq_append_getElem hi, List.map_append, nth_eq hi]
 rfl
theorem keysTo_len (l : List OpV) (i : Nat) : (keysTo l i).length ≤ l.length := by unfold keysTo; rw [List.length_map, List.length_take]; omega
set_option maxHeartbeats 4000000 in
theorem hKeys_spec (l : List OpV) (hl : l.length ≤ 1000000000) : Spec Try.prog 37 [.list 8 (l.map OpV.fv)] (.ow 3 1) (.list 1 ((hKeys l).map intf)) := by
 refine Spec.of_body (c := (cxOf Try.prog tyAt_ok mixed_ok 22)) ⟨Try.func37, rfl, Try.ntmps37, by kernel_rfl⟩ (by simp [FV.hand]) (by exact Nat.le_of_ble_eq_true rfl) rfl ?_
 change FW _ _ _ ⟨[(0, .list 8 (l.map OpV.fv))], []⟩
 (repeat (first | refine FW.seq ?_ | refine FW.region ?_ | refine FW.block ?_ | refine RunN.nil ?_ | refine rn_assign rfl rfl rfl ?_ | refine rn_move rfl rfl rfl ?_ | refine rn_lenList rfl rfl (by exact List.length_map _) rfl rfl ?_))
 refine FW.loop (fun i : Nat => ⟨[(3, .own 100 0 0 (keysTo l i).length), (6, .list 8 (l.map OpV.fv)), (7, .int .i64 l.length), (8, .int .i64 i)], [(100, ⟨0, .own, 3, 1, (keysTo l i).map intf⟩)]⟩) (fun i => i ≤ l.length) (fun i => l.length - i) 0 (Nat.zero_le _)
  (FLe.conv [⟨100, none, 0, ⟨0, .own, 3, 1, []⟩⟩] (by simp) (by simp) rfl (by repeat (first | exact .nil | refine .low rfl ?_ | refine .same rfl ?_ | refine .bump (Nat.lt_succ_self _) ?_)) (by repeat (first | exact .nil | refine .new ?_)) (by repeat (first | exact .nil | refine .cons (.plain rfl rfl rfl) ?_ | refine .cons (.nil rfl (.head _) rfl) ?_))) ?_
 intro i hi
 have hkl := keysTo_len l i
 (repeat (first | refine FW.seq ?_ | refine FW.region ?_ | refine RunN.nil ?_ | refine rn_lss rfl rfl rfl rfl ?_))
 refine FW.cond rfl (fun h => ?_) (fun h => ?_)
 ·have hlt : i < l.length := by simpa using h
  clear h
  (repeat (first | refine FW.seq ?_ | refine FW.region ?_ | refine FW.block ?_ | refine FW.skip ?_ | refine RunN.nil ?_ | refine rn_assign rfl rfl rfl ?_ | refine rn_move rfl rfl rfl ?_ | refine rn_indexL rfl rfl rfl rfl rfl rfl (by first | (simp; omega) | (simp; done)) rfl rfl ?_ | refine rn_loadP rfl rfl rfl rfl rfl (by first | (simp; omega) | (simp; done)) (by first | exact getD_map (by omega) | rfl) rfl rfl rfl rfl ?_ | refine rn_loadEA rfl rfl rfl (by decide) (by first | (simp; omega) | (simp; done)) (by first | exact getD_map (by omega) | rfl) rfl rfl rfl ?_ | refine rn_alloc rfl rfl rfl rfl rfl rfl rfl ?_ | refine rn_storeVA rfl rfl rfl rfl rfl rfl rfl rfl rfl ?_ | refine rn_fieldP rfl rfl rfl rfl rfl rfl (by decide) rfl rfl ?_ | refine rn_buildS1 rfl rfl rfl rfl rfl rfl rfl rfl ?_ | refine rn_appO rfl rfl (by first | exact (List.length_map _).symm | rfl | (simp; done) | (simp; omega)) rfl rfl rfl (by decide) (by exact SrcR.own rfl rfl (by decide) (by first | exact List.length_map _ | exact (List.length_map _).symm | exact List.length_replicate | rfl | (simp; done) | omega | (simp; omega))) (by first | (simp; omega) | (simp; done)) (by first | (simp; omega) | (simp; done)) rfl rfl rfl ?_ | refine rn_add rfl rfl (by omega) rfl rfl ?_))
  refine ⟨i + 1, by omega, by omega, ?_⟩
  rw [keysTo_succ l i hlt, List.map_append]
  exact (FLe.conv [⟨100, some 16, 1, ⟨0, .own, 3, 1, (keysTo l i).map intf ++ [(nth l i).key].map intf⟩⟩] (by simp) (by simp) rfl (by repeat (first | exact .nil | refine .low rfl ?_ | refine .same rfl ?_ | refine .bump (Nat.lt_succ_self _) ?_)) (by repeat (first | exact .nil | refine .old rfl (by decide) (by first | rfl | (simp; done)) ?_)) (by repeat (first | exact .nil | refine .cons (.plain rfl rfl (by first | rfl | (simp; done))) ?_ | refine .cons (.own rfl (.head _) rfl (by first | rfl | (simp; done))) ?_)))
 ·have : i = l.length := by simp at h; omega
  subst this
  have hk : keysTo l l.length = l.map OpV.key := by unfold keysTo; rw [List.take_length]
  rw [hk]
  have hlen : ((l.map OpV.key).mergeSort fun x y => decide (x ≤ y)).length = (l.map OpV.key).length := List.length_mergeSort _
  (repeat (first | refine FW.seq ?_ | refine FW.region ?_ | refine FW.exit ?_ | refine rn_move rfl rfl rfl ?_))
  refine rn_callL (sort_specL 0 (l.map OpV.key) (by simp; omega)) [(5000, 100)] rfl (LendOk.cons rfl rfl rfl LendOk.nil) rfl rfl rfl rfl rfl rfl ?_
  rintro _ _ ⟨rfl, h1⟩
  refine After.one [(100, ⟨0, .own, 3, 1, ((l.map OpV.key).mergeSort fun x y => decide (x ≤ y)).map intf⟩)] (.tup []) rfl (congrArg (fun b => [(100, FObj.ren (gOf [(5000, 100)]) b)]) h1) ?_
  (repeat (first | refine FW.seq ?_ | refine FW.region ?_ | refine RunN.nil ?_ | refine rn_move rfl rfl rfl ?_))
  refine rn_callL (compact_specL 0 ((l.map OpV.key).mergeSort fun x y => decide (x ≤ y)) (by rw [hlen]; simp; omega)) [(5000, 100)] ?_ (LendOk.cons rfl rfl rfl LendOk.nil) rfl rfl rfl rfl rfl rfl ?_
  ·rw [hlen]; rfl
  rintro _ _ ⟨rfl, h1⟩
  refine After.one [(100, ⟨1, .own, 3, 1, (hKeys l).map intf⟩)] (.own 100 1 0 (hKeys l).length) rfl (congrArg (fun b => [(100, FObj.ren (gOf [(5000, 100)]) b)]) h1) ?_
  (repeat (first | refine RunN.nil ?_ | refine rn_assign rfl rfl rfl ?_))
  exact FW.ret ⟨.inl rfl, ret_ow rfl rfl rfl (by simp) (by decide) rfl (intT.flatsM _)⟩

def lead (l : List Int) (x : Int) : Nat := (l.takeWhile fun y => decide (y < x)).length
def insK (l : List Int) (x : Int) : List Int := if x ∈ l then l else l.take (lead l x) ++ [x] ++ l.drop (lead l x)
def rKeysTo (l : List OpV) : Nat → List Int
 | 0 => []
 | i + 1 => insK (rKeysTo l i) (nth l i).key
end Go.Proofs.Ytbeebjdnapkhhaa
/-
 Before, of whatever numbers, at plain values.
-/
namespace Go.Proofs.Ytbeebjdnapkhhaa
set_option linter.unusedVariables false
open Go.RowKit

end Go.Proofs.Ytbeebjdnapkhhaa
/-
 Lists of operations that are histories, told by pairs; what keeps them so.
-/
namespace Go.Proofs.Ytbeebjdnapkhhaa
set_option linter.unusedVariables false

def hRel (a b : OpV) : Prop := a.call < b.call ∧ (a.done = true → a.ret ≠ b.call ∧ (b.done = true → b.ret ≠ a.ret)) ∧ (a.p = b.p → a.done = true ∧ a.ret ≤ b.call)
structure WFH (l : List OpV) : Prop where
 len : l.length ≤ 300
 wf : ∀ o ∈ l, wfB o = true
 rel : l.Pairwise hRel

theorem WFH.pair {l : List OpV} (h : WFH l) {i j : Nat} (hij : i < j) (hj : j < l.length) : hRel (nth l i) (nth l j) := by
 rw [nth_eq hj, nth_eq (show i < l.length by omega)]
 exact List.pairwise_iff_getElem.1 h.rel i j (by omega) hj hij
theorem WFH.at {l : List OpV} (h : WFH l) {i : Nat} (hi : i < l.length) : wfB (nth l i) = true := h.wf _ (nth_mem hi)
theorem wfB_call {o : OpV} (h : wfB o = true) : o.call < o.ret := by
 simp only [wfB, Bool.and_eq_true, decide_eq_true_eq] at h
 omega
theorem WFH.err {l : List OpV} (h : WFH l) {k : Nat} (hk : k < l.length) : errK l k = 0 := by
 unfold errK
 rw [if_neg (by rw [h.at hk]; decide)]
 rw [if_neg (fun e => by have := (h.pair (show k - 1 < k by omega) hk).1; omega)]
 rw [if_neg (fun e => ?_), if_neg (fun e => ?_)]
 ·obtain ⟨e1, e2⟩ := e
  obtain ⟨q, hq⟩ := Option.isSome_iff_exists.1 e1
  rw [hq] at e2
  simp only [Option.getD_some] at e2
  obtain ⟨m, hm, hmq, hmp⟩ := lastOf_some hq
  subst hmq
  obtain ⟨h1, h2⟩ := (h.pair hm hk).2.2 hmp
  rcases e2 with e2 | e2
  ·rw [h1] at e2; cases e2
  ·omega
 ·have ret : ∀ x, retB l k x = true → ∃ m, m < k ∧ (nth l m).done = true ∧ (nth l m).ret = x := fun x hx => by
   unfold retB at hx
   obtain ⟨m, h1, _, h3⟩ := any_take hx
   simp only [Bool.and_eq_true, beq_iff_eq] at h3
   exact ⟨m, h1, h3⟩
  simp only [Bool.or_eq_true, Bool.and_eq_true] at e
  rcases e with e | ⟨hd, e | e⟩
  ·obtain ⟨m, h1, h2, h3⟩ := ret _ e
   exact ((h.pair h1 hk).2.1 h2).1 h3
  ·obtain ⟨m, h1, h2, h3⟩ := ret _ e
   exact ((h.pair h1 hk).2.1 h2).2 hd h3.symm
  ·unfold callB at e
   obtain ⟨j, _, hj, h3⟩ := any_take e
   simp only [beq_iff_eq] at h3
   have hc := wfB_call (h.at hk)
   rcases Nat.lt_trichotomy j k with h4 | h4 | h4
   ·have := (h.pair h4 hk).1; omega
   ·subst h4; omega
   ·exact ((h.pair h4 hj).2.1 hd).1 h3.symm
theorem WFH.check {l : List OpV} (h : WFH l) : hCheck l = 0 := by
 unfold hCheck
 rw [if_neg (by have := h.len; omega)]
 exact hCheckFrom_zero _ _ fun j _ hj => h.err (by omega)

theorem WFH.sub {l l' : List OpV} (h : WFH l) (hs : l'.Sublist l) : WFH l' := ⟨Nat.le_trans hs.length_le h.len, fun o ho => h.wf o (hs.subset ho), h.rel.sublist hs⟩
theorem WFH.filter {l : List OpV} (h : WFH l) (f : OpV → Bool) : WFH (l.filter f) := h.sub List.filter_sublist
theorem WFH.map {l : List OpV} (h : WFH l) (f : OpV → OpV) (hf : ∀ o, (f o).p = o.p ∧ (f o).k = o.k ∧ (f o).call = o.call ∧ (f o).ret = o.ret ∧ (f o).done = o.done ∧ (o.res = 0 → (f o).res = 0)) : WFH (l.map f) := by
 refine ⟨by rw [List.length_map]; exact h.len, fun o ho => ?_, ?_⟩
 ·obtain ⟨x, hx, rfl⟩ := List.mem_map.1 ho
  have hw := h.wf x hx
  obtain ⟨h1, h2, h3, h4, h5, h6⟩ := hf x
  simp only [wfB, Bool.and_eq_true, Bool.or_eq_true, decide_eq_true_eq] at hw ⊢
  rw [h1, h2, h3, h4, h5]
  exact ⟨hw.1, hw.2.imp id h6⟩
 ·rw [List.pairwise_map]
  refine h.rel.imp fun {a b} hab => ?_
  obtain ⟨a1, _, a3, a4, a5, _⟩ := hf a
  obtain ⟨b1, _, b3, b4, b5, _⟩ := hf b
  unfold hRel at hab ⊢
  rw [a1, a3, a4, a5, b1, b3, b4, b5]
  exact hab
theorem WFH.set {l : List OpV} (h : WFH l) {i : Nat} (hi : i < l.length) {o : OpV} (hf : o.p = (nth l i).p ∧ o.k = (nth l i).k ∧ o.call = (nth l i).call ∧ o.ret = (nth l i).ret ∧ o.done = (nth l i).done ∧ ((nth l i).done = false → o.res = (nth l i).res)) : WFH (l.set i o) := by
 obtain ⟨h1, h2, h3, h4, h5, h6⟩ := hf
 have hw := h.at hi
 refine ⟨by simpa using h.len, fun x hx => ?_, ?_⟩
 ·rcases List.mem_or_eq_of_mem_set hx with hx | rfl
  ·exact h.wf x hx
  ·simp only [wfB, Bool.and_eq_true, Bool.or_eq_true, decide_eq_true_eq] at hw ⊢
   rw [h1, h2, h3, h4, h5]
   refine ⟨hw.1, ?_⟩
   cases hd : (nth l i).done with
   | true => exact .inl rfl
   | false => right; rw [h6 hd]; rw [hd] at hw; simpa using hw.2
 ·have key : ∀ j, j < l.length → (nth (l.set i o) j).p = (nth l j).p ∧ (nth (l.set i o) j).call = (nth l j).call ∧ (nth (l.set i o) j).ret = (nth l j).ret ∧ (nth (l.set i o) j).done = (nth l j).done := fun j hj => by
   by_cases e : i = j
   ·subst e; rw [nth_set_same hi]; exact ⟨h1, h3, h4, h5⟩
   ·rw [nth_set_other e]; exact ⟨rfl, rfl, rfl, rfl⟩
  rw [List.pairwise_iff_getElem]
  intro a b ha hb hab
  have ha' : a < l.length := by simpa using ha
  have hb' : b < l.length := by simpa using hb
  have hp := h.pair hab hb'
  rw [← nth_eq ha, ← nth_eq hb]
  obtain ⟨a1, a2, a3, a4⟩ := key a ha'
  obtain ⟨b1, b2, b3, b4⟩ := key b hb'
  unfold hRel at hp ⊢
  rw [a1, a2, a3, a4, b1, b2, b3, b4]
  exact hp
end Go.Proofs.Ytbeebjdnapkhhaa
/-
 The two lists of a history's keys are equal: both ascend and have the same members.
-/
namespace Go.Proofs.Ytbeebjdnapkhhaa
set_option linter.unusedVariables false
open Go.RowKit

theorem lead_split : ∀ (l : List Int) (x : Int), l.Pairwise (· < ·) → (∀ y ∈ l.take (lead l x), y < x) ∧ ∀ y ∈ l.drop (lead l x), x ≤ y
 | [], x, _ => by simp
 | z :: l, x, h => by
  rw [List.pairwise_cons] at h
  unfold lead
  rw [List.takeWhile_cons]
  by_cases hz : z < x
  ·rw [if_pos (by simpa using hz)]
   have ih := lead_split l x h.2
   unfold lead at ih
   rw [List.length_cons, List.take_succ_cons, List.drop_succ_cons]
   refine ⟨fun y hy => ?_, ih.2⟩
   rcases List.mem_cons.1 hy with rfl | hy
   ·exact hz
   ·exact ih.1 y hy
  ·rw [if_neg (by simpa using hz)]
   refine ⟨by simp, fun y hy => ?_⟩
   rcases List.mem_cons.1 (by simpa using hy) with rfl | hy
   ·omega
   ·have := h.1 y hy; omega
theorem insK_asc {l : List Int} {x : Int} (h : l.Pairwise (· < ·)) : (insK l x).Pairwise (· < ·) := by
 unfold insK
 split
 ·exact h
 ·rename_i hx
  obtain ⟨h1, h2⟩ := lead_split l x h
  have hd : ∀ y ∈ l.drop (lead l x), x < y := fun y hy => by
   have := h2 y hy
   have hne : x ≠ y := fun e => hx (by rw [e]; exact List.mem_of_mem_drop hy)
   omega
  have ht := h.take (i := lead l x)
  have hdr := h.drop (i := lead l x)
  refine List.pairwise_append.2 ⟨List.pairwise_append.2 ⟨ht, by simp, fun a ha b hb => ?_⟩, hdr, fun a ha b hb => ?_⟩
  ·rw [List.mem_singleton] at hb; subst hb; exact h1 a ha
  ·rcases List.mem_append.1 ha with ha | ha
   ·have := h1 a ha; have := hd b hb; omega
   ·rw [List.mem_singleton] at ha; subst ha; exact hd b hb
theorem insK_mem {l : List Int} {x y : Int} : y ∈ insK l x ↔ y ∈ l ∨ y = x := by
 unfold insK
 split
 ·rename_i h
  constructor
  ·exact fun h => .inl h
  ·rintro (h' | rfl)
   ·exact h'
   ·exact h
 ·have e : l = l.take (lead l x) ++ l.drop (lead l x) := (List.take_append_drop _ _).symm
  conv => rhs; rw [e]
  simp only [List.mem_append, List.mem_singleton]
  constructor
  ·rintro ((h | h) | h)
   ·exact .inl (.inl h)
   ·exact .inr h
   ·exact .inl (.inr h)
  ·rintro ((h | h) | h)
   ·exact .inl (.inl h)
   ·exact .inr h
   ·exact .inl (.inr h)
theorem rKeysTo_asc (l : List OpV) : ∀ i, (rKeysTo l i).Pairwise (· < ·)
 | 0 => List.Pairwise.nil
 | i + 1 => insK_asc (rKeysTo_asc l i)
theorem rKeysTo_mem (l : List OpV) (y : Int) : ∀ i, i ≤ l.length → (y ∈ rKeysTo l i ↔ y ∈ keysTo l i)
 | 0, _ => by simp [rKeysTo, keysTo]
 | i + 1, h => by
  rw [rKeysTo, insK_mem, rKeysTo_mem l y i (by omega), keysTo_succ l i (by omega)]
  simp

theorem hKeys_asc (l : List OpV) : (hKeys l).Pairwise (· < ·) := compact_asc (sorted_ms _)
theorem hKeys_mem (l : List OpV) (y : Int) : y ∈ hKeys l ↔ ∃ o ∈ l, o.key = y := by
 unfold hKeys
 rw [compact_mem, List.mem_mergeSort, List.mem_map]
theorem hKeys_eq (l : List OpV) : hKeys l = rKeysTo l l.length := by
 refine asc_eq (hKeys_asc l) (rKeysTo_asc l _) fun x => ?_
 rw [rKeysTo_mem l x l.length (Nat.le_refl _), hKeys_mem]
 unfold keysTo
 rw [List.take_length, List.mem_map]
end Go.Proofs.Ytbeebjdnapkhhaa
