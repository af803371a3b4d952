/-
  Functions of layer 24, at plain values: Push, First, Domain.
-/
import Derived.Test.YthijndjgchbeoaaFmOnce
namespace Go.Proofs.Ythijndjgchbeoaa
set_option linter.unusedVariables false
open Go.RowKit

/-- the push of an element -/
def isPushOf (key v : Int) (o : OpV) : Bool := decide (o.k = 3) && (decide (o.key = key) && decide (o.arg = v))
def pushIx (l : List OpV) (key v : Int) : Int := match l.findIdx? (isPushOf key v) with | some i => i | none => -1
theorem pushIx_at {l : List OpV} {key v : Int} {k : Nat} (hk : k < l.length) (h : isPushOf key v (nth l k) = true) (hn : ∀ j, j < k → isPushOf key v (nth l j) = false) : pushIx l key v = k := by
  have : l.findIdx? (isPushOf key v) = some k := by
    rw [List.findIdx?_eq_some_iff_getElem]
    refine ⟨hk, by rw [← nth_eq hk]; exact h, fun j hj => ?_⟩
    have := hn j hj
    rw [nth_eq (by omega)] at this
    simpa using this
  simp [pushIx, this]
theorem pushIx_none {l : List OpV} {key v : Int} (hn : ∀ j, j < l.length → isPushOf key v (nth l j) = false) : pushIx l key v = -1 := by
  have : l.findIdx? (isPushOf key v) = none := by
    rw [List.findIdx?_eq_none_iff]
    intro x hx
    obtain ⟨j, hj, rfl⟩ := List.getElem_of_mem hx
    rw [← nth_eq hj]; exact hn j hj
  simp [pushIx, this]

set_option maxHeartbeats 1000000 in
theorem push_spec (l : List OpV) (key v : Int) (hl : l.length ≤ 1000000000) : Spec Try.prog 47 [.list 8 (l.map OpV.fv), .int .i64 key, .int .i64 v] .fr (.int .i64 (pushIx l key v)) := by
  refine Spec.of_body (c := (cxOf Try.prog tyAt_ok mixed_ok 39)) ⟨Try.func47, rfl, Try.ntmps47, by kernel_rfl⟩ (by simp [FV.hand]) (by exact Nat.le_of_ble_eq_true rfl) rfl ?_
  change FW _ _ _ ⟨[(0, .list 8 (l.map OpV.fv)), (1, .int .i64 key), (2, .int .i64 v)], []⟩
  (repeat (first | refine FW.seq ?_ | refine FW.region ?_ | refine FW.block ?_ | refine RunN.nil ?_ | refine rn_assign rfl rfl rfl ?_))
  refine FW.loop (fun k : Nat => ⟨[(0, .list 8 (l.map OpV.fv)), (1, .int .i64 key), (2, .int .i64 v), (7, .int .i64 k)], []⟩) (fun k => k ≤ l.length ∧ ∀ j, j < k → isPushOf key v (nth l j) = false) (fun k => l.length - k) 0 (by simp) (FLe.conv [] (by simp) (by simp) (by repeat (first | exact EntsOk.nil)) (by repeat (first | exact SlC.nil | refine SlC.cons (.plain rfl rfl (by first | rfl | (simp; done) | (congr 1; omega) | (simp; omega))) ?_))) ?_
  rintro k ⟨hk, hn⟩
  (repeat (first | refine FW.seq ?_ | refine FW.region ?_ | refine RunN.nil ?_ | refine rn_move rfl rfl rfl ?_ | refine rn_lenList rfl rfl (by first | exact List.length_map _ | exact (List.length_map _).symm | exact List.length_replicate | rfl | (simp; done) | omega | (simp; omega)) rfl rfl ?_ | refine rn_lss rfl rfl rfl rfl ?_))
  refine FW.cond rfl (fun h => ?_) (fun h => ?_)
  · have hlt : k < l.length := by simpa using h
    clear h
    have step : isPushOf key v (nth l k) = false → ∀ j, j < k + 1 → isPushOf key v (nth l j) = false := fun h0 j hj => by
      rcases Nat.lt_or_ge j k with h1 | h1
      · exact hn j h1
      · have : j = k := by omega
        subst this; exact h0
    (repeat (first | refine FW.seq ?_ | refine FW.region ?_ | refine FW.block ?_ | refine FW.skip ?_ | refine rn_move rfl rfl rfl ?_ | refine rn_indexL rfl rfl (by first | rfl | exact (Int.toNat_of_nonneg (by omega)).symm) rfl rfl rfl (by first | omega | (simp; omega) | (simp; done)) rfl rfl ?_ | refine rn_fieldE rfl rfl rfl rfl rfl rfl rfl ?_ | refine rn_loadE rfl rfl rfl (by first | omega | (simp; omega) | (simp; done)) (by first | exact getD_map (by omega) | rfl) rfl rfl rfl rfl ?_ | refine rn_eql rfl rfl rfl rfl ?_))
    refine rn_case (fun h1 => ?_) (fun h1 => ?_)
    · (repeat (first | refine rn_move rfl rfl rfl ?_ | refine rn_pickT rfl rfl rfl rfl ?_ | refine rn_move rfl rfl ⟨_, _, rfl, rfl, rfl⟩ ?_ | refine rn_indexL rfl rfl (by first | rfl | exact (Int.toNat_of_nonneg (by omega)).symm) rfl rfl rfl (by first | omega | (simp; omega) | (simp; done)) rfl ⟨_, _, rfl, rfl, rfl⟩ ?_ | refine rn_fieldE rfl rfl rfl rfl rfl rfl ⟨_, _, rfl, rfl, rfl⟩ ?_ | refine rn_loadE rfl rfl rfl (by first | omega | (simp; omega) | (simp; done)) (by first | exact getD_map (by omega) | rfl) rfl rfl rfl ⟨_, _, rfl, rfl, rfl⟩ ?_ | refine rn_eql rfl rfl rfl ⟨_, _, rfl, rfl, rfl⟩ ?_))
      refine rn_case (fun h2 => ?_) (fun h2 => ?_)
      · (repeat (first | refine RunN.nil ?_ | refine rn_pickT rfl rfl rfl rfl ?_ | refine rn_move rfl rfl ⟨_, _, rfl, rfl, rfl⟩ ?_ | refine rn_indexL rfl rfl (by first | rfl | exact (Int.toNat_of_nonneg (by omega)).symm) rfl rfl rfl (by first | omega | (simp; omega) | (simp; done)) rfl ⟨_, _, rfl, rfl, rfl⟩ ?_ | refine rn_fieldE rfl rfl rfl rfl rfl rfl ⟨_, _, rfl, rfl, rfl⟩ ?_ | refine rn_loadE rfl rfl rfl (by first | omega | (simp; omega) | (simp; done)) (by first | exact getD_map (by omega) | rfl) rfl rfl rfl ⟨_, _, rfl, rfl, rfl⟩ ?_ | refine rn_eql rfl rfl rfl ⟨_, _, rfl, rfl, rfl⟩ ?_))
        refine FW.cond rfl (fun h3 => ?_) (fun h3 => ?_)
        · (repeat (first | refine FW.seq ?_ | refine FW.region ?_ | refine RunN.nil ?_ | refine rn_assign rfl rfl rfl ?_ | refine rn_move rfl rfl rfl ?_))
          refine FW.ret ⟨.inl rfl, ret_flat rfl rfl ?_ rfl⟩
          rw [pushIx_at hlt (by simp at h1 h2 h3; simp [isPushOf, h1, h2, h3]) hn]
          rfl
        · (repeat (first | refine FW.region ?_ | refine FW.skip ?_ | refine RunN.nil ?_ | refine rn_assign rfl rfl rfl ?_ | refine rn_move rfl rfl rfl ?_ | refine rn_add rfl rfl (by omega) rfl rfl ?_))
          exact ⟨k + 1, ⟨by omega, step (by simp at h1 h2 h3; simp [isPushOf, h1, h2, h3])⟩, by omega, (FLe.conv [] (by simp) (by simp) (by repeat (first | exact EntsOk.nil)) (by repeat (first | exact SlC.nil | refine SlC.cons (.plain rfl rfl (by first | rfl | (simp; done) | (congr 1; omega) | (simp; omega))) ?_)))⟩
      · (repeat (first | refine FW.region ?_ | refine FW.skip ?_ | refine FW.condF rfl ?_ | refine RunN.nil ?_ | refine rn_assign rfl rfl rfl ?_ | refine rn_move rfl rfl rfl ?_ | refine rn_pickF rfl rfl rfl rfl ?_ | refine rn_add rfl rfl (by omega) rfl rfl ?_ | refine rn_skip rfl rfl ⟨_, _, rfl, rfl, rfl⟩ ?_))
        exact ⟨k + 1, ⟨by omega, step (by simp at h1 h2; simp [isPushOf, h1, h2])⟩, by omega, (FLe.conv [] (by simp) (by simp) (by repeat (first | exact EntsOk.nil)) (by repeat (first | exact SlC.nil | refine SlC.cons (.plain rfl rfl (by first | rfl | (simp; done) | (congr 1; omega) | (simp; omega))) ?_)))⟩
    · (repeat (first | refine FW.region ?_ | refine FW.skip ?_ | refine FW.condF rfl ?_ | refine RunN.nil ?_ | refine rn_assign rfl rfl rfl ?_ | refine rn_move rfl rfl rfl ?_ | refine rn_pickF rfl rfl rfl rfl ?_ | refine rn_add rfl rfl (by omega) rfl rfl ?_ | refine rn_skip rfl rfl ⟨_, _, rfl, rfl, rfl⟩ ?_))
      exact ⟨k + 1, ⟨by omega, step (by simp at h1; simp [isPushOf, h1])⟩, by omega, (FLe.conv [] (by simp) (by simp) (by repeat (first | exact EntsOk.nil)) (by repeat (first | exact SlC.nil | refine SlC.cons (.plain rfl rfl (by first | rfl | (simp; done) | (congr 1; omega) | (simp; omega))) ?_)))⟩
  · have : k = l.length := by simp at h; omega
    subst this
    (repeat (first | refine FW.seq ?_ | refine FW.region ?_ | refine FW.exit ?_ | refine RunN.nil ?_ | refine rn_assign rfl rfl rfl ?_))
    refine FW.ret ⟨.inl rfl, ret_flat rfl rfl ?_ rfl⟩
    rw [pushIx_none hn]
    rfl

/-- a delivery of the same element -/
def isDelOf (o p : OpV) : Bool := isDel p && (decide (p.key = o.key) && decide (p.res = o.res))
def firstIx (l : List OpV) (i : Nat) : Nat := ((l.take i).findIdx? (isDelOf (nth l i))).getD i
theorem firstIx_at {l : List OpV} {i k : Nat} (hi : i < l.length) (hk : k < i) (h : isDelOf (nth l i) (nth l k) = true) (hn : ∀ j, j < k → isDelOf (nth l i) (nth l j) = false) : firstIx l i = k := by
  have : (l.take i).findIdx? (isDelOf (nth l i)) = some k := by
    rw [List.findIdx?_eq_some_iff_getElem]
    refine ⟨by simp; omega, by rw [List.getElem_take, ← nth_eq (by omega)]; exact h, fun j hj => ?_⟩
    have := hn j hj
    rw [nth_eq (show j < l.length by omega)] at this
    simpa using this
  simp [firstIx, this]
theorem firstIx_none {l : List OpV} {i : Nat} (hi : i < l.length) (hn : ∀ j, j < i → isDelOf (nth l i) (nth l j) = false) : firstIx l i = i := by
  have : (l.take i).findIdx? (isDelOf (nth l i)) = none := by
    rw [List.findIdx?_eq_none_iff]
    intro x hx
    obtain ⟨j, hj, rfl⟩ := List.getElem_of_mem hx
    have hji : j < i := by simp at hj; omega
    rw [List.getElem_take, ← nth_eq (by omega)]; exact hn j hji
  simp [firstIx, this]

set_option maxHeartbeats 1000000 in
theorem first_spec (l : List OpV) (i : Nat) (hi : i < l.length) (hl : l.length ≤ 1000000000) : Spec Try.prog 49 [.list 8 (l.map OpV.fv), .int .i64 i] .fr (.int .i64 (firstIx l i)) := by
  refine Spec.of_body (c := (cxOf Try.prog tyAt_ok mixed_ok 44)) ⟨Try.func49, rfl, Try.ntmps49, by kernel_rfl⟩ (by simp [FV.hand]) (by exact Nat.le_of_ble_eq_true rfl) rfl ?_
  change FW _ _ _ ⟨[(0, .list 8 (l.map OpV.fv)), (1, .int .i64 i)], []⟩
  (repeat (first | refine FW.seq ?_ | refine FW.region ?_ | refine FW.block ?_ | refine RunN.nil ?_ | refine rn_assign rfl rfl rfl ?_))
  refine FW.loop (fun k : Nat => ⟨[(0, .list 8 (l.map OpV.fv)), (1, .int .i64 i), (5, .int .i64 k)], []⟩) (fun k => k ≤ i ∧ ∀ j, j < k → isDelOf (nth l i) (nth l j) = false) (fun k => i - k) 0 (by simp) (FLe.conv [] (by simp) (by simp) (by repeat (first | exact EntsOk.nil)) (by repeat (first | exact SlC.nil | refine SlC.cons (.plain rfl rfl (by first | rfl | (simp; done) | (congr 1; omega) | (simp; omega))) ?_))) ?_
  rintro k ⟨hk, hn⟩
  (repeat (first | refine FW.seq ?_ | refine FW.region ?_ | refine RunN.nil ?_ | refine rn_move rfl rfl rfl ?_ | refine rn_lss rfl rfl rfl rfl ?_))
  refine FW.cond rfl (fun h => ?_) (fun h => ?_)
  · have hlt : k < i := by simpa using h
    have hkl : k < l.length := by omega
    clear h
    have step : isDelOf (nth l i) (nth l k) = false → ∀ j, j < k + 1 → isDelOf (nth l i) (nth l j) = false := fun h0 j hj => by
      rcases Nat.lt_or_ge j k with h1 | h1
      · exact hn j h1
      · have : j = k := by omega
        subst this; exact h0
    (repeat (first | refine FW.seq ?_ | refine FW.block ?_ | refine FW.skip ?_ | refine FW.draw ?_ | refine rd_move rfl rfl rfl ?_))
    refine rd_call (delivers24_spec l k hkl) (by repeat (first | exact ArgsR.nil | refine ArgsR.cons (by first | exact ArgR.plain rfl rfl) ?_)) rfl rfl ?_
    (repeat (first | refine rd_move rfl rfl rfl ?_))
    refine rd_case (fun h1 => ?_) (fun h1 => ?_)
    · (repeat (first | refine rd_move rfl rfl rfl ?_ | refine rd_pickT rfl rfl rfl rfl ?_ | refine rd_move rfl rfl ⟨_, _, rfl, rfl, rfl⟩ ?_ | refine rd_indexL rfl rfl (by first | rfl | exact (Int.toNat_of_nonneg (by omega)).symm) rfl rfl rfl (by first | omega | (simp; omega) | (simp; done)) rfl ⟨_, _, rfl, rfl, rfl⟩ ?_ | refine rd_fieldE rfl rfl rfl rfl rfl rfl ⟨_, _, rfl, rfl, rfl⟩ ?_ | refine rd_loadE rfl rfl rfl (by first | omega | (simp; omega) | (simp; done)) (by first | exact getD_map (by omega) | rfl) rfl rfl rfl ⟨_, _, rfl, rfl, rfl⟩ ?_ | refine rd_eql rfl rfl rfl ⟨_, _, rfl, rfl, rfl⟩ ?_))
      refine rd_case (fun h2 => ?_) (fun h2 => ?_)
      · (repeat (first | refine RunD.nil ?_ | refine rd_assign rfl rfl rfl ?_ | refine rd_pickT rfl rfl rfl rfl ?_ | refine rd_move rfl rfl ⟨_, _, rfl, rfl, rfl⟩ ?_ | refine rd_indexL rfl rfl (by first | rfl | exact (Int.toNat_of_nonneg (by omega)).symm) rfl rfl rfl (by first | omega | (simp; omega) | (simp; done)) rfl ⟨_, _, rfl, rfl, rfl⟩ ?_ | refine rd_fieldE rfl rfl rfl rfl rfl rfl ⟨_, _, rfl, rfl, rfl⟩ ?_ | refine rd_loadE rfl rfl rfl (by first | omega | (simp; omega) | (simp; done)) (by first | exact getD_map (by omega) | rfl) rfl rfl rfl ⟨_, _, rfl, rfl, rfl⟩ ?_ | refine rd_eql rfl rfl rfl ⟨_, _, rfl, rfl, rfl⟩ ?_))
        refine ⟨by kernel_rfl, ?_⟩
        (repeat (first | refine FW.seq ?_ | refine FW.region ?_ | refine RunN.nil ?_ | refine rn_move rfl rfl rfl ?_))
        refine FW.cond rfl (fun h3 => ?_) (fun h3 => ?_)
        · (repeat (first | refine FW.seq ?_ | refine FW.region ?_ | refine RunN.nil ?_ | refine rn_assign rfl rfl rfl ?_ | refine rn_move rfl rfl rfl ?_))
          refine FW.ret ⟨.inl rfl, ret_flat rfl rfl ?_ rfl⟩
          rw [firstIx_at hi hlt (by simp at h2 h3; simp [isDelOf, h1, h2, h3]) hn]
          rfl
        · (repeat (first | refine FW.region ?_ | refine FW.skip ?_ | refine RunN.nil ?_ | refine rn_assign rfl rfl rfl ?_ | refine rn_move rfl rfl rfl ?_ | refine rn_add rfl rfl (by omega) rfl rfl ?_))
          exact ⟨k + 1, ⟨by omega, step (by simp at h2 h3; simp [isDelOf, h1, h2, h3])⟩, by omega, (FLe.conv [] (by simp) (by simp) (by repeat (first | exact EntsOk.nil)) (by repeat (first | exact SlC.nil | refine SlC.cons (.plain rfl rfl (by first | rfl | (simp; done) | (congr 1; omega) | (simp; omega))) ?_)))⟩
      · (repeat (first | refine RunD.nil ?_ | refine rd_assign rfl rfl rfl ?_ | refine rd_pickF rfl rfl rfl rfl ?_ | refine rd_skip rfl rfl ⟨_, _, rfl, rfl, rfl⟩ ?_))
        refine ⟨by kernel_rfl, ?_⟩
        (repeat (first | refine FW.seq ?_ | refine FW.region ?_ | refine FW.skip ?_ | refine FW.condF rfl ?_ | refine RunN.nil ?_ | refine rn_assign rfl rfl rfl ?_ | refine rn_move rfl rfl rfl ?_ | refine rn_add rfl rfl (by omega) rfl rfl ?_))
        exact ⟨k + 1, ⟨by omega, step (by simp at h2; simp [isDelOf, h1, h2])⟩, by omega, (FLe.conv [] (by simp) (by simp) (by repeat (first | exact EntsOk.nil)) (by repeat (first | exact SlC.nil | refine SlC.cons (.plain rfl rfl (by first | rfl | (simp; done) | (congr 1; omega) | (simp; omega))) ?_)))⟩
    · (repeat (first | refine RunD.nil ?_ | refine rd_assign rfl rfl rfl ?_ | refine rd_move rfl rfl rfl ?_ | refine rd_pickF rfl rfl rfl rfl ?_ | refine rd_skip rfl rfl ⟨_, _, rfl, rfl, rfl⟩ ?_))
      refine ⟨by kernel_rfl, ?_⟩
      (repeat (first | refine FW.seq ?_ | refine FW.region ?_ | refine FW.skip ?_ | refine FW.condF rfl ?_ | refine RunN.nil ?_ | refine rn_assign rfl rfl rfl ?_ | refine rn_move rfl rfl rfl ?_ | refine rn_add rfl rfl (by omega) rfl rfl ?_))
      exact ⟨k + 1, ⟨by omega, step (by simp [isDelOf, h1])⟩, by omega, (FLe.conv [] (by simp) (by simp) (by repeat (first | exact EntsOk.nil)) (by repeat (first | exact SlC.nil | refine SlC.cons (.plain rfl rfl (by first | rfl | (simp; done) | (congr 1; omega) | (simp; omega))) ?_)))⟩
  · have : k = i := by simp at h; omega
    subst this
    (repeat (first | refine FW.seq ?_ | refine FW.region ?_ | refine FW.exit ?_ | refine RunN.nil ?_ | refine rn_assign rfl rfl rfl ?_ | refine rn_move rfl rfl rfl ?_))
    refine FW.ret ⟨.inl rfl, ret_flat rfl rfl ?_ rfl⟩
    rw [firstIx_none hi hn]
    rfl
end Go.Proofs.Ythijndjgchbeoaa
