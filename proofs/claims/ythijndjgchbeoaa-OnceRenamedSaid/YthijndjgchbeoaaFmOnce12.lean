/-
  simproofref21.Bent, at plain values.
-/
import Derived.Test.YthijndjgchbeoaaFmOnce5
namespace Go.Proofs.Ythijndjgchbeoaa
set_option linter.unusedVariables false
open Go.RowKit

/-- the operation that is bent at a step -/
def bentAt (l : List OpV) (x i : Nat) : Nat := (x + i) % l.length
def bentOk (l : List OpV) (how : Int) (x i : Nat) : Bool := (decide ((nth l (bentAt l x i)).k = 0) || decide ((nth l (bentAt l x i)).k = 4)) && ((nth l (bentAt l x i)).done && decide (how.tmod 4 ≠ 3))
def bent21 (l : List OpV) (at_ how v : Int) : List OpV :=
  if l = [] then []
  else match (List.range l.length).find? (bentOk l how (around at_ l.length).toNat) with
    | some i => l.set (bentAt l (around at_ l.length).toNat i) { nth l (bentAt l (around at_ l.length).toNat i) with res := around v 9 }
    | none => l.set (around at_ l.length).toNat { nth l (around at_ l.length).toNat with arg := around v 6 }
theorem find_range_some {n i : Nat} {f : Nat → Bool} (hi : i < n) (h : f i = true) (hn : ∀ j, j < i → f j = false) : (List.range n).find? f = some i := by
  rw [List.find?_eq_some_iff_getElem]
  exact ⟨h, i, by simpa using hi, by simp, fun j hj => by simp [hn j hj]⟩
theorem find_range_none {n : Nat} {f : Nat → Bool} (hn : ∀ j, j < n → f j = false) : (List.range n).find? f = none := by
  rw [List.find?_eq_none]
  intro x hx
  simp [hn x (by simpa using hx)]

set_option maxHeartbeats 8000000 in
theorem bent21_spec (l : List OpV) (at_ how v : Int) (hl : l.length ≤ 1000000000) (ha : I64 at_) (hh : I64 how) (hv : I64 v) :
    Spec Try.prog 43 [.list 8 (l.map OpV.fv), .int .i64 at_, .int .i64 how, .int .i64 v] (.ow 33 8) (.list 8 ((bent21 l at_ how v).map OpV.fv)) := by
  refine Spec.of_body (c := (cxOf Try.prog tyAt_ok mixed_ok 79)) ⟨Try.func43, rfl, Try.ntmps43, by kernel_rfl⟩ (by simp [FV.hand]) (by exact Nat.le_of_ble_eq_true rfl) rfl ?_
  change FW _ _ _ ⟨[(0, .list 8 (l.map OpV.fv)), (1, .int .i64 at_), (2, .int .i64 how), (3, .int .i64 v)], []⟩
  (repeat (first | refine FW.seq ?_ | refine FW.region ?_ | refine RunN.nil ?_ | refine rn_assign rfl rfl rfl ?_ | refine rn_move rfl rfl rfl ?_ | refine rn_appN rfl rfl rfl rfl (by decide) (by first | exact SrcR.own rfl rfl (by decide) (by first | exact List.length_map _ | exact (List.length_map _).symm | exact List.length_replicate | rfl | (simp; done) | omega | (simp; omega)) | exact SrcR.list rfl | exact SrcR.nil rfl | exact SrcR.part rfl rfl (by decide)) (by first | omega | (simp; omega) | (simp; done)) (by first | omega | (simp; omega) | (simp; done)) rfl rfl rfl ?_ | refine rn_lenOwn rfl rfl rfl (by decide) rfl rfl ?_ | refine rn_eql rfl rfl rfl rfl ?_))
  refine FW.cond rfl (fun h => ?_) (fun h => ?_)
  · have h0 : l = [] := by simpa using h
    subst h0
    (repeat (first | refine FW.seq ?_ | refine FW.region ?_ | refine RunN.nil ?_ | refine rn_assign rfl rfl rfl ?_ | refine rn_move rfl rfl rfl ?_))
    exact FW.ret ⟨.inl rfl, ret_ow rfl rfl rfl (by simp) (by decide) rfl (opT.flatsM _)⟩
  · have h0 : l ≠ [] := by simpa using h
    have hpos : 0 < l.length := List.length_pos_iff.2 h0
    obtain ⟨x, hx⟩ : ∃ x : Nat, around at_ l.length = x := ⟨(around at_ l.length).toNat, (Int.toNat_of_nonneg (around_lo (by omega))).symm⟩
    have hxl : x < l.length := by have := around_hi (n := at_) (most := l.length) (by omega); omega
    obtain ⟨n, hn⟩ : ∃ n, l.length = n := ⟨_, rfl⟩
    have hA : Spec (Try.prog) 23 [.int .i64 at_, .int .i64 n] .fr (.int .i64 (x : Int)) := by
      have := around_spec at_ l.length ha (by omega) (by omega)
      rwa [hx, hn] at this
    have h9 := around_spec v 9 hv (by decide) (by decide)
    have h6 := around_spec v 6 hv (by decide) (by decide)
    (repeat (first | refine FW.seq ?_ | refine FW.region ?_ | refine FW.block ?_ | refine FW.skip ?_ | refine RunN.nil ?_ | refine rn_assign rfl rfl rfl ?_))
    refine FW.loop (fun i : Nat => ⟨[(1, .int .i64 at_), (2, .int .i64 how), (3, .int .i64 v), (9, .own 100 0 0 n), (10, .int .i64 i)], [(100, ⟨0, .own, 33, 8, l.map OpV.fv⟩)]⟩) (fun i => i ≤ l.length ∧ ∀ j, j < i → bentOk l how x j = false) (fun i => l.length - i) 0 (by simp)
      (FLe.conv [⟨100, some 15, 1, ⟨0, .own, 33, 8, l.map OpV.fv⟩⟩] (by simp) (by simp) (by repeat (first | exact EntsOk.nil | refine EntsOk.old rfl (by decide) (by first | rfl | (simp; done) | (congr 1; omega) | (simp; omega)) ?_)) (by repeat (first | exact SlC.nil | refine SlC.cons (.plain rfl rfl (by first | rfl | (simp; done) | (congr 1; omega) | (simp; omega))) ?_ | refine SlC.cons (.own rfl (.head _) rfl (by first | rfl | (simp; done) | (congr 1; omega) | (simp; omega))) ?_))) ?_
    rintro i ⟨hi, hok⟩
    (repeat (first | refine FW.seq ?_ | refine FW.region ?_ | refine RunN.nil ?_ | refine rn_move rfl rfl rfl ?_ | refine rn_lenOwn rfl rfl rfl (by decide) rfl rfl ?_ | refine rn_lss rfl rfl rfl rfl ?_))
    refine FW.cond rfl (fun h => ?_) (fun h => ?_)
    · have hlt : i < l.length := by simp at h; omega
      clear h
      have step : bentOk l how x i = false → ∀ j, j < i + 1 → bentOk l how x j = false := fun h0 j hj => by
        rcases Nat.lt_or_ge j i with h1 | h1
        · exact hok j h1
        · have : j = i := by omega
          subst this; exact h0
      (repeat (first | refine FW.seq ?_ | refine FW.region ?_ | refine FW.block ?_ | refine FW.skip ?_ | refine rn_move rfl rfl rfl ?_ | refine rn_lenOwn rfl rfl rfl (by decide) rfl rfl ?_))
      refine rn_call hA (by repeat (first | exact ArgsR.nil | refine ArgsR.cons (by first | exact ArgR.plain rfl rfl) ?_)) rfl rfl ?_
      (repeat (first | refine rn_move rfl rfl rfl ?_ | refine rn_lenOwn rfl rfl rfl (by decide) rfl rfl ?_ | refine rn_add rfl rfl (by omega) rfl rfl ?_))
      refine rn_rem rfl rfl (by omega) rfl rfl ?_
      have hk : (x + i) % n < l.length := by rw [hn]; exact Nat.mod_lt _ (by omega)
      rw [show ((x : Int) + (i : Int)) % (n : Int) = (((x + i) % n : Nat) : Int) by simp]
      obtain ⟨k, hkk⟩ : ∃ k, (x + i) % n = k := ⟨_, rfl⟩
      rw [hkk] at hk ⊢
      have found : bentOk l how x i = true → bent21 l at_ how v = l.set k { nth l k with res := around v 9 } := fun h1 => by
        rw [bent21, if_neg h0, hx, Int.toNat_natCast, find_range_some hlt h1 hok, ← hkk, ← hn]; rfl
      have hbo : bentOk l how x i = ((decide ((nth l k).k = 0) || decide ((nth l k).k = 4)) && ((nth l k).done && decide (how.tmod 4 ≠ 3))) := by rw [← hkk, ← hn]; rfl
      -- what follows once it is known whether it reads
      have next : bentOk l how x i = false → ∀ (t : List (Nat × FV)), SlC t [⟨100, some 100, 0, ⟨0, .own, 33, 8, l.map OpV.fv⟩⟩] [(1, .int .i64 at_), (2, .int .i64 how), (3, .int .i64 v), (9, .own 100 0 0 n), (10, .int .i64 (i + 1 : Nat))] → ∀ ob, look {} ob 100 = ⟨0, .own, 33, 8, l.map OpV.fv⟩ →
          ∃ x', (x' ≤ l.length ∧ ∀ j, j < x' → bentOk l how x j = false) ∧ l.length - x' < l.length - i ∧ FLe ⟨t, ob⟩ ⟨[(1, .int .i64 at_), (2, .int .i64 how), (3, .int .i64 v), (9, .own 100 0 0 n), (10, .int .i64 x')], [(100, ⟨0, .own, 33, 8, l.map OpV.fv⟩)]⟩ := fun hf t ht ob ho =>
        ⟨i + 1, ⟨by omega, step hf⟩, by omega, FLe.conv [⟨100, some 100, 0, ⟨0, .own, 33, 8, l.map OpV.fv⟩⟩] (by simp) (by simp) (.old ho (by decide) rfl .nil) ht⟩
      (repeat (first | refine FW.seq ?_ | refine FW.region ?_ | refine RunN.nil ?_ | refine rn_assign rfl rfl rfl ?_ | refine rn_move rfl rfl rfl ?_ | refine rn_eql rfl rfl rfl rfl ?_ | refine rn_indexO rfl rfl (by first | rfl | exact (Int.toNat_of_nonneg (by omega)).symm) rfl rfl rfl (by decide) rfl (by first | omega | (simp; omega) | (simp; done)) rfl rfl ?_ | refine rn_fieldP rfl rfl rfl rfl rfl rfl (by decide) rfl rfl ?_ | refine rn_loadP rfl rfl rfl rfl rfl (by first | omega | (simp; omega) | (simp; done)) (by first | exact getD_map (by omega) | rfl) rfl rfl rfl rfl ?_))
      refine rn_case (fun h1 => ?_) (fun h1 => ?_)
      · (repeat (first | refine FW.seq ?_ | refine FW.region ?_ | refine RunN.nil ?_ | refine rn_assign rfl rfl rfl ?_ | refine rn_move rfl rfl rfl ?_ | refine rn_pickT rfl rfl rfl rfl ?_ | refine rn_move rfl rfl ⟨_, _, rfl, rfl, rfl⟩ ?_ | refine rn_indexO rfl rfl (by first | rfl | exact (Int.toNat_of_nonneg (by omega)).symm) rfl rfl rfl (by decide) rfl (by first | omega | (simp; omega) | (simp; done)) rfl ⟨_, _, rfl, rfl, rfl⟩ ?_ | refine rn_fieldP rfl rfl rfl rfl rfl rfl (by decide) rfl ⟨_, _, rfl, rfl, rfl⟩ ?_ | refine rn_loadP rfl rfl rfl rfl rfl (by first | omega | (simp; omega) | (simp; done)) (by first | exact getD_map (by omega) | rfl) rfl rfl rfl ⟨_, _, rfl, rfl, rfl⟩ ?_ | refine rn_skip rfl rfl ⟨_, _, rfl, rfl, rfl⟩ ?_))
        refine rn_case (fun h2 => ?_) (fun h2 => ?_)
        · (repeat (first | refine rn_move rfl rfl ⟨_, _, rfl, rfl, rfl⟩ ?_))
          refine rn_remW rfl rfl (by decide) rfl ⟨_, _, rfl, rfl, rfl⟩ ?_
          (repeat (first | refine RunN.nil ?_ | refine rn_pickT rfl rfl rfl rfl ?_ | refine rn_neq rfl rfl rfl ⟨_, _, rfl, rfl, rfl⟩ ?_))
          refine FW.cond rfl (fun h3 => ?_) (fun h3 => ?_)
          · (repeat (first | refine FW.seq ?_ | refine FW.region ?_ | refine rn_move rfl rfl rfl ?_))
            refine rn_call h9 (by repeat (first | exact ArgsR.nil | refine ArgsR.cons (by first | exact ArgR.plain rfl rfl) ?_)) rfl rfl ?_
            (repeat (first | refine FW.seq ?_ | refine FW.region ?_ | refine RunN.nil ?_ | refine rn_assign rfl rfl rfl ?_ | refine rn_move rfl rfl rfl ?_ | refine rn_indexO rfl rfl (by first | rfl | exact (Int.toNat_of_nonneg (by omega)).symm) rfl rfl rfl (by decide) rfl (by first | omega | (simp; omega) | (simp; done)) rfl rfl ?_ | refine rn_fieldP rfl rfl rfl rfl rfl rfl (by decide) rfl rfl ?_ | refine rn_storeR rfl rfl rfl rfl rfl rfl (by first | omega | (simp; omega) | (simp; done)) (by first | exact getD_map (by omega) | rfl) rfl rfl rfl ?_))
            refine FW.ret ⟨.inl rfl, ret_ow rfl rfl rfl (by simp; omega) (by decide) ?_ (opT.flatsM _)⟩
            rw [found (by rw [hbo, h1, h2]; simpa using h3), List.map_set]; rfl
          · (repeat (first | refine FW.region ?_ | refine FW.skip ?_ | refine RunN.nil ?_ | refine rn_assign rfl rfl rfl ?_ | refine rn_move rfl rfl rfl ?_ | refine rn_add rfl rfl (by omega) rfl rfl ?_))
            exact next (by rw [hbo, h1, h2]; simpa using h3) _ (by repeat (first | exact SlC.nil | refine SlC.cons (.plain rfl rfl (by first | rfl | (simp; done) | (congr 1; omega) | (simp; omega))) ?_ | refine SlC.cons (.own rfl (.head _) rfl (by first | rfl | (simp; done) | (congr 1; omega) | (simp; omega))) ?_)) _ rfl
        · (repeat (first | refine FW.region ?_ | refine FW.skip ?_ | refine FW.condF rfl ?_ | refine RunN.nil ?_ | refine rn_assign rfl rfl rfl ?_ | refine rn_move rfl rfl rfl ?_ | refine rn_add rfl rfl (by omega) rfl rfl ?_ | refine rn_pickF rfl rfl rfl rfl ?_ | refine rn_skip rfl rfl ⟨_, _, rfl, rfl, rfl⟩ ?_))
          exact next (by rw [hbo, h2]; simp) _ (by repeat (first | exact SlC.nil | refine SlC.cons (.plain rfl rfl (by first | rfl | (simp; done) | (congr 1; omega) | (simp; omega))) ?_ | refine SlC.cons (.own rfl (.head _) rfl (by first | rfl | (simp; done) | (congr 1; omega) | (simp; omega))) ?_)) _ rfl
      · (repeat (first | refine FW.seq ?_ | refine FW.region ?_ | refine RunN.nil ?_ | refine rn_assign rfl rfl rfl ?_ | refine rn_move rfl rfl rfl ?_ | refine rn_pickF rfl rfl rfl rfl ?_ | refine rn_move rfl rfl ⟨_, _, rfl, rfl, rfl⟩ ?_ | refine rn_indexO rfl rfl (by first | rfl | exact (Int.toNat_of_nonneg (by omega)).symm) rfl rfl rfl (by decide) rfl (by first | omega | (simp; omega) | (simp; done)) rfl ⟨_, _, rfl, rfl, rfl⟩ ?_ | refine rn_fieldP rfl rfl rfl rfl rfl rfl (by decide) rfl ⟨_, _, rfl, rfl, rfl⟩ ?_ | refine rn_loadP rfl rfl rfl rfl rfl (by first | omega | (simp; omega) | (simp; done)) (by first | exact getD_map (by omega) | rfl) rfl rfl rfl ⟨_, _, rfl, rfl, rfl⟩ ?_ | refine rn_eql rfl rfl rfl ⟨_, _, rfl, rfl, rfl⟩ ?_))
        refine rn_case (fun h4 => ?_) (fun h4 => ?_)
        · (repeat (first | refine rn_move rfl rfl rfl ?_ | refine rn_pickT rfl rfl rfl rfl ?_ | refine rn_move rfl rfl ⟨_, _, rfl, rfl, rfl⟩ ?_ | refine rn_indexO rfl rfl (by first | rfl | exact (Int.toNat_of_nonneg (by omega)).symm) rfl rfl rfl (by decide) rfl (by first | omega | (simp; omega) | (simp; done)) rfl ⟨_, _, rfl, rfl, rfl⟩ ?_ | refine rn_fieldP rfl rfl rfl rfl rfl rfl (by decide) rfl ⟨_, _, rfl, rfl, rfl⟩ ?_ | refine rn_loadP rfl rfl rfl rfl rfl (by first | omega | (simp; omega) | (simp; done)) (by first | exact getD_map (by omega) | rfl) rfl rfl rfl ⟨_, _, rfl, rfl, rfl⟩ ?_))
          refine rn_case (fun h2 => ?_) (fun h2 => ?_)
          · (repeat (first | refine rn_move rfl rfl ⟨_, _, rfl, rfl, rfl⟩ ?_))
            refine rn_remW rfl rfl (by decide) rfl ⟨_, _, rfl, rfl, rfl⟩ ?_
            (repeat (first | refine RunN.nil ?_ | refine rn_pickT rfl rfl rfl rfl ?_ | refine rn_neq rfl rfl rfl ⟨_, _, rfl, rfl, rfl⟩ ?_))
            refine FW.cond rfl (fun h3 => ?_) (fun h3 => ?_)
            · (repeat (first | refine FW.seq ?_ | refine FW.region ?_ | refine rn_move rfl rfl rfl ?_))
              refine rn_call h9 (by repeat (first | exact ArgsR.nil | refine ArgsR.cons (by first | exact ArgR.plain rfl rfl) ?_)) rfl rfl ?_
              (repeat (first | refine FW.seq ?_ | refine FW.region ?_ | refine RunN.nil ?_ | refine rn_assign rfl rfl rfl ?_ | refine rn_move rfl rfl rfl ?_ | refine rn_indexO rfl rfl (by first | rfl | exact (Int.toNat_of_nonneg (by omega)).symm) rfl rfl rfl (by decide) rfl (by first | omega | (simp; omega) | (simp; done)) rfl rfl ?_ | refine rn_fieldP rfl rfl rfl rfl rfl rfl (by decide) rfl rfl ?_ | refine rn_storeR rfl rfl rfl rfl rfl rfl (by first | omega | (simp; omega) | (simp; done)) (by first | exact getD_map (by omega) | rfl) rfl rfl rfl ?_))
              refine FW.ret ⟨.inl rfl, ret_ow rfl rfl rfl (by simp; omega) (by decide) ?_ (opT.flatsM _)⟩
              rw [found (by rw [hbo, h4, h2]; simpa using h3), List.map_set]; rfl
            · (repeat (first | refine FW.region ?_ | refine FW.skip ?_ | refine RunN.nil ?_ | refine rn_assign rfl rfl rfl ?_ | refine rn_move rfl rfl rfl ?_ | refine rn_add rfl rfl (by omega) rfl rfl ?_))
              exact next (by rw [hbo, h4, h2]; simpa using h3) _ (by repeat (first | exact SlC.nil | refine SlC.cons (.plain rfl rfl (by first | rfl | (simp; done) | (congr 1; omega) | (simp; omega))) ?_ | refine SlC.cons (.own rfl (.head _) rfl (by first | rfl | (simp; done) | (congr 1; omega) | (simp; omega))) ?_)) _ rfl
          · (repeat (first | refine FW.region ?_ | refine FW.skip ?_ | refine FW.condF rfl ?_ | refine RunN.nil ?_ | refine rn_assign rfl rfl rfl ?_ | refine rn_move rfl rfl rfl ?_ | refine rn_add rfl rfl (by omega) rfl rfl ?_ | refine rn_pickF rfl rfl rfl rfl ?_ | refine rn_skip rfl rfl ⟨_, _, rfl, rfl, rfl⟩ ?_))
            exact next (by rw [hbo, h2]; simp) _ (by repeat (first | exact SlC.nil | refine SlC.cons (.plain rfl rfl (by first | rfl | (simp; done) | (congr 1; omega) | (simp; omega))) ?_ | refine SlC.cons (.own rfl (.head _) rfl (by first | rfl | (simp; done) | (congr 1; omega) | (simp; omega))) ?_)) _ rfl
        · (repeat (first | refine FW.region ?_ | refine FW.skip ?_ | refine FW.condF rfl ?_ | refine RunN.nil ?_ | refine rn_assign rfl rfl rfl ?_ | refine rn_move rfl rfl rfl ?_ | refine rn_add rfl rfl (by omega) rfl rfl ?_ | refine rn_pickF rfl rfl rfl rfl ?_ | refine rn_skip rfl rfl ⟨_, _, rfl, rfl, rfl⟩ ?_))
          exact next (by rw [hbo, h1, h4]; rfl) _ (by repeat (first | exact SlC.nil | refine SlC.cons (.plain rfl rfl (by first | rfl | (simp; done) | (congr 1; omega) | (simp; omega))) ?_ | refine SlC.cons (.own rfl (.head _) rfl (by first | rfl | (simp; done) | (congr 1; omega) | (simp; omega))) ?_)) _ rfl
    · have : i = l.length := by simp at h; omega
      subst this
      (repeat (first | refine FW.seq ?_ | refine FW.region ?_ | refine FW.exit ?_ | refine rn_move rfl rfl rfl ?_ | refine rn_lenOwn rfl rfl rfl (by decide) rfl rfl ?_))
      refine rn_call hA (by repeat (first | exact ArgsR.nil | refine ArgsR.cons (by first | exact ArgR.plain rfl rfl) ?_)) rfl rfl ?_
      (repeat (first | refine rn_move rfl rfl rfl ?_))
      refine rn_call h6 (by repeat (first | exact ArgsR.nil | refine ArgsR.cons (by first | exact ArgR.plain rfl rfl) ?_)) rfl rfl ?_
      (repeat (first | refine FW.seq ?_ | refine FW.region ?_ | refine RunN.nil ?_ | refine rn_assign rfl rfl rfl ?_ | refine rn_move rfl rfl rfl ?_ | refine rn_indexO rfl rfl (by first | rfl | exact (Int.toNat_of_nonneg (by omega)).symm) rfl rfl rfl (by decide) rfl (by first | omega | (simp; omega) | (simp; done)) rfl rfl ?_ | refine rn_fieldP rfl rfl rfl rfl rfl rfl (by decide) rfl rfl ?_ | refine rn_storeR rfl rfl rfl rfl rfl rfl (by first | omega | (simp; omega) | (simp; done)) (by first | exact getD_map (by omega) | rfl) rfl rfl rfl ?_))
      refine FW.ret ⟨.inl rfl, ret_ow rfl rfl rfl (by simp; omega) (by decide) ?_ (opT.flatsM _)⟩
      rw [bent21, if_neg h0, hx, Int.toNat_natCast, find_range_none hok, List.map_set]; rfl
end Go.Proofs.Ythijndjgchbeoaa
