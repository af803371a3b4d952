/-
  simprooflaw22.SerialExact answers true for every input (walked on plain values).
-/
import Derived.Test.YtfegkbmnclhljaaZFmSer7
import Derived.Test.YtfegkbmnclhljaaZFmSerD
namespace Go.Proofs.Ytfegkbmnclhljaa
set_option linter.unusedVariables false
open Go.RowKit

theorem resE_domX {H : List OpV} (h : resE H = 0) : dom22 H = true := by
  cases hd : dom22 H with
  | true => rfl
  | false => unfold resE at h; rw [if_neg (by rw [hd]; decide)] at h; cases h
set_option maxHeartbeats 4000000 in
theorem serialExact_spec (l : List Int) (s : Bool) (hl : ∀ x ∈ l, I64 x) (hlen : l.length ≤ 9223372036854775807) : Spec Try.prog 4 [.list 1 (l.map intf), .bool s] .fr (.bool true) := by
  have hH := histS_spec 6 true l (by decide) hl hlen
  have hin := histS_in (f := true) (l := l) (by decide : 6 ≤ 12)
  have hHl := histS_len (f := true) (l := l) (by decide : 6 ≤ 12)
  have hcr := histS_cr (f := true) (l := l) (by decide : 6 ≤ 12)
  refine Spec.of_body (c := (cxOf Try.prog tyAt_ok mixed_ok 35)) ⟨Try.func4, rfl, Try.ntmps4, by kernel_rfl⟩ (by simp [FV.hand]) (by exact Nat.le_of_ble_eq_true rfl) rfl ?_
  change FW _ _ _ ⟨[(0, .list 1 (l.map intf)), (1, .bool s)], []⟩
  (repeat (first | refine FW.seq ?_ | refine FW.region ?_ | refine RunN.nil ?_ | refine rn_assign rfl rfl rfl ?_ | refine rn_move rfl rfl rfl ?_))
  refine rn_callO hH (by repeat (first | exact ArgsR.nil | refine ArgsR.cons (by first | exact ArgR.plain rfl rfl) ?_)) (List.length_map _) rfl rfl rfl ?_
  refine RunN.le ?_ (FLe.share 9 rfl rfl (by rw [List.length_map]))
  generalize histS 6 true l = H at hH hin hHl hcr
  have hsc := sCheck_spec H s (by omega) hin
  have hrd := rDomain_spec H (by omega)
  have hex := exists_spec H s (by omega)
  obtain ⟨V, hV⟩ : ∃ V, resV H s = V := ⟨_, rfl⟩
  obtain ⟨E, hE⟩ : ∃ E, resE H = E := ⟨_, rfl⟩
  obtain ⟨X, hX⟩ : ∃ X, extB H s (cntI H) [] = X := ⟨_, rfl⟩
  have hkey : E = 0 → decide (V.cls = 0) = X := fun h0 => by
    have hd := resE_domX (hE.trans h0)
    have hVs : serV H s = V := by rw [← hV]; unfold resV; rw [if_pos hd]
    have h1 := serV_iff (strict := s) (dom22_iff.1 hd) (fun i hi => (hcr i hi).2)
    have h2 := ext_iff (l := H) (strict := s) (cntI H) [] (by simp)
    simp only [List.nil_append] at h2
    rw [hVs] at h1
    rw [hX] at h2
    cases X with
    | true => exact decide_eq_true (h1.2 (h2.1 rfl))
    | false => exact decide_eq_false fun h3 => by have := h2.2 (h1.1 h3); cases this
  rw [hV, hE] at hsc
  rw [hE] at hrd
  rw [hX] at hex
  (repeat (first | refine FW.seq ?_ | refine FW.region ?_ | refine RunN.nil ?_ | refine rn_assign rfl rfl rfl ?_ | refine rn_move rfl rfl rfl ?_))
  refine rn_callS hsc (by repeat (first | exact ArgsR.nil | refine ArgsR.cons (by first | exact ArgR.plain rfl rfl) ?_)) rfl rfl ?_
  (repeat (first | refine FW.seq ?_ | refine FW.region ?_ | refine RunN.nil ?_ | refine rn_assign rfl rfl rfl ?_ | refine rn_move rfl rfl rfl ?_ | refine rn_extract rfl rfl rfl rfl rfl ?_ | refine rn_alloc rfl rfl rfl rfl rfl rfl rfl ?_ | refine rn_storeVA rfl rfl rfl rfl rfl rfl rfl rfl rfl ?_ | refine rn_neq rfl rfl rfl rfl ?_))
  refine FW.cond rfl (fun h1 => ?_) (fun h1 => ?_)
  · (repeat (first | refine FW.seq ?_ | refine FW.region ?_ | refine rn_move rfl rfl rfl ?_))
    refine rn_call hrd (by repeat (first | exact ArgsR.nil | refine ArgsR.cons (by first | exact ArgR.plain rfl rfl) ?_)) rfl rfl ?_
    (repeat (first | refine rn_move rfl rfl rfl ?_ | refine rn_eql rfl rfl rfl rfl ?_))
    refine rn_case (fun h2 => ?_) (fun h2 => absurd h2 (by simp))
    skip
    refine rn_call lives22_spec (by repeat (first | exact ArgsR.nil)) rfl ⟨_, _, rfl, rfl, rfl⟩ ?_
    (repeat (first | refine RunN.nil ?_ | refine rn_assign rfl rfl rfl ?_ | refine rn_pickT rfl rfl rfl rfl ?_))
    exact FW.ret ⟨.inl rfl, ret_flat rfl rfl rfl rfl⟩
  have h1 : E = 0 := by simpa using h1
  have hkey := hkey h1
  obtain ⟨cv, hcv⟩ : ∃ cv, V.cls = cv := ⟨_, rfl⟩
  rw [hcv] at hkey
  (repeat (first | refine FW.seq ?_ | refine FW.skip ?_ | refine FW.draw ?_ | refine rd_move rfl rfl rfl ?_ | refine rd_eql rfl rfl rfl rfl ?_ | refine rd_fieldP rfl rfl rfl rfl rfl rfl (by decide) rfl rfl ?_ | refine rd_loadP rfl rfl rfl rfl rfl (by first | omega | (simp; omega) | (simp; done)) (by first | exact getD_map (by omega) | rfl) rfl rfl rfl rfl ?_))
  refine rd_call hex (by repeat (first | exact ArgsR.nil | refine ArgsR.cons (by first | exact ArgR.plain rfl rfl) ?_)) rfl rfl ?_
  (repeat (first | refine rd_move rfl rfl rfl ?_ | refine rd_eqlB rfl rfl rfl rfl rfl ?_))
  rw [hcv, hkey]
  cases X with
  | true =>
    skip
    refine rd_call lives22_spec (by repeat (first | exact ArgsR.nil)) rfl ⟨_, _, rfl, rfl, rfl⟩ ?_
    (repeat (first | refine RunD.nil ?_ | refine rd_assign rfl rfl rfl ?_ | refine rd_pickT rfl rfl rfl rfl ?_))
    refine ⟨by kernel_rfl, ?_⟩
    skip
    exact FW.ret ⟨.inl rfl, ret_flat rfl rfl rfl rfl⟩
  | false =>
    skip
    refine rd_call lives22_spec (by repeat (first | exact ArgsR.nil)) rfl ⟨_, _, rfl, rfl, rfl⟩ ?_
    (repeat (first | refine RunD.nil ?_ | refine rd_assign rfl rfl rfl ?_ | refine rd_pickT rfl rfl rfl rfl ?_))
    refine ⟨by kernel_rfl, ?_⟩
    skip
    exact FW.ret ⟨.inl rfl, ret_flat rfl rfl rfl rfl⟩
end Go.Proofs.Ytfegkbmnclhljaa
