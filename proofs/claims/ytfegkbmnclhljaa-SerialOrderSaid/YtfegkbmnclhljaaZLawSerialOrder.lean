/-
  simprooflaw22.SerialOrder answers true for every input (walked on plain values).
-/
import Derived.Test.YtfegkbmnclhljaaZFmSer7
import Derived.Test.YtfegkbmnclhljaaZFmSerL
namespace Go.Proofs.Ytfegkbmnclhljaa
set_option linter.unusedVariables false
open Go.RowKit

theorem resE_dom {H : List OpV} (h : resE H = 0) : dom22 H = true := by
  cases hd : dom22 H with
  | true => rfl
  | false => unfold resE at h; rw [if_neg (by rw [hd]; decide)] at h; cases h
set_option maxHeartbeats 4000000 in
theorem serialOrder_spec (l : List Int) (f s : Bool) (hl : ∀ x ∈ l, I64 x) (hlen : l.length ≤ 9223372036854775807) : Spec Try.prog 5 [.list 1 (l.map intf), .bool f, .bool s] .fr (.bool true) := by
  have hH := histS_spec 12 f l (by decide) hl hlen
  have hin := histS_in (f := f) (l := l) (by decide : 12 ≤ 12)
  have hHl := histS_len (f := f) (l := l) (by decide : 12 ≤ 12)
  have hff : f = false → resE (histS 12 f l) = 0 ∧ (resV (histS 12 f l) s).cls = 0 := fun e => by
    subst e
    have hd := dom22_iff.2 (histS_nf (l := l) (by decide : 12 ≤ 12)).1
    unfold resE resV
    rw [if_pos hd, if_pos hd]
    exact ⟨rfl, histS_holds (l := l) (by decide : 12 ≤ 12) s⟩
  refine Spec.of_body (c := (cxOf Try.prog tyAt_ok mixed_ok 50)) ⟨Try.func5, rfl, Try.ntmps5, by kernel_rfl⟩ (by simp [FV.hand]) (by exact Nat.le_of_ble_eq_true rfl) rfl ?_
  change FW _ _ _ ⟨[(0, .list 1 (l.map intf)), (1, .bool f), (2, .bool s)], []⟩
  (repeat (first | refine FW.seq ?_ | refine FW.region ?_ | refine RunN.nil ?_ | refine rn_assign rfl rfl rfl ?_ | refine rn_move rfl rfl rfl ?_))
  refine rn_callO hH (by repeat (first | exact ArgsR.nil | refine ArgsR.cons (by first | exact ArgR.plain rfl rfl) ?_)) (List.length_map _) rfl rfl rfl ?_
  refine RunN.le ?_ (FLe.share 12 rfl rfl (by rw [List.length_map]))
  generalize histS 12 f l = H at hH hin hHl hff
  have hsc := sCheck_spec H s hHl hin
  obtain ⟨V, hV⟩ : ∃ V, resV H s = V := ⟨_, rfl⟩
  obtain ⟨E, hE⟩ : ∃ E, resE H = E := ⟨_, rfl⟩
  rw [hV, hE] at hsc hff
  (repeat (first | refine FW.seq ?_ | refine FW.region ?_ | refine RunN.nil ?_ | refine rn_assign rfl rfl rfl ?_ | refine rn_move rfl rfl rfl ?_))
  refine rn_callS hsc (by repeat (first | exact ArgsR.nil | refine ArgsR.cons (by first | exact ArgR.plain rfl rfl) ?_)) rfl rfl ?_
  (repeat (first | refine FW.seq ?_ | refine FW.region ?_ | refine RunN.nil ?_ | refine rn_assign rfl rfl rfl ?_ | refine rn_move rfl rfl rfl ?_ | refine rn_extract rfl rfl rfl rfl rfl ?_ | refine rn_alloc rfl rfl rfl rfl rfl rfl rfl ?_ | refine rn_storeVA rfl rfl rfl rfl rfl rfl rfl rfl rfl ?_ | refine rn_neq rfl rfl rfl rfl ?_))
  refine rn_case (fun h1 => ?_) (fun h1 => ?_)
  · have h1 : E ≠ 0 := by simpa using h1
    cases f with
    | false => exact absurd (hff rfl).1 h1
    | true =>
      (repeat (first | refine FW.seq ?_ | refine FW.region ?_ | refine FW.condT rfl ?_ | refine RunN.nil ?_ | refine rn_move rfl rfl rfl ?_ | refine rn_pickT rfl rfl rfl rfl ?_ | refine rn_skip rfl rfl ⟨_, _, rfl, rfl, rfl⟩ ?_))
      refine rn_call lives22_spec (by repeat (first | exact ArgsR.nil)) rfl ⟨_, _, rfl, rfl, rfl⟩ ?_
      (repeat (first | refine RunN.nil ?_ | refine rn_assign rfl rfl rfl ?_ | refine rn_pickT rfl rfl rfl rfl ?_))
      exact FW.ret ⟨.inl rfl, ret_flat rfl rfl rfl rfl⟩
  have h1 : E = 0 := by simpa using h1
  (repeat (first | refine RunN.nil ?_ | refine rn_pickF rfl rfl rfl rfl ?_ | refine rn_fieldP rfl rfl rfl rfl rfl rfl (by decide) rfl ⟨_, _, rfl, rfl, rfl⟩ ?_ | refine rn_loadP rfl rfl rfl rfl rfl (by first | omega | (simp; omega) | (simp; done)) (by first | exact getD_map (by omega) | rfl) rfl rfl rfl ⟨_, _, rfl, rfl, rfl⟩ ?_ | refine rn_neq rfl rfl rfl ⟨_, _, rfl, rfl, rfl⟩ ?_))
  refine FW.cond rfl (fun h2 => ?_) (fun h2 => ?_)
  · have h2 : V.cls ≠ 0 := by simpa using h2
    cases f with
    | false => exact absurd (hff rfl).2 h2
    | true =>
      (repeat (first | refine FW.seq ?_ | refine FW.region ?_ | refine rn_move rfl rfl rfl ?_ | refine rn_pickT rfl rfl rfl rfl ?_ | refine rn_skip rfl rfl ⟨_, _, rfl, rfl, rfl⟩ ?_))
      refine rn_call lives22_spec (by repeat (first | exact ArgsR.nil)) rfl ⟨_, _, rfl, rfl, rfl⟩ ?_
      (repeat (first | refine RunN.nil ?_ | refine rn_assign rfl rfl rfl ?_ | refine rn_pickT rfl rfl rfl rfl ?_))
      exact FW.ret ⟨.inl rfl, ret_flat rfl rfl rfl rfl⟩
  have h2 : V.cls = 0 := by simpa using h2
  have hd := resE_dom (hE.trans h1)
  have hVs : serV H s = V := by rw [← hV]; unfold resV; rw [if_pos hd]
  rw [← hVs] at h2
  have hso := serV_ord (dom22_iff.1 hd) h2
  have hle := rLegal_spec H s (ord22 H s) (by omega) (by have := hso.len; have := List.countP_le_length (p := incl22) (l := H); unfold cntI at *; omega)
  rw [legal_iff.2 hso] at hle
  rw [serV_ok h2] at hVs
  subst hVs
  generalize ord22 H s = O at hle
  clear hsc hff hso h2
  (repeat (first | refine FW.seq ?_ | refine FW.region ?_ | refine FW.skip ?_ | refine rn_move rfl rfl rfl ?_ | refine rn_fieldP rfl rfl rfl rfl rfl rfl (by decide) rfl rfl ?_ | refine rn_loadP rfl rfl rfl rfl rfl (by first | omega | (simp; omega) | (simp; done)) (by first | exact getD_map (by omega) | rfl) rfl rfl rfl rfl ?_))
  refine rn_call hle (by repeat (first | exact ArgsR.nil | refine ArgsR.cons (by first | exact ArgR.plain rfl rfl) ?_)) rfl rfl ?_
  (repeat (first | refine rn_move rfl rfl rfl ?_ | refine rn_pickT rfl rfl rfl rfl ?_ | refine rn_fieldP rfl rfl rfl rfl rfl rfl (by decide) rfl ⟨_, _, rfl, rfl, rfl⟩ ?_ | refine rn_loadP rfl rfl rfl rfl rfl (by first | omega | (simp; omega) | (simp; done)) (by first | exact getD_map (by omega) | rfl) rfl rfl rfl ⟨_, _, rfl, rfl, rfl⟩ ?_ | refine rn_lenList rfl rfl (by first | exact List.length_map _ | exact (List.length_map _).symm | exact List.length_replicate | rfl | (simp; done) | omega | (simp; omega)) rfl ⟨_, _, rfl, rfl, rfl⟩ ?_ | refine rn_eql rfl rfl rfl ⟨_, _, rfl, rfl, rfl⟩ ?_))
  refine rn_call lives22_spec (by repeat (first | exact ArgsR.nil)) rfl ⟨_, _, rfl, rfl, rfl⟩ ?_
  (repeat (first | refine RunN.nil ?_ | refine rn_assign rfl rfl rfl ?_ | refine rn_pickT rfl rfl rfl rfl ?_))
  exact FW.ret ⟨.inl rfl, ret_flat rfl rfl rfl rfl⟩
end Go.Proofs.Ytfegkbmnclhljaa
