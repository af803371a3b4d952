/-
  simprooflaw22.SerialLocal answers true for every input (walked on plain values).
-/
import Derived.Test.YtfegkbmnclhljaaZLawSerialOrder
import Derived.Test.YtfegkbmnclhljaaZG
namespace Go.Proofs.Ytfegkbmnclhljaa
set_option linter.unusedVariables false
open Go.RowKit

def partDom (H : List OpV) (i : Nat) : Bool := ((hKeys H).take i).all fun c => dom22 (H.filter (byKey c))
def partOk (H : List OpV) (s : Bool) (i : Nat) : Bool := ((hKeys H).take i).all fun c => decide ((resV (H.filter (byKey c)) s).cls = 0)
theorem all_take {p : Int → Bool} {K : List Int} {i : Nat} (hi : i < K.length) : (K.take (i + 1)).all p = ((K.take i).all p && p (nth K i)) := by
  rw [List.take_succ_eq_append_getElem hi, List.all_append, nth_eq hi]; simp
theorem resE_eq (H : List OpV) : decide (resE H = 0) = dom22 H := by
  unfold resE
  cases dom22 H <;> simp
theorem local_dom (H : List OpV) : partDom H (hKeys H).length = dom22 H := by
  unfold partDom
  rw [List.take_length]
  cases hd : dom22 H with
  | true => exact List.all_eq_true.2 fun c _ => dom22_iff.2 ((dom22_iff.1 hd).part c)
  | false =>
    cases h : (hKeys H).all fun c => dom22 (H.filter (byKey c)) with
    | false => rfl
    | true =>
      have := dom22_iff.2 (Dom22.of_parts (l := H) fun c ⟨i, hi, hk⟩ => dom22_iff.1 (List.all_eq_true.1 h c ((hKeys_mem H c).2 ⟨nth H i, nth_mem hi, hk⟩)))
      rw [hd] at this
      cases this
theorem local_ok {H : List OpV} (s : Bool) (hD : dom22 H = true) (hw : ∀ i, i < H.length → 0 ≤ (nth H i).call ∧ (nth H i).call < (nth H i).ret) : partOk H s (hKeys H).length = decide ((resV H s).cls = 0) := by
  have hp : ∀ c, resV (H.filter (byKey c)) s = serV (H.filter (byKey c)) s := fun c => by
    unfold resV; rw [if_pos (dom22_iff.2 ((dom22_iff.1 hD).part c))]
  have h0 : resV H s = serV H s := by unfold resV; rw [if_pos hD]
  unfold partOk
  rw [List.take_length, h0, Bool.eq_iff_iff, decide_eq_true_iff, serV_local hw, List.all_eq_true]
  constructor
  · rintro h c ⟨i, hi, hk⟩
    have := h c ((hKeys_mem H c).2 ⟨nth H i, nth_mem hi, hk⟩)
    rw [hp c] at this
    simpa using this
  · intro h c hc
    obtain ⟨o, ho, hk⟩ := (hKeys_mem H c).1 hc
    obtain ⟨i, hi, rfl⟩ := List.getElem_of_mem ho
    have := h c ⟨i, hi, by rw [nth_eq hi]; exact hk⟩
    rw [hp c]
    simpa using this
theorem around_small {j n : Nat} (h : j < n) : around (j : Int) n = j := by
  show (j : Int) % n = j
  exact Int.emod_eq_of_lt (by omega) (by omega)
set_option maxHeartbeats 4000000 in
theorem serialLocal_spec (l : List Int) (s : Bool) (hl : ∀ x ∈ l, I64 x) (hlen : l.length ≤ 9223372036854775807) : Spec Try.prog 10 [.list 1 (l.map intf), .bool s] .fr (.bool true) := by
  have hH := histS_spec 12 true l (by decide) hl hlen
  have hin := histS_in (f := true) (l := l) (by decide : 12 ≤ 12)
  have hHl := histS_len (f := true) (l := l) (by decide : 12 ≤ 12)
  have hcr := histS_cr (f := true) (l := l) (by decide : 12 ≤ 12)
  refine Spec.of_body (c := (cxOf Try.prog tyAt_ok mixed_ok 98)) ⟨Try.func10, rfl, Try.ntmps10, by kernel_rfl⟩ (by simp [FV.hand]) (by exact Nat.le_of_ble_eq_true rfl) rfl ?_
  change FW _ _ _ ⟨[(0, .list 1 (l.map intf)), (1, .bool s)], []⟩
  (repeat (first | refine FW.seq ?_ | refine FW.region ?_ | refine RunN.nil ?_ | refine rn_assign rfl rfl rfl ?_ | refine rn_move rfl rfl rfl ?_))
  refine rn_callO hH (by repeat (first | exact ArgsR.nil | refine ArgsR.cons (by first | exact ArgR.plain rfl rfl) ?_)) (List.length_map _) rfl rfl rfl ?_
  refine RunN.le ?_ (FLe.share 18 rfl rfl (by rw [List.length_map]))
  generalize histS 12 true l = H at hH hin hHl hcr
  have hsc := sCheck_spec H s hHl hin
  have hks := hKeys_spec H (by omega)
  have hof := fun c => ofKey_spec H c (by omega)
  obtain ⟨V, hV⟩ : ∃ V, resV H s = V := ⟨_, rfl⟩
  obtain ⟨E, hE⟩ : ∃ E, resE H = E := ⟨_, rfl⟩
  rw [hV, hE] at hsc
  have hKl : (hKeys H).length ≤ 1000 := by
    have := nodup_sub_len (l := hKeys H) (m := H.map OpV.key) ((hKeys_asc H).imp fun h => by omega) (fun x hx => by obtain ⟨o, ho, rfl⟩ := (hKeys_mem H x).1 hx; exact List.mem_map.2 ⟨o, ho, rfl⟩)
    rw [List.length_map] at this
    omega
  have hmem := fun c hc => (hKeys_mem H c).1 hc
  (repeat (first | refine FW.seq ?_ | refine FW.region ?_ | refine RunN.nil ?_ | refine rn_assign rfl rfl rfl ?_ | refine rn_move rfl rfl rfl ?_))
  refine rn_callS hsc (by repeat (first | exact ArgsR.nil | refine ArgsR.cons (by first | exact ArgR.plain rfl rfl) ?_)) rfl rfl ?_
  (repeat (first | refine FW.seq ?_ | refine FW.region ?_ | refine RunN.nil ?_ | refine rn_assign rfl rfl rfl ?_ | refine rn_move rfl rfl rfl ?_ | refine rn_extract rfl rfl rfl rfl rfl ?_ | refine rn_alloc rfl rfl rfl rfl rfl rfl rfl ?_ | refine rn_storeVA rfl rfl rfl rfl rfl rfl rfl rfl rfl ?_))
  refine rn_callO hks (by repeat (first | exact ArgsR.nil | refine ArgsR.cons (by first | exact ArgR.plain rfl rfl) ?_)) (List.length_map _) rfl rfl rfl ?_
  refine RunN.le ?_ (FLe.share 26 rfl rfl (by rw [List.length_map]))
  (repeat (first | refine FW.seq ?_ | refine FW.region ?_ | refine FW.block ?_ | refine RunN.nil ?_ | refine rn_assign rfl rfl rfl ?_))
  refine FW.loop (fun i : Nat => ⟨[(1, .bool s), (5, .list 8 (H.map OpV.fv)), (6, .ptr 106 0 0 0), (7, .int .i64 E), (8, .bool (partOk H s i)), (9, .bool (partDom H i)), (10, .list 1 ((hKeys H).map intf)), (11, .int .i64 i)], [(106, ⟨0, .own, 33, 5, [V.fv]⟩)]⟩) (fun i => i ≤ (hKeys H).length) (fun i => (hKeys H).length - i) 0 (Nat.zero_le _) ?_ ?_
  · show FLe _ ⟨[(1, .bool s), (5, .list 8 (H.map OpV.fv)), (6, .ptr 106 0 0 0), (7, .int .i64 E), (8, .bool true), (9, .bool true), (10, .list 1 ((hKeys H).map intf)), (11, .int .i64 0)], [(106, ⟨0, .own, 33, 5, [V.fv]⟩)]⟩
    exact (FLe.conv [⟨106, some 6, 0 + 1, ⟨0, .own, 33, 5, [V.fv]⟩⟩] (by simp) (by simp) rfl (by repeat (first | exact GhOk.nil | refine GhOk.low rfl ?_ | refine GhOk.same rfl ?_ | refine GhOk.bump (Nat.lt_succ_self _) ?_)) (by repeat (first | exact EntsOk.nil | refine EntsOk.old rfl (by decide) (by first | rfl | (simp; done) | (congr 1; omega) | (simp; omega) | (simp [List.take_of_length_le]; done) | (refine congrArg (FV.int .i64) ?_; omega)) ?_)) (by repeat (first | exact SlC.nil | refine SlC.cons (.plain rfl rfl (by first | rfl | (simp; done) | (congr 1; omega) | (simp; omega) | (simp [List.take_of_length_le]; done) | (refine congrArg (FV.int .i64) ?_; omega))) ?_ | refine SlC.cons (.ptr rfl (.head _) rfl) ?_)))
  intro i hi
  have hpd : ∀ h : i < (hKeys H).length, partDom H (i + 1) = (partDom H i && dom22 (H.filter (byKey (nth (hKeys H) i)))) := fun h => all_take h
  have hpo : ∀ h : i < (hKeys H).length, partOk H s (i + 1) = (partOk H s i && decide ((resV (H.filter (byKey (nth (hKeys H) i))) s).cls = 0)) := fun h => all_take h
  have hld : i = (hKeys H).length → partDom H i = dom22 H := fun e => by rw [e]; exact local_dom H
  have hlo : i = (hKeys H).length → dom22 H = true → partOk H s i = decide (V.cls = 0) := fun e hd => by rw [e, ← hV]; exact local_ok s hd hcr
  generalize partDom H i = PD at hpd hld
  generalize partOk H s i = PO at hpo hlo
  (repeat (first | refine FW.seq ?_ | refine FW.region ?_ | refine rn_move rfl rfl rfl ?_ | refine rn_lenList rfl rfl (by first | exact List.length_map _ | exact (List.length_map _).symm | exact List.length_replicate | rfl | (simp; done) | omega | (simp; omega)) rfl rfl ?_ | refine rn_lss rfl rfl rfl rfl ?_))
  refine rn_case (fun hc => ?_) (fun hc => ?_)
  · have hlt : i < (hKeys H).length := by simpa using hc
    have hpd := hpd hlt
    have hpo := hpo hlt
    obtain ⟨q, hq, _⟩ := hmem _ (nth_mem hlt)
    have hH0 : 0 < H.length := List.length_pos_iff.2 (fun e => by rw [e] at hq; cases hq)
    obtain ⟨c, hcc⟩ : ∃ c, nth (hKeys H) i = c := ⟨_, rfl⟩
    have hof := hof c
    rw [hcc] at hpd hpo
    (repeat (first | refine RunN.nil ?_ | refine rn_pickT rfl rfl rfl rfl ?_ | refine rn_move rfl rfl ⟨_, _, rfl, rfl, rfl⟩ ?_ | refine rn_lenList rfl rfl (by first | exact List.length_map _ | exact (List.length_map _).symm | exact List.length_replicate | rfl | (simp; done) | omega | (simp; omega)) rfl ⟨_, _, rfl, rfl, rfl⟩ ?_ | refine rn_gtr rfl rfl rfl ⟨_, _, rfl, rfl, rfl⟩ ?_))
    refine FW.cond rfl (fun _ => ?_) (fun h => absurd h (by rw [decide_eq_true (show (H.length : Int) > 0 by omega)]; decide))
    (repeat (first | refine FW.seq ?_ | refine FW.region ?_ | refine FW.block ?_ | refine FW.skip ?_ | refine rn_move rfl rfl rfl ?_ | refine rn_indexL rfl rfl (by first | rfl | exact (Int.toNat_of_nonneg (by omega)).symm) rfl rfl rfl (by first | omega | (simp; omega) | (simp; done)) rfl rfl ?_ | refine rn_loadE rfl rfl rfl (by first | omega | (simp; omega) | (simp; done)) (by first | exact getD_map (by omega) | rfl) rfl rfl rfl rfl ?_))
    rw [hcc]
    refine rn_callO hof (by repeat (first | exact ArgsR.nil | refine ArgsR.cons (by first | exact ArgR.plain rfl rfl) ?_)) (List.length_map _) rfl rfl rfl ?_
    refine RunN.le ?_ (FLe.share 43 rfl rfl (by rw [List.length_map]))
    have hpe := part_eq (l := H) c
    have hpl := part_len (l := H) (c := c)
    have hpf := List.length_filter_le (byKey c) H
    have hix : whereTo (byKey c) H H.length = (keyIx H c).map fun (j : Nat) => (j : Int) := rfl
    have hvl : ∀ v ∈ keyIx H c, v < H.length := fun v hv => (keyIx_mem.1 hv).1
    have hpi : ∀ o ∈ H.filter (byKey c), OpIn o := fun o ho => hin o (List.mem_filter.1 ho).1
    rw [hix]
    have hps := sCheck_spec (H.filter (byKey c)) s (by omega) hpi
    generalize keyIx H c = IX at hpe hpl hix hvl
    obtain ⟨IZ, hIZ⟩ : ∃ IZ, (IX.map fun (j : Nat) => (j : Int)) = IZ := ⟨_, rfl⟩
    have hIZl : IZ.length = IX.length := by rw [← hIZ, List.length_map]
    have hIZn : ∀ j, j < IX.length → nth IZ j = ((nth IX j : Nat) : Int) := fun j hj => by rw [← hIZ, nth_eq (by simpa using hj), nth_eq hj]; simp
    rw [hIZ]
    clear hix hIZ hof
    (repeat (first | refine FW.seq ?_ | refine FW.region ?_ | refine FW.block ?_ | refine RunN.nil ?_ | refine rn_assign rfl rfl rfl ?_))
    refine FW.loop (fun j : Nat => ⟨[(1, .bool s), (5, .list 8 (H.map OpV.fv)), (6, .ptr 106 0 0 0), (7, .int .i64 E), (8, .bool PO), (9, .bool PD), (10, .list 1 ((hKeys H).map intf)), (11, .int .i64 i), (12, .list 1 (IZ.map intf)), (13, .own 113 0 0 j), (14, .int .i64 j)], [(106, ⟨0, .own, 33, 5, [V.fv]⟩), (113, ⟨0, .own, 48, 8, ((IX.take j).map (nth H)).map OpV.fv⟩)]⟩) (fun j => j ≤ IX.length) (fun j => IX.length - j) 0 (Nat.zero_le _) ?_ ?_
    · show FLe _ ⟨[(1, .bool s), (5, .list 8 (H.map OpV.fv)), (6, .ptr 106 0 0 0), (7, .int .i64 E), (8, .bool PO), (9, .bool PD), (10, .list 1 ((hKeys H).map intf)), (11, .int .i64 i), (12, .list 1 (IZ.map intf)), (13, .own 113 0 0 0), (14, .int .i64 0)], [(106, ⟨0, .own, 33, 5, [V.fv]⟩), (113, ⟨0, .own, 48, 8, []⟩)]⟩
      exact (FLe.conv [⟨106, some 106, 0, ⟨0, .own, 33, 5, [V.fv]⟩⟩, ⟨113, none, 0, ⟨0, .own, 48, 8, []⟩⟩] (by simp) (by simp) rfl (by repeat (first | exact GhOk.nil | refine GhOk.low rfl ?_ | refine GhOk.same rfl ?_ | refine GhOk.bump (Nat.lt_succ_self _) ?_)) (by repeat (first | exact EntsOk.nil | refine EntsOk.old rfl (by decide) (by first | rfl | (simp; done) | (congr 1; omega) | (simp; omega) | (simp [List.take_of_length_le]; done) | (refine congrArg (FV.int .i64) ?_; omega)) ?_ | refine EntsOk.new ?_)) (by repeat (first | exact SlC.nil | refine SlC.cons (.plain rfl rfl (by first | rfl | (simp; done) | (congr 1; omega) | (simp; omega) | (simp [List.take_of_length_le]; done) | (refine congrArg (FV.int .i64) ?_; omega))) ?_ | refine SlC.cons (.ptr rfl (.head _) rfl) ?_ | refine SlC.cons (.nil rfl (.tail _ (.head _)) rfl) ?_)))
    intro j hj
    have hQl : ((IX.take j).map (nth H)).length = j := by rw [List.length_map, List.length_take]; omega
    have hQs : ∀ h : j < IX.length, (IX.take (j + 1)).map (nth H) = (IX.take j).map (nth H) ++ [nth H (nth IX j)] := fun h => by rw [List.take_succ_eq_append_getElem h, List.map_append, nth_eq h]; rfl
    have hlast : j = IX.length → (IX.take j).map (nth H) = H.filter (byKey c) := fun e => by rw [e, List.take_length, hpe]
    generalize (IX.take j).map (nth H) = Q at hQl hQs hlast
    subst hQl
    (repeat (first | refine FW.seq ?_ | refine FW.region ?_ | refine RunN.nil ?_ | refine rn_move rfl rfl rfl ?_ | refine rn_lenList rfl rfl (by first | exact List.length_map _ | exact (List.length_map _).symm | exact List.length_replicate | rfl | (simp; done) | omega | (simp; omega)) rfl rfl ?_ | refine rn_lss rfl rfl rfl rfl ?_))
    refine FW.cond rfl (fun hc2 => ?_) (fun hc2 => ?_)
    · have hj2 : Q.length < IX.length := by simp at hc2; omega
      have hQs := hQs hj2
      have hz := hIZn _ hj2
      have hv := hvl _ (nth_mem hj2)
      obtain ⟨v, hvv⟩ : ∃ v, nth IX Q.length = v := ⟨_, rfl⟩
      rw [hvv] at hQs hz hv
      have har := around_spec (v : Int) H.length (by unfold I64; omega) (by omega) (by omega)
      rw [around_small hv] at har
      (repeat (first | refine FW.seq ?_ | refine FW.region ?_ | refine FW.block ?_ | refine FW.skip ?_ | refine rn_move rfl rfl rfl ?_ | refine rn_lenList rfl rfl (by first | exact List.length_map _ | exact (List.length_map _).symm | exact List.length_replicate | rfl | (simp; done) | omega | (simp; omega)) rfl rfl ?_ | refine rn_indexL rfl rfl (by first | rfl | exact (Int.toNat_of_nonneg (by omega)).symm) rfl rfl rfl (by first | omega | (simp; omega) | (simp; done)) rfl rfl ?_ | refine rn_loadE rfl rfl rfl (by first | omega | (simp; omega) | (simp; done)) (by first | exact getD_map (by omega) | rfl) rfl rfl rfl rfl ?_))
      rw [hz]
      refine rn_call har (by repeat (first | exact ArgsR.nil | refine ArgsR.cons (by first | exact ArgR.plain rfl rfl) ?_)) rfl rfl ?_
      (repeat (first | refine FW.region ?_ | refine RunN.nil ?_ | refine rn_assign rfl rfl rfl ?_ | refine rn_move rfl rfl rfl ?_ | refine rn_indexL rfl rfl (by first | rfl | exact (Int.toNat_of_nonneg (by omega)).symm) rfl rfl rfl (by first | omega | (simp; omega) | (simp; done)) rfl rfl ?_ | refine rn_loadEA rfl rfl rfl (by decide) (by first | omega | (simp; omega) | (simp; done)) (by first | exact getD_map (by omega) | rfl) rfl rfl rfl ?_ | refine rn_buildS1A rfl rfl rfl rfl rfl rfl rfl rfl rfl rfl ?_ | refine rn_appO rfl rfl (by first | exact List.length_map _ | exact (List.length_map _).symm | exact List.length_replicate | rfl | (simp; done) | omega | (simp; omega)) rfl rfl rfl (by decide) (by first | exact SrcR.own rfl rfl (by decide) (by first | exact List.length_map _ | exact (List.length_map _).symm | exact List.length_replicate | rfl | (simp; done) | omega | (simp; omega)) | exact SrcR.list rfl | exact SrcR.nil rfl | exact SrcR.part rfl rfl (by decide)) (by first | omega | (simp; omega) | (simp; done)) (by first | omega | (simp; omega) | (simp; done)) rfl rfl rfl ?_ | refine rn_add rfl rfl (by omega) rfl rfl ?_))
      refine ⟨Q.length + 1, by omega, by omega, ?_⟩
      rw [hQs, List.map_append]
      exact (FLe.conv [⟨106, some 106, 0, ⟨0, .own, 33, 5, [V.fv]⟩⟩, ⟨113, some 62, 0 + 1, ⟨0, .own, 48, 8, Q.map OpV.fv ++ [nth H v].map OpV.fv⟩⟩] (by simp) (by simp) rfl (by repeat (first | exact GhOk.nil | refine GhOk.low rfl ?_ | refine GhOk.same rfl ?_ | refine GhOk.bump (Nat.lt_succ_self _) ?_)) (by repeat (first | exact EntsOk.nil | refine EntsOk.old rfl (by decide) (by first | rfl | (simp; done) | (congr 1; omega) | (simp; omega) | (simp [List.take_of_length_le]; done) | (refine congrArg (FV.int .i64) ?_; omega)) ?_)) (by repeat (first | exact SlC.nil | refine SlC.cons (.plain rfl rfl (by first | rfl | (simp; done) | (congr 1; omega) | (simp; omega) | (simp [List.take_of_length_le]; done) | (refine congrArg (FV.int .i64) ?_; omega))) ?_ | refine SlC.cons (.ptr rfl (.head _) rfl) ?_ | refine SlC.cons (.own rfl (.tail _ (.head _)) rfl (by first | rfl | (simp; done) | (congr 1; omega) | (simp; omega) | (simp [List.take_of_length_le]; done) | (refine congrArg (FV.int .i64) ?_; omega))) ?_)))
    · have hQ := hlast (by simp at hc2; omega)
      subst hQ
      (repeat (first | refine FW.seq ?_ | refine FW.region ?_ | refine FW.exit ?_ | refine rn_move rfl rfl rfl ?_))
      refine RunN.le ?_ (FLe.share 13 rfl rfl (by simp))
      skip
      refine rn_callS hps (by repeat (first | exact ArgsR.nil | refine ArgsR.cons (by first | exact ArgR.plain rfl rfl | exact ArgR.own rfl rfl (by decide) (by first | exact (fun _ => rfl) | (intro h; cases h)) (by first | rfl | (simp; done) | (congr 1; omega) | (simp; omega) | (simp [List.take_of_length_le]; done) | (refine congrArg (FV.int .i64) ?_; omega))) ?_)) rfl rfl ?_
      cases PD with
      | false =>
        rw [Bool.false_and] at hpd
        cases PO with
        | false =>
          rw [Bool.false_and] at hpo
          (repeat (first | refine FW.seq ?_ | refine FW.region ?_ | refine RunN.nil ?_ | refine rn_assign rfl rfl rfl ?_ | refine rn_move rfl rfl rfl ?_ | refine rn_extract rfl rfl rfl rfl rfl ?_ | refine rn_alloc rfl rfl rfl rfl rfl rfl rfl ?_ | refine rn_storeVA rfl rfl rfl rfl rfl rfl rfl rfl rfl ?_ | refine rn_pickF rfl rfl rfl rfl ?_ | refine rn_add rfl rfl (by omega) rfl rfl ?_ | refine rn_skip rfl rfl ⟨_, _, rfl, rfl, rfl⟩ ?_))
          refine ⟨i + 1, by omega, by omega, ?_⟩
          rw [hpd, hpo]
          exact (FLe.conv [⟨106, some 106, 0, ⟨0, .own, 33, 5, [V.fv]⟩⟩] (by simp) (by simp) rfl (by repeat (first | exact GhOk.nil | refine GhOk.low rfl ?_ | refine GhOk.same rfl ?_ | refine GhOk.bump (Nat.lt_succ_self _) ?_)) (by repeat (first | exact EntsOk.nil | refine EntsOk.old rfl (by decide) (by first | rfl | (simp; done) | (congr 1; omega) | (simp; omega) | (simp [List.take_of_length_le]; done) | (refine congrArg (FV.int .i64) ?_; omega)) ?_)) (by repeat (first | exact SlC.nil | refine SlC.cons (.plain rfl rfl (by first | rfl | (simp; done) | (congr 1; omega) | (simp; omega) | (simp [List.take_of_length_le]; done) | (refine congrArg (FV.int .i64) ?_; omega))) ?_ | refine SlC.cons (.ptr rfl (.head _) rfl) ?_)))
        | true =>
          rw [Bool.true_and] at hpo
          (repeat (first | refine FW.seq ?_ | refine FW.region ?_ | refine RunN.nil ?_ | refine rn_assign rfl rfl rfl ?_ | refine rn_move rfl rfl rfl ?_ | refine rn_extract rfl rfl rfl rfl rfl ?_ | refine rn_alloc rfl rfl rfl rfl rfl rfl rfl ?_ | refine rn_storeVA rfl rfl rfl rfl rfl rfl rfl rfl rfl ?_ | refine rn_pickT rfl rfl rfl rfl ?_ | refine rn_pickF rfl rfl rfl rfl ?_ | refine rn_add rfl rfl (by omega) rfl rfl ?_ | refine rn_eql rfl rfl rfl ⟨_, _, rfl, rfl, rfl⟩ ?_ | refine rn_fieldP rfl rfl rfl rfl rfl rfl (by decide) rfl ⟨_, _, rfl, rfl, rfl⟩ ?_ | refine rn_loadP rfl rfl rfl rfl rfl (by first | omega | (simp; omega) | (simp; done)) (by first | exact getD_map (by omega) | rfl) rfl rfl rfl ⟨_, _, rfl, rfl, rfl⟩ ?_ | refine rn_skip rfl rfl ⟨_, _, rfl, rfl, rfl⟩ ?_))
          refine ⟨i + 1, by omega, by omega, ?_⟩
          rw [hpd, hpo]
          exact (FLe.conv [⟨106, some 106, 0, ⟨0, .own, 33, 5, [V.fv]⟩⟩] (by simp) (by simp) rfl (by repeat (first | exact GhOk.nil | refine GhOk.low rfl ?_ | refine GhOk.same rfl ?_ | refine GhOk.bump (Nat.lt_succ_self _) ?_)) (by repeat (first | exact EntsOk.nil | refine EntsOk.old rfl (by decide) (by first | rfl | (simp; done) | (congr 1; omega) | (simp; omega) | (simp [List.take_of_length_le]; done) | (refine congrArg (FV.int .i64) ?_; omega)) ?_)) (by repeat (first | exact SlC.nil | refine SlC.cons (.plain rfl rfl (by first | rfl | (simp; done) | (congr 1; omega) | (simp; omega) | (simp [List.take_of_length_le]; done) | (refine congrArg (FV.int .i64) ?_; omega))) ?_ | refine SlC.cons (.ptr rfl (.head _) rfl) ?_)))
      | true =>
        rw [Bool.true_and, ← resE_eq] at hpd
        cases PO with
        | false =>
          rw [Bool.false_and] at hpo
          (repeat (first | refine FW.seq ?_ | refine FW.region ?_ | refine RunN.nil ?_ | refine rn_assign rfl rfl rfl ?_ | refine rn_move rfl rfl rfl ?_ | refine rn_extract rfl rfl rfl rfl rfl ?_ | refine rn_alloc rfl rfl rfl rfl rfl rfl rfl ?_ | refine rn_storeVA rfl rfl rfl rfl rfl rfl rfl rfl rfl ?_ | refine rn_pickT rfl rfl rfl rfl ?_ | refine rn_pickF rfl rfl rfl rfl ?_ | refine rn_add rfl rfl (by omega) rfl rfl ?_ | refine rn_move rfl rfl ⟨_, _, rfl, rfl, rfl⟩ ?_ | refine rn_eql rfl rfl rfl ⟨_, _, rfl, rfl, rfl⟩ ?_ | refine rn_skip rfl rfl ⟨_, _, rfl, rfl, rfl⟩ ?_))
          refine ⟨i + 1, by omega, by omega, ?_⟩
          rw [hpd, hpo]
          exact (FLe.conv [⟨106, some 106, 0, ⟨0, .own, 33, 5, [V.fv]⟩⟩] (by simp) (by simp) rfl (by repeat (first | exact GhOk.nil | refine GhOk.low rfl ?_ | refine GhOk.same rfl ?_ | refine GhOk.bump (Nat.lt_succ_self _) ?_)) (by repeat (first | exact EntsOk.nil | refine EntsOk.old rfl (by decide) (by first | rfl | (simp; done) | (congr 1; omega) | (simp; omega) | (simp [List.take_of_length_le]; done) | (refine congrArg (FV.int .i64) ?_; omega)) ?_)) (by repeat (first | exact SlC.nil | refine SlC.cons (.plain rfl rfl (by first | rfl | (simp; done) | (congr 1; omega) | (simp; omega) | (simp [List.take_of_length_le]; done) | (refine congrArg (FV.int .i64) ?_; omega))) ?_ | refine SlC.cons (.ptr rfl (.head _) rfl) ?_)))
        | true =>
          rw [Bool.true_and] at hpo
          (repeat (first | refine FW.seq ?_ | refine FW.region ?_ | refine RunN.nil ?_ | refine rn_assign rfl rfl rfl ?_ | refine rn_move rfl rfl rfl ?_ | refine rn_extract rfl rfl rfl rfl rfl ?_ | refine rn_alloc rfl rfl rfl rfl rfl rfl rfl ?_ | refine rn_storeVA rfl rfl rfl rfl rfl rfl rfl rfl rfl ?_ | refine rn_pickT rfl rfl rfl rfl ?_ | refine rn_add rfl rfl (by omega) rfl rfl ?_ | refine rn_move rfl rfl ⟨_, _, rfl, rfl, rfl⟩ ?_ | refine rn_eql rfl rfl rfl ⟨_, _, rfl, rfl, rfl⟩ ?_ | refine rn_fieldP rfl rfl rfl rfl rfl rfl (by decide) rfl ⟨_, _, rfl, rfl, rfl⟩ ?_ | refine rn_loadP rfl rfl rfl rfl rfl (by first | omega | (simp; omega) | (simp; done)) (by first | exact getD_map (by omega) | rfl) rfl rfl rfl ⟨_, _, rfl, rfl, rfl⟩ ?_))
          refine ⟨i + 1, by omega, by omega, ?_⟩
          rw [hpd, hpo]
          exact (FLe.conv [⟨106, some 106, 0, ⟨0, .own, 33, 5, [V.fv]⟩⟩] (by simp) (by simp) rfl (by repeat (first | exact GhOk.nil | refine GhOk.low rfl ?_ | refine GhOk.same rfl ?_ | refine GhOk.bump (Nat.lt_succ_self _) ?_)) (by repeat (first | exact EntsOk.nil | refine EntsOk.old rfl (by decide) (by first | rfl | (simp; done) | (congr 1; omega) | (simp; omega) | (simp [List.take_of_length_le]; done) | (refine congrArg (FV.int .i64) ?_; omega)) ?_)) (by repeat (first | exact SlC.nil | refine SlC.cons (.plain rfl rfl (by first | rfl | (simp; done) | (congr 1; omega) | (simp; omega) | (simp [List.take_of_length_le]; done) | (refine congrArg (FV.int .i64) ?_; omega))) ?_ | refine SlC.cons (.ptr rfl (.head _) rfl) ?_)))
  · have : i = (hKeys H).length := by simp at hc; omega
    have hld := hld this
    have hlo := hlo this
    rw [← resE_eq, hE] at hld
    have hEd : E = 0 → dom22 H = true := fun e => resE_dom (hE.trans e)
    clear hpd hpo
    (repeat (first | refine FW.seq ?_ | refine FW.region ?_ | refine FW.exit ?_ | refine FW.condF rfl ?_ | refine RunN.nil ?_ | refine rn_move rfl rfl rfl ?_ | refine rn_pickF rfl rfl rfl rfl ?_ | refine rn_neq rfl rfl rfl rfl ?_ | refine rn_skip rfl rfl ⟨_, _, rfl, rfl, rfl⟩ ?_))
    refine FW.cond rfl (fun h1 => ?_) (fun h1 => ?_)
    · have h1 : E ≠ 0 := by simpa using h1
      rw [decide_eq_false h1] at hld
      subst hld
      (repeat (first | refine FW.seq ?_ | refine FW.region ?_ | refine rn_move rfl rfl rfl ?_ | refine rn_not rfl rfl rfl ?_))
      refine rn_call lives22_spec (by repeat (first | exact ArgsR.nil)) rfl ⟨_, _, rfl, rfl, rfl⟩ ?_
      (repeat (first | refine RunN.nil ?_ | refine rn_assign rfl rfl rfl ?_ | refine rn_pickT rfl rfl rfl rfl ?_))
      exact FW.ret ⟨.inl rfl, ret_flat rfl rfl rfl rfl⟩
    · have h1 : E = 0 := by simpa using h1
      rw [decide_eq_true h1] at hld
      subst hld
      have hlo := hlo (hEd h1)
      (repeat (first | refine FW.seq ?_ | refine FW.region ?_ | refine FW.skip ?_ | refine rn_move rfl rfl rfl ?_ | refine rn_pickT rfl rfl rfl rfl ?_ | refine rn_move rfl rfl ⟨_, _, rfl, rfl, rfl⟩ ?_ | refine rn_eql rfl rfl rfl ⟨_, _, rfl, rfl, rfl⟩ ?_ | refine rn_eqlB rfl rfl rfl rfl ⟨_, _, rfl, rfl, rfl⟩ ?_ | refine rn_fieldP rfl rfl rfl rfl rfl rfl (by decide) rfl ⟨_, _, rfl, rfl, rfl⟩ ?_ | refine rn_loadP rfl rfl rfl rfl rfl (by first | omega | (simp; omega) | (simp; done)) (by first | exact getD_map (by omega) | rfl) rfl rfl rfl ⟨_, _, rfl, rfl, rfl⟩ ?_))
      refine rn_case (fun _ => ?_) (fun h => absurd h (by rw [hlo]; simp))
      skip
      refine rn_call lives22_spec (by repeat (first | exact ArgsR.nil)) rfl ⟨_, _, rfl, rfl, rfl⟩ ?_
      (repeat (first | refine RunN.nil ?_ | refine rn_assign rfl rfl rfl ?_ | refine rn_pickT rfl rfl rfl rfl ?_))
      exact FW.ret ⟨.inl rfl, ret_flat rfl rfl rfl rfl⟩
end Go.Proofs.Ytfegkbmnclhljaa
