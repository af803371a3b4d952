/-
  simprooflaw22.SerialCycles answers true for every input (walked on plain values).
-/
import Derived.Test.YtfegkbmnclhljaaZFmSer7
namespace Go.Proofs.Ytfegkbmnclhljaa
set_option linter.unusedVariables false
open Go.RowKit

theorem resV_cyc {H : List OpV} {s : Bool} (h : (resV H s).cls = 5) : cyc22 H s ≠ [] ∧ Dom22 H ∧ resV H s = ⟨cOf s, 5, (nth H (nth (cyc22 H s) 0).toNat).key, [], cycE H s (cyc22 H s) (cyc22 H s).length⟩ := by
  cases hd : dom22 H with
  | false => unfold resV at h; rw [if_neg (by rw [hd]; decide)] at h; cases h
  | true =>
    unfold resV at h ⊢
    rw [if_pos hd] at h ⊢
    unfold serV at h ⊢
    cases ht : thin22 H with
    | some v => rw [ht] at h; cases h
    | none =>
      rw [ht] at h
      dsimp only at h ⊢
      by_cases hc : cyc22 H s = []
      · rw [if_pos hc] at h; cases h
      · rw [if_neg hc] at h ⊢
        exact ⟨hc, dom22_iff.1 hd, rfl⟩
def edIn (e : EdV) (E : List EdV) (j : Nat) : Bool := (E.take j).any fun x => decide (x = e)
theorem edIn_succ (e : EdV) {E : List EdV} {j : Nat} (hj : j < E.length) : edIn e E (j + 1) = (edIn e E j || decide (nth E j = e)) := by
  unfold edIn
  rw [List.take_succ_eq_append_getElem hj, List.any_append, nth_eq hj]; simp
theorem edIn_all {e : EdV} {E : List EdV} (h : e ∈ E) : edIn e E E.length = true := by
  unfold edIn
  rw [List.take_length, List.any_eq_true]
  exact ⟨e, h, by simp⟩
theorem cycE_nth {H : List OpV} {s : Bool} {c : List Int} {k i : Nat} (hi : i < k) : nth (cycE H s c k) i = ((nth c i).toNat, (nth c ((i + 1) % c.length)).toNat, hd0 (why22 H s (nth c i).toNat (nth c ((i + 1) % c.length)).toNat)) := by
  rw [nth_eq (by rw [cycE_len]; exact hi)]
  unfold cycE
  simp
set_option maxHeartbeats 4000000 in
theorem serialCycles_spec (l : List Int) (s : Bool) (hl : ∀ x ∈ l, I64 x) (hlen : l.length ≤ 9223372036854775807) : Spec Try.prog 6 [.list 1 (l.map intf), .bool s] .fr (.bool true) := by
  have hH := histS_spec 12 true l (by decide) hl hlen
  have hin := histS_in (f := true) (l := l) (by decide : 12 ≤ 12)
  have hHl := histS_len (f := true) (l := l) (by decide : 12 ≤ 12)
  refine Spec.of_body (c := (cxOf Try.prog tyAt_ok mixed_ok 121)) ⟨Try.func6, rfl, Try.ntmps6, by kernel_rfl⟩ (by simp [FV.hand]) (by exact Nat.le_of_ble_eq_true rfl) rfl ?_
  change FW _ _ _ ⟨[(0, .list 1 (l.map intf)), (1, .bool s)], []⟩
  (repeat (first | refine FW.seq ?_ | refine FW.region ?_ | refine RunN.nil ?_ | refine rn_assign rfl rfl rfl ?_ | refine rn_move rfl rfl rfl ?_))
  refine rn_callO hH (by repeat (first | exact ArgsR.nil | refine ArgsR.cons (by first | exact ArgR.plain rfl rfl) ?_)) (List.length_map _) rfl rfl rfl ?_
  refine RunN.le ?_ (FLe.share 16 rfl rfl (by rw [List.length_map]))
  generalize histS 12 true l = H at hH hin hHl
  have hsc := sCheck_spec H s hHl hin
  have hes := edges_spec H s (by omega)
  have hlX := edTo_len H s H.length
  obtain ⟨V, hV⟩ : ∃ V, resV H s = V := ⟨_, rfl⟩
  obtain ⟨E, hE⟩ : ∃ E, resE H = E := ⟨_, rfl⟩
  rw [hV, hE] at hsc
  have hlX : (edges22 H s).length ≤ 576 := by
    refine Nat.le_trans hlX ?_
    exact Nat.le_trans (Nat.mul_le_mul (Nat.mul_le_mul (Nat.le_refl 4) hHl) hHl) (by decide)
  (repeat (first | refine FW.seq ?_ | refine FW.region ?_ | refine RunN.nil ?_ | refine rn_assign rfl rfl rfl ?_ | refine rn_move rfl rfl rfl ?_))
  refine rn_callS hsc (by repeat (first | exact ArgsR.nil | refine ArgsR.cons (by first | exact ArgR.plain rfl rfl) ?_)) rfl rfl ?_
  (repeat (first | refine FW.seq ?_ | refine FW.region ?_ | refine RunN.nil ?_ | refine rn_assign rfl rfl rfl ?_ | refine rn_move rfl rfl rfl ?_ | refine rn_extract rfl rfl rfl rfl rfl ?_ | refine rn_alloc rfl rfl rfl rfl rfl rfl rfl ?_ | refine rn_storeVA rfl rfl rfl rfl rfl rfl rfl rfl rfl ?_ | refine rn_neq rfl rfl rfl rfl ?_))
  refine rn_case (fun h1 => ?_) (fun h1 => ?_)
  · (repeat (first | refine FW.seq ?_ | refine FW.region ?_ | refine FW.condT rfl ?_ | refine RunN.nil ?_ | refine rn_pickT rfl rfl rfl rfl ?_ | refine rn_skip rfl rfl ⟨_, _, rfl, rfl, rfl⟩ ?_))
    refine rn_call lives22_spec (by repeat (first | exact ArgsR.nil)) rfl rfl ?_
    (repeat (first | refine RunN.nil ?_ | refine rn_assign rfl rfl rfl ?_))
    exact FW.ret ⟨.inl rfl, ret_flat rfl rfl rfl rfl⟩
  (repeat (first | refine RunN.nil ?_ | refine rn_pickF rfl rfl rfl rfl ?_ | refine rn_fieldP rfl rfl rfl rfl rfl rfl (by decide) rfl ⟨_, _, rfl, rfl, rfl⟩ ?_ | refine rn_loadP rfl rfl rfl rfl rfl (by first | omega | (simp; omega) | (simp; done)) (by first | exact getD_map (by omega) | rfl) rfl rfl rfl ⟨_, _, rfl, rfl, rfl⟩ ?_ | refine rn_neq rfl rfl rfl ⟨_, _, rfl, rfl, rfl⟩ ?_))
  refine FW.cond rfl (fun h2 => ?_) (fun h2 => ?_)
  · (repeat (first | refine FW.seq ?_ | refine FW.region ?_))
    refine rn_call lives22_spec (by repeat (first | exact ArgsR.nil)) rfl rfl ?_
    (repeat (first | refine RunN.nil ?_ | refine rn_assign rfl rfl rfl ?_))
    exact FW.ret ⟨.inl rfl, ret_flat rfl rfl rfl rfl⟩
  have h2 : V.cls = 5 := by simpa using h2
  rw [← hV] at h2
  obtain ⟨hne, hD, hVe⟩ := resV_cyc h2
  rw [hV] at hVe
  have hcr : cyc22 H s = rCycle (prs (edges22 H s)) H.length := rfl
  have hin2 := prs_in H s
  have hCC := fun i hi => cycE_ok hne (i := i) hi
  have hcl : (cyc22 H s).length ≤ H.length := by rw [hcr, ← cycle_eq hin2]; exact cycB_len hin2 (Nat.le_refl _)
  have hC := cycleRN_spec H.length (prs (edges22 H s)) hHl (by rw [show (prs (edges22 H s)).length = (edges22 H s).length by unfold prs; rw [List.length_map]]; omega) hin2
  rw [← hcr] at hC
  have hmem : ∀ i, i < (cyc22 H s).length → nth (cycE H s (cyc22 H s) (cyc22 H s).length) i ∈ edges22 H s := fun i hi => by
    obtain ⟨a, b, ha, hb, hal, hbl, hw⟩ := hCC i hi
    rw [cycE_nth hi, ha, hb, Int.toNat_natCast, Int.toNat_natCast, edges22_mem]
    refine ⟨hal, hbl, ?_⟩
    unfold hd0
    exact nth_mem (List.length_pos_iff.2 hw)
  have hlink : ∀ i, i < (cyc22 H s).length → (nth (cycE H s (cyc22 H s) (cyc22 H s).length) i).2.1 = (nth (cycE H s (cyc22 H s) (cyc22 H s).length) ((i + 1) % (cyc22 H s).length)).1 := fun i hi => by
    rw [cycE_nth hi, cycE_nth (Nat.mod_lt _ (by omega))]
  have hYl := cycE_len H s (cyc22 H s) (cyc22 H s).length
  have hC0 : 0 < (cyc22 H s).length := List.length_pos_iff.2 hne
  obtain ⟨Y, hY⟩ : ∃ Y, cycE H s (cyc22 H s) (cyc22 H s).length = Y := ⟨_, rfl⟩
  obtain ⟨C, hCe⟩ : ∃ C, cyc22 H s = C := ⟨_, rfl⟩
  obtain ⟨X, hX⟩ : ∃ X, edges22 H s = X := ⟨_, rfl⟩
  obtain ⟨key, hkey⟩ : ∃ key, (nth H (nth (cyc22 H s) 0).toNat).key = key := ⟨_, rfl⟩
  have hCn : nilL (C.map intf) = .list 1 (C.map intf) := by
    rw [hCe] at hne
    cases C with
    | nil => exact absurd rfl hne
    | cons c cs => rfl
  rw [hkey, hY] at hVe
  rw [hY] at hmem hlink hYl
  rw [hCe] at hmem hlink hYl hC hC0 hcl
  rw [hX] at hmem hes hlX hC
  rw [hCn] at hC
  subst hVe
  clear hcr hin2 hCC h2 hne hCn hsc h1
  have hpl : (prs X).length = X.length := by unfold prs; rw [List.length_map]
  (repeat (first | refine FW.seq ?_ | refine FW.region ?_ | refine FW.skip ?_ | refine RunN.nil ?_ | refine rn_assign rfl rfl rfl ?_ | refine rn_move rfl rfl rfl ?_ | refine rn_fieldP rfl rfl rfl rfl rfl rfl (by decide) rfl rfl ?_ | refine rn_loadP rfl rfl rfl rfl rfl (by first | omega | (simp; omega) | (simp; done)) (by first | exact getD_map (by omega) | rfl) rfl rfl rfl rfl ?_))
  refine rn_callO hes (by repeat (first | exact ArgsR.nil | refine ArgsR.cons (by first | exact ArgR.plain rfl rfl) ?_)) (List.length_map _) rfl rfl rfl ?_
  refine RunN.le ?_ (FLe.share 36 rfl rfl (by rw [List.length_map]))
  (repeat (first | refine FW.seq ?_ | refine FW.region ?_ | refine FW.block ?_ | refine RunN.nil ?_ | refine rn_assign rfl rfl rfl ?_))
  refine FW.loop (fun k : Nat => ⟨[(5, .list 8 (H.map OpV.fv)), (6, .ptr 106 0 0 0), (8, .list 3 (Y.map EdV.fv)), (9, .list 3 (X.map EdV.fv)), (10, .own 104 0 0 k), (11, .int .i64 k)], [(106, ⟨0, .own, 33, 5, [[.int .i64 (cOf s), .int .i64 5, .int .i64 key, .list 1 [], .list 3 (Y.map EdV.fv)]]⟩), (104, ⟨0, .own, 44, 2, ((prs X).take k).map edf⟩)]⟩) (fun k => k ≤ X.length) (fun k => X.length - k) 0 (Nat.zero_le _) ?_ ?_
  · show FLe _ ⟨[(5, .list 8 (H.map OpV.fv)), (6, .ptr 106 0 0 0), (8, .list 3 (Y.map EdV.fv)), (9, .list 3 (X.map EdV.fv)), (10, .own 104 0 0 0), (11, .int .i64 0)], [(106, ⟨0, .own, 33, 5, [[.int .i64 (cOf s), .int .i64 5, .int .i64 key, .list 1 [], .list 3 (Y.map EdV.fv)]]⟩), (104, ⟨0, .own, 44, 2, []⟩)]⟩
    exact (FLe.conv [⟨106, some 6, 0 + 1, ⟨0, .own, 33, 5, [[.int .i64 (cOf s), .int .i64 5, .int .i64 key, .list 1 [], .list 3 (Y.map EdV.fv)]]⟩⟩, ⟨104, none, 0, ⟨0, .own, 44, 2, []⟩⟩] (by simp) (by simp) rfl (by repeat (first | exact GhOk.nil | refine GhOk.low rfl ?_ | refine GhOk.same rfl ?_ | refine GhOk.bump (Nat.lt_succ_self _) ?_)) (by repeat (first | exact EntsOk.nil | refine EntsOk.old rfl (by decide) (by first | rfl | (simp; done) | (congr 1; omega) | (simp; omega) | (simp [List.take_of_length_le]; done) | (refine congrArg (FV.int .i64) ?_; omega)) ?_ | refine EntsOk.new ?_)) (by repeat (first | exact SlC.nil | refine SlC.cons (.plain rfl rfl (by first | rfl | (simp; done) | (congr 1; omega) | (simp; omega) | (simp [List.take_of_length_le]; done) | (refine congrArg (FV.int .i64) ?_; omega))) ?_ | refine SlC.cons (.ptr rfl (.head _) rfl) ?_ | refine SlC.cons (.nil rfl (.tail _ (.head _)) rfl) ?_)))
  intro k hk
  have hkl : ((prs X).take k).length = k := by rw [List.length_take]; omega
  have hks : ∀ h : k < X.length, (prs X).take (k + 1) = (prs X).take k ++ [((nth X k).1, (nth X k).2.1)] := fun h => by
    rw [List.take_succ_eq_append_getElem (by omega)]
    congr 2
    rw [nth_eq h]
    simp [prs]
  have hlast : k = X.length → (prs X).take k = prs X := fun e => by rw [e, ← hpl, List.take_length]
  generalize (prs X).take k = Z at hkl hks hlast
  subst hkl
  (repeat (first | refine FW.seq ?_ | refine FW.region ?_ | refine RunN.nil ?_ | refine rn_move rfl rfl rfl ?_ | refine rn_lenList rfl rfl (by first | exact List.length_map _ | exact (List.length_map _).symm | exact List.length_replicate | rfl | (simp; done) | omega | (simp; omega)) rfl rfl ?_ | refine rn_lss rfl rfl rfl rfl ?_))
  refine FW.cond rfl (fun hc => ?_) (fun hc => ?_)
  · have hlt : Z.length < X.length := by simpa using hc
    clear hc hlast
    have hks := hks hlt
    obtain ⟨⟨a, b, w⟩, he⟩ : ∃ e, nth X Z.length = e := ⟨_, rfl⟩
    rw [he] at hks
    (repeat (first | refine FW.seq ?_ | refine FW.block ?_ | refine FW.skip ?_ | refine FW.draw ?_ | refine RunD.nil ?_ | refine rd_assign rfl rfl rfl ?_ | refine rd_move rfl rfl rfl ?_ | refine rd_fieldE rfl rfl rfl rfl rfl rfl rfl ?_ | refine rd_loadE rfl rfl rfl (by first | omega | (simp; omega) | (simp; done)) (by first | exact getD_map (by omega) | rfl) rfl rfl rfl rfl ?_ | refine rd_appO rfl rfl (by first | exact List.length_map _ | exact (List.length_map _).symm | exact List.length_replicate | rfl | (simp; done) | omega | (simp; omega)) rfl rfl rfl (by decide) (by first | exact SrcR.own rfl rfl (by decide) (by first | exact List.length_map _ | exact (List.length_map _).symm | exact List.length_replicate | rfl | (simp; done) | omega | (simp; omega)) | exact SrcR.list rfl | exact SrcR.nil rfl | exact SrcR.part rfl rfl (by decide)) (by first | omega | (simp; omega) | (simp; done)) (by first | omega | (simp; omega) | (simp; done)) rfl rfl rfl ?_ | refine rd_indexL rfl rfl (by first | rfl | exact (Int.toNat_of_nonneg (by omega)).symm) rfl rfl rfl (by first | omega | (simp; omega) | (simp; done)) rfl rfl ?_ | refine rd_buildA2 rfl rfl rfl rfl rfl rfl rfl rfl rfl ?_ | refine rd_buildS1A rfl rfl rfl rfl rfl rfl rfl rfl rfl rfl ?_))
    rw [he]
    skip
    refine ⟨by kernel_rfl, ?_⟩
    (repeat (first | refine FW.region ?_ | refine RunN.nil ?_ | refine rn_assign rfl rfl rfl ?_ | refine rn_move rfl rfl rfl ?_ | refine rn_add rfl rfl (by omega) rfl rfl ?_))
    refine ⟨Z.length + 1, by omega, by omega, ?_⟩
    rw [hks, List.map_append]
    exact (FLe.conv [⟨106, some 106, 0, ⟨0, .own, 33, 5, [[.int .i64 (cOf s), .int .i64 5, .int .i64 key, .list 1 [], .list 3 (Y.map EdV.fv)]]⟩⟩, ⟨104, some 56, 0 + 1, ⟨0, .own, 44, 2, Z.map edf ++ [(a, b)].map edf⟩⟩] (by simp) (by simp) rfl (by repeat (first | exact GhOk.nil | refine GhOk.low rfl ?_ | refine GhOk.same rfl ?_ | refine GhOk.bump (Nat.lt_succ_self _) ?_)) (by repeat (first | exact EntsOk.nil | refine EntsOk.old rfl (by decide) (by first | rfl | (simp; done) | (congr 1; omega) | (simp; omega) | (simp [List.take_of_length_le]; done) | (refine congrArg (FV.int .i64) ?_; omega)) ?_)) (by repeat (first | exact SlC.nil | refine SlC.cons (.plain rfl rfl (by first | rfl | (simp; done) | (congr 1; omega) | (simp; omega) | (simp [List.take_of_length_le]; done) | (refine congrArg (FV.int .i64) ?_; omega))) ?_ | refine SlC.cons (.ptr rfl (.head _) rfl) ?_ | refine SlC.cons (.own rfl (.tail _ (.head _)) rfl (by first | rfl | (simp; done) | (congr 1; omega) | (simp; omega) | (simp [List.take_of_length_le]; done) | (refine congrArg (FV.int .i64) ?_; omega))) ?_)))
  have hZ := hlast (by simp at hc; omega)
  subst hZ
  clear hc hlast hks hk
  (repeat (first | refine FW.seq ?_ | refine FW.region ?_ | refine FW.exit ?_ | refine rn_move rfl rfl rfl ?_ | refine rn_lenList rfl rfl (by first | exact List.length_map _ | exact (List.length_map _).symm | exact List.length_replicate | rfl | (simp; done) | omega | (simp; omega)) rfl rfl ?_ | refine rn_eql rfl rfl rfl rfl ?_))
  refine rn_case (fun h => absurd h (by simp; intro e; subst e; simp at hYl; omega)) (fun _ => ?_)
  (repeat (first | refine rn_move rfl rfl ⟨_, _, rfl, rfl, rfl⟩ ?_ | refine rn_lenList rfl rfl (by first | exact List.length_map _ | exact (List.length_map _).symm | exact List.length_replicate | rfl | (simp; done) | omega | (simp; omega)) rfl ⟨_, _, rfl, rfl, rfl⟩ ?_))
  refine RunN.le ?_ (FLe.share 10 rfl rfl (by simp))
  refine rn_callS hC (by repeat (first | exact ArgsR.nil | refine ArgsR.cons (by first | exact ArgR.plain rfl rfl | exact ArgR.own rfl rfl (by decide) (by first | exact (fun _ => rfl) | (intro h; cases h)) (by first | rfl | (simp; done) | (congr 1; omega) | (simp; omega) | (simp [List.take_of_length_le]; done) | (refine congrArg (FV.int .i64) ?_; omega))) ?_)) rfl ⟨_, _, rfl, rfl, rfl⟩ ?_
  (repeat (first | refine RunN.nil ?_ | refine rn_pickF rfl rfl rfl rfl ?_ | refine rn_neq rfl rfl rfl ⟨_, _, rfl, rfl, rfl⟩ ?_ | refine rn_move rfl rfl ⟨_, _, rfl, rfl, rfl⟩ ?_ | refine rn_lenList rfl rfl (by first | exact List.length_map _ | exact (List.length_map _).symm | exact List.length_replicate | rfl | (simp; done) | omega | (simp; omega)) rfl ⟨_, _, rfl, rfl, rfl⟩ ?_))
  refine FW.cond rfl (fun h => absurd h (by simp; omega)) (fun _ => ?_)
  (repeat (first | refine FW.seq ?_ | refine FW.region ?_ | refine FW.block ?_ | refine FW.skip ?_ | refine RunN.nil ?_ | refine rn_assign rfl rfl rfl ?_))
  refine FW.loop (fun i : Nat => ⟨[(6, .ptr 106 0 0 0), (8, .list 3 (Y.map EdV.fv)), (9, .list 3 (X.map EdV.fv)), (12, .int .i64 i)], [(106, ⟨0, .own, 33, 5, [[.int .i64 (cOf s), .int .i64 5, .int .i64 key, .list 1 [], .list 3 (Y.map EdV.fv)]]⟩)]⟩) (fun i => i ≤ Y.length) (fun i => Y.length - i) 0 (Nat.zero_le _) ?_ ?_
  · show FLe _ ⟨[(6, .ptr 106 0 0 0), (8, .list 3 (Y.map EdV.fv)), (9, .list 3 (X.map EdV.fv)), (12, .int .i64 0)], [(106, ⟨0, .own, 33, 5, [[.int .i64 (cOf s), .int .i64 5, .int .i64 key, .list 1 [], .list 3 (Y.map EdV.fv)]]⟩)]⟩
    exact (FLe.conv [⟨106, some 106, 0, ⟨0, .own, 33, 5, [[.int .i64 (cOf s), .int .i64 5, .int .i64 key, .list 1 [], .list 3 (Y.map EdV.fv)]]⟩⟩] (by simp) (by simp) rfl (by repeat (first | exact GhOk.nil | refine GhOk.low rfl ?_ | refine GhOk.same rfl ?_ | refine GhOk.bump (Nat.lt_succ_self _) ?_)) (by repeat (first | exact EntsOk.nil | refine EntsOk.old rfl (by decide) (by first | rfl | (simp; done) | (congr 1; omega) | (simp; omega) | (simp [List.take_of_length_le]; done) | (refine congrArg (FV.int .i64) ?_; omega)) ?_)) (by repeat (first | exact SlC.nil | refine SlC.cons (.plain rfl rfl (by first | rfl | (simp; done) | (congr 1; omega) | (simp; omega) | (simp [List.take_of_length_le]; done) | (refine congrArg (FV.int .i64) ?_; omega))) ?_ | refine SlC.cons (.ptr rfl (.head _) rfl) ?_)))
  intro i hi
  (repeat (first | refine FW.seq ?_ | refine FW.region ?_ | refine RunN.nil ?_ | refine rn_move rfl rfl rfl ?_ | refine rn_lenList rfl rfl (by first | exact List.length_map _ | exact (List.length_map _).symm | exact List.length_replicate | rfl | (simp; done) | omega | (simp; omega)) rfl rfl ?_ | refine rn_lss rfl rfl rfl rfl ?_))
  refine FW.cond rfl (fun hc => ?_) (fun hc => ?_)
  · have hlt : i < Y.length := by simpa using hc
    have hme := hmem i (by omega)
    have hli := hlink i (by omega)
    rw [← hYl] at hli
    have hm2 : (i + 1) % Y.length < Y.length := Nat.mod_lt _ (by omega)
    (repeat (first | refine FW.seq ?_ | refine FW.region ?_ | refine FW.block ?_ | refine FW.skip ?_ | refine RunN.nil ?_ | refine rn_assign rfl rfl rfl ?_))
    refine FW.loop (fun j : Nat => ⟨[(6, .ptr 106 0 0 0), (8, .list 3 (Y.map EdV.fv)), (9, .list 3 (X.map EdV.fv)), (12, .int .i64 i), (13, .bool (edIn (nth Y i) X j)), (14, .int .i64 j)], [(106, ⟨0, .own, 33, 5, [[.int .i64 (cOf s), .int .i64 5, .int .i64 key, .list 1 [], .list 3 (Y.map EdV.fv)]]⟩)]⟩) (fun j => j ≤ X.length) (fun j => X.length - j) 0 (Nat.zero_le _) ?_ ?_
    · show FLe _ ⟨[(6, .ptr 106 0 0 0), (8, .list 3 (Y.map EdV.fv)), (9, .list 3 (X.map EdV.fv)), (12, .int .i64 i), (13, .bool false), (14, .int .i64 0)], [(106, ⟨0, .own, 33, 5, [[.int .i64 (cOf s), .int .i64 5, .int .i64 key, .list 1 [], .list 3 (Y.map EdV.fv)]]⟩)]⟩
      exact (FLe.conv [⟨106, some 106, 0, ⟨0, .own, 33, 5, [[.int .i64 (cOf s), .int .i64 5, .int .i64 key, .list 1 [], .list 3 (Y.map EdV.fv)]]⟩⟩] (by simp) (by simp) rfl (by repeat (first | exact GhOk.nil | refine GhOk.low rfl ?_ | refine GhOk.same rfl ?_ | refine GhOk.bump (Nat.lt_succ_self _) ?_)) (by repeat (first | exact EntsOk.nil | refine EntsOk.old rfl (by decide) (by first | rfl | (simp; done) | (congr 1; omega) | (simp; omega) | (simp [List.take_of_length_le]; done) | (refine congrArg (FV.int .i64) ?_; omega)) ?_)) (by repeat (first | exact SlC.nil | refine SlC.cons (.plain rfl rfl (by first | rfl | (simp; done) | (congr 1; omega) | (simp; omega) | (simp [List.take_of_length_le]; done) | (refine congrArg (FV.int .i64) ?_; omega))) ?_ | refine SlC.cons (.ptr rfl (.head _) rfl) ?_)))
    intro j hj
    (repeat (first | refine FW.seq ?_ | refine FW.region ?_ | refine RunN.nil ?_ | refine rn_move rfl rfl rfl ?_ | refine rn_lenList rfl rfl (by first | exact List.length_map _ | exact (List.length_map _).symm | exact List.length_replicate | rfl | (simp; done) | omega | (simp; omega)) rfl rfl ?_ | refine rn_lss rfl rfl rfl rfl ?_))
    refine FW.cond rfl (fun hc2 => ?_) (fun hc2 => ?_)
    · have hlt2 : j < X.length := by simpa using hc2
      have hsu := edIn_succ (nth Y i) hlt2
      cases hb : edIn (nth Y i) X j with
      | true =>
        rw [hb, Bool.true_or] at hsu
        (repeat (first | refine FW.seq ?_ | refine FW.block ?_ | refine FW.skip ?_ | refine FW.draw ?_ | refine RunD.nil ?_ | refine rd_assign rfl rfl rfl ?_ | refine rd_move rfl rfl rfl ?_ | refine rd_pickT rfl rfl rfl rfl ?_ | refine rd_skip rfl rfl ⟨_, _, rfl, rfl, rfl⟩ ?_))
        refine ⟨by kernel_rfl, ?_⟩
        (repeat (first | refine FW.region ?_ | refine RunN.nil ?_ | refine rn_assign rfl rfl rfl ?_ | refine rn_move rfl rfl rfl ?_ | refine rn_add rfl rfl (by omega) rfl rfl ?_))
        refine ⟨j + 1, by omega, by omega, ?_⟩
        rw [hsu]
        exact (FLe.conv [⟨106, some 106, 0, ⟨0, .own, 33, 5, [[.int .i64 (cOf s), .int .i64 5, .int .i64 key, .list 1 [], .list 3 (Y.map EdV.fv)]]⟩⟩] (by simp) (by simp) rfl (by repeat (first | exact GhOk.nil | refine GhOk.low rfl ?_ | refine GhOk.same rfl ?_ | refine GhOk.bump (Nat.lt_succ_self _) ?_)) (by repeat (first | exact EntsOk.nil | refine EntsOk.old rfl (by decide) (by first | rfl | (simp; done) | (congr 1; omega) | (simp; omega) | (simp [List.take_of_length_le]; done) | (refine congrArg (FV.int .i64) ?_; omega)) ?_)) (by repeat (first | exact SlC.nil | refine SlC.cons (.plain rfl rfl (by first | rfl | (simp; done) | (congr 1; omega) | (simp; omega) | (simp [List.take_of_length_le]; done) | (refine congrArg (FV.int .i64) ?_; omega))) ?_ | refine SlC.cons (.ptr rfl (.head _) rfl) ?_)))
      | false =>
        rw [hb, Bool.false_or] at hsu
        (repeat (first | refine FW.seq ?_ | refine FW.block ?_ | refine FW.skip ?_ | refine FW.draw ?_ | refine rd_move rfl rfl rfl ?_ | refine rd_loadEA rfl rfl rfl (by decide) (by first | omega | (simp; omega) | (simp; done)) (by first | exact getD_map (by omega) | rfl) rfl rfl ⟨_, _, rfl, rfl, rfl⟩ ?_ | refine rd_move rfl rfl ⟨_, _, rfl, rfl, rfl⟩ ?_ | refine rd_indexL rfl rfl (by first | rfl | exact (Int.toNat_of_nonneg (by omega)).symm) rfl rfl rfl (by first | omega | (simp; omega) | (simp; done)) rfl ⟨_, _, rfl, rfl, rfl⟩ ?_))
        refine rd_eqA rfl rfl rfl rfl (eqAgg_ed (nth X j) (nth Y i)) rfl ⟨_, _, rfl, rfl, rfl⟩ ?_
        (repeat (first | refine RunD.nil ?_ | refine rd_assign rfl rfl rfl ?_ | refine rd_pickF rfl rfl rfl rfl ?_))
        refine ⟨by kernel_rfl, ?_⟩
        (repeat (first | refine FW.region ?_ | refine RunN.nil ?_ | refine rn_assign rfl rfl rfl ?_ | refine rn_move rfl rfl rfl ?_ | refine rn_add rfl rfl (by omega) rfl rfl ?_))
        refine ⟨j + 1, by omega, by omega, ?_⟩
        rw [hsu]
        exact (FLe.conv [⟨106, some 106, 0, ⟨0, .own, 33, 5, [[.int .i64 (cOf s), .int .i64 5, .int .i64 key, .list 1 [], .list 3 (Y.map EdV.fv)]]⟩⟩] (by simp) (by simp) rfl (by repeat (first | exact GhOk.nil | refine GhOk.low rfl ?_ | refine GhOk.same rfl ?_ | refine GhOk.bump (Nat.lt_succ_self _) ?_)) (by repeat (first | exact EntsOk.nil | refine EntsOk.old rfl (by decide) (by first | rfl | (simp; done) | (congr 1; omega) | (simp; omega) | (simp [List.take_of_length_le]; done) | (refine congrArg (FV.int .i64) ?_; omega)) ?_)) (by repeat (first | exact SlC.nil | refine SlC.cons (.plain rfl rfl (by first | rfl | (simp; done) | (congr 1; omega) | (simp; omega) | (simp [List.take_of_length_le]; done) | (refine congrArg (FV.int .i64) ?_; omega))) ?_ | refine SlC.cons (.ptr rfl (.head _) rfl) ?_)))
    · obtain rfl : j = X.length := by simp at hc2; omega
      rw [edIn_all hme]
      (repeat (first | refine FW.seq ?_ | refine FW.exit ?_ | refine FW.draw ?_ | refine rd_move rfl rfl rfl ?_ | refine rd_not rfl rfl rfl ?_ | refine rd_fieldE rfl rfl rfl rfl rfl rfl ⟨_, _, rfl, rfl, rfl⟩ ?_ | refine rd_loadE rfl rfl rfl (by first | omega | (simp; omega) | (simp; done)) (by first | exact getD_map (by omega) | rfl) rfl rfl rfl ⟨_, _, rfl, rfl, rfl⟩ ?_ | refine rd_move rfl rfl ⟨_, _, rfl, rfl, rfl⟩ ?_ | refine rd_lenList rfl rfl (by first | exact List.length_map _ | exact (List.length_map _).symm | exact List.length_replicate | rfl | (simp; done) | omega | (simp; omega)) rfl ⟨_, _, rfl, rfl, rfl⟩ ?_ | refine rd_indexL rfl rfl (by first | rfl | exact (Int.toNat_of_nonneg (by omega)).symm) rfl rfl rfl (by first | omega | (simp; omega) | (simp; done)) rfl ⟨_, _, rfl, rfl, rfl⟩ ?_ | refine rd_add rfl rfl (by omega) rfl ⟨_, _, rfl, rfl, rfl⟩ ?_ | refine rd_rem rfl rfl (by omega) rfl ⟨_, _, rfl, rfl, rfl⟩ ?_))
      rw [show ((i : Int) + 1) % (Y.length : Int) = (((i + 1) % Y.length : Nat) : Int) by simp]
      simp only [Int.natAbs_natCast]
      (repeat (first | refine RunD.nil ?_ | refine rd_pickF rfl rfl rfl rfl ?_ | refine rd_loadE rfl rfl rfl (by first | omega | (simp; omega) | (simp; done)) (by first | exact getD_map (by omega) | rfl) rfl rfl rfl ⟨_, _, rfl, rfl, rfl⟩ ?_ | refine rd_neq rfl rfl rfl ⟨_, _, rfl, rfl, rfl⟩ ?_))
      refine ⟨by kernel_rfl, ?_⟩
      skip
      refine FW.cond rfl (fun h => absurd h (by simp [hli])) (fun _ => ?_)
      (repeat (first | refine FW.region ?_ | refine FW.skip ?_ | refine RunN.nil ?_ | refine rn_assign rfl rfl rfl ?_ | refine rn_move rfl rfl rfl ?_ | refine rn_add rfl rfl (by omega) rfl rfl ?_))
      refine ⟨i + 1, by omega, by omega, ?_⟩
      exact (FLe.conv [⟨106, some 106, 0, ⟨0, .own, 33, 5, [[.int .i64 (cOf s), .int .i64 5, .int .i64 key, .list 1 [], .list 3 (Y.map EdV.fv)]]⟩⟩] (by simp) (by simp) rfl (by repeat (first | exact GhOk.nil | refine GhOk.low rfl ?_ | refine GhOk.same rfl ?_ | refine GhOk.bump (Nat.lt_succ_self _) ?_)) (by repeat (first | exact EntsOk.nil | refine EntsOk.old rfl (by decide) (by first | rfl | (simp; done) | (congr 1; omega) | (simp; omega) | (simp [List.take_of_length_le]; done) | (refine congrArg (FV.int .i64) ?_; omega)) ?_)) (by repeat (first | exact SlC.nil | refine SlC.cons (.plain rfl rfl (by first | rfl | (simp; done) | (congr 1; omega) | (simp; omega) | (simp [List.take_of_length_le]; done) | (refine congrArg (FV.int .i64) ?_; omega))) ?_ | refine SlC.cons (.ptr rfl (.head _) rfl) ?_)))
  · (repeat (first | refine FW.seq ?_ | refine FW.region ?_ | refine FW.exit ?_ | refine rn_move rfl rfl rfl ?_ | refine rn_fieldP rfl rfl rfl rfl rfl rfl (by decide) rfl rfl ?_ | refine rn_loadP rfl rfl rfl rfl rfl (by first | omega | (simp; omega) | (simp; done)) (by first | exact getD_map (by omega) | rfl) rfl rfl rfl rfl ?_ | refine rn_lenList rfl rfl (by first | exact List.length_map _ | exact (List.length_map _).symm | exact List.length_replicate | rfl | (simp; done) | omega | (simp; omega)) rfl rfl ?_ | refine rn_eql rfl rfl rfl rfl ?_))
    refine rn_call lives22_spec (by repeat (first | exact ArgsR.nil)) rfl ⟨_, _, rfl, rfl, rfl⟩ ?_
    (repeat (first | refine RunN.nil ?_ | refine rn_assign rfl rfl rfl ?_ | refine rn_pickT rfl rfl rfl rfl ?_))
    exact FW.ret ⟨.inl rfl, ret_flat rfl rfl rfl rfl⟩
end Go.Proofs.Ytfegkbmnclhljaa
