/-
  simprooflaw20.HistoryParts answers true for every input (walked on plain values).
-/
import Derived.Test.YtflkbehbenlhaaaZF
import Derived.Test.YtflkbehbenlhaaaZG
namespace Go.Proofs.Ytflkbehbenlhaaa
set_option linter.unusedVariables false
open Go.RowKit

def sumTo (n : Int → Nat) (K : List Int) (i : Nat) : Nat := ((K.take i).map n).sum
theorem sumTo_succ (n : Int → Nat) (K : List Int) (i : Nat) (h : i < K.length) : sumTo n K (i + 1) = sumTo n K i + n (nth K i) := by
  unfold sumTo
  rw [List.take_succ_eq_append_getElem h, List.map_append, List.sum_append, nth_eq h]
  simp
theorem sumTo_le (n : Int → Nat) (b : Nat) (hn : ∀ k, n k ≤ b) (K : List Int) : ∀ i, i ≤ K.length → sumTo n K i ≤ i * b
  | 0, _ => by simp [sumTo]
  | i + 1, h => by
    rw [sumTo_succ n K i (by omega), Nat.add_mul]
    have := sumTo_le n b hn K i (by omega)
    have := hn (nth K i)
    omega
set_option maxHeartbeats 4000000 in
set_option maxRecDepth 100000 in
theorem historyParts_spec (l : List Int) (which : Int) (hl : ∀ x ∈ l, I64 x) (hlen : l.length ≤ 9223372036854775807) (iw : I64 which) :
    Spec Try.prog 4 [.list 1 (l.map intf), .int .i64 which] .fr (.bool true) := by
  obtain ⟨f1, f2, f3, f4⟩ := mixed_fine l which
  obtain ⟨g1, g2⟩ := mixed_wfh l which
  obtain ⟨h, hh⟩ : ∃ h, mixed l which = h := ⟨_, rfl⟩
  have hmix := mixed_spec l which hl hlen iw
  rw [hh] at f1 f2 f3 f4 hmix g1 g2
  have hK := hKeys_spec h (by omega)
  have hKa := hKeys_asc h
  have hKm := hKeys_mem h
  have hKl : (hKeys h).length ≤ 12 := by rw [hKeys_eq]; have := rKeysTo_len h h.length; omega
  obtain ⟨K, hKe⟩ : ∃ K, hKeys h = K := ⟨_, rfl⟩
  rw [hKe] at hK hKa hKm hKl
  obtain ⟨nk, hnk⟩ : ∃ nk : Int → Nat, ∀ k, nk k = (whereTo (byKey k) h h.length).length := ⟨_, fun _ => rfl⟩
  obtain ⟨np, hnp⟩ : ∃ np : Int → Nat, ∀ k, np k = (whereTo (byProc k) h h.length).length := ⟨_, fun _ => rfl⟩
  have hnk12 : ∀ k, nk k ≤ 12 := fun k => by rw [hnk]; have := whereTo_len (byKey k) h h.length; omega
  have hnp12 : ∀ k, np k ≤ 12 := fun k => by rw [hnp]; have := whereTo_len (byProc k) h h.length; omega
  have sumK : sumTo nk K K.length = h.length := by
    unfold sumTo
    rw [List.take_length, ← parts_sum (fun o => o.key) h K (hKa.imp (fun h => by omega)) (fun o ho => (hKm _).2 ⟨o, ho, rfl⟩)]
    congr 1
    refine List.map_congr_left fun k _ => ?_
    rw [hnk, where_count]; rfl
  have sumP : sumTo np [0, 1, 2, 3] 4 = h.length := by
    unfold sumTo
    rw [show ([0, 1, 2, 3] : List Int).take 4 = [0, 1, 2, 3] from rfl, ← parts_sum (fun o => o.p) h [0, 1, 2, 3] (by decide) (fun o ho => by have := g2 o ho; simp; omega)]
    congr 1
    refine List.map_congr_left fun k _ => ?_
    rw [hnp, where_count]; rfl
  unfold I64 at *
  refine Spec.of_body (c := (cxOf Try.prog tyAt_ok mixed_ok 139)) ⟨Try.func4, rfl, Try.ntmps4, by kernel_rfl⟩ (by simp [FV.hand]) (by exact Nat.le_of_ble_eq_true rfl) rfl ?_
  change FW _ _ _ ⟨[(0, .list 1 (l.map intf)), (1, .int .i64 which)], []⟩
  (repeat (first | refine FW.seq ?_ | refine FW.region ?_ | refine RunN.nil ?_ | refine rn_assign rfl rfl rfl ?_ | refine rn_move rfl rfl rfl ?_))
  refine rn_callO hmix (by repeat (first | exact ArgsR.nil | refine ArgsR.cons (by first | exact ArgR.plain rfl rfl) ?_)) (List.length_map _) rfl rfl rfl ?_
  (repeat (first | refine FW.seq ?_ | refine FW.region ?_ | refine RunN.nil ?_ | refine rn_assign rfl rfl rfl ?_ | refine rn_move rfl rfl rfl ?_))
  refine rn_callO hK (by repeat (first | exact ArgsR.nil | refine ArgsR.cons (by first | exact ArgR.own rfl rfl (by decide) (by first | exact (fun _ => rfl) | (intro h; cases h)) (by first | rfl | (simp; done) | (congr 1; omega) | (simp; omega) | (simp [List.take_of_length_le]; done) | (refine congrArg (FV.int .i64) ?_; omega))) ?_)) (List.length_map _) rfl rfl rfl ?_
  (repeat (first | refine FW.seq ?_ | refine FW.region ?_ | refine FW.block ?_ | refine RunN.nil ?_ | refine rn_assign rfl rfl rfl ?_))
  refine FW.loop (fun i : Nat => ⟨[(5, .list 8 (h.map OpV.fv)), (6, .list 1 (K.map intf)), (7, .int .i64 (sumTo nk K i : Nat)), (8, .int .i64 i)], []⟩) (fun i => i ≤ K.length) (fun i => K.length - i) 0 (Nat.zero_le _)
    ((FLe.share 5 rfl rfl (by simp)).trans ((FLe.share 6 rfl rfl (by simp)).trans (FLe.conv [] (by simp) (by simp) rfl (by repeat (first | exact GhOk.nil | refine GhOk.low rfl ?_ | refine GhOk.same rfl ?_ | refine GhOk.bump (Nat.lt_succ_self _) ?_)) (by repeat (first | exact EntsOk.nil)) (by repeat (first | exact SlC.nil | refine SlC.cons (.plain rfl rfl (by first | rfl | (simp; done) | (congr 1; omega) | (simp; omega) | (simp [List.take_of_length_le]; done) | (refine congrArg (FV.int .i64) ?_; omega))) ?_))))) ?_
  intro i hi
  have hsl := sumTo_le nk 12 hnk12 K i hi
  (repeat (first | refine FW.seq ?_ | refine FW.region ?_ | refine RunN.nil ?_ | refine rn_move rfl rfl rfl ?_ | refine rn_lenList rfl rfl (by first | exact List.length_map _ | exact (List.length_map _).symm | exact List.length_replicate | rfl | (simp; done) | omega | (simp; omega)) rfl rfl ?_ | refine rn_lss rfl rfl rfl rfl ?_))
  refine FW.cond rfl (fun hc => ?_) (fun hc => ?_)
  · have hlt : i < K.length := by simpa using hc
    clear hc
    have hss := sumTo_succ nk K i hlt
    obtain ⟨key, hkey⟩ : ∃ key, nth K i = key := ⟨_, rfl⟩
    rw [hkey] at hss
    have hwn := where_nth h (byKey key) h.length (Nat.le_refl _)
    have how := only_where h (byKey key)
    have hwl := hnk12 key
    rw [hnk] at hwl
    rw [hnk] at hss
    have hof := ofKey_spec h key (by omega)
    have hne : (whereTo (byKey key) h h.length) ≠ [] := fun e => by
      obtain ⟨o, ho, hok⟩ := (hKm key).1 (by rw [← hkey]; exact nth_mem hlt)
      have hc := where_count h (byKey key)
      rw [e, List.length_nil] at hc
      have := List.countP_eq_zero.1 hc.symm o ho
      exact this (by unfold byKey; simp [hok])
    obtain ⟨w, hw⟩ : ∃ w, whereTo (byKey key) h h.length = w := ⟨_, rfl⟩
    rw [hw] at hwn how hwl hss hof hne
    have hon := only20_spec h w (by omega) (by omega)
    rw [how] at hon
    have hch := hCheck_spec (h.filter (byKey key)) (fun o ho => f2 o ((List.mem_filter.1 ho).1)) (by have := List.length_filter_le (byKey key) h; omega)
    rw [(g1.filter (byKey key)).check] at hch
    (repeat (first | refine FW.seq ?_ | refine FW.region ?_ | refine FW.block ?_ | refine FW.skip ?_ | refine rn_move rfl rfl rfl ?_ | refine rn_indexL rfl rfl (by first | rfl | exact (Int.toNat_of_nonneg (by omega)).symm) rfl rfl rfl (by first | omega | (simp; omega) | (simp; done)) rfl rfl ?_ | refine rn_loadE rfl rfl rfl (by first | omega | (simp; omega) | (simp; done)) (by first | exact getD_map (by omega) | rfl) rfl rfl rfl rfl ?_))
    rw [hkey]
    refine rn_callO hof (by repeat (first | exact ArgsR.nil | refine ArgsR.cons (by first | exact ArgR.plain rfl rfl) ?_)) (List.length_map _) rfl rfl rfl ?_
    (repeat (first | refine FW.seq ?_ | refine FW.region ?_ | refine RunN.nil ?_ | refine rn_assign rfl rfl rfl ?_ | refine rn_move rfl rfl rfl ?_ | refine rn_lenOwn rfl rfl rfl (by decide) rfl rfl ?_ | refine rn_add rfl rfl (by omega) rfl rfl ?_))
    refine FW.le ?_ (FLe.share 9 rfl rfl (by simp))
    have hasc : 0 < i → nth K (i - 1) < key := fun h0 => by
      rw [← hkey, nth_eq (show i - 1 < K.length by omega), nth_eq hlt]
      exact List.pairwise_iff_getElem.1 hKa (i - 1) i (by omega) hlt (by omega)
    refine FW.join (fun _ : Unit => ⟨[(5, .list 8 (h.map OpV.fv)), (6, .list 1 (K.map intf)), (7, .int .i64 (sumTo nk K (i + 1) : Nat)), (8, .int .i64 i), (9, .list 1 (w.map intf)), (60, .bool false)], []⟩) (fun _ => True) ?_ (fun _ _ => ?_)
    · (repeat (first | refine FW.draw ?_ | refine rd_move rfl rfl rfl ?_ | refine rd_lenList rfl rfl (by first | exact List.length_map _ | exact (List.length_map _).symm | exact List.length_replicate | rfl | (simp; done) | omega | (simp; omega)) rfl rfl ?_ | refine rd_eql rfl rfl rfl rfl ?_))
      refine rd_case (fun hc => ?_) (fun hc => ?_)
      · exfalso
        have : w.length = 0 := by simpa using hc
        exact hne (List.length_eq_zero_iff.1 this)
      · (repeat (first | refine rd_move rfl rfl ⟨_, _, rfl, rfl, rfl⟩ ?_ | refine rd_gtr rfl rfl rfl ⟨_, _, rfl, rfl, rfl⟩ ?_))
        refine rd_case (fun hc => ?_) (fun hc => ?_)
        · have h0 : 0 < i := by simpa using hc
          have ha := hasc h0
          (repeat (first | refine rd_move rfl rfl rfl ?_ | refine rd_pickF rfl rfl rfl rfl ?_ | refine rd_move rfl rfl ⟨_, _, rfl, rfl, rfl⟩ ?_ | refine rd_sub rfl rfl (by omega) rfl ⟨_, _, rfl, rfl, rfl⟩ ?_ | refine rd_indexL rfl rfl (by first | rfl | exact (Int.toNat_of_nonneg (by omega)).symm) rfl rfl rfl (by first | omega | (simp; omega) | (simp; done)) rfl ⟨_, _, rfl, rfl, rfl⟩ ?_ | refine rd_loadE rfl rfl rfl (by first | omega | (simp; omega) | (simp; done)) (by first | exact getD_map (by omega) | rfl) rfl rfl rfl ⟨_, _, rfl, rfl, rfl⟩ ?_ | refine rd_geq rfl rfl rfl ⟨_, _, rfl, rfl, rfl⟩ ?_ | refine rd_pickT rfl rfl rfl ⟨_, _, rfl, rfl, rfl⟩ ?_))
          refine rd_case (fun hc => ?_) (fun hc => ?_)
          · exfalso
            rw [show ((i : Int) - 1).toNat = i - 1 by omega, hkey] at hc
            simp at hc; omega
          · (repeat (first | refine rd_move rfl rfl ⟨_, _, rfl, rfl, rfl⟩ ?_))
            refine rd_callO hon (by repeat (first | exact ArgsR.nil | refine ArgsR.cons (by first | exact ArgR.plain rfl rfl) ?_)) (List.length_map _) rfl rfl ⟨_, _, rfl, rfl, rfl⟩ ?_
            skip
            refine rd_call hch (by repeat (first | exact ArgsR.nil | refine ArgsR.cons (by first | exact ArgR.own rfl rfl (by decide) (by first | exact (fun _ => rfl) | (intro h; cases h)) (by first | rfl | (simp; done) | (congr 1; omega) | (simp; omega) | (simp [List.take_of_length_le]; done) | (refine congrArg (FV.int .i64) ?_; omega))) ?_)) rfl ⟨_, _, rfl, rfl, rfl⟩ ?_
            (repeat (first | refine RunD.nil ?_ | refine rd_pickF rfl rfl rfl rfl ?_ | refine rd_neq rfl rfl rfl ⟨_, _, rfl, rfl, rfl⟩ ?_))
            refine ⟨by kernel_rfl, rfl, (), trivial, ?_⟩
            rw [hss]
            exact (FLe.conv [] (by simp) (by simp) rfl (by repeat (first | exact GhOk.nil | refine GhOk.low rfl ?_ | refine GhOk.same rfl ?_ | refine GhOk.bump (Nat.lt_succ_self _) ?_)) (by repeat (first | exact EntsOk.nil)) (by repeat (first | exact SlC.nil | refine SlC.cons (.plain rfl rfl (by first | rfl | (simp; done) | (congr 1; omega) | (simp; omega) | (simp [List.take_of_length_le]; done) | (refine congrArg (FV.int .i64) ?_; omega))) ?_)))
        · (repeat (first | refine rd_move rfl rfl rfl ?_ | refine rd_pickF rfl rfl rfl rfl ?_ | refine rd_move rfl rfl ⟨_, _, rfl, rfl, rfl⟩ ?_ | refine rd_pickF rfl rfl rfl ⟨_, _, rfl, rfl, rfl⟩ ?_ | refine rd_skip rfl rfl ⟨_, _, rfl, rfl, rfl⟩ ?_))
          refine rd_callO hon (by repeat (first | exact ArgsR.nil | refine ArgsR.cons (by first | exact ArgR.plain rfl rfl) ?_)) (List.length_map _) rfl rfl ⟨_, _, rfl, rfl, rfl⟩ ?_
          skip
          refine rd_call hch (by repeat (first | exact ArgsR.nil | refine ArgsR.cons (by first | exact ArgR.own rfl rfl (by decide) (by first | exact (fun _ => rfl) | (intro h; cases h)) (by first | rfl | (simp; done) | (congr 1; omega) | (simp; omega) | (simp [List.take_of_length_le]; done) | (refine congrArg (FV.int .i64) ?_; omega))) ?_)) rfl ⟨_, _, rfl, rfl, rfl⟩ ?_
          (repeat (first | refine RunD.nil ?_ | refine rd_pickF rfl rfl rfl rfl ?_ | refine rd_neq rfl rfl rfl ⟨_, _, rfl, rfl, rfl⟩ ?_))
          refine ⟨by kernel_rfl, rfl, (), trivial, ?_⟩
          rw [hss]
          exact (FLe.conv [] (by simp) (by simp) rfl (by repeat (first | exact GhOk.nil | refine GhOk.low rfl ?_ | refine GhOk.same rfl ?_ | refine GhOk.bump (Nat.lt_succ_self _) ?_)) (by repeat (first | exact EntsOk.nil)) (by repeat (first | exact SlC.nil | refine SlC.cons (.plain rfl rfl (by first | rfl | (simp; done) | (congr 1; omega) | (simp; omega) | (simp [List.take_of_length_le]; done) | (refine congrArg (FV.int .i64) ?_; omega))) ?_)))
    · (repeat (first | refine FW.seq ?_ | refine FW.region ?_ | refine FW.block ?_ | refine FW.skip ?_ | refine FW.condF rfl ?_ | refine RunN.nil ?_ | refine rn_assign rfl rfl rfl ?_))
      refine FW.loop (fun k : Nat => ⟨[(5, .list 8 (h.map OpV.fv)), (6, .list 1 (K.map intf)), (7, .int .i64 (sumTo nk K (i + 1) : Nat)), (8, .int .i64 i), (9, .list 1 (w.map intf)), (10, .int .i64 k)], []⟩) (fun k => k ≤ w.length) (fun k => w.length - k) 0 (Nat.zero_le _) (FLe.conv [] (by simp) (by simp) rfl (by repeat (first | exact GhOk.nil | refine GhOk.low rfl ?_ | refine GhOk.same rfl ?_ | refine GhOk.bump (Nat.lt_succ_self _) ?_)) (by repeat (first | exact EntsOk.nil)) (by repeat (first | exact SlC.nil | refine SlC.cons (.plain rfl rfl (by first | rfl | (simp; done) | (congr 1; omega) | (simp; omega) | (simp [List.take_of_length_le]; done) | (refine congrArg (FV.int .i64) ?_; omega))) ?_))) ?_
      intro k hk
      (repeat (first | refine FW.seq ?_ | refine FW.region ?_ | refine RunN.nil ?_ | refine rn_move rfl rfl rfl ?_ | refine rn_lenList rfl rfl (by first | exact List.length_map _ | exact (List.length_map _).symm | exact List.length_replicate | rfl | (simp; done) | omega | (simp; omega)) rfl rfl ?_ | refine rn_lss rfl rfl rfl rfl ?_))
      refine FW.cond rfl (fun hc => ?_) (fun hc => ?_)
      · have hkl : k < w.length := by simpa using hc
        clear hc
        obtain ⟨j, hj, hjl, hjk⟩ := hwn.2 (nth w k) (nth_mem hkl)
        have hasw : 0 < k → nth w (k - 1) < nth w k := fun h0 => by
          rw [nth_eq (show k - 1 < w.length by omega), nth_eq hkl]
          exact List.pairwise_iff_getElem.1 hwn.1 (k - 1) k (by omega) hkl (by omega)
        have hjk' : (nth h j).key = key := by unfold byKey at hjk; simpa using hjk
        have hjk2 : (nth h (nth w k).toNat).key = key := by rw [hj, Int.toNat_natCast]; exact hjk'
        (repeat (first | refine FW.seq ?_ | refine FW.block ?_ | refine FW.skip ?_))
        refine FW.join (fun _ : Unit => ⟨[(5, .list 8 (h.map OpV.fv)), (6, .list 1 (K.map intf)), (7, .int .i64 (sumTo nk K (i + 1) : Nat)), (8, .int .i64 i), (9, .list 1 (w.map intf)), (10, .int .i64 k), (96, .bool false)], []⟩) (fun _ => True) ?_ (fun _ _ => ?_)
        · (repeat (first | refine FW.draw ?_ | refine rd_move rfl rfl rfl ?_ | refine rd_lss rfl rfl rfl rfl ?_ | refine rd_indexL rfl rfl (by first | rfl | exact (Int.toNat_of_nonneg (by omega)).symm) rfl rfl rfl (by first | omega | (simp; omega) | (simp; done)) rfl rfl ?_ | refine rd_loadE rfl rfl rfl (by first | omega | (simp; omega) | (simp; done)) (by first | exact getD_map (by omega) | rfl) rfl rfl rfl rfl ?_))
          refine rd_case (fun hc => ?_) (fun hc => ?_)
          · exfalso; rw [hj] at hc; simp at hc; omega
          · (repeat (first | refine rd_move rfl rfl rfl ?_ | refine rd_pickF rfl rfl rfl rfl ?_ | refine rd_move rfl rfl ⟨_, _, rfl, rfl, rfl⟩ ?_ | refine rd_indexL rfl rfl (by first | rfl | exact (Int.toNat_of_nonneg (by omega)).symm) rfl rfl rfl (by first | omega | (simp; omega) | (simp; done)) rfl ⟨_, _, rfl, rfl, rfl⟩ ?_ | refine rd_loadE rfl rfl rfl (by first | omega | (simp; omega) | (simp; done)) (by first | exact getD_map (by omega) | rfl) rfl rfl rfl ⟨_, _, rfl, rfl, rfl⟩ ?_ | refine rd_geq rfl rfl rfl ⟨_, _, rfl, rfl, rfl⟩ ?_ | refine rd_lenList rfl rfl (by first | exact List.length_map _ | exact (List.length_map _).symm | exact List.length_replicate | rfl | (simp; done) | omega | (simp; omega)) rfl ⟨_, _, rfl, rfl, rfl⟩ ?_))
            refine rd_case (fun hc => ?_) (fun hc => ?_)
            · exfalso; rw [hj] at hc; simp at hc; omega
            · (repeat (first | refine rd_move rfl rfl ⟨_, _, rfl, rfl, rfl⟩ ?_ | refine rd_gtr rfl rfl rfl ⟨_, _, rfl, rfl, rfl⟩ ?_))
              refine rd_case (fun hc => ?_) (fun hc => ?_)
              · have h0 : 0 < k := by simpa using hc
                have ha := hasw h0
                (repeat (first | refine RunD.nil ?_ | refine rd_pickF rfl rfl rfl rfl ?_ | refine rd_move rfl rfl ⟨_, _, rfl, rfl, rfl⟩ ?_ | refine rd_sub rfl rfl (by omega) rfl ⟨_, _, rfl, rfl, rfl⟩ ?_ | refine rd_indexL rfl rfl (by first | rfl | exact (Int.toNat_of_nonneg (by omega)).symm) rfl rfl rfl (by first | omega | (simp; omega) | (simp; done)) rfl ⟨_, _, rfl, rfl, rfl⟩ ?_ | refine rd_loadE rfl rfl rfl (by first | omega | (simp; omega) | (simp; done)) (by first | exact getD_map (by omega) | rfl) rfl rfl rfl ⟨_, _, rfl, rfl, rfl⟩ ?_ | refine rd_geq rfl rfl rfl ⟨_, _, rfl, rfl, rfl⟩ ?_ | refine rd_pickT rfl rfl rfl ⟨_, _, rfl, rfl, rfl⟩ ?_))
                refine ⟨by kernel_rfl, rfl, (), trivial, ?_⟩
                rw [show decide (nth w ((k : Int) - 1).toNat ≥ nth w k) = false by rw [show ((k : Int) - 1).toNat = k - 1 by omega]; simp; omega]
                exact (FLe.conv [] (by simp) (by simp) rfl (by repeat (first | exact GhOk.nil | refine GhOk.low rfl ?_ | refine GhOk.same rfl ?_ | refine GhOk.bump (Nat.lt_succ_self _) ?_)) (by repeat (first | exact EntsOk.nil)) (by repeat (first | exact SlC.nil | refine SlC.cons (.plain rfl rfl (by first | rfl | (simp; done) | (congr 1; omega) | (simp; omega) | (simp [List.take_of_length_le]; done) | (refine congrArg (FV.int .i64) ?_; omega))) ?_)))
              · (repeat (first | refine RunD.nil ?_ | refine rd_pickF rfl rfl rfl rfl ?_ | refine rd_pickF rfl rfl rfl ⟨_, _, rfl, rfl, rfl⟩ ?_ | refine rd_skip rfl rfl ⟨_, _, rfl, rfl, rfl⟩ ?_))
                exact ⟨by kernel_rfl, rfl, (), trivial, (FLe.conv [] (by simp) (by simp) rfl (by repeat (first | exact GhOk.nil | refine GhOk.low rfl ?_ | refine GhOk.same rfl ?_ | refine GhOk.bump (Nat.lt_succ_self _) ?_)) (by repeat (first | exact EntsOk.nil)) (by repeat (first | exact SlC.nil | refine SlC.cons (.plain rfl rfl (by first | rfl | (simp; done) | (congr 1; omega) | (simp; omega) | (simp [List.take_of_length_le]; done) | (refine congrArg (FV.int .i64) ?_; omega))) ?_)))⟩
        · (repeat (first | refine FW.seq ?_ | refine FW.skip ?_ | refine FW.condF rfl ?_))
          (repeat (first | refine FW.draw ?_ | refine RunD.nil ?_ | refine rd_move rfl rfl rfl ?_ | refine rd_indexL rfl rfl (by first | rfl | exact (Int.toNat_of_nonneg (by omega)).symm) rfl rfl rfl (by first | omega | (simp; omega) | (simp; done)) rfl rfl ?_ | refine rd_loadE rfl rfl rfl (by first | omega | (simp; omega) | (simp; done)) (by first | exact getD_map (by omega) | rfl) rfl rfl rfl rfl ?_ | refine rd_neq rfl rfl rfl rfl ?_ | refine rd_fieldE rfl rfl rfl rfl rfl rfl rfl ?_))
          refine ⟨by kernel_rfl, ?_⟩
          refine FW.cond rfl (fun hc => ?_) (fun hc => ?_)
          · exfalso
            rw [hjk2, hkey] at hc
            simp at hc
          · (repeat (first | refine FW.region ?_ | refine FW.skip ?_ | refine RunN.nil ?_ | refine rn_assign rfl rfl rfl ?_ | refine rn_move rfl rfl rfl ?_ | refine rn_add rfl rfl (by omega) rfl rfl ?_))
            exact ⟨k + 1, by omega, by omega, (FLe.conv [] (by simp) (by simp) rfl (by repeat (first | exact GhOk.nil | refine GhOk.low rfl ?_ | refine GhOk.same rfl ?_ | refine GhOk.bump (Nat.lt_succ_self _) ?_)) (by repeat (first | exact EntsOk.nil)) (by repeat (first | exact SlC.nil | refine SlC.cons (.plain rfl rfl (by first | rfl | (simp; done) | (congr 1; omega) | (simp; omega) | (simp [List.take_of_length_le]; done) | (refine congrArg (FV.int .i64) ?_; omega))) ?_)))⟩
      · (repeat (first | refine FW.region ?_ | refine FW.exit ?_ | refine RunN.nil ?_ | refine rn_assign rfl rfl rfl ?_ | refine rn_move rfl rfl rfl ?_ | refine rn_add rfl rfl (by omega) rfl rfl ?_))
        refine ⟨i + 1, by omega, by omega, ?_⟩
        exact (FLe.conv [] (by simp) (by simp) rfl (by repeat (first | exact GhOk.nil | refine GhOk.low rfl ?_ | refine GhOk.same rfl ?_ | refine GhOk.bump (Nat.lt_succ_self _) ?_)) (by repeat (first | exact EntsOk.nil)) (by repeat (first | exact SlC.nil | refine SlC.cons (.plain rfl rfl (by first | rfl | (simp; done) | (congr 1; omega) | (simp; omega) | (simp [List.take_of_length_le]; done) | (refine congrArg (FV.int .i64) ?_; omega))) ?_)))
  · have : i = K.length := by simp at hc; omega
    subst this
    rw [sumK]
    (repeat (first | refine FW.seq ?_ | refine FW.region ?_ | refine FW.block ?_ | refine FW.exit ?_ | refine RunN.nil ?_ | refine rn_assign rfl rfl rfl ?_))
    refine FW.loop (fun p : Nat => ⟨[(5, .list 8 (h.map OpV.fv)), (7, .int .i64 h.length), (11, .int .i64 (sumTo np [0, 1, 2, 3] p : Nat)), (12, .int .i64 p)], []⟩) (fun p => p ≤ 4) (fun p => 4 - p) 0 (Nat.zero_le _) (FLe.conv [] (by simp) (by simp) rfl (by repeat (first | exact GhOk.nil | refine GhOk.low rfl ?_ | refine GhOk.same rfl ?_ | refine GhOk.bump (Nat.lt_succ_self _) ?_)) (by repeat (first | exact EntsOk.nil)) (by repeat (first | exact SlC.nil | refine SlC.cons (.plain rfl rfl (by first | rfl | (simp; done) | (congr 1; omega) | (simp; omega) | (simp [List.take_of_length_le]; done) | (refine congrArg (FV.int .i64) ?_; omega))) ?_))) ?_
    intro p hp
    have hpl := sumTo_le np 12 hnp12 [0, 1, 2, 3] p hp
    (repeat (first | refine FW.seq ?_ | refine FW.region ?_ | refine RunN.nil ?_ | refine rn_move rfl rfl rfl ?_ | refine rn_lss rfl rfl rfl rfl ?_))
    refine FW.cond rfl (fun hc => ?_) (fun hc => ?_)
    · have hp4 : p < 4 := by simp at hc; omega
      clear hc
      have hss := sumTo_succ np [0, 1, 2, 3] p hp4
      have hpn : nth [0, 1, 2, 3] p = (p : Int) := by match p, hp4 with | 0, _ => rfl | 1, _ => rfl | 2, _ => rfl | 3, _ => rfl
      rw [hpn, hnp] at hss
      have how := only_where h (byProc p)
      have hwl := hnp12 p
      rw [hnp] at hwl
      have hof := ofProcess_spec h p (by omega)
      obtain ⟨w, hw⟩ : ∃ w, whereTo (byProc p) h h.length = w := ⟨_, rfl⟩
      rw [hw] at how hwl hss hof
      have hon := only20_spec h w (by omega) (by omega)
      rw [how] at hon
      have hch := hCheck_spec (h.filter (byProc p)) (fun o ho => f2 o (List.mem_filter.1 ho).1) (by have := List.length_filter_le (byProc p) h; omega)
      rw [(g1.filter (byProc p)).check] at hch
      (repeat (first | refine FW.seq ?_ | refine FW.region ?_ | refine FW.block ?_ | refine FW.skip ?_ | refine rn_move rfl rfl rfl ?_))
      refine rn_callO hof (by repeat (first | exact ArgsR.nil | refine ArgsR.cons (by first | exact ArgR.plain rfl rfl) ?_)) (List.length_map _) rfl rfl rfl ?_
      (repeat (first | refine FW.seq ?_ | refine FW.region ?_ | refine RunN.nil ?_ | refine rn_assign rfl rfl rfl ?_ | refine rn_move rfl rfl rfl ?_ | refine rn_lenOwn rfl rfl rfl (by decide) rfl rfl ?_ | refine rn_add rfl rfl (by omega) rfl rfl ?_))
      refine rn_callO hon (by repeat (first | exact ArgsR.nil | refine ArgsR.cons (by first | exact ArgR.plain rfl rfl | exact ArgR.own rfl rfl (by decide) (by first | exact (fun _ => rfl) | (intro h; cases h)) (by first | rfl | (simp; done) | (congr 1; omega) | (simp; omega) | (simp [List.take_of_length_le]; done) | (refine congrArg (FV.int .i64) ?_; omega))) ?_)) (List.length_map _) rfl rfl rfl ?_
      skip
      refine rn_call hch (by repeat (first | exact ArgsR.nil | refine ArgsR.cons (by first | exact ArgR.own rfl rfl (by decide) (by first | exact (fun _ => rfl) | (intro h; cases h)) (by first | rfl | (simp; done) | (congr 1; omega) | (simp; omega) | (simp [List.take_of_length_le]; done) | (refine congrArg (FV.int .i64) ?_; omega))) ?_)) rfl rfl ?_
      (repeat (first | refine FW.region ?_ | refine FW.skip ?_ | refine FW.condF rfl ?_ | refine RunN.nil ?_ | refine rn_assign rfl rfl rfl ?_ | refine rn_move rfl rfl rfl ?_ | refine rn_add rfl rfl (by omega) rfl rfl ?_ | refine rn_neq rfl rfl rfl rfl ?_))
      refine ⟨p + 1, by omega, by omega, ?_⟩
      rw [hss]
      exact (FLe.conv [] (by simp) (by simp) rfl (by repeat (first | exact GhOk.nil | refine GhOk.low rfl ?_ | refine GhOk.same rfl ?_ | refine GhOk.bump (Nat.lt_succ_self _) ?_)) (by repeat (first | exact EntsOk.nil)) (by repeat (first | exact SlC.nil | refine SlC.cons (.plain rfl rfl (by first | rfl | (simp; done) | (congr 1; omega) | (simp; omega) | (simp [List.take_of_length_le]; done) | (refine congrArg (FV.int .i64) ?_; omega))) ?_)))
    · have : p = 4 := by simp at hc; omega
      subst this
      rw [sumP]
      (repeat (first | refine FW.seq ?_ | refine FW.region ?_ | refine FW.exit ?_ | refine rn_move rfl rfl rfl ?_ | refine rn_lenList rfl rfl (by first | exact List.length_map _ | exact (List.length_map _).symm | exact List.length_replicate | rfl | (simp; done) | omega | (simp; omega)) rfl rfl ?_ | refine rn_eql rfl rfl rfl rfl ?_))
      rw [decide_eq_true (rfl : (h.length : Int) = h.length)]
      (repeat (first | refine rn_move rfl rfl rfl ?_ | refine rn_pickT rfl rfl rfl rfl ?_ | refine rn_move rfl rfl ⟨_, _, rfl, rfl, rfl⟩ ?_ | refine rn_lenList rfl rfl (by first | exact List.length_map _ | exact (List.length_map _).symm | exact List.length_replicate | rfl | (simp; done) | omega | (simp; omega)) rfl ⟨_, _, rfl, rfl, rfl⟩ ?_ | refine rn_eql rfl rfl rfl ⟨_, _, rfl, rfl, rfl⟩ ?_))
      rw [decide_eq_true (rfl : (h.length : Int) = h.length)]
      skip
      refine rn_call lives20_spec (by repeat (first | exact ArgsR.nil)) rfl ⟨_, _, rfl, rfl, rfl⟩ ?_
      (repeat (first | refine RunN.nil ?_ | refine rn_assign rfl rfl rfl ?_ | refine rn_pickT rfl rfl rfl rfl ?_))
      exact FW.ret ⟨.inl rfl, .flat (.cons (.tmp 4 rfl rfl) .nil) rfl rfl⟩
end Go.Proofs.Ytflkbehbenlhaaa
