/-
  simprooflaw24.OnceKeys answers true for every input (walked on plain values).
-/
import Derived.Test.YtflkbehbenlhaaaZI
import Derived.Test.YtflkbehbenlhaaaZG
namespace Go.Proofs.Ytflkbehbenlhaaa
set_option linter.unusedVariables false
open Go.RowKit

def sumTo (n : Int → Nat) (K : List Int) (i : Nat) : Nat := ((K.take i).map n).sum
theorem sumTo_succ (n : Int → Nat) (K : List Int) (i : Nat) (h : i < K.length) : sumTo n K (i + 1) = sumTo n K i + n (nth K i) := by
  unfold sumTo
  rw [List.take_succ_eq_append_getElem h, List.map_append, List.sum_append, nth_eq h]
  simp
theorem sumTo_le (n : Int → Nat) (b : Nat) (hn : ∀ k, n k ≤ b) (K : List Int) : ∀ i, i ≤ K.length → sumTo n K i ≤ i * b
  | 0, _ => by simp [sumTo]
  | i + 1, h => by
    rw [sumTo_succ n K i (by omega), Nat.add_mul]
    have := sumTo_le n b hn K i (by omega)
    have := hn (nth K i)
    omega
set_option maxHeartbeats 8000000 in
set_option maxRecDepth 100000 in
theorem onceKeys_spec (l : List Int) (a0 a1 a2 b0 b1 b2 : Int) (hl : ∀ x ∈ l, I64 x) (hlen : l.length ≤ 9223372036854775807) (i0 : I64 a0) (i1 : I64 a1) (i2 : I64 a2) (j0 : I64 b0) (j1 : I64 b1) (j2 : I64 b2) : Spec Try.prog 5 [.list 1 (l.map intf), .agg [.int .i64 a0, .int .i64 a1, .int .i64 a2], .agg [.int .i64 b0, .int .i64 b1, .int .i64 b2]] .fr (.bool true) := by
  obtain ⟨h, hh⟩ : ∃ h, bentH l a0 a1 a2 b0 b1 b2 = h := ⟨_, rfl⟩
  have hf := bentH_fine l a0 a1 a2 b0 b1 b2
  have hB := bent_spec l a0 a1 a2 b0 b1 b2 hl hlen i0 i1 i2 j0 j1 j2
  rw [hh] at hf hB
  have hlen60 := hf.len
  have hin := hf.inn
  have hC := onceCheck_spec h (by omega) hin
  have hR := onceR_fine hf
  have hM := missing_spec h (by omega) hin
  have hK := hKeys_spec h (by omega)
  have hKa := hKeys_asc h
  have hKm := hKeys_mem h
  have hKl : (hKeys h).length ≤ 60 := by rw [hKeys_eq]; have := rKeysTo_len h h.length; omega
  obtain ⟨K, hKe⟩ : ∃ K, hKeys h = K := ⟨_, rfl⟩
  rw [hKe] at hK hKa hKm hKl
  have hKin : ∀ o ∈ h, o.key ∈ K := fun o ho => (hKm _).2 ⟨o, ho, rfl⟩
  obtain ⟨nm, hnm⟩ : ∃ nm : Int → Nat, ∀ k, nm k = (missTo (h.filter (byKey k)) (h.filter (byKey k)).length).length := ⟨_, fun _ => rfl⟩
  have hml : ∀ m : List OpV, m.length ≤ 60 → (missTo m m.length).length ≤ 60 := fun m hm => by rw [missTo_count]; exact Nat.le_trans List.countP_le_length hm
  have hnm60 : ∀ k, nm k ≤ 60 := fun k => by rw [hnm]; exact hml _ (Nat.le_trans (List.length_filter_le _ _) hlen60)
  have sumK : sumTo nm K K.length = (missTo h h.length).length := by
    unfold sumTo
    rw [List.take_length, ← missing_parts h K (hKa.imp (fun h => by omega)) hKin]
    congr 1
    exact List.map_congr_left fun k _ => hnm k
  have hmh := hml h hlen60
  refine Spec.of_body (c := (cxOf Try.prog tyAt_ok mixed_ok 108)) ⟨Try.func5, rfl, Try.ntmps5, by kernel_rfl⟩ (by simp [FV.hand]) (by exact Nat.le_of_ble_eq_true rfl) rfl ?_
  change FW _ _ _ ⟨[(0, .list 1 (l.map intf)), (1, .agg [.int .i64 a0, .int .i64 a1, .int .i64 a2]), (2, .agg [.int .i64 b0, .int .i64 b1, .int .i64 b2])], []⟩
  by_cases hd : dom24 h
  · rw [if_pos hd] at hR
    rw [hR] at hC
    have hgood := good_all h K hKin
    (repeat (first | refine FW.seq ?_ | refine FW.region ?_ | refine RunN.nil ?_ | refine rn_boxA rfl rfl rfl rfl rfl rfl rfl ?_ | refine rn_assign rfl rfl rfl ?_ | refine rn_move rfl rfl rfl ?_ | refine rn_loadPA rfl rfl rfl (by decide) rfl rfl (by first | omega | (simp; omega) | (simp; done)) (by first | exact getD_map (by omega) | rfl) rfl rfl rfl ?_))
    refine rn_callO hB (by repeat (first | exact ArgsR.nil | refine ArgsR.cons (by first | exact ArgR.plain rfl rfl) ?_)) (List.length_map _) rfl rfl rfl ?_
    refine RunN.le ?_ (FLe.share 22 rfl rfl (List.length_map _).symm)
    (repeat (first | refine FW.seq ?_ | refine FW.region ?_ | refine RunN.nil ?_ | refine rn_assign rfl rfl rfl ?_ | refine rn_move rfl rfl rfl ?_))
    refine rn_callS hC (by repeat (first | exact ArgsR.nil | refine ArgsR.cons (by first | exact ArgR.plain rfl rfl) ?_)) rfl rfl ?_
    (repeat (first | refine FW.seq ?_ | refine FW.region ?_ | refine FW.skip ?_ | refine FW.condF rfl ?_ | refine RunN.nil ?_ | refine rn_assign rfl rfl rfl ?_ | refine rn_move rfl rfl rfl ?_ | refine rn_extract rfl rfl rfl rfl rfl ?_ | refine rn_alloc rfl rfl rfl rfl rfl rfl rfl ?_ | refine rn_storeVA rfl rfl rfl rfl rfl rfl rfl rfl rfl ?_ | refine rn_neq rfl rfl rfl rfl ?_))
    refine rn_callO hK (by repeat (first | exact ArgsR.nil | refine ArgsR.cons (by first | exact ArgR.plain rfl rfl) ?_)) (List.length_map _) rfl rfl rfl ?_
    refine RunN.le ?_ (FLe.share 32 rfl rfl (by simp))
    (repeat (first | refine FW.seq ?_ | refine FW.region ?_ | refine FW.block ?_ | refine RunN.nil ?_ | refine rn_assign rfl rfl rfl ?_))
    refine FW.loop (fun i : Nat => ⟨[(7, .list 8 (h.map OpV.fv)), (8, .ptr 100 0 0 0), (10, .list 1 (K.map intf)), (11, .bool (goodTo h K i)), (12, .int .i64 (sumTo nm K i : Nat)), (13, .int .i64 i)], [(100, ⟨0, .own, 45, 5, [(onceV h).fv]⟩)]⟩) (fun i => i ≤ K.length) (fun i => K.length - i) 0 (Nat.zero_le _)
      (FLe.conv [⟨100, some 8, 1, ⟨0, .own, 45, 5, [(onceV h).fv]⟩⟩] (by simp) (by simp) rfl (by repeat (first | exact GhOk.nil | refine GhOk.low rfl ?_ | refine GhOk.same rfl ?_ | refine GhOk.bump (Nat.lt_succ_self _) ?_)) (by repeat (first | exact EntsOk.nil | refine EntsOk.old rfl (by decide) (by first | rfl | (simp; done) | (congr 1; omega) | (simp; omega) | (simp [List.take_of_length_le]; done) | (refine congrArg (FV.int .i64) ?_; omega)) ?_)) (by repeat (first | exact SlC.nil | refine SlC.cons (.plain rfl rfl (by first | rfl | (simp; done) | (congr 1; omega) | (simp; omega) | (simp [List.take_of_length_le]; done) | (refine congrArg (FV.int .i64) ?_; omega))) ?_ | refine SlC.cons (.ptr rfl (.head _) rfl) ?_))) ?_
    intro i hi
    have hsl := sumTo_le nm 60 hnm60 K i hi
    (repeat (first | refine FW.seq ?_ | refine FW.region ?_ | refine RunN.nil ?_ | refine rn_move rfl rfl rfl ?_ | refine rn_lenList rfl rfl (by first | exact List.length_map _ | exact (List.length_map _).symm | exact List.length_replicate | rfl | (simp; done) | omega | (simp; omega)) rfl rfl ?_ | refine rn_lss rfl rfl rfl rfl ?_))
    refine FW.cond rfl (fun hc => ?_) (fun hc => ?_)
    · have hlt : i < K.length := by simpa using hc
      clear hc
      obtain ⟨key, hkey⟩ : ∃ key, nth K i = key := ⟨_, rfl⟩
      have hss := sumTo_succ nm K i hlt
      rw [hkey, hnm] at hss
      have hgs : goodTo h K (i + 1) = (goodTo h K i && decide ((onceV (h.filter (byKey key))).cls = 0)) := by rw [goodTo, hkey]
      have hwn := where_nth h (byKey key) h.length (Nat.le_refl _)
      have how := only_where h (byKey key)
      have hwl := whereTo_len (byKey key) h h.length
      have hof := ofKey_spec h key (by omega)
      obtain ⟨w, hw⟩ : ∃ w, whereTo (byKey key) h h.length = w := ⟨_, rfl⟩
      rw [hw] at hwn how hwl hof
      have hpf : Fine true (h.filter (byKey key)) := hf.parts (byKey key)
      have hpd := dom24_filter hd (byKey key)
      obtain ⟨part, hpart⟩ : ∃ part, h.filter (byKey key) = part := ⟨_, rfl⟩
      rw [hpart] at hss hgs how hpf hpd
      have hpl := hpf.len
      have hC2 := onceCheck_spec part (by omega) hpf.inn
      rw [onceR_fine hpf, if_pos hpd] at hC2
      have hM2 := missing_spec part (by omega) hpf.inn
      have hmp := hml part hpl
      (repeat (first | refine FW.seq ?_ | refine FW.region ?_ | refine FW.block ?_ | refine FW.skip ?_ | refine rn_move rfl rfl rfl ?_ | refine rn_loadE rfl rfl rfl (by first | omega | (simp; omega) | (simp; done)) (by first | exact getD_map (by omega) | rfl) rfl rfl rfl rfl ?_ | refine rn_indexL rfl rfl (by first | rfl | exact (Int.toNat_of_nonneg (by omega)).symm) rfl rfl rfl (by first | omega | (simp; omega) | (simp; done)) rfl rfl ?_))
      rw [hkey]
      refine rn_callO hof (by repeat (first | exact ArgsR.nil | refine ArgsR.cons (by first | exact ArgR.plain rfl rfl) ?_)) (List.length_map _) rfl rfl rfl ?_
      refine RunN.le ?_ (FLe.share 44 rfl rfl (by simp))
      (repeat (first | refine FW.seq ?_ | refine FW.region ?_ | refine FW.block ?_ | refine RunN.nil ?_ | refine rn_assign rfl rfl rfl ?_))
      refine FW.loop (fun n : Nat => ⟨[(7, .list 8 (h.map OpV.fv)), (8, .ptr 100 0 0 0), (10, .list 1 (K.map intf)), (11, .bool (goodTo h K i)), (12, .int .i64 (sumTo nm K i : Nat)), (13, .int .i64 i), (14, .list 1 (w.map intf)), (15, .own 101 0 0 (onlyI h (w.take n)).length), (16, .int .i64 n)], [(100, ⟨0, .own, 45, 5, [(onceV h).fv]⟩), (101, ⟨0, .own, 37, 8, (onlyI h (w.take n)).map OpV.fv⟩)]⟩) (fun n => n ≤ w.length) (fun n => w.length - n) 0 (Nat.zero_le _)
        (FLe.conv [⟨100, some 100, 0, ⟨0, .own, 45, 5, [(onceV h).fv]⟩⟩, ⟨101, none, 0, ⟨0, .own, 37, 8, []⟩⟩] (by simp) (by simp) rfl (by repeat (first | exact GhOk.nil | refine GhOk.low rfl ?_ | refine GhOk.same rfl ?_ | refine GhOk.bump (Nat.lt_succ_self _) ?_)) (by repeat (first | exact EntsOk.nil | refine EntsOk.old rfl (by decide) (by first | rfl | (simp; done) | (congr 1; omega) | (simp; omega) | (simp [List.take_of_length_le]; done) | (refine congrArg (FV.int .i64) ?_; omega)) ?_ | refine EntsOk.new ?_)) (by repeat (first | exact SlC.nil | refine SlC.cons (.plain rfl rfl (by first | rfl | (simp; done) | (congr 1; omega) | (simp; omega) | (simp [List.take_of_length_le]; done) | (refine congrArg (FV.int .i64) ?_; omega))) ?_ | refine SlC.cons (.ptr rfl (.head _) rfl) ?_ | refine SlC.cons (.nil rfl (.tail _ (.head _)) rfl) ?_))) ?_
      intro n hn
      have hol : (onlyI h (w.take n)).length ≤ n := Nat.le_trans (onlyI_len _ _) (by rw [List.length_take]; omega)
      (repeat (first | refine FW.seq ?_ | refine FW.region ?_ | refine RunN.nil ?_ | refine rn_move rfl rfl rfl ?_ | refine rn_lenList rfl rfl (by first | exact List.length_map _ | exact (List.length_map _).symm | exact List.length_replicate | rfl | (simp; done) | omega | (simp; omega)) rfl rfl ?_ | refine rn_lss rfl rfl rfl rfl ?_))
      refine FW.cond rfl (fun hc => ?_) (fun hc => ?_)
      · have hnl : n < w.length := by simpa using hc
        clear hc
        obtain ⟨j, hj, hjl, hjk⟩ := hwn.2 (nth w n) (nth_mem hnl)
        have hos := onlyI_succ h w n hnl
        rw [if_pos (by rw [hj]; unfold inL; simp; omega)] at hos
        (repeat (first | refine FW.seq ?_ | refine FW.region ?_ | refine FW.block ?_ | refine FW.skip ?_ | refine rn_move rfl rfl rfl ?_ | refine rn_loadE rfl rfl rfl (by first | omega | (simp; omega) | (simp; done)) (by first | exact getD_map (by omega) | rfl) rfl rfl rfl rfl ?_ | refine rn_lss rfl rfl rfl rfl ?_ | refine rn_indexL rfl rfl (by first | rfl | exact (Int.toNat_of_nonneg (by omega)).symm) rfl rfl rfl (by first | omega | (simp; omega) | (simp; done)) rfl rfl ?_))
        refine rn_case (fun hc => ?_) (fun hc => ?_)
        · exfalso; rw [hj] at hc; simp at hc; omega
        · (repeat (first | refine RunN.nil ?_ | refine rn_pickF rfl rfl rfl rfl ?_ | refine rn_move rfl rfl ⟨_, _, rfl, rfl, rfl⟩ ?_ | refine rn_indexL rfl rfl (by first | rfl | exact (Int.toNat_of_nonneg (by omega)).symm) rfl rfl rfl (by first | omega | (simp; omega) | (simp; done)) rfl ⟨_, _, rfl, rfl, rfl⟩ ?_ | refine rn_loadE rfl rfl rfl (by first | omega | (simp; omega) | (simp; done)) (by first | exact getD_map (by omega) | rfl) rfl rfl rfl ⟨_, _, rfl, rfl, rfl⟩ ?_ | refine rn_lenList rfl rfl (by first | exact List.length_map _ | exact (List.length_map _).symm | exact List.length_replicate | rfl | (simp; done) | omega | (simp; omega)) rfl ⟨_, _, rfl, rfl, rfl⟩ ?_ | refine rn_geq rfl rfl rfl ⟨_, _, rfl, rfl, rfl⟩ ?_))
          refine FW.cond rfl (fun hc => ?_) (fun hc => ?_)
          · exfalso; rw [hj] at hc; simp at hc; omega
          · (repeat (first | refine FW.region ?_ | refine FW.skip ?_ | refine RunN.nil ?_ | refine rn_assign rfl rfl rfl ?_ | refine rn_move rfl rfl rfl ?_ | refine rn_loadE rfl rfl rfl (by first | omega | (simp; omega) | (simp; done)) (by first | exact getD_map (by omega) | rfl) rfl rfl rfl rfl ?_ | refine rn_loadEA rfl rfl rfl (by decide) (by first | omega | (simp; omega) | (simp; done)) (by first | exact getD_map (by omega) | rfl) rfl rfl rfl ?_ | refine rn_indexL rfl rfl (by first | rfl | exact (Int.toNat_of_nonneg (by omega)).symm) rfl rfl rfl (by first | omega | (simp; omega) | (simp; done)) rfl rfl ?_ | refine rn_buildS1A rfl rfl rfl rfl rfl rfl rfl rfl rfl rfl ?_ | refine rn_appO rfl rfl (by first | exact List.length_map _ | exact (List.length_map _).symm | exact List.length_replicate | rfl | (simp; done) | omega | (simp; omega)) rfl rfl rfl (by decide) (by first | exact SrcR.own rfl rfl (by decide) (by first | exact List.length_map _ | exact (List.length_map _).symm | exact List.length_replicate | rfl | (simp; done) | omega | (simp; omega)) | exact SrcR.list rfl | exact SrcR.nil rfl | exact SrcR.part rfl rfl (by decide)) (by first | omega | (simp; omega) | (simp; done)) (by first | omega | (simp; omega) | (simp; done)) rfl rfl rfl ?_ | refine rn_add rfl rfl (by omega) rfl rfl ?_))
            refine ⟨n + 1, by omega, by omega, ?_⟩
            rw [hos, List.map_append]
            exact (FLe.conv [⟨100, some 100, 0, ⟨0, .own, 45, 5, [(onceV h).fv]⟩⟩, ⟨101, some 74, 1, ⟨0, .own, 37, 8, (onlyI h (w.take n)).map OpV.fv ++ [nth h (nth w n).toNat].map OpV.fv⟩⟩] (by simp) (by simp) rfl (by repeat (first | exact GhOk.nil | refine GhOk.low rfl ?_ | refine GhOk.same rfl ?_ | refine GhOk.bump (Nat.lt_succ_self _) ?_)) (by repeat (first | exact EntsOk.nil | refine EntsOk.old rfl (by decide) (by first | rfl | (simp; done) | (congr 1; omega) | (simp; omega) | (simp [List.take_of_length_le]; done) | (refine congrArg (FV.int .i64) ?_; omega)) ?_)) (by repeat (first | exact SlC.nil | refine SlC.cons (.plain rfl rfl (by first | rfl | (simp; done) | (congr 1; omega) | (simp; omega) | (simp [List.take_of_length_le]; done) | (refine congrArg (FV.int .i64) ?_; omega))) ?_ | refine SlC.cons (.ptr rfl (.head _) rfl) ?_ | refine SlC.cons (.own rfl (.tail _ (.head _)) rfl (by first | rfl | (simp; done) | (congr 1; omega) | (simp; omega) | (simp [List.take_of_length_le]; done) | (refine congrArg (FV.int .i64) ?_; omega))) ?_)))
      · have : n = w.length := by simp at hc; omega
        subst this
        rw [List.take_length, how]
        refine FW.le ?_ (FLe.share 15 rfl rfl (List.length_map _).symm)
        (repeat (first | refine FW.seq ?_ | refine FW.region ?_ | refine FW.exit ?_ | refine rn_move rfl rfl rfl ?_))
        refine rn_callS hC2 (by repeat (first | exact ArgsR.nil | refine ArgsR.cons (by first | exact ArgR.plain rfl rfl) ?_)) rfl rfl ?_
        (repeat (first | refine FW.seq ?_ | refine FW.region ?_ | refine FW.skip ?_ | refine FW.condF rfl ?_ | refine RunN.nil ?_ | refine rn_assign rfl rfl rfl ?_ | refine rn_move rfl rfl rfl ?_ | refine rn_extract rfl rfl rfl rfl rfl ?_ | refine rn_alloc rfl rfl rfl rfl rfl rfl rfl ?_ | refine rn_storeVA rfl rfl rfl rfl rfl rfl rfl rfl rfl ?_ | refine rn_neq rfl rfl rfl rfl ?_))
        refine rn_case (fun hb => ?_) (fun hb => ?_)
        · (repeat (first | refine FW.region ?_ | refine RunN.nil ?_ | refine rn_assign rfl rfl rfl ?_ | refine rn_move rfl rfl rfl ?_ | refine rn_pickT rfl rfl rfl rfl ?_ | refine rn_loadP rfl rfl rfl rfl rfl (by first | omega | (simp; omega) | (simp; done)) (by first | exact getD_map (by omega) | rfl) rfl rfl rfl ⟨_, _, rfl, rfl, rfl⟩ ?_ | refine rn_fieldP rfl rfl rfl rfl rfl rfl (by decide) rfl ⟨_, _, rfl, rfl, rfl⟩ ?_ | refine rn_eql rfl rfl rfl ⟨_, _, rfl, rfl, rfl⟩ ?_))
          refine rn_callO hM2 (by repeat (first | exact ArgsR.nil | refine ArgsR.cons (by first | exact ArgR.plain rfl rfl) ?_)) (List.length_map _) rfl rfl rfl ?_
          (repeat (first | refine FW.region ?_ | refine RunN.nil ?_ | refine rn_assign rfl rfl rfl ?_ | refine rn_move rfl rfl rfl ?_ | refine rn_lenOwn rfl rfl rfl (by decide) rfl rfl ?_ | refine rn_add rfl rfl (by omega) rfl rfl ?_))
          refine ⟨i + 1, by omega, by omega, ?_⟩
          rw [hss, hgs, hb]
          exact (FLe.conv [⟨100, some 100, 0, ⟨0, .own, 45, 5, [(onceV h).fv]⟩⟩] (by simp) (by simp) rfl (by repeat (first | exact GhOk.nil | refine GhOk.low rfl ?_ | refine GhOk.same rfl ?_ | refine GhOk.bump (Nat.lt_succ_self _) ?_)) (by repeat (first | exact EntsOk.nil | refine EntsOk.old rfl (by decide) (by first | rfl | (simp; done) | (congr 1; omega) | (simp; omega) | (simp [List.take_of_length_le]; done) | (refine congrArg (FV.int .i64) ?_; omega)) ?_)) (by repeat (first | exact SlC.nil | refine SlC.cons (.plain rfl rfl (by first | rfl | (simp; done) | (congr 1; omega) | (simp; omega) | (simp [List.take_of_length_le]; done) | (refine congrArg (FV.int .i64) ?_; omega))) ?_ | refine SlC.cons (.ptr rfl (.head _) rfl) ?_)))
        · (repeat (first | refine FW.region ?_ | refine RunN.nil ?_ | refine rn_assign rfl rfl rfl ?_ | refine rn_move rfl rfl rfl ?_ | refine rn_pickF rfl rfl rfl rfl ?_ | refine rn_skip rfl rfl ⟨_, _, rfl, rfl, rfl⟩ ?_))
          refine rn_callO hM2 (by repeat (first | exact ArgsR.nil | refine ArgsR.cons (by first | exact ArgR.plain rfl rfl) ?_)) (List.length_map _) rfl rfl rfl ?_
          (repeat (first | refine FW.region ?_ | refine RunN.nil ?_ | refine rn_assign rfl rfl rfl ?_ | refine rn_move rfl rfl rfl ?_ | refine rn_lenOwn rfl rfl rfl (by decide) rfl rfl ?_ | refine rn_add rfl rfl (by omega) rfl rfl ?_))
          refine ⟨i + 1, by omega, by omega, ?_⟩
          rw [hss, hgs, hb]
          exact (FLe.conv [⟨100, some 100, 0, ⟨0, .own, 45, 5, [(onceV h).fv]⟩⟩] (by simp) (by simp) rfl (by repeat (first | exact GhOk.nil | refine GhOk.low rfl ?_ | refine GhOk.same rfl ?_ | refine GhOk.bump (Nat.lt_succ_self _) ?_)) (by repeat (first | exact EntsOk.nil | refine EntsOk.old rfl (by decide) (by first | rfl | (simp; done) | (congr 1; omega) | (simp; omega) | (simp [List.take_of_length_le]; done) | (refine congrArg (FV.int .i64) ?_; omega)) ?_)) (by repeat (first | exact SlC.nil | refine SlC.cons (.plain rfl rfl (by first | rfl | (simp; done) | (congr 1; omega) | (simp; omega) | (simp [List.take_of_length_le]; done) | (refine congrArg (FV.int .i64) ?_; omega))) ?_ | refine SlC.cons (.ptr rfl (.head _) rfl) ?_)))
    · have : i = K.length := by simp at hc; omega
      subst this
      rw [sumK, hgood]
      (repeat (first | refine FW.seq ?_ | refine FW.region ?_ | refine FW.exit ?_ | refine rn_move rfl rfl rfl ?_ | refine rn_loadP rfl rfl rfl rfl rfl (by first | omega | (simp; omega) | (simp; done)) (by first | exact getD_map (by omega) | rfl) rfl rfl rfl rfl ?_ | refine rn_fieldP rfl rfl rfl rfl rfl rfl (by decide) rfl rfl ?_ | refine rn_eql rfl rfl rfl rfl ?_ | refine rn_eqlB rfl rfl rfl rfl rfl ?_))
      rw [show decide (decide ((onceV h).cls = 0) = decide ((onceV h).cls = 0)) = true by simp]
      (repeat (first | refine rn_move rfl rfl ⟨_, _, rfl, rfl, rfl⟩ ?_))
      refine rn_callO hM (by repeat (first | exact ArgsR.nil | refine ArgsR.cons (by first | exact ArgR.plain rfl rfl) ?_)) (List.length_map _) rfl rfl ⟨_, _, rfl, rfl, rfl⟩ ?_
      (repeat (first | refine rn_move rfl rfl rfl ?_ | refine rn_pickT rfl rfl rfl rfl ?_ | refine rn_lenOwn rfl rfl rfl (by decide) rfl ⟨_, _, rfl, rfl, rfl⟩ ?_ | refine rn_eql rfl rfl rfl ⟨_, _, rfl, rfl, rfl⟩ ?_))
      rw [decide_eq_true (rfl : ((missTo h h.length).length : Int) = (missTo h h.length).length)]
      skip
      refine rn_call lives_spec (by repeat (first | exact ArgsR.nil)) rfl ⟨_, _, rfl, rfl, rfl⟩ ?_
      (repeat (first | refine RunN.nil ?_ | refine rn_assign rfl rfl rfl ?_ | refine rn_pickT rfl rfl rfl rfl ?_))
      exact FW.ret ⟨.inl rfl, .flat (.cons (.tmp 6 rfl rfl) .nil) rfl rfl⟩
  · rw [if_neg hd] at hR
    rw [hR] at hC
    (repeat (first | refine FW.seq ?_ | refine FW.region ?_ | refine RunN.nil ?_ | refine rn_boxA rfl rfl rfl rfl rfl rfl rfl ?_ | refine rn_assign rfl rfl rfl ?_ | refine rn_move rfl rfl rfl ?_ | refine rn_loadPA rfl rfl rfl (by decide) rfl rfl (by first | omega | (simp; omega) | (simp; done)) (by first | exact getD_map (by omega) | rfl) rfl rfl rfl ?_))
    refine rn_callO hB (by repeat (first | exact ArgsR.nil | refine ArgsR.cons (by first | exact ArgR.plain rfl rfl) ?_)) (List.length_map _) rfl rfl rfl ?_
    refine RunN.le ?_ (FLe.share 22 rfl rfl (List.length_map _).symm)
    (repeat (first | refine FW.seq ?_ | refine FW.region ?_ | refine RunN.nil ?_ | refine rn_assign rfl rfl rfl ?_ | refine rn_move rfl rfl rfl ?_))
    refine rn_callS hC (by repeat (first | exact ArgsR.nil | refine ArgsR.cons (by first | exact ArgR.plain rfl rfl) ?_)) rfl rfl ?_
    (repeat (first | refine FW.seq ?_ | refine FW.region ?_ | refine FW.condT rfl ?_ | refine RunN.nil ?_ | refine rn_assign rfl rfl rfl ?_ | refine rn_move rfl rfl rfl ?_ | refine rn_extract rfl rfl rfl rfl rfl ?_ | refine rn_alloc rfl rfl rfl rfl rfl rfl rfl ?_ | refine rn_storeVA rfl rfl rfl rfl rfl rfl rfl rfl rfl ?_ | refine rn_neq rfl rfl rfl rfl ?_))
    refine rn_call lives_spec (by repeat (first | exact ArgsR.nil)) rfl rfl ?_
    (repeat (first | refine RunN.nil ?_ | refine rn_assign rfl rfl rfl ?_))
    exact FW.ret ⟨.inl rfl, .flat (.cons (.tmp 6 rfl rfl) .nil) rfl rfl⟩
end Go.Proofs.Ytflkbehbenlhaaa
