/-
  simprooflaw03.GraphExtends answers true for every input (walked on plain values).
-/
import Derived.Test.YtflkbehbenlhaaaZExtPlain
import Derived.Test.YtflkbehbenlhaaaZFmResp
import Derived.Test.YtflkbehbenlhaaaZExtPlain2
namespace Go.Proofs.Ytflkbehbenlhaaa
set_option linter.unusedVariables false
open Go.RowKit

set_option maxHeartbeats 4000000 in
theorem graphExtends_spec (n : Int) (l : List Int) (a b : Int) (hn : I64 n) (hl : ∀ x ∈ l, I64 x) (hlen : l.length ≤ 9223372036854775807) (ha : I64 a) (hb : I64 b) : Spec Try.prog 9 [.int .i64 n, .list 1 (l.map intf), .int .i64 a, .int .i64 b] .fr (.bool true) := by
  have hsize := size_spec n hn
  obtain ⟨k, hk, hk10⟩ := around_nat n 10 (by decide)
  have hk' : around n 10 = k := hk
  rw [hk'] at hsize
  have hA := rForward_in k l
  have hAl := rForward_len k l
  refine Spec.of_body (c := (cxOf Try.prog tyAt_ok mixed_ok 130)) ⟨Try.func9, rfl, Try.ntmps9, by kernel_rfl⟩ (by simp [FV.hand]) (by exact Nat.le_of_ble_eq_true rfl) rfl ?_
  change FW _ _ _ ⟨[(0, .int .i64 n), (1, .list 1 (l.map intf)), (2, .int .i64 a), (3, .int .i64 b)], []⟩
  (repeat (first | refine FW.seq ?_ | refine FW.region ?_ | refine RunN.nil ?_ | refine rn_assign rfl rfl rfl ?_ | refine rn_move rfl rfl rfl ?_))
  refine rn_call hsize (by repeat (first | exact ArgsR.nil | refine ArgsR.cons (by first | exact ArgR.plain rfl rfl) ?_)) rfl rfl ?_
  (repeat (first | refine FW.seq ?_ | refine FW.region ?_ | refine RunN.nil ?_ | refine rn_assign rfl rfl rfl ?_ | refine rn_move rfl rfl rfl ?_))
  refine rn_callO (rForward_spec k l (by omega) hlen hl) (by repeat (first | exact ArgsR.nil | refine ArgsR.cons (by first | exact ArgR.plain rfl rfl) ?_)) (List.length_map _) rfl rfl rfl ?_
  refine RunN.le ?_ (FLe.share 26 rfl rfl (by rw [List.length_map]))
  generalize rForward k l = A at hA hAl
  have hT := topoR_spec k A (by omega) (by omega) hA
  rw [resT_eq] at hT
  cases hq : rtK A k k [] with
  | none =>
    rw [hq] at hT
    (repeat (first | refine FW.seq ?_ | refine FW.region ?_ | refine RunN.nil ?_ | refine rn_assign rfl rfl rfl ?_ | refine rn_move rfl rfl rfl ?_))
    refine rn_callS hT (by repeat (first | exact ArgsR.nil | refine ArgsR.cons (by first | exact ArgR.plain rfl rfl) ?_)) rfl rfl ?_
    (repeat (first | refine FW.seq ?_ | refine FW.region ?_ | refine FW.condT rfl ?_ | refine RunN.nil ?_ | refine rn_assign rfl rfl rfl ?_ | refine rn_move rfl rfl rfl ?_ | refine rn_extract rfl rfl rfl rfl rfl ?_ | refine rn_not rfl rfl rfl ?_ | refine rn_pickT rfl rfl rfl rfl ?_ | refine rn_skip rfl rfl ⟨_, _, rfl, rfl, rfl⟩ ?_))
    refine rn_call lives03_spec (by repeat (first | exact ArgsR.nil)) rfl rfl ?_
    (repeat (first | refine RunN.nil ?_ | refine rn_assign rfl rfl rfl ?_))
    exact FW.ret ⟨.inl rfl, ret_flat rfl rfl rfl rfl⟩
  | some o =>
    rw [hq] at hT
    change Spec _ _ _ _ (.tup [.list 1 (o.map intf), .bool true]) at hT
    have hO := rt_ord hA hq
    have hol := hO.len
    (repeat (first | refine FW.seq ?_ | refine FW.region ?_ | refine RunN.nil ?_ | refine rn_assign rfl rfl rfl ?_ | refine rn_move rfl rfl rfl ?_))
    refine rn_callS hT (by repeat (first | exact ArgsR.nil | refine ArgsR.cons (by first | exact ArgR.plain rfl rfl) ?_)) rfl rfl ?_
    (repeat (first | refine FW.seq ?_ | refine FW.region ?_ | refine RunN.nil ?_ | refine rn_assign rfl rfl rfl ?_ | refine rn_move rfl rfl rfl ?_ | refine rn_extract rfl rfl rfl rfl rfl ?_ | refine rn_not rfl rfl rfl ?_ | refine rn_pickF rfl rfl rfl rfl ?_ | refine rn_move rfl rfl ⟨_, _, rfl, rfl, rfl⟩ ?_ | refine rn_eql rfl rfl rfl ⟨_, _, rfl, rfl, rfl⟩ ?_))
    refine FW.cond rfl (fun h => ?_) (fun h => ?_)
    · (repeat (first | refine FW.seq ?_ | refine FW.region ?_))
      refine rn_call lives03_spec (by repeat (first | exact ArgsR.nil)) rfl rfl ?_
      (repeat (first | refine RunN.nil ?_ | refine rn_assign rfl rfl rfl ?_))
      exact FW.ret ⟨.inl rfl, ret_flat rfl rfl rfl rfl⟩
    · have hk0 : k ≠ 0 := by
        intro h0; subst h0; simp at h
      clear h
      have hRs := respects_spec k A o (by omega) hA (by omega) hO
      obtain ⟨i, hi, hik⟩ := around_nat a k (by omega)
      obtain ⟨j, hj, hjk⟩ := around_nat b k (by omega)
      have hia := around_spec a k ha (by omega) (by omega)
      have hjb := around_spec b k hb (by omega) (by omega)
      rw [hi] at hia
      rw [hj] at hjb
      (repeat (first | refine FW.seq ?_ | refine FW.region ?_ | refine FW.skip ?_ | refine rn_move rfl rfl rfl ?_))
      refine rn_call hRs (by repeat (first | exact ArgsR.nil | refine ArgsR.cons (by first | exact ArgR.plain rfl rfl) ?_)) rfl rfl ?_
      (repeat (first | refine FW.seq ?_ | refine FW.region ?_ | refine FW.skip ?_ | refine FW.condF rfl ?_ | refine RunN.nil ?_ | refine rn_move rfl rfl rfl ?_ | refine rn_not rfl rfl rfl ?_))
      refine rn_call hia (by repeat (first | exact ArgsR.nil | refine ArgsR.cons (by first | exact ArgR.plain rfl rfl) ?_)) rfl rfl ?_
      (repeat (first | refine FW.seq ?_ | refine FW.region ?_ | refine RunN.nil ?_ | refine rn_assign rfl rfl rfl ?_ | refine rn_move rfl rfl rfl ?_))
      refine rn_call hjb (by repeat (first | exact ArgsR.nil | refine ArgsR.cons (by first | exact ArgR.plain rfl rfl) ?_)) rfl rfl ?_
      (repeat (first | refine FW.seq ?_ | refine FW.region ?_ | refine RunN.nil ?_ | refine rn_assign rfl rfl rfl ?_ | refine rn_move rfl rfl rfl ?_ | refine rn_neq rfl rfl rfl rfl ?_))
      refine FW.join (fun _ : Unit => ⟨[(9, .int .i64 k), (10, .list 2 (A.map edf)), (13, .int .i64 i), (14, .int .i64 j)], []⟩) (fun _ => True) ?_ (fun _ _ => ?_)
      · refine FW.cond rfl (fun h => ?_) (fun h => ?_)
        · have hij : i ≠ j := by intro h0; subst h0; simp at h
          clear h
          obtain ⟨p, q, hp, hq', hpq, hqk⟩ : ∃ p q : Nat, min (i : Int) j = p ∧ max (i : Int) j = q ∧ p < q ∧ q < k := ⟨min i j, max i j, by omega, by omega, by omega, by omega⟩
          (repeat (first | refine FW.seq ?_ | refine FW.draw ?_ | refine RunD.nil ?_ | refine rd_assign rfl rfl rfl ?_ | refine rd_move rfl rfl rfl ?_ | refine rd_appO rfl rfl (by first | exact List.length_map _ | exact (List.length_map _).symm | exact List.length_replicate | rfl | (simp; done) | omega | (simp; omega)) rfl rfl rfl (by decide) (by first | exact SrcR.own rfl rfl (by decide) (by first | exact List.length_map _ | exact (List.length_map _).symm | exact List.length_replicate | rfl | (simp; done) | omega | (simp; omega)) | exact SrcR.list rfl | exact SrcR.nil rfl | exact SrcR.part rfl rfl (by decide)) (by first | omega | (simp; omega) | (simp; done)) (by first | omega | (simp; omega) | (simp; done)) rfl rfl rfl ?_ | refine rd_min rfl rfl rfl rfl ?_ | refine rd_max rfl rfl rfl rfl ?_ | refine rd_buildS0 rfl rfl rfl rfl rfl rfl ?_ | refine rd_buildS1A rfl rfl rfl rfl rfl rfl rfl rfl rfl rfl ?_ | refine rd_indexL rfl rfl (by first | rfl | exact (Int.toNat_of_nonneg (by omega)).symm) rfl rfl rfl (by first | omega | (simp; omega) | (simp; done)) rfl rfl ?_ | refine rd_loadE rfl rfl rfl (by first | omega | (simp; omega) | (simp; done)) (by first | exact getD_map (by omega) | rfl) rfl rfl rfl rfl ?_ | refine rd_buildA2 rfl rfl rfl rfl rfl rfl rfl rfl rfl ?_))
          rw [hp, hq', Int.toNat_natCast, Int.toNat_natCast]
          obtain ⟨u, hu⟩ : ∃ u : Nat, nth o p = u := ⟨(nth o p).toNat, by have := hO.rng _ (nth_mem (l := o) (i := p) (by omega)); omega⟩
          obtain ⟨v, hv⟩ : ∃ v : Nat, nth o q = v := ⟨(nth o q).toNat, by have := hO.rng _ (nth_mem (l := o) (i := q) (by omega)); omega⟩
          have hun : u < k := by have := hO.rng _ (nth_mem (l := o) (i := p) (by omega)); omega
          have hvn : v < k := by have := hO.rng _ (nth_mem (l := o) (i := q) (by omega)); omega
          rw [hu, hv]
          refine ⟨by kernel_rfl, ?_⟩
          have hM := inN_snoc hA hun hvn
          have hOM := hO.more hpq hqk hu hv
          obtain ⟨hrM, hON⟩ := hOM.topo hM
          have hMl : (A ++ [(u, v)]).length ≤ 19 := by simp; omega
          have hTM := topoR_spec k (A ++ [(u, v)]) (by omega) (by omega) hM
          rw [resT_eq, hrM] at hTM
          change Spec _ _ _ _ (.tup [.list 1 ((topoEnd k (A ++ [(u, v)])).map intf), .bool true]) at hTM
          have r1 := respects_spec k (A ++ [(u, v)]) _ (by omega) hM (by omega) hON
          have r2 := respects_spec k (A ++ [(u, v)]) _ (by omega) hM (by omega) hOM
          have eM : ([] ++ A.map edf ++ [[FV.int .i64 (u : Int), FV.int .i64 (v : Int)]] : List (List FV)) = (A ++ [(u, v)]).map edf := by rw [List.nil_append, List.map_append]; rfl
          rw [eM]
          generalize A ++ [(u, v)] = M at hM hOM hMl hTM r1 r2
          rw [List.length_map]
          refine FW.le ?_ ((FLe.share 71 rfl rfl (by rw [List.length_map])).trans (FLe.again 15 rfl rfl (by rw [List.length_map])))
          have hel := (topoEnd k M).length
          (repeat (first | refine FW.seq ?_ | refine FW.region ?_ | refine rn_move rfl rfl rfl ?_))
          refine rn_callS hTM (by repeat (first | exact ArgsR.nil | refine ArgsR.cons (by first | exact ArgR.plain rfl rfl) ?_)) rfl rfl ?_
          (repeat (first | refine FW.seq ?_ | refine FW.region ?_ | refine RunN.nil ?_ | refine rn_assign rfl rfl rfl ?_ | refine rn_move rfl rfl rfl ?_ | refine rn_extract rfl rfl rfl rfl rfl ?_ | refine rn_not rfl rfl rfl ?_ | refine rn_move rfl rfl ⟨_, _, rfl, rfl, rfl⟩ ?_))
          refine rn_call r1 (by repeat (first | exact ArgsR.nil | refine ArgsR.cons (by first | exact ArgR.plain rfl rfl) ?_)) rfl ⟨_, _, rfl, rfl, rfl⟩ ?_
          (repeat (first | refine rn_move rfl rfl rfl ?_ | refine rn_pickF rfl rfl rfl rfl ?_ | refine rn_move rfl rfl ⟨_, _, rfl, rfl, rfl⟩ ?_ | refine rn_not rfl rfl ⟨_, _, rfl, rfl, rfl⟩ ?_))
          refine rn_call r2 (by repeat (first | exact ArgsR.nil | refine ArgsR.cons (by first | exact ArgR.plain rfl rfl) ?_)) rfl ⟨_, _, rfl, rfl, rfl⟩ ?_
          (repeat (first | refine FW.skip ?_ | refine FW.condF rfl ?_ | refine RunN.nil ?_ | refine rn_pickF rfl rfl rfl rfl ?_ | refine rn_not rfl rfl ⟨_, _, rfl, rfl, rfl⟩ ?_))
          refine ⟨rfl, (), trivial, ?_⟩
          exact (FLe.conv [] (by simp) (by simp) rfl (by repeat (first | exact GhOk.nil | refine GhOk.low rfl ?_ | refine GhOk.same rfl ?_ | refine GhOk.bump (Nat.lt_succ_self _) ?_)) (by repeat (first | exact EntsOk.nil)) (by repeat (first | exact SlC.nil | refine SlC.cons (.plain rfl rfl (by first | rfl | (simp; done) | (congr 1; omega) | (simp; omega) | (simp [List.take_of_length_le]; done) | (refine congrArg (FV.int .i64) ?_; omega))) ?_)))
        · (repeat (first | refine FW.skip ?_))
          refine ⟨rfl, (), trivial, ?_⟩
          exact (FLe.conv [] (by simp) (by simp) rfl (by repeat (first | exact GhOk.nil | refine GhOk.low rfl ?_ | refine GhOk.same rfl ?_ | refine GhOk.bump (Nat.lt_succ_self _) ?_)) (by repeat (first | exact EntsOk.nil)) (by repeat (first | exact SlC.nil | refine SlC.cons (.plain rfl rfl (by first | rfl | (simp; done) | (congr 1; omega) | (simp; omega) | (simp [List.take_of_length_le]; done) | (refine congrArg (FV.int .i64) ?_; omega))) ?_)))
      · (repeat (first | refine FW.seq ?_ | refine FW.region ?_ | refine rn_move rfl rfl rfl ?_ | refine rn_buildS1 rfl rfl rfl rfl rfl rfl rfl rfl ?_))
        have hR := reach_spec k A [(i : Int)] (by omega) (by omega) hA (by show 1 ≤ _; omega)
        have hgl := gReach_len k A [(i : Int)]
        have hC := inN_snoc hA hjk hik
        have hCl : (A ++ [(j, i)]).length ≤ 19 := by simp; omega
        have hTC := topoR_spec k (A ++ [(j, i)]) (by omega) (by omega) hC
        have hYC := cycleR_spec k (A ++ [(j, i)]) (by omega) (by omega) hC
        have hH := has_spec (gReach k A [(i : Int)]) j (by omega)
        obtain ⟨bv, hbv, hrb, hcy⟩ : ∃ bv, hasB (gReach k A [(i : Int)]) j = bv ∧ resB (rtK (A ++ [(j, i)]) k k []) = !bv ∧ decide (((rCycle (A ++ [(j, i)]) k).length : Int) = 0) = !bv := by
          rcases closing hO hA hik hjk with ⟨c1, c2, c3⟩ | ⟨c1, ⟨q, c2⟩, c3⟩
          · refine ⟨true, c1, by rw [c2]; rfl, ?_⟩
            have := List.length_pos_iff.2 c3
            simp; exact c3
          · exact ⟨false, c1, by rw [c2]; rfl, by rw [c3]; rfl⟩
        rw [resT_eq, hrb] at hTC
        rw [hbv] at hH
        have eC : ([] ++ A.map edf ++ [[FV.int .i64 (j : Int), FV.int .i64 (i : Int)]] : List (List FV)) = (A ++ [(j, i)]).map edf := by rw [List.nil_append, List.map_append]; rfl
        generalize gReach k A [(i : Int)] = g at hR hgl hH
        refine RunN.le ?_ (FLe.share 97 rfl rfl (by rfl))
        refine rn_callS hR (by repeat (first | exact ArgsR.nil | refine ArgsR.cons (by first | exact ArgR.plain rfl rfl) ?_)) rfl rfl ?_
        (repeat (first | refine FW.seq ?_ | refine FW.region ?_ | refine RunN.nil ?_ | refine rn_assign rfl rfl rfl ?_ | refine rn_move rfl rfl rfl ?_ | refine rn_appO rfl rfl (by first | exact List.length_map _ | exact (List.length_map _).symm | exact List.length_replicate | rfl | (simp; done) | omega | (simp; omega)) rfl rfl rfl (by decide) (by first | exact SrcR.own rfl rfl (by decide) (by first | exact List.length_map _ | exact (List.length_map _).symm | exact List.length_replicate | rfl | (simp; done) | omega | (simp; omega)) | exact SrcR.list rfl | exact SrcR.nil rfl | exact SrcR.part rfl rfl (by decide)) (by first | omega | (simp; omega) | (simp; done)) (by first | omega | (simp; omega) | (simp; done)) rfl rfl rfl ?_ | refine rn_buildS0 rfl rfl rfl rfl rfl rfl ?_ | refine rn_buildS1A rfl rfl rfl rfl rfl rfl rfl rfl rfl rfl ?_ | refine rn_buildA2 rfl rfl rfl rfl rfl rfl rfl rfl rfl ?_))
        rw [eC]
        generalize A ++ [(j, i)] = M at hC hCl hTC hYC hcy hrb
        rw [List.length_map]
        have hol2 := rtK_len M k k []
        generalize resL (rtK M k k []) = w at hTC hol2
        refine RunN.le ?_ (((FLe.share 106 rfl rfl (by rw [List.length_map])).trans (FLe.again 19 rfl rfl (by rw [List.length_map]))).trans (FLe.again 109 rfl rfl (by rw [List.length_map])))
        refine rn_callS hTC (by repeat (first | exact ArgsR.nil | refine ArgsR.cons (by first | exact ArgR.plain rfl rfl) ?_)) rfl rfl ?_
        (repeat (first | refine FW.seq ?_ | refine FW.region ?_ | refine RunN.nil ?_ | refine rn_assign rfl rfl rfl ?_ | refine rn_move rfl rfl rfl ?_ | refine rn_extract rfl rfl rfl rfl rfl ?_))
        refine rn_call hH (by repeat (first | exact ArgsR.nil | refine ArgsR.cons (by first | exact ArgR.plain rfl rfl) ?_)) rfl rfl ?_
        (repeat (first | refine rn_move rfl rfl rfl ?_ | refine rn_neqB rfl rfl rfl rfl rfl ?_))
        rw [show decide ((!bv) ≠ bv) = true by cases bv <;> rfl]
        (repeat (first | refine rn_move rfl rfl ⟨_, _, rfl, rfl, rfl⟩ ?_))
        refine rn_callS hYC (by repeat (first | exact ArgsR.nil | refine ArgsR.cons (by first | exact ArgR.plain rfl rfl) ?_)) rfl ⟨_, _, rfl, rfl, rfl⟩ ?_
        (repeat (first | refine rn_move rfl rfl rfl ?_ | refine rn_pickT rfl rfl rfl rfl ?_ | refine rn_move rfl rfl ⟨_, _, rfl, rfl, rfl⟩ ?_ | refine rn_eql rfl rfl rfl ⟨_, _, rfl, rfl, rfl⟩ ?_ | refine rn_eqlB rfl rfl rfl rfl ⟨_, _, rfl, rfl, rfl⟩ ?_ | refine rn_lenList rfl rfl (by first | exact List.length_map _ | exact (List.length_map _).symm | exact List.length_replicate | rfl | (simp; done) | omega | (simp; omega)) rfl ⟨_, _, rfl, rfl, rfl⟩ ?_))
        rw [hcy, show decide ((!bv) = !bv) = true by cases bv <;> rfl]
        skip
        refine rn_call lives03_spec (by repeat (first | exact ArgsR.nil)) rfl ⟨_, _, rfl, rfl, rfl⟩ ?_
        (repeat (first | refine RunN.nil ?_ | refine rn_assign rfl rfl rfl ?_ | refine rn_pickT rfl rfl rfl rfl ?_))
        exact FW.ret ⟨.inl rfl, ret_flat rfl rfl rfl rfl⟩
end Go.Proofs.Ytflkbehbenlhaaa
