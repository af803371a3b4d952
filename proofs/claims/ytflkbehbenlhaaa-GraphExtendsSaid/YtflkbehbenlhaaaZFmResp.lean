/-
  simprooflaw03.respects, at plain values: true of a topological order.
-/
import Derived.Test.YtflkbehbenlhaaaZExtPlain
import Derived.Test.YtflkbehbenlhaaaZLawGraphReach
namespace Go.Proofs.Ytflkbehbenlhaaa
set_option linter.unusedVariables false
open Go.RowKit

set_option maxHeartbeats 4000000 in
theorem respects_spec (n : Nat) (E : List (Nat × Nat)) (o : List Int) (hn : n ≤ 12) (hE : InN n E) (hEl : E.length ≤ 1000000) (hO : Ord n E o) : Spec Try.prog 43 [.int .i64 n, .list 2 (E.map edf), .list 1 (o.map intf)] .fr (.bool true) := by
  have hpos := fun v h => hO.pos (v := v) h
  obtain ⟨hl, hnd, hr, hf⟩ := hO
  refine Spec.of_body (c := (cxOf Try.prog tyAt_ok mixed_ok 75)) ⟨Try.func43, rfl, Try.ntmps43, by kernel_rfl⟩ (by simp [FV.hand]) (by exact Nat.le_of_ble_eq_true rfl) rfl ?_
  change FW _ _ _ ⟨[(0, .int .i64 n), (1, .list 2 (E.map edf)), (2, .list 1 (o.map intf))], []⟩
  (repeat (first | refine FW.seq ?_ | refine FW.region ?_ | refine RunN.nil ?_ | refine rn_assign rfl rfl rfl ?_ | refine rn_move rfl rfl rfl ?_ | refine rn_make rfl (by first | rfl | exact (Int.toNat_of_nonneg (by omega)).symm) rfl (by first | rfl | exact (Int.toNat_of_nonneg (by omega)).symm) rfl rfl rfl rfl (by first | omega | (simp; omega) | (simp; done)) (by first | omega | (simp; omega) | (simp; done)) rfl rfl rfl ?_ | refine rn_lenList rfl rfl (by first | exact List.length_map _ | exact (List.length_map _).symm | exact List.length_replicate | rfl | (simp; done) | omega | (simp; omega)) rfl rfl ?_ | refine rn_neq rfl rfl rfl rfl ?_))
  rw [show decide ((o.length : Int) ≠ n) = false by rw [hl]; simp]
  refine FW.cond rfl (fun h => by cases h) (fun h => ?_)
  clear h
  (repeat (first | refine FW.seq ?_ | refine FW.region ?_ | refine FW.block ?_ | refine FW.skip ?_ | refine RunN.nil ?_ | refine rn_assign rfl rfl rfl ?_))
  obtain ⟨z, hz⟩ : ∃ z, List.replicate n (0 : Int) = z := ⟨_, rfl⟩
  have hzl : z.length = n := by rw [← hz]; simp
  rw [show List.replicate n [FV.int .i64 0] = z.map intf by rw [← hz, List.map_replicate]; rfl]
  clear hz
  refine FW.loop (fun x : Nat × List Int => ⟨[(0, .int .i64 n), (1, .list 2 (E.map edf)), (2, .list 1 (o.map intf)), (7, .own 100 0 0 n), (8, .int .i64 x.1)], [(100, ⟨0, .own, 3, 1, x.2.map intf⟩)]⟩) (fun x => x.1 ≤ n ∧ x.2.length = n ∧ ∀ q, q < x.1 → nth x.2 (nth o q).toNat = q) (fun x => n - x.1) (0, z) ⟨Nat.zero_le _, hzl, fun q hq => by omega⟩ ?_ ?_
  · show FLe _ ⟨[(0, .int .i64 n), (1, .list 2 (E.map edf)), (2, .list 1 (o.map intf)), (7, .own 100 0 0 n), (8, .int .i64 0)], [(100, ⟨0, .own, 3, 1, z.map intf⟩)]⟩
    exact (FLe.conv [⟨100, some 11, 0 + 1, ⟨0, .own, 3, 1, z.map intf⟩⟩] (by simp) (by simp) rfl (by repeat (first | exact GhOk.nil | refine GhOk.low rfl ?_ | refine GhOk.same rfl ?_ | refine GhOk.bump (Nat.lt_succ_self _) ?_)) (by repeat (first | exact EntsOk.nil | refine EntsOk.old rfl (by decide) (by first | rfl | (simp; done) | (congr 1; omega) | (simp; omega) | (simp [List.take_of_length_le]; done) | (refine congrArg (FV.int .i64) ?_; omega)) ?_)) (by repeat (first | exact SlC.nil | refine SlC.cons (.plain rfl rfl (by first | rfl | (simp; done) | (congr 1; omega) | (simp; omega) | (simp [List.take_of_length_le]; done) | (refine congrArg (FV.int .i64) ?_; omega))) ?_ | refine SlC.cons (.own rfl (.head _) rfl (by first | rfl | (simp; done) | (congr 1; omega) | (simp; omega) | (simp [List.take_of_length_le]; done) | (refine congrArg (FV.int .i64) ?_; omega))) ?_)))
  rintro ⟨i, A⟩ ⟨hi, hA, hAq⟩
  dsimp only at hi hA hAq ⊢
  (repeat (first | refine FW.seq ?_ | refine FW.region ?_ | refine RunN.nil ?_ | refine rn_move rfl rfl rfl ?_ | refine rn_lss rfl rfl rfl rfl ?_))
  refine FW.cond rfl (fun h => ?_) (fun h => ?_)
  · have hlt : i < n := by simpa using h
    clear h
    have hm := nth_mem (l := o) (i := i) (by omega)
    have hmr := hr _ hm
    obtain ⟨v, hv⟩ : ∃ v : Nat, nth o i = v := ⟨(nth o i).toNat, by omega⟩
    rw [hv] at hmr
    have hvn : v < n := by omega
    have hhas : hasB (o.drop (i + 1)) v = false := by
      simp only [hasB, decide_eq_false_iff_not]
      intro hmem
      obtain ⟨q, hq, hqe⟩ := List.getElem_of_mem hmem
      rw [List.length_drop] at hq
      rw [List.getElem_drop] at hqe
      rw [nth_eq (by omega)] at hv
      have : i + 1 + q = i := (List.getElem_inj hnd).1 (hqe.trans hv.symm)
      omega
    (repeat (first | refine FW.seq ?_ | refine FW.block ?_ | refine FW.skip ?_ | refine FW.draw ?_ | refine rd_move rfl rfl rfl ?_ | refine rd_lss rfl rfl rfl rfl ?_ | refine rd_indexL rfl rfl (by first | rfl | exact (Int.toNat_of_nonneg (by omega)).symm) rfl rfl rfl (by first | omega | (simp; omega) | (simp; done)) rfl rfl ?_ | refine rd_loadE rfl rfl rfl (by first | omega | (simp; omega) | (simp; done)) (by first | exact getD_map (by omega) | rfl) rfl rfl rfl rfl ?_))
    rw [hv, show decide ((v : Int) < 0) = false by simp]
    (repeat (first | refine rd_move rfl rfl rfl ?_ | refine rd_pickF rfl rfl rfl rfl ?_ | refine rd_move rfl rfl ⟨_, _, rfl, rfl, rfl⟩ ?_ | refine rd_indexL rfl rfl (by first | rfl | exact (Int.toNat_of_nonneg (by omega)).symm) rfl rfl rfl (by first | omega | (simp; omega) | (simp; done)) rfl ⟨_, _, rfl, rfl, rfl⟩ ?_ | refine rd_loadE rfl rfl rfl (by first | omega | (simp; omega) | (simp; done)) (by first | exact getD_map (by omega) | rfl) rfl rfl rfl ⟨_, _, rfl, rfl, rfl⟩ ?_ | refine rd_geq rfl rfl rfl ⟨_, _, rfl, rfl, rfl⟩ ?_))
    rw [hv, show decide ((v : Int) ≥ n) = false by simp; omega]
    (repeat (first | refine rd_move rfl rfl ⟨_, _, rfl, rfl, rfl⟩ ?_ | refine rd_indexL rfl rfl (by first | rfl | exact (Int.toNat_of_nonneg (by omega)).symm) rfl rfl rfl (by first | omega | (simp; omega) | (simp; done)) rfl ⟨_, _, rfl, rfl, rfl⟩ ?_ | refine rd_loadE rfl rfl rfl (by first | omega | (simp; omega) | (simp; done)) (by first | exact getD_map (by omega) | rfl) rfl rfl rfl ⟨_, _, rfl, rfl, rfl⟩ ?_ | refine rd_add rfl rfl (by omega) rfl ⟨_, _, rfl, rfl, rfl⟩ ?_ | refine rd_sliceL rfl rfl rfl rfl (by first | exact LoR.none | exact LoR.some rfl | exact LoR.lit rfl (by first | rfl | exact (Int.toNat_of_nonneg (by omega)).symm)) (by first | exact HiR.none | exact HiR.some rfl | exact HiR.lit rfl (by first | rfl | exact (Int.toNat_of_nonneg (by omega)).symm)) (by first | omega | (simp; omega) | (simp; done)) (by first | omega | (simp; omega) | (simp; done)) rfl ⟨_, _, rfl, rfl, rfl⟩ ?_))
    rw [hv, show List.take ((o.map intf).length - (i + 1)) (List.drop (i + 1) (o.map intf)) = (o.drop (i + 1)).map intf by rw [List.map_drop, List.take_of_length_le]; simp]
    have hs := has_spec (o.drop (i + 1)) v (by rw [List.length_drop]; omega)
    rw [hhas] at hs
    refine rd_call hs (by repeat (first | exact ArgsR.nil | refine ArgsR.cons (by first | exact ArgR.plain rfl rfl) ?_)) rfl ⟨_, _, rfl, rfl, rfl⟩ ?_
    (repeat (first | refine RunD.nil ?_ | refine rd_pickF rfl rfl rfl rfl ?_))
    refine ⟨by kernel_rfl, ?_⟩
    refine FW.cond rfl (fun h => by cases h) (fun h => ?_)
    clear h
    (repeat (first | refine FW.region ?_ | refine FW.skip ?_ | refine RunN.nil ?_ | refine rn_assign rfl rfl rfl ?_ | refine rn_move rfl rfl rfl ?_ | refine rn_indexL rfl rfl (by first | rfl | exact (Int.toNat_of_nonneg (by omega)).symm) rfl rfl rfl (by first | omega | (simp; omega) | (simp; done)) rfl rfl ?_ | refine rn_indexO rfl rfl (by first | rfl | exact (Int.toNat_of_nonneg (by omega)).symm) rfl rfl rfl (by decide) rfl (by first | omega | (simp; omega) | (simp; done)) rfl rfl ?_ | refine rn_loadE rfl rfl rfl (by first | omega | (simp; omega) | (simp; done)) (by first | exact getD_map (by omega) | rfl) rfl rfl rfl rfl ?_ | refine rn_add rfl rfl (by omega) rfl rfl ?_ | refine rn_storeR rfl rfl rfl rfl rfl rfl (by first | omega | (simp; omega) | (simp; done)) (by first | exact getD_map (by omega) | rfl) rfl rfl rfl ?_))
    rw [hv, Int.toNat_natCast]
    rw [show (A.map intf).set v ((intf (nth A v)).set 0 (.int .i64 i)) = (A.set v i).map intf by rw [List.map_set]; rfl]
    refine ⟨(i + 1, A.set v i), ⟨by show i + 1 ≤ n; omega, by show (A.set v i).length = n; rw [List.length_set, hA], fun q hq => ?_⟩, by show n - (i + 1) < n - i; omega, ?_⟩
    · have hq : q < i + 1 := hq
      show nth (A.set v i) (nth o q).toNat = q
      by_cases e : q = i
      · subst e
        rw [hv, Int.toNat_natCast, nth_eq (by rw [List.length_set]; omega), List.getElem_set_self]
      · have h1 := hAq q (by omega)
        have h2 := hr _ (nth_mem (l := o) (i := q) (by omega))
        have h3 : (nth o q).toNat ≠ v := fun h3 => by
          have h4 : nth o q = nth o i := by omega
          rw [nth_eq (by omega), nth_eq (by omega)] at h4
          exact e ((List.getElem_inj hnd).1 h4)
        rw [nth_eq (by omega)] at h1
        rw [nth_eq (by rw [List.length_set]; omega), List.getElem_set_ne (Ne.symm h3), h1]
    · dsimp only
      obtain ⟨Z, hZ⟩ : ∃ Z, (A.set v (i : Int)).map intf = Z := ⟨_, rfl⟩
      rw [hZ]
      exact (FLe.conv [⟨100, some 100, 0, ⟨0, .own, 3, 1, Z⟩⟩] (by simp) (by simp) rfl (by repeat (first | exact GhOk.nil | refine GhOk.low rfl ?_ | refine GhOk.same rfl ?_ | refine GhOk.bump (Nat.lt_succ_self _) ?_)) (by repeat (first | exact EntsOk.nil | refine EntsOk.old rfl (by decide) (by first | rfl | (simp; done) | (congr 1; omega) | (simp; omega) | (simp [List.take_of_length_le]; done) | (refine congrArg (FV.int .i64) ?_; omega)) ?_)) (by repeat (first | exact SlC.nil | refine SlC.cons (.plain rfl rfl (by first | rfl | (simp; done) | (congr 1; omega) | (simp; omega) | (simp [List.take_of_length_le]; done) | (refine congrArg (FV.int .i64) ?_; omega))) ?_ | refine SlC.cons (.own rfl (.head _) rfl (by first | rfl | (simp; done) | (congr 1; omega) | (simp; omega) | (simp [List.take_of_length_le]; done) | (refine congrArg (FV.int .i64) ?_; omega))) ?_)))
  · have he : i = n := by simp at h; omega
    subst he
    clear h
    (repeat (first | refine FW.seq ?_ | refine FW.region ?_ | refine FW.block ?_ | refine FW.exit ?_ | refine RunN.nil ?_ | refine rn_assign rfl rfl rfl ?_))
    refine FW.loop (fun k : Nat => ⟨[(1, .list 2 (E.map edf)), (7, .own 100 0 0 i), (9, .int .i64 k)], [(100, ⟨0, .own, 3, 1, A.map intf⟩)]⟩) (fun k => k ≤ E.length) (fun k => E.length - k) 0 (Nat.zero_le _) (FLe.conv [⟨100, some 100, 0, ⟨0, .own, 3, 1, A.map intf⟩⟩] (by simp) (by simp) rfl (by repeat (first | exact GhOk.nil | refine GhOk.low rfl ?_ | refine GhOk.same rfl ?_ | refine GhOk.bump (Nat.lt_succ_self _) ?_)) (by repeat (first | exact EntsOk.nil | refine EntsOk.old rfl (by decide) (by first | rfl | (simp; done) | (congr 1; omega) | (simp; omega) | (simp [List.take_of_length_le]; done) | (refine congrArg (FV.int .i64) ?_; omega)) ?_)) (by repeat (first | exact SlC.nil | refine SlC.cons (.plain rfl rfl (by first | rfl | (simp; done) | (congr 1; omega) | (simp; omega) | (simp [List.take_of_length_le]; done) | (refine congrArg (FV.int .i64) ?_; omega))) ?_ | refine SlC.cons (.own rfl (.head _) rfl (by first | rfl | (simp; done) | (congr 1; omega) | (simp; omega) | (simp [List.take_of_length_le]; done) | (refine congrArg (FV.int .i64) ?_; omega))) ?_))) ?_
    intro k hk
    (repeat (first | refine FW.seq ?_ | refine FW.region ?_ | refine RunN.nil ?_ | refine rn_move rfl rfl rfl ?_ | refine rn_lenList rfl rfl (by first | exact List.length_map _ | exact (List.length_map _).symm | exact List.length_replicate | rfl | (simp; done) | omega | (simp; omega)) rfl rfl ?_ | refine rn_lss rfl rfl rfl rfl ?_))
    refine FW.cond rfl (fun h => ?_) (fun h => ?_)
    · have hlt : k < E.length := by simpa using h
      clear h
      have hm := nth_mem hlt
      obtain ⟨p1, hp1, e1⟩ := hpos _ (hE _ hm).1
      obtain ⟨p2, hp2, e2⟩ := hpos _ (hE _ hm).2
      have h12 := hf _ hm p1 p2 hp1 hp2 e1 e2
      have h1 := hAq p1 hp1
      have h2 := hAq p2 hp2
      have h3 := (hE _ hm).1
      have h4 := (hE _ hm).2
      rw [e1, Int.toNat_natCast] at h1
      rw [e2, Int.toNat_natCast] at h2
      (repeat (first | refine FW.seq ?_ | refine FW.block ?_ | refine FW.skip ?_ | refine FW.draw ?_ | refine RunD.nil ?_ | refine rd_move rfl rfl rfl ?_ | refine rd_indexL rfl rfl (by first | rfl | exact (Int.toNat_of_nonneg (by omega)).symm) rfl rfl rfl (by first | omega | (simp; omega) | (simp; done)) rfl rfl ?_ | refine rd_indexO rfl rfl (by first | rfl | exact (Int.toNat_of_nonneg (by omega)).symm) rfl rfl rfl (by decide) rfl (by first | omega | (simp; omega) | (simp; done)) rfl rfl ?_ | refine rd_indexAE rfl rfl (by first | rfl | exact (Int.toNat_of_nonneg (by omega)).symm) rfl rfl rfl (by first | omega | (simp; omega) | (simp; done)) rfl rfl ?_ | refine rd_loadE rfl rfl rfl (by first | omega | (simp; omega) | (simp; done)) (by first | exact getD_map (by omega) | rfl) rfl rfl rfl rfl ?_ | refine rd_loadP rfl rfl rfl rfl rfl (by first | omega | (simp; omega) | (simp; done)) (by first | exact getD_map (by omega) | rfl) rfl rfl rfl rfl ?_ | refine rd_geq rfl rfl rfl rfl ?_))
      refine ⟨by kernel_rfl, ?_⟩
      refine FW.cond rfl (fun h => ?_) (fun h => ?_)
      · exfalso
        have h' : nth A (nth E k).fst ≥ nth A (nth E k).snd := by simpa using h
        omega
      clear h
      (repeat (first | refine FW.region ?_ | refine FW.skip ?_ | refine RunN.nil ?_ | refine rn_assign rfl rfl rfl ?_ | refine rn_move rfl rfl rfl ?_ | refine rn_add rfl rfl (by omega) rfl rfl ?_))
      exact ⟨k + 1, by omega, by omega, (FLe.conv [⟨100, some 100, 0, ⟨0, .own, 3, 1, A.map intf⟩⟩] (by simp) (by simp) rfl (by repeat (first | exact GhOk.nil | refine GhOk.low rfl ?_ | refine GhOk.same rfl ?_ | refine GhOk.bump (Nat.lt_succ_self _) ?_)) (by repeat (first | exact EntsOk.nil | refine EntsOk.old rfl (by decide) (by first | rfl | (simp; done) | (congr 1; omega) | (simp; omega) | (simp [List.take_of_length_le]; done) | (refine congrArg (FV.int .i64) ?_; omega)) ?_)) (by repeat (first | exact SlC.nil | refine SlC.cons (.plain rfl rfl (by first | rfl | (simp; done) | (congr 1; omega) | (simp; omega) | (simp [List.take_of_length_le]; done) | (refine congrArg (FV.int .i64) ?_; omega))) ?_ | refine SlC.cons (.own rfl (.head _) rfl (by first | rfl | (simp; done) | (congr 1; omega) | (simp; omega) | (simp [List.take_of_length_le]; done) | (refine congrArg (FV.int .i64) ?_; omega))) ?_)))⟩
    · (repeat (first | refine FW.seq ?_ | refine FW.region ?_ | refine FW.exit ?_ | refine RunN.nil ?_ | refine rn_assign rfl rfl rfl ?_))
      exact FW.ret ⟨.inl rfl, ret_flat rfl rfl rfl rfl⟩
end Go.Proofs.Ytflkbehbenlhaaa
