/-
  simprooflaw21.LinearErrors answers true for every input (walked on plain values).
-/
import Derived.Test.YtbeebjdnapkhhaaZFmLv21
import Derived.Test.YtbeebjdnapkhhaaZFmRf1
import Derived.Test.YtbeebjdnapkhhaaZI
namespace Go.Proofs.Ytbeebjdnapkhhaa
set_option linter.unusedVariables false
open Go.RowKit

def opsf2 (l : List OpV) : List FV := [.list 8 (l.map OpV.fv)]
theorem linE_err (L : List OpV) : (hCheck L ≠ 0 → linE L = hCheck L) ∧ (hCheck L = 0 → ¬ dom21 L → linE L = 22) ∧ (hCheck L = 0 → dom21 L → linE L = 0) := by
 refine ⟨fun h => by rw [linE, if_pos h], fun h1 h2 => by rw [linE, if_neg (by simp [h1]), if_neg h2], fun h1 h2 => by rw [linE, if_neg (by simp [h1]), if_pos h2]⟩
set_option maxHeartbeats 8000000 in
theorem linearErrors_spec (raw : List OpV) (l : List Int) (at_ kind : Int) (hr : ∀ o ∈ raw, OpIn o) (_ : raw.length ≤ 9223372036854775807) (hl : ∀ x ∈ l, I64 x) (hlen : l.length ≤ 9223372036854775807) (ia : I64 at_) (ik : I64 kind) :
  Spec Try.prog 9 [.list 8 (raw.map OpV.fv), .list 1 (l.map intf), .int .i64 at_, .int .i64 kind] .fr (.bool true) := by
 have hf := histQ_fine false l
 have hB := histQ_spec false l hl hlen
 obtain ⟨h0, hh⟩ : ∃ h0, histQ false l = h0 := ⟨_, rfl⟩
 rw [hh] at hf hB
 have hlen60 := hf.len
 have hin := hf.inn
 have h7 := around_spec kind 7 ik (by decide) (by decide)
 obtain ⟨v, hv⟩ : ∃ v, around kind 7 = v := ⟨_, rfl⟩
 have rv : 0 ≤ v ∧ v < 7 := hv ▸ ⟨around_lo (by decide), around_hi (by decide)⟩
 rw [hv] at h7
 have efew : List.take ((min (raw.length : Int) 6).toNat - 0) (List.drop 0 (List.map OpV.fv raw)) = (raw.take 6).map OpV.fv := by
  rw [List.drop_zero, ← List.map_take, Nat.sub_zero]
  rcases Nat.le_total raw.length 6 with h6 | h6
  ·rw [List.take_of_length_le h6, List.take_of_length_le (by omega)]
  ·rw [show (min (raw.length : Int) 6).toNat = 6 by omega]
 refine Spec.of_body (c := (cxOf Try.prog tyAt_ok mixed_ok 70)) ⟨Try.func9, rfl, Try.ntmps9, by kernel_rfl⟩ (by simp [FV.hand]) (by exact Nat.le_of_ble_eq_true rfl) rfl ?_
 change FW _ _ _ ⟨[(0, .list 8 (raw.map OpV.fv)), (1, .list 1 (l.map intf)), (2, .int .i64 at_), (3, .int .i64 kind)], []⟩
 (repeat (first | refine FW.seq ?_ | refine FW.region ?_ | refine RunN.nil ?_ | refine rn_assign rfl rfl rfl ?_ | refine rn_move rfl rfl rfl ?_ | refine rn_lenList rfl rfl (by first | exact List.length_map _ | omega | (simp; omega)) rfl rfl ?_ | refine rn_min rfl rfl rfl rfl ?_ | refine rn_sliceL rfl rfl rfl rfl (by exact LoR.none) (by exact HiR.lit rfl (by first | rfl | exact (Int.toNat_of_nonneg (by omega)).symm)) (by first | omega | (simp; omega)) (by first | omega | (simp; omega)) rfl rfl ?_))
 refine rn_callO hB (by repeat (first | exact ArgsR.nil | refine ArgsR.cons (by exact ArgR.plain rfl rfl) ?_)) (List.length_map _) rfl rfl rfl ?_
 rw [efew]
 (repeat (first | refine FW.seq ?_ | refine FW.region ?_ | refine RunN.nil ?_ | refine rn_assign rfl rfl rfl ?_ | refine rn_move rfl rfl rfl ?_ | refine rn_lenOwn rfl rfl rfl (by decide) rfl rfl ?_ | refine rn_gtr rfl rfl rfl rfl ?_))
 refine FW.join (fun h : List OpV => ⟨[(9, .list 8 ((raw.take 6).map OpV.fv)), (10, .own 100 0 0 h.length)], [(100, ⟨0, .own, 41, 8, h.map OpV.fv⟩)]⟩) (fun h => (∀ o ∈ h, OpIn o) ∧ h.length ≤ 60) ?_ ?_
 ·refine FW.cond rfl (fun h1 => ?_) (fun h1 => ?_)
  ·have hpos : 0 < h0.length := by simp at h1; omega
   obtain ⟨x, hx⟩ : ∃ x : Nat, around at_ h0.length = x := ⟨(around at_ h0.length).toNat, (Int.toNat_of_nonneg (around_lo (by omega))).symm⟩
   have hxl : x < h0.length := by have := around_hi (n := at_) (most := h0.length) (by omega); omega
   have hA : Spec (Try.prog) 25 [.int .i64 at_, .int .i64 h0.length] .fr (.int .i64 (x : Int)) := by
    have := around_spec at_ h0.length ia (by omega) (by omega)
    rwa [hx] at this
   (repeat (first | refine FW.region ?_ | refine rn_move rfl rfl rfl ?_ | refine rn_lenOwn rfl rfl rfl (by decide) rfl rfl ?_))
   refine rn_call hA (by repeat (first | exact ArgsR.nil | refine ArgsR.cons (by exact ArgR.plain rfl rfl) ?_)) rfl rfl ?_
   (repeat (first | refine rn_move rfl rfl rfl ?_))
   refine rn_call h7 (by repeat (first | exact ArgsR.nil | refine ArgsR.cons (by exact ArgR.plain rfl rfl) ?_)) rfl rfl ?_
   (repeat (first | refine RunN.nil ?_ | refine rn_sub rfl rfl (by omega) rfl rfl ?_ | refine rn_indexO rfl rfl rfl rfl rfl rfl (by decide) rfl (by first | omega | (simp; omega)) rfl rfl ?_ | refine rn_fieldP rfl rfl rfl rfl rfl rfl (by decide) rfl rfl ?_ | refine rn_storeR rfl rfl rfl rfl rfl rfl (by first | omega | (simp; omega)) (by first | exact getD_map (by omega) | rfl) rfl rfl rfl ?_))
   refine ⟨rfl, h0.set x { nth h0 x with k := v - 1 }, ⟨fun o ho => ?_, by simpa using hlen60⟩, ?_⟩
   ·rcases List.mem_or_eq_of_mem_set ho with ho | rfl
    ·exact hin o ho
    ·have := hin _ (nth_mem hxl)
     unfold OpIn I64 at this ⊢
     exact ⟨this.1, by dsimp only; omega, this.2.2⟩
   ·dsimp only
    rw [mapO_set]
    exact (FLe.conv [⟨100, some 22, 1, ⟨0, .own, 41, 8, (h0.map OpV.fv).set x ((OpV.fv (nth h0 x)).set 1 (.int .i64 (v - 1)))⟩⟩] (by simp) (by simp) rfl (by repeat (first | exact .nil | refine .low rfl ?_ | refine .same rfl ?_ | refine .bump (Nat.lt_succ_self _) ?_)) (by repeat (first | exact .nil | refine .old rfl (by decide) (by first | rfl | (simp; done)) ?_)) (by repeat (first | exact .nil | refine .cons (.plain rfl rfl (by first | rfl | (simp; done))) ?_ | refine .cons (.own rfl (.head _) rfl (by first | rfl | (simp; done))) ?_)))
  ·(repeat (first | refine FW.skip ?_))
   exact ⟨rfl, h0, ⟨hin, hlen60⟩, (FLe.conv [⟨100, some 22, 1, ⟨0, .own, 41, 8, h0.map OpV.fv⟩⟩] (by simp) (by simp) rfl (by repeat (first | exact .nil | refine .low rfl ?_ | refine .same rfl ?_ | refine .bump (Nat.lt_succ_self _) ?_)) (by repeat (first | exact .nil | refine .old rfl (by decide) rfl ?_)) (by repeat (first | exact .nil | refine .cons (.plain rfl rfl rfl) ?_ | refine .cons (.own rfl (.head _) rfl rfl) ?_)))⟩
 ·rintro h ⟨hin1, hlen1⟩
  (repeat (first | refine FW.seq ?_ | refine FW.region ?_ | refine rn_move rfl rfl rfl ?_))
  refine RunN.le ?_ (FLe.share 37 rfl rfl (List.length_map _).symm)
  refine rn_buildSK rfl rfl rfl rfl rfl rfl rfl rfl rfl ?_
  (repeat (first | refine FW.seq ?_ | refine FW.region ?_ | refine FW.block ?_ | refine RunN.nil ?_ | refine rn_assign rfl rfl rfl ?_ | refine PtsK.nil ?_ | refine PtsK.one rfl rfl rfl ?_))
  have hin5 : ∀ L ∈ [raw.take 6, h], (∀ o ∈ L, OpIn o) ∧ L.length ≤ 1000000 := by
   intro L hL
   simp only [List.mem_cons, List.not_mem_nil, or_false] at hL
   rcases hL with rfl | rfl
   ·exact ⟨fun o ho => hr o (List.mem_of_mem_take ho), by rw [List.length_take]; omega⟩
   ·exact ⟨hin1, by omega⟩
  refine FW.loop (fun k : Nat => ⟨[(11, .own 55 0 0 2), (12, .int .i64 k)], [(55, ⟨0, .own, 24, 1, [raw.take 6, h].map opsf2⟩)]⟩) (fun k => k ≤ 2) (fun k => 2 - k) 0 (Nat.zero_le _)
   (FLe.conv [⟨55, some 38, 1, ⟨0, .own, 24, 1, [raw.take 6, h].map opsf2⟩⟩] (by simp) (by simp) rfl (by repeat (first | exact .nil | refine .low rfl ?_ | refine .same rfl ?_ | refine .bump (Nat.lt_succ_self _) ?_)) (by repeat (first | exact .nil | refine .old rfl (by decide) rfl ?_)) (by repeat (first | exact .nil | refine .cons (.plain rfl rfl rfl) ?_ | refine .cons (.own rfl (.head _) rfl rfl) ?_))) ?_
  intro k hk
  (repeat (first | refine FW.seq ?_ | refine FW.region ?_ | refine RunN.nil ?_ | refine rn_move rfl rfl rfl ?_ | refine rn_lss rfl rfl rfl rfl ?_))
  refine FW.cond rfl (fun hc => ?_) (fun hc => ?_)
  ·have hlt : k < 2 := by simp at hc; omega
   have hlt5 : k < [raw.take 6, h].length := hlt
   obtain ⟨q1, q3⟩ := hin5 _ (nth_mem hlt5)
   have q2 : (nth [raw.take 6, h] k).length ≤ 1000000000 := by omega
   have hcs := hCheck_spec _ q1 q2
   have dcs := rDomain21_spec _ q3
   have ocs := linCheck_spec _ q2 q1
   obtain ⟨f1, f2, f3, f4, f5, hform⟩ := linF_form (nth [raw.take 6, h] k)
   rw [hform] at ocs
   obtain ⟨w1, w2, w3⟩ := linE_err (nth [raw.take 6, h] k)
   clear hc
   (repeat (first | refine FW.seq ?_ | refine FW.region ?_ | refine FW.block ?_ | refine FW.skip ?_ | refine rn_move rfl rfl rfl ?_ | refine rn_indexO rfl rfl rfl rfl rfl rfl (by decide) rfl (by first | omega | (simp; omega)) rfl rfl ?_ | refine rn_loadP rfl rfl rfl rfl rfl (by first | omega | (simp; omega)) (by first | exact getD_map (by omega) | rfl) rfl rfl rfl rfl ?_))
   refine rn_call hcs (by repeat (first | exact ArgsR.nil | refine ArgsR.cons (by exact ArgR.plain rfl rfl) ?_)) rfl rfl ?_
   (repeat (first | refine FW.seq ?_ | refine FW.region ?_ | refine RunN.nil ?_ | refine rn_assign rfl rfl rfl ?_ | refine rn_move rfl rfl rfl ?_ | refine rn_eql rfl rfl rfl rfl ?_))
   refine rn_case (fun e1 => ?_) (fun e1 => ?_)
   ·have e1 : hCheck (nth [raw.take 6, h] k) = 0 := by simpa using e1
    (repeat (first | refine rn_move rfl rfl ⟨_, _, rfl, rfl, rfl⟩ ?_ | refine rn_indexO rfl rfl rfl rfl rfl rfl (by decide) rfl (by first | omega | (simp; omega)) rfl ⟨_, _, rfl, rfl, rfl⟩ ?_ | refine rn_loadP rfl rfl rfl rfl rfl (by first | omega | (simp; omega)) (by first | exact getD_map (by omega) | rfl) rfl rfl rfl ⟨_, _, rfl, rfl, rfl⟩ ?_))
    refine rn_call dcs (by repeat (first | exact ArgsR.nil | refine ArgsR.cons (by exact ArgR.plain rfl rfl) ?_)) rfl ⟨_, _, rfl, rfl, rfl⟩ ?_
    (repeat (first | refine RunN.nil ?_ | refine rn_pickT rfl rfl rfl rfl ?_ | refine rn_not rfl rfl ⟨_, _, rfl, rfl, rfl⟩ ?_))
    refine FW.cond rfl (fun e2 => ?_) (fun e2 => ?_)
    ·have e2 : ¬ dom21 (nth [raw.take 6, h] k) := by simpa using e2
     (repeat (first | refine FW.seq ?_ | refine FW.region ?_ | refine RunN.nil ?_ | refine rn_assign rfl rfl rfl ?_ | refine rn_move rfl rfl rfl ?_ | refine rn_indexO rfl rfl rfl rfl rfl rfl (by decide) rfl (by first | omega | (simp; omega)) rfl rfl ?_ | refine rn_loadP rfl rfl rfl rfl rfl (by first | omega | (simp; omega)) (by first | exact getD_map (by omega) | rfl) rfl rfl rfl rfl ?_))
     refine rn_callS ocs (by repeat (first | exact ArgsR.nil | refine ArgsR.cons (by exact ArgR.plain rfl rfl) ?_)) rfl rfl ?_
     rw [w2 e1 e2]
     (repeat (first | refine FW.seq ?_ | refine FW.region ?_ | refine FW.skip ?_ | refine FW.condF rfl ?_ | refine RunN.nil ?_ | refine rn_assign rfl rfl rfl ?_ | refine rn_move rfl rfl rfl ?_ | refine rn_storeVA rfl rfl rfl rfl rfl rfl rfl rfl rfl ?_ | refine rn_extract rfl rfl rfl rfl rfl ?_ | refine rn_alloc rfl rfl rfl rfl rfl rfl rfl ?_ | refine rn_neq rfl rfl rfl rfl ?_ | refine rn_add rfl rfl (by omega) rfl rfl ?_))
     exact ⟨k + 1, by omega, by omega, (FLe.conv [⟨55, some 55, 0, ⟨0, .own, 24, 1, [raw.take 6, h].map opsf2⟩⟩] (by simp) (by simp) rfl (by repeat (first | exact .nil | refine .low rfl ?_ | refine .same rfl ?_ | refine .bump (Nat.lt_succ_self _) ?_)) (by repeat (first | exact .nil | refine .old rfl (by decide) rfl ?_)) (by repeat (first | exact .nil | refine .cons (.plain rfl rfl rfl) ?_ | refine .cons (.own rfl (.head _) rfl rfl) ?_)))⟩
    ·have e2 : dom21 (nth [raw.take 6, h] k) := by simpa using e2
     (repeat (first | refine FW.seq ?_ | refine FW.region ?_ | refine FW.skip ?_ | refine rn_move rfl rfl rfl ?_ | refine rn_indexO rfl rfl rfl rfl rfl rfl (by decide) rfl (by first | omega | (simp; omega)) rfl rfl ?_ | refine rn_loadP rfl rfl rfl rfl rfl (by first | omega | (simp; omega)) (by first | exact getD_map (by omega) | rfl) rfl rfl rfl rfl ?_))
     refine rn_callS ocs (by repeat (first | exact ArgsR.nil | refine ArgsR.cons (by exact ArgR.plain rfl rfl) ?_)) rfl rfl ?_
     rw [w3 e1 e2, e1]
     (repeat (first | refine FW.seq ?_ | refine FW.region ?_ | refine FW.skip ?_ | refine FW.condF rfl ?_ | refine RunN.nil ?_ | refine rn_assign rfl rfl rfl ?_ | refine rn_move rfl rfl rfl ?_ | refine rn_storeVA rfl rfl rfl rfl rfl rfl rfl rfl rfl ?_ | refine rn_extract rfl rfl rfl rfl rfl ?_ | refine rn_alloc rfl rfl rfl rfl rfl rfl rfl ?_ | refine rn_neq rfl rfl rfl rfl ?_ | refine rn_add rfl rfl (by omega) rfl rfl ?_))
     exact ⟨k + 1, by omega, by omega, (FLe.conv [⟨55, some 55, 0, ⟨0, .own, 24, 1, [raw.take 6, h].map opsf2⟩⟩] (by simp) (by simp) rfl (by repeat (first | exact .nil | refine .low rfl ?_ | refine .same rfl ?_ | refine .bump (Nat.lt_succ_self _) ?_)) (by repeat (first | exact .nil | refine .old rfl (by decide) rfl ?_)) (by repeat (first | exact .nil | refine .cons (.plain rfl rfl rfl) ?_ | refine .cons (.own rfl (.head _) rfl rfl) ?_)))⟩
   ·have e1 : hCheck (nth [raw.take 6, h] k) ≠ 0 := by simpa using e1
    (repeat (first | refine FW.seq ?_ | refine FW.region ?_ | refine FW.skip ?_ | refine FW.condF rfl ?_ | refine RunN.nil ?_ | refine rn_move rfl rfl rfl ?_ | refine rn_indexO rfl rfl rfl rfl rfl rfl (by decide) rfl (by first | omega | (simp; omega)) rfl rfl ?_ | refine rn_loadP rfl rfl rfl rfl rfl (by first | omega | (simp; omega)) (by first | exact getD_map (by omega) | rfl) rfl rfl rfl rfl ?_ | refine rn_pickF rfl rfl rfl rfl ?_ | refine rn_skip rfl rfl ⟨_, _, rfl, rfl, rfl⟩ ?_))
    refine rn_callS ocs (by repeat (first | exact ArgsR.nil | refine ArgsR.cons (by exact ArgR.plain rfl rfl) ?_)) rfl rfl ?_
    rw [w1 e1]
    (repeat (first | refine FW.seq ?_ | refine FW.region ?_ | refine RunN.nil ?_ | refine rn_assign rfl rfl rfl ?_ | refine rn_move rfl rfl rfl ?_ | refine rn_storeVA rfl rfl rfl rfl rfl rfl rfl rfl rfl ?_ | refine rn_extract rfl rfl rfl rfl rfl ?_ | refine rn_alloc rfl rfl rfl rfl rfl rfl rfl ?_ | refine rn_neq rfl rfl rfl rfl ?_))
    refine FW.cond rfl (fun e3 => absurd e3 (by simp)) (fun _ => ?_)
    (repeat (first | refine FW.region ?_ | refine FW.skip ?_ | refine RunN.nil ?_ | refine rn_assign rfl rfl rfl ?_ | refine rn_move rfl rfl rfl ?_ | refine rn_add rfl rfl (by omega) rfl rfl ?_))
    exact ⟨k + 1, by omega, by omega, (FLe.conv [⟨55, some 55, 0, ⟨0, .own, 24, 1, [raw.take 6, h].map opsf2⟩⟩] (by simp) (by simp) rfl (by repeat (first | exact .nil | refine .low rfl ?_ | refine .same rfl ?_ | refine .bump (Nat.lt_succ_self _) ?_)) (by repeat (first | exact .nil | refine .old rfl (by decide) rfl ?_)) (by repeat (first | exact .nil | refine .cons (.plain rfl rfl rfl) ?_ | refine .cons (.own rfl (.head _) rfl rfl) ?_)))⟩
  ·(repeat (first | refine FW.seq ?_ | refine FW.region ?_ | refine FW.exit ?_))
   refine rn_call lives21_spec (by repeat (first | exact ArgsR.nil)) rfl rfl ?_
   (repeat (first | refine RunN.nil ?_ | refine rn_assign rfl rfl rfl ?_))
   refine FW.ret ⟨.inl rfl, ret_flat rfl rfl rfl rfl⟩
end Go.Proofs.Ytbeebjdnapkhhaa
