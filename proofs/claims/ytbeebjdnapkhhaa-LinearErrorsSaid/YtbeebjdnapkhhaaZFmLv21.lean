/-
  lives of layer 21, at plain values.
-/
import Derived.Test.YtbeebjdnapkhhaaZFmLinC
import Derived.Test.YtbeebjdnapkhhaaZFmX2
import Derived.Test.YtbeebjdnapkhhaaZG
namespace Go.Proofs.Ytbeebjdnapkhhaa
set_option linter.unusedVariables false
open Go.RowKit

def lv21 (r : Int) : List OpV := [⟨0, 1, 0, 5, 0, 0, 3, true⟩, ⟨1, 0, 0, 0, 5, 1, 2, true⟩, ⟨2, 0, 0, 0, r, 4, 5, true⟩]
theorem ex21c (r : Int) (h : r = 0 ∨ r = 5) : hCheck (lv21 r) = 0 := by rcases h with rfl | rfl <;> decide +kernel
theorem ex21d (r : Int) (h : r = 0 ∨ r = 5) : dom21 (lv21 r) := by rcases h with rfl | rfl <;> decide +kernel
theorem ex21a : vKey (lv21 0) = some 0 := by unfold vKey; rw [hKeys_eq]; decide +kernel
theorem ex21b : vioV (lv21 0) 0 = ⟨4, [], [(1, 2)]⟩ := by decide +kernel
theorem ex21n : vKey (lv21 5) = none := by unfold vKey; rw [hKeys_eq]; decide +kernel
theorem linL_at {l : List OpV} {K : List Int} (H : H21 l) (V : ∀ c ∈ K, VO l c) (hK : ∀ i, i < l.length → (nth l i).key ∈ K) {i : Nat} (hi : i < l.length) (ii : inclR l i = true) : tauL l K i < (linL l K).length ∧ nth (linL l K) (tauL l K i) = i := by
 have E := linN_ok H V hK
 have mi := incL_mem.2 ⟨hi, ii⟩
 have hm := E.mem (numI_lt mi)
 have h1 : tauL l K i < (linN l K).length := posN_lt hm
 refine ⟨by unfold linL; rw [List.length_map]; exact h1, ?_⟩
 have e : nth (linN l K) (tauL l K i) = numI l i := posN_nth hm
 unfold linL
 rw [nth_eq (by rw [List.length_map]; exact h1), List.getElem_map, ← nth_eq h1, e, numI_nth mi]
theorem ex21l : linL (lv21 5) (hKeys (lv21 5)) = [0, 1, 2] := by
 have H := check_h21 (ex21c 5 (.inr rfl)) (ex21d 5 (.inr rfl))
 have V := vKey_none.1 ex21n
 have hK := hKeys_all (lv21 5)
 have T := linL_tau H V hK
 have hin : ∀ i, i < 3 → inclR (lv21 5) i = true := by decide +kernel
 have hlen : (linL (lv21 5) (hKeys (lv21 5))).length = 3 := by rw [linL_len H V hK]; decide +kernel
 have t02 := T.rt 0 2 (by decide) (by decide) (hin 0 (by decide)) (hin 2 (by decide)) (by decide +kernel)
 have t12 := T.rt 1 2 (by decide) (by decide) (hin 1 (by decide)) (hin 2 (by decide)) (by decide +kernel)
 have t01 : tauL (lv21 5) (hKeys (lv21 5)) 0 ≤ tauL (lv21 5) (hKeys (lv21 5)) 1 := by
  rcases T.rd 1 (by decide) (by decide) (by decide) with ⟨e, _⟩ | ⟨w, hw, ha, hle, _⟩
  ·exact absurd e (by decide)
  ·have hw0 : w = 0 := by
    have h1 := hw.1
    have h2 := hw.2.2.1
    have hl : (lv21 5).length = 3 := rfl
    rw [hl] at h1
    match w, h1, h2 with
    | 0, _, _ => rfl
    | 1, _, h2 => exact absurd h2 (by decide)
    | 2, _, h2 => exact absurd h2 (by decide)
   rw [hw0] at hle; exact hle
 have n01 : tauL (lv21 5) (hKeys (lv21 5)) 0 ≠ tauL (lv21 5) (hKeys (lv21 5)) 1 := fun e => absurd (tau_inj H V hK (by decide) (by decide) (hin 0 (by decide)) (hin 1 (by decide)) e) (by decide)
 obtain ⟨a0, b0⟩ := linL_at H V hK (i := 0) (by decide) (hin 0 (by decide))
 obtain ⟨a1, b1⟩ := linL_at H V hK (i := 1) (by decide) (hin 1 (by decide))
 obtain ⟨a2, b2⟩ := linL_at H V hK (i := 2) (by decide) (hin 2 (by decide))
 rw [hlen] at a0 a1 a2
 rw [show tauL (lv21 5) (hKeys (lv21 5)) 0 = 0 by omega] at b0
 rw [show tauL (lv21 5) (hKeys (lv21 5)) 1 = 1 by omega] at b1
 rw [show tauL (lv21 5) (hKeys (lv21 5)) 2 = 2 by omega] at b2
 refine list_ext_nth (by rw [hlen]; rfl) fun i hi => ?_
 rw [hlen] at hi
 match i, hi with
 | 0, _ => rw [b0]; rfl
 | 1, _ => rw [b1]; rfl
 | 2, _ => rw [b2]; rfl
theorem ex21A : linF (lv21 0) = [.int .i64 2, .int .i64 4, .int .i64 0, .list 1 [], .list 3 [rtf (1, 2)]] ∧ linE (lv21 0) = 0 := by
 have hE : linE (lv21 0) = 0 := by
  unfold linE
  rw [if_neg (by rw [ex21c 0 (.inl rfl)]; decide), if_pos (ex21d 0 (.inl rfl))]
 refine ⟨?_, hE⟩
 unfold linF linV
 rw [hE, if_neg (by decide), ex21a]
 dsimp only
 rw [ex21b]; rfl
theorem ex21B : linF (lv21 5) = [.int .i64 2, .int .i64 0, .int .i64 0, .list 1 ([0, 1, 2].map intf), .list 3 []] ∧ linE (lv21 5) = 0 := by
 have hE : linE (lv21 5) = 0 := by
  unfold linE
  rw [if_neg (by rw [ex21c 5 (.inr rfl)]; decide), if_pos (ex21d 5 (.inr rfl))]
 refine ⟨?_, hE⟩
 unfold linF linV
 rw [hE, if_neg (by decide), ex21n]
 dsimp only
 rw [ex21l]; rfl
set_option maxHeartbeats 4000000 in
theorem lives21_spec : Spec Try.prog 16 [] .fr (.bool true) := by
 have hA := linCheck_spec (lv21 0) (by decide) (fun o ho => by simp only [lv21, List.mem_cons, List.not_mem_nil, or_false] at ho; rcases ho with rfl | rfl | rfl <;> (unfold OpIn I64; decide))
 have hB := linCheck_spec (lv21 5) (by decide) (fun o ho => by simp only [lv21, List.mem_cons, List.not_mem_nil, or_false] at ho; rcases ho with rfl | rfl | rfl <;> (unfold OpIn I64; decide))
 rw [ex21A.1, ex21A.2] at hA
 rw [ex21B.1, ex21B.2] at hB
 change Spec _ _ [.list 8 [OpV.fv ⟨0, 1, 0, 5, 0, 0, 3, true⟩, OpV.fv ⟨1, 0, 0, 0, 5, 1, 2, true⟩, OpV.fv ⟨2, 0, 0, 0, 0, 4, 5, true⟩]] _ _ at hA
 refine Spec.of_body (c := (cxOf Try.prog tyAt_ok mixed_ok 65)) ⟨Try.func16, rfl, Try.ntmps16, by kernel_rfl⟩ (by simp [FV.hand]) (by exact Nat.le_of_ble_eq_true rfl) rfl ?_
 change FW _ _ _ ⟨[], []⟩
 (repeat (first | refine FW.seq ?_ | refine FW.region ?_ | refine RunN.nil ?_ | refine rn_assign rfl rfl rfl ?_ | refine rn_buildK rfl rfl rfl rfl ?_ | refine FillK.nil ?_ | refine FillK.one rfl rfl rfl rfl rfl ?_))
 refine rn_buildSF (es := [OpV.fv ⟨0, 1, 0, 5, 0, 0, 3, true⟩, OpV.fv ⟨1, 0, 0, 0, 5, 1, 2, true⟩, OpV.fv ⟨2, 0, 0, 0, 0, 4, 5, true⟩]) rfl rfl rfl (by refine PtsS.agg rfl rfl rfl ?_; refine PtsS.agg rfl rfl rfl ?_; refine PtsS.agg rfl rfl rfl ?_; exact PtsS.nil) rfl rfl rfl rfl rfl rfl ?_
 (repeat (first | refine FW.seq ?_ | refine FW.region ?_ | refine RunN.nil ?_ | refine rn_assign rfl rfl rfl ?_ | refine rn_move rfl rfl rfl ?_))
 refine rn_callS1 hA rfl rfl rfl (by decide +kernel) (by decide +kernel) rfl rfl ?_
 (repeat (first | refine FW.seq ?_ | refine FW.region ?_ | refine FW.skip ?_ | refine FW.condF rfl ?_ | refine RunN.nil ?_ | refine rn_assign rfl rfl rfl ?_ | refine rn_move rfl rfl rfl ?_ | refine rn_extract rfl rfl rfl rfl rfl ?_ | refine rn_alloc rfl rfl rfl rfl rfl rfl rfl ?_ | refine rn_storeVA rfl rfl rfl rfl rfl rfl rfl rfl rfl ?_ | refine rn_storeR rfl rfl rfl rfl rfl rfl (by simp; done) rfl rfl rfl rfl ?_ | refine rn_neq rfl rfl rfl rfl ?_ | refine rn_fieldP rfl rfl rfl rfl rfl rfl (by decide) rfl rfl ?_ | refine rn_pickF rfl rfl rfl rfl ?_ | refine rn_indexO rfl rfl rfl rfl rfl rfl (by decide) rfl (by simp; done) rfl rfl ?_ | refine rn_fieldP rfl rfl rfl rfl rfl rfl (by decide) rfl ⟨_, _, rfl, rfl, rfl⟩ ?_ | refine rn_loadP rfl rfl rfl rfl rfl (by simp; done) rfl rfl rfl rfl ⟨_, _, rfl, rfl, rfl⟩ ?_ | refine rn_neq rfl rfl rfl ⟨_, _, rfl, rfl, rfl⟩ ?_ | refine rn_lenList rfl rfl (by first | rfl | (simp; done)) rfl ⟨_, _, rfl, rfl, rfl⟩ ?_))
 refine RunN.le ?_ (FLe.share 38 rfl rfl (by rfl))
 refine rn_callS hB (by repeat (first | exact ArgsR.nil | refine ArgsR.cons (by exact ArgR.plain rfl rfl) ?_)) rfl rfl ?_
 (repeat (first | refine FW.seq ?_ | refine FW.region ?_ | refine RunN.nil ?_ | refine rn_assign rfl rfl rfl ?_ | refine rn_move rfl rfl rfl ?_ | refine rn_extract rfl rfl rfl rfl rfl ?_ | refine rn_alloc rfl rfl rfl rfl rfl rfl rfl ?_ | refine rn_storeVA rfl rfl rfl rfl rfl rfl rfl rfl rfl ?_ | refine rn_fieldE rfl rfl rfl rfl rfl rfl rfl ?_ | refine rn_fieldP rfl rfl rfl rfl rfl rfl (by decide) rfl rfl ?_ | refine rn_loadE rfl rfl rfl (by simp; done) rfl rfl rfl rfl rfl ?_ | refine rn_loadP rfl rfl rfl rfl rfl (by simp; done) rfl rfl rfl rfl rfl ?_ | refine rn_pickT rfl rfl rfl rfl ?_ | refine rn_indexL rfl rfl rfl rfl rfl rfl (by simp; done) rfl rfl ?_ | refine rn_eql rfl rfl rfl rfl ?_ | refine rn_fieldP rfl rfl rfl rfl rfl rfl (by decide) rfl ⟨_, _, rfl, rfl, rfl⟩ ?_ | refine rn_loadP rfl rfl rfl rfl rfl (by simp; done) rfl rfl rfl rfl ⟨_, _, rfl, rfl, rfl⟩ ?_ | refine rn_move rfl rfl ⟨_, _, rfl, rfl, rfl⟩ ?_ | refine rn_eql rfl rfl rfl ⟨_, _, rfl, rfl, rfl⟩ ?_))
 refine rn_buildS (es := [0, 1, 2].map intf) rfl rfl rfl (by refine PtsS.int rfl rfl ?_; refine PtsS.int rfl rfl ?_; refine PtsS.int rfl rfl ?_; exact PtsS.nil) rfl rfl rfl rfl rfl ⟨_, _, rfl, rfl, rfl⟩ ?_
 refine rn_call (sameInts_spec [0, 1, 2] [0, 1, 2] (by decide) (by decide)) (by repeat (first | exact ArgsR.nil | refine ArgsR.cons (by first | exact ArgR.plain rfl rfl | exact ArgR.own rfl rfl (by decide) (by first | exact (fun _ => rfl) | (intro h; cases h)) (by first | rfl | (simp; done) | (congr 1; omega) | (simp; omega) | (simp [List.take_of_length_le]; done) | (refine congrArg (FV.int .i64) ?_; omega))) ?_)) rfl ⟨_, _, rfl, rfl, rfl⟩ ?_
 (repeat (first | refine RunN.nil ?_ | refine rn_assign rfl rfl rfl ?_ | refine rn_pickT rfl rfl rfl rfl ?_))
 exact FW.ret ⟨.inl rfl, ret_flat rfl rfl rfl rfl⟩
end Go.Proofs.Ytbeebjdnapkhhaa
