/-
  linear.Check, at plain values.
-/
import Derived.Test.YtbeebjdnapkhhaaZFmLinz
import Derived.Test.YtbeebjdnapkhhaaZLinChk
import Derived.Test.YtbeebjdnapkhhaaZD
namespace Go.Proofs.Ytbeebjdnapkhhaa
set_option linter.unusedVariables false
open Go.RowKit

def LinV.fv (v : LinV) : List FV := [.int .i64 2, .int .i64 v.cls, .int .i64 v.arg, .list 1 (v.ord.map natf), .list 3 (v.ed.map rtf)]
def noV : List FV := [.int .i64 0, .int .i64 0, .int .i64 0, .list 1 [], .list 3 []]
def linE (l : List OpV) : Int := if hCheck l ≠ 0 then hCheck l else if dom21 l then 0 else 22
noncomputable def linF (l : List OpV) : List FV := if linE l ≠ 0 then noV else (linV l).fv
noncomputable def linRaw (l : List OpV) : List FV := match vKey l with
 | some c => (vioV l c).fv c
 | none => [.int .i64 2, .int .i64 0, .int .i64 0, .list 1 ((linL l (hKeys l)).map natf), .nil]
theorem noV_le (b : FV) : FV.le (.tup [.agg [.int .i64 0, .int .i64 0, .int .i64 0, .nil, .nil], b]) (.tup [.agg noV, b]) :=
 .tup (.cons (.agg (.cons (.refl _) (.cons (.refl _) (.cons (.refl _) (.cons (.nil 1) (.cons (.nil 3) .nil)))))) (.cons (.refl _) .nil))
theorem in21_len (l : List OpV) : (in21 l).length = l.length := inTo_len _ _
set_option maxHeartbeats 8000000 in
theorem linCheck_spec (l : List OpV) (hl : l.length ≤ 1000000000) (hin : ∀ o ∈ l, OpIn o) : Spec Try.prog 14 [.list 8 (l.map OpV.fv)] .sh (.tup [.agg (linF l), .int .i64 (linE l)]) := by
 have hwr := writers_spec l hl hin
 have hic := included_spec l hl hin
 have hck := hCheck_spec l hin hl
 have hks := hKeys_spec l (by omega)
 have hE : linE l = if hCheck l ≠ 0 then hCheck l else if dom21 l then 0 else 22 := rfl
 have hF : linF l = if linE l ≠ 0 then noV else (linV l).fv := rfl
 refine Spec.leS (r := if linE l ≠ 0 then .tup [.agg [.int .i64 0, .int .i64 0, .int .i64 0, .nil, .nil], .int .i64 (linE l)] else .tup [.agg (linRaw l), .int .i64 (linE l)]) ?_ ?_ rfl
 ·obtain ⟨e, he⟩ : ∃ e, linE l = e := ⟨_, rfl⟩
  rw [he] at hE ⊢
  refine Spec.of_body (c := (cxOf Try.prog tyAt_ok mixed_ok 52)) ⟨Try.func14, rfl, Try.ntmps14, by kernel_rfl⟩ (by simp [FV.hand]) (by exact Nat.le_of_ble_eq_true rfl) (by split <;> rfl) ?_
  change FW _ _ _ ⟨[(0, .list 8 (l.map OpV.fv))], []⟩
  (repeat (first | refine FW.seq ?_ | refine FW.region ?_ | refine RunN.nil ?_ | refine rn_alloc rfl rfl rfl rfl rfl rfl rfl ?_ | refine rn_assign rfl rfl rfl ?_ | refine rn_move rfl rfl rfl ?_))
  refine rn_call hck (by repeat (first | exact ArgsR.nil | refine ArgsR.cons (by exact ArgR.plain rfl rfl) ?_)) rfl rfl ?_
  (repeat (first | refine FW.seq ?_ | refine FW.region ?_ | refine RunN.nil ?_ | refine rn_assign rfl rfl rfl ?_ | refine rn_move rfl rfl rfl ?_ | refine rn_neq rfl rfl rfl rfl ?_))
  refine FW.cond rfl (fun h => ?_) (fun h => ?_)
  ·have h0 : hCheck l ≠ 0 := by simpa using h
   rw [if_pos h0] at hE
   rw [← hE] at h0 ⊢
   rw [if_pos h0]
   (repeat (first | refine FW.seq ?_ | refine FW.region ?_ | refine RunN.nil ?_ | refine rn_assign rfl rfl rfl ?_ | refine rn_move rfl rfl rfl ?_ | refine rn_buildK rfl rfl rfl rfl ?_ | refine rn_storeVA rfl rfl rfl rfl rfl rfl rfl rfl rfl ?_ | refine FillK.nil ?_))
   refine FW.ret ⟨.inl rfl, .sh (.cons (resv_cell rfl rfl rfl rfl rfl rfl (by decide)) (.cons (.tmp 3 rfl rfl) .nil)) ?_ rfl⟩
   rfl
  ·have h0 : hCheck l = 0 := by simpa using h
   rw [if_neg (by simpa using h0)] at hE
   by_cases D : dom21 l
   ·rw [if_pos D] at hE
    subst hE
    rw [if_neg (show ¬ (0 : Int) ≠ 0 by decide)]
    rw [if_pos D, decide_eq_true D] at hwr
    have H := check_h21 h0 D
    have hl3 := (check_errs h0).1
    have hil := in21_len l
    have hi0 := fun i hi => in21_incl (l := l) (i := i) D hi
    have hKI : ∀ c ∈ hKeys l, I64 c := fun c hc => by
     obtain ⟨o, h1, h2⟩ := (hKeys_mem l c).1 hc
     rw [← h2]; exact (hin o h1).2.2.1
    have hkl := hKeys_len l
    have hvk := fun i hi => vKey_of (l := l) (i := i) hi
    have hvn := vKey_none (l := l)
    have hlz := linearization_spec l (in21 l) hl3 hin H
    have hvs := fun c hc => violation_spec l c (in21 l) hl3 hin hc D hil hi0
    generalize wRows l l.length = W at hvs hic hwr
    generalize in21 l = ins at hvs hic hil hi0 hlz
    obtain ⟨K, hKe⟩ : ∃ K, hKeys l = K := ⟨_, rfl⟩
    rw [hKe] at hKI hkl hks hvn hlz
    simp only [hKe] at hvk
    (repeat (first | refine FW.seq ?_ | refine FW.region ?_ | refine FW.skip ?_ | refine rn_move rfl rfl rfl ?_))
    refine rn_callS hwr (by repeat (first | exact ArgsR.nil | refine ArgsR.cons (by exact ArgR.plain rfl rfl) ?_)) rfl rfl ?_
    (repeat (first | refine FW.seq ?_ | refine FW.region ?_ | refine FW.skip ?_ | refine FW.condF rfl ?_ | refine RunN.nil ?_ | refine rn_assign rfl rfl rfl ?_ | refine rn_move rfl rfl rfl ?_ | refine rn_extract rfl rfl rfl rfl rfl ?_ | refine rn_not rfl rfl rfl ?_))
    refine rn_callO hic (by repeat (first | exact ArgsR.nil | refine ArgsR.cons (by exact ArgR.plain rfl rfl) ?_)) (List.length_map _) rfl rfl rfl ?_
    refine RunN.le ?_ (FLe.share 28 rfl rfl (by simp))
    (repeat (first | refine FW.seq ?_ | refine FW.region ?_ | refine RunN.nil ?_ | refine rn_assign rfl rfl rfl ?_ | refine rn_move rfl rfl rfl ?_))
    refine rn_callO hks (by repeat (first | exact ArgsR.nil | refine ArgsR.cons (by exact ArgR.plain rfl rfl) ?_)) (List.length_map _) rfl rfl rfl ?_
    (repeat (first | refine FW.block ?_ | refine RunN.nil ?_ | refine rn_move rfl rfl rfl ?_ | refine rn_lenOwn rfl rfl rfl (by decide) rfl rfl ?_))
    refine FW.loop (fun i : Nat => ⟨[(0, .list 8 (l.map OpV.fv)), (2, .ptr 101 0 0 0), (5, .smap W), (7, .list 1 (ins.map bof)), (30, .own 102 0 0 K.length), (31, .int .i64 K.length), (32, .int .i64 i)], [(101, ⟨0, .own, 30, 5, [[.int .i64 0, .int .i64 0, .int .i64 0, .nil, .nil]]⟩), (102, ⟨0, .own, 3, 1, K.map intf⟩)]⟩) (fun i => i ≤ K.length ∧ ∀ j, j < i → (vioV l (nth K j)).cls = 0) (fun i => K.length - i) 0 ⟨Nat.zero_le _, fun j hj => by omega⟩ ?_ ?_
    ·exact (FLe.conv [⟨101, some 2, 0 + 1, ⟨0, .own, 30, 5, [[.int .i64 0, .int .i64 0, .int .i64 0, .nil, .nil]]⟩⟩, ⟨102, some 30, 0 + 1, ⟨0, .own, 3, 1, K.map intf⟩⟩] (by simp) (by simp) rfl (by repeat (first | exact .nil | refine .low rfl ?_ | refine .same rfl ?_ | refine .bump (Nat.lt_succ_self _) ?_)) (by repeat (first | exact .nil | refine .old rfl (by decide) rfl ?_)) (by repeat (first | exact .nil | refine .cons (.plain rfl rfl rfl) ?_ | refine .cons (.ptr rfl (.head _) rfl) ?_ | refine .cons (.own rfl (.tail _ (.head _)) rfl rfl) ?_)))
    rintro i ⟨hi, hno⟩
    (repeat (first | refine FW.seq ?_ | refine FW.region ?_ | refine RunN.nil ?_ | refine rn_lss rfl rfl rfl rfl ?_))
    refine FW.cond rfl (fun h => ?_) (fun h => ?_)
    ·have hlt : i < K.length := by simpa using h
     clear h
     have hvk := hvk i hlt hno
     obtain ⟨c, hc⟩ : ∃ c, nth K i = c := ⟨_, rfl⟩
     have hci := hKI _ (nth_mem hlt)
     rw [hc] at hci hvk
     have hvs := hvs c hci
     have hi2 : (vioV l c).cls = 0 → ∀ j, j < i + 1 → (vioV l (nth K j)).cls = 0 := fun h j hj => by
      by_cases e : j = i
      ·subst e; rw [hc]; exact h
      ·exact hno j (by omega)
     obtain ⟨v, hv⟩ : ∃ v, vioV l c = v := ⟨_, rfl⟩
     rw [hv] at hvk hvs hi2
     (repeat (first | refine FW.seq ?_ | refine FW.region ?_ | refine FW.block ?_ | refine FW.skip ?_ | refine RunN.nil ?_ | refine rn_assign rfl rfl rfl ?_ | refine rn_move rfl rfl rfl ?_ | refine rn_indexO rfl rfl rfl rfl rfl rfl (by decide) rfl (by first | omega | (simp; omega)) rfl rfl ?_ | refine rn_loadP rfl rfl rfl rfl rfl (by first | omega | (simp; omega)) (by first | exact getD_map (by omega) | rfl) rfl rfl rfl rfl ?_))
     rw [hc]
     skip
     refine rn_callS hvs (by repeat (first | exact ArgsR.nil | refine ArgsR.cons (by exact ArgR.plain rfl rfl) ?_)) rfl rfl ?_
     (repeat (first | refine FW.seq ?_ | refine FW.region ?_ | refine RunN.nil ?_ | refine rn_alloc rfl rfl rfl rfl rfl rfl rfl ?_ | refine rn_assign rfl rfl rfl ?_ | refine rn_move rfl rfl rfl ?_ | refine rn_storeVA rfl rfl rfl rfl rfl rfl rfl rfl rfl ?_ | refine rn_extract rfl rfl rfl rfl rfl ?_))
     refine FW.cond rfl (fun h => ?_) (fun h => ?_)
     ·have hR : linRaw l = v.fv c := by unfold linRaw; rw [hvk (by simpa using h)]; dsimp only; rw [hv]
      rw [hR]
      (repeat (first | refine FW.seq ?_ | refine FW.region ?_ | refine RunN.nil ?_ | refine rn_assign rfl rfl rfl ?_ | refine rn_storeVA rfl rfl rfl rfl rfl rfl rfl rfl rfl ?_ | refine rn_loadPA rfl rfl rfl (by decide) rfl rfl (by simp; done) rfl rfl rfl rfl ?_))
      refine FW.ret ⟨.inl rfl, .sh (.cons (resv_cell rfl rfl rfl rfl rfl rfl (by decide)) (.cons (.tmp 3 rfl rfl) .nil)) ?_ rfl⟩
      rfl
     ·(repeat (first | refine FW.region ?_ | refine FW.skip ?_ | refine RunN.nil ?_ | refine rn_move rfl rfl rfl ?_ | refine rn_add rfl rfl (by omega) rfl rfl ?_))
      refine ⟨i + 1, ⟨by omega, hi2 (by simpa using h)⟩, by omega, ?_⟩
      exact (FLe.conv [⟨101, some 101, 0, ⟨0, .own, 30, 5, [[.int .i64 0, .int .i64 0, .int .i64 0, .nil, .nil]]⟩⟩, ⟨102, some 102, 0, ⟨0, .own, 3, 1, K.map intf⟩⟩] (by simp) (by simp) rfl (by repeat (first | exact .nil | refine .low rfl ?_ | refine .same rfl ?_ | refine .bump (Nat.lt_succ_self _) ?_)) (by repeat (first | exact .nil | refine .old rfl (by decide) rfl ?_)) (by repeat (first | exact .nil | refine .cons (.plain rfl rfl rfl) ?_ | refine .cons (.ptr rfl (.head _) rfl) ?_ | refine .cons (.own rfl (.tail _ (.head _)) rfl rfl) ?_)))
    ·obtain rfl : i = K.length := by simp at h; omega
     have hall : ∀ c ∈ K, VO l c := fun c hc => by
      obtain ⟨j, hj, e⟩ := List.getElem_of_mem hc
      have := hno j hj
      rw [nth_eq hj, e] at this
      exact vio_ok.1 this
     have hlz := hlz hall hil hi0
     have hR : linRaw l = [.int .i64 2, .int .i64 0, .int .i64 0, .list 1 ((linL l K).map natf), .nil] := by unfold linRaw; rw [hvn.2 hall]; dsimp only; rw [hKe]
     rw [hR]
     (repeat (first | refine FW.seq ?_ | refine FW.region ?_ | refine FW.exit ?_ | refine rn_move rfl rfl rfl ?_))
     refine rn_callO hlz (by repeat (first | exact ArgsR.nil | refine ArgsR.cons (by exact ArgR.plain rfl rfl) ?_)) (List.length_map _) rfl rfl rfl ?_
     refine RunN.le ?_ (FLe.share 49 rfl rfl (by simp))
     (repeat (first | refine RunN.nil ?_ | refine rn_assign rfl rfl rfl ?_ | refine rn_buildK rfl rfl rfl rfl ?_ | refine rn_storeVA rfl rfl rfl rfl rfl rfl rfl rfl rfl ?_ | refine FillK.nil ?_ | refine FillK.one rfl rfl rfl rfl rfl ?_ | refine FillK.agg rfl rfl rfl rfl (List.cons_ne_nil _ _) rfl ?_))
     refine FW.ret ⟨.inl rfl, .sh (.cons (resv_cell rfl rfl rfl rfl rfl rfl (by decide)) (.cons (.tmp 3 rfl rfl) .nil)) ?_ rfl⟩
     rfl
   ·rw [if_neg D] at hE
    subst hE
    rw [if_pos (show (22 : Int) ≠ 0 by decide)]
    rw [if_neg D, decide_eq_false D] at hwr
    (repeat (first | refine FW.seq ?_ | refine FW.region ?_ | refine FW.skip ?_ | refine rn_move rfl rfl rfl ?_))
    refine rn_callS hwr (by repeat (first | exact ArgsR.nil | refine ArgsR.cons (by exact ArgR.plain rfl rfl) ?_)) rfl rfl ?_
    (repeat (first | refine FW.seq ?_ | refine FW.region ?_ | refine FW.condT rfl ?_ | refine RunN.nil ?_ | refine rn_assign rfl rfl rfl ?_ | refine rn_move rfl rfl rfl ?_ | refine rn_buildK rfl rfl rfl rfl ?_ | refine rn_storeVA rfl rfl rfl rfl rfl rfl rfl rfl rfl ?_ | refine rn_extract rfl rfl rfl rfl rfl ?_ | refine rn_not rfl rfl rfl ?_ | refine FillK.nil ?_))
    refine FW.ret ⟨.inl rfl, .sh (.cons (resv_cell rfl rfl rfl rfl rfl rfl (by decide)) (.cons (.tmp 3 rfl rfl) .nil)) ?_ rfl⟩
    rfl
 ·rw [hF]
  split
  ·exact noV_le _
  ·refine .tup (.cons (.agg ?_) (.cons (.refl _) .nil))
   unfold linRaw linV
   cases vKey l with
   | some c => exact .cons (.refl _) (.cons (.refl _) (.cons (.refl _) (.cons (.refl _) (.cons (.refl _) .nil))))
   | none => exact .cons (.refl _) (.cons (.refl _) (.cons (.refl _) (.cons (.refl _) (.cons (.nil 3) .nil))))
theorem linF_form (l : List OpV) : ∃ (c a b : Int) (o e : List (List FV)), linF l = [.int .i64 c, .int .i64 a, .int .i64 b, .list 1 o, .list 3 e] := by
 unfold linF
 split
 ·exact ⟨_, _, _, _, _, rfl⟩
 ·exact ⟨_, _, _, _, _, rfl⟩
end Go.Proofs.Ytbeebjdnapkhhaa
