/-
  serial.Check, at plain values.
-/
import Derived.Test.YtfegkbmnclhljaaZFmSer3
import Derived.Test.YtfegkbmnclhljaaZFmSer4
import Derived.Test.YtfegkbmnclhljaaZFmDel
import Derived.Test.YtfegkbmnclhljaaZFmTopoL
import Derived.Test.YtfegkbmnclhljaaZFmLives03
namespace Go.Proofs.Ytfegkbmnclhljaa
set_option linter.unusedVariables false
open Go.RowKit

theorem Spec.sh_of_ow {P : Program} {f : Nat} {args : List FV} {E sz : Nat} {r : FV} (h : Spec P f args (.ow E sz) r) : Spec P f args .sh r where
  go := h.go
  hand := h.hand
  calls w I vs hI hv := (h.calls w I vs hI hv).mono fun e w' ⟨v, e1, hb, hr⟩ => by
    obtain ⟨es, us, rfl, hw, ho, hrow, hrd⟩ := hr
    refine ⟨v, e1, hb, ?_⟩
    have hm : RdL w' (fun b => I b ∨ (w.heap.size ≤ b ∧ b < w'.heap.size)) us es.flatten := hrd.mono fun b hb => ⟨.inr ⟨hb.1, hb.2.1⟩, rfl⟩
    rcases hrow.2 with ⟨rfl, h0⟩ | ⟨b, cap, cur, rfl, hlow, hgg, hn, _, hcs, htk⟩
    · exact Rd.list none 0 0 sz es us h0 (Nat.le_refl _) hw ho (fun h => absurd rfl h) hm.1 hm.2
    · refine Rd.list (some ⟨b, 0, none⟩) es.length cap sz es us rfl hn hw ho (fun _ => ⟨b, 0, rfl, .inr ⟨hlow, (Array.getElem?_eq_some_iff.1 hgg).1⟩, fun j u hu => ?_⟩) hm.1 hm.2
      rw [cell_of_row _ b _ cur _ (0, 0) hgg]
      rw [← htk, List.getElem?_take] at hu
      split at hu
      · simpa using hu
      · cases hu
def SerV.fv (v : SerV) : List FV := [.int .i64 v.check, .int .i64 v.cls, .int .i64 v.arg, .list 1 (v.ord.map intf), .list 3 (v.ed.map EdV.fv)]
def SerV.raw (v : SerV) : List FV := [.int .i64 v.check, .int .i64 v.cls, .int .i64 v.arg, if v.cls = 5 ∨ v.check = 0 then .nil else .list 1 (v.ord.map intf), if v.cls = 5 then .list 3 (v.ed.map EdV.fv) else .nil]
def resV (l : List OpV) (s : Bool) : SerV := if dom22 l = true then serV l s else ⟨0, 0, 0, [], []⟩
def resE (l : List OpV) : Int := if dom22 l = true then 0 else 22
theorem raw_le (l : List OpV) (s : Bool) : FV.le (.tup [.agg (resV l s).raw, .int .i64 (resE l)]) (.tup [.agg (resV l s).fv, .int .i64 (resE l)]) := by
  refine .tup (.cons (.agg (.cons (.refl _) (.cons (.refl _) (.cons (.refl _) (.cons ?_ (.cons ?_ .nil)))))) (.cons (.refl _) .nil))
  · split
    · rename_i h
      have : (resV l s).ord = [] := by
        unfold resV at h ⊢
        split
        · rename_i hd
          rw [if_pos hd] at h
          unfold serV at h ⊢
          cases ht : thin22 l with
          | some v => rw [ht] at h; dsimp only at h; unfold cOf at h; split at h <;> omega
          | none =>
            rw [ht] at h
            dsimp only at h ⊢
            by_cases hc : cyc22 l s = []
            · rw [if_pos hc] at h; dsimp only at h; unfold cOf at h; split at h <;> omega
            · rw [if_neg hc]
        · rfl
      rw [this]; exact .nil 1
    · exact .refl _
  · split
    · exact .refl _
    · rename_i h
      have : (resV l s).ed = [] := by
        unfold resV at h ⊢
        split
        · rename_i hd
          rw [if_pos hd] at h
          unfold serV at h ⊢
          cases ht : thin22 l with
          | some v => rfl
          | none =>
            rw [ht] at h
            dsimp only at h ⊢
            by_cases hc : cyc22 l s = []
            · rw [if_pos hc]
            · rw [if_neg hc] at h; exact absurd rfl h
        · rfl
      rw [this]; exact .nil 3
set_option maxHeartbeats 1000000 in
theorem check1_spec (l : List OpV) (i : Nat) (hi : i < l.length) : Spec Try.prog 37 ([.int .i64 i] ++ [capL l]) .fr (.bool (!incl22 (nth l i))) := by
  refine Spec.of_body (c := (cxOf Try.prog tyAt_ok mixed_ok 10)) ⟨Try.func37, rfl, Try.ntmps37, by kernel_rfl⟩ (by simp [FV.hand]) (by exact Nat.le_of_ble_eq_true rfl) rfl ?_
  change FW _ _ _ ⟨[(0, .int .i64 i), (1, .eptr 1 [[.list 8 (l.map OpV.fv)]] 0 0)], []⟩
  (repeat (first | refine FW.seq ?_ | refine FW.region ?_ | refine RunN.nil ?_ | refine rn_assign rfl rfl rfl ?_ | refine rn_loadE rfl rfl rfl (by first | (simp; omega) | (simp; done)) (by first | exact getD_map (by omega) | rfl) rfl rfl rfl rfl ?_ | refine rn_loadEA rfl rfl rfl (by decide) (by first | (simp; omega) | (simp; done)) (by first | exact getD_map (by omega) | rfl) rfl rfl rfl ?_ | refine rn_move rfl rfl rfl ?_ | refine rn_indexL rfl rfl rfl rfl rfl rfl (by first | (simp; omega) | (simp; done)) rfl rfl ?_))
  refine rn_call (sIncl_spec (nth l i)) (by repeat (first | exact ArgsR.nil | refine ArgsR.cons (by exact ArgR.plain rfl rfl) ?_)) rfl rfl ?_
  (repeat (first | refine RunN.nil ?_ | refine rn_assign rfl rfl rfl ?_ | refine rn_not rfl rfl rfl ?_))
  exact FW.ret ⟨.inl rfl, ret_flat rfl rfl rfl rfl⟩
theorem cOf_ne (s : Bool) : cOf s ≠ 0 := by unfold cOf; split <;> decide
theorem raw2 (s : Bool) (a : Int) (o : List Int) : (⟨cOf s, 2, a, o, []⟩ : SerV).raw = [.int .i64 (cOf s), .int .i64 2, .int .i64 a, .list 1 (o.map intf), .nil] := by
  have := cOf_ne s
  unfold SerV.raw; dsimp only; rw [if_neg (by omega), if_neg (by decide)]
theorem raw0 (s : Bool) (a : Int) (o : List Int) : (⟨cOf s, 0, a, o, []⟩ : SerV).raw = [.int .i64 (cOf s), .int .i64 0, .int .i64 a, .list 1 (o.map intf), .nil] := by
  have := cOf_ne s
  unfold SerV.raw; dsimp only; rw [if_neg (by omega), if_neg (by decide)]
theorem raw5 (s : Bool) (a : Int) (e : List EdV) : (⟨cOf s, 5, a, [], e⟩ : SerV).raw = [.int .i64 (cOf s), .int .i64 5, .int .i64 a, .nil, .list 3 (e.map EdV.fv)] := by
  unfold SerV.raw; dsimp only; rw [if_pos (.inl rfl), if_pos rfl]
theorem thin_step {l : List OpV} {i : Nat} (hi : i < l.length) : firstN (thinB l) (l.length - i) i = if thinB l i = true then some i else firstN (thinB l) (l.length - (i + 1)) (i + 1) := by
  rw [show l.length - i = (l.length - (i + 1)) + 1 by omega]; rfl
set_option maxHeartbeats 8000000 in
theorem sCheck_spec (l : List OpV) (s : Bool) (hl : l.length ≤ 12) (hin : ∀ o ∈ l, OpIn o) : Spec Try.prog 17 [.list 8 (l.map OpV.fv), .bool s] .sh (.tup [.agg (resV l s).fv, .int .i64 (resE l)]) := by
  refine Spec.le ?_ (raw_le l s) rfl
  have hwr := sWriters_spec l (by omega) hin
  obtain ⟨R, hR⟩ : ∃ R, resV l s = R := ⟨_, rfl⟩
  obtain ⟨E, hE⟩ : ∃ E, resE l = E := ⟨_, rfl⟩
  rw [hR, hE]
  refine Spec.of_body (c := (cxOf Try.prog tyAt_ok mixed_ok 121)) ⟨Try.func17, rfl, Try.ntmps17, by kernel_rfl⟩ (by simp [FV.hand]) (by exact Nat.le_of_ble_eq_true rfl) rfl ?_
  change FW _ _ _ ⟨[(0, .list 8 (l.map OpV.fv)), (1, .bool s)], []⟩
  (repeat (first | refine FW.seq ?_ | refine FW.region ?_ | refine RunN.nil ?_ | refine rn_box1 rfl rfl rfl rfl rfl ?_ | refine rn_alloc rfl rfl rfl rfl rfl rfl rfl ?_ | refine rn_assign rfl rfl rfl ?_ | refine rn_loadP rfl rfl rfl rfl rfl (by simp; done) rfl rfl rfl rfl rfl ?_))
  refine rn_callS hwr (by repeat (first | exact ArgsR.nil | refine ArgsR.cons (by exact ArgR.plain rfl rfl) ?_)) rfl rfl ?_
  (repeat (first | refine rn_move rfl rfl rfl ?_))
  cases hd : dom22 l with
  | false =>
    have hRf : R = ⟨0, 0, 0, [], []⟩ := by rw [← hR]; unfold resV; rw [if_neg (by rw [hd]; decide)]
    have hEf : E = 22 := by rw [← hE]; unfold resE; rw [if_neg (by rw [hd]; decide)]
    subst hRf; subst hEf
    (repeat (first | refine FW.seq ?_ | refine FW.region ?_ | refine FW.condT rfl ?_ | refine RunN.nil ?_ | refine rn_assign rfl rfl rfl ?_ | refine rn_move rfl rfl rfl ?_ | refine rn_extract rfl rfl rfl rfl rfl ?_ | refine rn_not rfl rfl rfl ?_ | refine rn_buildK rfl rfl rfl rfl ?_ | refine rn_storeVA rfl rfl rfl rfl rfl rfl rfl rfl rfl ?_ | refine FillK.nil ?_))
    refine FW.ret ⟨.inl rfl, .sh (.cons (resv_cell rfl rfl rfl rfl rfl rfl (by decide)) (.cons (.tmp 5 rfl rfl) .nil)) ?_ rfl⟩
    simp [SerV.raw, resOf]; rfl
  | true =>
    have hEf : E = 0 := by rw [← hE]; unfold resE; rw [if_pos hd]
    subst hEf
    have hRf : serV l s = R := by rw [← hR]; unfold resV; rw [if_pos hd]
    rw [show wM l true = .smap (wrRows l l.length) from rfl]
    have hDm := dom22_iff.1 hd
    have hwk := wrRows_key (l := l) (i := l.length) (Nat.le_refl _) hin
    have hlk := look_wr l l.length
    have hiw := fun a b => wrIs_writ (l := l) (a := a) (b := b)
    generalize wrRows l l.length = W at hwk hlk
    obtain ⟨n, hn⟩ : ∃ n, l.length = n := ⟨_, rfl⟩
    have hstep := fun i (hi : i < l.length) => thin_step (l := l) hi
    rw [hn] at hl hlk hiw hstep
    (repeat (first | refine FW.seq ?_ | refine FW.region ?_ | refine FW.skip ?_ | refine FW.condF rfl ?_ | refine RunN.nil ?_ | refine rn_alloc rfl rfl rfl rfl rfl rfl rfl ?_ | refine rn_assign rfl rfl rfl ?_ | refine rn_move rfl rfl rfl ?_ | refine rn_extract rfl rfl rfl rfl rfl ?_ | refine rn_not rfl rfl rfl ?_ | refine rn_buildK rfl rfl rfl rfl ?_ | refine rn_storeVA rfl rfl rfl rfl rfl rfl rfl rfl rfl ?_ | refine FillK.nil ?_ | refine FillK.one rfl rfl rfl rfl rfl ?_))
    refine FW.join (fun _ : Unit => ⟨[(1, .bool s), (2, .ptr 101 0 0 0), (4, .ptr 102 0 0 0), (6, .smap W), (8, .ptr 103 0 0 0)], [(101, ⟨0, .own, 23, 1, [[.list 8 (l.map OpV.fv)]]⟩), (102, ⟨0, .own, 33, 5, [[.int .i64 0, .int .i64 0, .int .i64 0, .nil, .nil]]⟩), (103, ⟨0, .own, 33, 5, [[.int .i64 (cOf s), .int .i64 0, .int .i64 0, .nil, .nil]]⟩)]⟩) (fun _ => True) ?_ (fun _ _ => ?_)
    · refine FW.cond rfl (fun h => ?_) (fun h => ?_)
      · subst h
        (repeat (first | refine FW.region ?_ | refine RunN.nil ?_ | refine rn_storeV rfl rfl rfl rfl rfl rfl rfl rfl rfl ?_ | refine rn_fieldP rfl rfl rfl rfl rfl rfl (by decide) rfl rfl ?_))
        exact ⟨rfl, (), trivial, (FLe.conv [⟨101, some 2, 0 + 1, ⟨0, .own, 23, 1, [[.list 8 (l.map OpV.fv)]]⟩⟩, ⟨102, some 4, 0 + 1, ⟨0, .own, 33, 5, [[.int .i64 0, .int .i64 0, .int .i64 0, .nil, .nil]]⟩⟩, ⟨103, some 8, 0 + 1, ⟨0, .own, 33, 5, [[.int .i64 (cOf true), .int .i64 0, .int .i64 0, .nil, .nil]]⟩⟩] (by simp) (by simp) rfl (by repeat (first | exact GhOk.nil | refine GhOk.low rfl ?_ | refine GhOk.same rfl ?_ | refine GhOk.bump (Nat.lt_succ_self _) ?_)) (by repeat (first | exact EntsOk.nil | refine EntsOk.old rfl (by decide) rfl ?_)) (by repeat (first | exact SlC.nil | refine SlC.cons (.plain rfl rfl rfl) ?_ | refine SlC.cons (.ptr rfl (.head _) rfl) ?_ | refine SlC.cons (.ptr rfl (.tail _ (.head _)) rfl) ?_ | refine SlC.cons (.ptr rfl (.tail _ (.tail _ (.head _))) rfl) ?_)))⟩
      · subst h
        (repeat (first | refine FW.skip ?_))
        exact ⟨rfl, (), trivial, (FLe.conv [⟨101, some 2, 0 + 1, ⟨0, .own, 23, 1, [[.list 8 (l.map OpV.fv)]]⟩⟩, ⟨102, some 4, 0 + 1, ⟨0, .own, 33, 5, [[.int .i64 0, .int .i64 0, .int .i64 0, .nil, .nil]]⟩⟩, ⟨103, some 8, 0 + 1, ⟨0, .own, 33, 5, [[.int .i64 (cOf false), .int .i64 0, .int .i64 0, .nil, .nil]]⟩⟩] (by simp) (by simp) rfl (by repeat (first | exact GhOk.nil | refine GhOk.low rfl ?_ | refine GhOk.same rfl ?_ | refine GhOk.bump (Nat.lt_succ_self _) ?_)) (by repeat (first | exact EntsOk.nil | refine EntsOk.old rfl (by decide) rfl ?_)) (by repeat (first | exact SlC.nil | refine SlC.cons (.plain rfl rfl rfl) ?_ | refine SlC.cons (.ptr rfl (.head _) rfl) ?_ | refine SlC.cons (.ptr rfl (.tail _ (.head _)) rfl) ?_ | refine SlC.cons (.ptr rfl (.tail _ (.tail _ (.head _))) rfl) ?_)))⟩
    (repeat (first | refine FW.seq ?_ | refine FW.region ?_ | refine FW.block ?_ | refine RunN.nil ?_ | refine rn_loadP rfl rfl rfl rfl rfl (by simp; done) rfl rfl rfl rfl rfl ?_ | refine rn_move rfl rfl rfl ?_ | refine rn_lenList rfl rfl (by first | exact List.length_map _ | rfl | (simp; done)) rfl rfl ?_))
    rw [hn]
    refine FW.loop (fun i : Nat => ⟨[(1, .bool s), (2, .ptr 101 0 0 0), (4, .ptr 102 0 0 0), (6, .smap W), (8, .ptr 103 0 0 0), (31, .list 8 (l.map OpV.fv)), (32, .int .i64 n), (33, .int .i64 i)], [(101, ⟨0, .own, 23, 1, [[.list 8 (l.map OpV.fv)]]⟩), (102, ⟨0, .own, 33, 5, [[.int .i64 0, .int .i64 0, .int .i64 0, .nil, .nil]]⟩), (103, ⟨0, .own, 33, 5, [[.int .i64 (cOf s), .int .i64 0, .int .i64 0, .nil, .nil]]⟩)]⟩) (fun i => i ≤ n ∧ firstN (thinB l) (n - i) i = thin22 l) (fun i => n - i) 0 ⟨Nat.zero_le _, by unfold thin22; rw [hn, Nat.sub_zero]⟩ ?_ ?_
    · show FLe _ ⟨[(1, .bool s), (2, .ptr 101 0 0 0), (4, .ptr 102 0 0 0), (6, .smap W), (8, .ptr 103 0 0 0), (31, .list 8 (l.map OpV.fv)), (32, .int .i64 n), (33, .int .i64 0)], [(101, ⟨0, .own, 23, 1, [[.list 8 (l.map OpV.fv)]]⟩), (102, ⟨0, .own, 33, 5, [[.int .i64 0, .int .i64 0, .int .i64 0, .nil, .nil]]⟩), (103, ⟨0, .own, 33, 5, [[.int .i64 (cOf s), .int .i64 0, .int .i64 0, .nil, .nil]]⟩)]⟩
      exact (FLe.conv [⟨101, some 101, 0, ⟨0, .own, 23, 1, [[.list 8 (l.map OpV.fv)]]⟩⟩, ⟨102, some 102, 0, ⟨0, .own, 33, 5, [[.int .i64 0, .int .i64 0, .int .i64 0, .nil, .nil]]⟩⟩, ⟨103, some 103, 0, ⟨0, .own, 33, 5, [[.int .i64 (cOf s), .int .i64 0, .int .i64 0, .nil, .nil]]⟩⟩] (by simp) (by simp) rfl (by repeat (first | exact GhOk.nil | refine GhOk.low rfl ?_ | refine GhOk.same rfl ?_ | refine GhOk.bump (Nat.lt_succ_self _) ?_)) (by repeat (first | exact EntsOk.nil | refine EntsOk.old rfl (by decide) rfl ?_)) (by repeat (first | exact SlC.nil | refine SlC.cons (.plain rfl rfl rfl) ?_ | refine SlC.cons (.ptr rfl (.head _) rfl) ?_ | refine SlC.cons (.ptr rfl (.tail _ (.head _)) rfl) ?_ | refine SlC.cons (.ptr rfl (.tail _ (.tail _ (.head _))) rfl) ?_)))
    rintro i ⟨hi, hth⟩
    (repeat (first | refine FW.seq ?_ | refine FW.region ?_ | refine RunN.nil ?_ | refine rn_lss rfl rfl rfl rfl ?_))
    refine FW.cond rfl (fun hc => ?_) (fun hc => ?_)
    · have hlt : i < n := by simpa using hc
      clear hc
      have hlt2 : i < l.length := by omega
      have ho := hin _ (nth_mem hlt2)
      rw [hstep i hlt] at hth
      have hkd := hDm.kind i hlt2
      have hkf := keyFS ho.2.2.1 ho.2.2.2.2.1
      have htb : thinB l i = (incl22 (nth l i) && decide ((nth l i).res ≠ 0) && !(wrIs l n (nth l i).key (nth l i).res).isSome) := by unfold thinB; rw [hiw]
      have hlk := hlk (nth l i).key (nth l i).res
      obtain ⟨o, hoo⟩ : ∃ o, nth l i = o := ⟨_, rfl⟩
      rw [hoo] at hkd hkf htb hlk
      have hic : incl22 o = o.done := by unfold incl22; rcases hkd with e | e <;> simp [e]
      rw [hic] at htb
      (repeat (first | refine FW.seq ?_ | refine FW.region ?_ | refine FW.block ?_ | refine FW.skip ?_ | refine RunN.nil ?_ | refine rn_alloc rfl rfl rfl rfl rfl rfl rfl ?_ | refine rn_assign rfl rfl rfl ?_ | refine rn_loadP rfl rfl rfl rfl rfl (by first | (simp; omega) | (simp; done)) (by first | exact getD_map (by omega) | rfl) rfl rfl rfl rfl ?_ | refine rn_loadEA rfl rfl rfl (by decide) (by first | (simp; omega) | (simp; done)) (by first | exact getD_map (by omega) | rfl) rfl rfl rfl ?_ | refine rn_move rfl rfl rfl ?_ | refine rn_buildK rfl rfl rfl rfl ?_ | refine rn_storeVA rfl rfl rfl rfl rfl rfl rfl rfl rfl ?_ | refine rn_fieldP rfl rfl rfl rfl rfl rfl (by decide) rfl rfl ?_ | refine rn_indexL rfl rfl rfl rfl rfl rfl (by first | (simp; omega) | (simp; done)) rfl rfl ?_ | refine FillK.nil ?_ | refine FillK.one rfl rfl rfl rfl rfl ?_))
      rw [hoo]
      skip
      refine rn_lookK2 (e := 3) keyedS hwk hkf hlk rfl rfl rfl rfl rfl rfl rfl ?_
      (repeat (first | refine FW.seq ?_ | refine FW.region ?_ | refine RunN.nil ?_ | refine rn_assign rfl rfl rfl ?_ | refine rn_loadP rfl rfl rfl rfl rfl (by simp; done) rfl rfl rfl rfl rfl ?_ | refine rn_move rfl rfl rfl ?_ | refine rn_extract rfl rfl rfl rfl rfl ?_ | refine rn_fieldP rfl rfl rfl rfl rfl rfl (by decide) rfl rfl ?_))
      cases hdn : o.done with
      | false =>
        rw [hdn, Bool.false_and, Bool.false_and] at htb
        rw [htb, if_neg (by decide)] at hth
        (repeat (first | refine FW.region ?_ | refine FW.skip ?_ | refine FW.condF rfl ?_ | refine RunN.nil ?_ | refine rn_move rfl rfl rfl ?_ | refine rn_pickF rfl rfl rfl rfl ?_ | refine rn_add rfl rfl (by omega) rfl rfl ?_ | refine rn_skip rfl rfl ⟨_, _, rfl, rfl, rfl⟩ ?_))
        exact ⟨i + 1, ⟨by omega, hth⟩, by omega, (FLe.conv [⟨101, some 101, 0, ⟨0, .own, 23, 1, [[.list 8 (l.map OpV.fv)]]⟩⟩, ⟨102, some 102, 0, ⟨0, .own, 33, 5, [[.int .i64 0, .int .i64 0, .int .i64 0, .nil, .nil]]⟩⟩, ⟨103, some 103, 0, ⟨0, .own, 33, 5, [[.int .i64 (cOf s), .int .i64 0, .int .i64 0, .nil, .nil]]⟩⟩] (by simp) (by simp) rfl (by repeat (first | exact GhOk.nil | refine GhOk.low rfl ?_ | refine GhOk.same rfl ?_ | refine GhOk.bump (Nat.lt_succ_self _) ?_)) (by repeat (first | exact EntsOk.nil | refine EntsOk.old rfl (by decide) rfl ?_)) (by repeat (first | exact SlC.nil | refine SlC.cons (.plain rfl rfl rfl) ?_ | refine SlC.cons (.ptr rfl (.head _) rfl) ?_ | refine SlC.cons (.ptr rfl (.tail _ (.head _)) rfl) ?_ | refine SlC.cons (.ptr rfl (.tail _ (.tail _ (.head _))) rfl) ?_)))⟩
      | true =>
        rw [hdn, Bool.true_and] at htb
        (repeat (first | refine rn_move rfl rfl rfl ?_ | refine rn_pickT rfl rfl rfl rfl ?_ | refine rn_fieldP rfl rfl rfl rfl rfl rfl (by decide) rfl ⟨_, _, rfl, rfl, rfl⟩ ?_ | refine rn_loadP rfl rfl rfl rfl rfl (by simp; done) rfl rfl rfl rfl ⟨_, _, rfl, rfl, rfl⟩ ?_ | refine rn_neq rfl rfl rfl ⟨_, _, rfl, rfl, rfl⟩ ?_))
        refine rn_case (fun h1 => ?_) (fun h1 => ?_)
        · have h1' : o.res ≠ 0 := by simpa using h1
          rw [decide_eq_true h1', Bool.true_and] at htb
          (repeat (first | refine RunN.nil ?_ | refine rn_pickT rfl rfl rfl rfl ?_ | refine rn_move rfl rfl ⟨_, _, rfl, rfl, rfl⟩ ?_ | refine rn_not rfl rfl ⟨_, _, rfl, rfl, rfl⟩ ?_))
          cases hws : (wrIs l n o.key o.res).isSome with
          | true =>
            rw [hws] at htb
            rw [htb, if_neg (by decide)] at hth
            (repeat (first | refine FW.region ?_ | refine FW.skip ?_ | refine FW.condF rfl ?_ | refine RunN.nil ?_ | refine rn_move rfl rfl rfl ?_ | refine rn_add rfl rfl (by omega) rfl rfl ?_))
            exact ⟨i + 1, ⟨by omega, hth⟩, by omega, (FLe.conv [⟨101, some 101, 0, ⟨0, .own, 23, 1, [[.list 8 (l.map OpV.fv)]]⟩⟩, ⟨102, some 102, 0, ⟨0, .own, 33, 5, [[.int .i64 0, .int .i64 0, .int .i64 0, .nil, .nil]]⟩⟩, ⟨103, some 103, 0, ⟨0, .own, 33, 5, [[.int .i64 (cOf s), .int .i64 0, .int .i64 0, .nil, .nil]]⟩⟩] (by simp) (by simp) rfl (by repeat (first | exact GhOk.nil | refine GhOk.low rfl ?_ | refine GhOk.same rfl ?_ | refine GhOk.bump (Nat.lt_succ_self _) ?_)) (by repeat (first | exact EntsOk.nil | refine EntsOk.old rfl (by decide) rfl ?_)) (by repeat (first | exact SlC.nil | refine SlC.cons (.plain rfl rfl rfl) ?_ | refine SlC.cons (.ptr rfl (.head _) rfl) ?_ | refine SlC.cons (.ptr rfl (.tail _ (.head _)) rfl) ?_ | refine SlC.cons (.ptr rfl (.tail _ (.tail _ (.head _))) rfl) ?_)))⟩
          | false =>
            rw [hws] at htb
            rw [htb, if_pos (by decide)] at hth
            have hRR : R = ⟨cOf s, 2, o.key, [(i : Int)], []⟩ := by rw [← hRf]; unfold serV; rw [← hth]; dsimp only; rw [hoo]
            subst hRR
            (repeat (first | refine FW.seq ?_ | refine FW.condT rfl ?_ | refine FW.draw ?_ | refine rd_loadP rfl rfl rfl rfl rfl (by simp; done) rfl rfl rfl rfl rfl ?_ | refine rd_move rfl rfl rfl ?_ | refine rd_fieldP rfl rfl rfl rfl rfl rfl (by decide) rfl rfl ?_))
            refine rd_buildSH (es := [intf (i : Int)]) rfl rfl rfl (by refine PtsS.int rfl rfl ?_; exact PtsS.nil) rfl rfl rfl rfl rfl ?_
            (repeat (first | refine RunD.nil ?_ | refine rd_storeV rfl rfl rfl rfl rfl rfl rfl rfl rfl ?_ | refine rd_fieldP rfl rfl rfl rfl rfl rfl (by decide) rfl rfl ?_))
            refine ⟨by kernel_rfl, ?_⟩
            (repeat (first | refine FW.seq ?_ | refine FW.region ?_ | refine RunN.nil ?_ | refine rn_assign rfl rfl rfl ?_ | refine rn_loadPA rfl rfl rfl (by decide) rfl rfl (by simp; done) rfl rfl rfl rfl ?_ | refine rn_storeVA rfl rfl rfl rfl rfl rfl rfl rfl rfl ?_))
            refine FW.ret ⟨.inl rfl, .sh (.cons (resv_cell rfl rfl rfl rfl rfl rfl (by decide)) (.cons (.tmp 5 rfl rfl) .nil)) ?_ rfl⟩
            rw [raw2]; rfl
        · have h1' : ¬ o.res ≠ 0 := by simpa using h1
          rw [decide_eq_false h1', Bool.false_and] at htb
          rw [htb, if_neg (by decide)] at hth
          (repeat (first | refine FW.region ?_ | refine FW.skip ?_ | refine FW.condF rfl ?_ | refine RunN.nil ?_ | refine rn_move rfl rfl rfl ?_ | refine rn_pickF rfl rfl rfl rfl ?_ | refine rn_add rfl rfl (by omega) rfl rfl ?_ | refine rn_skip rfl rfl ⟨_, _, rfl, rfl, rfl⟩ ?_))
          exact ⟨i + 1, ⟨by omega, hth⟩, by omega, (FLe.conv [⟨101, some 101, 0, ⟨0, .own, 23, 1, [[.list 8 (l.map OpV.fv)]]⟩⟩, ⟨102, some 102, 0, ⟨0, .own, 33, 5, [[.int .i64 0, .int .i64 0, .int .i64 0, .nil, .nil]]⟩⟩, ⟨103, some 103, 0, ⟨0, .own, 33, 5, [[.int .i64 (cOf s), .int .i64 0, .int .i64 0, .nil, .nil]]⟩⟩] (by simp) (by simp) rfl (by repeat (first | exact GhOk.nil | refine GhOk.low rfl ?_ | refine GhOk.same rfl ?_ | refine GhOk.bump (Nat.lt_succ_self _) ?_)) (by repeat (first | exact EntsOk.nil | refine EntsOk.old rfl (by decide) rfl ?_)) (by repeat (first | exact SlC.nil | refine SlC.cons (.plain rfl rfl rfl) ?_ | refine SlC.cons (.ptr rfl (.head _) rfl) ?_ | refine SlC.cons (.ptr rfl (.tail _ (.head _)) rfl) ?_ | refine SlC.cons (.ptr rfl (.tail _ (.tail _ (.head _))) rfl) ?_)))⟩
    · obtain rfl : i = n := by simp at hc; omega
      clear hc hstep hlk hwk hiw hi
      obtain ⟨n, hni⟩ : ∃ n, n = i := ⟨_, rfl⟩
      rw [← hni] at hl hn hth ⊢
      rw [Nat.sub_self] at hth
      have hth : thin22 l = none := hth.symm
      have hes := (edges_spec l s (by omega)).sh_of_ow
      have hel := edTo_len l s l.length
      have hin2 := prs_in l s
      obtain ⟨X, hX⟩ : ∃ X, edges22 l s = X := ⟨_, rfl⟩
      have hXl : X.length ≤ 576 := by
        rw [← hX]
        refine Nat.le_trans hel ?_
        exact Nat.le_trans (Nat.mul_le_mul (Nat.mul_le_mul (Nat.le_refl 4) (by omega : l.length ≤ 12)) (by omega : l.length ≤ 12)) (by decide)
      have hcy := fun h => cycS_spec l s (by omega) h
      have hpl : (prs X).length = X.length := by unfold prs; rw [List.length_map]
      have hcr : cyc22 l s = rCycle (prs X) n := by unfold cyc22; rw [hX, hn]
      have hor : ord22 l s = (topoEnd n (prs X)).filter fun x => incl22 (nth l x.toNat) := by unfold ord22; rw [hX, hn]
      rw [hX] at hes hin2 hcy
      rw [hn] at hin2
      have hC := cycleRN_spec n (prs X) hl (by omega) hin2
      rw [← hcr] at hC
      clear hel
      (repeat (first | refine FW.seq ?_ | refine FW.region ?_ | refine FW.exit ?_ | refine rn_loadP rfl rfl rfl rfl rfl (by simp; done) rfl rfl rfl rfl rfl ?_ | refine rn_move rfl rfl rfl ?_))
      refine rn_callS hes (by repeat (first | exact ArgsR.nil | refine ArgsR.cons (by exact ArgR.plain rfl rfl) ?_)) rfl rfl ?_
      (repeat (first | refine FW.seq ?_ | refine FW.region ?_ | refine FW.block ?_ | refine RunN.nil ?_ | refine rn_assign rfl rfl rfl ?_ | refine rn_move rfl rfl rfl ?_ | refine rn_lenList rfl rfl (by exact List.length_map _) rfl rfl ?_))
      refine FW.loop (fun k : Nat => ⟨[(2, .ptr 101 0 0 0), (4, .ptr 102 0 0 0), (8, .ptr 103 0 0 0), (13, .list 3 (X.map EdV.fv)), (14, .own 104 0 0 k), (72, .list 3 (X.map EdV.fv)), (73, .int .i64 X.length), (74, .int .i64 k)], [(101, ⟨0, .own, 23, 1, [[.list 8 (l.map OpV.fv)]]⟩), (102, ⟨0, .own, 33, 5, [[.int .i64 0, .int .i64 0, .int .i64 0, .nil, .nil]]⟩), (103, ⟨0, .own, 33, 5, [[.int .i64 (cOf s), .int .i64 0, .int .i64 0, .nil, .nil]]⟩), (104, ⟨0, .own, 44, 2, ((prs X).take k).map edf⟩)]⟩) (fun k => k ≤ X.length) (fun k => X.length - k) 0 (Nat.zero_le _) ?_ ?_
      · show FLe _ ⟨[(2, .ptr 101 0 0 0), (4, .ptr 102 0 0 0), (8, .ptr 103 0 0 0), (13, .list 3 (X.map EdV.fv)), (14, .own 104 0 0 0), (72, .list 3 (X.map EdV.fv)), (73, .int .i64 X.length), (74, .int .i64 0)], [(101, ⟨0, .own, 23, 1, [[.list 8 (l.map OpV.fv)]]⟩), (102, ⟨0, .own, 33, 5, [[.int .i64 0, .int .i64 0, .int .i64 0, .nil, .nil]]⟩), (103, ⟨0, .own, 33, 5, [[.int .i64 (cOf s), .int .i64 0, .int .i64 0, .nil, .nil]]⟩), (104, ⟨0, .own, 44, 2, []⟩)]⟩
        exact (FLe.conv [⟨101, some 101, 0, ⟨0, .own, 23, 1, [[.list 8 (l.map OpV.fv)]]⟩⟩, ⟨102, some 102, 0, ⟨0, .own, 33, 5, [[.int .i64 0, .int .i64 0, .int .i64 0, .nil, .nil]]⟩⟩, ⟨103, some 103, 0, ⟨0, .own, 33, 5, [[.int .i64 (cOf s), .int .i64 0, .int .i64 0, .nil, .nil]]⟩⟩, ⟨104, none, 0, ⟨0, .own, 44, 2, []⟩⟩] (by simp) (by simp) rfl (by repeat (first | exact GhOk.nil | refine GhOk.low rfl ?_ | refine GhOk.same rfl ?_ | refine GhOk.bump (Nat.lt_succ_self _) ?_)) (by repeat (first | exact EntsOk.nil | refine EntsOk.old rfl (by decide) rfl ?_ | refine EntsOk.new ?_)) (by repeat (first | exact SlC.nil | refine SlC.cons (.plain rfl rfl rfl) ?_ | refine SlC.cons (.ptr rfl (.head _) rfl) ?_ | refine SlC.cons (.ptr rfl (.tail _ (.head _)) rfl) ?_ | refine SlC.cons (.ptr rfl (.tail _ (.tail _ (.head _))) rfl) ?_ | refine SlC.cons (.nil rfl (.tail _ (.tail _ (.tail _ (.head _)))) rfl) ?_)))
      intro k hk
      have hkl : ((prs X).take k).length = k := by rw [List.length_take]; omega
      have hks : ∀ h : k < X.length, (prs X).take (k + 1) = (prs X).take k ++ [((nth X k).1, (nth X k).2.1)] := fun h => by
        rw [List.take_succ_eq_append_getElem (by omega)]
        congr 2
        rw [nth_eq h]
        simp [prs]
      have hlast : k = X.length → (prs X).take k = prs X := fun e => by rw [e, ← hpl, List.take_length]
      generalize (prs X).take k = Z at hkl hks hlast
      subst hkl
      (repeat (first | refine FW.seq ?_ | refine FW.region ?_ | refine RunN.nil ?_ | refine rn_lss rfl rfl rfl rfl ?_))
      refine FW.cond rfl (fun hc => ?_) (fun hc => ?_)
      · have hlt : Z.length < X.length := by simpa using hc
        clear hc hlast
        have hks := hks hlt
        obtain ⟨⟨a, b, w⟩, he⟩ : ∃ e, nth X Z.length = e := ⟨_, rfl⟩
        rw [he] at hks
        (repeat (first | refine FW.seq ?_ | refine FW.region ?_ | refine FW.block ?_ | refine FW.skip ?_ | refine RunN.nil ?_ | refine rn_alloc rfl rfl rfl rfl rfl rfl rfl ?_ | refine rn_assign rfl rfl rfl ?_ | refine rn_loadP rfl rfl rfl rfl rfl (by first | (simp; omega) | (simp; done)) (by first | exact getD_map (by omega) | rfl) rfl rfl rfl rfl ?_ | refine rn_loadEA rfl rfl rfl (by decide) (by first | (simp; omega) | (simp; done)) (by first | exact getD_map (by omega) | rfl) rfl rfl rfl ?_ | refine rn_move rfl rfl rfl ?_ | refine rn_buildA2 rfl rfl rfl rfl rfl rfl rfl rfl rfl ?_ | refine rn_storeVA rfl rfl rfl rfl rfl rfl rfl rfl rfl ?_ | refine rn_fieldP rfl rfl rfl rfl rfl rfl (by decide) rfl rfl ?_ | refine rn_indexL rfl rfl rfl rfl rfl rfl (by first | (simp; omega) | (simp; done)) rfl rfl ?_ | refine rn_buildS1A rfl rfl rfl rfl rfl rfl rfl rfl rfl rfl ?_ | refine rn_add rfl rfl (by omega) rfl rfl ?_ | refine rn_appO rfl rfl (by first | exact (List.length_map _).symm | rfl | (simp; done) | (simp; omega)) rfl rfl rfl (by decide) (by exact SrcR.own rfl rfl (by decide) (by first | exact List.length_map _ | exact (List.length_map _).symm | exact List.length_replicate | rfl | (simp; done) | omega | (simp; omega))) (by first | (simp; omega) | (simp; done)) (by first | (simp; omega) | (simp; done)) rfl rfl rfl ?_))
        rw [he]
        skip
        refine ⟨Z.length + 1, by omega, by omega, ?_⟩
        rw [hks, List.map_append]
        exact (FLe.conv [⟨101, some 101, 0, ⟨0, .own, 23, 1, [[.list 8 (l.map OpV.fv)]]⟩⟩, ⟨102, some 102, 0, ⟨0, .own, 33, 5, [[.int .i64 0, .int .i64 0, .int .i64 0, .nil, .nil]]⟩⟩, ⟨103, some 103, 0, ⟨0, .own, 33, 5, [[.int .i64 (cOf s), .int .i64 0, .int .i64 0, .nil, .nil]]⟩⟩, ⟨104, some 85, 0 + 1, ⟨0, .own, 44, 2, Z.map edf ++ [(a, b)].map edf⟩⟩] (by simp) (by simp) rfl (by repeat (first | exact GhOk.nil | refine GhOk.low rfl ?_ | refine GhOk.same rfl ?_ | refine GhOk.bump (Nat.lt_succ_self _) ?_)) (by repeat (first | exact EntsOk.nil | refine EntsOk.old rfl (by decide) (by first | rfl | (simp; done)) ?_)) (by repeat (first | exact SlC.nil | refine SlC.cons (.plain rfl rfl (by first | rfl | (simp; done))) ?_ | refine SlC.cons (.ptr rfl (.head _) rfl) ?_ | refine SlC.cons (.ptr rfl (.tail _ (.head _)) rfl) ?_ | refine SlC.cons (.ptr rfl (.tail _ (.tail _ (.head _))) rfl) ?_ | refine SlC.cons (.own rfl (.tail _ (.tail _ (.tail _ (.head _)))) rfl (by first | rfl | (simp; done))) ?_)))
      · have hZ := hlast (by simp at hc; omega)
        subst hZ
        clear hc hlast hks hk
        (repeat (first | refine FW.seq ?_ | refine FW.region ?_ | refine FW.exit ?_ | refine rn_loadP rfl rfl rfl rfl rfl (by simp; done) rfl rfl rfl rfl rfl ?_ | refine rn_move rfl rfl rfl ?_ | refine rn_lenList rfl rfl (by first | exact List.length_map _ | rfl | (simp; done)) rfl rfl ?_))
        rw [hn]
        refine RunN.le ?_ (FLe.share 14 rfl rfl (by simp))
        skip
        refine rn_callS hC (by repeat (first | exact ArgsR.nil | refine ArgsR.cons (by first | exact ArgR.plain rfl rfl | exact ArgR.own rfl rfl (by decide) (by first | exact (fun _ => rfl) | (intro h; cases h)) (by first | rfl | (simp; done) | (congr 1; omega) | (simp; omega) | (simp [List.take_of_length_le]; done) | (refine congrArg (FV.int .i64) ?_; omega))) ?_)) rfl rfl ?_
        (repeat (first | refine FW.seq ?_ | refine FW.region ?_ | refine RunN.nil ?_ | refine rn_assign rfl rfl rfl ?_ | refine rn_move rfl rfl rfl ?_))
        cases hcc : cyc22 l s with
        | nil =>
          have hRR : R = ⟨cOf s, 0, 0, ord22 l s, []⟩ := by rw [← hRf]; unfold serV; rw [hth]; dsimp only; rw [if_pos hcc]
          rw [show nilL (([] : List Int).map intf) = .nil from rfl]
          have hO := (no_cyc_topo hin2 (by rw [← hcr]; exact hcc)).2
          have hTL := topo_specL n (prs X) (by omega) (by omega) hin2 hO.len
          subst hRR
          rw [hor]
          generalize topoEnd n (prs X) = T at hO hTL
          have hTl := hO.len
          have hkp : (T.filter fun x => incl22 (nth l x.toNat)) = keepL (fun x => !incl22 (nth l x.toNat)) T := by unfold keepL; simp
          rw [hkp]
          have hD := deleteFunc_specL 1 T 37 [capL l] (fun x => !incl22 (nth l x.toNat)) (by omega) (fun x hx => by
            have hr := hO.rng x hx
            have := check1_spec l x.toNat (by omega)
            rw [show ((x.toNat : Nat) : Int) = x by omega] at this
            exact this)
          rw [hTl] at hD
          have hKl := keepL_len (fun x => !incl22 (nth l x.toNat)) T T.length
          rw [List.take_length, hTl] at hKl
          generalize keepL (fun x => !incl22 (nth l x.toNat)) T = K at hD hKl
          clear hRf hkp hcr hor hcy hC hes
          (repeat (first | refine FW.seq ?_ | refine FW.region ?_ | refine FW.skip ?_ | refine FW.condF rfl ?_ | refine RunN.nil ?_ | refine rn_loadP rfl rfl rfl rfl rfl (by simp; done) rfl rfl rfl rfl rfl ?_ | refine rn_move rfl rfl rfl ?_ | refine rn_lenList rfl rfl (by first | exact List.length_map _ | rfl | (simp; done)) rfl rfl ?_ | refine rn_neNilN rfl rfl rfl rfl rfl ?_))
          rw [hn]
          refine rn_callL hTL [(4000, 105)] rfl LendOk.nil rfl rfl rfl rfl rfl rfl ?_
          rintro _ ob' ⟨rfl, h4⟩
          refine After.one [(105, ⟨1, .own, 3, 1, T.map intf⟩)] (.wrap .tup [.own 105 1 0 n, .bool true]) rfl (by show [(105, FObj.ren _ (look {} ob' 4000))] = _; rw [h4]; rfl) ?_
          clear h4 ob' hTL
          (repeat (first | refine rn_move rfl rfl rfl ?_))
          refine rn_extractW rfl rfl rfl rfl rfl ?_
          refine rn_extractW rfl rfl rfl rfl rfl ?_
          (repeat (first | refine FW.seq ?_ | refine FW.region ?_ | refine RunN.nil ?_ | refine rn_assign rfl rfl rfl ?_ | refine rn_move rfl rfl rfl ?_))
          refine RunN.le ?_ (FLe.shareP 2 rfl rfl)
          (repeat (first | refine rn_makeFn1 rfl rfl rfl rfl ?_))
          refine rn_callL hD [(5000, 105)] rfl (LendOk.cons rfl rfl rfl LendOk.nil) rfl rfl rfl rfl rfl rfl ?_
          rintro _ ob' ⟨rfl, h4⟩
          obtain ⟨Ze, hZe⟩ : ∃ Ze, (K ++ List.replicate (n - K.length) 0).map intf = Ze := ⟨_, rfl⟩
          have hZt : (Ze.drop 0).take K.length = K.map intf := by rw [← hZe, List.drop_zero, List.map_append, List.take_left' (List.length_map _)]
          rw [hZe] at h4
          refine After.one [(105, ⟨1, .own, 3, 1, Ze⟩)] (.own 105 1 0 K.length) rfl (by show [(105, FObj.ren _ (look {} ob' 5000))] = _; rw [h4]; rfl) ?_
          clear h4 ob' hD
          refine RunN.le ?_ (FLe.shut (i := 105) rfl)
          refine RunN.le ?_ (FLe.list (d := 117) (i := 105) (f := .list 1 (K.map intf)) rfl rfl (by rw [hZt]))
          (repeat (first | refine FW.seq ?_ | refine FW.region ?_ | refine RunN.nil ?_ | refine rn_assign rfl rfl rfl ?_ | refine rn_loadPA rfl rfl rfl (by decide) rfl rfl (by simp; done) rfl rfl rfl rfl ?_ | refine rn_storeV rfl rfl rfl rfl rfl rfl rfl rfl rfl ?_ | refine rn_storeVA rfl rfl rfl rfl rfl rfl rfl rfl rfl ?_ | refine rn_fieldP rfl rfl rfl rfl rfl rfl (by decide) rfl rfl ?_))
          refine FW.ret ⟨.inl rfl, .sh (.cons (resv_cell rfl rfl rfl rfl rfl rfl (by decide)) (.cons (.tmp 5 rfl rfl) .nil)) ?_ rfl⟩
          rw [raw0]; rfl
        | cons c0 cs =>
          have hRR : R = ⟨cOf s, 5, (nth l (nth (cyc22 l s) 0).toNat).key, [], cycE l s (cyc22 l s) (cyc22 l s).length⟩ := by rw [← hRf]; unfold serV; rw [hth]; dsimp only; rw [if_neg (by rw [hcc]; simp)]
          rw [show nilL ((c0 :: cs).map intf) = .list 1 ((c0 :: cs).map intf) from rfl]
          have hne : cyc22 l s ≠ [] := by rw [hcc]; simp
          obtain ⟨a, b, ha, _, hal, _, _⟩ := cycE_ok hne (i := 0) (by rw [hcc]; simp)
          have hcl : (cyc22 l s).length ≤ n := by rw [hcr, ← cycle_eq hin2]; exact cycB_len hin2 (Nat.le_refl n)
          have hcy := (hcy hne (by omega)).sh_of_ow
          rw [ha, Int.toNat_natCast] at hRR
          subst hRR
          obtain ⟨Y, hY⟩ : ∃ Y, cycE l s (cyc22 l s) (cyc22 l s).length = Y := ⟨_, rfl⟩
          rw [hY] at hcy ⊢
          have hc0 : 0 < (cyc22 l s).length := by rw [hcc]; simp
          rw [← hcc]
          obtain ⟨C, hCC⟩ : ∃ C, cyc22 l s = C := ⟨_, rfl⟩
          rw [hCC] at hcy ha hc0 ⊢
          clear hRf hcr hor hC hes hY hcc hcl
          skip
          refine rn_neNilL rfl rfl rfl (by intro e; rw [List.map_eq_nil_iff] at e; subst e; cases hc0) rfl rfl ?_
          (repeat (first | refine FW.seq ?_ | refine FW.condT rfl ?_ | refine RunN.nil ?_ | refine FW.draw ?_ | refine rd_loadE rfl rfl rfl (by first | (simp; omega) | (simp; done)) (by first | exact getD_map (by omega) | rfl) rfl rfl rfl rfl ?_ | refine rd_loadP rfl rfl rfl rfl rfl (by first | (simp; omega) | (simp; done)) (by first | exact getD_map (by omega) | rfl) rfl rfl rfl rfl ?_ | refine rd_move rfl rfl rfl ?_ | refine rd_indexL rfl rfl rfl rfl rfl rfl (by first | (simp; omega) | (simp; done)) rfl rfl ?_))
          rw [ha]
          (repeat (first | refine rd_loadE rfl rfl rfl (by simp; omega) (by first | exact getD_map (by omega) | rfl) rfl rfl rfl rfl ?_ | refine rd_move rfl rfl rfl ?_ | refine rd_fieldE rfl rfl rfl rfl rfl rfl rfl ?_ | refine rd_indexL rfl rfl rfl rfl rfl rfl (by simp; omega) rfl rfl ?_))
          refine rd_callS hcy (by repeat (first | exact ArgsR.nil | refine ArgsR.cons (by exact ArgR.plain rfl rfl) ?_)) rfl rfl ?_
          (repeat (first | refine RunD.nil ?_ | refine rd_storeV rfl rfl rfl rfl rfl rfl rfl rfl rfl ?_ | refine rd_fieldP rfl rfl rfl rfl rfl rfl (by decide) rfl rfl ?_))
          refine ⟨by kernel_rfl, ?_⟩
          (repeat (first | refine FW.seq ?_ | refine FW.region ?_ | refine RunN.nil ?_ | refine rn_assign rfl rfl rfl ?_ | refine rn_loadPA rfl rfl rfl (by decide) rfl rfl (by simp; done) rfl rfl rfl rfl ?_ | refine rn_storeVA rfl rfl rfl rfl rfl rfl rfl rfl rfl ?_))
          refine FW.ret ⟨.inl rfl, .sh (.cons (resv_cell rfl rfl rfl rfl rfl rfl (by decide)) (.cons (.tmp 5 rfl rfl) .nil)) ?_ rfl⟩
          rw [raw5]; rfl
end Go.Proofs.Ytfegkbmnclhljaa
