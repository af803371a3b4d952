/-
  serial.writers, at plain values.
-/
import Derived.Test.YtfegkbmnclhljaaZG
import Derived.Test.YtfegkbmnclhljaaZSerCyc
import Derived.Test.YtfegkbmnclhljaaZKeyTwo
namespace Go.Proofs.Ytfegkbmnclhljaa
set_option linter.unusedVariables false
open Go.RowKit

theorem keyedS : Maps.Keyed Try.prog 70 := Maps.Keyed.of_law (deep_law_laid laid_ok (m := 2) (by omega) (of_decide_eq_true (by kernel_rfl)) (by kernel_rfl) (by kernel_rfl))
theorem keyFS {a b : Int} (ha : I64 a) (hb : I64 b) : KeyF Try.prog 70 (kfOf a b) :=
  ⟨rfl, keyOf_two (i := 3) (fs := structOf Try.prog 70) (by kernel_rfl) (by kernel_rfl) (by kernel_rfl) (by kernel_rfl) (by kernel_rfl) (by kernel_rfl) (by kernel_rfl) (Try.prog.types.size - 1) (by kernel_rfl) (lit_wf ha) (lit_wf hb)⟩
def wrRows (l : List OpV) (i : Nat) : List (List FV) := ((List.range i).filter fun j => decide ((nth l j).k = 2)).map fun j => [kfOf (nth l j).key (nth l j).arg, .int .i64 (j : Int)]
theorem wrRows_succ (l : List OpV) (i : Nat) : wrRows l (i + 1) = wrRows l i ++ if (nth l i).k = 2 then [[kfOf (nth l i).key (nth l i).arg, .int .i64 (i : Int)]] else [] := by
  unfold wrRows
  rw [List.range_succ, List.filter_append, List.map_append]
  congr 1
  by_cases h : (nth l i).k = 2 <;> simp [h]
theorem wrRows_key {l : List OpV} {i : Nat} (hi : i ≤ l.length) (hin : ∀ o ∈ l, OpIn o) : ∀ row ∈ wrRows l i, ∀ kf, row.head? = some kf → KeyF Try.prog 70 kf := fun row hr kf hk => by
  obtain ⟨j, hj, rfl⟩ := List.mem_map.1 hr
  have hj' : j < i := by simpa using (List.mem_filter.1 hj).1
  have ho := hin _ (nth_mem (show j < l.length by omega))
  injection hk with hk
  subst hk
  exact keyFS ho.2.2.1 ho.2.2.2.1
def wrIs (l : List OpV) (i : Nat) (a b : Int) : Option Nat := firstN (fun j => decide ((nth l j).k = 2) && decide ((nth l j).key = a) && decide ((nth l j).arg = b)) i 0
def wrV (l : List OpV) (i : Nat) (a b : Int) : Int := match wrIs l i a b with | some j => j | none => 0
theorem wrIs_some {l : List OpV} {i j : Nat} {a b : Int} (h : wrIs l i a b = some j) : j < i ∧ (nth l j).k = 2 ∧ (nth l j).key = a ∧ (nth l j).arg = b := by
  obtain ⟨_, h2, h3⟩ := firstN_some h
  simp only [Bool.and_eq_true, decide_eq_true_eq] at h3
  exact ⟨by omega, h3.1.1, h3.1.2, h3.2⟩
theorem wrIs_none {l : List OpV} {i : Nat} {a b : Int} (h : wrIs l i a b = none) : ∀ j, j < i → ¬ ((nth l j).k = 2 ∧ (nth l j).key = a ∧ (nth l j).arg = b) := fun j hj hc => by
  have := firstN_none h j (Nat.zero_le _) (by omega)
  simp [hc.1, hc.2.1, hc.2.2] at this
theorem wrRows_no {l : List OpV} {i : Nat} {a b : Int} (h : wrIs l i a b = none) : ∀ row ∈ wrRows l i, row.head? ≠ some (kfOf a b) := fun row hr he => by
  obtain ⟨j, hj, rfl⟩ := List.mem_map.1 hr
  obtain ⟨h1, h2⟩ := List.mem_filter.1 hj
  injection he with he
  obtain ⟨e1, e2⟩ := kfOf_inj he
  exact wrIs_none h j (by simpa using h1) ⟨by simpa using h2, e1, e2⟩
theorem look_wr (l : List OpV) (i : Nat) (a b : Int) : MLook (wrRows l i) (kfOf a b) (.int .i64 0) (.int .i64 (wrV l i a b)) (wrIs l i a b).isSome := by
  unfold wrV
  cases h : wrIs l i a b with
  | none => exact .inr ⟨rfl, rfl, wrRows_no h⟩
  | some j =>
    obtain ⟨h1, h2, h3, h4⟩ := wrIs_some h
    exact .inl ⟨rfl, List.mem_map.2 ⟨j, List.mem_filter.2 ⟨by simpa using h1, by simpa using h2⟩, by rw [h3, h4]⟩⟩
theorem wrIs_writ {l : List OpV} {a b : Int} : (wrIs l l.length a b).isSome = writB l a b := by
  cases h : wrIs l l.length a b with
  | none =>
    cases hw : writB l a b with
    | false => rfl
    | true =>
      obtain ⟨w, h1, h2⟩ := writB_iff.1 hw
      exact absurd h2 (wrIs_none h w h1)
  | some j =>
    obtain ⟨h1, h2⟩ := wrIs_some h
    exact (writB_iff.2 ⟨j, h1, h2⟩).symm
theorem wrIs_take {l : List OpV} {i : Nat} (hi : i ≤ l.length) {a b : Int} : (wrIs l i a b).isSome = writB (l.take i) a b := by
  cases h : wrIs l i a b with
  | none =>
    cases hw : writB (l.take i) a b with
    | false => rfl
    | true =>
      obtain ⟨w, h1, h2⟩ := (take_writ hi).1 hw
      exact absurd h2 (wrIs_none h w h1)
  | some j =>
    obtain ⟨h1, h2⟩ := wrIs_some h
    exact ((take_writ hi).2 ⟨j, h1, h2⟩).symm
theorem pendAt_wr {l : List OpV} (hok : okTo l l.length = true) (i : Nat) : pendAt l i = match wrIs l l.length (nth l i).key (nth l i).res with | none => false | some j => (nth l i).done && !(nth l j).done := by
  have hu := (okTo_iff (Nat.le_refl _)).1 hok
  unfold pendAt
  cases h : wrIs l l.length (nth l i).key (nth l i).res with
  | none =>
    dsimp only
    have : (l.any fun o => decide (o.k = 2) && decide (o.key = (nth l i).key) && decide (o.arg = (nth l i).res) && !o.done) = false := by
      rw [List.any_eq_false]
      intro o ho
      obtain ⟨w, hw, rfl⟩ := List.getElem_of_mem ho
      rw [← nth_eq hw]
      have := wrIs_none h w hw
      simp only [Bool.and_eq_true, decide_eq_true_eq, not_and]
      intro hc
      exact absurd ⟨hc.1.1, hc.1.2, hc.2⟩ this
    rw [this, Bool.and_false]
  | some j =>
    dsimp only
    obtain ⟨h1, h2, h3, h4⟩ := wrIs_some h
    congr 1
    cases hd : (nth l j).done with
    | false =>
      rw [Bool.not_false, List.any_eq_true]
      exact ⟨_, nth_mem h1, by simp [h2, h3, h4, hd]⟩
    | true =>
      rw [Bool.not_true, List.any_eq_false]
      intro o ho
      obtain ⟨w, hw, rfl⟩ := List.getElem_of_mem ho
      rw [← nth_eq hw]
      intro hc
      simp only [Bool.and_eq_true, decide_eq_true_eq, Bool.not_eq_true'] at hc
      have : w = j := by
        rcases Nat.lt_trichotomy w j with hlt | e | hgt
        · exact absurd (hc.1.2.trans h4.symm) (hu.uniq w j hlt h1 hc.1.1.1 h2 (hc.1.1.2.trans h3.symm))
        · exact e
        · exact absurd (h4.trans hc.1.2.symm) (hu.uniq j w hgt hw h2 hc.1.1.1 (h3.trans hc.1.1.2.symm))
      subst this
      rw [hd] at hc
      exact absurd hc.2 (by decide)
def wM (l : List OpV) (b : Bool) : FV := if b = true then .smap (wrRows l l.length) else .undef
set_option maxHeartbeats 4000000 in
theorem sWriters_spec (l : List OpV) (hl : l.length ≤ 1000000000) (hin : ∀ o ∈ l, OpIn o) : Spec Try.prog 33 [.list 8 (l.map OpV.fv)] .sh (.tup [wM l (dom22 l), .bool (dom22 l)]) := by
  obtain ⟨n, hn⟩ : ∃ n, l.length = n := ⟨_, rfl⟩
  have hret : ∀ b, dom22 l = b → FV.tup [wM l (dom22 l), .bool (dom22 l)] = .tup [wM l b, .bool b] := fun b h => by rw [h]
  refine Spec.of_body (c := (cxOf Try.prog tyAt_ok mixed_ok 80)) ⟨Try.func33, rfl, Try.ntmps33, by kernel_rfl⟩ (by simp [FV.hand]) (by exact Nat.le_of_ble_eq_true rfl) rfl ?_
  change FW _ _ _ ⟨[(0, .list 8 (l.map OpV.fv))], []⟩
  (repeat (first | refine FW.seq ?_ | refine FW.region ?_ | refine FW.block ?_ | refine RunN.nil ?_ | refine rn_assign rfl rfl rfl ?_ | refine rn_makeMap rfl rfl rfl ?_ | refine rn_move rfl rfl rfl ?_ | refine rn_lenList rfl rfl (by exact List.length_map _) rfl rfl ?_))
  rw [hn]
  refine FW.loop (fun i : Nat => ⟨[(0, .list 8 (l.map OpV.fv)), (4, .omap 100 0), (15, .list 8 (l.map OpV.fv)), (16, .int .i64 n), (17, .int .i64 i)], [(100, ⟨0, .mapo, 65, 0, wrRows l i⟩)]⟩) (fun i => i ≤ n ∧ okTo l i = true) (fun i => n - i) 0 ⟨Nat.zero_le _, rfl⟩
    (FLe.conv [⟨100, some 14, 1, ⟨0, .mapo, 65, 0, []⟩⟩] (by simp) (by simp) rfl (by repeat (first | exact GhOk.nil | refine GhOk.low rfl ?_ | refine GhOk.same rfl ?_ | refine GhOk.bump (Nat.lt_succ_self _) ?_)) (by repeat (first | exact EntsOk.nil | refine EntsOk.old rfl (by decide) rfl ?_)) (by repeat (first | exact SlC.nil | refine SlC.cons (.plain rfl rfl rfl) ?_ | refine SlC.cons (.omap rfl (.head _) rfl) ?_))) ?_
  rintro i ⟨hi, hok⟩
  have hwi := wrRows_key (l := l) (i := i) (by omega) hin
  have hws := wrRows_succ l i
  have hlk := look_wr l i
  have hno := fun a b h => wrRows_no (l := l) (i := i) (a := a) (b := b) h
  have hos := okTo_succ l i
  have htk := fun a b => wrIs_take (l := l) (i := i) (show i ≤ l.length by omega) (a := a) (b := b)
  have hbad : ∀ j, j ≤ n → okTo l j = false → dom22 l = false := fun j hj h => by
    unfold dom22
    have : okTo l l.length = false := by
      unfold okTo at h ⊢
      rw [List.all_eq_false] at h ⊢
      obtain ⟨x, hx, hp⟩ := h
      exact ⟨x, List.mem_range.2 (by have := List.mem_range.1 hx; omega), hp⟩
    rw [this]; rfl
  generalize hR : wrRows l i = R at hwi hws hlk hno
  (repeat (first | refine FW.seq ?_ | refine FW.region ?_ | refine RunN.nil ?_ | refine rn_lss rfl rfl rfl rfl ?_))
  refine FW.cond rfl (fun h => ?_) (fun h => ?_)
  · have hlt : i < n := by simpa using h
    clear h
    have hlt2 : i < l.length := by omega
    have ho := hin _ (nth_mem hlt2)
    have hkf := keyFS ho.2.2.1 ho.2.2.2.1
    have hbad := hbad (i + 1) (by omega)
    obtain ⟨o, hoo⟩ : ∃ o, nth l i = o := ⟨_, rfl⟩
    have hoa : okAt l i = (okK o && !(decide (o.k = 2) && (wrIs l i o.key o.arg).isSome)) := by unfold okAt; rw [hoo, htk]
    rw [hoo] at ho hkf hws
    rw [hok, Bool.true_and, hoa] at hos
    have hlk := hlk o.key o.arg
    have hno := hno o.key o.arg
    clear htk hoa
    (repeat (first | refine FW.seq ?_ | refine FW.region ?_ | refine FW.block ?_ | refine FW.skip ?_ | refine RunN.nil ?_ | refine rn_assign rfl rfl rfl ?_ | refine rn_move rfl rfl rfl ?_ | refine rn_indexL rfl rfl rfl rfl rfl rfl (by first | (simp; omega) | (simp; done)) rfl rfl ?_ | refine rn_loadP rfl rfl rfl rfl rfl (by first | (simp; omega) | (simp; done)) (by first | exact getD_map (by omega) | rfl) rfl rfl rfl rfl ?_ | refine rn_loadEA rfl rfl rfl (by decide) (by first | (simp; omega) | (simp; done)) (by first | exact getD_map (by omega) | rfl) rfl rfl rfl ?_ | refine rn_alloc rfl rfl rfl rfl rfl rfl rfl ?_ | refine rn_storeVA rfl rfl rfl rfl rfl rfl rfl rfl rfl ?_ | refine rn_fieldP rfl rfl rfl rfl rfl rfl (by decide) rfl rfl ?_ | refine rn_eql rfl rfl rfl rfl ?_))
    rw [hoo]
    skip
    refine FW.cond rfl (fun h0 => ?_) (fun h0 => ?_)
    · have h0 : o.k = 0 := by simpa using h0
      rw [if_neg (by omega), List.append_nil] at hws
      (repeat (first | refine FW.region ?_ | refine FW.exit ?_ | refine RunN.nil ?_ | refine rn_move rfl rfl rfl ?_ | refine rn_add rfl rfl (by omega) rfl rfl ?_))
      refine ⟨i + 1, ⟨by omega, by rw [hos]; simp [okK, h0]⟩, by omega, ?_⟩
      rw [hws]
      exact (FLe.conv [⟨100, some 100, 0, ⟨0, .mapo, 65, 0, R⟩⟩] (by simp) (by simp) rfl (by repeat (first | exact GhOk.nil | refine GhOk.low rfl ?_ | refine GhOk.same rfl ?_ | refine GhOk.bump (Nat.lt_succ_self _) ?_)) (by repeat (first | exact EntsOk.nil | refine EntsOk.old rfl (by decide) rfl ?_)) (by repeat (first | exact SlC.nil | refine SlC.cons (.plain rfl rfl rfl) ?_ | refine SlC.cons (.omap rfl (.head _) rfl) ?_)))
    · have h0 : ¬ o.k = 0 := by simpa using h0
      (repeat (first | refine FW.seq ?_ | refine FW.region ?_ | refine RunN.nil ?_ | refine rn_assign rfl rfl rfl ?_ | refine rn_eql rfl rfl rfl rfl ?_))
      refine FW.cond rfl (fun h2 => ?_) (fun h2 => ?_)
      · have h2 : o.k = 2 := by simpa using h2
        rw [if_pos h2] at hws
        (repeat (first | refine FW.seq ?_ | refine FW.region ?_ | refine FW.skip ?_ | refine RunN.nil ?_ | refine rn_move rfl rfl rfl ?_ | refine rn_loadP rfl rfl rfl rfl rfl (by simp; done) rfl rfl rfl rfl rfl ?_ | refine rn_loadPA rfl rfl rfl (by decide) rfl rfl (by simp; done) rfl rfl rfl rfl ?_ | refine rn_alloc rfl rfl rfl rfl rfl rfl rfl ?_ | refine rn_storeVA rfl rfl rfl rfl rfl rfl rfl rfl rfl ?_ | refine rn_fieldP rfl rfl rfl rfl rfl rfl (by decide) rfl rfl ?_ | refine rn_buildK rfl rfl rfl rfl ?_ | refine FillK.nil ?_ | refine FillK.one rfl rfl rfl rfl rfl ?_))
        refine rn_lookM2 (e := 3) keyedS hwi hkf hlk rfl rfl (by decide) rfl rfl rfl rfl rfl rfl ?_
        (repeat (first | refine FW.seq ?_ | refine FW.region ?_ | refine RunN.nil ?_ | refine rn_assign rfl rfl rfl ?_ | refine rn_move rfl rfl rfl ?_ | refine rn_extract rfl rfl rfl rfl rfl ?_))
        cases hf : wrIs l i o.key o.arg with
        | some j =>
          rw [hf] at hos
          (repeat (first | refine FW.seq ?_ | refine FW.region ?_ | refine FW.condT rfl ?_ | refine RunN.nil ?_ | refine rn_assign rfl rfl rfl ?_ | refine rn_pickT rfl rfl rfl rfl ?_ | refine rn_skip rfl rfl ⟨_, _, rfl, rfl, rfl⟩ ?_))
          have hd := hbad (by rw [hos]; simp [h2])
          rw [hret false hd]
          exact FW.ret ⟨.inl rfl, .sh (.cons (.tmp 2 rfl rfl) (.cons (.tmp 3 rfl rfl) .nil)) rfl rfl⟩
        | none =>
          rw [hf] at hos
          have hno := hno hf
          (repeat (first | refine RunN.nil ?_ | refine rn_pickF rfl rfl rfl rfl ?_ | refine rn_fieldP rfl rfl rfl rfl rfl rfl (by decide) rfl ⟨_, _, rfl, rfl, rfl⟩ ?_ | refine rn_loadP rfl rfl rfl rfl rfl (by simp; done) rfl rfl rfl rfl ⟨_, _, rfl, rfl, rfl⟩ ?_ | refine rn_eql rfl rfl rfl ⟨_, _, rfl, rfl, rfl⟩ ?_))
          refine FW.cond rfl (fun h4 => ?_) (fun h4 => ?_)
          · have h4 : o.arg = 0 := by simpa using h4
            (repeat (first | refine FW.seq ?_ | refine FW.region ?_ | refine RunN.nil ?_ | refine rn_assign rfl rfl rfl ?_))
            have hd := hbad (by rw [hos]; simp [okK, h2, h4])
            rw [hret false hd]
            exact FW.ret ⟨.inl rfl, .sh (.cons (.tmp 2 rfl rfl) (.cons (.tmp 3 rfl rfl) .nil)) rfl rfl⟩
          · have h4 : ¬ o.arg = 0 := by simpa using h4
            (repeat (first | refine FW.region ?_ | refine FW.skip ?_ | refine rn_move rfl rfl rfl ?_ | refine rn_loadPA rfl rfl rfl (by decide) rfl rfl (by simp; done) rfl rfl rfl rfl ?_))
            refine rn_update keyedS hwi hkf (.inr ⟨hno, rfl⟩) rfl rfl rfl rfl rfl rfl rfl ?_
            (repeat (first | refine FW.region ?_ | refine RunN.nil ?_ | refine rn_move rfl rfl rfl ?_ | refine rn_add rfl rfl (by omega) rfl rfl ?_))
            refine ⟨i + 1, ⟨by omega, by rw [hos]; simp [okK, h2, h4]⟩, by omega, ?_⟩
            rw [hws]
            exact (FLe.conv [⟨100, some 100, 0, ⟨0, .mapo, 65, 0, R ++ [[kfOf o.key o.arg, .int .i64 (i : Int)]]⟩⟩] (by simp) (by simp) rfl (by repeat (first | exact GhOk.nil | refine GhOk.low rfl ?_ | refine GhOk.same rfl ?_ | refine GhOk.bump (Nat.lt_succ_self _) ?_)) (by repeat (first | exact EntsOk.nil | refine EntsOk.old rfl (by decide) rfl ?_)) (by repeat (first | exact SlC.nil | refine SlC.cons (.plain rfl rfl rfl) ?_ | refine SlC.cons (.omap rfl (.head _) rfl) ?_)))
      · have h2 : ¬ o.k = 2 := by simpa using h2
        (repeat (first | refine FW.seq ?_ | refine FW.region ?_ | refine RunN.nil ?_ | refine rn_assign rfl rfl rfl ?_))
        have hd := hbad (by rw [hos]; simp [okK, h0, h2])
        rw [hret false hd]
        exact FW.ret ⟨.inl rfl, .sh (.cons (.tmp 2 rfl rfl) (.cons (.tmp 3 rfl rfl) .nil)) rfl rfl⟩
  · obtain rfl : i = n := by simp at h; omega
    subst hn
    have hpw := pendAt_wr hok
    have hpn : ∀ j, j ≤ l.length → pendTo l j = true → dom22 l = false := fun j hj h => by
      unfold dom22
      have : pendTo l l.length = true := by
        unfold pendTo at h ⊢
        rw [List.any_eq_true] at h ⊢
        obtain ⟨x, hx, hp⟩ := h
        exact ⟨x, List.mem_range.2 (by have := List.mem_range.1 hx; omega), hp⟩
      rw [this]; simp
    have hyes : pendTo l l.length = false → dom22 l = true := fun h => by unfold dom22; rw [hok, h]; rfl
    have hgl : R = wrRows l l.length := hR.symm
    obtain ⟨n, hn⟩ : ∃ n, n = l.length := ⟨_, rfl⟩
    rw [← hn] at hlk hpn hyes hpw hgl ⊢
    (repeat (first | refine FW.seq ?_ | refine FW.region ?_ | refine FW.block ?_ | refine FW.exit ?_ | refine RunN.nil ?_ | refine rn_move rfl rfl rfl ?_ | refine rn_lenList rfl rfl (by exact List.length_map _) rfl rfl ?_))
    rw [← hn]
    refine FW.loop (fun i : Nat => ⟨[(0, .list 8 (l.map OpV.fv)), (4, .omap 100 0), (49, .list 8 (l.map OpV.fv)), (50, .int .i64 n), (51, .int .i64 i)], [(100, ⟨0, .mapo, 65, 0, R⟩)]⟩) (fun i => i ≤ n ∧ pendTo l i = false) (fun i => n - i) 0 ⟨Nat.zero_le _, rfl⟩
      (FLe.conv [⟨100, some 100, 0, ⟨0, .mapo, 65, 0, R⟩⟩] (by simp) (by simp) rfl (by repeat (first | exact GhOk.nil | refine GhOk.low rfl ?_ | refine GhOk.same rfl ?_ | refine GhOk.bump (Nat.lt_succ_self _) ?_)) (by repeat (first | exact EntsOk.nil | refine EntsOk.old rfl (by decide) rfl ?_)) (by repeat (first | exact SlC.nil | refine SlC.cons (.plain rfl rfl rfl) ?_ | refine SlC.cons (.omap rfl (.head _) rfl) ?_))) ?_
    rintro i ⟨hi, hpd⟩
    have hps := pendTo_succ l i
    rw [hpd, Bool.false_or, hpw] at hps
    (repeat (first | refine FW.seq ?_ | refine FW.region ?_ | refine RunN.nil ?_ | refine rn_lss rfl rfl rfl rfl ?_))
    refine FW.cond rfl (fun h => ?_) (fun h => ?_)
    · have hlt : i < n := by simpa using h
      clear h
      have hlt2 : i < l.length := by omega
      have ho := hin _ (nth_mem hlt2)
      have hkf := keyFS ho.2.2.1 ho.2.2.2.2.1
      have hpn := hpn (i + 1) (by omega)
      obtain ⟨o, hoo⟩ : ∃ o, nth l i = o := ⟨_, rfl⟩
      rw [hoo] at hkf hps
      have hlk := hlk o.key o.res
      (repeat (first | refine FW.seq ?_ | refine FW.region ?_ | refine FW.block ?_ | refine FW.skip ?_ | refine RunN.nil ?_ | refine rn_move rfl rfl rfl ?_ | refine rn_indexL rfl rfl rfl rfl rfl rfl (by first | (simp; omega) | (simp; done)) rfl rfl ?_ | refine rn_loadP rfl rfl rfl rfl rfl (by first | (simp; omega) | (simp; done)) (by first | exact getD_map (by omega) | rfl) rfl rfl rfl rfl ?_ | refine rn_loadEA rfl rfl rfl (by decide) (by first | (simp; omega) | (simp; done)) (by first | exact getD_map (by omega) | rfl) rfl rfl rfl ?_ | refine rn_alloc rfl rfl rfl rfl rfl rfl rfl ?_ | refine rn_storeVA rfl rfl rfl rfl rfl rfl rfl rfl rfl ?_ | refine rn_fieldP rfl rfl rfl rfl rfl rfl (by decide) rfl rfl ?_ | refine rn_buildK rfl rfl rfl rfl ?_ | refine FillK.nil ?_ | refine FillK.one rfl rfl rfl rfl rfl ?_))
      rw [hoo]
      skip
      refine rn_lookM2 (e := 3) keyedS hwi hkf hlk rfl rfl (by decide) rfl rfl rfl rfl rfl rfl ?_
      (repeat (first | refine FW.seq ?_ | refine FW.region ?_ | refine RunN.nil ?_ | refine rn_assign rfl rfl rfl ?_ | refine rn_move rfl rfl rfl ?_ | refine rn_extract rfl rfl rfl rfl rfl ?_))
      cases hf : wrIs l n o.key o.res with
      | none =>
        rw [hf] at hps
        (repeat (first | refine FW.region ?_ | refine FW.skip ?_ | refine FW.condF rfl ?_ | refine RunN.nil ?_ | refine rn_move rfl rfl rfl ?_ | refine rn_pickF rfl rfl rfl rfl ?_ | refine rn_add rfl rfl (by omega) rfl rfl ?_ | refine rn_skip rfl rfl ⟨_, _, rfl, rfl, rfl⟩ ?_))
        refine ⟨i + 1, ⟨by omega, hps⟩, by omega, ?_⟩
        exact (FLe.conv [⟨100, some 100, 0, ⟨0, .mapo, 65, 0, R⟩⟩] (by simp) (by simp) rfl (by repeat (first | exact GhOk.nil | refine GhOk.low rfl ?_ | refine GhOk.same rfl ?_ | refine GhOk.bump (Nat.lt_succ_self _) ?_)) (by repeat (first | exact EntsOk.nil | refine EntsOk.old rfl (by decide) rfl ?_)) (by repeat (first | exact SlC.nil | refine SlC.cons (.plain rfl rfl rfl) ?_ | refine SlC.cons (.omap rfl (.head _) rfl) ?_)))
      | some j =>
        rw [hf] at hps
        dsimp only at hps
        have hjl : j < l.length := by have := (wrIs_some hf).1; omega
        have hwv : wrV l n o.key o.res = j := by unfold wrV; rw [hf]
        rw [hwv]
        (repeat (first | refine rn_move rfl rfl rfl ?_ | refine rn_pickT rfl rfl rfl rfl ?_ | refine rn_fieldP rfl rfl rfl rfl rfl rfl (by decide) rfl ⟨_, _, rfl, rfl, rfl⟩ ?_ | refine rn_loadP rfl rfl rfl rfl rfl (by simp; done) rfl rfl rfl rfl ⟨_, _, rfl, rfl, rfl⟩ ?_))
        cases hd : o.done with
        | false =>
          rw [hd, Bool.false_and] at hps
          (repeat (first | refine FW.region ?_ | refine FW.skip ?_ | refine FW.condF rfl ?_ | refine RunN.nil ?_ | refine rn_move rfl rfl rfl ?_ | refine rn_pickF rfl rfl rfl rfl ?_ | refine rn_add rfl rfl (by omega) rfl rfl ?_ | refine rn_skip rfl rfl ⟨_, _, rfl, rfl, rfl⟩ ?_))
          refine ⟨i + 1, ⟨by omega, hps⟩, by omega, ?_⟩
          exact (FLe.conv [⟨100, some 100, 0, ⟨0, .mapo, 65, 0, R⟩⟩] (by simp) (by simp) rfl (by repeat (first | exact GhOk.nil | refine GhOk.low rfl ?_ | refine GhOk.same rfl ?_ | refine GhOk.bump (Nat.lt_succ_self _) ?_)) (by repeat (first | exact EntsOk.nil | refine EntsOk.old rfl (by decide) rfl ?_)) (by repeat (first | exact SlC.nil | refine SlC.cons (.plain rfl rfl rfl) ?_ | refine SlC.cons (.omap rfl (.head _) rfl) ?_)))
        | true =>
          rw [hd, Bool.true_and] at hps
          (repeat (first | refine RunN.nil ?_ | refine rn_pickT rfl rfl rfl rfl ?_ | refine rn_fieldE rfl rfl rfl rfl rfl rfl ⟨_, _, rfl, rfl, rfl⟩ ?_ | refine rn_loadE rfl rfl rfl (by simp; omega) (by first | exact getD_map (by omega) | rfl) rfl rfl rfl ⟨_, _, rfl, rfl, rfl⟩ ?_ | refine rn_move rfl rfl ⟨_, _, rfl, rfl, rfl⟩ ?_ | refine rn_indexL rfl rfl rfl rfl rfl rfl (by simp; omega) rfl ⟨_, _, rfl, rfl, rfl⟩ ?_ | refine rn_not rfl rfl ⟨_, _, rfl, rfl, rfl⟩ ?_))
          cases hdj : (nth l j).done with
          | true =>
            rw [hdj] at hps
            (repeat (first | refine FW.region ?_ | refine FW.skip ?_ | refine FW.condF rfl ?_ | refine RunN.nil ?_ | refine rn_move rfl rfl rfl ?_ | refine rn_add rfl rfl (by omega) rfl rfl ?_))
            refine ⟨i + 1, ⟨by omega, hps⟩, by omega, ?_⟩
            exact (FLe.conv [⟨100, some 100, 0, ⟨0, .mapo, 65, 0, R⟩⟩] (by simp) (by simp) rfl (by repeat (first | exact GhOk.nil | refine GhOk.low rfl ?_ | refine GhOk.same rfl ?_ | refine GhOk.bump (Nat.lt_succ_self _) ?_)) (by repeat (first | exact EntsOk.nil | refine EntsOk.old rfl (by decide) rfl ?_)) (by repeat (first | exact SlC.nil | refine SlC.cons (.plain rfl rfl rfl) ?_ | refine SlC.cons (.omap rfl (.head _) rfl) ?_)))
          | false =>
            rw [hdj] at hps
            (repeat (first | refine FW.seq ?_ | refine FW.region ?_ | refine FW.condT rfl ?_ | refine RunN.nil ?_ | refine rn_assign rfl rfl rfl ?_))
            rw [hret false (hpn hps)]
            exact FW.ret ⟨.inl rfl, .sh (.cons (.tmp 2 rfl rfl) (.cons (.tmp 3 rfl rfl) .nil)) rfl rfl⟩
    · obtain rfl : i = n := by simp at h; omega
      (repeat (first | refine FW.seq ?_ | refine FW.region ?_ | refine FW.exit ?_ | refine RunN.nil ?_ | refine rn_assign rfl rfl rfl ?_ | refine rn_move rfl rfl rfl ?_))
      refine FW.le ?_ (FLe.shareMap 2 rfl rfl)
      rw [hret true (hyes hpd), hgl, hn]
      exact FW.ret ⟨.inl rfl, .sh (.cons (.tmp 2 rfl rfl) (.cons (.tmp 3 rfl rfl) .nil)) rfl rfl⟩
end Go.Proofs.Ytfegkbmnclhljaa
